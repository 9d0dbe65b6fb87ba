/-
  '==' of structs of plain cells.
-/
import Derived.Test.YtaiklblnfebdfaaX22
set_option linter.all false
namespace Go.Fx
open Go
section
variable {P : Program}
/-- '==' of two plain cells. -/
def scal : TypeDesc → Value → Value → Option Bool
  | .bool, .bool a, .bool b => some (a == b)
  | .int _, .int k a, .int k' b => if k = k' then some (a == b) else none
  | .string, .string a, .string b => some (a == b)
  | .float _, .float k a, .float k' b => if k = k' then some (Op.floatEq k a b) else none
  | .complex _, .complex k a b, .complex k' a' b' => if k = k' then some (Op.floatEq k a a' && Op.floatEq k b b') else none
  | _, _, _ => none

def eqFs (P : Program) (vs us : List Value) : List Field → Option Bool
  | [] => some true
  | f :: fs => if f.name = "_" then none else match P.underlying f.type, vs[f.offset]?, us[f.offset]? with
    | some d, some a, some b => match scal d a b, eqFs P vs us fs with
      | some r, some q => some (r && q)
      | _, _ => none
    | _, _, _ => none

theorem look_scal {t : TypeId} {d : TypeDesc} {n : Nat} {a b : Value} {r : Bool} (hd : P.underlying t = some d) (h : scal d a b = some r) : Sem.look P (Op.equalIn (n + 1) t a b) = some r ∧ d.isRow = false := by
  unfold scal at h
  split at h
  · refine ⟨?_, rfl⟩
    simp only [Option.some.injEq] at h; subst h
    unfold Op.equalIn
    simp [Sem.look, underlying, program, hd, Pure.pure, Bind.bind, Sem.bind]
  · rename_i k a k' b
    refine ⟨?_, rfl⟩
    simp only [Option.ite_none_right_eq_some, Option.some.injEq] at h
    obtain ⟨rfl, rfl⟩ := h
    unfold Op.equalIn
    simp [Sem.look, underlying, program, hd, Pure.pure, Bind.bind, Sem.bind]
  · refine ⟨?_, rfl⟩
    simp only [Option.some.injEq] at h; subst h
    unfold Op.equalIn
    simp [Sem.look, underlying, program, hd, Pure.pure, Bind.bind, Sem.bind]
  · refine ⟨?_, rfl⟩
    simp only [Option.ite_none_right_eq_some, Option.some.injEq] at h
    obtain ⟨rfl, rfl⟩ := h
    unfold Op.equalIn
    simp [Sem.look, underlying, program, hd, Pure.pure, Bind.bind, Sem.bind]
  · refine ⟨?_, rfl⟩
    simp only [Option.ite_none_right_eq_some, Option.some.injEq] at h
    obtain ⟨rfl, rfl⟩ := h
    unfold Op.equalIn
    simp [Sem.look, underlying, program, hd, Pure.pure, Bind.bind, Sem.bind]
  · simp at h

theorem look_part {t : TypeId} {d : TypeDesc} {cs : Array Value} {off : Nat} {a : Value} (hd : P.underlying t = some d) (hr : d.isRow = false) (h : cs[off]? = some a) : Sem.look P (part t cs off) = some a := by
  unfold part
  simp only [look_bind]
  have : Sem.look P (isAgg t) = some false := by
    unfold isAgg
    simp only [look_bind, underlying, program, Sem.look, hd, Option.bind_some]
    cases d <;> simp_all [TypeDesc.isRow, Sem.look, Pure.pure]
  rw [this]
  simp only [Option.bind_some, Bool.false_eq_true, if_false, h]
  rfl

def eqBody (d : Nat) (xs ys : Array Value) (f : Field) (_ : Option Bool × Unit) : Sem (ForInStep (Option Bool × Unit)) :=
  if f.name ≠ "_" then
    (part f.type xs f.offset).bind fun a => (part f.type ys f.offset).bind fun b => (Op.equalIn d f.type a b).bind fun r => if (!r) = true then Sem.pure (ForInStep.done (some false, ())) else Sem.pure (ForInStep.yield (none, ()))
  else Sem.pure (ForInStep.yield (none, ()))
def eqFin (s : Option Bool × Unit) : Sem Bool :=
  match s.1 with
  | some r => Sem.pure r
  | none => Sem.pure true

theorem look_fields {n : Nat} {vs us : List Value} : ∀ (l : List Field) (r : Bool), eqFs P vs us l = some r → Sem.look P ((forIn l ((none : Option Bool), ()) (eqBody (n + 1) vs.toArray us.toArray) : Sem (Option Bool × Unit)).bind eqFin) = some r
  | [], r, h => by
    simp only [eqFs, Option.some.injEq] at h; subst h
    rfl
  | f :: l, r, h => by
    simp only [eqFs] at h
    split at h
    · simp at h
    · rename_i hn
      split at h
      · rename_i d a b hd ha hb
        split at h
        · rename_i p q hp hq
          simp only [Option.some.injEq] at h; subst h
          obtain ⟨h1, h2⟩ := look_scal (n := n) hd hp
          have e1 : Sem.look P (part f.type vs.toArray f.offset) = some a := look_part hd h2 (by simpa using ha)
          have e2 : Sem.look P (part f.type us.toArray f.offset) = some b := look_part hd h2 (by simpa using hb)
          have hb0 : Sem.look P (eqBody (n + 1) vs.toArray us.toArray f (none, ())) = some (if (!p) = true then ForInStep.done (some false, ()) else ForInStep.yield (none, ())) := by
            unfold eqBody
            rw [if_pos hn]
            show Sem.look P (part f.type vs.toArray f.offset >>= fun a => part f.type us.toArray f.offset >>= fun b => Op.equalIn (n + 1) f.type a b >>= fun r => if (!r) = true then Sem.pure (ForInStep.done (some false, ())) else Sem.pure (ForInStep.yield (none, ()))) = _
            rw [look_bind, e1, Option.bind_some, look_bind, e2, Option.bind_some, look_bind, h1, Option.bind_some]
            cases p <;> rfl
          have ih := look_fields (n := n) l q hq
          show Sem.look P ((forIn (f :: l) ((none : Option Bool), ()) (eqBody (n + 1) vs.toArray us.toArray) : Sem (Option Bool × Unit)) >>= eqFin) = _
          rw [List.forIn_cons, look_bind, look_bind, hb0, Option.bind_some]
          cases p with
          | false => rfl
          | true =>
            simp only [Bool.not_true, Bool.false_eq_true, if_false, Bool.true_and]
            rw [← look_bind]; exact ih
        · simp at h
      · simp at h

theorem look_eqS {t : TypeId} {fs : Array Field} {vs us : List Value} {r : Bool} (hu : P.underlying t = some (.struct fs)) (hs : P.stoodInHeld t = false) (h : eqFs P vs us fs.toList = some r) : Sem.look P (Op.equal t (.agg vs.toArray) (.agg us.toArray)) = some r := by
  have := look_fields (n := 9998) fs.toList r h
  rw [show 9998 + 1 = 9999 from rfl] at this
  show Sem.look P (Op.equalIn (9999 + 1) t (.agg vs.toArray) (.agg us.toArray)) = some r
  unfold Op.equalIn
  simp only [underlying, program, Bind.bind, Sem.bind, Sem.look, hu, Pure.pure, hs, Bool.false_eq_true, if_false, ← Array.forIn_toList]
  refine Eq.trans (congrArg (Sem.look P) ?_) this
  congr 1
  · funext s
    rcases s with ⟨_ | r, _⟩ <;> rfl

theorem bin_eqlS {t : TypeId} {fs : Array Field} {xs ys : List D} {vs us : List Value} {r : Bool} (hu : P.underlying t = some (.struct fs)) (hs : P.stoodInHeld t = false) (hg : P.eqGuardType P.depth t = false)
    (hx : D.vals xs = some vs) (hy : D.vals ys = some us) (h : eqFs P vs us fs.toList = some r) : binD P .eql t (.agg xs) (.agg ys) = some (.pl (.bool r)) ∧ binD P .neq t (.agg xs) (.agg ys) = some (.pl (.bool (!r))) := by
  have he := look_eqS hu hs h
  have g : ∀ op, Sem.look P (eqGuard op t (.tmp 0) (.tmp 0) (.agg vs.toArray) (.agg us.toArray)) = some () := by
    intro op
    have e : ∀ (K : Sem Unit), Sem.look P (Sem.program fun p => Sem.program fun q => if !p.eqGuardType q.depth t then Pure.pure () else K) = some () := by
      intro K; simp only [Sem.look, hg]; rfl
    cases op <;> first | rfl | exact e _
  refine ⟨?_, ?_⟩
  · simp only [binD, hx, hy]
    rw [look_bind, g, Option.bind_some]
    simp only [binOp, look_bind, he, Option.bind_some]; rfl
  · simp only [binD, hx, hy]
    rw [look_bind, g, Option.bind_some]
    simp only [binOp, look_bind, he, Option.bind_some]
    cases r <;> rfl
end
end Go.Fx

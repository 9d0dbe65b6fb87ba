/-
  Layer 7: what types.Of says of parts put together. Plain.
-/
import Derived.Test.YthbainhddfajfaaLi
set_option linter.all false
set_option maxRecDepth 100000
set_option maxHeartbeats 4000000
namespace Go.Fx.Ythbainhddfajfaa
open Go Go.Fx Go.Proofs Go.Fx.Flt
mutual
theorem want_one (P : List Fn) : ∀ (e : Ex) (env : List Pm) (t u : Int), Sh e → wantL P env e t = [] → wantL P env e u = [] → t = u
  | .mk op n tl ty z args p, env, t, u, hs, h1, h2 => by
    unfold wantL at h1 h2
    unfold Sh at hs
    rw [List.append_eq_nil_iff] at h1 h2
    by_cases hc : ctlI op
    · have h7 : ¬ op = 7 := by unfold ctlI at hc; omega
      rw [if_neg (fun g => h7 g.1)] at h1 h2
      have hl : 2 ≤ args.length := by
        have := hs.1
        unfold shape at this
        unfold ctlI at hc
        omega
      exact want_two P args env op n tl ty t u hc hl hs.2 h1.1 h2.1
    · have a1 := h1.2
      have a2 := h2.2
      by_cases e1 : ownI P env op n ty args.length = t
      · by_cases e2 : ownI P env op n ty args.length = u
        · rw [← e1, ← e2]
        · rw [if_neg (fun g => g.elim hc e2)] at a2; simp at a2
      · rw [if_neg (fun g => g.elim hc e1)] at a1; simp at a1
theorem want_two (P : List Fn) : ∀ (l : List Ex) (env : List Pm) (op : Int) (n tl : List UInt8) (ty t u : Int), ctlI op → 2 ≤ l.length → Shs l → wantsL P env op n tl ty t 0 l = [] → wantsL P env op n tl ty u 0 l = [] → t = u
  | [], env, op, n, tl, ty, t, u, hc, hl, hs, h1, h2 => by simp at hl
  | [a], env, op, n, tl, ty, t, u, hc, hl, hs, h1, h2 => by simp at hl
  | a :: b :: r, env, op, n, tl, ty, t, u, hc, hl, hs, h1, h2 => by
    simp only [wantsL, List.append_eq_nil_iff, Nat.zero_add] at h1 h2
    unfold Shs at hs
    have hs2 := hs.2
    unfold Shs at hs2
    have hw : ∀ t, wantedI P op n ty 1 t = t := fun t => by
      unfold ctlI at hc
      unfold wantedI
      rcases hc with rfl | rfl | rfl | rfl <;> simp
    rw [hw] at h1 h2
    exact want_one P b _ t u hs2.1 h1.2.1 h2.2.1
end
theorem ofF_ok {P : List Fn} {env : List Pm} {e : Ex} {u : Int} (hs : Sh e) (hu : tyOk u) : ofF P env e = (u, 0) ↔ wantL P env e u = [] := by
  have h := fun t => want_one P e env t u hs
  unfold ofF ofL ofL ofL ofL
  constructor
  · intro g
    split at g
    · rename_i k; simp only [Prod.mk.injEq, and_true] at g; rw [← g]; exact k
    · split at g
      · rename_i k; simp only [Prod.mk.injEq, and_true] at g; rw [← g]; exact k
      · split at g
        · rename_i k; simp only [Prod.mk.injEq, and_true] at g; rw [← g]; exact k
        · simp at g
  · intro g
    by_cases k1 : wantL P env e 1 = []
    · rw [if_pos k1, h 1 k1 g]
    · rw [if_neg k1]
      by_cases k2 : wantL P env e 2 = []
      · rw [if_pos k2, h 2 k2 g]
      · rw [if_neg k2]
        by_cases k3 : wantL P env e 3 = []
        · rw [if_pos k3, h 3 k3 g]
        · rcases hu with rfl | rfl | rfl <;> contradiction
theorem ofF_two (P : List Fn) (env : List Pm) (e : Ex) : ((ofF P env e).2 = 0 ∧ tyOk (ofF P env e).1) ∨ ofF P env e = (0, 34) := by
  unfold ofF ofL ofL ofL ofL
  split
  · exact .inl ⟨rfl, .inl rfl⟩
  · split
    · exact .inl ⟨rfl, .inr (.inl rfl)⟩
    · split
      · exact .inl ⟨rfl, .inr (.inr rfl)⟩
      · exact .inr rfl
/-- An expression whose wants are known: its type. -/
theorem ofF_is {P : List Fn} {env : List Pm} {e : Ex} {u : Int} {q : Prop} [Decidable q] (hs : Sh e) (hu : q → tyOk u) (h : ∀ v, tyOk v → (wantL P env e v = [] ↔ q ∧ u = v)) : ofF P env e = if q then (u, 0) else (0, 34) := by
  by_cases hq : q
  · rw [if_pos hq]
    exact (ofF_ok hs (hu hq)).2 ((h u (hu hq)).2 ⟨hq, rfl⟩)
  · rw [if_neg hq]
    rcases ofF_two P env e with ⟨h1, h2⟩ | h1
    · have h3 : ofF P env e = ((ofF P env e).1, 0) := by rw [← h1]
      exact absurd ((h _ h2).1 ((ofF_ok hs h2).1 h3)).1 hq
    · exact h1
theorem of_want {P : List Fn} {env : List Pm} {e : Ex} {u : Int} (hs : Sh e) (hu : tyOk u) : wantL P env e u = [] ↔ (ofF P env e).2 = 0 ∧ (ofF P env e).1 = u := by
  rw [← ofF_ok hs hu]
  constructor
  · intro h; rw [h]; exact ⟨rfl, rfl⟩
  · intro h; rw [← h.1, ← h.2]
def zz : List UInt8 := [122, 122]
def letE (u : Int) (e : Ex) : Ex := .mk 22 zz [] u ⟨0, 0⟩ [e, .mk 6 zz [] 0 ⟨0, 0⟩ [] 0] 0
theorem sh_let {u : Int} {e : Ex} (hs : Sh e) (hu : tyOk u) : Sh (letE u e) := by
  simp only [letE, Sh, Shs]
  refine ⟨?_, hs, ⟨?_, trivial⟩, trivial⟩
  · unfold shape
    exact .inr (.inr (.inr (.inr (.inr (.inr ⟨.inr rfl, rfl, hu⟩)))))
  · unfold shape
    exact .inl ⟨.inr (.inr (.inr (.inr rfl))), rfl⟩
theorem of_let {P : List Fn} {env : List Pm} {e : Ex} {u : Int} (hs : Sh e) (hu : tyOk u) : ofF P env (letE u e) = if (ofF P env e).2 = 0 ∧ (ofF P env e).1 = u then (u, 0) else (0, 34) := by
  refine ofF_is (sh_let hs hu) (fun _ => hu) (fun v hv => ?_)
  rw [← of_want hs hu]
  have hl : lookE (env ++ [⟨zz, u, 0⟩]) zz = u := by simp [lookE, lookR]
  simp [letE, wantL, wantsL, ctlI, withinI, wantedI, ownI, hl]
theorem tcF_zero (P : List Fn) : ∀ (l : List Fn) (s : Ft), (tcF P l s).1 = 0 ↔ s.1 = 0 ∧ ∀ f ∈ l, wantL P f.params f.body f.type = []
  | [], s => by simp [tcF]
  | f :: fs, s => by
    unfold tcF
    rw [tcF_zero P fs]
    have hk : ∀ (l : List Int) (s : Ft), (l.foldl ckStep s).1 = 0 ↔ s.1 = 0 ∧ l = [] := by
      intro l
      induction l with
      | nil => intro s; simp
      | cons x xs ih =>
        intro s
        rw [List.foldl_cons, ih]
        have : (ckStep s x).1 ≠ 0 := by
          unfold ckStep tellF
          split
          · show (34 : Int) ≠ 0
            decide
          · omega
        simp [this]
    rw [hk]
    simp only [List.mem_cons, forall_eq_or_imp]
    exact ⟨fun ⟨⟨a, b⟩, c⟩ => ⟨a, b, c⟩, fun ⟨a, b, c⟩ => ⟨⟨a, b⟩, c⟩⟩
def fitsF (P : List Fn) (f : Fn) : Bool := decide ((ofF P f.params f.body).2 = 0) && decide ((ofF P f.params f.body).1 = f.type)
theorem types_all {P : List Fn} (h : PT P) (hs : ∀ f ∈ P, Sh f.body) (h0 : (ckF P).1 = 0) : decide ((typesF P).1 = 0) = P.all (fitsF P) := by
  unfold typesF
  rw [if_neg (fun g => g h0), Bool.eq_iff_iff, decide_eq_true_eq, tcF_zero, List.all_eq_true]
  have hw : ∀ f ∈ P, (wantL P f.params f.body f.type = [] ↔ fitsF P f = true) := fun f hf => by
    rw [of_want (hs f hf) (h f hf).1]
    simp [fitsF]
  exact ⟨fun g f hf => (hw f hf).1 (g.2 f hf), fun g => ⟨h0, fun f hf => (hw f hf).2 (g f hf)⟩⟩
def ifE (x y z : Ex) : Ex := .mk 19 [] [] 0 ⟨0, 0⟩ [x, y, z] 0
def consE (x y : Ex) : Ex := .mk 18 [] [] 0 ⟨0, 0⟩ [x, y] 0
def lessE (x y : Ex) : Ex := .mk 13 [] [] 0 ⟨0, 0⟩ [x, y] 0
def mulE (x y : Ex) : Ex := .mk 10 [] [] 0 ⟨0, 0⟩ [x, y] 0
section
variable {P : List Fn} {env : List Pm} {x y z : Ex}
theorem sh_if (hx : Sh x) (hy : Sh y) (hz : Sh z) : Sh (ifE x y z) := by
  simp only [ifE, Sh, Shs]
  exact ⟨by simp [shape], hx, hy, hz, trivial⟩
theorem sh_cons (hx : Sh x) (hy : Sh y) : Sh (consE x y) := by
  simp only [consE, Sh, Shs]
  exact ⟨by simp [shape], hx, hy, trivial⟩
theorem sh_less (hx : Sh x) (hy : Sh y) : Sh (lessE x y) := by
  simp only [lessE, Sh, Shs]
  exact ⟨by simp [shape], hx, hy, trivial⟩
theorem sh_mul (hx : Sh x) (hy : Sh y) : Sh (mulE x y) := by
  simp only [mulE, Sh, Shs]
  exact ⟨by simp [shape], hx, hy, trivial⟩
theorem of_if (hx : Sh x) (hy : Sh y) (hz : Sh z) : ofF P env (ifE x y z) = if ((ofF P env x).2 = 0 ∧ (ofF P env x).1 = 2) ∧ ((ofF P env y).2 = 0 ∧ (ofF P env z).2 = 0) ∧ (ofF P env y).1 = (ofF P env z).1 then ((ofF P env y).1, 0) else (0, 34) := by
  refine ofF_is (sh_if hx hy hz) (fun h => ?_) (fun v hv => ?_)
  · rcases ofF_two P env y with h1 | h1
    · exact h1.2
    · rw [h1] at h; simp at h
  · have h2 : tyOk 2 := .inr (.inl rfl)
    have a := of_want (P := P) (env := env) hx h2
    have b := of_want (P := P) (env := env) hy hv
    have c := of_want (P := P) (env := env) hz hv
    simp only [ifE, wantL, wantsL, ctlI, withinI, wantedI]
    simp [a, b, c]
    constructor
    · rintro ⟨p, q, r⟩; refine ⟨⟨p, ⟨q.1, r.1⟩, q.2.trans r.2.symm⟩, q.2⟩
    · rintro ⟨⟨p, ⟨q, r⟩, s⟩, t⟩; exact ⟨p, ⟨q, t⟩, r, s.symm.trans t⟩
theorem of_cons (hx : Sh x) (hy : Sh y) : ofF P env (consE x y) = if ((ofF P env x).2 = 0 ∧ (ofF P env x).1 = 1) ∧ (ofF P env y).2 = 0 ∧ (ofF P env y).1 = 3 then (3, 0) else (0, 34) := by
  refine ofF_is (sh_cons hx hy) (fun h => .inr (.inr rfl)) (fun v hv => ?_)
  have a := of_want (P := P) (env := env) hx (.inl rfl)
  have b := of_want (P := P) (env := env) hy (.inr (.inr rfl))
  simp only [consE, wantL, wantsL, ctlI, withinI, wantedI, ownI]
  simp [a, b, and_assoc]
theorem of_less (hx : Sh x) (hy : Sh y) : ofF P env (lessE x y) = if ((ofF P env x).2 = 0 ∧ (ofF P env x).1 = 1) ∧ (ofF P env y).2 = 0 ∧ (ofF P env y).1 = 1 then (2, 0) else (0, 34) := by
  refine ofF_is (sh_less hx hy) (fun h => .inr (.inl rfl)) (fun v hv => ?_)
  have a := of_want (P := P) (env := env) hx (.inl rfl)
  have b := of_want (P := P) (env := env) hy (.inl rfl)
  simp only [lessE, wantL, wantsL, ctlI, withinI, wantedI, ownI]
  simp [a, b, and_assoc]
theorem of_mul (hx : Sh x) (hy : Sh y) : ofF P env (mulE x y) = if ((ofF P env x).2 = 0 ∧ (ofF P env x).1 = 1) ∧ (ofF P env y).2 = 0 ∧ (ofF P env y).1 = 1 then (1, 0) else (0, 34) := by
  refine ofF_is (sh_mul hx hy) (fun h => .inl rfl) (fun v hv => ?_)
  have a := of_want (P := P) (env := env) hx (.inl rfl)
  have b := of_want (P := P) (env := env) hy (.inl rfl)
  simp only [mulE, wantL, wantsL, ctlI, withinI, wantedI, ownI]
  simp [a, b, and_assoc]
end
end Go.Fx.Ythbainhddfajfaa

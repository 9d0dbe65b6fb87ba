/-
  From a law's contract to its row.
-/
import Derived.Test.YtaiklblnfebdfaaX18
import Derived.WalkKit
import Derived.ProofKit
import Derived.OpenShut
import Derived.ShutString
import Derived.ChangeOld
import Derived.Below
import Derived.Carry
import Derived.SizedLaws
import Derived.JoinedOf
set_option linter.all false
namespace Go.Fx
open Go Go.ChangeShapes Go.WideShapes Go.ChangeAt Go.RowKit

/-- An argument's deep value. -/
def Arg (P : Program) (t : TypeId) (x : D) : Prop := ∃ n ds, Wt P n t ds ∧ match P.underlying t with
  | some (.struct _) | some (.array _ _) => x = .agg ds
  | _ => ds = [x]

def Args (P : Program) : List TypeId → List D → Prop
  | [], xs => xs = []
  | t :: ts, xs => ∃ x r, xs = x :: r ∧ Arg P t x ∧ Args P ts r

section
variable {H : Type} {enc : TypeId × Value → H} {P : Program} {w W W' : World}

theorem noAgg {r : Reach} {base : Nat} {t : TypeId} {cs : Array Value} (h : Value.okWide P w r base t (.agg cs)) : (∃ fs, P.underlying t = some (.struct fs)) ∨ ∃ n e, P.underlying t = some (.array n e) := by
  unfold Value.okWide at h
  split at h
  · rename_i fs hf; exact .inl ⟨fs, hf⟩
  · rename_i n e hf; exact .inr ⟨n, e, hf⟩
  · unfold Cell.okWide at h
    split at h <;> try simp_all
    unfold Cell.ok at h
    split at h <;> simp_all

theorem read_arg {r : Reach} {base : Nat} (hl : laidOutB P = true) {t : TypeId} {v : Value} {d : DataW H} {ps : List MemPlace} (hp : P.readableRec t = true) (hv : isVar P t = true) (hval : Value.okWide P w r base t v)
    (h : DataW.Trod enc P w 0 (fun _ => true) true t v d ps) (hw : (d.weights P t).all (· ≤ reachBytes) = true) : ∃ x, Arg P t x ∧ Rep w (· < w.heap.size) noLocs x v := by
  obtain ⟨n, hn⟩ := h
  obtain ⟨ds, h1, h2⟩ := read_ds (φ := noLocs) hl hp n t _ _ hn hw ⟨hv, book_self t⟩
  by_cases hag : (∃ fs, P.underlying t = some (.struct fs)) ∨ ∃ n e, P.underlying t = some (.array n e)
  · have : ∃ cs, v = .agg cs := by
      unfold Value.okWide at hval
      rcases hag with ⟨fs, hf⟩ | ⟨m, e, hf⟩
      · rw [hf] at hval; obtain ⟨cs, h, _⟩ := hval; exact ⟨cs, h⟩
      · rw [hf] at hval; obtain ⟨cs, h, _⟩ := hval; exact ⟨cs, h⟩
    obtain ⟨cs, rfl⟩ := this
    refine ⟨.agg ds, ⟨n, ds, h1, ?_⟩, ?_⟩
    · rcases hag with ⟨fs, hf⟩ | ⟨m, e, hf⟩ <;> simp [hf]
    · simp only [Rep]; exact ⟨cs, rfl, by simpa [Value.cells] using h2⟩
  · have hc : v.cells = #[v] := by
      cases v <;> try rfl
      exact absurd (noAgg hval) hag
    rw [hc] at h2
    cases ds with
    | nil => simp [RepVs] at h2
    | cons x r =>
      simp only [RepVs, List.cons.injEq] at h2
      obtain ⟨y, r', ⟨rfl, rfl⟩, hx, hr⟩ := h2
      cases r with
      | cons _ _ => simp [RepVs] at hr
      | nil =>
        refine ⟨x, ⟨n, [x], h1, ?_⟩, hx⟩
        split
        · rename_i fs hf; exact absurd (.inl ⟨fs, hf⟩) hag
        · rename_i m e hf; exact absurd (.inr ⟨m, e, hf⟩) hag
        · rfl

theorem read_args {r : Reach} {base : Nat} (hl : laidOutB P = true) : ∀ {ts : List TypeId} {vs : List Value} {ds : List (DataW H)} {ps : List MemPlace}, (∀ t ∈ ts, isVar P t = true ∧ P.readableRec t = true) →
    (∀ (j : Nat) t v, ts[j]? = some t → vs[j]? = some v → Value.okWide P w r base t v) →
    DataW.TrodAll enc P w 0 (fun _ => true) true ts vs ds ps → (DataW.weightsEach P ts ds).all (· ≤ reachBytes) = true → ∃ xs, Args P ts xs ∧ RepVs w (· < w.heap.size) noLocs xs vs
  | [], [], [], _, _, _, _, _ => ⟨[], rfl, by simp [RepVs]⟩
  | t :: ts, v :: vs, d :: ds, _, hv, hval, ⟨p, q, h1, h2, _⟩, hw => by
    simp only [DataW.weightsEach, List.all_append, Bool.and_eq_true] at hw
    obtain ⟨x, hx, hr⟩ := read_arg hl (hv t (by simp)).2 (hv t (by simp)).1 (hval 0 t v rfl rfl) h1 hw.1
    obtain ⟨xs, hxs, hrs⟩ := read_args hl (fun u hu => hv u (by simp [hu])) (fun j u v hu hv => hval (j + 1) u v (by simpa using hu) (by simpa using hv)) h2 hw.2
    exact ⟨x :: xs, ⟨x, xs, rfl, hx, hxs⟩, by simp only [RepVs]; exact ⟨v, vs, rfl, hr, hrs⟩⟩
  | [], [], _ :: _, _, _, _, h, _ => h.elim
  | [], _ :: _, _, _, _, _, h, _ => h.elim
  | _ :: _, [], _, _, _, _, h, _ => h.elim
  | _ :: _, _ :: _, [], _, _, _, h, _ => h.elim

theorem back_args (hl : laidOutB P = true) (hb : Below W.heap.size W W') : ∀ {ts : List TypeId} {vs : List Value} {ds : List (DataW H)} {ps : List MemPlace}, (∀ t ∈ ts, P.readableRec t = true ∧ t < P.types.size) →
    DataW.TrodAll enc P W 0 (fun _ => true) true ts vs ds ps → DataW.TrodAll enc P W' 0 (fun b => decide (b < W.heap.size)) true ts vs ds ps
  | [], [], [], _, _, h => h
  | t :: ts, v :: vs, d :: ds, _, hr, ⟨p, q, h1, h2, e⟩ =>
    ⟨p, q, Below.trod hl (hr t (by simp)).1 (hr t (by simp)).2 h1 hb (by obtain ⟨m, hm⟩ := h1; exact DataW.trod_lt m _ _ _ hm), back_args hl hb (fun u hu => hr u (by simp [hu])) h2, e⟩
  | [], [], _ :: _, _, _, h => h.elim
  | [], _ :: _, _, _, _, h => h.elim
  | _ :: _, [], _, _, _, h => h.elim
  | _ :: _, _ :: _, [], _, _, h => h.elim

theorem trodAll_len {base : Nat} {sp : Nat → Bool} {hd : Bool} : ∀ {ts : List TypeId} {vs : List Value} {ds : List (DataW H)} {ps : List MemPlace}, DataW.TrodAll enc P w base sp hd ts vs ds ps → ds.length = ts.length
  | [], [], [], _, _ => rfl
  | t :: ts, v :: vs, d :: ds, _, ⟨p, q, _, h2, _⟩ => by simpa using trodAll_len h2
  | [], [], _ :: _, _, h => h.elim
  | [], _ :: _, _, _, h => h.elim
  | _ :: _, [], _, _, h => h.elim
  | _ :: _, _ :: _, [], _, h => h.elim

theorem weights_app : ∀ (ts us : List TypeId) (ds es : List (DataW H)), ds.length = ts.length → (DataW.weightsEach P (ts ++ us) (ds ++ es)).all (· ≤ reachBytes) = true → (DataW.weightsEach P ts ds).all (· ≤ reachBytes) = true
  | [], us, [], es, _, _ => rfl
  | t :: ts, us, d :: ds, es, hl, h => by
    simp only [List.cons_append, DataW.weightsEach, List.all_append, Bool.and_eq_true] at h ⊢
    exact ⟨h.1, weights_app ts us ds es (by simpa using hl) h.2⟩
  | [], us, _ :: _, es, hl, _ => by simp at hl
  | _ :: _, us, [], es, hl, _ => by simp at hl
end

/-- What must hold of a row's function, all of it closed. -/
structure RowFn (C : Checked) (f : FuncId) (fn : Func) (s : ChangeSpec) (rt : TypeId) : Prop where
  own : ownKnob C.prog.godebug = none
  noInit : C.prog.inits.idxOf? f = none
  func : C.prog.funcs[f]? = some fn
  laid : laidOutB C.prog = true
  params : fn.params.toList.all (fun t => isVar C.prog t && C.prog.readableRec t) = true
  res : fn.resultTypes = #[rt]
  bool : C.prog.underlying rt = some .bool
  vars : s.vars = []
  spec : ∀ (H : Type) (ds : List (DataW H)), ds.length = fn.params.size → s.fn H ds = { results := [.lit (.bool true)], args := ds }

theorem row_of {C : Checked} {os : Os} {f : FuncId} {fn : Func} {s : ChangeSpec} {rt : TypeId} {conds : List PathCond} {H : Type} {enc : TypeId × Value → H} (R : RowFn C f fn s rt) (started : os.Started)
    (witness : ∃ (w : World) (tape : Tape) (i : Input), w.os = os ∧ (w.forCall tape i).Shaped C.prog ∧ i.vars = [] ∧ Input.okWide C.prog (w.forCall tape i) .any w.heap.size f i ∧
      s.pre6 enc C.prog fn conds false (w.forCall tape i).memory i.args ∧ Assume.holds {} C.prog (lone (Frame.enter C.prog f i.args .normal) [] (w.forCall tape i)))
    (law : ∀ xs, Args C.prog fn.params.toList xs → Pure C.prog f xs (.pl (.bool true))) :
    ReturnsInHanded {} C os f .any (s.pre6 enc C.prog fn conds false) (s.post enc C.prog fn false true false false) := by
  refine returnsInHanded_of_change_sized (C := C) R.own started R.noInit R.func witness ?_
  intro Wd base args ds gs before hval hW hcnd hsz _
  have hW' := hW
  have hpar : ∀ t ∈ fn.params.toList, isVar C.prog t = true ∧ C.prog.readableRec t = true := fun t ht => by
    have := List.all_eq_true.1 R.params t ht
    simpa using this
  have hlt : ∀ t ∈ fn.params.toList, C.prog.readableRec t = true ∧ t < C.prog.types.size := fun t ht => by
    have h := (hpar t ht).1
    simp only [isVar, Bool.and_eq_true, decide_eq_true_eq] at h
    exact ⟨(hpar t ht).2, h.1⟩
  obtain ⟨p, q, hA, hV, rfl, hfz, hnd⟩ := hW
  rw [R.vars] at hV
  obtain ⟨rfl, rfl⟩ := trodVars_none hV
  have hlen := trodAll_len hA
  have hw := weights_app _ _ _ _ hlen hsz
  obtain ⟨xs, hxs, hrep⟩ := read_args (r := .any) (base := base) R.laid hpar (fun j t v h1 h2 => hval j t v (by simpa using h1) (by simpa using h2)) hA hw
  have hc := (law xs hxs).2 (· < Wd.heap.size) Wd args.toList (fun b hb => hb) hrep
  rw [Array.toArray_toList] at hc
  refine hc.mono fun e W' ⟨v, S', he, hv, hx, _⟩ => ?_
  subst he
  simp only [Rep] at hv; subst hv
  have bel : Below Wd.heap.size Wd W' := ⟨hx.os, hx.tape, hx.output, hx.size, fun k hk => hx.keep k hk (by rintro ⟨i, blk, l, h, _⟩; simp [look] at h)⟩
  have hsp := R.spec H ds (by rw [hlen]; simp)
  refine ⟨_, rfl, ds, [], _, [], p, [], hW', ?_, ?_, ?_, bel.frame _, fun h => by cases h⟩
  · rw [List.append_nil, hsp, R.res]
    exact trodAll_mk1 (shut_bool R.bool _)
  · rw [List.append_nil, hsp]
    exact back_args R.laid bel hlt hA
  · rw [List.append_nil, hsp, R.vars]
    rfl
end Go.Fx

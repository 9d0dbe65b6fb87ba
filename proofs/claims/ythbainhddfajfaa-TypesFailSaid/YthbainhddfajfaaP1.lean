/-
  The parser's small functions: contracts.
-/
import Derived.Test.YthbainhddfajfaaCodeParse
import Derived.Test.YthbainhddfajfaaP0
set_option linter.all false
set_option maxRecDepth 100000

namespace Go.Fx.Ythbainhddfajfaa
open Go Go.Fx Go.Proofs Go.Fx.Flt
/-- A method of the reader: what it hands back, and the reader behind it. -/
def RC (f : FuncId) (args : List D) (r r' : Rd) (res : D) : Prop :=
  ∀ ⦃id : Nat⦄ ⦃mem : Mem⦄ ⦃nx : Nat⦄ ⦃K : KD⦄, look mem id = some (.box (encRd r)) → id < nx → (∀ nx', nx ≤ nx' → K res (upd mem id (.box (encRd r'))) nx') → CallT Try.prog f (.opt id 0 :: args) mem nx K
/-- One that changes nothing. -/
def RC0 (f : FuncId) (args : List D) (r : Rd) (res : D) : Prop :=
  ∀ ⦃id : Nat⦄ ⦃mem : Mem⦄ ⦃nx : Nat⦄ ⦃K : KD⦄, look mem id = some (.box (encRd r)) → id < nx → (∀ nx', nx ≤ nx' → K res mem nx') → CallT Try.prog f (.opt id 0 :: args) mem nx K
theorem next_c {r : Rd} (h : r.ok) : RC0 48 [] r (.agg (encMk r.next)) := by
  intro id mem nx K hl hi hk
  refine ct48 (by simp) fun hfr => ?_
  have hlt := h.lt
  have hg : r.ms[r.at'] = r.next := by unfold Rd.next; rw [List.getElem?_eq_getElem hlt]; rfl
  simp -implicitDefEqProofs (maxDischargeDepth := 80) (maxSteps := 1000000) [ac48, hl, hi, neC hi, neA, ltA, encRd, encMk, hlt, hg]
  exact ⟨mem, (by repeat (first | exact memSub_refl _ | refine memSub_skip ?_ (look_upd_none (hfr _ (by omega))) | refine memSub_skip ?_ (hfr _ (by omega)))), hk _ (by omega)⟩
theorem fail_c {r : Rd} (h : r.ok) (w : Int) : RC 61 [I w] r (r.fail w) (.tup []) := by
  intro id mem nx K hl hi hk
  refine ct61 (by simp) fun hfr => ?_
  unfold Rd.fail at hk
  by_cases hw : r.why = 0
  · rw [if_pos hw] at hk
    have hn : RC0 48 [] { r with why := w } (.agg (encMk r.next)) := next_c (r := { r with why := w }) ⟨h.ms, h.lt, h.len, h.n0, h.n1, h.l1⟩
    simp -implicitDefEqProofs (maxDischargeDepth := 80) (maxSteps := 1000000) [ac61, hl, hi, neC hi, neA, ltA, encRd, encMk, hw]
    refine clK_of ((hn) (by simp -implicitDefEqProofs (maxDischargeDepth := 80) (maxSteps := 1000000) [hl, hi, neC hi, neA, ltA, encRd, encMk]) (by omega) (fun n1 hn1 => ?_))
    have in1 : id < n1 := by omega
    simp -implicitDefEqProofs (maxDischargeDepth := 80) (maxSteps := 1000000) [hl, hi, neC hi, neA, ltA, encRd, encMk, neE hn1, ltF hn1]
    exact ⟨_, (by repeat (first | exact memSub_refl _ | refine memSub_skip ?_ (look_upd_none (hfr _ (by omega))) | refine memSub_skip ?_ (hfr _ (by omega)))), hk _ (by omega)⟩
  · rw [if_neg hw, upd_self hl] at hk
    simp -implicitDefEqProofs (maxDischargeDepth := 80) (maxSteps := 1000000) [ac61, hl, hi, neC hi, neA, ltA, encRd, encMk, hw]
    exact ⟨_, (by repeat (first | exact memSub_refl _ | refine memSub_skip ?_ (look_upd_none (hfr _ (by omega))) | refine memSub_skip ?_ (hfr _ (by omega)))), hk _ (by omega)⟩
namespace Rd
@[simp] theorem adv_ms {r : Rd} : r.adv.ms = r.ms := rfl
@[simp] theorem adv_at {r : Rd} : r.adv.at' = r.at' + 1 := rfl
@[simp] theorem adv_why {r : Rd} : r.adv.why = r.why := rfl
@[simp] theorem adv_wh {r : Rd} : r.adv.wh = r.wh := rfl
@[simp] theorem adv_lT {r : Rd} : r.adv.lT = r.lT := rfl
@[simp] theorem adv_lF {r : Rd} : r.adv.lF = r.lF := rfl
@[simp] theorem adv_lA {r : Rd} : r.adv.lA = r.lA := rfl
@[simp] theorem adv_lN {r : Rd} : r.adv.lN = r.lN := rfl
@[simp] theorem adv_nest {r : Rd} : r.adv.nest = r.nest := rfl
theorem ok_fail {r : Rd} (h : r.ok) (w : Int) : (r.fail w).ok := by
  unfold fail
  split
  · exact ⟨h.ms, h.lt, h.len, h.n0, h.n1, h.l1⟩
  · exact h
theorem ok_adv {r : Rd} (h : r.ok) (hk : r.next.kind ≠ 4) : r.adv.ok := ⟨h.ms, h.ms.2 _ h.lt hk, h.len, h.n0, h.n1, h.l1⟩
theorem is_kind {r : Rd} {s : List UInt8} (h : r.is s = true) : r.why = 0 ∧ (r.next.kind = 1 ∨ r.next.kind = 3) ∧ r.next.text = s := by
  unfold is at h
  simpa using h
theorem is_4 {r : Rd} {s : List UInt8} (h : r.is s = true) : r.next.kind ≠ 4 := by
  have := (is_kind h).2.1
  omega
theorem ok_want {r : Rd} (h : r.ok) (s : List UInt8) : (r.want s).ok := by
  unfold want
  cases hs : r.is s
  · exact ok_fail h _
  · exact ok_adv h (is_4 hs)
theorem ok_name {r : Rd} (h : r.ok) : r.name.2.ok := by
  unfold name
  cases hb : r.bad
  · refine ok_adv h ?_
    unfold bad at hb
    simp at hb
    omega
  · exact ok_fail h _
theorem ok_typ {r : Rd} (h : r.ok) : r.typ.2.ok := by
  unfold typ
  cases h1 : r.is [78]
  · cases h2 : r.is [66]
    · cases h3 : r.is [76]
      · exact ok_fail h _
      · exact ok_adv h (is_4 h3)
    · exact ok_adv h (is_4 h2)
  · exact ok_adv h (is_4 h1)
end Rd
theorem is_c {r : Rd} (h : r.ok) (s : List UInt8) : RC0 64 [Tx s] r (B (r.is s)) := by
  intro id mem nx K hl hi hk
  refine ct64 (by simp) fun hfr => ?_
  unfold Rd.is at hk
  have hn := next_c h
  by_cases h1 : r.why = 0 <;> by_cases h2 : r.next.kind = 1 <;> by_cases h3 : r.next.kind = 3 <;> by_cases h4 : r.next.text = s <;> simp only [h1, h2, h3, h4, decide_true, decide_false, Bool.true_and, Bool.and_true, Bool.false_and, Bool.or_true, Bool.true_or, Bool.or_false, Bool.and_false, if_true, if_false] at hk
  all_goals
    simp -implicitDefEqProofs (maxDischargeDepth := 80) (maxSteps := 1000000) [ac64, hl, hi, neC hi, neA, ltA, encRd, encMk]
    refine clK_of ((hn) (by simp -implicitDefEqProofs (maxDischargeDepth := 80) (maxSteps := 1000000) [hl, hi, neC hi, neA, ltA, encRd, encMk]) (by omega) (fun n1 hn1 => ?_))
    have in1 : id < n1 := by omega
    simp -implicitDefEqProofs (maxDischargeDepth := 80) (maxSteps := 1000000) [hl, hi, neC hi, neA, ltA, encRd, encMk, neE hn1, ltF hn1, h1, h2, h3, h4]
    exact ⟨mem, (by repeat (first | exact memSub_refl _ | refine memSub_skip ?_ (look_upd_none (hfr _ (by omega))) | refine memSub_skip ?_ (hfr _ (by omega)))), hk _ (by omega)⟩
theorem take_c {r : Rd} (h : r.ok) (s : List UInt8) : RC 72 [Tx s] r (if r.is s then r.adv else r) (B (r.is s)) := by
  intro id mem nx K hl hi hk
  refine ct72 (by simp) fun hfr => ?_
  have hc := is_c h s
  have hl2 := h.lt
  have hl3 := h.len
  have w := wr64 (x := (r.at' : Int) + 1) (by omega) (by omega)
  cases hs : r.is s <;> rw [hs] at hk hc
  · rw [if_neg (by decide), upd_self hl] at hk
    simp -implicitDefEqProofs (maxDischargeDepth := 80) (maxSteps := 1000000) [ac72, hl, hi, neC hi, neA, ltA, encRd, encMk]
    refine clK_of ((hc) (by simp -implicitDefEqProofs (maxDischargeDepth := 80) (maxSteps := 1000000) [hl, hi, neC hi, neA, ltA, encRd, encMk]) (by omega) (fun n1 hn1 => ?_))
    have in1 : id < n1 := by omega
    simp -implicitDefEqProofs (maxDischargeDepth := 80) (maxSteps := 1000000) [hl, hi, neC hi, neA, ltA, encRd, encMk, neE hn1, ltF hn1]
    exact ⟨mem, (by repeat (first | exact memSub_refl _ | refine memSub_skip ?_ (look_upd_none (hfr _ (by omega))) | refine memSub_skip ?_ (hfr _ (by omega)))), hk _ (by omega)⟩
  · rw [if_pos rfl] at hk
    simp -implicitDefEqProofs (maxDischargeDepth := 80) (maxSteps := 1000000) [ac72, hl, hi, neC hi, neA, ltA, encRd, encMk]
    refine clK_of ((hc) (by simp -implicitDefEqProofs (maxDischargeDepth := 80) (maxSteps := 1000000) [hl, hi, neC hi, neA, ltA, encRd, encMk]) (by omega) (fun n1 hn1 => ?_))
    have in1 : id < n1 := by omega
    simp -implicitDefEqProofs (maxDischargeDepth := 80) (maxSteps := 1000000) [hl, hi, neC hi, neA, ltA, encRd, encMk, neE hn1, ltF hn1, w]
    exact ⟨_, (by repeat (first | exact memSub_refl _ | refine memSub_skip ?_ (look_upd_none (hfr _ (by omega))) | refine memSub_skip ?_ (hfr _ (by omega)))), hk _ (by omega)⟩
theorem want_c {r : Rd} (h : r.ok) (s : List UInt8) : RC 63 [Tx s] r (r.want s) (.tup []) := by
  intro id mem nx K hl hi hk
  refine ct63 (by simp) fun hfr => ?_
  have hc := take_c h s
  have hf := fail_c h 21
  unfold Rd.want at hk
  cases hs : r.is s <;> rw [hs] at hk hc
  · rw [if_neg (by decide)] at hk hc
    simp -implicitDefEqProofs (maxDischargeDepth := 80) (maxSteps := 1000000) [ac63, hl, hi, neC hi, neA, ltA, encRd, encMk]
    refine clK_of ((hc) (by simp -implicitDefEqProofs (maxDischargeDepth := 80) (maxSteps := 1000000) [hl, hi, neC hi, neA, ltA, encRd, encMk]) (by omega) (fun n1 hn1 => ?_))
    have in1 : id < n1 := by omega
    simp -implicitDefEqProofs (maxDischargeDepth := 80) (maxSteps := 1000000) [hl, hi, neC hi, neA, ltA, encRd, encMk, neE hn1, ltF hn1]
    refine clK_of ((hf) (by simp -implicitDefEqProofs (maxDischargeDepth := 80) (maxSteps := 1000000) [hl, hi, neC hi, neA, ltA, encRd, encMk, neE hn1, ltF hn1]) (by omega) (fun n2 hn2 => ?_))
    have in2 : id < n2 := by omega
    simp -implicitDefEqProofs (maxDischargeDepth := 80) (maxSteps := 1000000) [hl, hi, neC hi, neA, ltA, encRd, encMk, neE hn1, ltF hn1, neE hn2, ltF hn2]
    exact ⟨_, (by repeat (first | exact memSub_refl _ | refine memSub_skip ?_ (look_upd_none (hfr _ (by omega))) | refine memSub_skip ?_ (hfr _ (by omega)))), hk _ (by omega)⟩
  · rw [if_pos rfl] at hk hc
    simp -implicitDefEqProofs (maxDischargeDepth := 80) (maxSteps := 1000000) [ac63, hl, hi, neC hi, neA, ltA, encRd, encMk]
    refine clK_of ((hc) (by simp -implicitDefEqProofs (maxDischargeDepth := 80) (maxSteps := 1000000) [hl, hi, neC hi, neA, ltA, encRd, encMk]) (by omega) (fun n1 hn1 => ?_))
    have in1 : id < n1 := by omega
    simp -implicitDefEqProofs (maxDischargeDepth := 80) (maxSteps := 1000000) [hl, hi, neC hi, neA, ltA, encRd, encMk, neE hn1, ltF hn1]
    exact ⟨_, (by repeat (first | exact memSub_refl _ | refine memSub_skip ?_ (look_upd_none (hfr _ (by omega))) | refine memSub_skip ?_ (hfr _ (by omega)))), hk _ (by omega)⟩
theorem name_c {r : Rd} (h : r.ok) : RC 62 [] r r.name.2 (.agg (encMk r.name.1)) := by
  intro id mem nx K hl hi hk
  refine ct62 (by simp) fun hfr => ?_
  have hn := next_c h
  have hf := fail_c h 21
  have hl2 := h.lt
  have hl3 := h.len
  have w := wr64 (x := (r.at' : Int) + 1) (by omega) (by omega)
  unfold Rd.name Rd.bad at hk
  by_cases h1 : r.why = 0
  · by_cases h2 : r.next.kind = 0
    · rw [if_neg (by simp [h1, h2])] at hk
      simp -implicitDefEqProofs (maxDischargeDepth := 80) (maxSteps := 1000000) [ac62, hl, hi, neC hi, neA, ltA, encRd, encMk]
      refine clK_of ((hn) (by simp -implicitDefEqProofs (maxDischargeDepth := 80) (maxSteps := 1000000) [hl, hi, neC hi, neA, ltA, encRd, encMk]) (by omega) (fun n1 hn1 => ?_))
      have in1 : id < n1 := by omega
      simp -implicitDefEqProofs (maxDischargeDepth := 80) (maxSteps := 1000000) [hl, hi, neC hi, neA, ltA, encRd, encMk, neE hn1, ltF hn1, h1, h2, w]
      simp [encMk, h2, encRd, Rd.adv, h1] at hk
      exact ⟨_, (by repeat (first | exact memSub_refl _ | refine memSub_skip ?_ (look_upd_none (hfr _ (by omega))) | refine memSub_skip ?_ (hfr _ (by omega)))), hk _ (by omega)⟩
    · rw [if_pos (by simp [h1, h2])] at hk
      simp -implicitDefEqProofs (maxDischargeDepth := 80) (maxSteps := 1000000) [ac62, hl, hi, neC hi, neA, ltA, encRd, encMk]
      refine clK_of ((hn) (by simp -implicitDefEqProofs (maxDischargeDepth := 80) (maxSteps := 1000000) [hl, hi, neC hi, neA, ltA, encRd, encMk]) (by omega) (fun n1 hn1 => ?_))
      have in1 : id < n1 := by omega
      simp -implicitDefEqProofs (maxDischargeDepth := 80) (maxSteps := 1000000) [hl, hi, neC hi, neA, ltA, encRd, encMk, neE hn1, ltF hn1, h1, h2]
      refine clK_of ((hf) (by simp -implicitDefEqProofs (maxDischargeDepth := 80) (maxSteps := 1000000) [hl, hi, neC hi, neA, ltA, encRd, encMk, neE hn1, ltF hn1]) (by omega) (fun n2 hn2 => ?_))
      have in2 : id < n2 := by omega
      simp -implicitDefEqProofs (maxDischargeDepth := 80) (maxSteps := 1000000) [hl, hi, neC hi, neA, ltA, encRd, encMk, neE hn1, ltF hn1, neE hn2, ltF hn2]
      exact ⟨_, (by repeat (first | exact memSub_refl _ | refine memSub_skip ?_ (look_upd_none (hfr _ (by omega))) | refine memSub_skip ?_ (hfr _ (by omega)))), hk _ (by omega)⟩
  · rw [if_pos (by simp [h1])] at hk
    simp -implicitDefEqProofs (maxDischargeDepth := 80) (maxSteps := 1000000) [ac62, hl, hi, neC hi, neA, ltA, encRd, encMk]
    refine clK_of ((hn) (by simp -implicitDefEqProofs (maxDischargeDepth := 80) (maxSteps := 1000000) [hl, hi, neC hi, neA, ltA, encRd, encMk]) (by omega) (fun n1 hn1 => ?_))
    have in1 : id < n1 := by omega
    simp -implicitDefEqProofs (maxDischargeDepth := 80) (maxSteps := 1000000) [hl, hi, neC hi, neA, ltA, encRd, encMk, neE hn1, ltF hn1, h1]
    refine clK_of ((hf) (by simp -implicitDefEqProofs (maxDischargeDepth := 80) (maxSteps := 1000000) [hl, hi, neC hi, neA, ltA, encRd, encMk, neE hn1, ltF hn1]) (by omega) (fun n2 hn2 => ?_))
    have in2 : id < n2 := by omega
    simp -implicitDefEqProofs (maxDischargeDepth := 80) (maxSteps := 1000000) [hl, hi, neC hi, neA, ltA, encRd, encMk, neE hn1, ltF hn1, neE hn2, ltF hn2]
    exact ⟨_, (by repeat (first | exact memSub_refl _ | refine memSub_skip ?_ (look_upd_none (hfr _ (by omega))) | refine memSub_skip ?_ (hfr _ (by omega)))), hk _ (by omega)⟩
theorem wi1' : IntKind.i64.wrap 1 = 1 := by decide
theorem wi2' : IntKind.i64.wrap 2 = 2 := by decide
theorem wi3' : IntKind.i64.wrap 3 = 3 := by decide
theorem typ_c {r : Rd} (h : r.ok) : RC 65 [] r r.typ.2 (I r.typ.1) := by
  intro id mem nx K hl hi hk
  refine ct65 (by simp) fun hfr => ?_
  have c1 := take_c h [78]
  have c2 := take_c h [66]
  have c3 := take_c h [76]
  have hf := fail_c h 21
  unfold Rd.typ at hk
  have hu := upd_self hl
  simp only [encRd] at hu
  simp -implicitDefEqProofs (maxDischargeDepth := 80) (maxSteps := 1000000) [ac65, hl, hi, neC hi, neA, ltA, encRd, encMk]
  refine lp65_0 (α := Nat) (fun i _ => [(4, I i)]) (fun _ _ => mem) (fun i m => nx ≤ m ∧ i ≤ 3 ∧ (0 < i → r.is [78] = false) ∧ (1 < i → r.is [66] = false) ∧ (2 < i → r.is [76] = false)) (fun i => 3 - i) 0 ⟨by omega, by omega, by omega, by omega, by omega⟩ (by simp) (by simp) ?_
  rintro i m ⟨hm, hi3, g1, g2, g3⟩
  have im : id < m := by omega
  have : i = 0 ∨ i = 1 ∨ i = 2 ∨ i = 3 := by omega
  rcases this with rfl | rfl | rfl | rfl
  · cases hs : r.is [78] <;> rw [hs] at hk c1
    · rw [if_neg (by decide)] at c1
      simp -implicitDefEqProofs (maxDischargeDepth := 80) (maxSteps := 1000000) [lb65_0, hl, hi, neC hi, neA, ltA, encRd, encMk, im, iaD]
      refine clK_of ((c1) (by simp -implicitDefEqProofs (maxDischargeDepth := 80) (maxSteps := 1000000) [hl, hi, neC hi, neA, ltA, encRd, encMk]) (by omega) (fun n1 hn1 => ?_))
      have in1 : id < n1 := by omega
      simp -implicitDefEqProofs (maxDischargeDepth := 80) (maxSteps := 1000000) [hl, hi, neC hi, neA, ltA, encRd, encMk, neE hn1, ltF hn1, wi1']
      rw [hu]
      exact again_of 1 ⟨by omega, by omega, by omega, by omega⟩ (by omega) (by simp) (by simp)
    · rw [if_pos rfl] at hk c1
      simp -implicitDefEqProofs (maxDischargeDepth := 80) (maxSteps := 1000000) [lb65_0, hl, hi, neC hi, neA, ltA, encRd, encMk, im, iaD]
      refine clK_of ((c1) (by simp -implicitDefEqProofs (maxDischargeDepth := 80) (maxSteps := 1000000) [hl, hi, neC hi, neA, ltA, encRd, encMk]) (by omega) (fun n1 hn1 => ?_))
      have in1 : id < n1 := by omega
      simp -implicitDefEqProofs (maxDischargeDepth := 80) (maxSteps := 1000000) [hl, hi, neC hi, neA, ltA, encRd, encMk, neE hn1, ltF hn1, wi1']
      exact ⟨_, (by repeat (first | exact memSub_refl _ | refine memSub_skip ?_ (look_upd_none (hfr _ (by omega))) | refine memSub_skip ?_ (hfr _ (by omega)))), hk _ (by omega)⟩
  · rw [g1 (by omega), if_neg (by decide)] at hk
    cases hs : r.is [66] <;> rw [hs] at hk c2
    · rw [if_neg (by decide)] at c2
      simp -implicitDefEqProofs (maxDischargeDepth := 80) (maxSteps := 1000000) [lb65_0, hl, hi, neC hi, neA, ltA, encRd, encMk, im, iaD]
      refine clK_of ((c2) (by simp -implicitDefEqProofs (maxDischargeDepth := 80) (maxSteps := 1000000) [hl, hi, neC hi, neA, ltA, encRd, encMk]) (by omega) (fun n1 hn1 => ?_))
      have in1 : id < n1 := by omega
      simp -implicitDefEqProofs (maxDischargeDepth := 80) (maxSteps := 1000000) [hl, hi, neC hi, neA, ltA, encRd, encMk, neE hn1, ltF hn1, wi2']
      rw [hu]
      exact again_of 2 ⟨by omega, by omega, fun _ => g1 (by omega), by omega⟩ (by omega) (by simp) (by simp)
    · rw [if_pos rfl] at hk c2
      simp -implicitDefEqProofs (maxDischargeDepth := 80) (maxSteps := 1000000) [lb65_0, hl, hi, neC hi, neA, ltA, encRd, encMk, im, iaD]
      refine clK_of ((c2) (by simp -implicitDefEqProofs (maxDischargeDepth := 80) (maxSteps := 1000000) [hl, hi, neC hi, neA, ltA, encRd, encMk]) (by omega) (fun n1 hn1 => ?_))
      have in1 : id < n1 := by omega
      simp -implicitDefEqProofs (maxDischargeDepth := 80) (maxSteps := 1000000) [hl, hi, neC hi, neA, ltA, encRd, encMk, neE hn1, ltF hn1, wi2']
      exact ⟨_, (by repeat (first | exact memSub_refl _ | refine memSub_skip ?_ (look_upd_none (hfr _ (by omega))) | refine memSub_skip ?_ (hfr _ (by omega)))), hk _ (by omega)⟩
  · rw [g1 (by omega), if_neg (by decide), g2 (by omega), if_neg (by decide)] at hk
    cases hs : r.is [76] <;> rw [hs] at hk c3
    · rw [if_neg (by decide)] at c3
      simp -implicitDefEqProofs (maxDischargeDepth := 80) (maxSteps := 1000000) [lb65_0, hl, hi, neC hi, neA, ltA, encRd, encMk, im, iaD]
      refine clK_of ((c3) (by simp -implicitDefEqProofs (maxDischargeDepth := 80) (maxSteps := 1000000) [hl, hi, neC hi, neA, ltA, encRd, encMk]) (by omega) (fun n1 hn1 => ?_))
      have in1 : id < n1 := by omega
      simp -implicitDefEqProofs (maxDischargeDepth := 80) (maxSteps := 1000000) [hl, hi, neC hi, neA, ltA, encRd, encMk, neE hn1, ltF hn1, wi3']
      rw [hu]
      exact again_of 3 ⟨by omega, by omega, fun _ => g1 (by omega), fun _ => g2 (by omega)⟩ (by omega) (by simp) (by simp)
    · rw [if_pos rfl] at hk c3
      simp -implicitDefEqProofs (maxDischargeDepth := 80) (maxSteps := 1000000) [lb65_0, hl, hi, neC hi, neA, ltA, encRd, encMk, im, iaD]
      refine clK_of ((c3) (by simp -implicitDefEqProofs (maxDischargeDepth := 80) (maxSteps := 1000000) [hl, hi, neC hi, neA, ltA, encRd, encMk]) (by omega) (fun n1 hn1 => ?_))
      have in1 : id < n1 := by omega
      simp -implicitDefEqProofs (maxDischargeDepth := 80) (maxSteps := 1000000) [hl, hi, neC hi, neA, ltA, encRd, encMk, neE hn1, ltF hn1, wi3']
      exact ⟨_, (by repeat (first | exact memSub_refl _ | refine memSub_skip ?_ (look_upd_none (hfr _ (by omega))) | refine memSub_skip ?_ (hfr _ (by omega)))), hk _ (by omega)⟩
  · rw [g1 (by omega), if_neg (by decide), g2 (by omega), if_neg (by decide), g3 (by omega), if_neg (by decide)] at hk
    simp -implicitDefEqProofs (maxDischargeDepth := 80) (maxSteps := 1000000) [lb65_0, hl, hi, neC hi, neA, ltA, encRd, encMk, im]
    refine clK_of ((hf) (by simp -implicitDefEqProofs (maxDischargeDepth := 80) (maxSteps := 1000000) [hl, hi, neC hi, neA, ltA, encRd, encMk]) (by omega) (fun n1 hn1 => ?_))
    have in1 : id < n1 := by omega
    simp -implicitDefEqProofs (maxDischargeDepth := 80) (maxSteps := 1000000) [hl, hi, neC hi, neA, ltA, encRd, encMk, neE hn1, ltF hn1]
    exact ⟨_, (by repeat (first | exact memSub_refl _ | refine memSub_skip ?_ (look_upd_none (hfr _ (by omega))) | refine memSub_skip ?_ (hfr _ (by omega)))), hk _ (by omega)⟩
end Go.Fx.Ythbainhddfajfaa

/-
  The parser's operators: contracts.
-/
import Derived.Test.YthbainhddfajfaaP1
set_option linter.all false
set_option maxRecDepth 100000

namespace Go.Fx.Ythbainhddfajfaa
open Go Go.Fx Go.Proofs Go.Fx.Flt
/-- A method that hands back an expression. -/
def EC (f : FuncId) (args : List D) (run : PR) (r : Rd) : Prop := ∀ e r', run = some (e, r') → r'.ok ∧ r'.nest = r.nest ∧ RC f args r r' (.agg (encEx e))
theorem em_1 {α : Type} {enc : α → List D} {a : α} : em enc [a] = [enc a] := rfl
theorem em_2 {α : Type} {enc : α → List D} {a b : α} : em enc [a, b] = [enc a, enc b] := rfl
theorem em_3 {α : Type} {enc : α → List D} {a b c : α} : em enc [a, b, c] = [enc a, enc b, enc c] := rfl
theorem two_c (op : Int) (a b : Ex) (m : Mk) : Pure Try.prog 78 [I op, .agg (encEx a), .agg (encEx b), .agg (encMk m)] (.agg (encEx (two op a b m))) := by
  refine pu78 (by simp) ?_
  simp only [two, encEx_mk, em_2]
  simp only [encEx_eq, encMk]
  simp -implicitDefEqProofs (maxDischargeDepth := 80) (maxSteps := 1000000) [ac78]
theorem nest_adv {r : Rd} : r.adv.nest = r.nest := rfl
theorem nest_fail {r : Rd} {w : Int} : (r.fail w).nest = r.nest := by unfold Rd.fail; split <;> rfl
theorem nest_want {r : Rd} {s : List UInt8} : (r.want s).nest = r.nest := by
  unfold Rd.want
  split
  · rfl
  · exact nest_fail
theorem nest_name {r : Rd} : r.name.2.nest = r.nest := by
  unfold Rd.name
  split
  · exact nest_fail
  · rfl
theorem nest_typ {r : Rd} : r.typ.2.nest = r.nest := by
  unfold Rd.typ
  split
  · rfl
  · split
    · rfl
    · split
      · rfl
      · exact nest_fail
theorem cons_s {n : Nat} (h1 : ∀ r, r.ok → EC 77 [] (compF n r) r) (h2 : ∀ r, r.ok → EC 73 [] (consF n r) r) :
    ∀ r, r.ok → EC 73 [] (consF (n + 1) r) r := by
  intro r h e r' hrun
  unfold consF at hrun
  cases hc : compF n r with
  | none => rw [hc] at hrun; simp at hrun
  | some p =>
    obtain ⟨a, r1⟩ := p
    rw [hc] at hrun
    simp only [Option.bind_some] at hrun
    obtain ⟨k1, n1, c1⟩ := h1 r h a r1 hc
    have cn := next_c k1
    have ct := take_c k1 [58]
    simp only [encEx_eq, encMk] at c1 cn
    cases hs : r1.is [58] <;> rw [hs] at hrun ct
    · simp only [Bool.false_eq_true, if_false, Option.some.injEq, Prod.mk.injEq] at hrun ct
      obtain ⟨rfl, rfl⟩ := hrun
      refine ⟨k1, n1, ?_⟩
      intro id mem nx K hl hi hk
      simp only [encEx_eq] at hk
      refine ct73 (by simp) fun hfr => ?_
      simp -implicitDefEqProofs (maxDischargeDepth := 80) (maxSteps := 1000000) [ac73, hl, hi, neC hi, neA, ltA, encRd, encMk, encEx_eq]
      refine clK_of ((c1) (by simp -implicitDefEqProofs (maxDischargeDepth := 80) (maxSteps := 1000000) [hl, hi, neC hi, neA, ltA, encRd, encMk, encEx_eq]) (by omega) (fun m1 hm1 => ?_))
      have im1 : id < m1 := by omega
      simp -implicitDefEqProofs (maxDischargeDepth := 80) (maxSteps := 1000000) [hl, hi, neC hi, neA, ltA, encRd, encMk, encEx_eq, neE hm1, ltF hm1]
      refine clK_of ((cn) (by simp -implicitDefEqProofs (maxDischargeDepth := 80) (maxSteps := 1000000) [hl, hi, neC hi, neA, ltA, encRd, encMk, encEx_eq, neE hm1, ltF hm1]) (by omega) (fun m2 hm2 => ?_))
      have im2 : id < m2 := by omega
      simp -implicitDefEqProofs (maxDischargeDepth := 80) (maxSteps := 1000000) [hl, hi, neC hi, neA, ltA, encRd, encMk, encEx_eq, neE hm1, ltF hm1, neE hm2, ltF hm2]
      refine clK_of ((ct) (by simp -implicitDefEqProofs (maxDischargeDepth := 80) (maxSteps := 1000000) [hl, hi, neC hi, neA, ltA, encRd, encMk, encEx_eq, neE hm1, ltF hm1, neE hm2, ltF hm2]) (by omega) (fun m3 hm3 => ?_))
      have im3 : id < m3 := by omega
      simp -implicitDefEqProofs (maxDischargeDepth := 80) (maxSteps := 1000000) [hl, hi, neC hi, neA, ltA, encRd, encMk, encEx_eq, neE hm1, ltF hm1, neE hm2, ltF hm2, neE hm3, ltF hm3]
      exact ⟨_, (by repeat (first | exact memSub_refl _ | refine memSub_skip ?_ (look_upd_none (hfr _ (by omega))) | refine memSub_skip ?_ (hfr _ (by omega)))), hk _ (by omega)⟩
    · simp only [if_true, Option.map_eq_some_iff, Prod.mk.injEq] at hrun ct
      obtain ⟨⟨b, r2⟩, hb, rfl, rfl⟩ := hrun
      obtain ⟨k2, n2, c2⟩ := h2 r1.adv (Rd.ok_adv k1 (Rd.is_4 hs)) b r2 hb
      have c3 := two_c 18 a b r1.next
      simp only [encEx_eq, encMk] at c2 c3
      refine ⟨k2, n2.trans n1, ?_⟩
      intro id mem nx K hl hi hk
      simp only [encEx_eq] at hk
      refine ct73 (by simp) fun hfr => ?_
      simp -implicitDefEqProofs (maxDischargeDepth := 80) (maxSteps := 1000000) [ac73, hl, hi, neC hi, neA, ltA, encRd, encMk, encEx_eq]
      refine clK_of ((c1) (by simp -implicitDefEqProofs (maxDischargeDepth := 80) (maxSteps := 1000000) [hl, hi, neC hi, neA, ltA, encRd, encMk, encEx_eq]) (by omega) (fun m1 hm1 => ?_))
      have im1 : id < m1 := by omega
      simp -implicitDefEqProofs (maxDischargeDepth := 80) (maxSteps := 1000000) [hl, hi, neC hi, neA, ltA, encRd, encMk, encEx_eq, neE hm1, ltF hm1]
      refine clK_of ((cn) (by simp -implicitDefEqProofs (maxDischargeDepth := 80) (maxSteps := 1000000) [hl, hi, neC hi, neA, ltA, encRd, encMk, encEx_eq, neE hm1, ltF hm1]) (by omega) (fun m2 hm2 => ?_))
      have im2 : id < m2 := by omega
      simp -implicitDefEqProofs (maxDischargeDepth := 80) (maxSteps := 1000000) [hl, hi, neC hi, neA, ltA, encRd, encMk, encEx_eq, neE hm1, ltF hm1, neE hm2, ltF hm2]
      refine clK_of ((ct) (by simp -implicitDefEqProofs (maxDischargeDepth := 80) (maxSteps := 1000000) [hl, hi, neC hi, neA, ltA, encRd, encMk, encEx_eq, neE hm1, ltF hm1, neE hm2, ltF hm2]) (by omega) (fun m3 hm3 => ?_))
      have im3 : id < m3 := by omega
      simp -implicitDefEqProofs (maxDischargeDepth := 80) (maxSteps := 1000000) [hl, hi, neC hi, neA, ltA, encRd, encMk, encEx_eq, neE hm1, ltF hm1, neE hm2, ltF hm2, neE hm3, ltF hm3]
      refine clK_of ((c2) (by simp -implicitDefEqProofs (maxDischargeDepth := 80) (maxSteps := 1000000) [hl, hi, neC hi, neA, ltA, encRd, encMk, encEx_eq, neE hm1, ltF hm1, neE hm2, ltF hm2, neE hm3, ltF hm3]) (by omega) (fun m4 hm4 => ?_))
      have im4 : id < m4 := by omega
      simp -implicitDefEqProofs (maxDischargeDepth := 80) (maxSteps := 1000000) [hl, hi, neC hi, neA, ltA, encRd, encMk, encEx_eq, neE hm1, ltF hm1, neE hm2, ltF hm2, neE hm3, ltF hm3, neE hm4, ltF hm4]
      refine pcK_of (c3) (by simp) ?_
      simp -implicitDefEqProofs (maxDischargeDepth := 80) (maxSteps := 1000000) [hl, hi, neC hi, neA, ltA, encRd, encMk, encEx_eq, neE hm1, ltF hm1, neE hm2, ltF hm2, neE hm3, ltF hm3, neE hm4, ltF hm4]
      exact ⟨_, (by repeat (first | exact memSub_refl _ | refine memSub_skip ?_ (look_upd_none (hfr _ (by omega))) | refine memSub_skip ?_ (hfr _ (by omega)))), hk _ (by omega)⟩
theorem comp_s {n : Nat} (h1 : ∀ r, r.ok → EC 79 [] (sumF n r) r) :
    ∀ r, r.ok → EC 77 [] (compF (n + 1) r) r := by
  intro r h e r' hrun
  unfold compF at hrun
  cases hc : sumF n r with
  | none => rw [hc] at hrun; simp at hrun
  | some p =>
    obtain ⟨a, r1⟩ := p
    rw [hc] at hrun
    simp only [Option.bind_some] at hrun
    obtain ⟨k1, n1, c1⟩ := h1 r h a r1 hc
    have cn := next_c k1
    have ci := is_c k1 [60]
    have ct := take_c k1 [61, 61]
    have cu := take_c k1 [60]
    simp only [encEx_eq, encMk] at c1 cn
    cases hs : r1.is [61, 61] <;> rw [hs] at hrun ct
    · cases hu : r1.is [60] <;> rw [hu] at hrun cu ci
      · simp only [Bool.false_eq_true, if_false, Bool.or_self, Option.some.injEq, Prod.mk.injEq] at hrun ct cu
        obtain ⟨rfl, rfl⟩ := hrun
        refine ⟨k1, n1, ?_⟩
        intro id mem nx K hl hi hk
        simp only [encEx_eq] at hk
        refine ct77 (by simp) fun hfr => ?_
        simp -implicitDefEqProofs (maxDischargeDepth := 80) (maxSteps := 1000000) [ac77, hl, hi, neC hi, neA, ltA, encRd, encMk, encEx_eq]
        refine clK_of ((c1) (by simp -implicitDefEqProofs (maxDischargeDepth := 80) (maxSteps := 1000000) [hl, hi, neC hi, neA, ltA, encRd, encMk, encEx_eq]) (by omega) (fun m1 hm1 => ?_))
        have im1 : id < m1 := by omega
        simp -implicitDefEqProofs (maxDischargeDepth := 80) (maxSteps := 1000000) [hl, hi, neC hi, neA, ltA, encRd, encMk, encEx_eq, neE hm1, ltF hm1]
        refine clK_of ((cn) (by simp -implicitDefEqProofs (maxDischargeDepth := 80) (maxSteps := 1000000) [hl, hi, neC hi, neA, ltA, encRd, encMk, encEx_eq, neE hm1, ltF hm1]) (by omega) (fun m2 hm2 => ?_))
        have im2 : id < m2 := by omega
        simp -implicitDefEqProofs (maxDischargeDepth := 80) (maxSteps := 1000000) [hl, hi, neC hi, neA, ltA, encRd, encMk, encEx_eq, neE hm1, ltF hm1, neE hm2, ltF hm2]
        refine clK_of ((ci) (by simp -implicitDefEqProofs (maxDischargeDepth := 80) (maxSteps := 1000000) [hl, hi, neC hi, neA, ltA, encRd, encMk, encEx_eq, neE hm1, ltF hm1, neE hm2, ltF hm2]) (by omega) (fun m3 hm3 => ?_))
        have im3 : id < m3 := by omega
        simp -implicitDefEqProofs (maxDischargeDepth := 80) (maxSteps := 1000000) [hl, hi, neC hi, neA, ltA, encRd, encMk, encEx_eq, neE hm1, ltF hm1, neE hm2, ltF hm2, neE hm3, ltF hm3]
        refine clK_of ((ct) (by simp -implicitDefEqProofs (maxDischargeDepth := 80) (maxSteps := 1000000) [hl, hi, neC hi, neA, ltA, encRd, encMk, encEx_eq, neE hm1, ltF hm1, neE hm2, ltF hm2, neE hm3, ltF hm3]) (by omega) (fun m4 hm4 => ?_))
        have im4 : id < m4 := by omega
        simp -implicitDefEqProofs (maxDischargeDepth := 80) (maxSteps := 1000000) [hl, hi, neC hi, neA, ltA, encRd, encMk, encEx_eq, neE hm1, ltF hm1, neE hm2, ltF hm2, neE hm3, ltF hm3, neE hm4, ltF hm4]
        refine clK_of ((cu) (by simp -implicitDefEqProofs (maxDischargeDepth := 80) (maxSteps := 1000000) [hl, hi, neC hi, neA, ltA, encRd, encMk, encEx_eq, neE hm1, ltF hm1, neE hm2, ltF hm2, neE hm3, ltF hm3, neE hm4, ltF hm4]) (by omega) (fun m5 hm5 => ?_))
        have im5 : id < m5 := by omega
        simp -implicitDefEqProofs (maxDischargeDepth := 80) (maxSteps := 1000000) [hl, hi, neC hi, neA, ltA, encRd, encMk, encEx_eq, neE hm1, ltF hm1, neE hm2, ltF hm2, neE hm3, ltF hm3, neE hm4, ltF hm4, neE hm5, ltF hm5]
        exact ⟨_, (by repeat (first | exact memSub_refl _ | refine memSub_skip ?_ (look_upd_none (hfr _ (by omega))) | refine memSub_skip ?_ (hfr _ (by omega)))), hk _ (by omega)⟩
      · simp only [Bool.or_true, Bool.false_eq_true, if_false, if_true, Option.map_eq_some_iff, Prod.mk.injEq] at hrun ct cu
        obtain ⟨⟨b, r2⟩, hb, rfl, rfl⟩ := hrun
        obtain ⟨k2, n2, c2⟩ := h1 r1.adv (Rd.ok_adv k1 (Rd.is_4 hu)) b r2 hb
        have c3 := two_c 13 a b r1.next
        simp only [encEx_eq, encMk] at c2 c3
        refine ⟨k2, n2.trans n1, ?_⟩
        intro id mem nx K hl hi hk
        simp only [encEx_eq] at hk
        refine ct77 (by simp) fun hfr => ?_
        simp -implicitDefEqProofs (maxDischargeDepth := 80) (maxSteps := 1000000) [ac77, hl, hi, neC hi, neA, ltA, encRd, encMk, encEx_eq]
        refine clK_of ((c1) (by simp -implicitDefEqProofs (maxDischargeDepth := 80) (maxSteps := 1000000) [hl, hi, neC hi, neA, ltA, encRd, encMk, encEx_eq]) (by omega) (fun m1 hm1 => ?_))
        have im1 : id < m1 := by omega
        simp -implicitDefEqProofs (maxDischargeDepth := 80) (maxSteps := 1000000) [hl, hi, neC hi, neA, ltA, encRd, encMk, encEx_eq, neE hm1, ltF hm1]
        refine clK_of ((cn) (by simp -implicitDefEqProofs (maxDischargeDepth := 80) (maxSteps := 1000000) [hl, hi, neC hi, neA, ltA, encRd, encMk, encEx_eq, neE hm1, ltF hm1]) (by omega) (fun m2 hm2 => ?_))
        have im2 : id < m2 := by omega
        simp -implicitDefEqProofs (maxDischargeDepth := 80) (maxSteps := 1000000) [hl, hi, neC hi, neA, ltA, encRd, encMk, encEx_eq, neE hm1, ltF hm1, neE hm2, ltF hm2]
        refine clK_of ((ci) (by simp -implicitDefEqProofs (maxDischargeDepth := 80) (maxSteps := 1000000) [hl, hi, neC hi, neA, ltA, encRd, encMk, encEx_eq, neE hm1, ltF hm1, neE hm2, ltF hm2]) (by omega) (fun m3 hm3 => ?_))
        have im3 : id < m3 := by omega
        simp -implicitDefEqProofs (maxDischargeDepth := 80) (maxSteps := 1000000) [hl, hi, neC hi, neA, ltA, encRd, encMk, encEx_eq, neE hm1, ltF hm1, neE hm2, ltF hm2, neE hm3, ltF hm3]
        refine clK_of ((ct) (by simp -implicitDefEqProofs (maxDischargeDepth := 80) (maxSteps := 1000000) [hl, hi, neC hi, neA, ltA, encRd, encMk, encEx_eq, neE hm1, ltF hm1, neE hm2, ltF hm2, neE hm3, ltF hm3]) (by omega) (fun m4 hm4 => ?_))
        have im4 : id < m4 := by omega
        simp -implicitDefEqProofs (maxDischargeDepth := 80) (maxSteps := 1000000) [hl, hi, neC hi, neA, ltA, encRd, encMk, encEx_eq, neE hm1, ltF hm1, neE hm2, ltF hm2, neE hm3, ltF hm3, neE hm4, ltF hm4]
        refine clK_of ((cu) (by simp -implicitDefEqProofs (maxDischargeDepth := 80) (maxSteps := 1000000) [hl, hi, neC hi, neA, ltA, encRd, encMk, encEx_eq, neE hm1, ltF hm1, neE hm2, ltF hm2, neE hm3, ltF hm3, neE hm4, ltF hm4]) (by omega) (fun m5 hm5 => ?_))
        have im5 : id < m5 := by omega
        simp -implicitDefEqProofs (maxDischargeDepth := 80) (maxSteps := 1000000) [hl, hi, neC hi, neA, ltA, encRd, encMk, encEx_eq, neE hm1, ltF hm1, neE hm2, ltF hm2, neE hm3, ltF hm3, neE hm4, ltF hm4, neE hm5, ltF hm5]
        refine clK_of ((c2) (by simp -implicitDefEqProofs (maxDischargeDepth := 80) (maxSteps := 1000000) [hl, hi, neC hi, neA, ltA, encRd, encMk, encEx_eq, neE hm1, ltF hm1, neE hm2, ltF hm2, neE hm3, ltF hm3, neE hm4, ltF hm4, neE hm5, ltF hm5]) (by omega) (fun m6 hm6 => ?_))
        have im6 : id < m6 := by omega
        simp -implicitDefEqProofs (maxDischargeDepth := 80) (maxSteps := 1000000) [hl, hi, neC hi, neA, ltA, encRd, encMk, encEx_eq, neE hm1, ltF hm1, neE hm2, ltF hm2, neE hm3, ltF hm3, neE hm4, ltF hm4, neE hm5, ltF hm5, neE hm6, ltF hm6]
        refine pcK_of (c3) (by simp) ?_
        simp -implicitDefEqProofs (maxDischargeDepth := 80) (maxSteps := 1000000) [hl, hi, neC hi, neA, ltA, encRd, encMk, encEx_eq, neE hm1, ltF hm1, neE hm2, ltF hm2, neE hm3, ltF hm3, neE hm4, ltF hm4, neE hm5, ltF hm5, neE hm6, ltF hm6]
        exact ⟨_, (by repeat (first | exact memSub_refl _ | refine memSub_skip ?_ (look_upd_none (hfr _ (by omega))) | refine memSub_skip ?_ (hfr _ (by omega)))), hk _ (by omega)⟩
    · have hu : r1.is [60] = false := by
        cases hu : r1.is [60]
        · rfl
        · have := (Rd.is_kind hs).2.2
          rw [(Rd.is_kind hu).2.2] at this
          simp at this
      rw [hu] at hrun ci
      simp only [Bool.or_false, Bool.false_eq_true, if_false, if_true, Option.map_eq_some_iff, Prod.mk.injEq] at hrun ct
      obtain ⟨⟨b, r2⟩, hb, rfl, rfl⟩ := hrun
      obtain ⟨k2, n2, c2⟩ := h1 r1.adv (Rd.ok_adv k1 (Rd.is_4 hs)) b r2 hb
      have c3 := two_c 12 a b r1.next
      simp only [encEx_eq, encMk] at c2 c3
      refine ⟨k2, n2.trans n1, ?_⟩
      intro id mem nx K hl hi hk
      simp only [encEx_eq] at hk
      refine ct77 (by simp) fun hfr => ?_
      simp -implicitDefEqProofs (maxDischargeDepth := 80) (maxSteps := 1000000) [ac77, hl, hi, neC hi, neA, ltA, encRd, encMk, encEx_eq]
      refine clK_of ((c1) (by simp -implicitDefEqProofs (maxDischargeDepth := 80) (maxSteps := 1000000) [hl, hi, neC hi, neA, ltA, encRd, encMk, encEx_eq]) (by omega) (fun m1 hm1 => ?_))
      have im1 : id < m1 := by omega
      simp -implicitDefEqProofs (maxDischargeDepth := 80) (maxSteps := 1000000) [hl, hi, neC hi, neA, ltA, encRd, encMk, encEx_eq, neE hm1, ltF hm1]
      refine clK_of ((cn) (by simp -implicitDefEqProofs (maxDischargeDepth := 80) (maxSteps := 1000000) [hl, hi, neC hi, neA, ltA, encRd, encMk, encEx_eq, neE hm1, ltF hm1]) (by omega) (fun m2 hm2 => ?_))
      have im2 : id < m2 := by omega
      simp -implicitDefEqProofs (maxDischargeDepth := 80) (maxSteps := 1000000) [hl, hi, neC hi, neA, ltA, encRd, encMk, encEx_eq, neE hm1, ltF hm1, neE hm2, ltF hm2]
      refine clK_of ((ci) (by simp -implicitDefEqProofs (maxDischargeDepth := 80) (maxSteps := 1000000) [hl, hi, neC hi, neA, ltA, encRd, encMk, encEx_eq, neE hm1, ltF hm1, neE hm2, ltF hm2]) (by omega) (fun m3 hm3 => ?_))
      have im3 : id < m3 := by omega
      simp -implicitDefEqProofs (maxDischargeDepth := 80) (maxSteps := 1000000) [hl, hi, neC hi, neA, ltA, encRd, encMk, encEx_eq, neE hm1, ltF hm1, neE hm2, ltF hm2, neE hm3, ltF hm3]
      refine clK_of ((ct) (by simp -implicitDefEqProofs (maxDischargeDepth := 80) (maxSteps := 1000000) [hl, hi, neC hi, neA, ltA, encRd, encMk, encEx_eq, neE hm1, ltF hm1, neE hm2, ltF hm2, neE hm3, ltF hm3]) (by omega) (fun m4 hm4 => ?_))
      have im4 : id < m4 := by omega
      simp -implicitDefEqProofs (maxDischargeDepth := 80) (maxSteps := 1000000) [hl, hi, neC hi, neA, ltA, encRd, encMk, encEx_eq, neE hm1, ltF hm1, neE hm2, ltF hm2, neE hm3, ltF hm3, neE hm4, ltF hm4]
      refine clK_of ((c2) (by simp -implicitDefEqProofs (maxDischargeDepth := 80) (maxSteps := 1000000) [hl, hi, neC hi, neA, ltA, encRd, encMk, encEx_eq, neE hm1, ltF hm1, neE hm2, ltF hm2, neE hm3, ltF hm3, neE hm4, ltF hm4]) (by omega) (fun m6 hm6 => ?_))
      have im6 : id < m6 := by omega
      simp -implicitDefEqProofs (maxDischargeDepth := 80) (maxSteps := 1000000) [hl, hi, neC hi, neA, ltA, encRd, encMk, encEx_eq, neE hm1, ltF hm1, neE hm2, ltF hm2, neE hm3, ltF hm3, neE hm4, ltF hm4, neE hm6, ltF hm6]
      refine pcK_of (c3) (by simp) ?_
      simp -implicitDefEqProofs (maxDischargeDepth := 80) (maxSteps := 1000000) [hl, hi, neC hi, neA, ltA, encRd, encMk, encEx_eq, neE hm1, ltF hm1, neE hm2, ltF hm2, neE hm3, ltF hm3, neE hm4, ltF hm4, neE hm6, ltF hm6]
      exact ⟨_, (by repeat (first | exact memSub_refl _ | refine memSub_skip ?_ (look_upd_none (hfr _ (by omega))) | refine memSub_skip ?_ (hfr _ (by omega)))), hk _ (by omega)⟩
theorem sumL_ok {N : Nat} (h1 : ∀ k, k < N → ∀ r, r.ok → EC 80 [] (termF k r) r) : ∀ n a (r : Rd) e r', n ≤ N → r.ok → sumLF n a r = some (e, r') → r'.ok ∧ r'.nest = r.nest := by
  intro n
  induction n with
  | zero => intro a r e r' _ _ h; simp [sumLF] at h
  | succ n ih =>
    intro a r e r' hn h hrun
    unfold sumLF at hrun
    split at hrun
    · rename_i hs
      cases hc : termF n r.adv with
      | none => rw [hc] at hrun; simp at hrun
      | some p =>
        obtain ⟨b, r2⟩ := p
        rw [hc] at hrun
        simp only [Option.bind_some] at hrun
        have h4 : r.next.kind ≠ 4 := by
          rcases Bool.or_eq_true_iff.1 hs with h | h
          · exact Rd.is_4 h
          · exact Rd.is_4 h
        obtain ⟨k2, n2, _⟩ := h1 n (by omega) r.adv (Rd.ok_adv h h4) b r2 hc
        obtain ⟨k3, n3⟩ := ih _ r2 e r' (by omega) k2 hrun
        exact ⟨k3, n3.trans n2⟩
    · simp only [Option.some.injEq, Prod.mk.injEq] at hrun
      obtain ⟨_, rfl⟩ := hrun
      exact ⟨h, rfl⟩
theorem sum_s {n : Nat} (h1 : ∀ k, k ≤ n → ∀ r, r.ok → EC 80 [] (termF k r) r) :
    ∀ r, r.ok → EC 79 [] (sumF (n + 1) r) r := by
  intro r h e r' hrun
  unfold sumF at hrun
  cases hc : termF n r with
  | none => rw [hc] at hrun; simp at hrun
  | some p =>
    obtain ⟨a, r1⟩ := p
    rw [hc] at hrun
    simp only [Option.bind_some] at hrun
    obtain ⟨k1, n1, c1⟩ := h1 n (Nat.le_refl _) r h a r1 hc
    obtain ⟨k9, n9⟩ := sumL_ok (N := n) (fun k hk => h1 k (by omega)) n a r1 e r' (Nat.le_refl _) k1 hrun
    refine ⟨k9, n9.trans n1, ?_⟩
    simp only [encEx_eq] at c1
    intro id mem nx K hl hi hk
    simp only [encEx_eq] at hk
    refine ct79 (by simp) fun hfr => ?_
    simp -implicitDefEqProofs (maxDischargeDepth := 80) (maxSteps := 1000000) [ac79, hl, hi, neC hi, neA, ltA, encRd, encMk, encEx_eq]
    refine clK_of ((c1) (by simp -implicitDefEqProofs (maxDischargeDepth := 80) (maxSteps := 1000000) [hl, hi, neC hi, neA, ltA, encRd, encMk, encEx_eq]) (by omega) (fun m1 hm1 => ?_))
    have im1 : id < m1 := by omega
    simp -implicitDefEqProofs (maxDischargeDepth := 80) (maxSteps := 1000000) [hl, hi, neC hi, neA, ltA, encRd, encMk, encEx_eq, neE hm1, ltF hm1]
    refine lp79_0 (α := Nat × Ex × Rd) (fun _ _ => []) (fun s _ => (nx + 1 + 2, .box (encEx s.2.1)) :: (nx, .box [I 0, Tx [], Tx [], I 0, CX 0 0, .pl (.slice none 0 0), I 0]) :: upd mem id (.box (encRd s.2.2)))
      (fun s m => nx + 1 + 3 ≤ m ∧ s.1 ≤ n ∧ s.2.2.ok ∧ sumLF s.1 s.2.1 s.2.2 = some (e, r')) (fun s => s.1) (n, a, r1) ⟨by omega, Nat.le_refl _, k1, hrun⟩ (by simp) (by simp [encEx_eq, encRd]) ?_
    rintro ⟨f, x, q⟩ m ⟨hm, hf, hq, hrun⟩
    simp only at hf hq hrun
    cases f with
    | zero => simp [sumLF] at hrun
    | succ f =>
      unfold sumLF at hrun
      have ci := is_c hq [43]
      have cj := is_c hq [45]
      have cn := next_c hq
      simp only [encMk] at cn
      have hl2 := hq.lt
      have hl3 := hq.len
      have w := wr64 (x := (q.at' : Int) + 1) (by omega) (by omega)
      have step : ∀ b r2, q.next.kind ≠ 4 → termF f q.adv = some (b, r2) → r2.ok ∧ RC 80 [] q.adv r2 (.agg (encEx b)) := fun b r2 h4 hb => by
        obtain ⟨k2, _, c2⟩ := h1 f (by omega) q.adv (Rd.ok_adv hq h4) b r2 hb
        exact ⟨k2, c2⟩
      have body : (q.is [43] || q.is [45]) = true → ∃ b r2, (r2.ok ∧ RC 80 [] q.adv r2 (.agg (encEx b))) ∧ sumLF f (two (if q.next.text = [45] then 9 else 8) x b q.next) r2 = some (e, r') := fun hs => by
        rw [if_pos hs] at hrun
        cases hc : termF f q.adv with
        | none => rw [hc] at hrun; simp at hrun
        | some p =>
          rw [hc] at hrun
          refine ⟨p.1, p.2, step p.1 p.2 ?_ hc, hrun⟩
          rcases Bool.or_eq_true_iff.1 hs with h | h
          · exact Rd.is_4 h
          · exact Rd.is_4 h
      cases hs : q.is [43] <;> rw [hs] at ci
      · cases hu : q.is [45] <;> rw [hu] at cj
        · rw [hs, hu, if_neg (by decide)] at hrun
          simp only [Option.some.injEq, Prod.mk.injEq] at hrun
          obtain ⟨rfl, rfl⟩ := hrun
          simp -implicitDefEqProofs (maxDischargeDepth := 80) (maxSteps := 1000000) [lb79_0, hl, hi, neC hi, neA, ltA, encRd, encMk, encEx_eq, neE hm1, ltF hm1, neE hm, ltF hm]
          refine clK_of ((ci) (by simp -implicitDefEqProofs (maxDischargeDepth := 80) (maxSteps := 1000000) [hl, hi, neC hi, neA, ltA, encRd, encMk, encEx_eq, neE hm1, ltF hm1, neE hm, ltF hm]) (by omega) (fun m2 hm2 => ?_))
          have im2 : id < m2 := by omega
          simp -implicitDefEqProofs (maxDischargeDepth := 80) (maxSteps := 1000000) [hl, hi, neC hi, neA, ltA, encRd, encMk, encEx_eq, neE hm1, ltF hm1, neE hm, ltF hm, neE hm2, ltF hm2]
          refine clK_of ((cj) (by simp -implicitDefEqProofs (maxDischargeDepth := 80) (maxSteps := 1000000) [hl, hi, neC hi, neA, ltA, encRd, encMk, encEx_eq, neE hm1, ltF hm1, neE hm, ltF hm, neE hm2, ltF hm2]) (by omega) (fun m3 hm3 => ?_))
          have im3 : id < m3 := by omega
          simp -implicitDefEqProofs (maxDischargeDepth := 80) (maxSteps := 1000000) [hl, hi, neC hi, neA, ltA, encRd, encMk, encEx_eq, neE hm1, ltF hm1, neE hm, ltF hm, neE hm2, ltF hm2, neE hm3, ltF hm3]
          exact ⟨_, (by repeat (first | exact memSub_refl _ | refine memSub_skip ?_ (look_upd_none (hfr _ (by omega))) | refine memSub_skip ?_ (hfr _ (by omega)))), hk _ (by omega)⟩
        · obtain ⟨b, r2, ⟨k2, c2⟩, hrun2⟩ := body (by rw [hu]; simp)
          have ht : q.next.text = [45] := (Rd.is_kind hu).2.2
          rw [if_pos ht] at hrun2
          have c3 := two_c 9 x b q.next
          simp only [encEx_eq, encMk] at c2 c3
          rw [ht] at c3 cn
          simp -implicitDefEqProofs (maxDischargeDepth := 80) (maxSteps := 1000000) [lb79_0, hl, hi, neC hi, neA, ltA, encRd, encMk, encEx_eq, neE hm1, ltF hm1, neE hm, ltF hm]
          refine clK_of ((ci) (by simp -implicitDefEqProofs (maxDischargeDepth := 80) (maxSteps := 1000000) [hl, hi, neC hi, neA, ltA, encRd, encMk, encEx_eq, neE hm1, ltF hm1, neE hm, ltF hm]) (by omega) (fun m2 hm2 => ?_))
          have im2 : id < m2 := by omega
          simp -implicitDefEqProofs (maxDischargeDepth := 80) (maxSteps := 1000000) [hl, hi, neC hi, neA, ltA, encRd, encMk, encEx_eq, neE hm1, ltF hm1, neE hm, ltF hm, neE hm2, ltF hm2]
          refine clK_of ((cj) (by simp -implicitDefEqProofs (maxDischargeDepth := 80) (maxSteps := 1000000) [hl, hi, neC hi, neA, ltA, encRd, encMk, encEx_eq, neE hm1, ltF hm1, neE hm, ltF hm, neE hm2, ltF hm2]) (by omega) (fun m3 hm3 => ?_))
          have im3 : id < m3 := by omega
          simp -implicitDefEqProofs (maxDischargeDepth := 80) (maxSteps := 1000000) [hl, hi, neC hi, neA, ltA, encRd, encMk, encEx_eq, neE hm1, ltF hm1, neE hm, ltF hm, neE hm2, ltF hm2, neE hm3, ltF hm3]
          refine clK_of ((cn) (by simp -implicitDefEqProofs (maxDischargeDepth := 80) (maxSteps := 1000000) [hl, hi, neC hi, neA, ltA, encRd, encMk, encEx_eq, neE hm1, ltF hm1, neE hm, ltF hm, neE hm2, ltF hm2, neE hm3, ltF hm3]) (by omega) (fun m4 hm4 => ?_))
          have im4 : id < m4 := by omega
          simp -implicitDefEqProofs (maxDischargeDepth := 80) (maxSteps := 1000000) [hl, hi, neC hi, neA, ltA, encRd, encMk, encEx_eq, neE hm1, ltF hm1, neE hm, ltF hm, neE hm2, ltF hm2, neE hm3, ltF hm3, neE hm4, ltF hm4, w]
          refine clK_of ((c2) (by simp -implicitDefEqProofs (maxDischargeDepth := 80) (maxSteps := 1000000) [hl, hi, neC hi, neA, ltA, encRd, encMk, encEx_eq, neE hm1, ltF hm1, neE hm, ltF hm, neE hm2, ltF hm2, neE hm3, ltF hm3, neE hm4, ltF hm4]) (by omega) (fun m5 hm5 => ?_))
          have im5 : id < m5 := by omega
          simp -implicitDefEqProofs (maxDischargeDepth := 80) (maxSteps := 1000000) [hl, hi, neC hi, neA, ltA, encRd, encMk, encEx_eq, neE hm1, ltF hm1, neE hm, ltF hm, neE hm2, ltF hm2, neE hm3, ltF hm3, neE hm4, ltF hm4, neE hm5, ltF hm5]
          refine pcK_of (c3) (by simp) ?_
          simp -implicitDefEqProofs (maxDischargeDepth := 80) (maxSteps := 1000000) [hl, hi, neC hi, neA, ltA, encRd, encMk, encEx_eq, neE hm1, ltF hm1, neE hm, ltF hm, neE hm2, ltF hm2, neE hm3, ltF hm3, neE hm4, ltF hm4, neE hm5, ltF hm5]
          refine again_of (f, two 9 x b q.next, r2) ⟨by omega, by simp only; omega, k2, hrun2⟩ (by simp only; omega) (by simp) ?_
          simp only [encEx_eq, encRd]
          exact (by repeat (first | exact memLe_refl _ | refine memLe_skip ?_ (by simp only [look]; repeat (first | rw [if_neg (by omega)] | exact look_upd_none (hfr _ (by omega)) | exact hfr _ (by omega)))))
      · obtain ⟨b, r2, ⟨k2, c2⟩, hrun2⟩ := body (by rw [hs]; rfl)
        have ht : q.next.text = [43] := (Rd.is_kind hs).2.2
        have ht2 : ¬ q.next.text = [45] := by rw [ht]; simp
        rw [if_neg ht2] at hrun2
        have c3 := two_c 8 x b q.next
        simp only [encEx_eq, encMk] at c2 c3
        rw [ht] at c3 cn
        simp -implicitDefEqProofs (maxDischargeDepth := 80) (maxSteps := 1000000) [lb79_0, hl, hi, neC hi, neA, ltA, encRd, encMk, encEx_eq, neE hm1, ltF hm1, neE hm, ltF hm]
        refine clK_of ((ci) (by simp -implicitDefEqProofs (maxDischargeDepth := 80) (maxSteps := 1000000) [hl, hi, neC hi, neA, ltA, encRd, encMk, encEx_eq, neE hm1, ltF hm1, neE hm, ltF hm]) (by omega) (fun m2 hm2 => ?_))
        have im2 : id < m2 := by omega
        simp -implicitDefEqProofs (maxDischargeDepth := 80) (maxSteps := 1000000) [hl, hi, neC hi, neA, ltA, encRd, encMk, encEx_eq, neE hm1, ltF hm1, neE hm, ltF hm, neE hm2, ltF hm2]
        refine clK_of ((cn) (by simp -implicitDefEqProofs (maxDischargeDepth := 80) (maxSteps := 1000000) [hl, hi, neC hi, neA, ltA, encRd, encMk, encEx_eq, neE hm1, ltF hm1, neE hm, ltF hm, neE hm2, ltF hm2]) (by omega) (fun m4 hm4 => ?_))
        have im4 : id < m4 := by omega
        simp -implicitDefEqProofs (maxDischargeDepth := 80) (maxSteps := 1000000) [hl, hi, neC hi, neA, ltA, encRd, encMk, encEx_eq, neE hm1, ltF hm1, neE hm, ltF hm, neE hm2, ltF hm2, neE hm4, ltF hm4, w]
        refine clK_of ((c2) (by simp -implicitDefEqProofs (maxDischargeDepth := 80) (maxSteps := 1000000) [hl, hi, neC hi, neA, ltA, encRd, encMk, encEx_eq, neE hm1, ltF hm1, neE hm, ltF hm, neE hm2, ltF hm2, neE hm4, ltF hm4]) (by omega) (fun m5 hm5 => ?_))
        have im5 : id < m5 := by omega
        simp -implicitDefEqProofs (maxDischargeDepth := 80) (maxSteps := 1000000) [hl, hi, neC hi, neA, ltA, encRd, encMk, encEx_eq, neE hm1, ltF hm1, neE hm, ltF hm, neE hm2, ltF hm2, neE hm4, ltF hm4, neE hm5, ltF hm5]
        refine pcK_of (c3) (by simp) ?_
        simp -implicitDefEqProofs (maxDischargeDepth := 80) (maxSteps := 1000000) [hl, hi, neC hi, neA, ltA, encRd, encMk, encEx_eq, neE hm1, ltF hm1, neE hm, ltF hm, neE hm2, ltF hm2, neE hm4, ltF hm4, neE hm5, ltF hm5]
        refine again_of (f, two 8 x b q.next, r2) ⟨by omega, by simp only; omega, k2, hrun2⟩ (by simp only; omega) (by simp) ?_
        simp only [encEx_eq, encRd]
        exact (by repeat (first | exact memLe_refl _ | refine memLe_skip ?_ (by simp only [look]; repeat (first | rw [if_neg (by omega)] | exact look_upd_none (hfr _ (by omega)) | exact hfr _ (by omega)))))
end Go.Fx.Ythbainhddfajfaa

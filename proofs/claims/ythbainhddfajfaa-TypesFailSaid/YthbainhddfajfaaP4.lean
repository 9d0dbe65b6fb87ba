/-
  The parser's units: contracts.
-/
import Derived.Test.YthbainhddfajfaaP3
set_option linter.all false
set_option maxRecDepth 100000
set_option maxHeartbeats 4000000

namespace Go.Fx.Ythbainhddfajfaa
open Go Go.Fx Go.Proofs Go.Fx.Flt
theorem word_vals (s : List UInt8) : wordF s = 0 ∨ wordF s = 2 ∨ wordF s = 3 ∨ wordF s = 4 ∨ wordF s = 5 ∨ wordF s = 14 ∨ wordF s = 15 ∨ wordF s = 16 ∨ wordF s = 17 := by
  unfold wordF
  repeat' split
  all_goals simp
theorem unit_s {n : Nat} (h1 : ∀ r, r.ok → EC 66 [] (exprF n r) r) (h2 : ∀ m r, r.ok → EC 82 [.agg (encMk m)] (namedF n m r) r) :
    ∀ r, r.ok → EC 81 [] (unitF (n + 1) r) r := by
  intro r h e r' hrun
  have cn := next_c h
  simp only [encMk] at cn
  have hl2 := h.lt
  have hl3 := h.len
  have w := wr64 (x := (r.at' : Int) + 1) (by omega) (by omega)
  have ct := take_c h [40]
  have cw := word_c r.next.text
  have cf := fail_c h 21
  unfold unitF at hrun
  by_cases g1 : r.why = 0
  · rw [if_neg (by simp [g1])] at hrun
    by_cases g2 : r.next.kind = 2
    · rw [if_pos g2] at hrun
      simp only [Option.some.injEq, Prod.mk.injEq] at hrun
      obtain ⟨rfl, rfl⟩ := hrun
      refine ⟨Rd.ok_adv h (by omega), rfl, ?_⟩
      intro id mem nx K hl hi hk
      simp [encEx_mk, encRd, g1] at hk
      refine CallT_frzR ?_
      refine ct81 (by simp) fun hfr => ?_
      simp -implicitDefEqProofs (maxDischargeDepth := 80) (maxSteps := 1000000) [ac81, hl, hi, neC hi, neA, ltA, encRd, encMk, encEx_eq, g1]
      refine clK_of ((cn) (by simp -implicitDefEqProofs (maxDischargeDepth := 80) (maxSteps := 1000000) [hl, hi, neC hi, neA, ltA, encRd, encMk, encEx_eq, g1]) (by omega) (fun m1 hm1 => ?_))
      have im1 : id < m1 := by omega
      simp -implicitDefEqProofs (maxDischargeDepth := 80) (maxSteps := 1000000) [hl, hi, neC hi, neA, ltA, encRd, encMk, encEx_eq, g1, neE hm1, ltF hm1, g1, g2, w]
      exact kfrz0 (by repeat (first | exact memSub_refl _ | refine memSub_skip ?_ (look_upd_none (hfr _ (by omega))) | refine memSub_skip ?_ (hfr _ (by omega)))) (by simp [frz]) (hk _ (by omega))
    · rw [if_neg g2] at hrun
      by_cases g3 : r.next.kind = 0
      · rw [if_pos g3] at hrun
        obtain ⟨k2, n2, c2⟩ := h2 r.next r.adv (Rd.ok_adv h (by omega)) e r' hrun
        refine ⟨k2, n2, ?_⟩
        intro id mem nx K hl hi hk
        simp only [encEx_eq, encMk, g3] at hk c2
        refine CallT_frzR ?_
        refine ct81 (by simp) fun hfr => ?_
        simp -implicitDefEqProofs (maxDischargeDepth := 80) (maxSteps := 1000000) [ac81, hl, hi, neC hi, neA, ltA, encRd, encMk, encEx_eq, g1]
        refine clK_of ((cn) (by simp -implicitDefEqProofs (maxDischargeDepth := 80) (maxSteps := 1000000) [hl, hi, neC hi, neA, ltA, encRd, encMk, encEx_eq, g1]) (by omega) (fun m1 hm1 => ?_))
        have im1 : id < m1 := by omega
        simp -implicitDefEqProofs (maxDischargeDepth := 80) (maxSteps := 1000000) [hl, hi, neC hi, neA, ltA, encRd, encMk, encEx_eq, g1, neE hm1, ltF hm1, g1, g2, g3, w]
        refine clK_of ((c2) (by simp -implicitDefEqProofs (maxDischargeDepth := 80) (maxSteps := 1000000) [hl, hi, neC hi, neA, ltA, encRd, encMk, encEx_eq, g1, neE hm1, ltF hm1]) (by omega) (fun m2 hm2 => ?_))
        have im2 : id < m2 := by omega
        simp -implicitDefEqProofs (maxDischargeDepth := 80) (maxSteps := 1000000) [hl, hi, neC hi, neA, ltA, encRd, encMk, encEx_eq, g1, neE hm1, ltF hm1, neE hm2, ltF hm2]
        exact kfrz0 (by repeat (first | exact memSub_refl _ | refine memSub_skip ?_ (look_upd_none (hfr _ (by omega))) | refine memSub_skip ?_ (hfr _ (by omega)))) (by simp [frz]) (hk _ (by omega))
      · rw [if_neg g3] at hrun
        cases g4 : r.is [40] <;> rw [g4] at hrun ct
        · rw [if_neg (by decide)] at hrun ct
          by_cases g5 : r.next.kind = 1
          · by_cases g6 : wordF r.next.text = 0
            · rw [if_pos (.inr g6)] at hrun
              simp only [Option.some.injEq, Prod.mk.injEq] at hrun
              obtain ⟨rfl, rfl⟩ := hrun
              refine ⟨Rd.ok_fail h _, nest_fail, ?_⟩
              intro id mem nx K hl hi hk
              simp only [ex0, encEx_mk] at hk
              refine CallT_frzR ?_
              refine ct81 (by simp) fun hfr => ?_
              simp -implicitDefEqProofs (maxDischargeDepth := 80) (maxSteps := 1000000) [ac81, hl, hi, neC hi, neA, ltA, encRd, encMk, encEx_eq, g1]
              refine clK_of ((cn) (by simp -implicitDefEqProofs (maxDischargeDepth := 80) (maxSteps := 1000000) [hl, hi, neC hi, neA, ltA, encRd, encMk, encEx_eq, g1]) (by omega) (fun m1 hm1 => ?_))
              have im1 : id < m1 := by omega
              simp -implicitDefEqProofs (maxDischargeDepth := 80) (maxSteps := 1000000) [hl, hi, neC hi, neA, ltA, encRd, encMk, encEx_eq, g1, neE hm1, ltF hm1, g1, g2, g3, g5]
              refine clK_of ((ct) (by simp -implicitDefEqProofs (maxDischargeDepth := 80) (maxSteps := 1000000) [hl, hi, neC hi, neA, ltA, encRd, encMk, encEx_eq, g1, neE hm1, ltF hm1]) (by omega) (fun m2 hm2 => ?_))
              have im2 : id < m2 := by omega
              simp -implicitDefEqProofs (maxDischargeDepth := 80) (maxSteps := 1000000) [hl, hi, neC hi, neA, ltA, encRd, encMk, encEx_eq, g1, neE hm1, ltF hm1, neE hm2, ltF hm2]
              refine pcK_of (cw) (by simp) ?_
              simp -implicitDefEqProofs (maxDischargeDepth := 80) (maxSteps := 1000000) [hl, hi, neC hi, neA, ltA, encRd, encMk, encEx_eq, g1, neE hm1, ltF hm1, neE hm2, ltF hm2, g5, g6]
              refine clK_of ((cf) (by simp -implicitDefEqProofs (maxDischargeDepth := 80) (maxSteps := 1000000) [hl, hi, neC hi, neA, ltA, encRd, encMk, encEx_eq, g1, neE hm1, ltF hm1, neE hm2, ltF hm2]) (by omega) (fun m3 hm3 => ?_))
              have im3 : id < m3 := by omega
              simp -implicitDefEqProofs (maxDischargeDepth := 80) (maxSteps := 1000000) [hl, hi, neC hi, neA, ltA, encRd, encMk, encEx_eq, g1, neE hm1, ltF hm1, neE hm2, ltF hm2, neE hm3, ltF hm3]
              exact kfrz0 (by repeat (first | exact memSub_refl _ | refine memSub_skip ?_ (look_upd_none (hfr _ (by omega))) | refine memSub_skip ?_ (hfr _ (by omega)))) (by simp [frz]) (hk _ (by omega))
            · rw [if_neg (by simp [g5, g6])] at hrun
              have ka : r.adv.ok := Rd.ok_adv h (by omega)
              by_cases g7 : wordF r.next.text = 5
              · rw [if_pos g7] at hrun
                simp only [Option.some.injEq, Prod.mk.injEq] at hrun
                obtain ⟨rfl, rfl⟩ := hrun
                have cy := typ_c ka
                rw [g7] at cw
                refine ⟨Rd.ok_typ ka, nest_typ, ?_⟩
                intro id mem nx K hl hi hk
                simp only [encEx_mk] at hk
                refine CallT_frzR ?_
                refine ct81 (by simp) fun hfr => ?_
                simp -implicitDefEqProofs (maxDischargeDepth := 80) (maxSteps := 1000000) [ac81, hl, hi, neC hi, neA, ltA, encRd, encMk, encEx_eq, g1]
                refine clK_of ((cn) (by simp -implicitDefEqProofs (maxDischargeDepth := 80) (maxSteps := 1000000) [hl, hi, neC hi, neA, ltA, encRd, encMk, encEx_eq, g1]) (by omega) (fun m1 hm1 => ?_))
                have im1 : id < m1 := by omega
                simp -implicitDefEqProofs (maxDischargeDepth := 80) (maxSteps := 1000000) [hl, hi, neC hi, neA, ltA, encRd, encMk, encEx_eq, g1, neE hm1, ltF hm1, g1, g2, g3, g5]
                refine clK_of ((ct) (by simp -implicitDefEqProofs (maxDischargeDepth := 80) (maxSteps := 1000000) [hl, hi, neC hi, neA, ltA, encRd, encMk, encEx_eq, g1, neE hm1, ltF hm1]) (by omega) (fun m2 hm2 => ?_))
                have im2 : id < m2 := by omega
                simp -implicitDefEqProofs (maxDischargeDepth := 80) (maxSteps := 1000000) [hl, hi, neC hi, neA, ltA, encRd, encMk, encEx_eq, g1, neE hm1, ltF hm1, neE hm2, ltF hm2]
                refine pcK_of (cw) (by simp) ?_
                simp -implicitDefEqProofs (maxDischargeDepth := 80) (maxSteps := 1000000) [hl, hi, neC hi, neA, ltA, encRd, encMk, encEx_eq, g1, neE hm1, ltF hm1, neE hm2, ltF hm2, g5, w]
                refine pcK_of (cw) (by simp) ?_
                simp -implicitDefEqProofs (maxDischargeDepth := 80) (maxSteps := 1000000) [hl, hi, neC hi, neA, ltA, encRd, encMk, encEx_eq, g1, neE hm1, ltF hm1, neE hm2, ltF hm2]
                refine clK_of ((cy) (by simp -implicitDefEqProofs (maxDischargeDepth := 80) (maxSteps := 1000000) [hl, hi, neC hi, neA, ltA, encRd, encMk, encEx_eq, g1, neE hm1, ltF hm1, neE hm2, ltF hm2]) (by omega) (fun m3 hm3 => ?_))
                have im3 : id < m3 := by omega
                simp -implicitDefEqProofs (maxDischargeDepth := 80) (maxSteps := 1000000) [hl, hi, neC hi, neA, ltA, encRd, encMk, encEx_eq, g1, neE hm1, ltF hm1, neE hm2, ltF hm2, neE hm3, ltF hm3]
                exact kfrz0 (by repeat (first | exact memSub_refl _ | refine memSub_skip ?_ (look_upd_none (hfr _ (by omega))) | refine memSub_skip ?_ (hfr _ (by omega)))) (by simp [frz]) (hk _ (by omega))
              · rw [if_neg g7] at hrun
                by_cases g8 : 14 ≤ wordF r.next.text
                · rw [if_pos g8] at hrun
                  simp only [Option.map_eq_some_iff, Prod.mk.injEq] at hrun
                  obtain ⟨⟨x, q⟩, hx, rfl, rfl⟩ := hrun
                  have cy := want_c ka [40]
                  obtain ⟨k2, n2, c2⟩ := h1 (r.adv.want [40]) (Rd.ok_want ka _) x q hx
                  have cz := want_c k2 [41]
                  have hv : wordF r.next.text = 14 ∨ wordF r.next.text = 15 ∨ wordF r.next.text = 16 ∨ wordF r.next.text = 17 := by
                    have := word_vals r.next.text
                    omega
                  refine ⟨Rd.ok_want k2 _, nest_want.trans (n2.trans nest_want), ?_⟩
                  intro id mem nx K hl hi hk
                  simp only [encEx_mk, em_1] at hk
                  simp only [encEx_eq] at hk c2
                  generalize wordF r.next.text = v at *
                  refine CallT_frzR ?_
                  refine ct81 (by simp) fun hfr => ?_
                  rcases hv with rfl | rfl | rfl | rfl
                  all_goals
                    simp -implicitDefEqProofs (maxDischargeDepth := 80) (maxSteps := 1000000) [ac81, hl, hi, neC hi, neA, ltA, encRd, encMk, encEx_eq, g1]
                    refine clK_of ((cn) (by simp -implicitDefEqProofs (maxDischargeDepth := 80) (maxSteps := 1000000) [hl, hi, neC hi, neA, ltA, encRd, encMk, encEx_eq, g1]) (by omega) (fun m1 hm1 => ?_))
                    have im1 : id < m1 := by omega
                    simp -implicitDefEqProofs (maxDischargeDepth := 80) (maxSteps := 1000000) [hl, hi, neC hi, neA, ltA, encRd, encMk, encEx_eq, g1, neE hm1, ltF hm1, g1, g2, g3, g5]
                    refine clK_of ((ct) (by simp -implicitDefEqProofs (maxDischargeDepth := 80) (maxSteps := 1000000) [hl, hi, neC hi, neA, ltA, encRd, encMk, encEx_eq, g1, neE hm1, ltF hm1]) (by omega) (fun m2 hm2 => ?_))
                    have im2 : id < m2 := by omega
                    simp -implicitDefEqProofs (maxDischargeDepth := 80) (maxSteps := 1000000) [hl, hi, neC hi, neA, ltA, encRd, encMk, encEx_eq, g1, neE hm1, ltF hm1, neE hm2, ltF hm2]
                    refine pcK_of (cw) (by simp) ?_
                    simp -implicitDefEqProofs (maxDischargeDepth := 80) (maxSteps := 1000000) [hl, hi, neC hi, neA, ltA, encRd, encMk, encEx_eq, g1, neE hm1, ltF hm1, neE hm2, ltF hm2, g5, w]
                    refine pcK_of (cw) (by simp) ?_
                    simp -implicitDefEqProofs (maxDischargeDepth := 80) (maxSteps := 1000000) [hl, hi, neC hi, neA, ltA, encRd, encMk, encEx_eq, g1, neE hm1, ltF hm1, neE hm2, ltF hm2]
                    refine clK_of ((cy) (by simp -implicitDefEqProofs (maxDischargeDepth := 80) (maxSteps := 1000000) [hl, hi, neC hi, neA, ltA, encRd, encMk, encEx_eq, g1, neE hm1, ltF hm1, neE hm2, ltF hm2]) (by omega) (fun m3 hm3 => ?_))
                    have im3 : id < m3 := by omega
                    simp -implicitDefEqProofs (maxDischargeDepth := 80) (maxSteps := 1000000) [hl, hi, neC hi, neA, ltA, encRd, encMk, encEx_eq, g1, neE hm1, ltF hm1, neE hm2, ltF hm2, neE hm3, ltF hm3]
                    refine clK_of ((c2) (by simp -implicitDefEqProofs (maxDischargeDepth := 80) (maxSteps := 1000000) [hl, hi, neC hi, neA, ltA, encRd, encMk, encEx_eq, g1, neE hm1, ltF hm1, neE hm2, ltF hm2, neE hm3, ltF hm3]) (by omega) (fun m4 hm4 => ?_))
                    have im4 : id < m4 := by omega
                    simp -implicitDefEqProofs (maxDischargeDepth := 80) (maxSteps := 1000000) [hl, hi, neC hi, neA, ltA, encRd, encMk, encEx_eq, g1, neE hm1, ltF hm1, neE hm2, ltF hm2, neE hm3, ltF hm3, neE hm4, ltF hm4]
                    refine clK_of ((cz) (by simp -implicitDefEqProofs (maxDischargeDepth := 80) (maxSteps := 1000000) [hl, hi, neC hi, neA, ltA, encRd, encMk, encEx_eq, g1, neE hm1, ltF hm1, neE hm2, ltF hm2, neE hm3, ltF hm3, neE hm4, ltF hm4]) (by omega) (fun m5 hm5 => ?_))
                    have im5 : id < m5 := by omega
                    simp -implicitDefEqProofs (maxDischargeDepth := 80) (maxSteps := 1000000) [hl, hi, neC hi, neA, ltA, encRd, encMk, encEx_eq, g1, neE hm1, ltF hm1, neE hm2, ltF hm2, neE hm3, ltF hm3, neE hm4, ltF hm4, neE hm5, ltF hm5]
                    exact kfrz0 (by repeat (first | exact memSub_refl _ | refine memSub_skip ?_ (look_upd_none (hfr _ (by omega))) | refine memSub_skip ?_ (hfr _ (by omega)))) (by simp [frz]) (hk _ (by omega))
                · rw [if_neg g8] at hrun
                  simp only [Option.some.injEq, Prod.mk.injEq] at hrun
                  obtain ⟨rfl, rfl⟩ := hrun
                  have hv : wordF r.next.text = 2 ∨ wordF r.next.text = 3 ∨ wordF r.next.text = 4 := by
                    have := word_vals r.next.text
                    omega
                  refine ⟨ka, rfl, ?_⟩
                  intro id mem nx K hl hi hk
                  simp [encEx_mk, encRd, g1] at hk
                  generalize wordF r.next.text = v at *
                  refine CallT_frzR ?_
                  refine ct81 (by simp) fun hfr => ?_
                  rcases hv with rfl | rfl | rfl
                  all_goals
                    simp -implicitDefEqProofs (maxDischargeDepth := 80) (maxSteps := 1000000) [ac81, hl, hi, neC hi, neA, ltA, encRd, encMk, encEx_eq, g1]
                    refine clK_of ((cn) (by simp -implicitDefEqProofs (maxDischargeDepth := 80) (maxSteps := 1000000) [hl, hi, neC hi, neA, ltA, encRd, encMk, encEx_eq, g1]) (by omega) (fun m1 hm1 => ?_))
                    have im1 : id < m1 := by omega
                    simp -implicitDefEqProofs (maxDischargeDepth := 80) (maxSteps := 1000000) [hl, hi, neC hi, neA, ltA, encRd, encMk, encEx_eq, g1, neE hm1, ltF hm1, g1, g2, g3, g5]
                    refine clK_of ((ct) (by simp -implicitDefEqProofs (maxDischargeDepth := 80) (maxSteps := 1000000) [hl, hi, neC hi, neA, ltA, encRd, encMk, encEx_eq, g1, neE hm1, ltF hm1]) (by omega) (fun m2 hm2 => ?_))
                    have im2 : id < m2 := by omega
                    simp -implicitDefEqProofs (maxDischargeDepth := 80) (maxSteps := 1000000) [hl, hi, neC hi, neA, ltA, encRd, encMk, encEx_eq, g1, neE hm1, ltF hm1, neE hm2, ltF hm2]
                    refine pcK_of (cw) (by simp) ?_
                    simp -implicitDefEqProofs (maxDischargeDepth := 80) (maxSteps := 1000000) [hl, hi, neC hi, neA, ltA, encRd, encMk, encEx_eq, g1, neE hm1, ltF hm1, neE hm2, ltF hm2, g5, w]
                    refine pcK_of (cw) (by simp) ?_
                    simp -implicitDefEqProofs (maxDischargeDepth := 80) (maxSteps := 1000000) [hl, hi, neC hi, neA, ltA, encRd, encMk, encEx_eq, g1, neE hm1, ltF hm1, neE hm2, ltF hm2]
                    exact kfrz0 (by repeat (first | exact memSub_refl _ | refine memSub_skip ?_ (look_upd_none (hfr _ (by omega))) | refine memSub_skip ?_ (hfr _ (by omega)))) (by simp [frz]) (hk _ (by omega))
          · rw [if_pos (.inl g5)] at hrun
            simp only [Option.some.injEq, Prod.mk.injEq] at hrun
            obtain ⟨rfl, rfl⟩ := hrun
            refine ⟨Rd.ok_fail h _, nest_fail, ?_⟩
            intro id mem nx K hl hi hk
            simp only [ex0, encEx_mk] at hk
            refine CallT_frzR ?_
            refine ct81 (by simp) fun hfr => ?_
            simp -implicitDefEqProofs (maxDischargeDepth := 80) (maxSteps := 1000000) [ac81, hl, hi, neC hi, neA, ltA, encRd, encMk, encEx_eq, g1]
            refine clK_of ((cn) (by simp -implicitDefEqProofs (maxDischargeDepth := 80) (maxSteps := 1000000) [hl, hi, neC hi, neA, ltA, encRd, encMk, encEx_eq, g1]) (by omega) (fun m1 hm1 => ?_))
            have im1 : id < m1 := by omega
            simp -implicitDefEqProofs (maxDischargeDepth := 80) (maxSteps := 1000000) [hl, hi, neC hi, neA, ltA, encRd, encMk, encEx_eq, g1, neE hm1, ltF hm1, g1, g2, g3, g5]
            refine clK_of ((ct) (by simp -implicitDefEqProofs (maxDischargeDepth := 80) (maxSteps := 1000000) [hl, hi, neC hi, neA, ltA, encRd, encMk, encEx_eq, g1, neE hm1, ltF hm1]) (by omega) (fun m2 hm2 => ?_))
            have im2 : id < m2 := by omega
            simp -implicitDefEqProofs (maxDischargeDepth := 80) (maxSteps := 1000000) [hl, hi, neC hi, neA, ltA, encRd, encMk, encEx_eq, g1, neE hm1, ltF hm1, neE hm2, ltF hm2, g5]
            refine clK_of ((cf) (by simp -implicitDefEqProofs (maxDischargeDepth := 80) (maxSteps := 1000000) [hl, hi, neC hi, neA, ltA, encRd, encMk, encEx_eq, g1, neE hm1, ltF hm1, neE hm2, ltF hm2]) (by omega) (fun m3 hm3 => ?_))
            have im3 : id < m3 := by omega
            simp -implicitDefEqProofs (maxDischargeDepth := 80) (maxSteps := 1000000) [hl, hi, neC hi, neA, ltA, encRd, encMk, encEx_eq, g1, neE hm1, ltF hm1, neE hm2, ltF hm2, neE hm3, ltF hm3]
            exact kfrz0 (by repeat (first | exact memSub_refl _ | refine memSub_skip ?_ (look_upd_none (hfr _ (by omega))) | refine memSub_skip ?_ (hfr _ (by omega)))) (by simp [frz]) (hk _ (by omega))
        · rw [if_pos rfl] at hrun ct
          simp only [Option.map_eq_some_iff, Prod.mk.injEq] at hrun
          obtain ⟨⟨x, q⟩, hx, rfl, rfl⟩ := hrun
          obtain ⟨k2, n2, c2⟩ := h1 r.adv (Rd.ok_adv h (Rd.is_4 g4)) x q hx
          have cz := want_c k2 [41]
          refine ⟨Rd.ok_want k2 _, nest_want.trans n2, ?_⟩
          intro id mem nx K hl hi hk
          simp only [encEx_eq] at hk c2
          refine CallT_frzR ?_
          refine ct81 (by simp) fun hfr => ?_
          simp -implicitDefEqProofs (maxDischargeDepth := 80) (maxSteps := 1000000) [ac81, hl, hi, neC hi, neA, ltA, encRd, encMk, encEx_eq, g1]
          refine clK_of ((cn) (by simp -implicitDefEqProofs (maxDischargeDepth := 80) (maxSteps := 1000000) [hl, hi, neC hi, neA, ltA, encRd, encMk, encEx_eq, g1]) (by omega) (fun m1 hm1 => ?_))
          have im1 : id < m1 := by omega
          simp -implicitDefEqProofs (maxDischargeDepth := 80) (maxSteps := 1000000) [hl, hi, neC hi, neA, ltA, encRd, encMk, encEx_eq, g1, neE hm1, ltF hm1, g1, g2, g3]
          refine clK_of ((ct) (by simp -implicitDefEqProofs (maxDischargeDepth := 80) (maxSteps := 1000000) [hl, hi, neC hi, neA, ltA, encRd, encMk, encEx_eq, g1, neE hm1, ltF hm1]) (by omega) (fun m2 hm2 => ?_))
          have im2 : id < m2 := by omega
          simp -implicitDefEqProofs (maxDischargeDepth := 80) (maxSteps := 1000000) [hl, hi, neC hi, neA, ltA, encRd, encMk, encEx_eq, g1, neE hm1, ltF hm1, neE hm2, ltF hm2]
          refine clK_of ((c2) (by simp -implicitDefEqProofs (maxDischargeDepth := 80) (maxSteps := 1000000) [hl, hi, neC hi, neA, ltA, encRd, encMk, encEx_eq, g1, neE hm1, ltF hm1, neE hm2, ltF hm2]) (by omega) (fun m3 hm3 => ?_))
          have im3 : id < m3 := by omega
          simp -implicitDefEqProofs (maxDischargeDepth := 80) (maxSteps := 1000000) [hl, hi, neC hi, neA, ltA, encRd, encMk, encEx_eq, g1, neE hm1, ltF hm1, neE hm2, ltF hm2, neE hm3, ltF hm3]
          refine clK_of ((cz) (by simp -implicitDefEqProofs (maxDischargeDepth := 80) (maxSteps := 1000000) [hl, hi, neC hi, neA, ltA, encRd, encMk, encEx_eq, g1, neE hm1, ltF hm1, neE hm2, ltF hm2, neE hm3, ltF hm3]) (by omega) (fun m4 hm4 => ?_))
          have im4 : id < m4 := by omega
          simp -implicitDefEqProofs (maxDischargeDepth := 80) (maxSteps := 1000000) [hl, hi, neC hi, neA, ltA, encRd, encMk, encEx_eq, g1, neE hm1, ltF hm1, neE hm2, ltF hm2, neE hm3, ltF hm3, neE hm4, ltF hm4]
          exact kfrz0 (by repeat (first | exact memSub_refl _ | refine memSub_skip ?_ (look_upd_none (hfr _ (by omega))) | refine memSub_skip ?_ (hfr _ (by omega)))) (by simp [frz]) (hk _ (by omega))
  · rw [if_pos g1] at hrun
    simp only [Option.some.injEq, Prod.mk.injEq] at hrun
    obtain ⟨rfl, rfl⟩ := hrun
    refine ⟨h, rfl, ?_⟩
    intro id mem nx K hl hi hk
    rw [upd_self hl] at hk
    simp only [ex0, encEx_mk] at hk
    refine CallT_frzR ?_
    refine ct81 (by simp) fun hfr => ?_
    simp -implicitDefEqProofs (maxDischargeDepth := 80) (maxSteps := 1000000) [ac81, hl, hi, neC hi, neA, ltA, encRd, encMk, encEx_eq]
    refine clK_of ((cn) (by simp -implicitDefEqProofs (maxDischargeDepth := 80) (maxSteps := 1000000) [hl, hi, neC hi, neA, ltA, encRd, encMk, encEx_eq]) (by omega) (fun m1 hm1 => ?_))
    have im1 : id < m1 := by omega
    simp -implicitDefEqProofs (maxDischargeDepth := 80) (maxSteps := 1000000) [hl, hi, neC hi, neA, ltA, encRd, encMk, encEx_eq, neE hm1, ltF hm1, g1]
    exact kfrz0 (by repeat (first | exact memSub_refl _ | refine memSub_skip ?_ (look_upd_none (hfr _ (by omega))) | refine memSub_skip ?_ (hfr _ (by omega)))) (by simp [frz]) (hk _ (by omega))
end Go.Fx.Ythbainhddfajfaa

/-
  The parser's calls: contract.
-/
import Derived.Test.YthbainhddfajfaaP4
set_option linter.all false
set_option maxRecDepth 100000
set_option maxHeartbeats 4000000

namespace Go.Fx.Ythbainhddfajfaa
open Go Go.Fx Go.Proofs Go.Fx.Flt
theorem namedL_ok {N : Nat} (h1 : ∀ k, k < N → ∀ r, r.ok → EC 66 [] (exprF k r) r) : ∀ n l (r : Rd) L r', n ≤ N → r.ok → namedLF n l r = some (L, r') → r'.ok ∧ r'.nest = r.nest := by
  intro n
  induction n with
  | zero => intro a r e r' _ _ h; simp [namedLF] at h
  | succ n ih =>
    intro l r L r' hn h hrun
    unfold namedLF at hrun
    split at hrun
    · have hq : (if l = [] then r else r.want [44]).ok ∧ (if l = [] then r else r.want [44]).nest = r.nest := by
        split
        · exact ⟨h, rfl⟩
        · exact ⟨Rd.ok_want h _, nest_want⟩
      cases hc : exprF n (if l = [] then r else r.want [44]) with
      | none => rw [hc] at hrun; simp at hrun
      | some p =>
        rw [hc] at hrun
        obtain ⟨k2, n2, _⟩ := h1 n (by omega) _ hq.1 p.1 p.2 hc
        obtain ⟨k3, n3⟩ := ih _ p.2 L r' (by omega) k2 hrun
        exact ⟨k3, n3.trans (n2.trans hq.2)⟩
    · simp only [Option.some.injEq, Prod.mk.injEq] at hrun
      obtain ⟨_, rfl⟩ := hrun
      exact ⟨h, rfl⟩
theorem named_s {n : Nat} (hN : n ≤ 2 ^ 40) (h1 : ∀ k, k ≤ n → ∀ r, r.ok → EC 66 [] (exprF k r) r) :
    ∀ m r, r.ok → EC 82 [.agg (encMk m)] (namedF (n + 1) m r) r := by
  intro mk r h e r' hrun
  have ct := take_c h [40]
  unfold namedF at hrun
  cases hs : r.is [40] <;> rw [hs] at hrun ct
  · simp only [Bool.false_eq_true, if_false, Option.some.injEq, Prod.mk.injEq] at hrun ct
    obtain ⟨rfl, rfl⟩ := hrun
    refine ⟨h, rfl, ?_⟩
    intro id mem nx K hl hi hk
    simp only [encEx_mk] at hk
    refine CallT_frzR ?_
    refine ct82 (by simp) fun hfr => ?_
    simp -implicitDefEqProofs (maxDischargeDepth := 80) (maxSteps := 1000000) [ac82, hl, hi, neC hi, neA, ltA, encRd, encMk, encEx_eq]
    refine clK_of ((ct) (by simp -implicitDefEqProofs (maxDischargeDepth := 80) (maxSteps := 1000000) [hl, hi, neC hi, neA, ltA, encRd, encMk, encEx_eq]) (by omega) (fun m1 hm1 => ?_))
    have im1 : id < m1 := by omega
    simp -implicitDefEqProofs (maxDischargeDepth := 80) (maxSteps := 1000000) [hl, hi, neC hi, neA, ltA, encRd, encMk, encEx_eq, neE hm1, ltF hm1]
    exact kfrz0 (by repeat (first | exact memSub_refl _ | refine memSub_skip ?_ (look_upd_none (hfr _ (by omega))) | refine memSub_skip ?_ (hfr _ (by omega)))) (by simp [frz]) (hk _ (by omega))
  · simp only [if_true, Option.map_eq_some_iff, Prod.mk.injEq] at hrun ct
    obtain ⟨⟨L, q⟩, hL, rfl, rfl⟩ := hrun
    have ha := Rd.ok_adv h (Rd.is_4 hs)
    obtain ⟨k9, n9⟩ := namedL_ok (N := n) (fun k hk => h1 k (by omega)) n [] r.adv L q (Nat.le_refl _) ha hL
    have cz := want_c k9 [41]
    refine ⟨Rd.ok_want k9 _, nest_want.trans n9, ?_⟩
    intro id mem nx K hl hi hk
    simp only [encEx_mk] at hk
    refine CallT_frzR ?_
    refine ct82 (by simp) fun hfr => ?_
    simp -implicitDefEqProofs (maxDischargeDepth := 80) (maxSteps := 1000000) [ac82, hl, hi, neC hi, neA, ltA, encRd, encMk, encEx_eq]
    refine clK_of ((ct) (by simp -implicitDefEqProofs (maxDischargeDepth := 80) (maxSteps := 1000000) [hl, hi, neC hi, neA, ltA, encRd, encMk, encEx_eq]) (by omega) (fun m1 hm1 => ?_))
    have im1 : id < m1 := by omega
    simp -implicitDefEqProofs (maxDischargeDepth := 80) (maxSteps := 1000000) [hl, hi, neC hi, neA, ltA, encRd, encMk, encEx_eq, neE hm1, ltF hm1]
    refine A_loop_ownM (id := m1 + 5) (off := 5) (k := 7) (by rw [look_cons, if_pos rfl]) rfl (.inl rfl) ?_
    refine lp82_0 (α := Nat × List Ex × Rd) (fun _ _ => []) (fun s _ => (m1 + 7, .arr s.2.1.length 7 (em encEx s.2.1)) :: (m1 + 5, .box [I 7, Tx mk.text, Tx [], I 0, CX 0 0, .osl (m1 + 7) s.2.1.length 0 s.2.1.length, I mk.at']) :: (nx + 1, .box [I 0, Tx [], Tx [], I 0, CX 0 0, .pl (.slice none 0 0), I 0]) :: upd mem id (.box (encRd s.2.2)))
      (fun s m => m1 + 8 ≤ m ∧ s.1 + s.2.1.length ≤ n ∧ s.2.2.ok ∧ namedLF s.1 s.2.1 s.2.2 = some (L, q)) (fun s => s.1) (n, [], r.adv) ⟨by omega, by simp, ha, hL⟩ (by simp) (by simp [encRd]) ?_
    rintro ⟨f, l, y⟩ m ⟨hm, hf, hy, hrun⟩
    simp only at hf hy hrun
    cases f with
    | zero => simp [namedLF] at hrun
    | succ f =>
      unfold namedLF at hrun
      have ci := is_c hy [41]
      have cw := want_c hy [44]
      have bd : (l.length + 1) * 96 ≤ 3 * 2 ^ 46 := by omega
      by_cases g1 : y.why = 0
      · have hw := hy
        cases hi2 : y.is [41] <;> rw [hi2] at ci
        · rw [if_pos ⟨g1, hi2⟩] at hrun
          by_cases h0 : l = []
          · subst h0
            rw [if_pos rfl] at hrun
            cases hc : exprF f y with
            | none => rw [hc] at hrun; simp at hrun
            | some p =>
              rw [hc] at hrun
              obtain ⟨k2, _, c2⟩ := h1 f (by omega) y hy p.1 p.2 hc
              simp only [encEx_eq] at c2
              simp -implicitDefEqProofs (maxDischargeDepth := 80) (maxSteps := 1000000) [lb82_0, hl, hi, neC hi, neA, ltA, encRd, encMk, encEx_eq, neE hm1, ltF hm1, neE hm, ltF hm, g1]
              refine clK_of ((ci) (by simp -implicitDefEqProofs (maxDischargeDepth := 80) (maxSteps := 1000000) [hl, hi, neC hi, neA, ltA, encRd, encMk, encEx_eq, neE hm1, ltF hm1, neE hm, ltF hm, g1]) (by omega) (fun m2 hm2 => ?_))
              have im2 : id < m2 := by omega
              simp -implicitDefEqProofs (maxDischargeDepth := 80) (maxSteps := 1000000) [hl, hi, neC hi, neA, ltA, encRd, encMk, encEx_eq, neE hm1, ltF hm1, neE hm, ltF hm, g1, neE hm2, ltF hm2]
              refine clK_of ((c2) (by simp -implicitDefEqProofs (maxDischargeDepth := 80) (maxSteps := 1000000) [hl, hi, neC hi, neA, ltA, encRd, encMk, encEx_eq, neE hm1, ltF hm1, neE hm, ltF hm, g1, neE hm2, ltF hm2]) (by omega) (fun m3 hm3 => ?_))
              have im3 : id < m3 := by omega
              simp -implicitDefEqProofs (maxDischargeDepth := 80) (maxSteps := 1000000) [hl, hi, neC hi, neA, ltA, encRd, encMk, encEx_eq, neE hm1, ltF hm1, neE hm, ltF hm, g1, neE hm2, ltF hm2, neE hm3, ltF hm3]
              refine again_of (f, [p.1], p.2) ⟨by omega, by simp only [List.length_cons, List.length_nil] at hf ⊢; omega, k2, hrun⟩ (by simp only; omega) (by simp) ?_
              simp only [em_1, encEx_eq, List.length_cons, List.length_nil]
              exact (by repeat (first | exact memLe_refl _ | refine memLe_skip ?_ (by simp only [look]; repeat (first | rw [if_neg (by omega)] | exact look_upd_none (hfr _ (by omega)) | exact hfr _ (by omega)))))
          · rw [if_neg h0] at hrun
            have hpos := List.length_pos_iff.2 h0
            cases hc : exprF f (y.want [44]) with
            | none => rw [hc] at hrun; simp at hrun
            | some p =>
              rw [hc] at hrun
              obtain ⟨k2, _, c2⟩ := h1 f (by omega) _ (Rd.ok_want hy _) p.1 p.2 hc
              simp only [encEx_eq] at c2
              simp -implicitDefEqProofs (maxDischargeDepth := 80) (maxSteps := 1000000) [lb82_0, hl, hi, neC hi, neA, ltA, encRd, encMk, encEx_eq, neE hm1, ltF hm1, neE hm, ltF hm, g1]
              refine clK_of ((ci) (by simp -implicitDefEqProofs (maxDischargeDepth := 80) (maxSteps := 1000000) [hl, hi, neC hi, neA, ltA, encRd, encMk, encEx_eq, neE hm1, ltF hm1, neE hm, ltF hm, g1]) (by omega) (fun m2 hm2 => ?_))
              have im2 : id < m2 := by omega
              simp -implicitDefEqProofs (maxDischargeDepth := 80) (maxSteps := 1000000) [hl, hi, neC hi, neA, ltA, encRd, encMk, encEx_eq, neE hm1, ltF hm1, neE hm, ltF hm, g1, neE hm2, ltF hm2, hpos]
              refine clK_of ((cw) (by simp -implicitDefEqProofs (maxDischargeDepth := 80) (maxSteps := 1000000) [hl, hi, neC hi, neA, ltA, encRd, encMk, encEx_eq, neE hm1, ltF hm1, neE hm, ltF hm, g1, neE hm2, ltF hm2]) (by omega) (fun m4 hm4 => ?_))
              have im4 : id < m4 := by omega
              simp -implicitDefEqProofs (maxDischargeDepth := 80) (maxSteps := 1000000) [hl, hi, neC hi, neA, ltA, encRd, encMk, encEx_eq, neE hm1, ltF hm1, neE hm, ltF hm, g1, neE hm2, ltF hm2, neE hm4, ltF hm4]
              refine clK_of ((c2) (by simp -implicitDefEqProofs (maxDischargeDepth := 80) (maxSteps := 1000000) [hl, hi, neC hi, neA, ltA, encRd, encMk, encEx_eq, neE hm1, ltF hm1, neE hm, ltF hm, g1, neE hm2, ltF hm2, neE hm4, ltF hm4]) (by omega) (fun m3 hm3 => ?_))
              have im3 : id < m3 := by omega
              simp -implicitDefEqProofs (maxDischargeDepth := 80) (maxSteps := 1000000) [hl, hi, neC hi, neA, ltA, encRd, encMk, encEx_eq, neE hm1, ltF hm1, neE hm, ltF hm, g1, neE hm2, ltF hm2, neE hm4, ltF hm4, neE hm3, ltF hm3]
              have hap := app_Ex l p.1
              rw [encEx_eq p.1] at hap
              refine ⟨by omega, again_of (f, l ++ [p.1], p.2) ⟨by omega, by simp only [List.length_append, List.length_cons, List.length_nil]; omega, k2, hrun⟩ (by simp only; omega) (by simp) ?_⟩
              rw [hap]
              simp only [List.length_append, List.length_cons, List.length_nil, Nat.zero_add]
              exact (by repeat (first | exact memLe_refl _ | refine memLe_skip ?_ (by simp only [look]; repeat (first | rw [if_neg (by omega)] | exact look_upd_none (hfr _ (by omega)) | exact hfr _ (by omega)))))
        · rw [if_neg (by simp [hi2])] at hrun
          simp only [Option.some.injEq, Prod.mk.injEq] at hrun
          obtain ⟨rfl, rfl⟩ := hrun
          simp -implicitDefEqProofs (maxDischargeDepth := 80) (maxSteps := 1000000) [lb82_0, hl, hi, neC hi, neA, ltA, encRd, encMk, encEx_eq, neE hm1, ltF hm1, neE hm, ltF hm, g1, g1]
          refine clK_of ((ci) (by simp -implicitDefEqProofs (maxDischargeDepth := 80) (maxSteps := 1000000) [hl, hi, neC hi, neA, ltA, encRd, encMk, encEx_eq, neE hm1, ltF hm1, neE hm, ltF hm, g1]) (by omega) (fun m2 hm2 => ?_))
          have im2 : id < m2 := by omega
          simp -implicitDefEqProofs (maxDischargeDepth := 80) (maxSteps := 1000000) [hl, hi, neC hi, neA, ltA, encRd, encMk, encEx_eq, neE hm1, ltF hm1, neE hm, ltF hm, g1, neE hm2, ltF hm2]
          refine clK_of ((cz) (by simp -implicitDefEqProofs (maxDischargeDepth := 80) (maxSteps := 1000000) [hl, hi, neC hi, neA, ltA, encRd, encMk, encEx_eq, neE hm1, ltF hm1, neE hm, ltF hm, g1, neE hm2, ltF hm2]) (by omega) (fun m3 hm3 => ?_))
          have im3 : id < m3 := by omega
          simp -implicitDefEqProofs (maxDischargeDepth := 80) (maxSteps := 1000000) [hl, hi, neC hi, neA, ltA, encRd, encMk, encEx_eq, neE hm1, ltF hm1, neE hm, ltF hm, g1, neE hm2, ltF hm2, neE hm3, ltF hm3]
          exact kfrz1 (m1 + 7) _ (by simp -implicitDefEqProofs (maxDischargeDepth := 80) (maxSteps := 1000000) [hl, hi, neC hi, neA, ltA, encRd, encMk, encEx_eq, neE hm1, ltF hm1, neE hm, ltF hm, g1, neE hm2, ltF hm2, neE hm3, ltF hm3]; rfl) (by repeat (first | exact memSub_refl _ | refine memSub_skip ?_ (look_upd_none (hfr _ (by omega))) | refine memSub_skip ?_ (hfr _ (by omega)))) (look_upd_none (hfr _ (by omega))) (by simp [frz, look, List.take_of_length_le]) (hk _ (by omega))
      · rw [if_neg (by simp [g1])] at hrun
        simp only [Option.some.injEq, Prod.mk.injEq] at hrun
        obtain ⟨rfl, rfl⟩ := hrun
        simp -implicitDefEqProofs (maxDischargeDepth := 80) (maxSteps := 1000000) [lb82_0, hl, hi, neC hi, neA, ltA, encRd, encMk, encEx_eq, neE hm1, ltF hm1, neE hm, ltF hm, g1]
        refine clK_of ((cz) (by simp -implicitDefEqProofs (maxDischargeDepth := 80) (maxSteps := 1000000) [hl, hi, neC hi, neA, ltA, encRd, encMk, encEx_eq, neE hm1, ltF hm1, neE hm, ltF hm]) (by omega) (fun m3 hm3 => ?_))
        have im3 : id < m3 := by omega
        simp -implicitDefEqProofs (maxDischargeDepth := 80) (maxSteps := 1000000) [hl, hi, neC hi, neA, ltA, encRd, encMk, encEx_eq, neE hm1, ltF hm1, neE hm, ltF hm, neE hm3, ltF hm3]
        exact kfrz1 (m1 + 7) _ (by simp -implicitDefEqProofs (maxDischargeDepth := 80) (maxSteps := 1000000) [hl, hi, neC hi, neA, ltA, encRd, encMk, encEx_eq, neE hm1, ltF hm1, neE hm, ltF hm, neE hm3, ltF hm3]; rfl) (by repeat (first | exact memSub_refl _ | refine memSub_skip ?_ (look_upd_none (hfr _ (by omega))) | refine memSub_skip ?_ (hfr _ (by omega)))) (look_upd_none (hfr _ (by omega))) (by simp [frz, look, List.take_of_length_le]) (hk _ (by omega))
end Go.Fx.Ythbainhddfajfaa

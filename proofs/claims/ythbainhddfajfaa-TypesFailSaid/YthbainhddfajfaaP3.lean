/-
  The parser's terms and words: contracts.
-/
import Derived.Test.YthbainhddfajfaaP2
set_option linter.all false
set_option maxRecDepth 100000

namespace Go.Fx.Ythbainhddfajfaa
open Go Go.Fx Go.Proofs Go.Fx.Flt
theorem termL_ok {N : Nat} (h1 : ∀ k, k < N → ∀ r, r.ok → EC 81 [] (unitF k r) r) : ∀ n a (r : Rd) e r', n ≤ N → r.ok → termLF n a r = some (e, r') → r'.ok ∧ r'.nest = r.nest := by
  intro n
  induction n with
  | zero => intro a r e r' _ _ h; simp [termLF] at h
  | succ n ih =>
    intro a r e r' hn h hrun
    unfold termLF at hrun
    split at hrun
    · rename_i hs
      cases hc : unitF n r.adv with
      | none => rw [hc] at hrun; simp at hrun
      | some p =>
        obtain ⟨b, r2⟩ := p
        rw [hc] at hrun
        simp only [Option.bind_some] at hrun
        have h4 : r.next.kind ≠ 4 := by
          rcases Bool.or_eq_true_iff.1 hs with h | h
          · exact Rd.is_4 h
          · exact Rd.is_4 h
        obtain ⟨k2, n2, _⟩ := h1 n (by omega) r.adv (Rd.ok_adv h h4) b r2 hc
        obtain ⟨k3, n3⟩ := ih _ r2 e r' (by omega) k2 hrun
        exact ⟨k3, n3.trans n2⟩
    · simp only [Option.some.injEq, Prod.mk.injEq] at hrun
      obtain ⟨_, rfl⟩ := hrun
      exact ⟨h, rfl⟩
theorem term_s {n : Nat} (h1 : ∀ k, k ≤ n → ∀ r, r.ok → EC 81 [] (unitF k r) r) :
    ∀ r, r.ok → EC 80 [] (termF (n + 1) r) r := by
  intro r h e r' hrun
  unfold termF at hrun
  cases hc : unitF n r with
  | none => rw [hc] at hrun; simp at hrun
  | some p =>
    obtain ⟨a, r1⟩ := p
    rw [hc] at hrun
    simp only [Option.bind_some] at hrun
    obtain ⟨k1, n1, c1⟩ := h1 n (Nat.le_refl _) r h a r1 hc
    obtain ⟨k9, n9⟩ := termL_ok (N := n) (fun k hk => h1 k (by omega)) n a r1 e r' (Nat.le_refl _) k1 hrun
    refine ⟨k9, n9.trans n1, ?_⟩
    simp only [encEx_eq] at c1
    intro id mem nx K hl hi hk
    simp only [encEx_eq] at hk
    refine ct80 (by simp) fun hfr => ?_
    simp -implicitDefEqProofs (maxDischargeDepth := 80) (maxSteps := 1000000) [ac80, hl, hi, neC hi, neA, ltA, encRd, encMk, encEx_eq]
    refine clK_of ((c1) (by simp -implicitDefEqProofs (maxDischargeDepth := 80) (maxSteps := 1000000) [hl, hi, neC hi, neA, ltA, encRd, encMk, encEx_eq]) (by omega) (fun m1 hm1 => ?_))
    have im1 : id < m1 := by omega
    simp -implicitDefEqProofs (maxDischargeDepth := 80) (maxSteps := 1000000) [hl, hi, neC hi, neA, ltA, encRd, encMk, encEx_eq, neE hm1, ltF hm1]
    refine lp80_0 (α := Nat × Ex × Rd) (fun _ _ => []) (fun s _ => (nx + 1 + 2, .box (encEx s.2.1)) :: (nx, .box [I 0, Tx [], Tx [], I 0, CX 0 0, .pl (.slice none 0 0), I 0]) :: upd mem id (.box (encRd s.2.2)))
      (fun s m => nx + 1 + 3 ≤ m ∧ s.1 ≤ n ∧ s.2.2.ok ∧ termLF s.1 s.2.1 s.2.2 = some (e, r')) (fun s => s.1) (n, a, r1) ⟨by omega, Nat.le_refl _, k1, hrun⟩ (by simp) (by simp [encEx_eq, encRd]) ?_
    rintro ⟨f, x, q⟩ m ⟨hm, hf, hq, hrun⟩
    simp only at hf hq hrun
    cases f with
    | zero => simp [termLF] at hrun
    | succ f =>
      unfold termLF at hrun
      have ci := is_c hq [42]
      have cj := is_c hq [47]
      have cn := next_c hq
      simp only [encMk] at cn
      have hl2 := hq.lt
      have hl3 := hq.len
      have w := wr64 (x := (q.at' : Int) + 1) (by omega) (by omega)
      have step : ∀ b r2, q.next.kind ≠ 4 → unitF f q.adv = some (b, r2) → r2.ok ∧ RC 81 [] q.adv r2 (.agg (encEx b)) := fun b r2 h4 hb => by
        obtain ⟨k2, _, c2⟩ := h1 f (by omega) q.adv (Rd.ok_adv hq h4) b r2 hb
        exact ⟨k2, c2⟩
      have body : (q.is [42] || q.is [47]) = true → ∃ b r2, (r2.ok ∧ RC 81 [] q.adv r2 (.agg (encEx b))) ∧ termLF f (two (if q.next.text = [47] then 11 else 10) x b q.next) r2 = some (e, r') := fun hs => by
        rw [if_pos hs] at hrun
        cases hc : unitF f q.adv with
        | none => rw [hc] at hrun; simp at hrun
        | some p =>
          rw [hc] at hrun
          refine ⟨p.1, p.2, step p.1 p.2 ?_ hc, hrun⟩
          rcases Bool.or_eq_true_iff.1 hs with h | h
          · exact Rd.is_4 h
          · exact Rd.is_4 h
      cases hs : q.is [42] <;> rw [hs] at ci
      · cases hu : q.is [47] <;> rw [hu] at cj
        · rw [hs, hu, if_neg (by decide)] at hrun
          simp only [Option.some.injEq, Prod.mk.injEq] at hrun
          obtain ⟨rfl, rfl⟩ := hrun
          simp -implicitDefEqProofs (maxDischargeDepth := 80) (maxSteps := 1000000) [lb80_0, hl, hi, neC hi, neA, ltA, encRd, encMk, encEx_eq, neE hm1, ltF hm1, neE hm, ltF hm]
          refine clK_of ((ci) (by simp -implicitDefEqProofs (maxDischargeDepth := 80) (maxSteps := 1000000) [hl, hi, neC hi, neA, ltA, encRd, encMk, encEx_eq, neE hm1, ltF hm1, neE hm, ltF hm]) (by omega) (fun m2 hm2 => ?_))
          have im2 : id < m2 := by omega
          simp -implicitDefEqProofs (maxDischargeDepth := 80) (maxSteps := 1000000) [hl, hi, neC hi, neA, ltA, encRd, encMk, encEx_eq, neE hm1, ltF hm1, neE hm, ltF hm, neE hm2, ltF hm2]
          refine clK_of ((cj) (by simp -implicitDefEqProofs (maxDischargeDepth := 80) (maxSteps := 1000000) [hl, hi, neC hi, neA, ltA, encRd, encMk, encEx_eq, neE hm1, ltF hm1, neE hm, ltF hm, neE hm2, ltF hm2]) (by omega) (fun m3 hm3 => ?_))
          have im3 : id < m3 := by omega
          simp -implicitDefEqProofs (maxDischargeDepth := 80) (maxSteps := 1000000) [hl, hi, neC hi, neA, ltA, encRd, encMk, encEx_eq, neE hm1, ltF hm1, neE hm, ltF hm, neE hm2, ltF hm2, neE hm3, ltF hm3]
          exact ⟨_, (by repeat (first | exact memSub_refl _ | refine memSub_skip ?_ (look_upd_none (hfr _ (by omega))) | refine memSub_skip ?_ (hfr _ (by omega)))), hk _ (by omega)⟩
        · obtain ⟨b, r2, ⟨k2, c2⟩, hrun2⟩ := body (by rw [hu]; simp)
          have ht : q.next.text = [47] := (Rd.is_kind hu).2.2
          rw [if_pos ht] at hrun2
          have c3 := two_c 11 x b q.next
          simp only [encEx_eq, encMk] at c2 c3
          rw [ht] at c3 cn
          simp -implicitDefEqProofs (maxDischargeDepth := 80) (maxSteps := 1000000) [lb80_0, hl, hi, neC hi, neA, ltA, encRd, encMk, encEx_eq, neE hm1, ltF hm1, neE hm, ltF hm]
          refine clK_of ((ci) (by simp -implicitDefEqProofs (maxDischargeDepth := 80) (maxSteps := 1000000) [hl, hi, neC hi, neA, ltA, encRd, encMk, encEx_eq, neE hm1, ltF hm1, neE hm, ltF hm]) (by omega) (fun m2 hm2 => ?_))
          have im2 : id < m2 := by omega
          simp -implicitDefEqProofs (maxDischargeDepth := 80) (maxSteps := 1000000) [hl, hi, neC hi, neA, ltA, encRd, encMk, encEx_eq, neE hm1, ltF hm1, neE hm, ltF hm, neE hm2, ltF hm2]
          refine clK_of ((cj) (by simp -implicitDefEqProofs (maxDischargeDepth := 80) (maxSteps := 1000000) [hl, hi, neC hi, neA, ltA, encRd, encMk, encEx_eq, neE hm1, ltF hm1, neE hm, ltF hm, neE hm2, ltF hm2]) (by omega) (fun m3 hm3 => ?_))
          have im3 : id < m3 := by omega
          simp -implicitDefEqProofs (maxDischargeDepth := 80) (maxSteps := 1000000) [hl, hi, neC hi, neA, ltA, encRd, encMk, encEx_eq, neE hm1, ltF hm1, neE hm, ltF hm, neE hm2, ltF hm2, neE hm3, ltF hm3]
          refine clK_of ((cn) (by simp -implicitDefEqProofs (maxDischargeDepth := 80) (maxSteps := 1000000) [hl, hi, neC hi, neA, ltA, encRd, encMk, encEx_eq, neE hm1, ltF hm1, neE hm, ltF hm, neE hm2, ltF hm2, neE hm3, ltF hm3]) (by omega) (fun m4 hm4 => ?_))
          have im4 : id < m4 := by omega
          simp -implicitDefEqProofs (maxDischargeDepth := 80) (maxSteps := 1000000) [hl, hi, neC hi, neA, ltA, encRd, encMk, encEx_eq, neE hm1, ltF hm1, neE hm, ltF hm, neE hm2, ltF hm2, neE hm3, ltF hm3, neE hm4, ltF hm4, w]
          refine clK_of ((c2) (by simp -implicitDefEqProofs (maxDischargeDepth := 80) (maxSteps := 1000000) [hl, hi, neC hi, neA, ltA, encRd, encMk, encEx_eq, neE hm1, ltF hm1, neE hm, ltF hm, neE hm2, ltF hm2, neE hm3, ltF hm3, neE hm4, ltF hm4]) (by omega) (fun m5 hm5 => ?_))
          have im5 : id < m5 := by omega
          simp -implicitDefEqProofs (maxDischargeDepth := 80) (maxSteps := 1000000) [hl, hi, neC hi, neA, ltA, encRd, encMk, encEx_eq, neE hm1, ltF hm1, neE hm, ltF hm, neE hm2, ltF hm2, neE hm3, ltF hm3, neE hm4, ltF hm4, neE hm5, ltF hm5]
          refine pcK_of (c3) (by simp) ?_
          simp -implicitDefEqProofs (maxDischargeDepth := 80) (maxSteps := 1000000) [hl, hi, neC hi, neA, ltA, encRd, encMk, encEx_eq, neE hm1, ltF hm1, neE hm, ltF hm, neE hm2, ltF hm2, neE hm3, ltF hm3, neE hm4, ltF hm4, neE hm5, ltF hm5]
          refine again_of (f, two 11 x b q.next, r2) ⟨by omega, by simp only; omega, k2, hrun2⟩ (by simp only; omega) (by simp) ?_
          simp only [encEx_eq, encRd]
          exact (by repeat (first | exact memLe_refl _ | refine memLe_skip ?_ (by simp only [look]; repeat (first | rw [if_neg (by omega)] | exact look_upd_none (hfr _ (by omega)) | exact hfr _ (by omega)))))
      · obtain ⟨b, r2, ⟨k2, c2⟩, hrun2⟩ := body (by rw [hs]; rfl)
        have ht : q.next.text = [42] := (Rd.is_kind hs).2.2
        have ht2 : ¬ q.next.text = [47] := by rw [ht]; simp
        rw [if_neg ht2] at hrun2
        have c3 := two_c 10 x b q.next
        simp only [encEx_eq, encMk] at c2 c3
        rw [ht] at c3 cn
        simp -implicitDefEqProofs (maxDischargeDepth := 80) (maxSteps := 1000000) [lb80_0, hl, hi, neC hi, neA, ltA, encRd, encMk, encEx_eq, neE hm1, ltF hm1, neE hm, ltF hm]
        refine clK_of ((ci) (by simp -implicitDefEqProofs (maxDischargeDepth := 80) (maxSteps := 1000000) [hl, hi, neC hi, neA, ltA, encRd, encMk, encEx_eq, neE hm1, ltF hm1, neE hm, ltF hm]) (by omega) (fun m2 hm2 => ?_))
        have im2 : id < m2 := by omega
        simp -implicitDefEqProofs (maxDischargeDepth := 80) (maxSteps := 1000000) [hl, hi, neC hi, neA, ltA, encRd, encMk, encEx_eq, neE hm1, ltF hm1, neE hm, ltF hm, neE hm2, ltF hm2]
        refine clK_of ((cn) (by simp -implicitDefEqProofs (maxDischargeDepth := 80) (maxSteps := 1000000) [hl, hi, neC hi, neA, ltA, encRd, encMk, encEx_eq, neE hm1, ltF hm1, neE hm, ltF hm, neE hm2, ltF hm2]) (by omega) (fun m4 hm4 => ?_))
        have im4 : id < m4 := by omega
        simp -implicitDefEqProofs (maxDischargeDepth := 80) (maxSteps := 1000000) [hl, hi, neC hi, neA, ltA, encRd, encMk, encEx_eq, neE hm1, ltF hm1, neE hm, ltF hm, neE hm2, ltF hm2, neE hm4, ltF hm4, w]
        refine clK_of ((c2) (by simp -implicitDefEqProofs (maxDischargeDepth := 80) (maxSteps := 1000000) [hl, hi, neC hi, neA, ltA, encRd, encMk, encEx_eq, neE hm1, ltF hm1, neE hm, ltF hm, neE hm2, ltF hm2, neE hm4, ltF hm4]) (by omega) (fun m5 hm5 => ?_))
        have im5 : id < m5 := by omega
        simp -implicitDefEqProofs (maxDischargeDepth := 80) (maxSteps := 1000000) [hl, hi, neC hi, neA, ltA, encRd, encMk, encEx_eq, neE hm1, ltF hm1, neE hm, ltF hm, neE hm2, ltF hm2, neE hm4, ltF hm4, neE hm5, ltF hm5]
        refine pcK_of (c3) (by simp) ?_
        simp -implicitDefEqProofs (maxDischargeDepth := 80) (maxSteps := 1000000) [hl, hi, neC hi, neA, ltA, encRd, encMk, encEx_eq, neE hm1, ltF hm1, neE hm, ltF hm, neE hm2, ltF hm2, neE hm4, ltF hm4, neE hm5, ltF hm5]
        refine again_of (f, two 10 x b q.next, r2) ⟨by omega, by simp only; omega, k2, hrun2⟩ (by simp only; omega) (by simp) ?_
        simp only [encEx_eq, encRd]
        exact (by repeat (first | exact memLe_refl _ | refine memLe_skip ?_ (by simp only [look]; repeat (first | rw [if_neg (by omega)] | exact look_upd_none (hfr _ (by omega)) | exact hfr _ (by omega)))))
theorem word_c (s : List UInt8) : Pure Try.prog 83 [Tx s] (I (wordF s)) := by
  refine pu83 (by simp) ?_
  unfold wordF
  by_cases h0 : s = [116, 114, 117, 101]
  · subst h0; simp -implicitDefEqProofs (maxDischargeDepth := 80) (maxSteps := 1000000) [ac83]
  ·
    by_cases h1 : s = [102, 97, 108, 115, 101]
    · subst h1; simp -implicitDefEqProofs (maxDischargeDepth := 80) (maxSteps := 1000000) [ac83]
    ·
      by_cases h2 : s = [110, 105, 108]
      · subst h2; simp -implicitDefEqProofs (maxDischargeDepth := 80) (maxSteps := 1000000) [ac83]
      ·
        by_cases h3 : s = [102, 97, 105, 108]
        · subst h3; simp -implicitDefEqProofs (maxDischargeDepth := 80) (maxSteps := 1000000) [ac83]
        ·
          by_cases h4 : s = [110, 111, 116]
          · subst h4; simp -implicitDefEqProofs (maxDischargeDepth := 80) (maxSteps := 1000000) [ac83]
          ·
            by_cases h5 : s = [114, 101]
            · subst h5; simp -implicitDefEqProofs (maxDischargeDepth := 80) (maxSteps := 1000000) [ac83]
            ·
              by_cases h6 : s = [105, 109]
              · subst h6; simp -implicitDefEqProofs (maxDischargeDepth := 80) (maxSteps := 1000000) [ac83]
              ·
                by_cases h7 : s = [99, 111, 110, 106]
                · subst h7; simp -implicitDefEqProofs (maxDischargeDepth := 80) (maxSteps := 1000000) [ac83]
                ·
                  simp -implicitDefEqProofs (maxDischargeDepth := 80) (maxSteps := 1000000) [ac83, h0, h1, h2, h3, h4, h5, h6, h7]
end Go.Fx.Ythbainhddfajfaa

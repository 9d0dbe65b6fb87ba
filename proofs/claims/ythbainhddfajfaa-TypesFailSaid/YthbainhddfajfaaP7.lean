/-
  The parser's expressions: contract.
-/
import Derived.Test.YthbainhddfajfaaP6
set_option linter.all false
set_option maxRecDepth 100000
set_option maxHeartbeats 4000000

namespace Go.Fx.Ythbainhddfajfaa
open Go Go.Fx Go.Proofs Go.Fx.Flt
theorem is_else {r : Rd} {s t : List UInt8} (h : r.is s = true) (hne : s ≠ t) : r.is t = false := by
  cases ht : r.is t
  · rfl
  · exact absurd ((Rd.is_kind h).2.2.symm.trans (Rd.is_kind ht).2.2) hne
theorem expr_s {n : Nat} (hN : n ≤ 2 ^ 40) (h0 : ∀ r, r.ok → EC 73 [] (consF n r) r)
    (h1 : ∀ ss r L r', ss.length ≤ 100 → r.ok → partsF n ss r = some (L, r') → r'.ok ∧ r'.nest = r.nest ∧ RC 74 [.sl (em encT ss)] r r' (.sl (em encEx L)))
    (h2 : ∀ (r : Rd) (p : Int) (e : Ex) (r' : Rd), r.ok → branchesF n r p = some (e, r') → r'.ok ∧ r'.nest = r.nest ∧ ∀ (id id2 : Nat) (mem : Mem) (nx : Nat) (K : KD), look mem id = some (.box (encRd r)) → id < nx → look mem id2 = some (.box [I 0, Tx [], Tx [], I 0, CX 0 0, .pl (.slice none 0 0), I p]) → id2 < nx → id ≠ id2 →
      (∀ nx', nx ≤ nx' → K (.tup []) (upd (upd mem id2 (.box (encEx e))) id (.box (encRd r'))) nx') → CallT Try.prog 75 [.opt id 0, .opt id2 0] mem nx K) :
    ∀ r, r.ok → EC 66 [] (exprF (n + 1) r) r := by
  intro r h e r' hrun
  have cn := next_c h
  simp only [encMk] at cn
  have hl2 := h.lt
  have hl3 := h.len
  have hn0 := h.n0
  have hn1 := h.n1
  have hL := h.l1
  have w := wr64 (x := (r.at' : Int) + 1) (by omega) (by omega)
  have wn := wr64 (x := r.nest + 1) (by omega) (by omega)
  have wm := wr64 (x := r.nest) (by omega) (by omega)
  have i1 := is_c h [108, 101, 116]
  have i2 := is_c h [115, 116, 114, 105, 99, 116]
  have i3 := is_c h [99, 97, 115, 101]
  have i4 := is_c h [105, 102]
  have cf := fail_c h 23
  unfold exprF at hrun
  simp only at hrun
  cases hb : binds r
  · have hbs := hb
    unfold binds at hbs
    simp only [Bool.or_eq_false_iff] at hbs
    obtain ⟨b1, b2, b3⟩ := hbs
    rw [b1] at i1
    rw [b2] at i2
    rw [b3] at i3
    simp only [hb, Bool.false_and, Bool.false_eq_true, if_false] at hrun
    by_cases g1 : r.why = 0
    · rw [if_neg (by simp [g1])] at hrun
      cases hif : r.is [105, 102] <;> rw [hif] at i4
      · rw [if_pos ⟨trivial, hif⟩] at hrun
        obtain ⟨k2, n2, c2⟩ := h0 r h e r' hrun
        refine ⟨k2, n2, ?_⟩
        intro id mem nx K hl hi hk
        simp only [encEx_eq] at hk c2
        refine CallT_frzR ?_
        refine ct66 (by simp) fun hfr => ?_
        simp -implicitDefEqProofs (maxDischargeDepth := 80) (maxSteps := 1000000) [ac66, hl, hi, neC hi, neA, ltA, encRd, encMk, encEx_eq, g1]
        refine clK_of ((cn) (by simp -implicitDefEqProofs (maxDischargeDepth := 80) (maxSteps := 1000000) [hl, hi, neC hi, neA, ltA, encRd, encMk, encEx_eq, g1]) (by omega) (fun m1 hm1 => ?_))
        have im1 : id < m1 := by omega
        simp -implicitDefEqProofs (maxDischargeDepth := 80) (maxSteps := 1000000) [hl, hi, neC hi, neA, ltA, encRd, encMk, encEx_eq, g1, neE hm1, ltF hm1]
        refine clK_of ((i1) (by simp -implicitDefEqProofs (maxDischargeDepth := 80) (maxSteps := 1000000) [hl, hi, neC hi, neA, ltA, encRd, encMk, encEx_eq, g1, neE hm1, ltF hm1]) (by omega) (fun m2 hm2 => ?_))
        have im2 : id < m2 := by omega
        simp -implicitDefEqProofs (maxDischargeDepth := 80) (maxSteps := 1000000) [hl, hi, neC hi, neA, ltA, encRd, encMk, encEx_eq, g1, neE hm1, ltF hm1, neE hm2, ltF hm2]
        refine clK_of ((i2) (by simp -implicitDefEqProofs (maxDischargeDepth := 80) (maxSteps := 1000000) [hl, hi, neC hi, neA, ltA, encRd, encMk, encEx_eq, g1, neE hm1, ltF hm1, neE hm2, ltF hm2]) (by omega) (fun m3 hm3 => ?_))
        have im3 : id < m3 := by omega
        simp -implicitDefEqProofs (maxDischargeDepth := 80) (maxSteps := 1000000) [hl, hi, neC hi, neA, ltA, encRd, encMk, encEx_eq, g1, neE hm1, ltF hm1, neE hm2, ltF hm2, neE hm3, ltF hm3]
        refine clK_of ((i3) (by simp -implicitDefEqProofs (maxDischargeDepth := 80) (maxSteps := 1000000) [hl, hi, neC hi, neA, ltA, encRd, encMk, encEx_eq, g1, neE hm1, ltF hm1, neE hm2, ltF hm2, neE hm3, ltF hm3]) (by omega) (fun m4 hm4 => ?_))
        have im4 : id < m4 := by omega
        simp -implicitDefEqProofs (maxDischargeDepth := 80) (maxSteps := 1000000) [hl, hi, neC hi, neA, ltA, encRd, encMk, encEx_eq, g1, neE hm1, ltF hm1, neE hm2, ltF hm2, neE hm3, ltF hm3, neE hm4, ltF hm4]
        refine clK_of ((i4) (by simp -implicitDefEqProofs (maxDischargeDepth := 80) (maxSteps := 1000000) [hl, hi, neC hi, neA, ltA, encRd, encMk, encEx_eq, g1, neE hm1, ltF hm1, neE hm2, ltF hm2, neE hm3, ltF hm3, neE hm4, ltF hm4]) (by omega) (fun m5 hm5 => ?_))
        have im5 : id < m5 := by omega
        simp -implicitDefEqProofs (maxDischargeDepth := 80) (maxSteps := 1000000) [hl, hi, neC hi, neA, ltA, encRd, encMk, encEx_eq, g1, neE hm1, ltF hm1, neE hm2, ltF hm2, neE hm3, ltF hm3, neE hm4, ltF hm4, neE hm5, ltF hm5]
        refine clK_of ((c2) (by simp -implicitDefEqProofs (maxDischargeDepth := 80) (maxSteps := 1000000) [hl, hi, neC hi, neA, ltA, encRd, encMk, encEx_eq, g1, neE hm1, ltF hm1, neE hm2, ltF hm2, neE hm3, ltF hm3, neE hm4, ltF hm4, neE hm5, ltF hm5]) (by omega) (fun m6 hm6 => ?_))
        have im6 : id < m6 := by omega
        simp -implicitDefEqProofs (maxDischargeDepth := 80) (maxSteps := 1000000) [hl, hi, neC hi, neA, ltA, encRd, encMk, encEx_eq, g1, neE hm1, ltF hm1, neE hm2, ltF hm2, neE hm3, ltF hm3, neE hm4, ltF hm4, neE hm5, ltF hm5, neE hm6, ltF hm6]
        exact kfrz0 (by repeat (first | exact memSub_refl _ | refine memSub_skip ?_ (look_upd_none (hfr _ (by omega))) | refine memSub_skip ?_ (hfr _ (by omega)))) (by simp [frz]) (hk _ (by omega))
      · have ht := (Rd.is_kind hif).2.2
        rw [if_neg (by simp [hif]), if_pos ht] at hrun
        simp only [Option.map_eq_some_iff, Prod.mk.injEq] at hrun
        obtain ⟨⟨e1, q1⟩, ⟨⟨L, q⟩, hp, rfl, rfl⟩, rfl, rfl⟩ := hrun
        obtain ⟨k2, n2, c2⟩ := h1 _ r.adv L q (by simp) (Rd.ok_adv h (Rd.is_4 hif)) hp
        rw [em_3] at c2
        refine ⟨k2, n2, ?_⟩
        intro id mem nx K hl hi hk
        simp only [encEx_mk] at hk
        rw [ht] at cn
        refine CallT_frzR ?_
        refine ct66 (by simp) fun hfr => ?_
        simp -implicitDefEqProofs (maxDischargeDepth := 80) (maxSteps := 1000000) [ac66, hl, hi, neC hi, neA, ltA, encRd, encMk, encEx_eq, g1]
        refine clK_of ((cn) (by simp -implicitDefEqProofs (maxDischargeDepth := 80) (maxSteps := 1000000) [hl, hi, neC hi, neA, ltA, encRd, encMk, encEx_eq, g1]) (by omega) (fun m1 hm1 => ?_))
        have im1 : id < m1 := by omega
        simp -implicitDefEqProofs (maxDischargeDepth := 80) (maxSteps := 1000000) [hl, hi, neC hi, neA, ltA, encRd, encMk, encEx_eq, g1, neE hm1, ltF hm1]
        refine clK_of ((i1) (by simp -implicitDefEqProofs (maxDischargeDepth := 80) (maxSteps := 1000000) [hl, hi, neC hi, neA, ltA, encRd, encMk, encEx_eq, g1, neE hm1, ltF hm1]) (by omega) (fun m2 hm2 => ?_))
        have im2 : id < m2 := by omega
        simp -implicitDefEqProofs (maxDischargeDepth := 80) (maxSteps := 1000000) [hl, hi, neC hi, neA, ltA, encRd, encMk, encEx_eq, g1, neE hm1, ltF hm1, neE hm2, ltF hm2]
        refine clK_of ((i2) (by simp -implicitDefEqProofs (maxDischargeDepth := 80) (maxSteps := 1000000) [hl, hi, neC hi, neA, ltA, encRd, encMk, encEx_eq, g1, neE hm1, ltF hm1, neE hm2, ltF hm2]) (by omega) (fun m3 hm3 => ?_))
        have im3 : id < m3 := by omega
        simp -implicitDefEqProofs (maxDischargeDepth := 80) (maxSteps := 1000000) [hl, hi, neC hi, neA, ltA, encRd, encMk, encEx_eq, g1, neE hm1, ltF hm1, neE hm2, ltF hm2, neE hm3, ltF hm3]
        refine clK_of ((i3) (by simp -implicitDefEqProofs (maxDischargeDepth := 80) (maxSteps := 1000000) [hl, hi, neC hi, neA, ltA, encRd, encMk, encEx_eq, g1, neE hm1, ltF hm1, neE hm2, ltF hm2, neE hm3, ltF hm3]) (by omega) (fun m4 hm4 => ?_))
        have im4 : id < m4 := by omega
        simp -implicitDefEqProofs (maxDischargeDepth := 80) (maxSteps := 1000000) [hl, hi, neC hi, neA, ltA, encRd, encMk, encEx_eq, g1, neE hm1, ltF hm1, neE hm2, ltF hm2, neE hm3, ltF hm3, neE hm4, ltF hm4]
        refine clK_of ((i4) (by simp -implicitDefEqProofs (maxDischargeDepth := 80) (maxSteps := 1000000) [hl, hi, neC hi, neA, ltA, encRd, encMk, encEx_eq, g1, neE hm1, ltF hm1, neE hm2, ltF hm2, neE hm3, ltF hm3, neE hm4, ltF hm4]) (by omega) (fun m5 hm5 => ?_))
        have im5 : id < m5 := by omega
        simp -implicitDefEqProofs (maxDischargeDepth := 80) (maxSteps := 1000000) [hl, hi, neC hi, neA, ltA, encRd, encMk, encEx_eq, g1, neE hm1, ltF hm1, neE hm2, ltF hm2, neE hm3, ltF hm3, neE hm4, ltF hm4, neE hm5, ltF hm5, w]
        refine clK_of ((c2) (by simp -implicitDefEqProofs (maxDischargeDepth := 80) (maxSteps := 1000000) [hl, hi, neC hi, neA, ltA, encRd, encMk, encEx_eq, g1, neE hm1, ltF hm1, neE hm2, ltF hm2, neE hm3, ltF hm3, neE hm4, ltF hm4, neE hm5, ltF hm5]) (by omega) (fun m6 hm6 => ?_))
        have im6 : id < m6 := by omega
        simp -implicitDefEqProofs (maxDischargeDepth := 80) (maxSteps := 1000000) [hl, hi, neC hi, neA, ltA, encRd, encMk, encEx_eq, g1, neE hm1, ltF hm1, neE hm2, ltF hm2, neE hm3, ltF hm3, neE hm4, ltF hm4, neE hm5, ltF hm5, neE hm6, ltF hm6]
        exact kfrz0 (by repeat (first | exact memSub_refl _ | refine memSub_skip ?_ (look_upd_none (hfr _ (by omega))) | refine memSub_skip ?_ (hfr _ (by omega)))) (by simp [frz]) (hk _ (by omega))
    · rw [if_pos g1] at hrun
      simp only [Option.some.injEq, Prod.mk.injEq] at hrun
      obtain ⟨rfl, rfl⟩ := hrun
      refine ⟨h, rfl, ?_⟩
      intro id mem nx K hl hi hk
      rw [upd_self hl] at hk
      simp only [ex0, encEx_mk] at hk
      refine CallT_frzR ?_
      refine ct66 (by simp) fun hfr => ?_
      simp -implicitDefEqProofs (maxDischargeDepth := 80) (maxSteps := 1000000) [ac66, hl, hi, neC hi, neA, ltA, encRd, encMk, encEx_eq]
      refine clK_of ((cn) (by simp -implicitDefEqProofs (maxDischargeDepth := 80) (maxSteps := 1000000) [hl, hi, neC hi, neA, ltA, encRd, encMk, encEx_eq]) (by omega) (fun m1 hm1 => ?_))
      have im1 : id < m1 := by omega
      simp -implicitDefEqProofs (maxDischargeDepth := 80) (maxSteps := 1000000) [hl, hi, neC hi, neA, ltA, encRd, encMk, encEx_eq, neE hm1, ltF hm1]
      refine clK_of ((i1) (by simp -implicitDefEqProofs (maxDischargeDepth := 80) (maxSteps := 1000000) [hl, hi, neC hi, neA, ltA, encRd, encMk, encEx_eq, neE hm1, ltF hm1]) (by omega) (fun m2 hm2 => ?_))
      have im2 : id < m2 := by omega
      simp -implicitDefEqProofs (maxDischargeDepth := 80) (maxSteps := 1000000) [hl, hi, neC hi, neA, ltA, encRd, encMk, encEx_eq, neE hm1, ltF hm1, neE hm2, ltF hm2]
      refine clK_of ((i2) (by simp -implicitDefEqProofs (maxDischargeDepth := 80) (maxSteps := 1000000) [hl, hi, neC hi, neA, ltA, encRd, encMk, encEx_eq, neE hm1, ltF hm1, neE hm2, ltF hm2]) (by omega) (fun m3 hm3 => ?_))
      have im3 : id < m3 := by omega
      simp -implicitDefEqProofs (maxDischargeDepth := 80) (maxSteps := 1000000) [hl, hi, neC hi, neA, ltA, encRd, encMk, encEx_eq, neE hm1, ltF hm1, neE hm2, ltF hm2, neE hm3, ltF hm3]
      refine clK_of ((i3) (by simp -implicitDefEqProofs (maxDischargeDepth := 80) (maxSteps := 1000000) [hl, hi, neC hi, neA, ltA, encRd, encMk, encEx_eq, neE hm1, ltF hm1, neE hm2, ltF hm2, neE hm3, ltF hm3]) (by omega) (fun m4 hm4 => ?_))
      have im4 : id < m4 := by omega
      simp -implicitDefEqProofs (maxDischargeDepth := 80) (maxSteps := 1000000) [hl, hi, neC hi, neA, ltA, encRd, encMk, encEx_eq, neE hm1, ltF hm1, neE hm2, ltF hm2, neE hm3, ltF hm3, neE hm4, ltF hm4, g1]
      exact kfrz0 (by repeat (first | exact memSub_refl _ | refine memSub_skip ?_ (look_upd_none (hfr _ (by omega))) | refine memSub_skip ?_ (hfr _ (by omega)))) (by simp [frz]) (hk _ (by omega))
  · have g1 : r.why = 0 := by
      have hbs := hb
      unfold binds at hbs
      simp only [Bool.or_eq_true] at hbs
      rcases hbs with h | h | h
      · exact (Rd.is_kind h).1
      · exact (Rd.is_kind h).1
      · exact (Rd.is_kind h).1
    have h4 : r.next.kind ≠ 4 := by
      have hbs := hb
      unfold binds at hbs
      simp only [Bool.or_eq_true] at hbs
      rcases hbs with h | h | h
      · exact Rd.is_4 h
      · exact Rd.is_4 h
      · exact Rd.is_4 h
    by_cases g2 : r.lN ≤ r.nest
    · have hrun2 : e = ex0 ∧ r' = r.fail 23 := by
        simp only [hb, Bool.true_and, g2, decide_true, if_true] at hrun
        rw [if_pos (by simp [Rd.fail, g1])] at hrun
        simp only [Option.some.injEq, Prod.mk.injEq] at hrun
        exact ⟨hrun.1.symm, hrun.2.symm⟩
      obtain ⟨rfl, rfl⟩ := hrun2
      have hwhy : ¬ (r.fail 23).why = 0 := by simp [Rd.fail, g1]
      refine ⟨Rd.ok_fail h _, nest_fail, ?_⟩
      intro id mem nx K hl hi hk
      simp only [ex0, encEx_mk] at hk
      cases b1 : r.is [108, 101, 116] <;> rw [b1] at i1
      · cases b2 : r.is [115, 116, 114, 105, 99, 116] <;> rw [b2] at i2
        · have b3 : r.is [99, 97, 115, 101] = true := by
            unfold binds at hb; rw [b1, b2] at hb; simpa using hb
          rw [b3] at i3
          refine CallT_frzR ?_
          refine ct66 (by simp) fun hfr => ?_
          simp -implicitDefEqProofs (maxDischargeDepth := 80) (maxSteps := 1000000) [ac66, hl, hi, neC hi, neA, ltA, encRd, encMk, encEx_eq, g1]
          refine clK_of ((cn) (by simp -implicitDefEqProofs (maxDischargeDepth := 80) (maxSteps := 1000000) [hl, hi, neC hi, neA, ltA, encRd, encMk, encEx_eq, g1]) (by omega) (fun m1 hm1 => ?_))
          have im1 : id < m1 := by omega
          simp -implicitDefEqProofs (maxDischargeDepth := 80) (maxSteps := 1000000) [hl, hi, neC hi, neA, ltA, encRd, encMk, encEx_eq, g1, neE hm1, ltF hm1]
          refine clK_of ((i1) (by simp -implicitDefEqProofs (maxDischargeDepth := 80) (maxSteps := 1000000) [hl, hi, neC hi, neA, ltA, encRd, encMk, encEx_eq, g1, neE hm1, ltF hm1]) (by omega) (fun m2 hm2 => ?_))
          have im2 : id < m2 := by omega
          simp -implicitDefEqProofs (maxDischargeDepth := 80) (maxSteps := 1000000) [hl, hi, neC hi, neA, ltA, encRd, encMk, encEx_eq, g1, neE hm1, ltF hm1, neE hm2, ltF hm2]
          refine clK_of ((i2) (by simp -implicitDefEqProofs (maxDischargeDepth := 80) (maxSteps := 1000000) [hl, hi, neC hi, neA, ltA, encRd, encMk, encEx_eq, g1, neE hm1, ltF hm1, neE hm2, ltF hm2]) (by omega) (fun m3 hm3 => ?_))
          have im3 : id < m3 := by omega
          simp -implicitDefEqProofs (maxDischargeDepth := 80) (maxSteps := 1000000) [hl, hi, neC hi, neA, ltA, encRd, encMk, encEx_eq, g1, neE hm1, ltF hm1, neE hm2, ltF hm2, neE hm3, ltF hm3]
          refine clK_of ((i3) (by simp -implicitDefEqProofs (maxDischargeDepth := 80) (maxSteps := 1000000) [hl, hi, neC hi, neA, ltA, encRd, encMk, encEx_eq, g1, neE hm1, ltF hm1, neE hm2, ltF hm2, neE hm3, ltF hm3]) (by omega) (fun m4 hm4 => ?_))
          have im4 : id < m4 := by omega
          simp -implicitDefEqProofs (maxDischargeDepth := 80) (maxSteps := 1000000) [hl, hi, neC hi, neA, ltA, encRd, encMk, encEx_eq, g1, neE hm1, ltF hm1, neE hm2, ltF hm2, neE hm3, ltF hm3, neE hm4, ltF hm4, g2]
          refine clK_of ((cf) (by simp -implicitDefEqProofs (maxDischargeDepth := 80) (maxSteps := 1000000) [hl, hi, neC hi, neA, ltA, encRd, encMk, encEx_eq, g1, neE hm1, ltF hm1, neE hm2, ltF hm2, neE hm3, ltF hm3, neE hm4, ltF hm4]) (by omega) (fun m5 hm5 => ?_))
          have im5 : id < m5 := by omega
          simp -implicitDefEqProofs (maxDischargeDepth := 80) (maxSteps := 1000000) [hl, hi, neC hi, neA, ltA, encRd, encMk, encEx_eq, g1, neE hm1, ltF hm1, neE hm2, ltF hm2, neE hm3, ltF hm3, neE hm4, ltF hm4, neE hm5, ltF hm5, hwhy]
          exact kfrz0 (by repeat (first | exact memSub_refl _ | refine memSub_skip ?_ (look_upd_none (hfr _ (by omega))) | refine memSub_skip ?_ (hfr _ (by omega)))) (by simp [frz]) (hk _ (by omega))
        · refine CallT_frzR ?_
          refine ct66 (by simp) fun hfr => ?_
          simp -implicitDefEqProofs (maxDischargeDepth := 80) (maxSteps := 1000000) [ac66, hl, hi, neC hi, neA, ltA, encRd, encMk, encEx_eq, g1]
          refine clK_of ((cn) (by simp -implicitDefEqProofs (maxDischargeDepth := 80) (maxSteps := 1000000) [hl, hi, neC hi, neA, ltA, encRd, encMk, encEx_eq, g1]) (by omega) (fun m1 hm1 => ?_))
          have im1 : id < m1 := by omega
          simp -implicitDefEqProofs (maxDischargeDepth := 80) (maxSteps := 1000000) [hl, hi, neC hi, neA, ltA, encRd, encMk, encEx_eq, g1, neE hm1, ltF hm1]
          refine clK_of ((i1) (by simp -implicitDefEqProofs (maxDischargeDepth := 80) (maxSteps := 1000000) [hl, hi, neC hi, neA, ltA, encRd, encMk, encEx_eq, g1, neE hm1, ltF hm1]) (by omega) (fun m2 hm2 => ?_))
          have im2 : id < m2 := by omega
          simp -implicitDefEqProofs (maxDischargeDepth := 80) (maxSteps := 1000000) [hl, hi, neC hi, neA, ltA, encRd, encMk, encEx_eq, g1, neE hm1, ltF hm1, neE hm2, ltF hm2]
          refine clK_of ((i2) (by simp -implicitDefEqProofs (maxDischargeDepth := 80) (maxSteps := 1000000) [hl, hi, neC hi, neA, ltA, encRd, encMk, encEx_eq, g1, neE hm1, ltF hm1, neE hm2, ltF hm2]) (by omega) (fun m3 hm3 => ?_))
          have im3 : id < m3 := by omega
          simp -implicitDefEqProofs (maxDischargeDepth := 80) (maxSteps := 1000000) [hl, hi, neC hi, neA, ltA, encRd, encMk, encEx_eq, g1, neE hm1, ltF hm1, neE hm2, ltF hm2, neE hm3, ltF hm3, g2]
          refine clK_of ((cf) (by simp -implicitDefEqProofs (maxDischargeDepth := 80) (maxSteps := 1000000) [hl, hi, neC hi, neA, ltA, encRd, encMk, encEx_eq, g1, neE hm1, ltF hm1, neE hm2, ltF hm2, neE hm3, ltF hm3]) (by omega) (fun m5 hm5 => ?_))
          have im5 : id < m5 := by omega
          simp -implicitDefEqProofs (maxDischargeDepth := 80) (maxSteps := 1000000) [hl, hi, neC hi, neA, ltA, encRd, encMk, encEx_eq, g1, neE hm1, ltF hm1, neE hm2, ltF hm2, neE hm3, ltF hm3, neE hm5, ltF hm5, hwhy]
          exact kfrz0 (by repeat (first | exact memSub_refl _ | refine memSub_skip ?_ (look_upd_none (hfr _ (by omega))) | refine memSub_skip ?_ (hfr _ (by omega)))) (by simp [frz]) (hk _ (by omega))
      · refine CallT_frzR ?_
        refine ct66 (by simp) fun hfr => ?_
        simp -implicitDefEqProofs (maxDischargeDepth := 80) (maxSteps := 1000000) [ac66, hl, hi, neC hi, neA, ltA, encRd, encMk, encEx_eq, g1]
        refine clK_of ((cn) (by simp -implicitDefEqProofs (maxDischargeDepth := 80) (maxSteps := 1000000) [hl, hi, neC hi, neA, ltA, encRd, encMk, encEx_eq, g1]) (by omega) (fun m1 hm1 => ?_))
        have im1 : id < m1 := by omega
        simp -implicitDefEqProofs (maxDischargeDepth := 80) (maxSteps := 1000000) [hl, hi, neC hi, neA, ltA, encRd, encMk, encEx_eq, g1, neE hm1, ltF hm1]
        refine clK_of ((i1) (by simp -implicitDefEqProofs (maxDischargeDepth := 80) (maxSteps := 1000000) [hl, hi, neC hi, neA, ltA, encRd, encMk, encEx_eq, g1, neE hm1, ltF hm1]) (by omega) (fun m2 hm2 => ?_))
        have im2 : id < m2 := by omega
        simp -implicitDefEqProofs (maxDischargeDepth := 80) (maxSteps := 1000000) [hl, hi, neC hi, neA, ltA, encRd, encMk, encEx_eq, g1, neE hm1, ltF hm1, neE hm2, ltF hm2, g2]
        refine clK_of ((cf) (by simp -implicitDefEqProofs (maxDischargeDepth := 80) (maxSteps := 1000000) [hl, hi, neC hi, neA, ltA, encRd, encMk, encEx_eq, g1, neE hm1, ltF hm1, neE hm2, ltF hm2]) (by omega) (fun m5 hm5 => ?_))
        have im5 : id < m5 := by omega
        simp -implicitDefEqProofs (maxDischargeDepth := 80) (maxSteps := 1000000) [hl, hi, neC hi, neA, ltA, encRd, encMk, encEx_eq, g1, neE hm1, ltF hm1, neE hm2, ltF hm2, neE hm5, ltF hm5, hwhy]
        exact kfrz0 (by repeat (first | exact memSub_refl _ | refine memSub_skip ?_ (look_upd_none (hfr _ (by omega))) | refine memSub_skip ?_ (hfr _ (by omega)))) (by simp [frz]) (hk _ (by omega))
    · simp only [hb, Bool.true_and, g2, decide_false, if_false, if_true, Bool.false_eq_true, Bool.true_eq_false, false_and] at hrun
      rw [if_neg (by simp [g1])] at hrun
      obtain ⟨rd, hrd⟩ : ∃ rd : Rd, rd = Rd.adv { r with nest := r.nest + 1 } := ⟨_, rfl⟩
      have krd : rd.ok := by
        rw [hrd]
        exact ⟨h.ms, h.ms.2 _ h.lt h4, h.len, by show 0 ≤ r.nest + 1; omega, by show r.nest + 1 ≤ 2 ^ 40; omega, h.l1⟩
      have nrd : rd.nest = r.nest + 1 := by rw [hrd]; rfl
      rw [← hrd] at hrun
      have f1 : rd.ms = r.ms := by rw [hrd]; rfl
      have f2 : (rd.at' : Int) = (r.at' : Int) + 1 := by rw [hrd]; simp
      have f3 : rd.why = 0 := by rw [hrd]; exact g1
      have f4 : rd.wh = r.wh := by rw [hrd]; rfl
      have f5 : rd.lT = r.lT := by rw [hrd]; rfl
      have f6 : rd.lF = r.lF := by rw [hrd]; rfl
      have f7 : rd.lA = r.lA := by rw [hrd]; rfl
      have f8 : rd.lN = r.lN := by rw [hrd]; rfl
      clear hrd
      cases b1 : r.is [108, 101, 116] <;> rw [b1] at i1
      · cases b2 : r.is [115, 116, 114, 105, 99, 116] <;> rw [b2] at i2
        · have b3 : r.is [99, 97, 115, 101] = true := by
            unfold binds at hb; rw [b1, b2] at hb; simpa using hb
          rw [b3] at i3
          have ht : r.next.text = [99, 97, 115, 101] := (Rd.is_kind b3).2.2
          have t1 : ¬ r.next.text = [105, 102] := by rw [ht]; simp
          rw [if_neg t1, if_pos ht] at hrun
          simp only [Option.map_eq_some_iff, Prod.mk.injEq] at hrun
          obtain ⟨⟨e1, q⟩, hp, rfl, rfl⟩ := hrun
          obtain ⟨k2, n2, cb⟩ := h2 rd r.next.at' e1 q krd hp
          have nq : q.nest = r.nest + 1 := by rw [n2, nrd]
          refine ⟨⟨k2.ms, k2.lt, k2.len, by simp only; omega, by simp only; omega, k2.l1⟩, by simp only; omega, ?_⟩
          intro id mem nx K hl hi hk
          simp only [encEx_eq] at hk
          simp [encRd, nq] at hk
          rw [ht] at cn
          refine CallT_frzR ?_
          refine ct66 (by simp) fun hfr => ?_
          simp -implicitDefEqProofs (maxDischargeDepth := 80) (maxSteps := 1000000) [ac66, hl, hi, neC hi, neA, ltA, encRd, encMk, encEx_eq, g1, f1, f2, f3, f4, f5, f6, f7, f8, nrd]
          refine clK_of ((cn) (by simp -implicitDefEqProofs (maxDischargeDepth := 80) (maxSteps := 1000000) [hl, hi, neC hi, neA, ltA, encRd, encMk, encEx_eq, g1, f1, f2, f3, f4, f5, f6, f7, f8, nrd]) (by omega) (fun m1 hm1 => ?_))
          have im1 : id < m1 := by omega
          simp -implicitDefEqProofs (maxDischargeDepth := 80) (maxSteps := 1000000) [hl, hi, neC hi, neA, ltA, encRd, encMk, encEx_eq, g1, f1, f2, f3, f4, f5, f6, f7, f8, nrd, neE hm1, ltF hm1]
          refine clK_of ((i1) (by simp -implicitDefEqProofs (maxDischargeDepth := 80) (maxSteps := 1000000) [hl, hi, neC hi, neA, ltA, encRd, encMk, encEx_eq, g1, f1, f2, f3, f4, f5, f6, f7, f8, nrd, neE hm1, ltF hm1]) (by omega) (fun m2 hm2 => ?_))
          have im2 : id < m2 := by omega
          simp -implicitDefEqProofs (maxDischargeDepth := 80) (maxSteps := 1000000) [hl, hi, neC hi, neA, ltA, encRd, encMk, encEx_eq, g1, f1, f2, f3, f4, f5, f6, f7, f8, nrd, neE hm1, ltF hm1, neE hm2, ltF hm2]
          refine clK_of ((i2) (by simp -implicitDefEqProofs (maxDischargeDepth := 80) (maxSteps := 1000000) [hl, hi, neC hi, neA, ltA, encRd, encMk, encEx_eq, g1, f1, f2, f3, f4, f5, f6, f7, f8, nrd, neE hm1, ltF hm1, neE hm2, ltF hm2]) (by omega) (fun m3 hm3 => ?_))
          have im3 : id < m3 := by omega
          simp -implicitDefEqProofs (maxDischargeDepth := 80) (maxSteps := 1000000) [hl, hi, neC hi, neA, ltA, encRd, encMk, encEx_eq, g1, f1, f2, f3, f4, f5, f6, f7, f8, nrd, neE hm1, ltF hm1, neE hm2, ltF hm2, neE hm3, ltF hm3]
          refine clK_of ((i3) (by simp -implicitDefEqProofs (maxDischargeDepth := 80) (maxSteps := 1000000) [hl, hi, neC hi, neA, ltA, encRd, encMk, encEx_eq, g1, f1, f2, f3, f4, f5, f6, f7, f8, nrd, neE hm1, ltF hm1, neE hm2, ltF hm2, neE hm3, ltF hm3]) (by omega) (fun m4 hm4 => ?_))
          have im4 : id < m4 := by omega
          simp -implicitDefEqProofs (maxDischargeDepth := 80) (maxSteps := 1000000) [hl, hi, neC hi, neA, ltA, encRd, encMk, encEx_eq, g1, f1, f2, f3, f4, f5, f6, f7, f8, nrd, neE hm1, ltF hm1, neE hm2, ltF hm2, neE hm3, ltF hm3, neE hm4, ltF hm4, g2, wn, w]
          refine clK_of (cb id _ _ _ _ (by simp -implicitDefEqProofs (maxDischargeDepth := 80) (maxSteps := 1000000) [hl, hi, neC hi, neA, ltA, encRd, encMk, encEx_eq, g1, f1, f2, f3, f4, f5, f6, f7, f8, nrd, neE hm1, ltF hm1, neE hm2, ltF hm2, neE hm3, ltF hm3, neE hm4, ltF hm4]) (by omega) (by simp -implicitDefEqProofs (maxDischargeDepth := 80) (maxSteps := 1000000) [hl, hi, neC hi, neA, ltA, encRd, encMk, encEx_eq, g1, f1, f2, f3, f4, f5, f6, f7, f8, nrd, neE hm1, ltF hm1, neE hm2, ltF hm2, neE hm3, ltF hm3, neE hm4, ltF hm4]) (by omega) (by omega) (fun m6 hm6 => ?_))
          simp -implicitDefEqProofs (maxDischargeDepth := 80) (maxSteps := 1000000) [hl, hi, neC hi, neA, ltA, encRd, encMk, encEx_eq, g1, f1, f2, f3, f4, f5, f6, f7, f8, nrd, neE hm1, ltF hm1, neE hm2, ltF hm2, neE hm3, ltF hm3, neE hm4, ltF hm4, neE hm6, ltF hm6, nq, wm]
          exact kfrz0 (by repeat (first | exact memSub_refl _ | refine memSub_skip ?_ (look_upd_none (hfr _ (by omega))) | refine memSub_skip ?_ (hfr _ (by omega)))) (by simp [frz]) (hk _ (by omega))
        · have ht : r.next.text = [115, 116, 114, 105, 99, 116] := (Rd.is_kind b2).2.2
          have t1 : ¬ r.next.text = [105, 102] := by rw [ht]; simp
          have t2 : ¬ r.next.text = [99, 97, 115, 101] := by rw [ht]; simp
          rw [if_neg t1, if_neg t2] at hrun
          rw [if_pos ht] at hrun
          simp only [Option.map_map, Option.map_eq_some_iff, Function.comp_def, Prod.mk.injEq] at hrun
          obtain ⟨⟨L, q⟩, hp, rfl, rfl⟩ := hrun
          have w5 := name_c krd
          have kw5 := Rd.ok_name krd
          have n5 : rd.name.2.nest = rd.nest := nest_name
          have w6 := typ_c kw5
          have kw6 := Rd.ok_typ kw5
          have n6 : rd.name.2.typ.2.nest = rd.nest := by rw [nest_typ, n5]
          generalize rd.name.1 = hd at *
          generalize rd.name.2 = s5 at *
          generalize s5.typ.1 = ty at *
          generalize s5.typ.2 = s6 at *
          obtain ⟨k2, n2, c2⟩ := h1 _ s6 L q (by simp) kw6 hp
          rw [em_2] at c2
          have nq : q.nest = r.nest + 1 := by rw [n2, n6, nrd]
          refine ⟨⟨k2.ms, k2.lt, k2.len, by simp only; omega, by simp only; omega, k2.l1⟩, by simp only; omega, ?_⟩
          intro id mem nx K hl hi hk
          simp only [encEx_mk] at hk
          simp [encRd, nq] at hk
          simp only [encMk] at w5
          rw [ht] at cn
          refine CallT_frzR ?_
          refine ct66 (by simp) fun hfr => ?_
          simp -implicitDefEqProofs (maxDischargeDepth := 80) (maxSteps := 1000000) [ac66, hl, hi, neC hi, neA, ltA, encRd, encMk, encEx_eq, g1, f1, f2, f3, f4, f5, f6, f7, f8, nrd]
          refine clK_of ((cn) (by simp -implicitDefEqProofs (maxDischargeDepth := 80) (maxSteps := 1000000) [hl, hi, neC hi, neA, ltA, encRd, encMk, encEx_eq, g1, f1, f2, f3, f4, f5, f6, f7, f8, nrd]) (by omega) (fun m1 hm1 => ?_))
          have im1 : id < m1 := by omega
          simp -implicitDefEqProofs (maxDischargeDepth := 80) (maxSteps := 1000000) [hl, hi, neC hi, neA, ltA, encRd, encMk, encEx_eq, g1, f1, f2, f3, f4, f5, f6, f7, f8, nrd, neE hm1, ltF hm1]
          refine clK_of ((i1) (by simp -implicitDefEqProofs (maxDischargeDepth := 80) (maxSteps := 1000000) [hl, hi, neC hi, neA, ltA, encRd, encMk, encEx_eq, g1, f1, f2, f3, f4, f5, f6, f7, f8, nrd, neE hm1, ltF hm1]) (by omega) (fun m2 hm2 => ?_))
          have im2 : id < m2 := by omega
          simp -implicitDefEqProofs (maxDischargeDepth := 80) (maxSteps := 1000000) [hl, hi, neC hi, neA, ltA, encRd, encMk, encEx_eq, g1, f1, f2, f3, f4, f5, f6, f7, f8, nrd, neE hm1, ltF hm1, neE hm2, ltF hm2]
          refine clK_of ((i2) (by simp -implicitDefEqProofs (maxDischargeDepth := 80) (maxSteps := 1000000) [hl, hi, neC hi, neA, ltA, encRd, encMk, encEx_eq, g1, f1, f2, f3, f4, f5, f6, f7, f8, nrd, neE hm1, ltF hm1, neE hm2, ltF hm2]) (by omega) (fun m3 hm3 => ?_))
          have im3 : id < m3 := by omega
          simp -implicitDefEqProofs (maxDischargeDepth := 80) (maxSteps := 1000000) [hl, hi, neC hi, neA, ltA, encRd, encMk, encEx_eq, g1, f1, f2, f3, f4, f5, f6, f7, f8, nrd, neE hm1, ltF hm1, neE hm2, ltF hm2, neE hm3, ltF hm3, g2, wn, w]
          refine clK_of ((w5) (by simp -implicitDefEqProofs (maxDischargeDepth := 80) (maxSteps := 1000000) [hl, hi, neC hi, neA, ltA, encRd, encMk, encEx_eq, g1, f1, f2, f3, f4, f5, f6, f7, f8, nrd, neE hm1, ltF hm1, neE hm2, ltF hm2, neE hm3, ltF hm3]) (by omega) (fun m6 hm6 => ?_))
          have im6 : id < m6 := by omega
          simp -implicitDefEqProofs (maxDischargeDepth := 80) (maxSteps := 1000000) [hl, hi, neC hi, neA, ltA, encRd, encMk, encEx_eq, g1, f1, f2, f3, f4, f5, f6, f7, f8, nrd, neE hm1, ltF hm1, neE hm2, ltF hm2, neE hm3, ltF hm3, neE hm6, ltF hm6]
          refine clK_of ((w6) (by simp -implicitDefEqProofs (maxDischargeDepth := 80) (maxSteps := 1000000) [hl, hi, neC hi, neA, ltA, encRd, encMk, encEx_eq, g1, f1, f2, f3, f4, f5, f6, f7, f8, nrd, neE hm1, ltF hm1, neE hm2, ltF hm2, neE hm3, ltF hm3, neE hm6, ltF hm6]) (by omega) (fun m7 hm7 => ?_))
          have im7 : id < m7 := by omega
          simp -implicitDefEqProofs (maxDischargeDepth := 80) (maxSteps := 1000000) [hl, hi, neC hi, neA, ltA, encRd, encMk, encEx_eq, g1, f1, f2, f3, f4, f5, f6, f7, f8, nrd, neE hm1, ltF hm1, neE hm2, ltF hm2, neE hm3, ltF hm3, neE hm6, ltF hm6, neE hm7, ltF hm7]
          refine clK_of ((c2) (by simp -implicitDefEqProofs (maxDischargeDepth := 80) (maxSteps := 1000000) [hl, hi, neC hi, neA, ltA, encRd, encMk, encEx_eq, g1, f1, f2, f3, f4, f5, f6, f7, f8, nrd, neE hm1, ltF hm1, neE hm2, ltF hm2, neE hm3, ltF hm3, neE hm6, ltF hm6, neE hm7, ltF hm7]) (by omega) (fun m8 hm8 => ?_))
          have im8 : id < m8 := by omega
          simp -implicitDefEqProofs (maxDischargeDepth := 80) (maxSteps := 1000000) [hl, hi, neC hi, neA, ltA, encRd, encMk, encEx_eq, g1, f1, f2, f3, f4, f5, f6, f7, f8, nrd, neE hm1, ltF hm1, neE hm2, ltF hm2, neE hm3, ltF hm3, neE hm6, ltF hm6, neE hm7, ltF hm7, neE hm8, ltF hm8, nq, wm]
          exact kfrz0 (by repeat (first | exact memSub_refl _ | refine memSub_skip ?_ (look_upd_none (hfr _ (by omega))) | refine memSub_skip ?_ (hfr _ (by omega)))) (by simp [frz]) (hk _ (by omega))
      · have ht : r.next.text = [108, 101, 116] := (Rd.is_kind b1).2.2
        have t1 : ¬ r.next.text = [105, 102] := by rw [ht]; simp
        have t2 : ¬ r.next.text = [99, 97, 115, 101] := by rw [ht]; simp
        have t3 : ¬ r.next.text = [115, 116, 114, 105, 99, 116] := by rw [ht]; simp
        rw [if_neg t1, if_neg t2] at hrun
        rw [if_neg t3] at hrun
        simp only [Option.map_map, Option.map_eq_some_iff, Function.comp_def, Prod.mk.injEq] at hrun
        obtain ⟨⟨L, q⟩, hp, rfl, rfl⟩ := hrun
        have w5 := name_c krd
        have kw5 := Rd.ok_name krd
        have n5 : rd.name.2.nest = rd.nest := nest_name
        have w6 := typ_c kw5
        have kw6 := Rd.ok_typ kw5
        have n6 : rd.name.2.typ.2.nest = rd.nest := by rw [nest_typ, n5]
        generalize rd.name.1 = hd at *
        generalize rd.name.2 = s5 at *
        generalize s5.typ.1 = ty at *
        generalize s5.typ.2 = s6 at *
        obtain ⟨k2, n2, c2⟩ := h1 _ s6 L q (by simp) kw6 hp
        rw [em_2] at c2
        have nq : q.nest = r.nest + 1 := by rw [n2, n6, nrd]
        refine ⟨⟨k2.ms, k2.lt, k2.len, by simp only; omega, by simp only; omega, k2.l1⟩, by simp only; omega, ?_⟩
        intro id mem nx K hl hi hk
        simp only [encEx_mk] at hk
        simp [encRd, nq] at hk
        simp only [encMk] at w5
        rw [ht] at cn
        refine CallT_frzR ?_
        refine ct66 (by simp) fun hfr => ?_
        simp -implicitDefEqProofs (maxDischargeDepth := 80) (maxSteps := 1000000) [ac66, hl, hi, neC hi, neA, ltA, encRd, encMk, encEx_eq, g1, f1, f2, f3, f4, f5, f6, f7, f8, nrd]
        refine clK_of ((cn) (by simp -implicitDefEqProofs (maxDischargeDepth := 80) (maxSteps := 1000000) [hl, hi, neC hi, neA, ltA, encRd, encMk, encEx_eq, g1, f1, f2, f3, f4, f5, f6, f7, f8, nrd]) (by omega) (fun m1 hm1 => ?_))
        have im1 : id < m1 := by omega
        simp -implicitDefEqProofs (maxDischargeDepth := 80) (maxSteps := 1000000) [hl, hi, neC hi, neA, ltA, encRd, encMk, encEx_eq, g1, f1, f2, f3, f4, f5, f6, f7, f8, nrd, neE hm1, ltF hm1]
        refine clK_of ((i1) (by simp -implicitDefEqProofs (maxDischargeDepth := 80) (maxSteps := 1000000) [hl, hi, neC hi, neA, ltA, encRd, encMk, encEx_eq, g1, f1, f2, f3, f4, f5, f6, f7, f8, nrd, neE hm1, ltF hm1]) (by omega) (fun m2 hm2 => ?_))
        have im2 : id < m2 := by omega
        simp -implicitDefEqProofs (maxDischargeDepth := 80) (maxSteps := 1000000) [hl, hi, neC hi, neA, ltA, encRd, encMk, encEx_eq, g1, f1, f2, f3, f4, f5, f6, f7, f8, nrd, neE hm1, ltF hm1, neE hm2, ltF hm2, g2, wn, w]
        refine clK_of ((w5) (by simp -implicitDefEqProofs (maxDischargeDepth := 80) (maxSteps := 1000000) [hl, hi, neC hi, neA, ltA, encRd, encMk, encEx_eq, g1, f1, f2, f3, f4, f5, f6, f7, f8, nrd, neE hm1, ltF hm1, neE hm2, ltF hm2]) (by omega) (fun m6 hm6 => ?_))
        have im6 : id < m6 := by omega
        simp -implicitDefEqProofs (maxDischargeDepth := 80) (maxSteps := 1000000) [hl, hi, neC hi, neA, ltA, encRd, encMk, encEx_eq, g1, f1, f2, f3, f4, f5, f6, f7, f8, nrd, neE hm1, ltF hm1, neE hm2, ltF hm2, neE hm6, ltF hm6]
        refine clK_of ((w6) (by simp -implicitDefEqProofs (maxDischargeDepth := 80) (maxSteps := 1000000) [hl, hi, neC hi, neA, ltA, encRd, encMk, encEx_eq, g1, f1, f2, f3, f4, f5, f6, f7, f8, nrd, neE hm1, ltF hm1, neE hm2, ltF hm2, neE hm6, ltF hm6]) (by omega) (fun m7 hm7 => ?_))
        have im7 : id < m7 := by omega
        simp -implicitDefEqProofs (maxDischargeDepth := 80) (maxSteps := 1000000) [hl, hi, neC hi, neA, ltA, encRd, encMk, encEx_eq, g1, f1, f2, f3, f4, f5, f6, f7, f8, nrd, neE hm1, ltF hm1, neE hm2, ltF hm2, neE hm6, ltF hm6, neE hm7, ltF hm7]
        refine clK_of ((c2) (by simp -implicitDefEqProofs (maxDischargeDepth := 80) (maxSteps := 1000000) [hl, hi, neC hi, neA, ltA, encRd, encMk, encEx_eq, g1, f1, f2, f3, f4, f5, f6, f7, f8, nrd, neE hm1, ltF hm1, neE hm2, ltF hm2, neE hm6, ltF hm6, neE hm7, ltF hm7]) (by omega) (fun m8 hm8 => ?_))
        have im8 : id < m8 := by omega
        simp -implicitDefEqProofs (maxDischargeDepth := 80) (maxSteps := 1000000) [hl, hi, neC hi, neA, ltA, encRd, encMk, encEx_eq, g1, f1, f2, f3, f4, f5, f6, f7, f8, nrd, neE hm1, ltF hm1, neE hm2, ltF hm2, neE hm6, ltF hm6, neE hm7, ltF hm7, neE hm8, ltF hm8, nq, wm]
        exact kfrz0 (by repeat (first | exact memSub_refl _ | refine memSub_skip ?_ (look_upd_none (hfr _ (by omega))) | refine memSub_skip ?_ (hfr _ (by omega)))) (by simp [frz]) (hk _ (by omega))
end Go.Fx.Ythbainhddfajfaa

/-
  Layer 16: TuplesTables, TuplesOne, TuplesSet, TuplesJoin.
-/
import Derived.Test.YtjfiklflmnhbdaaLt
set_option linter.all false
set_option maxRecDepth 100000
set_option maxHeartbeats 4000000
namespace Go.Fx.Ytjfiklflmnhbdaa
open Go Go.Fx Go.Proofs Rows
/-- What a call tells of a table: some table, and an error's number. -/
theorem newT_is (ps : List Int) (t : Int) (hp : ps.length < 2 ^ 44) : ∃ qs u n l, (newT ps t).1 = tb qs u n l ∧ qs.length < 2 ^ 44 ∧ l.length < 2 ^ 48 := by
  unfold newT
  by_cases h : (cntF ps).2 ≠ 0
  · rw [if_pos h]; exact ⟨[], 0, 0, [], rfl, by simp, by simp⟩
  · rw [if_neg h]
    obtain ⟨_, h96, _⟩ := cntF_ok (Classical.byContradiction fun g => h g)
    by_cases h2 : tp t < 0
    · rw [if_pos h2]; exact ⟨[], 0, 0, [], rfl, by simp, by simp⟩
    · rw [if_neg h2]; exact ⟨ps, t, _, _, rfl, hp, by simp; omega⟩
theorem setF_is (ps : List Int) (t n : Int) (l tu : List Int) (p : Int) (hp : ps.length < 2 ^ 44) (hl : l.length < 2 ^ 44) : ∃ qs u n' l', (setF ps t n l tu p).1 = tb qs u n' l' ∧ qs.length < 2 ^ 44 ∧ l'.length < 2 ^ 48 := by
  unfold setF
  by_cases h : (placeF ps t n l tu).2 ≠ 0
  · rw [if_pos h]; exact ⟨[], 0, 0, [], rfl, by simp, by simp⟩
  · rw [if_neg h]
    by_cases h2 : 0 ≤ p ∧ p ≤ tp t
    · rw [if_pos h2]; exact ⟨ps, t, n, _, rfl, hp, by simp [putL]; omega⟩
    · rw [if_neg h2]; exact ⟨[], 0, 0, [], rfl, by simp, by simp⟩
theorem law_TuplesTables : ∀ xs, Args Try.prog Try.f4.params.toList xs → Pure Try.prog 4 xs (B true) := by
  intro xs h
  rw [Try.params4] at h
  simp only [Args] at h
  obtain ⟨x, r, rfl, hx, y, r2, rfl, hy, z, r3, rfl, hz, rfl⟩ := h
  obtain ⟨ps, t, n, l, rfl, hp, hw, hl⟩ := arg_table hx
  obtain ⟨tu, rfl, ht⟩ := arg_pts hy
  obtain ⟨p, rfl, _⟩ := arg_int hz
  obtain ⟨qs, u, m, l2, hN, hq, hl2⟩ := newT_is ps t hp
  obtain ⟨qs', u', m', l2', hS, hq', hl2'⟩ := setF_is ps t n l tu p hp hl
  have hn1 := New_c16 ps t hp
  have hn2 := refNew_c16 ps t hp
  have hs1 := Set_c16 ps t n l tu p hw hp (by omega)
  have hs2 := refSet_c16 ps t n l tu p hw hp (by omega)
  rw [hN] at hn1 hn2
  rw [hS] at hs1 hs2
  have hc := copiedT_c ps t n l hp hl
  refine pu4 (by simp) ?_
  simp -implicitDefEqProofs [ac4]
  refine pcK_of (awake_c16) (by simp) ?_
  simp -implicitDefEqProofs
  refine pcK_of (hn1) (by simp) ?_
  simp -implicitDefEqProofs
  refine pcK_of (hn2) (by simp) ?_
  simp -implicitDefEqProofs
  by_cases h : TabOk ps t n l
  · refine pcK_of (Points_y hw hp h) (by simp) ?_
    simp -implicitDefEqProofs
    refine pcK_of (hc) (by simp) ?_
    simp -implicitDefEqProofs
    refine pcK_of (Check_c16 ps t n l hw hp) (by simp) ?_
    simp -implicitDefEqProofs [tabE, h]
    refine pcK_of (Same_c16 qs qs u u m m l2 l2 (by omega) hl2) (by simp) ?_
    simp -implicitDefEqProofs
    refine pcK_of (hc) (by simp) ?_
    simp -implicitDefEqProofs
    refine pcK_of (At_c16 ps t n l tu hw hp (by omega)) (by simp) ?_
    simp -implicitDefEqProofs
    refine pcK_of (refAt_c16 ps t n l tu hw hp (by omega)) (by simp) ?_
    simp -implicitDefEqProofs
    refine pcK_of (hc) (by simp) ?_
    simp -implicitDefEqProofs
    refine pcK_of (hs1) (by simp) ?_
    simp -implicitDefEqProofs
    refine pcK_of (hs2) (by simp) ?_
    simp -implicitDefEqProofs
    refine pcK_of (hc) (by simp) ?_
    simp -implicitDefEqProofs
    refine pcK_of (Rises_c ps t n l hw hp) (by simp) ?_
    simp -implicitDefEqProofs
    refine pcK_of (refRises_c ps t n l hw hp) (by simp) ?_
    simp -implicitDefEqProofs
    refine pcK_of (Same_c16 qs' qs' u' u' m' m' l2' l2' (by omega) hl2') (by simp) ?_
    simp -implicitDefEqProofs
  · refine pcK_of (Points_n hw hp h) (by simp) ?_
    simp -implicitDefEqProofs
    refine pcK_of (hc) (by simp) ?_
    simp -implicitDefEqProofs
    refine pcK_of (Check_c16 ps t n l hw hp) (by simp) ?_
    simp -implicitDefEqProofs [tabE, h]
    refine pcK_of (Same_c16 qs qs u u m m l2 l2 (by omega) hl2) (by simp) ?_
    simp -implicitDefEqProofs
    refine pcK_of (hc) (by simp) ?_
    simp -implicitDefEqProofs
    refine pcK_of (At_c16 ps t n l tu hw hp (by omega)) (by simp) ?_
    simp -implicitDefEqProofs
    refine pcK_of (refAt_c16 ps t n l tu hw hp (by omega)) (by simp) ?_
    simp -implicitDefEqProofs
    refine pcK_of (hc) (by simp) ?_
    simp -implicitDefEqProofs
    refine pcK_of (hs1) (by simp) ?_
    simp -implicitDefEqProofs
    refine pcK_of (hs2) (by simp) ?_
    simp -implicitDefEqProofs
    refine pcK_of (hc) (by simp) ?_
    simp -implicitDefEqProofs
    refine pcK_of (Rises_c ps t n l hw hp) (by simp) ?_
    simp -implicitDefEqProofs
    refine pcK_of (refRises_c ps t n l hw hp) (by simp) ?_
    simp -implicitDefEqProofs
    refine pcK_of (Same_c16 qs' qs' u' u' m' m' l2' l2' (by omega) hl2') (by simp) ?_
    simp -implicitDefEqProofs
theorem law_TuplesOne : ∀ xs, Args Try.prog Try.f5.params.toList xs → Pure Try.prog 5 xs (B true) := by
  intro xs h
  rw [Try.params5] at h
  simp only [Args] at h
  obtain ⟨x, r, rfl, hx, y, r2, rfl, hy, z, r3, rfl, hz, rfl⟩ := h
  obtain ⟨ps, rfl, hp⟩ := arg_tys hx
  obtain ⟨n, rfl, _⟩ := arg_int hy
  obtain ⟨m, rfl, _⟩ := arg_int hz
  refine pu5 (by simp) ?_
  simp -implicitDefEqProofs [ac5]
  refine pcK_of (awake_c16) (by simp) ?_
  simp -implicitDefEqProofs
  refine pcK_of (Count_c16 ps (by omega)) (by simp) ?_
  simp -implicitDefEqProofs
  by_cases he : (cntF ps).2 = 0
  · obtain ⟨ho, hp96, hp1⟩ := cntF_ok he
    have hpos := pr_pos ho
    obtain ⟨a1, a2, a3, a4, a5⟩ := into_in n (pr ps) hpos hp96
    obtain ⟨b1, b2, b3, b4, _⟩ := into_in m (pr ps) hpos hp96
    have w1 := wrS a3 a4
    have w2 := wrS b3 b4
    have h1 : ¬ pr ps < 1 := by omega
    have h2 : ¬ 4096 < pr ps := by omega
    have h1' : 0 < pr ps := by omega
    have hT : ∀ k, 0 ≤ k → k < pr ps → tupF ps k = (dg ps k, 0) := fun k g1 g2 => by unfold tupF; rw [if_neg (fun g => g he), if_neg (by omega)]
    have hN : ∀ k, 0 ≤ k → k < pr ps → numF ps (dg ps k) = (k, 0) := fun k g1 g2 => by
      unfold numF
      rw [if_neg (fun g => g he), if_neg (by simp [dg_len]), if_pos (dg_in k ho g1), vl_of_dg ho g1 g2]
    have hB1 : tupF ps (pr ps) = ([], 2) := by unfold tupF; rw [if_neg (fun g => g he), if_pos (.inr (Int.le_refl _))]
    have hB2 : tupF ps (-1) = ([], 2) := by unfold tupF; rw [if_neg (fun g => g he), if_pos (.inl (by decide))]
    simp -implicitDefEqProofs [he, hp1, h1, h2, Int.not_lt.1 h1, Int.not_lt.1 h2, a5, w1, w2, hpos]
    generalize (n.tmod (pr ps) + pr ps).tmod (pr ps) = N at *
    generalize (m.tmod (pr ps) + pr ps).tmod (pr ps) = M at *
    have t1 := Tuple_c ps N hp
    have t2 := Tuple_c ps M hp
    have t3 := Tuple_c ps (pr ps) hp
    have t4 := Tuple_c ps (-1) hp
    rw [hT N a1 a2] at t1
    rw [hT M b1 b2] at t2
    rw [hB1] at t3
    rw [hB2] at t4
    have l1 := dg_len N ps
    have l2 := dg_len M ps
    have n1 := Number_c ps (dg ps N) (by omega) (by omega)
    have n2 := Number_c ps (dg ps M) (by omega) (by omega)
    rw [hN N a1 a2] at n1
    rw [hN M b1 b2] at n2
    refine pcK_of (t1) (by simp) ?_
    simp -implicitDefEqProofs
    refine pcK_of (t2) (by simp) ?_
    simp -implicitDefEqProofs
    refine pcK_of (n1) (by simp) ?_
    simp -implicitDefEqProofs
    refine pcK_of (n2) (by simp) ?_
    simp -implicitDefEqProofs
    refine pcK_of (t3) (by simp) ?_
    simp -implicitDefEqProofs
    refine pcK_of (t4) (by simp) ?_
    simp -implicitDefEqProofs
    have hinj : (dg ps N = dg ps M) = (N = M) := by
      rw [eq_iff_iff]
      constructor
      · intro g
        have e1 := hN N a1 a2
        rw [g, hN M b1 b2] at e1
        exact (Prod.mk.inj e1).1.symm
      · intro g; rw [g]
    have hmon : belowL (dg ps N) (dg ps M) → N ≤ M := fun g => by
      have := vl_mono ps _ _ 0 0 (dg_in N ho a1) (dg_in M ho b1) g.2 (Int.le_refl 0) (Int.le_refl 0)
      rw [vl_of_dg ho a1 a2, vl_of_dg ho b1 b2] at this
      exact this
    have sm := same_c16 (dg ps N) (dg ps M) (by omega)
    have be := Below_c16 (dg ps N) (dg ps M) (by omega)
    simp only [hinj] at sm
    refine pcK_of (sm) (by simp) ?_
    simp -implicitDefEqProofs
    by_cases hb : belowL (dg ps N) (dg ps M)
    · rw [show decide (belowL (dg ps N) (dg ps M)) = true by simpa using hb] at be
      refine pcK_of (be) (by simp) ?_
      simp -implicitDefEqProofs [hmon hb]
    · rw [show decide (belowL (dg ps N) (dg ps M)) = false by simpa using hb] at be
      refine pcK_of (be) (by simp) ?_
      simp -implicitDefEqProofs
  · have hT : tupF ps n = ([], (cntF ps).2) := by unfold tupF; rw [if_pos he]
    have t1 := Tuple_c ps n hp
    rw [hT] at t1
    have h0 : (cntF ps).1 = 0 := by
      unfold cntF at he ⊢
      by_cases g : okT ps
      · rw [if_pos g] at he ⊢
        by_cases g2 : 4096 < pr ps
        · rw [if_pos g2]
        · rw [if_neg g2] at he; simp at he
      · rw [if_neg g]
    simp -implicitDefEqProofs [he]
    refine pcK_of (t1) (by simp) ?_
    simp -implicitDefEqProofs [h0]
open Classical in
theorem law_TuplesSet : ∀ xs, Args Try.prog Try.f6.params.toList xs → Pure Try.prog 6 xs (B true) := by
  intro xs h
  rw [Try.params6] at h
  simp only [Args] at h
  obtain ⟨x, r, rfl, hx, y, r2, rfl, hy, z, r3, rfl, hz, v, r4, rfl, hv, rfl⟩ := h
  obtain ⟨ps, t, n, l, rfl, hp, hw, hl⟩ := arg_table hx
  obtain ⟨i, rfl, _⟩ := arg_int hy
  obtain ⟨j, rfl, _⟩ := arg_int hz
  obtain ⟨p, rfl, _⟩ := arg_int hv
  refine pu6 (by simp) ?_
  simp -implicitDefEqProofs [ac6]
  refine pcK_of (awake_c16) (by simp) ?_
  simp -implicitDefEqProofs
  by_cases h : TabOk ps t n l
  · have h0 := h
    obtain ⟨he, ht0, hn, hg, hcell⟩ := h
    obtain ⟨ho, hp96, hp1⟩ := cntF_ok he
    have hpos := pr_pos ho
    obtain ⟨a1, a2, a3, a4, a5⟩ := into_in i (pr ps) hpos hp96
    obtain ⟨b1, b2, b3, b4, _⟩ := into_in j (pr ps) hpos hp96
    have w1 := wrS a3 a4
    have w2 := wrS b3 b4
    have h1 : ¬ pr ps < 1 := by omega
    have htt : (t = 3 ∧ tp t + 1 = 4) ∨ (¬ t = 3 ∧ tp t + 1 = 2) := by
      rcases tp_cases t with ⟨rfl, g⟩ | ⟨rfl, g⟩ | ⟨rfl, g⟩ | ⟨_, _, _, g⟩
      · right; rw [g]; decide
      · right; rw [g]; decide
      · left; rw [g]; decide
      · omega
    have hT : ∀ k, 0 ≤ k → k < pr ps → tupF ps k = (dg ps k, 0) := fun k g1 g2 => by unfold tupF; rw [if_neg (fun g => g he), if_neg (by omega)]
    have hNm : ∀ k, 0 ≤ k → k < pr ps → numF ps (dg ps k) = (k, 0) := fun k g1 g2 => by
      unfold numF
      rw [if_neg (fun g => g he), if_neg (by simp [dg_len]), if_pos (dg_in k ho g1), vl_of_dg ho g1 g2]
    have hPl : ∀ l', TabOk ps t n l' → ∀ k, 0 ≤ k → k < pr ps → placeF ps t n l' (dg ps k) = (k, 0) := fun l' hl' k g1 g2 => by unfold placeF; rw [if_pos hl', hNm k g1 g2]
    have hAt : ∀ l', TabOk ps t n l' → ∀ k, 0 ≤ k → k < pr ps → atF ps t n l' (dg ps k) = (cellN l' k.toNat, 0) := fun l' hl' k g1 g2 => by unfold atF; rw [hPl l' hl' k g1 g2, if_neg (by simp)]
    refine pcK_of (Check_c16 ps t n l hw hp) (by simp) ?_
    simp -implicitDefEqProofs [tabE, h0]
    refine pcK_of (Count_c16 ps (by omega)) (by simp) ?_
    simp -implicitDefEqProofs [he, hp1, h1, Int.not_lt.1 h1, a5, w1, w2, hpos]
    generalize (i.tmod (pr ps) + pr ps).tmod (pr ps) = N at *
    generalize (j.tmod (pr ps) + pr ps).tmod (pr ps) = M at *
    have t1 := Tuple_c ps N hp
    have t2 := Tuple_c ps M hp
    rw [hT N a1 a2] at t1
    rw [hT M b1 b2] at t2
    refine pcK_of (t1) (by simp) ?_
    simp -implicitDefEqProofs
    refine pcK_of (t2) (by simp) ?_
    simp -implicitDefEqProofs
    -- the point
    have rest : ∀ q : Int, 0 ≤ q → q ≤ tp t → TabOk ps t n (putL l N.toNat q) ∧ setF ps t n l (dg ps N) q = (tb ps t n (putL l N.toNat q), 0) ∧ AllW (putL l N.toNat q) ∧ cellN (putL l N.toNat q) N.toNat = q ∧ (N ≠ M → cellN (putL l N.toNat q) M.toNat = cellN l M.toNat) ∧
        (RisesOk ps (putL l N.toNat q) n → (belowL (dg ps N) (dg ps M) → q ≤ cellN (putL l N.toNat q) M.toNat) ∧ (belowL (dg ps M) (dg ps N) → cellN (putL l N.toNat q) M.toNat ≤ q)) := by
      intro q q0 q1
      have q3 : q ≤ 3 := by have := tp_is t; omega
      have hin : N.toNat < n.toNat := by omega
      have him : M.toNat < n.toNat := by omega
      have hsz := good_pos hg
      have hgood := putL_good hw hg q0 q3 hin
      have hWp := putL_W (v := q) (i := N.toNat) hw
      have hc1 := fun (k : Nat) (hk : k < n.toNat) => putL_cell (i := k) (j := N.toNat) hw q0 q3 (by omega) (by omega)
      have htab : TabOk ps t n (putL l N.toNat q) := ⟨he, ht0, hn, hgood, fun k hk => by
        rw [hc1 k hk]
        split
        · exact q1
        · exact hcell k hk⟩
      refine ⟨htab, ?_, hWp, ?_, fun hne => ?_, fun hr => ⟨fun hb => ?_, fun hb => ?_⟩⟩
      · unfold setF
        rw [hPl l h0 N a1 a2, if_neg (by simp), if_pos ⟨q0, q1⟩]
      · rw [hc1 N.toNat hin, if_pos rfl]
      · rw [hc1 M.toNat him, if_neg (by omega)]
      · have := rises_mono ho hn hr _ (dg ps N) (dg ps M) (dg_in N ho a1) (dg_in M ho b1) hb.2 (Nat.le_refl _)
        rw [vl_of_dg ho a1 a2, vl_of_dg ho b1 b2, hc1 N.toNat hin, if_pos rfl] at this
        exact this
      · have := rises_mono ho hn hr _ (dg ps M) (dg ps N) (dg_in M ho b1) (dg_in N ho a1) hb.2 (Nat.le_refl _)
        rw [vl_of_dg ho a1 a2, vl_of_dg ho b1 b2, hc1 N.toNat hin, if_pos rfl] at this
        exact this
    have l1 := dg_len N ps
    have l2 := dg_len M ps
    rcases htt with ⟨ht3, hk⟩ | ⟨ht3, hk⟩
    · obtain ⟨c1, c2, c3, c4, _⟩ := into_in p 4 (by decide) (by decide)
      have w3 := wrS c3 c4
      have ht4 := eq_true ht3
      simp -implicitDefEqProofs [ht4, w3]
      generalize (p.tmod 4 + 4).tmod 4 = q at *
      obtain ⟨r1, r2, r3, r4, r5, r6⟩ := rest q c1 (by omega)
      generalize putL l N.toNat q = X at *
      have A1 := At_c16 ps t n l (dg ps M) hw hp (by omega)
      rw [hAt l h0 M b1 b2] at A1
      have S1 := Set_c16 ps t n l (dg ps N) q hw hp (by omega)
      rw [r2] at S1
      have A2 := At_c16 ps t n X (dg ps N) r3 hp (by omega)
      rw [hAt _ r1 N a1 a2, r4] at A2
      have A3 := At_c16 ps t n X (dg ps M) r3 hp (by omega)
      rw [hAt _ r1 M b1 b2] at A3
      generalize cellN X M.toNat = z at *
      generalize cellN l M.toNat = y at *
      refine pcK_of (A1) (by simp) ?_
      simp -implicitDefEqProofs
      refine pcK_of (S1) (by simp) ?_
      simp -implicitDefEqProofs
      refine pcK_of (A2) (by simp) ?_
      simp -implicitDefEqProofs
      refine pcK_of (A3) (by simp) ?_
      simp -implicitDefEqProofs
      have hNM : N = M ∨ (¬ N = M ∧ z = y) := by
        by_cases e : N = M
        · exact .inl e
        · exact .inr ⟨e, r5 e⟩
      have hCk := Check_c16 ps t n X r3 hp
      rw [tabE, if_pos r1] at hCk
      have hRi := Rises_c ps t n X r3 hp
      rw [risesF, if_pos r1] at hRi
      have be1 := Below_c16 (dg ps N) (dg ps M) (by omega)
      have be2 := Below_c16 (dg ps M) (dg ps N) (by omega)
      rcases hNM with rfl | ⟨e, e2⟩
      · simp -implicitDefEqProofs
        refine pcK_of (hCk) (by simp) ?_
        simp -implicitDefEqProofs
        by_cases hR : RisesOk ps X n
        · rw [show decide (RisesOk ps X n) = true by simpa using hR] at hRi
          obtain ⟨g1, g2⟩ := r6 hR
          refine pcK_of (hRi) (by simp) ?_
          simp -implicitDefEqProofs
          by_cases h1 : belowL (dg ps N) (dg ps N)
          · rw [show decide (belowL (dg ps N) (dg ps N)) = true by simpa using h1] at be1
            have g3 := g1 h1
            refine pcK_of (be1) (by simp) ?_
            simp -implicitDefEqProofs [g3, Int.not_lt.2 g3]
            by_cases h2 : belowL (dg ps N) (dg ps N)
            · rw [show decide (belowL (dg ps N) (dg ps N)) = true by simpa using h2] at be2
              have g4 := g2 h2
              refine pcK_of (be2) (by simp) ?_
              simp -implicitDefEqProofs [g4, Int.not_lt.2 g4]
            · rw [show decide (belowL (dg ps N) (dg ps N)) = false by simpa using h2] at be2
              refine pcK_of (be2) (by simp) ?_
              simp -implicitDefEqProofs
          · rw [show decide (belowL (dg ps N) (dg ps N)) = false by simpa using h1] at be1
            refine pcK_of (be1) (by simp) ?_
            simp -implicitDefEqProofs
            by_cases h2 : belowL (dg ps N) (dg ps N)
            · rw [show decide (belowL (dg ps N) (dg ps N)) = true by simpa using h2] at be2
              have g4 := g2 h2
              refine pcK_of (be2) (by simp) ?_
              simp -implicitDefEqProofs [g4, Int.not_lt.2 g4]
            · rw [show decide (belowL (dg ps N) (dg ps N)) = false by simpa using h2] at be2
              refine pcK_of (be2) (by simp) ?_
              simp -implicitDefEqProofs
        · rw [show decide (RisesOk ps X n) = false by simpa using hR] at hRi
          refine pcK_of (hRi) (by simp) ?_
          simp -implicitDefEqProofs
      · simp -implicitDefEqProofs [e, e2]
        refine pcK_of (hCk) (by simp) ?_
        simp -implicitDefEqProofs
        rw [e2] at r6
        by_cases hR : RisesOk ps X n
        · rw [show decide (RisesOk ps X n) = true by simpa using hR] at hRi
          obtain ⟨g1, g2⟩ := r6 hR
          refine pcK_of (hRi) (by simp) ?_
          simp -implicitDefEqProofs
          by_cases h1 : belowL (dg ps N) (dg ps M)
          · rw [show decide (belowL (dg ps N) (dg ps M)) = true by simpa using h1] at be1
            have g3 := g1 h1
            refine pcK_of (be1) (by simp) ?_
            simp -implicitDefEqProofs [g3, Int.not_lt.2 g3]
            by_cases h2 : belowL (dg ps M) (dg ps N)
            · rw [show decide (belowL (dg ps M) (dg ps N)) = true by simpa using h2] at be2
              have g4 := g2 h2
              refine pcK_of (be2) (by simp) ?_
              simp -implicitDefEqProofs [g4, Int.not_lt.2 g4]
            · rw [show decide (belowL (dg ps M) (dg ps N)) = false by simpa using h2] at be2
              refine pcK_of (be2) (by simp) ?_
              simp -implicitDefEqProofs
          · rw [show decide (belowL (dg ps N) (dg ps M)) = false by simpa using h1] at be1
            refine pcK_of (be1) (by simp) ?_
            simp -implicitDefEqProofs
            by_cases h2 : belowL (dg ps M) (dg ps N)
            · rw [show decide (belowL (dg ps M) (dg ps N)) = true by simpa using h2] at be2
              have g4 := g2 h2
              refine pcK_of (be2) (by simp) ?_
              simp -implicitDefEqProofs [g4, Int.not_lt.2 g4]
            · rw [show decide (belowL (dg ps M) (dg ps N)) = false by simpa using h2] at be2
              refine pcK_of (be2) (by simp) ?_
              simp -implicitDefEqProofs
        · rw [show decide (RisesOk ps X n) = false by simpa using hR] at hRi
          refine pcK_of (hRi) (by simp) ?_
          simp -implicitDefEqProofs
    · obtain ⟨c1, c2, c3, c4, _⟩ := into_in p 2 (by decide) (by decide)
      have w3 := wrS c3 c4
      have ht4 := eq_false ht3
      simp -implicitDefEqProofs [ht4, w3]
      generalize (p.tmod 2 + 2).tmod 2 = q at *
      obtain ⟨r1, r2, r3, r4, r5, r6⟩ := rest q c1 (by omega)
      generalize putL l N.toNat q = X at *
      have A1 := At_c16 ps t n l (dg ps M) hw hp (by omega)
      rw [hAt l h0 M b1 b2] at A1
      have S1 := Set_c16 ps t n l (dg ps N) q hw hp (by omega)
      rw [r2] at S1
      have A2 := At_c16 ps t n X (dg ps N) r3 hp (by omega)
      rw [hAt _ r1 N a1 a2, r4] at A2
      have A3 := At_c16 ps t n X (dg ps M) r3 hp (by omega)
      rw [hAt _ r1 M b1 b2] at A3
      generalize cellN X M.toNat = z at *
      generalize cellN l M.toNat = y at *
      refine pcK_of (A1) (by simp) ?_
      simp -implicitDefEqProofs
      refine pcK_of (S1) (by simp) ?_
      simp -implicitDefEqProofs
      refine pcK_of (A2) (by simp) ?_
      simp -implicitDefEqProofs
      refine pcK_of (A3) (by simp) ?_
      simp -implicitDefEqProofs
      have hNM : N = M ∨ (¬ N = M ∧ z = y) := by
        by_cases e : N = M
        · exact .inl e
        · exact .inr ⟨e, r5 e⟩
      have hCk := Check_c16 ps t n X r3 hp
      rw [tabE, if_pos r1] at hCk
      have hRi := Rises_c ps t n X r3 hp
      rw [risesF, if_pos r1] at hRi
      have be1 := Below_c16 (dg ps N) (dg ps M) (by omega)
      have be2 := Below_c16 (dg ps M) (dg ps N) (by omega)
      rcases hNM with rfl | ⟨e, e2⟩
      · simp -implicitDefEqProofs
        refine pcK_of (hCk) (by simp) ?_
        simp -implicitDefEqProofs
        by_cases hR : RisesOk ps X n
        · rw [show decide (RisesOk ps X n) = true by simpa using hR] at hRi
          obtain ⟨g1, g2⟩ := r6 hR
          refine pcK_of (hRi) (by simp) ?_
          simp -implicitDefEqProofs
          by_cases h1 : belowL (dg ps N) (dg ps N)
          · rw [show decide (belowL (dg ps N) (dg ps N)) = true by simpa using h1] at be1
            have g3 := g1 h1
            refine pcK_of (be1) (by simp) ?_
            simp -implicitDefEqProofs [g3, Int.not_lt.2 g3]
            by_cases h2 : belowL (dg ps N) (dg ps N)
            · rw [show decide (belowL (dg ps N) (dg ps N)) = true by simpa using h2] at be2
              have g4 := g2 h2
              refine pcK_of (be2) (by simp) ?_
              simp -implicitDefEqProofs [g4, Int.not_lt.2 g4]
            · rw [show decide (belowL (dg ps N) (dg ps N)) = false by simpa using h2] at be2
              refine pcK_of (be2) (by simp) ?_
              simp -implicitDefEqProofs
          · rw [show decide (belowL (dg ps N) (dg ps N)) = false by simpa using h1] at be1
            refine pcK_of (be1) (by simp) ?_
            simp -implicitDefEqProofs
            by_cases h2 : belowL (dg ps N) (dg ps N)
            · rw [show decide (belowL (dg ps N) (dg ps N)) = true by simpa using h2] at be2
              have g4 := g2 h2
              refine pcK_of (be2) (by simp) ?_
              simp -implicitDefEqProofs [g4, Int.not_lt.2 g4]
            · rw [show decide (belowL (dg ps N) (dg ps N)) = false by simpa using h2] at be2
              refine pcK_of (be2) (by simp) ?_
              simp -implicitDefEqProofs
        · rw [show decide (RisesOk ps X n) = false by simpa using hR] at hRi
          refine pcK_of (hRi) (by simp) ?_
          simp -implicitDefEqProofs
      · simp -implicitDefEqProofs [e, e2]
        refine pcK_of (hCk) (by simp) ?_
        simp -implicitDefEqProofs
        rw [e2] at r6
        by_cases hR : RisesOk ps X n
        · rw [show decide (RisesOk ps X n) = true by simpa using hR] at hRi
          obtain ⟨g1, g2⟩ := r6 hR
          refine pcK_of (hRi) (by simp) ?_
          simp -implicitDefEqProofs
          by_cases h1 : belowL (dg ps N) (dg ps M)
          · rw [show decide (belowL (dg ps N) (dg ps M)) = true by simpa using h1] at be1
            have g3 := g1 h1
            refine pcK_of (be1) (by simp) ?_
            simp -implicitDefEqProofs [g3, Int.not_lt.2 g3]
            by_cases h2 : belowL (dg ps M) (dg ps N)
            · rw [show decide (belowL (dg ps M) (dg ps N)) = true by simpa using h2] at be2
              have g4 := g2 h2
              refine pcK_of (be2) (by simp) ?_
              simp -implicitDefEqProofs [g4, Int.not_lt.2 g4]
            · rw [show decide (belowL (dg ps M) (dg ps N)) = false by simpa using h2] at be2
              refine pcK_of (be2) (by simp) ?_
              simp -implicitDefEqProofs
          · rw [show decide (belowL (dg ps N) (dg ps M)) = false by simpa using h1] at be1
            refine pcK_of (be1) (by simp) ?_
            simp -implicitDefEqProofs
            by_cases h2 : belowL (dg ps M) (dg ps N)
            · rw [show decide (belowL (dg ps M) (dg ps N)) = true by simpa using h2] at be2
              have g4 := g2 h2
              refine pcK_of (be2) (by simp) ?_
              simp -implicitDefEqProofs [g4, Int.not_lt.2 g4]
            · rw [show decide (belowL (dg ps M) (dg ps N)) = false by simpa using h2] at be2
              refine pcK_of (be2) (by simp) ?_
              simp -implicitDefEqProofs
        · rw [show decide (RisesOk ps X n) = false by simpa using hR] at hRi
          refine pcK_of (hRi) (by simp) ?_
          simp -implicitDefEqProofs
  · have hrf : risesF ps t n l = (false, 3) := by unfold risesF; rw [if_neg h]
    have hr := Rises_c ps t n l hw hp
    rw [hrf] at hr
    refine pcK_of (Check_c16 ps t n l hw hp) (by simp) ?_
    simp -implicitDefEqProofs [tabE, h]
    refine pcK_of (hr) (by simp) ?_
    simp -implicitDefEqProofs
end Go.Fx.Ytjfiklflmnhbdaa

import Derived.Test.YtaghjpoijodgfaaLPairs
set_option linter.all false
namespace Go.Fx.Ytaghjpoijodgfaa
open Go Go.Fx Go.Proofs Go.Fx.Rows
theorem into02_c {n w : Int} (hw : 0 < w) (hw2 : w ≤ 1000) (hn : (Lit.int .i64 n).wf = true) : Pure Try.prog 30 [I n, I w] (I (n % w)) := by
  have hn := i64_bounds hn
  refine pu30 (by simp) ?_
  have h0 : ¬ w = 0 := by omega
  have h1 := Int.tmod_lt_of_pos n hw
  have h2 : -w < n.tmod w := by
    by_cases h : 0 ≤ n
    · have := Int.emod_nonneg n h0
      rw [Int.tmod_eq_emod_of_nonneg h]; omega
    · have e := Int.neg_tmod (-n) w
      rw [Int.neg_neg] at e
      rw [e, Int.tmod_eq_emod_of_nonneg (by omega)]
      have := Int.emod_lt_of_pos (-n) hw
      omega
  have e1 : n.tmod w + w = n.tmod w + w * 1 := by omega
  simp -implicitDefEqProofs [ac30, h0]
  rw [wr64 (by omega) (by omega), Int.tmod_eq_emod_of_nonneg (by omega), e1, Int.add_mul_emod_self_left]
  have : n = w * n.tdiv w + n.tmod w := (Int.mul_tdiv_add_tmod n w).symm
  conv => rhs; rw [this, Int.mul_add_emod_self_left]

theorem cnt_all (l : List Int) : ∀ t, cntTo l 0 t + cntTo l 1 t + cntTo l 2 t + cntTo l 3 t = t
  | 0 => rfl
  | t + 1 => by
    have ih := cnt_all l t
    have h := cellN_b l t
    rw [cntTo_succ, cntTo_succ, cntTo_succ, cntTo_succ]
    have : cellN l t = 0 ∨ cellN l t = 1 ∨ cellN l t = 2 ∨ cellN l t = 3 := by omega
    rcases this with h | h | h | h <;> rw [h] <;> simp <;> omega
def sumC (l : List Int) (t : Nat) : Nat → Nat
  | 0 => 0
  | c + 1 => sumC l t c + cntTo l (c : Int) t
theorem cnt_zero (q t : Nat) : cntTo (List.replicate q 0) 0 t = t := by
  unfold cntTo
  rw [List.countP_eq_length.2]
  · simp
  · intro i _; simp [zero_cell]

theorem law_Puts : ∀ xs, Args Try.prog Try.f9.params.toList xs → Pure Try.prog 9 xs (B true) := by
  intro xs h
  rw [Try.params9] at h
  simp only [Args] at h
  obtain ⟨x1, r, rfl, hx1, x2, r2, rfl, hx2, x3, r3, rfl, hx3, x4, r4, rfl, hx4, rfl⟩ := h
  obtain ⟨n0, rfl, h1⟩ := arg_int hx1
  obtain ⟨i0, rfl, h2⟩ := arg_int hx2
  obtain ⟨k0, rfl, h3⟩ := arg_int hx3
  obtain ⟨v0, rfl, h4⟩ := arg_int hx4
  have e1 := into02_c (w := 200) (by omega) (by omega) h1
  have b1 : 0 ≤ n0 % 200 ∧ n0 % 200 ≤ 199 := by omega
  obtain ⟨n, hn⟩ : ∃ n, n0 % 200 + 1 = n := ⟨_, rfl⟩
  have hw : IntKind.i64.wrap (n0 % 200 + 1) = n := by rw [wr64 (by omega) (by omega)]; exact hn
  have hn0 : 0 < n := by omega
  have hn1 : n ≤ 200 := by omega
  have e2 := into02_c (w := n) (by omega) (by omega) h2
  have e3 := into02_c (w := n) (by omega) (by omega) h3
  have e4 := into02_c (w := 4) (by omega) (by omega) h4
  have b2 : 0 ≤ i0 % n ∧ i0 % n < n := ⟨Int.emod_nonneg _ (by omega), Int.emod_lt_of_pos _ hn0⟩
  have b3 : 0 ≤ k0 % n ∧ k0 % n < n := ⟨Int.emod_nonneg _ (by omega), Int.emod_lt_of_pos _ hn0⟩
  have b4 : 0 ≤ v0 % 4 ∧ v0 % 4 ≤ 3 := by omega
  generalize i0 % n = i at *
  generalize k0 % n = k at *
  generalize v0 % 4 = v at *
  obtain ⟨l, hl⟩ : ∃ l, List.replicate ((n + 31) / 32).toNat (0 : Int) = l := ⟨_, rfl⟩
  have gl : Good n l := hl ▸ zero_good (by omega) (by omega)
  have wl : AllW l := hl ▸ zero_W _
  have hN : Pure Try.prog 11 [I n] (tup2 n l 0) := by
    have := New_c n
    rw [newF, if_pos ⟨by omega, by omega⟩, hl] at this; exact this
  obtain ⟨s, hs⟩ : ∃ s, putL l i.toNat v = s := ⟨_, rfl⟩
  have gs : Good n s := hs ▸ putL_good wl gl b4.1 b4.2 (by omega)
  have ws : AllW s := hs ▸ putL_W wl
  have hP : Pure Try.prog 17 [row n l, I i, I v] (tup2 n s 0) := by
    have := Put_c n i v l
    rw [putF, if_pos gl, if_pos ⟨b2.1, b2.2, b4.1, b4.2⟩, hs] at this; exact this
  obtain ⟨w, hw2⟩ : ∃ w, putL s k.toNat (3 - v) = w := ⟨_, rfl⟩
  have gw : Good n w := hw2 ▸ putL_good ws gs (by omega) (by omega) (by omega)
  have ww : AllW w := hw2 ▸ putL_W ws
  have hQ : Pure Try.prog 17 [row n s, I k, I (3 - v)] (tup2 n w 0) := by
    have := Put_c n k (3 - v) s
    rw [putF, if_pos gs, if_pos ⟨b3.1, b3.2, by omega, by omega⟩, hw2] at this; exact this
  have hG : ∀ j, 0 ≤ j → j < n → Pure Try.prog 25 [row n w, I j] (.tup [I (cellN w j.toNat), I 0]) := fun j h0 h1 => by
    have := Get_c n j w
    rw [getF, if_pos gw, if_pos ⟨h0, h1⟩] at this; exact this
  have hC : ∀ (c : Int) (u : List Int), Good n u → AllW u → 0 ≤ c → c ≤ 3 → Pure Try.prog 28 [row n u, I c] (.tup [I (cntTo u c n.toNat : Nat), I 0]) := fun c u g wu h0 h1 => by
    have := Count_c (n := n) wu c
    rw [countF, if_pos g, if_pos ⟨h0, h1⟩] at this; exact this
  have pl := good_pos gl
  have ps := good_pos gs
  have c1 : cellN w k.toNat = 3 - v := by rw [← hw2, putL_cell ws (by omega) (by omega) (by omega) (by omega), if_pos rfl]
  have c2 : i ≠ k → cellN w i.toNat = v := fun hne => by
    rw [← hw2, putL_cell ws (by omega) (by omega) (by omega) (by omega), if_neg (by omega), ← hs, putL_cell wl b4.1 b4.2 (by omega) (by omega), if_pos rfl]
  refine pu9 (by simp) ?_
  simp -implicitDefEqProofs [ac9]
  refine pcK_of (awake_c) (by simp) ?_
  simp -implicitDefEqProofs
  refine pcK_of (e1) (by simp) ?_
  simp -implicitDefEqProofs [hw]
  refine pcK_of (e2) (by simp) ?_
  simp -implicitDefEqProofs
  refine pcK_of (e3) (by simp) ?_
  simp -implicitDefEqProofs
  refine pcK_of (e4) (by simp) ?_
  simp -implicitDefEqProofs
  refine pcK_of (hN) (by simp) ?_
  simp -implicitDefEqProofs [tup2]
  refine pcK_of (hP) (by simp) ?_
  simp -implicitDefEqProofs [tup2]
  have hw3 : IntKind.i64.wrap (3 - v) = 3 - v := wr64 (by omega) (by omega)
  rw [hw3]
  refine pcK_of (hQ) (by simp) ?_
  simp -implicitDefEqProofs [tup2]
  refine pcK_of (hG i b2.1 b2.2) (by simp) ?_
  simp -implicitDefEqProofs
  have hsum : ∀ c, sumC w n.toNat c ≤ c * n.toNat := by
    intro c
    induction c with
    | zero => simp [sumC]
    | succ c ih =>
      have := cntTo_le (l := w) (v := (c : Int)) (t := n.toNat)
      simp only [sumC, Nat.succ_mul]; omega
  have hs4 : sumC w n.toNat 4 = n.toNat := by
    have := cnt_all w n.toNat
    simp only [sumC]
    simpa using this
  have fin : ∀ E : Prop, E → E := fun _ h => h
  by_cases hik : i = k
  all_goals
    first
    | (refine pcK_of (hG k b3.1 b3.2) (by simp) ?_
       simp -implicitDefEqProofs [c1, hik, hw3]
       done)
    | (refine pcK_of (hG k b3.1 b3.2) (by simp) ?_
       first
       | simp -implicitDefEqProofs [c1, hik, hw3, c2 hik]
       | simp -implicitDefEqProofs [c1, hik, hw3])
    refine lp9_0 (α := Nat) (fun c _ => [(8, B false), (19, I (sumC w n.toNat c : Nat)), (20, I c)]) (fun _ _ => [(44, .box [I n, .sl (em encU w)]), (33, .box [I n, .sl (em encU s)]), (23, .box [I n, .sl (em encU l)])]) (fun c _ => c ≤ 4) (fun c => 4 - c) 0 (by simp) (by simp [sumC]) (by simp) ?_
    rintro c nx hc
    simp -implicitDefEqProofs [lb9_0]
    refine ⟨fun hlt => ?_, fun hge => ?_⟩
    · refine pcK_of (hC c w gw ww (by omega) (by omega)) (by simp) ?_
      simp -implicitDefEqProofs
      have h5 := hsum (c + 1)
      have h6 : (c + 1) * n.toNat ≤ 4 * n.toNat := Nat.mul_le_mul_right _ (by omega)
      have e7 : sumC w n.toNat (c + 1) = sumC w n.toNat c + cntTo w (c : Int) n.toNat := rfl
      rw [wr64 (x := (c : Int) + 1) (by omega) (by omega), wr64 (x := (sumC w n.toNat c : Int) + _) (by omega) (by omega)]
      exact again_of (c + 1) (by omega) (by omega) (by simp [e7]) (by simp)
    · have e8 : c = 4 := by omega
      subst e8
      have hz : cntTo l 0 n.toNat = n.toNat := by rw [← hl]; exact cnt_zero _ _
      have hn5 := Int.max_eq_left (show 0 ≤ n by omega)
      refine pcK_of (hC 0 l gl wl (by omega) (by omega)) (by simp) ?_
      simp -implicitDefEqProofs [hs4, hz, hn5]
      refine pcK_of (Check_c n w) (by simp) ?_
      simp -implicitDefEqProofs [checkF, gw]
end Go.Fx.Ytaghjpoijodgfaa

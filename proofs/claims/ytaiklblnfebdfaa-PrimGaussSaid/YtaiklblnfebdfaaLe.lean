/-
  PrimGauss.
-/
import Derived.Test.YtaiklblnfebdfaaLd
set_option linter.all false
namespace Go.Fx.Ytaiklblnfebdfaa
open Go Go.Fx Go.Proofs Go.Fx.Flt
/-- A number's answer, as layer 1 and layer 10 tell it. -/
def Twin (d r : D) : Prop := (∃ a b, d = .tup [CX a b, I 0] ∧ r = rs 1 a b false 0 ∧ eqF a a = true ∧ eqF b b = true) ∨ (∃ e, d = .tup [CX 0 0, I e] ∧ r = rs 0 0 0 false e ∧ e ≠ 0)
theorem eqF_Fs {n : Int} (h : inb n = true) : eqF (Fi n) (Fi n) = true := by rw [eqF_Fi (inb_lt h) (inb_lt h)]; simp
theorem twin_num (n m : Int) : Twin (numD n m) (nmR n m) := by
  cases hk : inb n && inb m
  · exact .inr ⟨50, (numD_no hk).1, (numD_no hk).2.1, by decide⟩
  · have h := hk
    simp only [Bool.and_eq_true] at h
    exact .inl ⟨_, _, (numD_yes hk).1, (numD_yes hk).2.1, eqF_Fs h.1, eqF_Fs h.2⟩
theorem twin_quo (x y u v : Int) : Twin (quoD x y u v) (opD 11 x y u v) := by
  show Twin _ (if quoBad x y u v then rs 0 0 0 false 51 else nmR ((qX x y u v).tdiv (qN u v)) ((qY x y u v).tdiv (qN u v)))
  unfold quoD
  by_cases h : quoBad x y u v
  · rw [if_pos h, if_pos h]; exact .inr ⟨51, rfl, rfl, by decide⟩
  · rw [if_neg h, if_neg h]; exact twin_num _ _
theorem law_PrimGauss : ∀ xs, Args Try.prog Try.f7.params.toList xs → Pure Try.prog 7 xs (B true) := by
  intro xs h
  rw [Try.params7] at h
  simp only [Args] at h
  obtain ⟨x, r, rfl, hx, y, r2, rfl, hy, rfl⟩ := h
  obtain ⟨z, rfl⟩ := arg_Num hx
  obtain ⟨w, rfl⟩ := arg_Num hy
  clear hx hy
  have hz := ZC z
  have hw := ZC w
  obtain ⟨zl1, zl2⟩ := Nm.z_lt z
  obtain ⟨wl1, wl2⟩ := Nm.z_lt w
  simp only [encN] at hz hw ⊢
  generalize z.z.re = p at *
  generalize z.z.im = q at *
  generalize w.z.re = r at *
  generalize w.z.im = s at *
  refine pu7 (by simp) ?_
  have v1 := Valid_c zl1 zl2
  have v2 := Valid_c wl1 wl2
  rcases both_cases p q r s zl1 zl2 wl1 wl2 with ⟨X, Y, U, V, rfl, rfl, rfl, rfl, i1, i2, i3, i4⟩ | hb
  · rw [plain_Fi (inb_lt i1), plain_Fi (inb_lt i2), i1, i2] at v1
    rw [plain_Fi (inb_lt i3), plain_Fi (inb_lt i4), i3, i4] at v2
    simp only [Bool.and_true] at v1 v2
    have t8 := two_yes (op := 8) (by decide) i1 i2 i3 i4
    have t9 := two_yes (op := 9) (by decide) i1 i2 i3 i4
    have t10 := two_yes (op := 10) (by decide) i1 i2 i3 i4
    have t11 := two_yes (op := 11) (by decide) i1 i2 i3 i4
    have g8 := Add_c i1 i2 i3 i4
    have g9 := Sub_c i1 i2 i3 i4
    have g10 := Mul_c i1 i2 i3 i4
    have g11 := Quo_c i1 i2 i3 i4
    have w8 : Twin (numD (X + U) (Y + V)) (opD 8 X Y U V) := twin_num _ _
    have w9 : Twin (numD (X - U) (Y - V)) (opD 9 X Y U V) := twin_num _ _
    have w10 : Twin (numD (X * U - Y * V) (X * V + Y * U)) (opD 10 X Y U V) := twin_num _ _
    have w11 := twin_quo X Y U V
    generalize numD (X + U) (Y + V) = d8 at *
    generalize numD (X - U) (Y - V) = d9 at *
    generalize numD (X * U - Y * V) (X * V + Y * U) = d10 at *
    generalize quoD X Y U V = d11 at *
    generalize opD 8 X Y U V = r8 at *
    generalize opD 9 X Y U V = r9 at *
    generalize opD 10 X Y U V = r10 at *
    generalize opD 11 X Y U V = r11 at *
    have wi8 : IntKind.i64.wrap 8 = 8 := by decide
    have wi9 : IntKind.i64.wrap 9 = 9 := by decide
    have wi10 : IntKind.i64.wrap 10 = 10 := by decide
    have wi11 : IntKind.i64.wrap 11 = 11 := by decide
    have wi12 : IntKind.i64.wrap 12 = 12 := by decide
    have h00 : eqF 0 0 = true := by decide
    simp -implicitDefEqProofs [ac7]
    refine pcK_of (awake10_c) (by simp) ?_
    simp -implicitDefEqProofs
    refine pcK_of (hz) (by simp) ?_
    simp -implicitDefEqProofs
    refine pcK_of (hw) (by simp) ?_
    simp -implicitDefEqProofs
    refine pcK_of (v1) (by simp) ?_
    simp -implicitDefEqProofs
    refine pcK_of (v2) (by simp) ?_
    simp -implicitDefEqProofs
    refine lp7_0 (α := Nat) (fun i _ => [(9, I (8 + (i : Int)))]) (fun _ _ => []) (fun i _ => i ≤ 4) (fun i => 4 - i) 0 (by omega) (by simp) (by simp) ?_
    intro i m hi
    have : i = 0 ∨ i = 1 ∨ i = 2 ∨ i = 3 ∨ i = 4 := by omega
    have ad : ∃ a b e, d8 = .tup [CX a b, I e] := by
      rcases w8 with ⟨a, b, h, _⟩ | ⟨e, h, _⟩
      · exact ⟨_, _, _, h⟩
      · exact ⟨_, _, _, h⟩
    rcases this with rfl | rfl | rfl | rfl | rfl
    · rcases w8 with ⟨a, b, rfl, rfl, q1, q2⟩ | ⟨e, rfl, rfl, he⟩
      · simp -implicitDefEqProofs [lb7_0]
        refine pcK_of (t8) (by simp) ?_
        simp -implicitDefEqProofs
        refine pcK_of (g8) (by simp) ?_
        simp -implicitDefEqProofs [q1, q2]
        exact again_of 1 (by omega) (by omega) (by simp [wi9]) (by simp)
      · simp -implicitDefEqProofs [lb7_0]
        refine pcK_of (t8) (by simp) ?_
        simp -implicitDefEqProofs
        refine pcK_of (g8) (by simp) ?_
        simp -implicitDefEqProofs [h00, he]
        exact again_of 1 (by omega) (by omega) (by simp [wi9]) (by simp)
    · obtain ⟨a8, b8, e8, rfl⟩ := ad
      rcases w9 with ⟨a, b, rfl, rfl, q1, q2⟩ | ⟨e, rfl, rfl, he⟩
      · simp -implicitDefEqProofs [lb7_0]
        refine pcK_of (t9) (by simp) ?_
        simp -implicitDefEqProofs
        refine pcK_of (g8) (by simp) ?_
        simp -implicitDefEqProofs
        refine pcK_of (g9) (by simp) ?_
        simp -implicitDefEqProofs [q1, q2]
        exact again_of 2 (by omega) (by omega) (by simp [wi10]) (by simp)
      · simp -implicitDefEqProofs [lb7_0]
        refine pcK_of (t9) (by simp) ?_
        simp -implicitDefEqProofs
        refine pcK_of (g8) (by simp) ?_
        simp -implicitDefEqProofs
        refine pcK_of (g9) (by simp) ?_
        simp -implicitDefEqProofs [h00, he]
        exact again_of 2 (by omega) (by omega) (by simp [wi10]) (by simp)
    · obtain ⟨a8, b8, e8, rfl⟩ := ad
      rcases w10 with ⟨a, b, rfl, rfl, q1, q2⟩ | ⟨e, rfl, rfl, he⟩
      · simp -implicitDefEqProofs [lb7_0]
        refine pcK_of (t10) (by simp) ?_
        simp -implicitDefEqProofs
        refine pcK_of (g8) (by simp) ?_
        simp -implicitDefEqProofs
        refine pcK_of (g10) (by simp) ?_
        simp -implicitDefEqProofs [q1, q2]
        exact again_of 3 (by omega) (by omega) (by simp [wi11]) (by simp)
      · simp -implicitDefEqProofs [lb7_0]
        refine pcK_of (t10) (by simp) ?_
        simp -implicitDefEqProofs
        refine pcK_of (g8) (by simp) ?_
        simp -implicitDefEqProofs
        refine pcK_of (g10) (by simp) ?_
        simp -implicitDefEqProofs [h00, he]
        exact again_of 3 (by omega) (by omega) (by simp [wi11]) (by simp)
    · obtain ⟨a8, b8, e8, rfl⟩ := ad
      rcases w11 with ⟨a, b, rfl, rfl, q1, q2⟩ | ⟨e, rfl, rfl, he⟩
      · simp -implicitDefEqProofs [lb7_0]
        refine pcK_of (t11) (by simp) ?_
        simp -implicitDefEqProofs
        refine pcK_of (g8) (by simp) ?_
        simp -implicitDefEqProofs
        refine pcK_of (g11) (by simp) ?_
        simp -implicitDefEqProofs [q1, q2]
        exact again_of 4 (by omega) (by omega) (by simp [wi12]) (by simp)
      · simp -implicitDefEqProofs [lb7_0]
        refine pcK_of (t11) (by simp) ?_
        simp -implicitDefEqProofs
        refine pcK_of (g8) (by simp) ?_
        simp -implicitDefEqProofs
        refine pcK_of (g11) (by simp) ?_
        simp -implicitDefEqProofs [h00, he]
        exact again_of 4 (by omega) (by omega) (by simp [wi12]) (by simp)
    · have tl : Pure Try.prog 16 [I 13, G X Y, G U V] (rs 2 0 0 (decide (X < U ∨ X = U ∧ Y < V)) 0) := two_yes (op := 13) (by decide) i1 i2 i3 i4
      have gl := Less_c i1 i2 i3 i4
      generalize decide (X < U ∨ X = U ∧ Y < V) = bl at *
      have hn := number10_c (Fi X) (Fi Y)
      have o1 := one_yes (op := 17) (by decide) i1 i2
      rw [if_neg (by decide), if_neg (by decide)] at o1
      have gc := Conj_c i1 i2
      have q1 := eqF_Fs i1
      have q2 := eqF_Fs (neg_in i2)
      simp only [encV, rv] at hn o1
      simp -implicitDefEqProofs [lb7_0]
      refine pcK_of (tl) (by simp) ?_
      simp -implicitDefEqProofs
      refine pcK_of (gl) (by simp) ?_
      simp -implicitDefEqProofs
      refine pcK_of (hn) (by simp) ?_
      simp -implicitDefEqProofs
      refine pcK_of (o1) (by simp) ?_
      simp -implicitDefEqProofs
      refine pcK_of (gc) (by simp) ?_
      simp -implicitDefEqProofs [q1, q2]
  · have t1 := two_no (op := 8) (by decide) zl1 zl2 wl1 wl2 hb
    cases k1 : (plainB p && plainB q)
    · rw [k1] at v1
      simp -implicitDefEqProofs [ac7]
      refine pcK_of (awake10_c) (by simp) ?_
      simp -implicitDefEqProofs
      refine pcK_of (hz) (by simp) ?_
      simp -implicitDefEqProofs
      refine pcK_of (hw) (by simp) ?_
      simp -implicitDefEqProofs
      refine pcK_of (v1) (by simp) ?_
      simp -implicitDefEqProofs
      refine pcK_of (t1) (by simp) ?_
      simp -implicitDefEqProofs
    · rw [k1, Bool.true_and] at hb
      rw [k1] at v1
      rw [hb] at v2
      simp -implicitDefEqProofs [ac7]
      refine pcK_of (awake10_c) (by simp) ?_
      simp -implicitDefEqProofs
      refine pcK_of (hz) (by simp) ?_
      simp -implicitDefEqProofs
      refine pcK_of (hw) (by simp) ?_
      simp -implicitDefEqProofs
      refine pcK_of (v1) (by simp) ?_
      simp -implicitDefEqProofs
      refine pcK_of (v2) (by simp) ?_
      simp -implicitDefEqProofs
      refine pcK_of (t1) (by simp) ?_
      simp -implicitDefEqProofs
end Go.Fx.Ytaiklblnfebdfaa

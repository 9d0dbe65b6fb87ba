/-
  PrimParts, PrimGauss.
-/
import Derived.Test.YtaiklblnfebdfaaLc
set_option linter.all false
namespace Go.Fx.Ytaiklblnfebdfaa
open Go Go.Fx Go.Proofs Go.Fx.Flt
theorem one_no {op : Int} {p q : Nat} (h : 15 ≤ op ∧ op ≤ 17) (hp : p < 2 ^ 64) (hq : q < 2 ^ 64) (hb : (plainB p && plainB q) = false) : Pure Try.prog 17 [I op, .agg (encV (rv 1 p q false))] (rs 0 0 0 false 3) := by
  have hT : tkT op = 1 := by
    unfold tkT
    rw [if_neg (by omega), if_neg (by omega), if_pos h]
  have := one10_c op _ (rv_lt hp hq (t := 1) (o := false)) rfl
  rwa [ap_no (v := rv 1 p q false) (by simp) (by rw [hT, one_num hp hq, hb])] at this
theorem one_yes {op x y : Int} (h : 15 ≤ op ∧ op ≤ 17) (hx : inb x = true) (hy : inb y = true) : Pure Try.prog 17 [I op, .agg (encV (rv 1 (Fi x) (Fi y) false))] (if op = 15 then rs 1 (Fi x) 0 false 0 else if op = 16 then rs 1 (Fi y) 0 false 0 else rs 1 (Fi x) (Fi (-y)) false 0) := by
  have hp := Fi_lt (inb_lt hx)
  have hq := Fi_lt (inb_lt hy)
  have hT : tkT op = 1 := by
    unfold tkT
    rw [if_neg (by omega), if_neg (by omega), if_pos h]
  have hN : tkN op = 1 := by
    unfold tkN
    rw [if_neg (by omega), if_neg (by omega), if_pos h]
  have := one10_c op _ (rv_lt hp hq (t := 1) (o := false)) rfl
  have hf : fit op [rv 1 (Fi x) (Fi y) false] := by
    refine ⟨by omega, by rw [hN]; rfl, fun w hw => ?_⟩
    simp only [List.mem_singleton] at hw; subst hw
    rw [hT, one_num hp hq, plain_Fi (inb_lt hx), plain_Fi (inb_lt hy), hx, hy]; rfl
  unfold applyD at this
  rw [if_pos hf] at this
  unfold fnD at this
  rw [if_neg (by omega), if_neg (by omega)] at this
  rwa [show nx ([rv 1 (Fi x) (Fi y) false][0]?.getD default) = x from nx_Fi hx, show ny ([rv 1 (Fi x) (Fi y) false][0]?.getD default) = y from ny_Fi hy] at this
theorem Same_n {x y : Int} (hx : inb x = true) (hy : inb y = true) : Pure Try.prog 19 [.agg (encV (rv 1 (Fi x) (Fi y) false)), .agg (encV (rv 1 (Fi x) (Fi y) false))] (B true) := by
  obtain ⟨_, h1, h2, h3 | h3⟩ := out_num hx hy
  · exact Same_r _ h1 h2 h3
  · simp [rv] at h3
theorem sq_in {x y : Int} (h : inb (x * x + y * y) = true) : inb (x * x) = true ∧ inb (y * y) = true := by
  have a := sq_nn x
  have b := sq_nn y
  have c := inb_le h
  simp only [inb, Bool.and_eq_true, decide_eq_true_eq]
  omega
theorem law_PrimParts : ∀ xs, Args Try.prog Try.f5.params.toList xs → Pure Try.prog 5 xs (B true) := by
  intro xs h
  rw [Try.params5] at h
  simp only [Args] at h
  obtain ⟨x, r, rfl, hx, rfl⟩ := h
  obtain ⟨z, rfl⟩ := arg_Num hx
  clear hx
  have hz := ZC z
  obtain ⟨zl1, zl2⟩ := Nm.z_lt z
  simp only [encN] at hz ⊢
  generalize z.z.re = p at *
  generalize z.z.im = q at *
  have hn := number10_c p q
  refine pu5 (by simp) ?_
  cases hb : plainB p && plainB q
  · have o1 := one_no (op := 15) (by decide) zl1 zl2 hb
    have o2 := one_no (op := 16) (by decide) zl1 zl2 hb
    have o3 := one_no (op := 17) (by decide) zl1 zl2 hb
    simp only [encV, rv] at o1 o2 o3 hn
    simp -implicitDefEqProofs [ac5]
    refine pcK_of (awake10_c) (by simp) ?_
    simp -implicitDefEqProofs
    refine pcK_of (hz) (by simp) ?_
    simp -implicitDefEqProofs
    refine pcK_of (hn) (by simp) ?_
    simp -implicitDefEqProofs
    refine pcK_of (o1) (by simp) ?_
    simp -implicitDefEqProofs
    refine pcK_of (o2) (by simp) ?_
    simp -implicitDefEqProofs
    refine pcK_of (o3) (by simp) ?_
    simp -implicitDefEqProofs
  · simp only [Bool.and_eq_true] at hb
    obtain ⟨a1, a2⟩ := plain_Pl zl1 hb.1
    obtain ⟨b1, b2⟩ := plain_Pl zl2 hb.2
    generalize nv p = X at *
    generalize nv q = Y at *
    subst a1
    subst b1
    have i1 : inb X = true := inb_abs.2 a2
    have i2 : inb Y = true := inb_abs.2 b2
    have i0 : inb 0 = true := by decide
    have i1' : inb 1 = true := by decide
    have i2' : inb (-Y) = true := neg_in i2
    have o1 := one_yes (op := 15) (by decide) i1 i2
    have o2 := one_yes (op := 16) (by decide) i1 i2
    have o3 := one_yes (op := 17) (by decide) i1 i2
    rw [if_pos rfl] at o1
    rw [if_neg (by decide), if_pos rfl] at o2
    rw [if_neg (by decide), if_neg (by decide)] at o3
    have t1 := two_yes (op := 10) (by decide) i2 i0 i0 i1'
    rw [show opD 10 Y 0 0 1 = nmR (Y * 0 - 0 * 1) (Y * 1 + 0 * 0) from rfl, show Y * 0 - 0 * 1 = 0 by omega, show Y * 1 + 0 * 0 = Y by omega, (numD_yes (by rw [i0, i2]; rfl)).2.1] at t1
    have t2 := two_yes (op := 8) (by decide) i1 i0 i0 i2
    rw [show opD 8 X 0 0 Y = nmR (X + 0) (0 + Y) from rfl, show X + 0 = X by omega, show 0 + Y = Y by omega, (numD_yes (by rw [i1, i2]; rfl)).2.1] at t2
    have s1 := Same_n i1 i2
    have t3 := two_yes (op := 10) (by decide) i1 i2 i1 i2'
    rw [show opD 10 X Y X (-Y) = nmR (X * X - Y * (-Y)) (X * (-Y) + Y * X) from rfl, show X * X - Y * (-Y) = X * X + Y * Y by rw [Int.mul_neg]; omega, show X * (-Y) + Y * X = 0 by rw [Int.mul_neg, Int.mul_comm Y X]; omega] at t3
    have t4 := two_yes (op := 10) (by decide) i1 i0 i1 i0
    rw [show opD 10 X 0 X 0 = nmR (X * X - 0 * 0) (X * 0 + 0 * X) from rfl, show X * X - 0 * 0 = X * X by omega, show X * 0 + 0 * X = 0 by omega] at t4
    have t5 := two_yes (op := 10) (by decide) i2 i0 i2 i0
    rw [show opD 10 Y 0 Y 0 = nmR (Y * Y - 0 * 0) (Y * 0 + 0 * Y) from rfl, show Y * Y - 0 * 0 = Y * Y by omega, show Y * 0 + 0 * Y = 0 by omega] at t5
    have hsq := sq_in (x := X) (y := Y)
    have hnm : ∀ n, inb n = true → nmR n 0 = rs 1 (Fi n) 0 false 0 := fun n h => by rw [(numD_yes (by rw [h, i0]; rfl)).2.1, Fi_0]
    have hno : ∀ n, inb n = false → nmR n 0 = rs 0 0 0 false 50 := fun n h => (numD_no (by rw [h]; rfl)).2.1
    have h00 : eqF 0 0 = true := by decide
    simp only [encV, rv, Fi_0, Fi_1] at o1 o2 o3 hn s1 t1 t2 t3 t4 t5
    cases k1 : inb (X * X + Y * Y)
    · rw [hno _ k1] at t3
      have fin : ∃ c d e, (e ≠ 0 ∨ inb (X * X) = false ∨ inb (Y * Y) = false) ∧ ∃ v, (∀ a b : Nat, True) ∧ v = (c, d, e) := ⟨0, 0, 1, .inl (by decide), _, fun _ _ => trivial, rfl⟩
      clear fin
      cases k2 : inb (X * X)
      · rw [hno _ k2] at t4
        have t6 : ∃ a b, (nmR (Y * Y) 0 = rs a b 0 false 0 ∧ ∃ v e, Out (applyD 8 [rv 1 0 0 false, rv 1 b 0 false]) v e ∧ Pure Try.prog 16 [I 8, CX 0 0, CX b 0] (.tup [.agg (encV v), I e])) ∨ (nmR (Y * Y) 0 = rs a b 0 false 50 ∧ ∃ v e, Out (applyD 8 [rv 1 0 0 false, rv 1 b 0 false]) v e ∧ Pure Try.prog 16 [I 8, CX 0 0, CX b 0] (.tup [.agg (encV v), I e])) := by
          have key : ∀ b : Nat, b < 2 ^ 64 → ∃ v e, Out (applyD 8 [rv 1 0 0 false, rv 1 b 0 false]) v e ∧ Pure Try.prog 16 [I 8, CX 0 0, CX b 0] (.tup [.agg (encV v), I e]) := fun b hb => by
            obtain ⟨v, e, ho⟩ := out_apply 8 [rv 1 0 0 false, rv 1 b 0 false] (fun v hv => by
              simp only [List.mem_cons, List.not_mem_nil, or_false] at hv
              rcases hv with rfl | rfl
              · exact rv_lt (by decide) (by decide)
              · exact rv_lt hb (by decide))
            have := two10_c 8 (a := 0) (b := 0) (c := b) (d := 0) (by decide) (by decide) hb (by decide)
            rw [ho.1] at this
            exact ⟨v, e, ho, this⟩
          cases k3 : inb (Y * Y)
          · rw [hno _ k3]; exact ⟨0, 0, .inr ⟨rfl, key 0 (by decide)⟩⟩
          · rw [hnm _ k3]; exact ⟨1, Fi (Y * Y), .inl ⟨rfl, key _ (Fi_lt (inb_lt k3))⟩⟩
        obtain ⟨a, b, ⟨e1, v, e, ho, t6⟩ | ⟨e1, v, e, ho, t6⟩⟩ := t6
        · rw [e1] at t5
          have hv0 := ho.2.2.1
          simp only [encV, hv0] at t6
          simp -implicitDefEqProofs [ac5]
          refine pcK_of (awake10_c) (by simp) ?_
          simp -implicitDefEqProofs
          refine pcK_of (hz) (by simp) ?_
          simp -implicitDefEqProofs
          refine pcK_of (hn) (by simp) ?_
          simp -implicitDefEqProofs
          refine pcK_of (o1) (by simp) ?_
          simp -implicitDefEqProofs
          refine pcK_of (o2) (by simp) ?_
          simp -implicitDefEqProofs
          refine pcK_of (o3) (by simp) ?_
          simp -implicitDefEqProofs
          refine pcK_of (t1) (by simp) ?_
          simp -implicitDefEqProofs
          refine pcK_of (t2) (by simp) ?_
          simp -implicitDefEqProofs
          refine pcK_of (s1) (by simp) ?_
          simp -implicitDefEqProofs
          refine pcK_of (t3) (by simp) ?_
          simp -implicitDefEqProofs
          refine pcK_of (t4) (by simp) ?_
          simp -implicitDefEqProofs
          refine pcK_of (t5) (by simp) ?_
          simp -implicitDefEqProofs
          refine pcK_of (t6) (by simp) ?_
          simp -implicitDefEqProofs
        · rw [e1] at t5
          have hv0 := ho.2.2.1
          simp only [encV, hv0] at t6
          simp -implicitDefEqProofs [ac5]
          refine pcK_of (awake10_c) (by simp) ?_
          simp -implicitDefEqProofs
          refine pcK_of (hz) (by simp) ?_
          simp -implicitDefEqProofs
          refine pcK_of (hn) (by simp) ?_
          simp -implicitDefEqProofs
          refine pcK_of (o1) (by simp) ?_
          simp -implicitDefEqProofs
          refine pcK_of (o2) (by simp) ?_
          simp -implicitDefEqProofs
          refine pcK_of (o3) (by simp) ?_
          simp -implicitDefEqProofs
          refine pcK_of (t1) (by simp) ?_
          simp -implicitDefEqProofs
          refine pcK_of (t2) (by simp) ?_
          simp -implicitDefEqProofs
          refine pcK_of (s1) (by simp) ?_
          simp -implicitDefEqProofs
          refine pcK_of (t3) (by simp) ?_
          simp -implicitDefEqProofs
          refine pcK_of (t4) (by simp) ?_
          simp -implicitDefEqProofs
          refine pcK_of (t5) (by simp) ?_
          simp -implicitDefEqProofs
          refine pcK_of (t6) (by simp) ?_
          simp -implicitDefEqProofs
      · rw [hnm _ k2] at t4
        cases k3 : inb (Y * Y)
        · rw [hno _ k3] at t5
          have t6 := two_yes (op := 8) (by decide) k2 i0 i0 i0
          rw [show opD 8 (X * X) 0 0 0 = nmR (X * X + 0) (0 + 0) from rfl, show X * X + 0 = X * X by omega, show (0 : Int) + 0 = 0 by omega, hnm _ k2] at t6
          simp only [G, Fi_0] at t6
          simp -implicitDefEqProofs [ac5]
          refine pcK_of (awake10_c) (by simp) ?_
          simp -implicitDefEqProofs
          refine pcK_of (hz) (by simp) ?_
          simp -implicitDefEqProofs
          refine pcK_of (hn) (by simp) ?_
          simp -implicitDefEqProofs
          refine pcK_of (o1) (by simp) ?_
          simp -implicitDefEqProofs
          refine pcK_of (o2) (by simp) ?_
          simp -implicitDefEqProofs
          refine pcK_of (o3) (by simp) ?_
          simp -implicitDefEqProofs
          refine pcK_of (t1) (by simp) ?_
          simp -implicitDefEqProofs
          refine pcK_of (t2) (by simp) ?_
          simp -implicitDefEqProofs
          refine pcK_of (s1) (by simp) ?_
          simp -implicitDefEqProofs
          refine pcK_of (t3) (by simp) ?_
          simp -implicitDefEqProofs
          refine pcK_of (t4) (by simp) ?_
          simp -implicitDefEqProofs
          refine pcK_of (t5) (by simp) ?_
          simp -implicitDefEqProofs
          refine pcK_of (t6) (by simp) ?_
          simp -implicitDefEqProofs
        · rw [hnm _ k3] at t5
          have t6 := two_yes (op := 8) (by decide) k2 i0 k3 i0
          rw [show opD 8 (X * X) 0 (Y * Y) 0 = nmR (X * X + Y * Y) (0 + 0) from rfl, show (0 : Int) + 0 = 0 by omega, hno _ k1] at t6
          simp only [G, Fi_0] at t6
          simp -implicitDefEqProofs [ac5]
          refine pcK_of (awake10_c) (by simp) ?_
          simp -implicitDefEqProofs
          refine pcK_of (hz) (by simp) ?_
          simp -implicitDefEqProofs
          refine pcK_of (hn) (by simp) ?_
          simp -implicitDefEqProofs
          refine pcK_of (o1) (by simp) ?_
          simp -implicitDefEqProofs
          refine pcK_of (o2) (by simp) ?_
          simp -implicitDefEqProofs
          refine pcK_of (o3) (by simp) ?_
          simp -implicitDefEqProofs
          refine pcK_of (t1) (by simp) ?_
          simp -implicitDefEqProofs
          refine pcK_of (t2) (by simp) ?_
          simp -implicitDefEqProofs
          refine pcK_of (s1) (by simp) ?_
          simp -implicitDefEqProofs
          refine pcK_of (t3) (by simp) ?_
          simp -implicitDefEqProofs
          refine pcK_of (t4) (by simp) ?_
          simp -implicitDefEqProofs
          refine pcK_of (t5) (by simp) ?_
          simp -implicitDefEqProofs
          refine pcK_of (t6) (by simp) ?_
          simp -implicitDefEqProofs
    · obtain ⟨k2, k3⟩ := hsq k1
      rw [hnm _ k1] at t3
      rw [hnm _ k2] at t4
      rw [hnm _ k3] at t5
      have t6 := two_yes (op := 8) (by decide) k2 i0 k3 i0
      rw [show opD 8 (X * X) 0 (Y * Y) 0 = nmR (X * X + Y * Y) (0 + 0) from rfl, show (0 : Int) + 0 = 0 by omega, hnm _ k1] at t6
      have o4 := one_yes (op := 16) (by decide) k1 i0
      rw [if_neg (by decide), if_pos rfl] at o4
      have s2 := Same_n k1 i0
      simp only [encV, rv, Fi_0] at t6 o4 s2
      simp -implicitDefEqProofs [ac5]
      refine pcK_of (awake10_c) (by simp) ?_
      simp -implicitDefEqProofs
      refine pcK_of (hz) (by simp) ?_
      simp -implicitDefEqProofs
      refine pcK_of (hn) (by simp) ?_
      simp -implicitDefEqProofs
      refine pcK_of (o1) (by simp) ?_
      simp -implicitDefEqProofs
      refine pcK_of (o2) (by simp) ?_
      simp -implicitDefEqProofs
      refine pcK_of (o3) (by simp) ?_
      simp -implicitDefEqProofs
      refine pcK_of (t1) (by simp) ?_
      simp -implicitDefEqProofs
      refine pcK_of (t2) (by simp) ?_
      simp -implicitDefEqProofs
      refine pcK_of (s1) (by simp) ?_
      simp -implicitDefEqProofs
      refine pcK_of (t3) (by simp) ?_
      simp -implicitDefEqProofs
      refine pcK_of (t4) (by simp) ?_
      simp -implicitDefEqProofs
      refine pcK_of (t5) (by simp) ?_
      simp -implicitDefEqProofs
      refine pcK_of (t6) (by simp) ?_
      simp -implicitDefEqProofs
      refine pcK_of (o4) (by simp) ?_
      simp -implicitDefEqProofs
      refine pcK_of (s2) (by simp) ?_
      simp -implicitDefEqProofs [h00]
end Go.Fx.Ytaiklblnfebdfaa

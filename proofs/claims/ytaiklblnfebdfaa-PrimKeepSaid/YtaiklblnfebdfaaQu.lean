/-
  gauss.Quo and the reference's.
-/
import Derived.Test.YtaiklblnfebdfaaMd
set_option linter.all false
namespace Go.Fx.Ytaiklblnfebdfaa
open Go Go.Fx Go.Proofs Go.Fx.Flt
theorem mulW {P : Program} {ty : TypeId} {a b c d : Nat} {x y u v : Int} (ha : isW a x) (hb : isW b y) (hc : isW c u) (hd : isW d v) (hx : inb x = true) (hy : inb y = true) (hu : inb u = true) (hv : inb v = true) : ∃ r s, binD P .mul ty (CX a b) (CX c d) = some (CX r s) ∧ isW r (x * u - y * v) ∧ isW s (x * v + y * u) := by
  have e1 := mul_le hx hu
  have e2 := mul_le hy hv
  have e3 := mul_le hx hv
  have e4 := mul_le hy hu
  obtain ⟨p1, h1, w1⟩ := mul_W ha hc (by omega)
  obtain ⟨p2, h2, w2⟩ := mul_W hb hd (by omega)
  obtain ⟨p3, h3, w3⟩ := mul_W ha hd (by omega)
  obtain ⟨p4, h4, w4⟩ := mul_W hb hc (by omega)
  obtain ⟨r, h5, w5⟩ := sub_W w1 w2 (by omega)
  obtain ⟨s, h6, w6⟩ := add_W w3 w4 (by omega)
  exact ⟨r, s, bin_mulC h1 h2 h3 h4 h5 h6, w5, w6⟩
def qN (u v : Int) : Int := u * u + v * v
def qX (x y u v : Int) : Int := x * u + y * v
def qY (x y u v : Int) : Int := y * u - x * v
def quoBad (x y u v : Int) : Prop := (u = 0 ∧ v = 0) ∨ (qX x y u v).tmod (qN u v) ≠ 0 ∨ (qY x y u v).tmod (qN u v) ≠ 0
instance {x y u v : Int} : Decidable (quoBad x y u v) := by unfold quoBad; exact inferInstance
theorem sq_nn (u : Int) : 0 ≤ u * u := by
  rcases Int.le_total 0 u with h | h
  · exact Int.mul_nonneg h h
  · exact Int.mul_nonneg_of_nonpos_of_nonpos h h
theorem sq_pos {u : Int} (h : u ≠ 0) : 0 < u * u := by
  rcases Int.lt_trichotomy 0 u with h1 | h1 | h1
  · exact Int.mul_pos h1 h1
  · exact absurd h1.symm h
  · exact Int.mul_pos_of_neg_of_neg h1 h1
theorem qN_pos {u v : Int} (h : ¬ (u = 0 ∧ v = 0)) : 0 < qN u v := by
  unfold qN
  have h1 := sq_nn u
  have h2 := sq_nn v
  by_cases hu : u = 0
  · have hv : v ≠ 0 := fun hv => h ⟨hu, hv⟩
    have := sq_pos hv; omega
  · have := sq_pos hu; omega
def quoD (x y u v : Int) : D := if quoBad x y u v then .tup [CX 0 0, I 51] else numD ((qX x y u v).tdiv (qN u v)) ((qY x y u v).tdiv (qN u v))
def quoR (x y u v : Int) : D := if quoBad x y u v then .tup [M 0 0, I 51] else refD ((qX x y u v).tdiv (qN u v)) ((qY x y u v).tdiv (qN u v))
theorem neg_in {v : Int} (h : inb v = true) : inb (-v) = true := by
  have := inb_le h
  unfold inb; simp; omega
theorem eq0_W {r : Nat} {n : Int} (h : isW r n) : eqF r 0 = decide (n = 0) := eqF_W h isW_zero
section
variable {x y u v : Int} (hx : inb x = true) (hy : inb y = true) (hu : inb u = true) (hv : inb v = true)
include hx hy hu hv
theorem Quo_c : Pure Try.prog 25 [G x y, G u v] (quoD x y u v) := by
  refine pu25 (by simp) ?_
  have wx := isW_Fi (inb_lt hx)
  have wy := isW_Fi (inb_lt hy)
  have wu := isW_Fi (inb_lt hu)
  have wv := isW_Fi (inb_lt hv)
  have z1 := eq0_W wu
  have z2 := eq0_W wv
  obtain ⟨p1, p2, hp, w1, w2⟩ := mulW (P := Try.prog) (ty := 29) wx wy wu (neg_W wv) hx hy hu (neg_in hv)
  obtain ⟨n1, n2, hn, w3, _⟩ := mulW (P := Try.prog) (ty := 29) wu wv wu (neg_W wv) hu hv hu (neg_in hv)
  rw [show x * u - y * -v = qX x y u v by unfold qX; rw [Int.mul_neg]; omega] at w1
  rw [show x * -v + y * u = qY x y u v by unfold qY; rw [Int.mul_neg]; omega] at w2
  rw [show u * u - v * -v = qN u v by unfold qN; rw [Int.mul_neg]; omega] at w3
  have b1 := mul_le hx hu
  have b2 := mul_le hy hv
  have b3 := mul_le hy hu
  have b4 := mul_le hx hv
  have b5 := mul_le hu hu
  have b6 := mul_le hv hv
  have bN : (qN u v).natAbs < 2 ^ 53 := by unfold qN; omega
  have bX : (qX x y u v).natAbs < 2 ^ 50 := by unfold qX; omega
  have bY : (qY x y u v).natAbs < 2 ^ 50 := by unfold qY; omega
  simp -implicitDefEqProofs [ac25]
  refine pcK_of (ValidG1 hx hy) (by simp) ?_
  simp -implicitDefEqProofs
  unfold quoD
  by_cases h0 : u = 0 ∧ v = 0
  · have hb : quoBad x y u v := .inl h0
    rw [if_pos hb]
    have y1 : eqF (Fi u) 0 = true := by rw [z1]; simp [h0]
    have y2 : eqF (Fi v) 0 = true := by rw [z2]; simp [h0]
    refine pcK_of (ValidG1 hu hv) (by simp) ?_
    simp -implicitDefEqProofs [y1, y2]
  · have hpos := qN_pos h0
    obtain ⟨Y, hY⟩ : ∃ Y : Nat, qN u v = Y := ⟨(qN u v).toNat, by omega⟩
    have hY0 : Y ≠ 0 := by omega
    have hY2 : Y < 2 ^ 53 := by omega
    have hn1 := isW_pos w3 (by omega)
    rw [hY, Fi_nat] at hn1
    subst hn1
    have m1 := Mod_c w1 hY0 hY2
    have m2 := Mod_c w2 hY0 hY2
    have c1 := eq0_W (modW_W w1 hY0 hY2)
    have c2 := eq0_W (modW_W w2 hY0 hY2)
    have z12 : (eqF (Fi u) 0 && eqF (Fi v) 0) = false := by
      rw [z1, z2]
      by_cases hu0 : u = 0
      · have hv0 : v ≠ 0 := fun h => h0 ⟨hu0, h⟩
        simp [hv0]
      · simp [hu0]
    by_cases t1 : (qX x y u v).tmod Y = 0
    · by_cases t2 : (qY x y u v).tmod Y = 0
      · have hb : ¬ quoBad x y u v := by
          unfold quoBad
          rw [hY]
          rintro (h | h | h)
          · exact h0 h
          · exact h t1
          · exact h t2
        rw [if_neg hb]
        have hYz : (Y : Int) ≠ 0 := by omega
        have d1 : (qX x y u v).tdiv Y * Y = qX x y u v := by have := Int.tdiv_mul_add_tmod (qX x y u v) Y; omega
        have d2 : (qY x y u v).tdiv Y * Y = qY x y u v := by have := Int.tdiv_mul_add_tmod (qY x y u v) Y; omega
        have l1 : ((qX x y u v).tdiv Y).natAbs < 2 ^ 53 := by
          have := Int.natAbs_tdiv (qX x y u v) Y
          rw [this]; exact Nat.lt_of_le_of_lt (Nat.div_le_self _ _) (by omega)
        have l2 : ((qY x y u v).tdiv Y).natAbs < 2 ^ 53 := by
          have := Int.natAbs_tdiv (qY x y u v) Y
          rw [this]; exact Nat.lt_of_le_of_lt (Nat.div_le_self _ _) (by omega)
        rw [← d1] at w1
        rw [← d2] at w2
        rw [hY] at w3
        obtain ⟨r1, e1, v1⟩ := div_W w1 w3 hYz
        obtain ⟨r2, e2, v2⟩ := div_W w2 w3 hYz
        have hbd := bound_c v1 v2 l1 l2
        rw [hY]
        refine pcK_of (ValidG1 hu hv) (by simp) ?_
        simp -implicitDefEqProofs [z12, hp, hn]
        refine pcK_of (m1) (by simp) ?_
        simp -implicitDefEqProofs [c1, t1]
        refine pcK_of (m2) (by simp) ?_
        simp -implicitDefEqProofs [c2, t2, bin_quoF e1, bin_quoF e2]
        unfold numD at hbd ⊢
        cases hk : inb ((qX x y u v).tdiv Y) && inb ((qY x y u v).tdiv Y) <;> rw [hk] at hbd
        · refine pcK_of (hbd) (by simp) ?_
          simp -implicitDefEqProofs
        · refine pcK_of (hbd) (by simp) ?_
          simp -implicitDefEqProofs
      · have hb : quoBad x y u v := .inr (.inr (by rw [hY]; exact t2))
        rw [if_pos hb]
        refine pcK_of (ValidG1 hu hv) (by simp) ?_
        simp -implicitDefEqProofs [z12, hp, hn]
        refine pcK_of (m1) (by simp) ?_
        simp -implicitDefEqProofs [c1, t1]
        refine pcK_of (m2) (by simp) ?_
        simp -implicitDefEqProofs [c2, t2]
    · have hb : quoBad x y u v := .inr (.inl (by rw [hY]; exact t1))
      rw [if_pos hb]
      refine pcK_of (ValidG1 hu hv) (by simp) ?_
      simp -implicitDefEqProofs [z12, hp, hn]
      refine pcK_of (m1) (by simp) ?_
      simp -implicitDefEqProofs [c1, t1]
theorem refQuo_c : Pure Try.prog 37 [M x y, M u v] (quoR x y u v) := by
  refine pu37 (by simp) ?_
  have b1 := mul_le hx hu
  have b2 := mul_le hy hv
  have b3 := mul_le hy hu
  have b4 := mul_le hx hv
  have b5 := mul_le hu hu
  have b6 := mul_le hv hv
  have w1 := wr64 (x := x * u) (by omega) (by omega)
  have w2 := wr64 (x := y * v) (by omega) (by omega)
  have w3 := wr64 (x := y * u) (by omega) (by omega)
  have w4 := wr64 (x := x * v) (by omega) (by omega)
  have w5 := wr64 (x := u * u) (by omega) (by omega)
  have w6 := wr64 (x := v * v) (by omega) (by omega)
  have w7 : IntKind.i64.wrap (x * u + y * v) = qX x y u v := wr64 (by omega) (by omega)
  have w8 : IntKind.i64.wrap (y * u - x * v) = qY x y u v := wr64 (by omega) (by omega)
  have w9 : IntKind.i64.wrap (u * u + v * v) = qN u v := wr64 (by omega) (by omega)
  have bX : (qX x y u v).natAbs < 2 ^ 50 := by unfold qX; omega
  have bY : (qY x y u v).natAbs < 2 ^ 50 := by unfold qY; omega
  have l1 : IntKind.i64.wrap ((qX x y u v).tdiv (qN u v)) = (qX x y u v).tdiv (qN u v) := by
    have h1 : ((qX x y u v).tdiv (qN u v)).natAbs < 2 ^ 50 := by rw [Int.natAbs_tdiv]; exact Nat.lt_of_le_of_lt (Nat.div_le_self _ _) bX
    generalize (qX x y u v).tdiv (qN u v) = t at h1 ⊢
    exact wr64 (by omega) (by omega)
  have l2 : IntKind.i64.wrap ((qY x y u v).tdiv (qN u v)) = (qY x y u v).tdiv (qN u v) := by
    have h1 : ((qY x y u v).tdiv (qN u v)).natAbs < 2 ^ 50 := by rw [Int.natAbs_tdiv]; exact Nat.lt_of_le_of_lt (Nat.div_le_self _ _) bY
    generalize (qY x y u v).tdiv (qN u v) = t at h1 ⊢
    exact wr64 (by omega) (by omega)
  simp -implicitDefEqProofs [ac37]
  rw [w1, w2, w3, w4, w5, w6, w7, w8, w9]
  unfold quoR
  have hin := in_c ((qX x y u v).tdiv (qN u v)) ((qY x y u v).tdiv (qN u v))
  unfold refD at hin ⊢
  by_cases h0 : u = 0 ∧ v = 0
  · have hb : quoBad x y u v := .inl h0
    have hN : qN u v = 0 := by unfold qN; rw [h0.1, h0.2]; rfl
    rw [if_pos hb]
    simp -implicitDefEqProofs [hN]
  · have hN : ¬ qN u v = 0 := by have := qN_pos h0; omega
    by_cases t1 : (qX x y u v).tmod (qN u v) = 0
    · by_cases t2 : (qY x y u v).tmod (qN u v) = 0
      · have hb : ¬ quoBad x y u v := by
          unfold quoBad
          rintro (h | h | h)
          · exact h0 h
          · exact h t1
          · exact h t2
        rw [if_neg hb]
        cases hk : inb ((qX x y u v).tdiv (qN u v)) && inb ((qY x y u v).tdiv (qN u v)) <;> rw [hk] at hin
        · simp -implicitDefEqProofs [hN, t1, t2]
          rw [l1, l2]
          refine pcK_of (hin) (by simp) ?_
          simp -implicitDefEqProofs
        · simp -implicitDefEqProofs [hN, t1, t2]
          rw [l1, l2]
          refine pcK_of (hin) (by simp) ?_
          simp -implicitDefEqProofs
      · have hb : quoBad x y u v := .inr (.inr t2)
        rw [if_pos hb]
        simp -implicitDefEqProofs [hN, t1, t2]
    · have hb : quoBad x y u v := .inr (.inl t1)
      rw [if_pos hb]
      simp -implicitDefEqProofs [hN, t1]
end
end Go.Fx.Ytaiklblnfebdfaa

/-
  Numbers: the contracts of layer 1's arithmetic, on numbers that are right.
-/
import Derived.Test.YtaiklblnfebdfaaCodeArith
import Derived.Test.YtaiklblnfebdfaaV1
import Derived.Test.YtaiklblnfebdfaaXE
set_option linter.all false
namespace Go.Fx.Ytaiklblnfebdfaa
open Go Go.Fx Go.Proofs Go.Fx.Flt
def inb (n : Int) : Bool := decide (-16777216 ≤ n) && decide (n ≤ 16777216)
theorem inb_abs {n : Int} : inb n = true ↔ n.natAbs ≤ 16777216 := by unfold inb; simp; omega
theorem Pl_of {n : Int} (h : inb n = true) : Pl (Fi n) n := ⟨rfl, inb_abs.1 h⟩
theorem plain_Fi {n : Int} (h : n.natAbs < 2 ^ 53) : plainB (Fi n) = inb n := by
  cases hi : inb n
  · have hn : ¬ (-16777216 ≤ n ∧ n ≤ 16777216) := by simpa [inb] using hi
    unfold plainB
    rw [← cm_Fi, ← cM_Fi, geF_Fi h (by decide), leF_Fi h (by decide)]
    by_cases h1 : -16777216 ≤ n
    · have h2 : ¬ n ≤ 16777216 := fun h2 => hn ⟨h1, h2⟩
      simp [h2]
    · simp [h1]
  · exact plainB_yes (Pl_of hi)
abbrev G (x y : Int) : D := CX (Fi x) (Fi y)
def numD (n m : Int) : D := if (inb n && inb m) = true then .tup [G n m, I 0] else .tup [CX 0 0, I 50]
theorem Fi_lt {n : Int} (h : n.natAbs < 2 ^ 53) : Fi n < 2 ^ 64 := (Fz_lt h).1
theorem ValidG {x y : Int} (hx : x.natAbs < 2 ^ 53) (hy : y.natAbs < 2 ^ 53) : Pure Try.prog 21 [G x y] (B (inb x && inb y)) := by
  have := Valid_c (Fi_lt hx) (Fi_lt hy)
  rwa [plain_Fi hx, plain_Fi hy] at this
theorem bound_c {a b : Nat} {n m : Int} (ha : isW a n) (hb : isW b m) (hn : n.natAbs < 2 ^ 53) (hm : m.natAbs < 2 ^ 53) : Pure Try.prog 42 [CX a b] (numD n m) := by
  refine pu42 (by simp) ?_
  have h1 := add_0 ha
  have h2 := add_0 hb
  have hv := ValidG hn hm
  unfold numD
  simp -implicitDefEqProofs [ac42, bin_addF h1, bin_addF h2]
  refine pcK_of (hv) (by simp) ?_
  simp -implicitDefEqProofs
  cases inb n <;> cases inb m <;> simp -implicitDefEqProofs
theorem inb_lt {n : Int} (h : inb n = true) : n.natAbs < 2 ^ 53 := by have := inb_abs.1 h; omega
theorem ValidG1 {x y : Int} (hx : inb x = true) (hy : inb y = true) : Pure Try.prog 21 [G x y] (B true) := by
  have := ValidG (inb_lt hx) (inb_lt hy)
  rwa [hx, hy] at this
theorem inb_le {n : Int} (h : inb n = true) : -16777216 ≤ n ∧ n ≤ 16777216 := by simpa [inb] using h
theorem mul_le {n m : Int} (h1 : inb n = true) (h2 : inb m = true) : -281474976710656 ≤ n * m ∧ n * m ≤ 281474976710656 := by
  have a := inb_abs.1 h1
  have b := inb_abs.1 h2
  have : (n * m).natAbs ≤ 16777216 * 16777216 := by rw [Int.natAbs_mul]; exact Nat.mul_le_mul a b
  omega
section
variable {x y u v : Int} (hx : inb x = true) (hy : inb y = true) (hu : inb u = true) (hv : inb v = true)
include hx hy hu hv
theorem Add_c : Pure Try.prog 22 [G x y, G u v] (numD (x + u) (y + v)) := by
  refine pu22 (by simp) ?_
  have b1 := inb_le hx
  have b2 := inb_le hy
  have b3 := inb_le hu
  have b4 := inb_le hv
  obtain ⟨r, h1, w1⟩ := add_W (isW_Fi (inb_lt hx)) (isW_Fi (inb_lt hu)) (by omega)
  obtain ⟨s, h2, w2⟩ := add_W (isW_Fi (inb_lt hy)) (isW_Fi (inb_lt hv)) (by omega)
  have hb := bound_c w1 w2 (by omega) (by omega)
  simp -implicitDefEqProofs [ac22]
  refine pcK_of (ValidG1 hx hy) (by simp) ?_
  simp -implicitDefEqProofs
  refine pcK_of (ValidG1 hu hv) (by simp) ?_
  simp -implicitDefEqProofs [bin_addC h1 h2]
  unfold numD at hb ⊢
  cases hk : inb (x + u) && inb (y + v) <;> rw [hk] at hb
  · refine pcK_of (hb) (by simp) ?_
    simp -implicitDefEqProofs
  · refine pcK_of (hb) (by simp) ?_
    simp -implicitDefEqProofs
theorem Sub_c : Pure Try.prog 23 [G x y, G u v] (numD (x - u) (y - v)) := by
  refine pu23 (by simp) ?_
  have b1 := inb_le hx
  have b2 := inb_le hy
  have b3 := inb_le hu
  have b4 := inb_le hv
  obtain ⟨r, h1, w1⟩ := sub_W (isW_Fi (inb_lt hx)) (isW_Fi (inb_lt hu)) (by omega)
  obtain ⟨s, h2, w2⟩ := sub_W (isW_Fi (inb_lt hy)) (isW_Fi (inb_lt hv)) (by omega)
  have hb := bound_c w1 w2 (by omega) (by omega)
  simp -implicitDefEqProofs [ac23]
  refine pcK_of (ValidG1 hx hy) (by simp) ?_
  simp -implicitDefEqProofs
  refine pcK_of (ValidG1 hu hv) (by simp) ?_
  simp -implicitDefEqProofs [bin_subC h1 h2]
  unfold numD at hb ⊢
  cases hk : inb (x - u) && inb (y - v) <;> rw [hk] at hb
  · refine pcK_of (hb) (by simp) ?_
    simp -implicitDefEqProofs
  · refine pcK_of (hb) (by simp) ?_
    simp -implicitDefEqProofs
/-- A product of complex numbers, unrounded. -/
theorem mulC {P : Program} {ty : TypeId} : ∃ a b, binD P .mul ty (G x y) (G u v) = some (CX a b) ∧ isW a (x * u - y * v) ∧ isW b (x * v + y * u) := by
  have e1 := mul_le hx hu
  have e2 := mul_le hy hv
  have e3 := mul_le hx hv
  have e4 := mul_le hy hu
  obtain ⟨p1, h1, w1⟩ := mul_W (isW_Fi (inb_lt hx)) (isW_Fi (inb_lt hu)) (by omega)
  obtain ⟨p2, h2, w2⟩ := mul_W (isW_Fi (inb_lt hy)) (isW_Fi (inb_lt hv)) (by omega)
  obtain ⟨p3, h3, w3⟩ := mul_W (isW_Fi (inb_lt hx)) (isW_Fi (inb_lt hv)) (by omega)
  obtain ⟨p4, h4, w4⟩ := mul_W (isW_Fi (inb_lt hy)) (isW_Fi (inb_lt hu)) (by omega)
  obtain ⟨r, h5, w5⟩ := sub_W w1 w2 (by omega)
  obtain ⟨s, h6, w6⟩ := add_W w3 w4 (by omega)
  exact ⟨r, s, bin_mulC h1 h2 h3 h4 h5 h6, w5, w6⟩
theorem Mul_c : Pure Try.prog 24 [G x y, G u v] (numD (x * u - y * v) (x * v + y * u)) := by
  refine pu24 (by simp) ?_
  have e1 := mul_le hx hu
  have e2 := mul_le hy hv
  have e3 := mul_le hx hv
  have e4 := mul_le hy hu
  obtain ⟨a, b, h1, w1, w2⟩ := mulC (P := Try.prog) (ty := 29) hx hy hu hv
  have hb := bound_c w1 w2 (by omega) (by omega)
  simp -implicitDefEqProofs [ac24]
  refine pcK_of (ValidG1 hx hy) (by simp) ?_
  simp -implicitDefEqProofs
  refine pcK_of (ValidG1 hu hv) (by simp) ?_
  simp -implicitDefEqProofs [h1]
  unfold numD at hb ⊢
  cases hk : inb (x * u - y * v) && inb (x * v + y * u) <;> rw [hk] at hb
  · refine pcK_of (hb) (by simp) ?_
    simp -implicitDefEqProofs
  · refine pcK_of (hb) (by simp) ?_
    simp -implicitDefEqProofs
theorem Less_c : Pure Try.prog 26 [G x y, G u v] (.tup [B (decide (x < u ∨ x = u ∧ y < v)), I 0]) := by
  refine pu26 (by simp) ?_
  have h1 := eqF_W (isW_Fi (inb_lt hx)) (isW_Fi (inb_lt hu))
  have h2 := ltF_W (isW_Fi (inb_lt hx)) (isW_Fi (inb_lt hu))
  have h3 := ltF_W (isW_Fi (inb_lt hy)) (isW_Fi (inb_lt hv))
  simp -implicitDefEqProofs [ac26]
  refine pcK_of (ValidG1 hx hy) (by simp) ?_
  simp -implicitDefEqProofs
  refine pcK_of (ValidG1 hu hv) (by simp) ?_
  simp -implicitDefEqProofs [h1, h2, h3]
  by_cases h : x = u
  · subst h
    simp
  · simp [h]
end
theorem Conj_c {x y : Int} (hx : inb x = true) (hy : inb y = true) : Pure Try.prog 27 [G x y] (.tup [G x (-y), I 0]) := by
  refine pu27 (by simp) ?_
  have b2 := inb_le hy
  have hy2 : inb (-y) = true := by unfold inb; simp; omega
  have hb := bound_c (isW_Fi (inb_lt hx)) (neg_W (isW_Fi (inb_lt hy))) (inb_lt hx) (inb_lt hy2)
  have hk : (inb x && inb (-y)) = true := by rw [hx, hy2]; rfl
  unfold numD at hb
  rw [hk] at hb
  simp -implicitDefEqProofs [ac27]
  refine pcK_of (ValidG1 hx hy) (by simp) ?_
  simp -implicitDefEqProofs
  refine pcK_of (hb) (by simp) ?_
  simp -implicitDefEqProofs

/-! #### The reference's -/
abbrev M (n m : Int) : D := .agg [I n, I m]
def refD (n m : Int) : D := if (inb n && inb m) = true then .tup [M n m, I 0] else .tup [M 0 0, I 50]
theorem in_c (n m : Int) : Pure Try.prog 46 [M n m] (refD n m) := by
  refine pu46 (by simp) ?_
  unfold refD
  cases hk : inb n && inb m
  · have h : ¬ (-16777216 ≤ n ∧ n ≤ 16777216 ∧ -16777216 ≤ m ∧ m ≤ 16777216) := by
      intro h; simp [inb, h] at hk
    simp -implicitDefEqProofs [ac46]
    omega
  · have h := hk
    simp only [inb, Bool.and_eq_true, decide_eq_true_eq] at h
    obtain ⟨⟨h1, h2⟩, h3, h4⟩ := h
    simp -implicitDefEqProofs [ac46]
    omega
section
variable {x y u v : Int} (hx : inb x = true) (hy : inb y = true) (hu : inb u = true) (hv : inb v = true)
include hx hy hu hv
theorem refAdd_c : Pure Try.prog 34 [M x y, M u v] (refD (x + u) (y + v)) := by
  refine pu34 (by simp) ?_
  have b1 := inb_le hx
  have b2 := inb_le hy
  have b3 := inb_le hu
  have b4 := inb_le hv
  have hb := in_c (x + u) (y + v)
  simp -implicitDefEqProofs [ac34]
  rw [wr64 (by omega) (by omega), wr64 (by omega) (by omega)]
  unfold refD at hb ⊢
  cases hk : inb (x + u) && inb (y + v) <;> rw [hk] at hb
  · refine pcK_of (hb) (by simp) ?_
    simp -implicitDefEqProofs
  · refine pcK_of (hb) (by simp) ?_
    simp -implicitDefEqProofs
theorem refSub_c : Pure Try.prog 35 [M x y, M u v] (refD (x - u) (y - v)) := by
  refine pu35 (by simp) ?_
  have b1 := inb_le hx
  have b2 := inb_le hy
  have b3 := inb_le hu
  have b4 := inb_le hv
  have hb := in_c (x - u) (y - v)
  simp -implicitDefEqProofs [ac35]
  rw [wr64 (by omega) (by omega), wr64 (by omega) (by omega)]
  unfold refD at hb ⊢
  cases hk : inb (x - u) && inb (y - v) <;> rw [hk] at hb
  · refine pcK_of (hb) (by simp) ?_
    simp -implicitDefEqProofs
  · refine pcK_of (hb) (by simp) ?_
    simp -implicitDefEqProofs
theorem refMul_c : Pure Try.prog 36 [M x y, M u v] (refD (x * u - y * v) (x * v + y * u)) := by
  refine pu36 (by simp) ?_
  have e1 := mul_le hx hu
  have e2 := mul_le hy hv
  have e3 := mul_le hx hv
  have e4 := mul_le hy hu
  have w1 := wr64 (x := x * u) (by omega) (by omega)
  have w2 := wr64 (x := y * v) (by omega) (by omega)
  have w3 := wr64 (x := x * v) (by omega) (by omega)
  have w4 := wr64 (x := y * u) (by omega) (by omega)
  have w5 := wr64 (x := x * u - y * v) (by omega) (by omega)
  have w6 := wr64 (x := x * v + y * u) (by omega) (by omega)
  have hb := in_c (x * u - y * v) (x * v + y * u)
  simp -implicitDefEqProofs [ac36]
  rw [w1, w2, w3, w4, w5, w6]
  unfold refD at hb ⊢
  cases hk : inb (x * u - y * v) && inb (x * v + y * u) <;> rw [hk] at hb
  · refine pcK_of (hb) (by simp) ?_
    simp -implicitDefEqProofs
  · refine pcK_of (hb) (by simp) ?_
    simp -implicitDefEqProofs
end
theorem refLess_c (x y u v : Int) : Pure Try.prog 39 [M x y, M u v] (B (decide (x < u ∨ x = u ∧ y < v))) := by
  refine pu39 (by simp) ?_
  simp -implicitDefEqProofs [ac39]
  by_cases h : x < u
  · simp [h]; omega
  · simp [h]; omega
theorem refZ_c {x y : Int} (hx : inb x = true) (hy : inb y = true) : Pure Try.prog 45 [M x y] (G x y) := by
  refine pu45 (by simp) ?_
  simp -implicitDefEqProofs [ac45]
  rw [ofInt_Fi (inb_lt hx), ofInt_Fi (inb_lt hy)]
  exact ⟨rfl, rfl⟩
end Go.Fx.Ytaiklblnfebdfaa

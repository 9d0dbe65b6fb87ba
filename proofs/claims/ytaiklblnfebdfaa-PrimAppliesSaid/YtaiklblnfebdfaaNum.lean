/-
  Numbers: wraps within their range, operations on bits.
-/
import Derived.Test.YtaiklblnfebdfaaX17
set_option linter.all false
namespace Go.Fx
open Go
theorem wr64 {x : Int} (h1 : -9223372036854775808 ≤ x) (h2 : x ≤ 9223372036854775807) : IntKind.i64.wrap x = x := by
  simp [IntKind.wrap, IntKind.signed, IntKind.bits]; split <;> omega
theorem wru64 {x : Int} (h1 : 0 ≤ x) (h2 : x ≤ 18446744073709551615) : IntKind.u64.wrap x = x := by
  simp [IntKind.wrap, IntKind.signed, IntKind.bits]; omega
theorem u64_bounds {x : Int} (h : (Lit.int .u64 x).wf = true) : 0 ≤ x ∧ x ≤ 18446744073709551615 := by
  simp [Lit.wf, IntKind.min, IntKind.max, IntKind.signed, IntKind.bits] at h
  omega
theorem i64_bounds {x : Int} (h : (Lit.int .i64 x).wf = true) : -9223372036854775808 ≤ x ∧ x ≤ 9223372036854775807 := by
  simp [Lit.wf, IntKind.min, IntKind.max, IntKind.signed, IntKind.bits] at h
  omega
theorem bAnd_mask (x : Int) (j : Nat) (hj : j ≤ 62) : bAnd .u64 x (2 ^ j - 1) = x % 2 ^ j := by
  have h2 : (2 : Int) ^ j = ((2 ^ j : Nat) : Int) := by simp
  have hlt : (2 : Nat) ^ j ≤ 2 ^ 62 := Nat.pow_le_pow_right (by decide) hj
  have hpos : 0 < (2 : Nat) ^ j := Nat.pow_pos (by decide)
  show IntKind.u64.wrap (((BitVec.ofInt 64 x &&& BitVec.ofInt 64 (2 ^ j - 1)).toNat : Nat) : Int) = _
  rw [BitVec.toNat_and, BitVec.toNat_ofInt, BitVec.toNat_ofInt]
  have e1 : ((2 : Int) ^ j - 1) % ((2 ^ 64 : Nat) : Int) = (2 ^ j - 1 : Nat) := by
    rw [h2, Int.emod_eq_of_lt] <;> omega
  rw [e1, Int.toNat_natCast, Nat.and_two_pow_sub_one_eq_mod]
  have e2 : (((x % ((2 ^ 64 : Nat) : Int)).toNat % 2 ^ j : Nat) : Int) = x % 2 ^ j := by
    rw [Int.natCast_emod, Int.toNat_of_nonneg (Int.emod_nonneg _ (by decide)), ← h2]
    exact Int.emod_emod_of_dvd _ (by rw [h2]; exact Int.natCast_dvd_natCast.2 (Nat.pow_dvd_pow 2 (by omega)))
  rw [e2]
  have := Int.emod_lt_of_pos x (b := 2 ^ j) (by rw [h2]; omega)
  have := Int.emod_nonneg x (b := 2 ^ j) (by rw [h2]; omega)
  exact wru64 this (by omega)
theorem bAnd3 (x : Int) : bAnd .u64 x 3 = x % 4 := bAnd_mask x 2 (by decide)
theorem shr_nonneg (k : IntKind) (x : Int) {p : Int} {q : Nat} (hp : p = q) (hq : q ≤ k.bits) : bShr k x p = x / 2 ^ q := by
  subst hp
  unfold bShr
  rw [show min ((q : Int)).toNat k.bits = q by omega]
  exact Int.fdiv_eq_ediv_of_nonneg _ (Int.pow_nonneg (by decide))
theorem bOr_add {a c : Int} {j : Nat} (ha : 0 ≤ a) (hal : a < 2 ^ j) (hc : 0 ≤ c) (hs : a + c * 2 ^ j < 2 ^ 64) : bOr .u64 a (c * 2 ^ j) = a + c * 2 ^ j := by
  obtain ⟨a', rfl⟩ := Int.eq_ofNat_of_zero_le ha
  obtain ⟨c', rfl⟩ := Int.eq_ofNat_of_zero_le hc
  have h2 : (2 : Int) ^ j = ((2 ^ j : Nat) : Int) := by simp
  rw [h2] at hal hs ⊢
  have e : (c' : Int) * ((2 ^ j : Nat) : Int) = ((2 ^ j * c' : Nat) : Int) := by rw [Int.natCast_mul, Int.mul_comm]
  rw [e] at hs ⊢
  have hs' : a' + 2 ^ j * c' < 2 ^ 64 := by omega
  show IntKind.u64.wrap (((BitVec.ofInt 64 (a' : Int) ||| BitVec.ofInt 64 ((2 ^ j * c' : Nat) : Int)).toNat : Nat) : Int) = _
  rw [BitVec.toNat_or, BitVec.toNat_ofInt, BitVec.toNat_ofInt]
  have e1 : ((a' : Int) % ((2 ^ 64 : Nat) : Int)).toNat = a' := by omega
  have e2 : (((2 ^ j * c' : Nat) : Int) % ((2 ^ 64 : Nat) : Int)).toNat = 2 ^ j * c' := by omega
  rw [e1, e2, Nat.or_comm, ← Nat.two_pow_add_eq_or_of_lt (by omega) c', wru64 (by omega) (by omega)]
  omega
theorem shl_nonneg {x p : Int} {q : Nat} (hp : p = q) (hq : q ≤ 64) (hx : 0 ≤ x) (hb : x * 2 ^ q < 2 ^ 64) : bShl .u64 x p = x * 2 ^ q := by
  subst hp
  unfold bShl
  rw [show min ((q : Int)).toNat IntKind.u64.bits = q by simp only [IntKind.bits]; omega]
  have : 0 ≤ x * 2 ^ q := Int.mul_nonneg hx (Int.pow_nonneg (by decide))
  exact wru64 this (by omega)
theorem wr64_hi {x : Int} (h1 : 9223372036854775808 ≤ x) (h2 : x < 18446744073709551616) : IntKind.i64.wrap x = x - 18446744073709551616 := by
  have e : IntKind.i64.wrap x = (if (true && decide (x % 18446744073709551616 ≥ 9223372036854775808)) = true then x % 18446744073709551616 - 18446744073709551616 else x % 18446744073709551616) := rfl
  rw [e, Int.emod_eq_of_lt (by omega) h2, if_pos (by simp; omega)]
end Go.Fx

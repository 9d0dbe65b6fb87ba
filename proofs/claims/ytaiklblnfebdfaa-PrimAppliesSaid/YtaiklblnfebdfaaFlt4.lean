/-
  Floats of 64 bits that are whole numbers above 0: their bits, mantissas; powers of two times them.
-/
import Derived.Test.YtaiklblnfebdfaaFlt3
import Derived.Test.YtaiklblnfebdfaaBits
set_option linter.all false
namespace Go.Fx.Flt
open Go Ieee
def mN (N : Nat) : Nat := N * 2 ^ (52 - N.log2)
theorem mN_b {N : Nat} (h : N ≠ 0) (hN : N < 2 ^ 53) : 2 ^ 52 ≤ mN N ∧ mN N < 2 ^ 53 := mant h hN
theorem Fz_pos {N : Nat} (h : N ≠ 0) : Fz false N = (N.log2 + 1022) * 2 ^ 52 + mN N := by
  unfold Fz Format.word mN; rw [if_neg h]; rfl
def fracF (N : Nat) : Nat := 1021 * 2 ^ 52 + mN N
theorem read_frac {m : Nat} (h1 : 2 ^ 52 ≤ m) (h2 : m < 2 ^ 53) : f.read (1021 * 2 ^ 52 + m) = .number false m (-53) := by
  unfold Format.read
  simp only [fsw, fbin, finf, fl]
  have w1 : (1021 * 2 ^ 52 + m) / 2 ^ 63 % 2 = 0 := by omega
  have w2 : (1021 * 2 ^ 52 + m) % 2 ^ 63 = 1021 * 2 ^ 52 + m := by omega
  rw [w1, w2, if_neg (by omega), if_pos (by omega)]
  have e2 : 2 ^ 52 + (1021 * 2 ^ 52 + m) % 2 ^ 52 = m := by omega
  have e3 : (1021 * 2 ^ 52 + m) / 2 ^ 52 = 1022 := by omega
  rw [e2, e3]
  rfl
theorem ltF_frac {N M : Nat} (h : N ≠ 0) (hN : N < 2 ^ 53) (k : M ≠ 0) (hM : M < 2 ^ 53) : ltF (fracF N) (fracF M) = decide (mN N < mN M) := by
  unfold ltF Format.order fracF
  rw [read_frac (mN_b h hN).1 (mN_b h hN).2, read_frac (mN_b k hM).1 (mN_b k hM).2]
  simp only [Datum.order, Int.min_self, Int.sub_self]
  have : (0 : Int).toNat = 0 := rfl
  simp only [this, Ieee.signed, Nat.shiftLeft_zero, Bool.false_eq_true, if_false]
  by_cases hlt : mN N < mN M
  · have : compare ((mN N : Nat) : Int) ((mN M : Nat) : Int) = .lt := cmp_lt.2 (by omega)
    rw [this]; simp [hlt]
  · have : compare ((mN N : Nat) : Int) ((mN M : Nat) : Int) ≠ .lt := fun h => hlt (by have := cmp_lt.1 h; omega)
    cases h2 : compare ((mN N : Nat) : Int) ((mN M : Nat) : Int) <;> simp_all
/-- Times a power of two. -/
theorem Fz_shl {N k : Nat} (h : N ≠ 0) (hk : N * 2 ^ k < 2 ^ 53) : Fz false (N * 2 ^ k) = (N.log2 + k + 1022) * 2 ^ 52 + mN N := by
  have h0 : N * 2 ^ k ≠ 0 := Nat.mul_ne_zero h (Nat.ne_of_gt (Nat.two_pow_pos k))
  rw [Fz_pos h0]
  have hl := log_lt h0 hk
  unfold mN
  rw [log_mul h] at hl ⊢
  congr 1
  rw [Nat.mul_assoc, ← Nat.pow_add]
  congr 2
  omega
theorem isW_pos {b : Nat} {n : Int} (h : isW b n) (hn : n ≠ 0) : b = Fi n := by
  obtain ⟨s, N, hN, rfl, rfl⟩ := h
  refine Fz_Fi (.inl fun h0 => hn ?_)
  rw [h0]; cases s <;> rfl
theorem Fi_nat (N : Nat) : Fi (N : Int) = Fz false N := by unfold Fi; congr 1
/-- No whole number is above the greatest float. -/
theorem order_top {s : Bool} {N : Nat} (hN : N < 2 ^ 53) : gtF (Fz false N) 9218868437227405311 = false := by
  obtain ⟨p, h1, p1, _⟩ := Z_Fz (s := false) hN
  have h2 : f.read 9218868437227405311 = .number false (2 ^ 53 - 1) 971 := by decide
  unfold gtF Format.order
  rw [h1, h2]
  simp only [Datum.order]
  have hb : min (-(p : Int)) 971 = -(p : Int) := by omega
  rw [hb, show (-(p : Int) - -(p : Int)).toNat = 0 by omega, show ((971 : Int) - -(p : Int)).toNat = 971 + p by omega]
  simp only [signed_mul, sg, Bool.false_eq_true, if_false, Nat.pow_zero, Nat.mul_one]
  have hle : N * 2 ^ p ≤ (2 ^ 53 - 1) * 2 ^ (971 + p) := Nat.mul_le_mul (by omega) (Nat.pow_le_pow_right (by decide) (by omega))
  generalize N * 2 ^ p = a at *
  generalize (2 ^ 53 - 1) * 2 ^ (971 + p) = c at *
  cases h3 : compare (a : Int) (c : Int)
  · simp
  · simp
  · have := cmp_gt.1 h3; omega
/-- A whole number above 0 is no less than the least normal float. -/
theorem order_least {N : Nat} (h : N ≠ 0) (hN : N < 2 ^ 53) : ltF (Fz false N) 4503599627370496 = false := by
  obtain ⟨p, h1, p1, _⟩ := Z_Fz (s := false) hN
  have h2 : f.read 4503599627370496 = .number false (2 ^ 52) (-1074) := by decide
  unfold ltF Format.order
  rw [h1, h2]
  simp only [Datum.order]
  have hb : min (-(p : Int)) (-1074) = -1074 := by omega
  rw [hb, show (-(p : Int) - -1074).toNat = 1074 - p by omega, show ((-1074 : Int) - -1074).toNat = 0 by decide]
  simp only [signed_mul, sg, Bool.false_eq_true, if_false, Nat.pow_zero, Nat.mul_one]
  have hle : 2 ^ 52 ≤ N * 2 ^ p * 2 ^ (1074 - p) := by
    rw [Nat.mul_assoc, ← Nat.pow_add]
    calc 2 ^ 52 ≤ 2 ^ (p + (1074 - p)) := Nat.pow_le_pow_right (by decide) (by omega)
      _ ≤ N * 2 ^ (p + (1074 - p)) := Nat.le_mul_of_pos_left _ (by omega)
  generalize N * 2 ^ p * 2 ^ (1074 - p) = a at *
  cases h3 : compare (a : Int) ((2 ^ 52 : Nat) : Int)
  · have := cmp_lt.1 h3; omega
  · simp
  · simp
theorem Fz_mod {s : Bool} {N : Nat} (h : N < 2 ^ 53) : Fz s N % 2 ^ 63 = Fz false N := by
  have h1 := (Fz_lt (s := false) h).2.2 rfl
  cases s
  · exact Nat.mod_eq_of_lt h1
  · have h2 : Fz true N = 2 ^ 63 + Fz false N := by unfold Fz Format.word; rw [fsw]; rfl
    rw [h2]; omega
end Go.Fx.Flt
namespace Go.Fx
open Go
theorem bt_exp : ∀ i, i < 64 → Nat.testBit 9218868437227405312 i = (decide (52 ≤ i) && decide (i < 63)) := by decide
theorem bt_sgn : ∀ i, i < 64 → Nat.testBit 9223372036854775808 i = decide (i = 63) := by decide
theorem bt_natc (x : Nat) (i : Nat) : bt (x : Int) i = x.testBit i := by unfold bt; rw [Int.toNat_natCast]
theorem bClr_exp {x : Nat} (h : x < 2 ^ 63) : bClr .u64 (x : Int) 9218868437227405312 = ((x % 2 ^ 52 : Nat) : Int) := by
  have h1 : W64 (x : Int) := ⟨by omega, by omega⟩
  have h2 : W64 (9218868437227405312 : Int) := ⟨by decide, by decide⟩
  refine W_ext W_clr ⟨by omega, by omega⟩ fun i hi => ?_
  rw [bt_clr h1 h2 hi, bt_natc, bt_natc, Nat.testBit_mod_two_pow]
  have e : bt (9218868437227405312 : Int) i = (decide (52 ≤ i) && decide (i < 63)) := bt_exp i hi
  rw [e]
  by_cases h63 : i = 63
  · subst h63; rw [Nat.testBit_lt_two_pow h]; simp
  · by_cases h52 : i < 52
    · have : ¬ 52 ≤ i := by omega
      simp [h52, this]
    · have h3 : 52 ≤ i := by omega
      have h4 : i < 63 := by omega
      simp [h52, h3, h4]
theorem bClr_sgn {x : Nat} (h : x < 2 ^ 64) : bClr .u64 (x : Int) 9223372036854775808 = ((x % 2 ^ 63 : Nat) : Int) := by
  have h1 : W64 (x : Int) := ⟨by omega, by omega⟩
  have h2 : W64 (9223372036854775808 : Int) := ⟨by decide, by decide⟩
  refine W_ext W_clr ⟨by omega, by omega⟩ fun i hi => ?_
  rw [bt_clr h1 h2 hi, bt_natc, bt_natc, Nat.testBit_mod_two_pow]
  have e : bt (9223372036854775808 : Int) i = decide (i = 63) := bt_sgn i hi
  rw [e]
  by_cases h63 : i = 63
  · subst h63; simp
  · have : i < 63 := by omega
    simp [h63, this]
theorem bAnd_i64 {x : Nat} (h : x < 2048) : bAnd .i64 (x : Int) 2047 = (x : Int) := by
  show IntKind.i64.wrap (((BitVec.ofInt 64 (x : Int) &&& BitVec.ofInt 64 2047).toNat : Nat) : Int) = _
  rw [BitVec.toNat_and, BitVec.toNat_ofInt, BitVec.toNat_ofInt]
  have e1 : ((x : Int) % ((2 ^ 64 : Nat) : Int)).toNat = x := by omega
  have e2 : ((2047 : Int) % ((2 ^ 64 : Nat) : Int)).toNat = 2 ^ 11 - 1 := by decide
  rw [e1, e2, Nat.and_two_pow_sub_one_eq_mod, Nat.mod_eq_of_lt (by omega), wr64 (by omega) (by omega)]
end Go.Fx

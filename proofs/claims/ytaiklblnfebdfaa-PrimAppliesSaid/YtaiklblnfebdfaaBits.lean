/-
  Words of 64 bits, bit by bit.
-/
import Derived.Test.YtaiklblnfebdfaaNum
set_option linter.all false
namespace Go.Fx
open Go
def W64 (x : Int) : Prop := 0 ≤ x ∧ x < 18446744073709551616
def bt (x : Int) (i : Nat) : Bool := x.toNat.testBit i
def bv (x : Int) : BitVec 64 := BitVec.ofInt 64 x
theorem bv_toNat {x : Int} (h : W64 x) : ((bv x).toNat : Int) = x := by
  unfold bv W64 at *
  rw [BitVec.toNat_ofInt]
  omega
theorem bt_bv {x : Int} (h : W64 x) (i : Nat) : bt x i = (bv x).getLsbD i := by
  unfold bt
  have := bv_toNat h
  rw [show x.toNat = (bv x).toNat by omega, BitVec.testBit_toNat]
theorem W64_bv (v : BitVec 64) : W64 (v.toNat : Int) := ⟨by omega, by have := v.isLt; omega⟩
theorem wrap_bv (v : BitVec 64) : IntKind.u64.wrap (v.toNat : Int) = v.toNat := by
  have := W64_bv v
  unfold W64 at this
  exact wru64 this.1 (by omega)
theorem bt_nat (v : BitVec 64) (i : Nat) : bt (v.toNat : Int) i = v.getLsbD i := by
  unfold bt; rw [Int.toNat_natCast, BitVec.testBit_toNat]

theorem and_eq (a b : Int) : bAnd .u64 a b = ((bv a &&& bv b).toNat : Nat) := wrap_bv _
theorem or_eq (a b : Int) : bOr .u64 a b = ((bv a ||| bv b).toNat : Nat) := wrap_bv _
theorem xor_eq (a b : Int) : bXor .u64 a b = ((bv a ^^^ bv b).toNat : Nat) := wrap_bv _
theorem clr_eq (a b : Int) : bClr .u64 a b = ((bv a &&& ~~~bv b).toNat : Nat) := wrap_bv _
theorem not_eq (a : Int) : bNot .u64 a = ((~~~bv a).toNat : Nat) := by
  have h1 : bNot .u64 a = IntKind.u64.wrap ((BitVec.ofInt 64 18446744073709551615 ^^^ bv a).toNat : Nat) := rfl
  have h2 : BitVec.ofInt 64 18446744073709551615 = BitVec.allOnes 64 := by decide
  rw [h1, wrap_bv, h2, BitVec.allOnes_xor]

@[simp] theorem W_and {a b : Int} : W64 (bAnd .u64 a b) := by rw [and_eq]; exact W64_bv _
@[simp] theorem W_or {a b : Int} : W64 (bOr .u64 a b) := by rw [or_eq]; exact W64_bv _
@[simp] theorem W_xor {a b : Int} : W64 (bXor .u64 a b) := by rw [xor_eq]; exact W64_bv _
@[simp] theorem W_clr {a b : Int} : W64 (bClr .u64 a b) := by rw [clr_eq]; exact W64_bv _
@[simp] theorem W_not {a : Int} : W64 (bNot .u64 a) := by rw [not_eq]; exact W64_bv _

theorem bt_and {a b : Int} (ha : W64 a) (hb : W64 b) (i : Nat) : bt (bAnd .u64 a b) i = (bt a i && bt b i) := by
  rw [and_eq, bt_nat, bt_bv ha, bt_bv hb]; simp
theorem bt_or {a b : Int} (ha : W64 a) (hb : W64 b) (i : Nat) : bt (bOr .u64 a b) i = (bt a i || bt b i) := by
  rw [or_eq, bt_nat, bt_bv ha, bt_bv hb]; simp
theorem bt_xor {a b : Int} (ha : W64 a) (hb : W64 b) (i : Nat) : bt (bXor .u64 a b) i = (bt a i ^^ bt b i) := by
  rw [xor_eq, bt_nat, bt_bv ha, bt_bv hb]; simp
theorem bt_clr {a b : Int} (ha : W64 a) (hb : W64 b) {i : Nat} (hi : i < 64) : bt (bClr .u64 a b) i = (bt a i && !bt b i) := by
  rw [clr_eq, bt_nat, bt_bv ha, bt_bv hb]; simp [hi]
theorem bt_not {a : Int} (ha : W64 a) {i : Nat} (hi : i < 64) : bt (bNot .u64 a) i = !bt a i := by
  rw [not_eq, bt_nat, bt_bv ha]; simp [hi]
theorem bt_big {a : Int} (ha : W64 a) {i : Nat} (hi : 64 ≤ i) : bt a i = false := by
  rw [bt_bv ha]; exact BitVec.getLsbD_of_ge _ _ hi

theorem shr_eq {a : Int} (ha : W64 a) (k : Nat) (hk : k ≤ 64) : bShr .u64 a (k : Int) = ((bv a >>> k).toNat : Nat) := by
  rw [shr_nonneg _ _ rfl (by simpa [IntKind.bits] using hk), BitVec.toNat_ushiftRight, Nat.shiftRight_eq_div_pow, Int.natCast_ediv, bv_toNat ha]
  simp
theorem shl_eq {a : Int} (ha : W64 a) (k : Nat) (hk : k ≤ 64) : bShl .u64 a (k : Int) = ((bv a <<< k).toNat : Nat) := by
  unfold bShl
  rw [show min ((k : Int)).toNat IntKind.u64.bits = k by simp only [IntKind.bits]; omega, BitVec.toNat_shiftLeft, Nat.shiftLeft_eq]
  have : IntKind.u64.wrap (a * 2 ^ k) = (a * 2 ^ k) % 18446744073709551616 := by
    simp [IntKind.wrap, IntKind.signed, IntKind.bits]
  rw [this, Int.natCast_emod, Int.natCast_mul, bv_toNat ha]
  simp
theorem W_shr {a : Int} (ha : W64 a) {k : Nat} (hk : k ≤ 64) : W64 (bShr .u64 a (k : Int)) := by rw [shr_eq ha k hk]; exact W64_bv _
theorem W_shl {a : Int} (ha : W64 a) {k : Nat} (hk : k ≤ 64) : W64 (bShl .u64 a (k : Int)) := by rw [shl_eq ha k hk]; exact W64_bv _
theorem bt_shr {a : Int} (ha : W64 a) {k : Nat} (hk : k ≤ 64) (i : Nat) : bt (bShr .u64 a (k : Int)) i = bt a (k + i) := by
  rw [shr_eq ha k hk, bt_nat, bt_bv ha]; simp
theorem bt_shl {a : Int} (ha : W64 a) {k : Nat} (hk : k ≤ 64) (i : Nat) : bt (bShl .u64 a (k : Int)) i = (decide (i < 64) && (!decide (i < k) && bt a (i - k))) := by
  rw [shl_eq ha k hk, bt_nat, bt_bv ha]; simp [BitVec.getLsbD_shiftLeft, Bool.and_assoc]

theorem W_ext {a b : Int} (ha : W64 a) (hb : W64 b) (h : ∀ i, i < 64 → bt a i = bt b i) : a = b := by
  have : bv a = bv b := by
    apply BitVec.eq_of_getLsbD_eq
    intro i hi
    rw [← bt_bv ha, ← bt_bv hb]; exact h i hi
  rw [← bv_toNat ha, ← bv_toNat hb, this]

/-- A cell of a word, by its two bits. -/
theorem cell_bits {a : Int} (ha : 0 ≤ a) (j : Nat) : a / 4 ^ j % 4 = (if bt a (2 * j + 1) then 2 else 0) + (if bt a (2 * j) then 1 else 0) := by
  obtain ⟨n, rfl⟩ := Int.eq_ofNat_of_zero_le ha
  unfold bt
  have h4 : (4 : Int) ^ j = ((2 ^ (2 * j) : Nat) : Int) := by rw [Nat.pow_mul]; simp
  rw [h4, ← Int.natCast_ediv, Int.toNat_natCast, Nat.testBit_eq_decide_div_mod_eq, Nat.testBit_eq_decide_div_mod_eq]
  rw [Nat.pow_succ, ← Nat.div_div_eq_div_mul]
  generalize n / 2 ^ (2 * j) = m
  by_cases h1 : m / 2 % 2 = 1 <;> by_cases h0 : m % 2 = 1 <;> simp [h1, h0] <;> omega
end Go.Fx

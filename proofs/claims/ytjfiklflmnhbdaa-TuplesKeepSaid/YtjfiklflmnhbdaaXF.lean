/-
  The library, XF: Num, Bits, Pop, Flt, Flt2, Flt3, Flt4.
-/
import Derived.Test.YtjfiklflmnhbdaaXD
import Derived.Laws.FloatArith
/-
  Numbers: wraps within their range, operations on bits.
-/

set_option linter.all false
namespace Go.Fx
open Go
theorem wr64 {x : Int} (h1 : -9223372036854775808 ≤ x) (h2 : x ≤ 9223372036854775807) : IntKind.i64.wrap x = x := by
  simp [IntKind.wrap, IntKind.signed, IntKind.bits]; split <;> omega
theorem wru64 {x : Int} (h1 : 0 ≤ x) (h2 : x ≤ 18446744073709551615) : IntKind.u64.wrap x = x := by
  simp [IntKind.wrap, IntKind.signed, IntKind.bits]; omega
theorem u64_bounds {x : Int} (h : (Lit.int .u64 x).wf = true) : 0 ≤ x ∧ x ≤ 18446744073709551615 := by
  simp [Lit.wf, IntKind.min, IntKind.max, IntKind.signed, IntKind.bits] at h
  omega
theorem i64_bounds {x : Int} (h : (Lit.int .i64 x).wf = true) : -9223372036854775808 ≤ x ∧ x ≤ 9223372036854775807 := by
  simp [Lit.wf, IntKind.min, IntKind.max, IntKind.signed, IntKind.bits] at h
  omega
theorem bAnd_mask (x : Int) (j : Nat) (hj : j ≤ 62) : bAnd .u64 x (2 ^ j - 1) = x % 2 ^ j := by
  have h2 : (2 : Int) ^ j = ((2 ^ j : Nat) : Int) := by simp
  have hlt : (2 : Nat) ^ j ≤ 2 ^ 62 := Nat.pow_le_pow_right (by decide) hj
  have hpos : 0 < (2 : Nat) ^ j := Nat.pow_pos (by decide)
  show IntKind.u64.wrap (((BitVec.ofInt 64 x &&& BitVec.ofInt 64 (2 ^ j - 1)).toNat : Nat) : Int) = _
  rw [BitVec.toNat_and, BitVec.toNat_ofInt, BitVec.toNat_ofInt]
  have e1 : ((2 : Int) ^ j - 1) % ((2 ^ 64 : Nat) : Int) = (2 ^ j - 1 : Nat) := by
    rw [h2, Int.emod_eq_of_lt] <;> omega
  rw [e1, Int.toNat_natCast, Nat.and_two_pow_sub_one_eq_mod]
  have e2 : (((x % ((2 ^ 64 : Nat) : Int)).toNat % 2 ^ j : Nat) : Int) = x % 2 ^ j := by
    rw [Int.natCast_emod, Int.toNat_of_nonneg (Int.emod_nonneg _ (by decide)), ← h2]
    exact Int.emod_emod_of_dvd _ (by rw [h2]; exact Int.natCast_dvd_natCast.2 (Nat.pow_dvd_pow 2 (by omega)))
  rw [e2]
  have := Int.emod_lt_of_pos x (b := 2 ^ j) (by rw [h2]; omega)
  have := Int.emod_nonneg x (b := 2 ^ j) (by rw [h2]; omega)
  exact wru64 this (by omega)
theorem bAnd3 (x : Int) : bAnd .u64 x 3 = x % 4 := bAnd_mask x 2 (by decide)
theorem shr_nonneg (k : IntKind) (x : Int) {p : Int} {q : Nat} (hp : p = q) (hq : q ≤ k.bits) : bShr k x p = x / 2 ^ q := by
  subst hp
  unfold bShr
  rw [show min ((q : Int)).toNat k.bits = q by omega]
  exact Int.fdiv_eq_ediv_of_nonneg _ (Int.pow_nonneg (by decide))
theorem bOr_add {a c : Int} {j : Nat} (ha : 0 ≤ a) (hal : a < 2 ^ j) (hc : 0 ≤ c) (hs : a + c * 2 ^ j < 2 ^ 64) : bOr .u64 a (c * 2 ^ j) = a + c * 2 ^ j := by
  obtain ⟨a', rfl⟩ := Int.eq_ofNat_of_zero_le ha
  obtain ⟨c', rfl⟩ := Int.eq_ofNat_of_zero_le hc
  have h2 : (2 : Int) ^ j = ((2 ^ j : Nat) : Int) := by simp
  rw [h2] at hal hs ⊢
  have e : (c' : Int) * ((2 ^ j : Nat) : Int) = ((2 ^ j * c' : Nat) : Int) := by rw [Int.natCast_mul, Int.mul_comm]
  rw [e] at hs ⊢
  have hs' : a' + 2 ^ j * c' < 2 ^ 64 := by omega
  show IntKind.u64.wrap (((BitVec.ofInt 64 (a' : Int) ||| BitVec.ofInt 64 ((2 ^ j * c' : Nat) : Int)).toNat : Nat) : Int) = _
  rw [BitVec.toNat_or, BitVec.toNat_ofInt, BitVec.toNat_ofInt]
  have e1 : ((a' : Int) % ((2 ^ 64 : Nat) : Int)).toNat = a' := by omega
  have e2 : (((2 ^ j * c' : Nat) : Int) % ((2 ^ 64 : Nat) : Int)).toNat = 2 ^ j * c' := by omega
  rw [e1, e2, Nat.or_comm, ← Nat.two_pow_add_eq_or_of_lt (by omega) c', wru64 (by omega) (by omega)]
  omega
theorem shl_nonneg {x p : Int} {q : Nat} (hp : p = q) (hq : q ≤ 64) (hx : 0 ≤ x) (hb : x * 2 ^ q < 2 ^ 64) : bShl .u64 x p = x * 2 ^ q := by
  subst hp
  unfold bShl
  rw [show min ((q : Int)).toNat IntKind.u64.bits = q by simp only [IntKind.bits]; omega]
  have : 0 ≤ x * 2 ^ q := Int.mul_nonneg hx (Int.pow_nonneg (by decide))
  exact wru64 this (by omega)
theorem wr64_hi {x : Int} (h1 : 9223372036854775808 ≤ x) (h2 : x < 18446744073709551616) : IntKind.i64.wrap x = x - 18446744073709551616 := by
  have e : IntKind.i64.wrap x = (if (true && decide (x % 18446744073709551616 ≥ 9223372036854775808)) = true then x % 18446744073709551616 - 18446744073709551616 else x % 18446744073709551616) := rfl
  rw [e, Int.emod_eq_of_lt (by omega) h2, if_pos (by simp; omega)]
end Go.Fx

/-
  Words of 64 bits, bit by bit.
-/

set_option linter.all false
namespace Go.Fx
open Go
def W64 (x : Int) : Prop := 0 ≤ x ∧ x < 18446744073709551616
def bt (x : Int) (i : Nat) : Bool := x.toNat.testBit i
def bv (x : Int) : BitVec 64 := BitVec.ofInt 64 x
theorem bv_toNat {x : Int} (h : W64 x) : ((bv x).toNat : Int) = x := by
  unfold bv W64 at *
  rw [BitVec.toNat_ofInt]
  omega
theorem bt_bv {x : Int} (h : W64 x) (i : Nat) : bt x i = (bv x).getLsbD i := by
  unfold bt
  have := bv_toNat h
  rw [show x.toNat = (bv x).toNat by omega, BitVec.testBit_toNat]
theorem W64_bv (v : BitVec 64) : W64 (v.toNat : Int) := ⟨by omega, by have := v.isLt; omega⟩
theorem wrap_bv (v : BitVec 64) : IntKind.u64.wrap (v.toNat : Int) = v.toNat := by
  have := W64_bv v
  unfold W64 at this
  exact wru64 this.1 (by omega)
theorem bt_nat (v : BitVec 64) (i : Nat) : bt (v.toNat : Int) i = v.getLsbD i := by
  unfold bt; rw [Int.toNat_natCast, BitVec.testBit_toNat]

theorem and_eq (a b : Int) : bAnd .u64 a b = ((bv a &&& bv b).toNat : Nat) := wrap_bv _
theorem or_eq (a b : Int) : bOr .u64 a b = ((bv a ||| bv b).toNat : Nat) := wrap_bv _
theorem xor_eq (a b : Int) : bXor .u64 a b = ((bv a ^^^ bv b).toNat : Nat) := wrap_bv _
theorem clr_eq (a b : Int) : bClr .u64 a b = ((bv a &&& ~~~bv b).toNat : Nat) := wrap_bv _
theorem not_eq (a : Int) : bNot .u64 a = ((~~~bv a).toNat : Nat) := by
  have h1 : bNot .u64 a = IntKind.u64.wrap ((BitVec.ofInt 64 18446744073709551615 ^^^ bv a).toNat : Nat) := rfl
  have h2 : BitVec.ofInt 64 18446744073709551615 = BitVec.allOnes 64 := by decide
  rw [h1, wrap_bv, h2, BitVec.allOnes_xor]

@[simp] theorem W_and {a b : Int} : W64 (bAnd .u64 a b) := by rw [and_eq]; exact W64_bv _
@[simp] theorem W_or {a b : Int} : W64 (bOr .u64 a b) := by rw [or_eq]; exact W64_bv _
@[simp] theorem W_xor {a b : Int} : W64 (bXor .u64 a b) := by rw [xor_eq]; exact W64_bv _
@[simp] theorem W_clr {a b : Int} : W64 (bClr .u64 a b) := by rw [clr_eq]; exact W64_bv _
@[simp] theorem W_not {a : Int} : W64 (bNot .u64 a) := by rw [not_eq]; exact W64_bv _

theorem bt_and {a b : Int} (ha : W64 a) (hb : W64 b) (i : Nat) : bt (bAnd .u64 a b) i = (bt a i && bt b i) := by
  rw [and_eq, bt_nat, bt_bv ha, bt_bv hb]; simp
theorem bt_or {a b : Int} (ha : W64 a) (hb : W64 b) (i : Nat) : bt (bOr .u64 a b) i = (bt a i || bt b i) := by
  rw [or_eq, bt_nat, bt_bv ha, bt_bv hb]; simp
theorem bt_xor {a b : Int} (ha : W64 a) (hb : W64 b) (i : Nat) : bt (bXor .u64 a b) i = (bt a i ^^ bt b i) := by
  rw [xor_eq, bt_nat, bt_bv ha, bt_bv hb]; simp
theorem bt_clr {a b : Int} (ha : W64 a) (hb : W64 b) {i : Nat} (hi : i < 64) : bt (bClr .u64 a b) i = (bt a i && !bt b i) := by
  rw [clr_eq, bt_nat, bt_bv ha, bt_bv hb]; simp [hi]
theorem bt_not {a : Int} (ha : W64 a) {i : Nat} (hi : i < 64) : bt (bNot .u64 a) i = !bt a i := by
  rw [not_eq, bt_nat, bt_bv ha]; simp [hi]
theorem bt_big {a : Int} (ha : W64 a) {i : Nat} (hi : 64 ≤ i) : bt a i = false := by
  rw [bt_bv ha]; exact BitVec.getLsbD_of_ge _ _ hi

theorem shr_eq {a : Int} (ha : W64 a) (k : Nat) (hk : k ≤ 64) : bShr .u64 a (k : Int) = ((bv a >>> k).toNat : Nat) := by
  rw [shr_nonneg _ _ rfl (by simpa [IntKind.bits] using hk), BitVec.toNat_ushiftRight, Nat.shiftRight_eq_div_pow, Int.natCast_ediv, bv_toNat ha]
  simp
theorem shl_eq {a : Int} (ha : W64 a) (k : Nat) (hk : k ≤ 64) : bShl .u64 a (k : Int) = ((bv a <<< k).toNat : Nat) := by
  unfold bShl
  rw [show min ((k : Int)).toNat IntKind.u64.bits = k by simp only [IntKind.bits]; omega, BitVec.toNat_shiftLeft, Nat.shiftLeft_eq]
  have : IntKind.u64.wrap (a * 2 ^ k) = (a * 2 ^ k) % 18446744073709551616 := by
    simp [IntKind.wrap, IntKind.signed, IntKind.bits]
  rw [this, Int.natCast_emod, Int.natCast_mul, bv_toNat ha]
  simp
theorem W_shr {a : Int} (ha : W64 a) {k : Nat} (hk : k ≤ 64) : W64 (bShr .u64 a (k : Int)) := by rw [shr_eq ha k hk]; exact W64_bv _
theorem W_shl {a : Int} (ha : W64 a) {k : Nat} (hk : k ≤ 64) : W64 (bShl .u64 a (k : Int)) := by rw [shl_eq ha k hk]; exact W64_bv _
theorem bt_shr {a : Int} (ha : W64 a) {k : Nat} (hk : k ≤ 64) (i : Nat) : bt (bShr .u64 a (k : Int)) i = bt a (k + i) := by
  rw [shr_eq ha k hk, bt_nat, bt_bv ha]; simp
theorem bt_shl {a : Int} (ha : W64 a) {k : Nat} (hk : k ≤ 64) (i : Nat) : bt (bShl .u64 a (k : Int)) i = (decide (i < 64) && (!decide (i < k) && bt a (i - k))) := by
  rw [shl_eq ha k hk, bt_nat, bt_bv ha]; simp [BitVec.getLsbD_shiftLeft, Bool.and_assoc]

theorem W_ext {a b : Int} (ha : W64 a) (hb : W64 b) (h : ∀ i, i < 64 → bt a i = bt b i) : a = b := by
  have : bv a = bv b := by
    apply BitVec.eq_of_getLsbD_eq
    intro i hi
    rw [← bt_bv ha, ← bt_bv hb]; exact h i hi
  rw [← bv_toNat ha, ← bv_toNat hb, this]

/-- A cell of a word, by its two bits. -/
theorem cell_bits {a : Int} (ha : 0 ≤ a) (j : Nat) : a / 4 ^ j % 4 = (if bt a (2 * j + 1) then 2 else 0) + (if bt a (2 * j) then 1 else 0) := by
  obtain ⟨n, rfl⟩ := Int.eq_ofNat_of_zero_le ha
  unfold bt
  have h4 : (4 : Int) ^ j = ((2 ^ (2 * j) : Nat) : Int) := by rw [Nat.pow_mul]; simp
  rw [h4, ← Int.natCast_ediv, Int.toNat_natCast, Nat.testBit_eq_decide_div_mod_eq, Nat.testBit_eq_decide_div_mod_eq]
  rw [Nat.pow_succ, ← Nat.div_div_eq_div_mul]
  generalize n / 2 ^ (2 * j) = m
  by_cases h1 : m / 2 % 2 = 1 <;> by_cases h0 : m % 2 = 1 <;> simp [h1, h0] <;> omega
end Go.Fx

/-
  How many bits of a word are set, by halves.
-/

set_option linter.all false
namespace Go.Fx
open Go
theorem and_nat {a b : Nat} (ha : a < 2 ^ 64) (hb : b < 2 ^ 64) : bAnd .u64 (a : Int) (b : Int) = ((a &&& b : Nat) : Int) := by
  rw [and_eq]
  unfold bv
  rw [BitVec.toNat_and, BitVec.toNat_ofInt, BitVec.toNat_ofInt]
  have e1 : ((a : Int) % ((2 ^ 64 : Nat) : Int)).toNat = a := by omega
  have e2 : ((b : Int) % ((2 ^ 64 : Nat) : Int)).toNat = b := by omega
  rw [e1, e2]
theorem shr_nat {a k : Nat} (hk : k ≤ 64) : bShr .u64 (a : Int) (k : Int) = ((a / 2 ^ k : Nat) : Int) := by
  rw [shr_nonneg _ _ rfl (by simpa [IntKind.bits] using hk)]
  simp

def val (b : Nat) : List Nat → Nat
  | [] => 0
  | x :: xs => x + 2 ^ b * val b xs
def prs : List Nat → List Nat
  | x :: y :: r => (x + y) :: prs r
  | _ => []
def msk (b : Nat) : Nat → Nat
  | 0 => 0
  | n + 1 => (2 ^ b - 1) + 2 ^ (2 * b) * msk b n

theorem and_block {a b m c k : Nat} (ha : a < 2 ^ k) (hm : m < 2 ^ k) : (a + 2 ^ k * b) &&& (m + 2 ^ k * c) = (a &&& m) + 2 ^ k * (b &&& c) := by
  apply Nat.eq_of_testBit_eq
  intro i
  have ham : a &&& m < 2 ^ k := Nat.lt_of_le_of_lt Nat.and_le_left ha
  rw [Nat.testBit_and, Nat.add_comm a, Nat.add_comm m, Nat.add_comm (a &&& m), Nat.testBit_two_pow_mul_add _ ha, Nat.testBit_two_pow_mul_add _ hm, Nat.testBit_two_pow_mul_add _ ham]
  split <;> simp [Nat.testBit_and]

theorem val_lt {b : Nat} : ∀ (xs : List Nat), (∀ x ∈ xs, x < 2 ^ b) → val b xs < 2 ^ (b * xs.length)
  | [], _ => by simp [val]
  | x :: xs, h => by
    have ih := val_lt xs fun y hy => h y (by simp [hy])
    have h0 := h x (by simp)
    simp only [val, List.length_cons, Nat.mul_succ, Nat.pow_add]
    have : 2 ^ b * val b xs + 2 ^ b ≤ 2 ^ b * 2 ^ (b * xs.length) := by
      rw [← Nat.mul_succ]; exact Nat.mul_le_mul_left _ ih
    rw [Nat.mul_comm (2 ^ (b * xs.length))]; omega

theorem prs_step {b : Nat} : ∀ (n : Nat) (xs : List Nat), xs.length = 2 * n → (∀ x ∈ xs, x < 2 ^ b) → (val b xs / 2 ^ b &&& msk b n) + (val b xs &&& msk b n) = val (2 * b) (prs xs)
  | 0, xs, hl, _ => by
    have : xs = [] := List.eq_nil_of_length_eq_zero (by simpa using hl)
    subst this; simp [val, prs, msk]
  | n + 1, [], hl, _ => by simp at hl
  | n + 1, [_], hl, _ => by simp at hl; omega
  | n + 1, x :: y :: r, hl, h => by
    have ih := prs_step n r (by simp at hl; omega) fun z hz => h z (by simp [hz])
    have hx := h x (by simp)
    have hy := h y (by simp)
    have hp : 0 < 2 ^ b := Nat.pow_pos (by decide)
    have h2 : 2 ^ (2 * b) = 2 ^ b * 2 ^ b := by rw [Nat.two_mul, Nat.pow_add]
    have e1 : val b (x :: y :: r) = (x + 2 ^ b * y) + 2 ^ (2 * b) * val b r := by
      simp only [val, h2, Nat.mul_add, Nat.mul_assoc]; omega
    have hxy : x + 2 ^ b * y < 2 ^ (2 * b) := by
      rw [h2]
      have : 2 ^ b * y + 2 ^ b ≤ 2 ^ b * 2 ^ b := by rw [← Nat.mul_succ]; exact Nat.mul_le_mul_left _ hy
      omega
    have e2 : val b (x :: y :: r) / 2 ^ b = (y + 2 ^ b * (val b r % 2 ^ b)) + 2 ^ (2 * b) * (val b r / 2 ^ b) := by
      have : val b (x :: y :: r) = x + 2 ^ b * (y + 2 ^ b * val b r) := rfl
      rw [this, Nat.add_mul_div_left _ _ hp, Nat.div_eq_of_lt hx, Nat.zero_add, h2]
      have := Nat.mod_add_div (val b r) (2 ^ b)
      conv => lhs; rw [← this]
      rw [Nat.mul_add, Nat.mul_assoc, Nat.add_assoc]
    have hyv : y + 2 ^ b * (val b r % 2 ^ b) < 2 ^ (2 * b) := by
      rw [h2]
      have hv := Nat.mod_lt (val b r) hp
      have : 2 ^ b * (val b r % 2 ^ b) + 2 ^ b ≤ 2 ^ b * 2 ^ b := by rw [← Nat.mul_succ]; exact Nat.mul_le_mul_left _ hv
      omega
    have hM : 2 ^ b - 1 < 2 ^ (2 * b) := by
      rw [h2]
      have : 2 ^ b * 1 ≤ 2 ^ b * 2 ^ b := Nat.mul_le_mul_left _ hp
      omega
    simp only [msk]
    rw [e2, e1, and_block hyv hM, and_block hxy hM, Nat.and_two_pow_sub_one_eq_mod, Nat.and_two_pow_sub_one_eq_mod, Nat.add_mul_mod_self_left, Nat.add_mul_mod_self_left, Nat.mod_eq_of_lt hx, Nat.mod_eq_of_lt hy]
    simp only [prs, val]
    rw [← ih, Nat.mul_add]
    omega

theorem prs_step2 {b : Nat} : ∀ (n : Nat) (xs : List Nat), xs.length = 2 * n → (∀ x ∈ xs, 2 * x < 2 ^ b) → (val b xs / 2 ^ b + val b xs) &&& msk b n = val (2 * b) (prs xs)
  | 0, xs, hl, _ => by
    have : xs = [] := List.eq_nil_of_length_eq_zero (by simpa using hl)
    subst this; simp [val, prs, msk]
  | n + 1, [], hl, _ => by simp at hl
  | n + 1, [_], hl, _ => by simp at hl; omega
  | n + 1, x :: y :: r, hl, h => by
    have ih := prs_step2 n r (by simp at hl; omega) fun z hz => h z (by simp [hz])
    have hx := h x (by simp)
    have hy := h y (by simp)
    have hp : 0 < 2 ^ b := Nat.pow_pos (by decide)
    have h2 : 2 ^ (2 * b) = 2 ^ b * 2 ^ b := by rw [Nat.two_mul, Nat.pow_add]
    have hr0 : 2 * (val b r % 2 ^ b) < 2 ^ b ∨ val b r % 2 ^ b = 0 := by
      cases r with
      | nil => right; simp [val]
      | cons z r =>
        left
        have hz := h z (by simp)
        simp only [val]
        rw [Nat.add_mul_mod_self_left, Nat.mod_eq_of_lt (by omega)]
        exact hz
    have e : val b (x :: y :: r) / 2 ^ b + val b (x :: y :: r) = ((x + y) + 2 ^ b * (val b r % 2 ^ b + y)) + 2 ^ (2 * b) * (val b r / 2 ^ b + val b r) := by
      have e0 : val b (x :: y :: r) = x + 2 ^ b * (y + 2 ^ b * val b r) := rfl
      rw [e0, Nat.add_mul_div_left _ _ hp, Nat.div_eq_of_lt (by omega), Nat.zero_add, h2]
      have := Nat.mod_add_div (val b r) (2 ^ b)
      have e3 : 2 ^ b * val b r = 2 ^ b * (val b r % 2 ^ b) + 2 ^ b * 2 ^ b * (val b r / 2 ^ b) := by
        conv => lhs; rw [← this]
        rw [Nat.mul_add, Nat.mul_assoc]
      simp only [Nat.mul_add, ← Nat.mul_assoc] at *
      omega
    have hlow : (x + y) + 2 ^ b * (val b r % 2 ^ b + y) < 2 ^ (2 * b) := by
      rw [h2]
      have hs : val b r % 2 ^ b + y < 2 ^ b := by omega
      have : 2 ^ b * (val b r % 2 ^ b + y) + 2 ^ b ≤ 2 ^ b * 2 ^ b := by rw [← Nat.mul_succ]; exact Nat.mul_le_mul_left _ hs
      omega
    have hM : 2 ^ b - 1 < 2 ^ (2 * b) := by
      rw [h2]
      have : 2 ^ b * 1 ≤ 2 ^ b * 2 ^ b := Nat.mul_le_mul_left _ hp
      omega
    simp only [msk]
    rw [e, and_block hlow hM, Nat.and_two_pow_sub_one_eq_mod, Nat.add_mul_mod_self_left, Nat.mod_eq_of_lt (by omega : x + y < 2 ^ b), ih]
    rfl

theorem prs_sum : ∀ (n : Nat) (xs : List Nat), xs.length = 2 * n → (prs xs).sum = xs.sum ∧ (prs xs).length = n
  | 0, xs, hl => by
    have : xs = [] := List.eq_nil_of_length_eq_zero (by simpa using hl)
    subst this; simp [prs]
  | n + 1, [], hl => by simp at hl
  | n + 1, [_], hl => by simp at hl; omega
  | n + 1, x :: y :: r, hl => by
    have ih := prs_sum n r (by simp at hl; omega)
    simp only [prs, List.sum_cons, List.length_cons, ih.1, ih.2]
    exact ⟨by omega, trivial⟩
theorem prs_le {k : Nat} : ∀ (xs : List Nat), (∀ x ∈ xs, x ≤ k) → ∀ x ∈ prs xs, x ≤ 2 * k
  | [], _, x, hx => by simp [prs] at hx
  | [_], _, x, hx => by simp [prs] at hx
  | a :: b :: r, h, x, hx => by
    simp only [prs, List.mem_cons] at hx
    have ha := h a (by simp)
    have hb := h b (by simp)
    rcases hx with rfl | hx
    · omega
    · exact prs_le r (fun z hz => h z (by simp [hz])) x hx

def bits (x : Nat) (n : Nat) : List Nat := (List.range n).map fun i => x / 2 ^ i % 2
theorem val_bits : ∀ (n x : Nat), x < 2 ^ n → val 1 (bits x n) = x
  | 0, x, h => by simp [bits, val]; omega
  | n + 1, x, h => by
    have ih := val_bits n (x / 2) (by rw [Nat.pow_succ] at h; omega)
    unfold bits at ih ⊢
    rw [List.range_succ_eq_map, List.map_cons, List.map_map]
    have : ((fun i => x / 2 ^ i % 2) ∘ Nat.succ) = fun i => x / 2 / 2 ^ i % 2 := by
      funext i
      simp only [Function.comp, Nat.succ_eq_add_one]
      rw [Nat.pow_succ, Nat.mul_comm, Nat.div_div_eq_div_mul]
    simp only [val, this, ih, Nat.pow_zero, Nat.div_one]
    omega

theorem val_le {b k : Nat} : ∀ (xs : List Nat), (∀ x ∈ xs, x ≤ k) → val b xs ≤ k * val b (List.replicate xs.length 1)
  | [], _ => by simp [val]
  | x :: xs, h => by
    have ih := val_le (b := b) xs fun y hy => h y (by simp [hy])
    have h0 := h x (by simp)
    simp only [val, List.length_cons, List.replicate_succ, Nat.mul_add, Nat.mul_one]
    have : 2 ^ b * val b xs ≤ 2 ^ b * (k * val b (List.replicate xs.length 1)) := Nat.mul_le_mul_left _ ih
    rw [Nat.mul_left_comm k]; omega

theorem pop_end {f0 f1 f2 f3 f4 f5 f6 f7 a3 : Nat} (g0 : f0 ≤ 8) (g1 : f1 ≤ 8) (g2 : f2 ≤ 8) (g3 : f3 ≤ 8) (g4 : f4 ≤ 8) (g5 : f5 ≤ 8) (g6 : f6 ≤ 8) (g7 : f7 ≤ 8)
    (e : a3 = f0 + 256 * (f1 + 256 * (f2 + 256 * (f3 + 256 * (f4 + 256 * (f5 + 256 * (f6 + 256 * f7))))))) {a4 a5 a6 : Nat} (h4 : a4 = a3 + a3 / 256) (h5 : a5 = a4 + a4 / 65536) (h6 : a6 = a5 + a5 / 4294967296) :
    a6 % 128 = f0 + f1 + f2 + f3 + f4 + f5 + f6 + f7 ∧ a4 < 2 ^ 64 ∧ a5 < 2 ^ 64 ∧ a6 < 2 ^ 64 := by
  have q1 : a3 / 256 = f1 + 256 * (f2 + 256 * (f3 + 256 * (f4 + 256 * (f5 + 256 * (f6 + 256 * f7))))) := by
    rw [e, Nat.add_mul_div_left _ _ (by decide), Nat.div_eq_of_lt (by omega), Nat.zero_add]
  have e4 : a4 = ((f0 + f1) + 256 * (f1 + f2)) + 65536 * ((f2 + f3) + 256 * ((f3 + f4) + 256 * ((f4 + f5) + 256 * ((f5 + f6) + 256 * ((f6 + f7) + 256 * f7))))) := by
    rw [h4, q1, e]; clear q1 e h4 h5 h6 g0 g1 g2 g3 g4 g5 g6 g7; omega
  clear h4 q1 e
  have q2 : a4 / 65536 = (f2 + f3) + 256 * ((f3 + f4) + 256 * ((f4 + f5) + 256 * ((f5 + f6) + 256 * ((f6 + f7) + 256 * f7)))) := by
    rw [e4, Nat.add_mul_div_left _ _ (by decide), Nat.div_eq_of_lt (by clear e4 h5 h6; omega), Nat.zero_add]
  have e5 : a5 = ((f0 + f1 + f2 + f3) + 256 * ((f1 + f2 + f3 + f4) + 256 * ((f2 + f3 + f4 + f5) + 256 * (f3 + f4 + f5 + f6)))) + 4294967296 * ((f4 + f5 + f6 + f7) + 256 * ((f5 + f6 + f7) + 256 * ((f6 + f7) + 256 * f7))) := by
    rw [h5, q2, e4]; clear q2 e4 h5 h6 g0 g1 g2 g3 g4 g5 g6 g7; omega
  clear h5 q2
  have q3 : a5 / 4294967296 = (f4 + f5 + f6 + f7) + 256 * ((f5 + f6 + f7) + 256 * ((f6 + f7) + 256 * f7)) := by
    rw [e5, Nat.add_mul_div_left _ _ (by decide), Nat.div_eq_of_lt (by clear e4 e5 h6; omega), Nat.zero_add]
  have e6 : a6 = (f0 + f1 + f2 + f3 + f4 + f5 + f6 + f7) + 128 * (2 * ((f1 + f2 + f3 + f4 + f5 + f6 + f7) + 256 * ((f2 + f3 + f4 + f5 + f6 + f7) + 256 * ((f3 + f4 + f5 + f6 + f7) + 256 * ((f4 + f5 + f6 + f7) + 256 * ((f5 + f6 + f7) + 256 * ((f6 + f7) + 256 * f7))))))) := by
    rw [h6, q3, e5]; clear q3 e4 e5 h6 g0 g1 g2 g3 g4 g5 g6 g7; omega
  clear h6 q3
  refine ⟨?_, ?_, ?_, ?_⟩
  · rw [e6, Nat.add_mul_mod_self_left, Nat.mod_eq_of_lt (by clear e4 e5 e6; omega)]
  · rw [e4]; clear e4 e5 e6; omega
  · rw [e5]; clear e4 e5 e6; omega
  · rw [e6]; clear e4 e5 e6; omega

theorem pop_add {a b : Nat} (h : a ≤ 4919131752989213764) (h2 : b ≤ a) : b + a < 2 ^ 64 := by omega
theorem pop_sum {f0 f1 f2 f3 f4 f5 f6 f7 : Nat} (g0 : f0 ≤ 8) (g1 : f1 ≤ 8) (g2 : f2 ≤ 8) (g3 : f3 ≤ 8) (g4 : f4 ≤ 8) (g5 : f5 ≤ 8) (g6 : f6 ≤ 8) (g7 : f7 ≤ 8) : f0 + f1 + f2 + f3 + f4 + f5 + f6 + f7 ≤ 64 := by omega
set_option maxHeartbeats 2000000 in
/-- The count by halves comes to the number of bits that are set. -/
theorem pop_ok (x : Nat) (h : x < 2 ^ 64) :
    let a1 := (x / 2 ^ 1 &&& 6148914691236517205) + (x &&& 6148914691236517205)
    let a2 := (a1 / 2 ^ 2 &&& 3689348814741910323) + (a1 &&& 3689348814741910323)
    let a3 := (a2 / 2 ^ 4 + a2) &&& 1085102592571150095
    let a4 := a3 + a3 / 2 ^ 8
    let a5 := a4 + a4 / 2 ^ 16
    let a6 := a5 + a5 / 2 ^ 32
    a6 % 128 = (bits x 64).sum ∧ a1 < 2 ^ 64 ∧ a2 < 2 ^ 64 ∧ a2 / 2 ^ 4 + a2 < 2 ^ 64 ∧ a4 < 2 ^ 64 ∧ a5 < 2 ^ 64 ∧ a6 < 2 ^ 64 ∧ (bits x 64).sum ≤ 64 := by
  intro a1 a2 a3 a4 a5 a6
  have hb : (bits x 64).length = 2 * 32 := by simp [bits]
  have hb1 : ∀ y ∈ bits x 64, y ≤ 1 := by
    intro y hy
    obtain ⟨i, _, rfl⟩ := List.mem_map.1 hy
    omega
  have m0 : msk 1 32 = 6148914691236517205 := by decide
  have m1 : msk 2 16 = 3689348814741910323 := by decide
  have m2 : msk 4 8 = 1085102592571150095 := by decide
  have s1 := prs_sum 32 _ hb
  have s2 := prs_sum 16 _ s1.2
  have s3 := prs_sum 8 _ s2.2
  have l1 := prs_le _ hb1
  have l2 := prs_le _ l1
  have l3 := prs_le _ l2
  have e1 : a1 = val 2 (prs (bits x 64)) := by
    have := prs_step (b := 1) 32 (bits x 64) hb (fun y hy => by have := hb1 y hy; omega)
    rw [val_bits 64 x h, m0] at this; exact this
  have e2 : a2 = val 4 (prs (prs (bits x 64))) := by
    have := prs_step (b := 2) 16 _ s1.2 (fun y hy => by have := l1 y hy; omega)
    rw [← e1, m1] at this; exact this
  have e3 : a3 = val 8 (prs (prs (prs (bits x 64)))) := by
    have := prs_step2 (b := 4) 8 _ s2.2 (fun y hy => by have := l2 y hy; omega)
    rw [← e2, m2] at this; exact this
  have b1 := val_lt (b := 2) _ (fun y hy => by have := l1 y hy; omega : ∀ y ∈ prs (bits x 64), y < 2 ^ 2)
  rw [← e1, s1.2] at b1
  have b2 : a2 ≤ 4919131752989213764 := by
    have := val_le (b := 4) (k := 4) _ l2
    rw [s2.2, ← e2] at this
    exact this
  have hs : (prs (prs (prs (bits x 64)))).sum = (bits x 64).sum := by rw [s3.1, s2.1, s1.1]
  generalize prs (prs (prs (bits x 64))) = fs at *
  obtain ⟨hsum, hlen⟩ := s3
  match fs, hlen with
  | [f0, f1, f2, f3, f4, f5, f6, f7], _ =>
    have g0 := l3 f0 (by simp)
    have g1 := l3 f1 (by simp)
    have g2 := l3 f2 (by simp)
    have g3 := l3 f3 (by simp)
    have g4 := l3 f4 (by simp)
    have g5 := l3 f5 (by simp)
    have g6 := l3 f6 (by simp)
    have g7 := l3 f7 (by simp)
    have e3' : a3 = f0 + 256 * (f1 + 256 * (f2 + 256 * (f3 + 256 * (f4 + 256 * (f5 + 256 * (f6 + 256 * f7)))))) := by
      rw [e3]; simp only [val]; rfl
    have z := pop_end g0 g1 g2 g3 g4 g5 g6 g7 e3' (a4 := a4) (a5 := a5) (a6 := a6) rfl rfl rfl
    simp only [List.sum_cons, List.sum_nil] at hs
    have e7 : a2 / 2 ^ 4 ≤ a2 := Nat.div_le_self _ _
    have t1 : f0 + f1 + f2 + f3 + f4 + f5 + f6 + f7 = (bits x 64).sum := by rw [← hs]; simp only [Nat.add_zero, Nat.add_assoc]
    exact ⟨z.1.trans t1, Nat.lt_of_lt_of_le b1 (by decide), Nat.lt_of_le_of_lt b2 (by decide), pop_add b2 e7, z.2.1, z.2.2.1, z.2.2.2, t1 ▸ pop_sum g0 g1 g2 g3 g4 g5 g6 g7⟩
end Go.Fx

/-
  Whole numbers as floats of 64 bits: the plain law.
-/


set_option linter.all false
namespace Go.Fx.Flt
open Go Ieee

abbrev f : Format := Ieee.double
/-- The float of a sign and a whole number below 2^53. -/
def Fz (s : Bool) (N : Nat) : Nat := f.word s (if N = 0 then 0 else (N.log2 + 1022) * 2 ^ 52 + N * 2 ^ (52 - N.log2))
def Fi (n : Int) : Nat := Fz (decide (n < 0)) n.natAbs

theorem fb : f.fractionBits = 52 := rfl
theorem fl : f.leastPlace = -1074 := by decide
theorem fbin : f.binade = 2 ^ 52 := rfl
theorem finf : f.infRung = 2047 * 2 ^ 52 := by decide
theorem fsw : f.signWeight = 2 ^ 63 := by decide

theorem log_bounds {N : Nat} (h : N ≠ 0) : 2 ^ N.log2 ≤ N ∧ N < 2 ^ (N.log2 + 1) := ⟨Nat.log2_self_le h, Nat.lt_log2_self⟩
theorem log_mul {N p : Nat} (h : N ≠ 0) : (N * 2 ^ p).log2 = N.log2 + p := by
  have hp : 0 < 2 ^ p := Nat.two_pow_pos p
  have h0 : N * 2 ^ p ≠ 0 := Nat.mul_ne_zero h (by omega)
  rw [Nat.log2_eq_iff h0]
  obtain ⟨h1, h2⟩ := log_bounds h
  refine ⟨?_, ?_⟩
  · rw [Nat.pow_add]; exact Nat.mul_le_mul_right _ h1
  · rw [show N.log2 + p + 1 = N.log2 + 1 + p by omega, Nat.pow_add]; exact Nat.mul_lt_mul_of_pos_right h2 hp
theorem log_lt {N : Nat} (h : N ≠ 0) (hN : N < 2 ^ 53) : N.log2 ≤ 52 := by
  have := (Nat.log2_lt h).2 hN
  omega
theorem mant {N : Nat} (h : N ≠ 0) (hN : N < 2 ^ 53) : 2 ^ 52 ≤ N * 2 ^ (52 - N.log2) ∧ N * 2 ^ (52 - N.log2) < 2 ^ 53 := by
  have hl := log_lt h hN
  obtain ⟨h1, h2⟩ := log_bounds h
  refine ⟨?_, ?_⟩
  · calc 2 ^ 52 = 2 ^ N.log2 * 2 ^ (52 - N.log2) := by rw [← Nat.pow_add]; congr 1; omega
      _ ≤ _ := Nat.mul_le_mul_right _ h1
  · calc N * 2 ^ (52 - N.log2) < 2 ^ (N.log2 + 1) * 2 ^ (52 - N.log2) := Nat.mul_lt_mul_of_pos_right h2 (Nat.two_pow_pos _)
      _ = 2 ^ 53 := by rw [← Nat.pow_add]; congr 1; omega

theorem read_zero {s : Bool} : f.read (Fz s 0) = .number s 0 (-1074) := by cases s <;> decide
set_option maxRecDepth 4000 in
set_option exponentiation.threshold 2000 in
theorem read_Fz {s : Bool} {N : Nat} (hN : N < 2 ^ 53) : ∃ p : Nat, f.read (Fz s N) = .number s (N * 2 ^ p) (-(p : Int)) ∧ (N ≠ 0 → p ≤ 52) := by
  by_cases h : N = 0
  · subst h
    refine ⟨1074, ?_, fun h => absurd rfl h⟩
    rw [read_zero, Nat.zero_mul]; rfl
  · have hl := log_lt h hN
    obtain ⟨m1, m2⟩ := mant h hN
    refine ⟨52 - N.log2, ?_, fun _ => by omega⟩
    unfold Fz
    rw [if_neg h]
    generalize hM : N * 2 ^ (52 - N.log2) = M at *
    have hr : (N.log2 + 1022) * 2 ^ 52 + M < 2 ^ 63 := by
      have : (N.log2 + 1022) * 2 ^ 52 ≤ 1074 * 2 ^ 52 := Nat.mul_le_mul_right _ (by omega)
      omega
    have hw1 : (f.word s ((N.log2 + 1022) * 2 ^ 52 + M)) / 2 ^ 63 % 2 = if s then 1 else 0 := by
      unfold Format.word
      rw [fsw]
      cases s
      · simp only [Bool.false_eq_true, if_false]; omega
      · simp only [if_true]; omega
    have hw2 : (f.word s ((N.log2 + 1022) * 2 ^ 52 + M)) % 2 ^ 63 = (N.log2 + 1022) * 2 ^ 52 + M := by
      unfold Format.word
      rw [fsw]
      cases s
      · simp only [Bool.false_eq_true, if_false]; omega
      · simp only [if_true]; omega
    unfold Format.read
    simp only [fsw, hw1, hw2, fbin, finf, fl]
    rw [if_neg (by omega), if_pos (by omega)]
    have e1 : ((if s = true then 1 else 0) == 1) = s := by cases s <;> rfl
    have e2 : 2 ^ 52 + ((N.log2 + 1022) * 2 ^ 52 + M) % 2 ^ 52 = M := by omega
    have e3 : ((N.log2 + 1022) * 2 ^ 52 + M) / 2 ^ 52 = N.log2 + 1023 := by omega
    rw [e1, e2, e3]
    have e4 : (-1074 : Int) + ((N.log2 + 1023 - 1 : Nat) : Int) = -((52 - N.log2 : Nat) : Int) := by omega
    rw [e4]

theorem cut_zero (way : Toward) (s : Bool) (n : Nat) : way.cut s n 0 = n := by
  unfold Toward.cut
  simp only [Nat.zero_min, Nat.shiftLeft_zero, Nat.div_one, Nat.mod_one]
  cases way <;> simp
theorem cut_exact (way : Toward) (s : Bool) {N p d : Nat} (h : N ≠ 0) (hd : d ≤ p) : way.cut s (N * 2 ^ p) d = N * 2 ^ (p - d) := by
  unfold Toward.cut
  have hl := log_mul (p := p) h
  have hm : min d ((N * 2 ^ p).log2 + 2) = d := by omega
  simp only [hm, Nat.one_shiftLeft]
  have e : N * 2 ^ p = N * 2 ^ (p - d) * 2 ^ d := by rw [Nat.mul_assoc, ← Nat.pow_add]; congr 2; omega
  rw [e, Nat.mul_div_cancel _ (Nat.two_pow_pos d), Nat.mul_mod_left]
  have hp := Nat.two_pow_pos d
  cases way
  · have h1 : decide (2 ^ d < 2 * 0) = false := by simp
    have h2 : ((2 ^ d : Nat) == 2 * 0) = false := by rw [beq_eq_false_iff_ne]; omega
    simp [h1, h2]
  · simp
  · simp
  · simp

/-- A whole number that the format has is written as it is. -/
theorem nearest_Fz {s : Bool} {N p : Nat} (hN : N < 2 ^ 53) (hp : p ≤ 100000) : f.nearest s (N * 2 ^ p) (-(p : Int)) = Fz s N := by
  unfold Format.nearest Fz
  by_cases h : N = 0
  · subst h; simp
  · have hl := log_lt h hN
    have hpp := Nat.two_pow_pos p
    obtain ⟨m1, m2⟩ := mant h hN
    have h0 : N * 2 ^ p ≠ 0 := Nat.mul_ne_zero h (by omega)
    rw [if_neg h0, if_neg h]
    simp only [log_mul h, fb, fl, fbin, finf]
    have hlast : max (-(p : Int) + ((N.log2 + p : Nat) : Int) - (52 : Nat)) (-1074) = (N.log2 : Int) - 52 := by omega
    rw [hlast]
    have hk : Toward.even.cut s ((N * 2 ^ p) <<< (-(p : Int) - ((N.log2 : Int) - 52)).toNat) (((N.log2 : Int) - 52) - -(p : Int)).toNat = N * 2 ^ (52 - N.log2) := by
      by_cases hc : p ≤ 52 - N.log2
      · rw [show (((N.log2 : Int) - 52) - -(p : Int)).toNat = 0 by omega, cut_zero, Nat.shiftLeft_eq, Nat.mul_assoc, ← Nat.pow_add]
        congr 2; omega
      · rw [show (-(p : Int) - ((N.log2 : Int) - 52)).toNat = 0 by omega, Nat.shiftLeft_zero, show (((N.log2 : Int) - 52) - -(p : Int)).toNat = p - (52 - N.log2) by omega, cut_exact _ _ h (by omega)]
        congr 2; omega
    rw [hk]
    congr 1
    have : ((N.log2 : Int) - 52 - -1074).toNat = N.log2 + 1022 := by omega
    rw [this]
    have : (N.log2 + 1022) * 2 ^ 52 ≤ 1074 * 2 ^ 52 := Nat.mul_le_mul_right _ (by omega)
    omega

theorem ofInt_Fi {n : Int} (h : n.natAbs < 2 ^ 53) : FloatKind.f64.nearest n = Fi n := by
  have := nearest_Fz (s := decide (n < 0)) (p := 0) h (by omega)
  simpa [FloatKind.nearest, FloatKind.encode, Format.write, FloatKind.format, Fi] using this

/-! #### What floats stand for -/
def Z (d : Datum) (s : Bool) (N : Nat) : Prop := ∃ p : Nat, d = .number s (N * 2 ^ p) (-(p : Int)) ∧ p ≤ 1074 ∧ (N ≠ 0 → p ≤ 200)
def sg (s : Bool) (N : Nat) : Int := if s then -(N : Int) else N

set_option exponentiation.threshold 2000 in
theorem Z_Fz {s : Bool} {N : Nat} (hN : N < 2 ^ 53) : Z (f.read (Fz s N)) s N := by
  by_cases h : N = 0
  · subst h
    refine ⟨1074, ?_, by omega, fun h => absurd rfl h⟩
    rw [read_zero, Nat.zero_mul]; rfl
  · obtain ⟨p, h1, h2⟩ := read_Fz (s := s) hN
    have := h2 h
    exact ⟨p, h1, by omega, fun _ => by omega⟩

theorem signed_Z {s : Bool} {N p q : Nat} (h : p ≤ q) : Ieee.signed s (N * 2 ^ p) ((-(p : Int)) - (-(q : Int))).toNat = sg s N * 2 ^ q := by
  have e : ((-(p : Int)) - (-(q : Int))).toNat = q - p := by omega
  unfold Ieee.signed sg
  rw [e, Nat.shiftLeft_eq, Nat.mul_assoc, ← Nat.pow_add, show p + (q - p) = q by omega]
  cases s
  · simp
  · simp [Int.neg_mul]

/-- The order of floats is that of the numbers. -/
theorem order_Z {d e : Datum} {s t : Bool} {N M : Nat} (hd : Z d s N) (he : Z e t M) : d.order e = some (compare (sg s N) (sg t M)) := by
  obtain ⟨p, rfl, _⟩ := hd
  obtain ⟨q, rfl, _⟩ := he
  simp only [Datum.order]
  have key : ∀ r : Nat, min (-(p : Int)) (-(q : Int)) = -(r : Int) → p ≤ r → q ≤ r → compare (Ieee.signed s (N * 2 ^ p) (-(p : Int) - min (-(p : Int)) (-(q : Int))).toNat) (Ieee.signed t (M * 2 ^ q) (-(q : Int) - min (-(p : Int)) (-(q : Int))).toNat) = compare (sg s N) (sg t M) := by
    intro r hr h1 h2
    rw [hr, signed_Z h1, signed_Z h2]
    have hp : (0 : Int) < 2 ^ r := by exact_mod_cast Nat.two_pow_pos r
    generalize sg s N = a
    generalize sg t M = b
    simp only [compare, compareOfLessAndEq]
    have e1 : a * 2 ^ r < b * 2 ^ r ↔ a < b := Int.mul_lt_mul_right hp
    have e2 : a * 2 ^ r = b * 2 ^ r ↔ a = b := ⟨fun h => Int.eq_of_mul_eq_mul_right (by omega) h, fun h => by rw [h]⟩
    simp only [e1, e2]
  by_cases hpq : p ≤ q
  · rw [key q (by omega) hpq (Nat.le_refl _)]
  · rw [key p (by omega) (Nat.le_refl _) (by omega)]

/-- The sum. -/
theorem sum_Z {d e : Datum} {s t : Bool} {N M : Nat} (hd : Z d s N) (he : Z e t M) : ∃ r : Nat, d.sum e = some (.number (if sg s N + sg t M = 0 then s && t else decide (sg s N + sg t M < 0)) ((sg s N + sg t M).natAbs * 2 ^ r) (-(r : Int))) ∧ r ≤ 1074 := by
  obtain ⟨p, rfl, hp1, _⟩ := hd
  obtain ⟨q, rfl, hq1, _⟩ := he
  have key : ∀ r : Nat, min (-(p : Int)) (-(q : Int)) = -(r : Int) → p ≤ r → q ≤ r → r ≤ 1074 → ∃ r : Nat, (Datum.number s (N * 2 ^ p) (-(p : Int))).sum (.number t (M * 2 ^ q) (-(q : Int))) = some (.number (if sg s N + sg t M = 0 then s && t else decide (sg s N + sg t M < 0)) ((sg s N + sg t M).natAbs * 2 ^ r) (-(r : Int))) ∧ r ≤ 1074 := by
    intro r hr h1 h2 h3
    refine ⟨r, ?_, h3⟩
    simp only [Datum.sum]
    rw [hr, signed_Z h1, signed_Z h2, ← Int.add_mul]
    have hp : (0 : Int) < 2 ^ r := by exact_mod_cast Nat.two_pow_pos r
    generalize sg s N + sg t M = a
    have e0 : a * 2 ^ r = 0 ↔ a = 0 := by
      constructor
      · intro h; rcases Int.mul_eq_zero.1 h with h | h
        · exact h
        · omega
      · intro h; rw [h, Int.zero_mul]
    have e1 : a * 2 ^ r < 0 ↔ a < 0 := by
      have : a * 2 ^ r < 0 * 2 ^ r ↔ a < 0 := Int.mul_lt_mul_right hp
      rwa [Int.zero_mul] at this
    have e2 : (a * 2 ^ r).natAbs = a.natAbs * 2 ^ r := by
      rw [Int.natAbs_mul, Int.natAbs_pow]; rfl
    rw [e2]
    by_cases h0 : a = 0
    · simp [h0]
    · rw [if_neg h0, if_neg (fun h => h0 (e0.1 h))]
      congr 2
      simp only [e1]
  by_cases hpq : p ≤ q
  · exact key q (by omega) hpq (Nat.le_refl _) hq1
  · exact key p (by omega) (Nat.le_refl _) (by omega) hp1

/-! #### Which floats are whole -/
theorem word_lt {s : Bool} {r : Nat} (h : r < 2 ^ 63) : f.word s r < 2 ^ 64 ∧ (f.word s r) / 2 ^ 63 % 2 = (if s then 1 else 0) ∧ (f.word s r) % 2 ^ 63 = r := by
  unfold Format.word
  rw [fsw]
  cases s
  · simp only [Bool.false_eq_true, if_false]; omega
  · simp only [if_true]; omega
theorem word_of {b : Nat} (h : b < 2 ^ 64) : b = f.word (b / 2 ^ 63 % 2 == 1) (b % 2 ^ 63) := by
  unfold Format.word
  rw [fsw]
  by_cases hb : b / 2 ^ 63 % 2 = 1
  · rw [hb]; simp; omega
  · have : ((b / 2 ^ 63 % 2) == 1) = false := by rw [beq_eq_false_iff_ne]; exact hb
    rw [this]; simp; omega

/-- What a float's word reads as. -/
theorem read_cases {b : Nat} (h : b < 2 ^ 64) : (∃ s r, r < 2 ^ 52 ∧ b = f.word s r ∧ f.read b = .number s r (-1074)) ∨
    (∃ s E F, 1 ≤ E ∧ E ≤ 2046 ∧ F < 2 ^ 52 ∧ b = f.word s (E * 2 ^ 52 + F) ∧ f.read b = .number s (2 ^ 52 + F) ((E : Int) - 1075)) ∨ (∃ s, f.read b = .infinity s) ∨ ∃ s t, f.read b = .nan s t := by
  have hw := word_of h
  generalize hs : ((b / 2 ^ 63 % 2) == 1) = s at hw
  have hr : b % 2 ^ 63 < 2 ^ 63 := Nat.mod_lt _ (by decide)
  unfold Format.read
  simp only [fsw, fbin, finf, fl, hs]
  by_cases h1 : b % 2 ^ 63 < 2 ^ 52
  · rw [if_pos h1]
    exact .inl ⟨s, _, h1, hw, rfl⟩
  · rw [if_neg h1]
    by_cases h2 : b % 2 ^ 63 < 2047 * 2 ^ 52
    · rw [if_pos h2]
      refine .inr (.inl ⟨s, b % 2 ^ 63 / 2 ^ 52, b % 2 ^ 63 % 2 ^ 52, by omega, by omega, Nat.mod_lt _ (by decide), ?_, ?_⟩)
      · rw [Nat.div_add_mod']; exact hw
      · congr 1; omega
    · rw [if_neg h2]
      by_cases h3 : b % 2 ^ 63 = 2047 * 2 ^ 52
      · rw [if_pos h3]; exact .inr (.inr (.inl ⟨s, rfl⟩))
      · rw [if_neg h3]; exact .inr (.inr (.inr ⟨s, _, rfl⟩))

/-- One word a whole number. -/
theorem canon {b : Nat} {s : Bool} {m d N : Nat} (h : b < 2 ^ 64) (hr : f.read b = .number s m (-(d : Int))) (hm : m = N * 2 ^ d) (hN : N < 2 ^ 53) : b = Fz s N := by
  rcases read_cases h with ⟨s', r, h1, h2, h3⟩ | ⟨s', E, F, h1, h1', h2, h3, h4⟩ | ⟨s', h3⟩ | ⟨s', t, h3⟩
  · rw [h3] at hr
    simp only [Datum.number.injEq] at hr
    obtain ⟨rfl, rfl, hd⟩ := hr
    have hd : d = 1074 := by omega
    have : N = 0 := by
      apply Classical.byContradiction
      intro hn
      have h5 : 2 ^ 52 ≤ 2 ^ d := Nat.pow_le_pow_right (by decide) (by omega)
      have h6 : 1 * 2 ^ d ≤ N * 2 ^ d := Nat.mul_le_mul_right _ (by omega)
      omega
    subst this
    rw [Nat.zero_mul] at hm; subst hm
    rw [h2]; unfold Fz; rw [if_pos rfl]
  · rw [h4] at hr
    simp only [Datum.number.injEq] at hr
    obtain ⟨rfl, rfl, hd⟩ := hr
    have hn : N ≠ 0 := by
      rintro rfl
      rw [Nat.zero_mul] at hm; omega
    have hlog : N.log2 + d = 52 := by
      have e1 := log_mul (p := d) hn
      rw [← hm] at e1
      have e2 : (2 ^ 52 + F).log2 = 52 := (Nat.log2_eq_iff (by omega)).2 ⟨by omega, by omega⟩
      omega
    rw [h3]
    unfold Fz
    rw [if_neg hn, show 52 - N.log2 = d by omega, ← hm]
    have : E * 2 ^ 52 + F = (N.log2 + 1022) * 2 ^ 52 + (2 ^ 52 + F) := by
      have : E = N.log2 + 1023 := by omega
      rw [this, show N.log2 + 1023 = N.log2 + 1022 + 1 from rfl, Nat.add_mul, Nat.one_mul, Nat.add_assoc]
    rw [this]
  · rw [h3] at hr; simp at hr
  · rw [h3] at hr; simp at hr

def geF (a b : Nat) : Bool := f.order a b == some .gt || f.order a b == some .eq
def leF (a b : Nat) : Bool := f.order a b == some .lt || f.order a b == some .eq
def eqF (a b : Nat) : Bool := f.order a b == some .eq
def ltF (a b : Nat) : Bool := f.order a b == some .lt
def gtF (a b : Nat) : Bool := f.order a b == some .gt
def truncF (b : Nat) : Nat := f.write ((f.read b).integral .zero)

theorem order_F {s t : Bool} {N M : Nat} (h1 : N < 2 ^ 53) (h2 : M < 2 ^ 53) : f.order (Fz s N) (Fz t M) = some (compare (sg s N) (sg t M)) := order_Z (Z_Fz h1) (Z_Fz h2)
theorem sg_Fi (n : Int) : sg (decide (n < 0)) n.natAbs = n := by
  unfold sg
  by_cases h : n < 0
  · simp [h]; omega
  · simp [h]; omega
theorem order_Fi {a b : Int} (h1 : a.natAbs < 2 ^ 53) (h2 : b.natAbs < 2 ^ 53) : f.order (Fi a) (Fi b) = some (compare a b) := by
  have := order_F (s := decide (a < 0)) (t := decide (b < 0)) h1 h2
  rw [sg_Fi, sg_Fi] at this; exact this
theorem cmp_gt {a b : Int} : compare a b = .gt ↔ b < a := by
  rw [Int.compare_eq_gt]
theorem cmp_lt {a b : Int} : compare a b = .lt ↔ a < b := by
  rw [Int.compare_eq_lt]
theorem cmp_eq {a b : Int} : compare a b = .eq ↔ a = b := by
  rw [Int.compare_eq_eq]
theorem geF_Fi {a b : Int} (h1 : a.natAbs < 2 ^ 53) (h2 : b.natAbs < 2 ^ 53) : geF (Fi a) (Fi b) = decide (b ≤ a) := by
  unfold geF
  rw [order_Fi h1 h2, Bool.eq_iff_iff]
  simp only [Bool.or_eq_true, beq_iff_eq, Option.some.injEq, cmp_gt, cmp_eq, decide_eq_true_eq]; omega
theorem leF_Fi {a b : Int} (h1 : a.natAbs < 2 ^ 53) (h2 : b.natAbs < 2 ^ 53) : leF (Fi a) (Fi b) = decide (a ≤ b) := by
  unfold leF
  rw [order_Fi h1 h2, Bool.eq_iff_iff]
  simp only [Bool.or_eq_true, beq_iff_eq, Option.some.injEq, cmp_lt, cmp_eq, decide_eq_true_eq]; omega
theorem eqF_Fi {a b : Int} (h1 : a.natAbs < 2 ^ 53) (h2 : b.natAbs < 2 ^ 53) : eqF (Fi a) (Fi b) = decide (a = b) := by
  unfold eqF
  rw [order_Fi h1 h2, Bool.eq_iff_iff]
  simp only [beq_iff_eq, Option.some.injEq, cmp_eq, decide_eq_true_eq]

theorem integral_Z {d : Datum} {s : Bool} {N : Nat} (h : Z d s N) : d.integral .zero = .number s N 0 := by
  obtain ⟨p, rfl, hp1, hp2⟩ := h
  simp only [Datum.integral]
  have e1 : (-(p : Int)).toNat = 0 := by omega
  have e2 : (- -(p : Int)).toNat = p := by omega
  rw [e1, e2, Nat.shiftLeft_zero]
  by_cases hn : N = 0
  · subst hn
    rw [Nat.zero_mul]
    congr 1
    unfold Toward.cut; simp
  · rw [cut_exact _ _ hn (Nat.le_refl _), Nat.sub_self, Nat.pow_zero, Nat.mul_one]
theorem truncF_Fz {s : Bool} {N : Nat} (h : N < 2 ^ 53) : truncF (Fz s N) = Fz s N := by
  unfold truncF
  rw [integral_Z (Z_Fz h)]
  have := nearest_Fz (s := s) (p := 0) h (by omega)
  simpa [Format.write] using this
theorem toInt_F {s : Bool} {N : Nat} (h : N < 2 ^ 53) : (f.read (Fz s N)).toInt .zero = some (sg s N) := by
  unfold Datum.toInt
  rw [integral_Z (Z_Fz h)]
  unfold Ieee.signed sg
  simp
end Go.Fx.Flt

/-
  The floats that are numbers of the program: whole, within the bound, no -0.
-/

set_option linter.all false
namespace Go.Fx.Flt
open Go Ieee

theorem signed_mul {s : Bool} {m k : Nat} : Ieee.signed s m k = sg s (m * 2 ^ k) := by
  unfold Ieee.signed sg
  rw [Nat.shiftLeft_eq]
theorem sg_inj {s : Bool} {a b : Nat} (h : sg s a = sg s b) : a = b := by
  unfold sg at h
  cases s
  · simp only [Bool.false_eq_true, if_false] at h; omega
  · simp only [if_true] at h; omega

theorem order_eq {s : Bool} {m m' d d' : Nat} (h : (Datum.number s m (-(d : Int))).order (.number s m' (-(d' : Int))) = some .eq) : m * 2 ^ d' = m' * 2 ^ d := by
  simp only [Datum.order, Option.some.injEq, cmp_eq] at h
  by_cases hd : d ≤ d'
  · rw [show min (-(d : Int)) (-(d' : Int)) = -(d' : Int) by omega, show (-(d : Int) - -(d' : Int)).toNat = d' - d by omega, show (-(d' : Int) - -(d' : Int)).toNat = 0 by omega, signed_mul, signed_mul] at h
    have := sg_inj h
    rw [Nat.pow_zero, Nat.mul_one] at this
    rw [← this, Nat.mul_assoc, ← Nat.pow_add]
    congr 2; omega
  · rw [show min (-(d : Int)) (-(d' : Int)) = -(d : Int) by omega, show (-(d : Int) - -(d : Int)).toNat = 0 by omega, show (-(d' : Int) - -(d : Int)).toNat = d - d' by omega, signed_mul, signed_mul] at h
    have := sg_inj h
    rw [Nat.pow_zero, Nat.mul_one] at this
    rw [this, Nat.mul_assoc, ← Nat.pow_add]
    congr 2; omega

theorem cut_div {s : Bool} {m d : Nat} (hm : m < 2 ^ 53) : Toward.zero.cut s m d = m / 2 ^ d := by
  unfold Toward.cut
  simp only [Bool.toNat_false, Nat.add_zero, Nat.one_shiftLeft]
  by_cases h : d ≤ m.log2 + 2
  · rw [Nat.min_eq_left h]
  · rw [Nat.min_eq_right (by omega)]
    have h1 : m < 2 ^ (m.log2 + 2) := by
      by_cases h0 : m = 0
      · subst h0; exact Nat.two_pow_pos _
      · have := (log_bounds h0).2
        have h2 : 2 ^ (m.log2 + 1) ≤ 2 ^ (m.log2 + 2) := Nat.pow_le_pow_right (by decide) (by omega)
        omega
    have h2 : 2 ^ (m.log2 + 2) ≤ 2 ^ d := Nat.pow_le_pow_right (by decide) (by omega)
    rw [Nat.div_eq_of_lt h1, Nat.div_eq_of_lt (by omega)]

abbrev cm : Nat := 13938640846711685120
abbrev cM : Nat := 4715268809856909312
theorem cm_Fi : Fi (-16777216) = cm := by decide
theorem cM_Fi : Fi 16777216 = cM := by decide
theorem Fi_0 : Fi 0 = 0 := by decide
theorem read_cM : f.read cM = .number false (2 ^ 52) (-28) := by decide
theorem read_cm : f.read cm = .number true (2 ^ 52) (-28) := by decide

theorem big_out {s : Bool} {m e : Nat} (hm : 2 ^ 52 ≤ m) : (s = false → (Datum.number s m (e : Int)).order (.number false (2 ^ 52) (-28)) = some .gt) ∧ (s = true → (Datum.number s m (e : Int)).order (.number true (2 ^ 52) (-28)) = some .lt) := by
  have hb : min (e : Int) (-28) = -28 := by omega
  have e1 : ((e : Int) - -28).toNat = e + 28 := by omega
  have hp : 2 ^ 28 ≤ 2 ^ (e + 28) := Nat.pow_le_pow_right (by decide) (by omega)
  have h1 : 2 ^ 52 * 2 ^ 28 ≤ m * 2 ^ (e + 28) := Nat.mul_le_mul hm hp
  refine ⟨?_, ?_⟩
  · rintro rfl
    simp only [Datum.order, hb, e1, signed_mul, Option.some.injEq, cmp_gt, sg]
    simp only [Bool.false_eq_true, if_false]
    have : (-28 - -28 : Int).toNat = 0 := by decide
    rw [this]; omega
  · rintro rfl
    simp only [Datum.order, hb, e1, signed_mul, Option.some.injEq, cmp_lt, sg]
    simp only [if_true]
    have : (-28 - -28 : Int).toNat = 0 := by decide
    rw [this]; omega

/-- A float within the bound has a whole part, and is it if it is equal to it. -/
theorem range_int {b : Nat} (hb : b < 2 ^ 64) (h1 : geF b cm = true) (h2 : leF b cM = true) : ∃ s K, K < 2 ^ 53 ∧ (f.read b).integral .zero = .number s K 0 ∧ (eqF b (Fz s K) = true → K ≤ 16777216 ∧ b = Fz s K) := by
  have fin : ∀ s K, b = Fz s K → K < 2 ^ 53 → K ≤ 16777216 := by
    rintro s K rfl hK
    rw [← cm_Fi] at h1; rw [← cM_Fi] at h2
    have o1 := order_F (s := s) (t := true) hK (show (16777216 : Nat) < 2 ^ 53 by decide)
    have o2 := order_F (s := s) (t := false) hK (show (16777216 : Nat) < 2 ^ 53 by decide)
    have f1 : Fi (-16777216) = Fz true 16777216 := rfl
    have f2 : Fi 16777216 = Fz false 16777216 := rfl
    rw [f1] at h1; rw [f2] at h2
    unfold geF at h1
    unfold leF at h2
    rw [o1] at h1; rw [o2] at h2
    simp only [Bool.or_eq_true, beq_iff_eq, Option.some.injEq, cmp_gt, cmp_lt, cmp_eq, sg] at h1 h2
    cases s
    · simp only [Bool.false_eq_true, if_false] at h2; omega
    · simp only [if_true] at h1; omega
  rcases read_cases hb with ⟨s, r, g1, g2, g3⟩ | ⟨s, E, F, g1, g1', g2, g3, g4⟩ | ⟨s, g3⟩ | ⟨s, t, g3⟩
  · have hr : f.read b = .number s r (-((1074 : Nat) : Int)) := g3
    have hi : (f.read b).integral .zero = .number s (r / 2 ^ 1074) 0 := by
      rw [hr]
      simp only [Datum.integral]
      rw [show (-((1074 : Nat) : Int)).toNat = 0 by omega, show (- -((1074 : Nat) : Int)).toNat = 1074 by omega, Nat.shiftLeft_zero, cut_div (by omega)]
    have hK : r / 2 ^ 1074 < 2 ^ 53 := Nat.lt_of_le_of_lt (Nat.div_le_self _ _) (by omega)
    refine ⟨s, _, hK, hi, fun he => ?_⟩
    obtain ⟨p, q1, q2, q3⟩ := Z_Fz (s := s) hK
    unfold eqF Format.order at he
    rw [hr, q1, beq_iff_eq] at he
    have hm := order_eq he
    have hm2 : r = r / 2 ^ 1074 * 2 ^ 1074 := by
      have hp := Nat.two_pow_pos p
      refine Nat.eq_of_mul_eq_mul_right hp ?_
      rw [hm, Nat.mul_assoc, Nat.mul_assoc, Nat.mul_comm (2 ^ p)]
    have hc := canon hb hr hm2 hK
    exact ⟨fin _ _ hc hK, hc⟩
  · by_cases hE : 1075 ≤ E
    · exfalso
      have hbig := big_out (s := s) (m := 2 ^ 52 + F) (e := E - 1075) (by omega)
      have hre : f.read b = .number s (2 ^ 52 + F) ((E - 1075 : Nat) : Int) := by rw [g4]; congr 1; omega
      cases s
      · unfold leF Format.order at h2
        rw [read_cM, hre, hbig.1 rfl] at h2; simp at h2
      · unfold geF Format.order at h1
        rw [read_cm, hre, hbig.2 rfl] at h1; simp at h1
    · obtain ⟨d, hd⟩ : ∃ d : Nat, d = 1075 - E := ⟨_, rfl⟩
      have hr : f.read b = .number s (2 ^ 52 + F) (-(d : Int)) := by rw [g4]; congr 1; omega
      have hi : (f.read b).integral .zero = .number s ((2 ^ 52 + F) / 2 ^ d) 0 := by
        rw [hr]
        simp only [Datum.integral]
        rw [show (-(d : Int)).toNat = 0 by omega, show (- -(d : Int)).toNat = d by omega, Nat.shiftLeft_zero, cut_div (by omega)]
      have hK : (2 ^ 52 + F) / 2 ^ d < 2 ^ 53 := Nat.lt_of_le_of_lt (Nat.div_le_self _ _) (by omega)
      refine ⟨s, _, hK, hi, fun he => ?_⟩
      obtain ⟨p, q1, q2, q3⟩ := Z_Fz (s := s) hK
      unfold eqF Format.order at he
      rw [hr, q1, beq_iff_eq] at he
      have hm := order_eq he
      have hm2 : 2 ^ 52 + F = (2 ^ 52 + F) / 2 ^ d * 2 ^ d := by
        have hp := Nat.two_pow_pos p
        refine Nat.eq_of_mul_eq_mul_right hp ?_
        rw [hm, Nat.mul_assoc, Nat.mul_assoc, Nat.mul_comm (2 ^ p)]
      have hc := canon hb hr hm2 hK
      exact ⟨fin _ _ hc hK, hc⟩
  · exfalso
    cases s
    · unfold leF Format.order at h2
      rw [read_cM, g3] at h2; simp [Datum.order] at h2
    · unfold geF Format.order at h1
      rw [read_cm, g3] at h1; simp [Datum.order] at h1
  · exfalso
    unfold leF Format.order at h2
    rw [g3] at h2; simp [Datum.order] at h2

theorem whole_of {b : Nat} (hb : b < 2 ^ 64) (h1 : geF b cm = true) (h2 : leF b cM = true) (h3 : ∀ s K, K < 2 ^ 53 → (f.read b).integral .zero = .number s K 0 → eqF b (Fz s K) = true) : ∃ s K, K ≤ 16777216 ∧ b = Fz s K :=
  let ⟨s, K, hK, hi, hf⟩ := range_int hb h1 h2
  ⟨s, K, hf (h3 s K hK hi)⟩

theorem Fz_Fi {s : Bool} {K : Nat} (h : K ≠ 0 ∨ s = false) : Fz s K = Fi (sg s K) := by
  unfold Fi
  have h1 : (sg s K).natAbs = K := by unfold sg; cases s <;> simp
  have h2 : decide (sg s K < 0) = s := by
    unfold sg
    cases s
    · simp
    · have : K ≠ 0 := by simpa using h
      simp; omega
  rw [h1, h2]
theorem sg_abs {s : Bool} {K : Nat} : (sg s K).natAbs = K := by unfold sg; cases s <;> simp
theorem Fz_lt {s : Bool} {K : Nat} (h : K < 2 ^ 53) : Fz s K < 2 ^ 64 ∧ (Fz s K < 2 ^ 63 ↔ s = false) := by
  have hr : (if K = 0 then 0 else (K.log2 + 1022) * 2 ^ 52 + K * 2 ^ (52 - K.log2)) < 2 ^ 63 := by
    split
    · decide
    · rename_i h0
      have := log_lt h0 h
      obtain ⟨m1, m2⟩ := mant h0 h
      have : (K.log2 + 1022) * 2 ^ 52 ≤ 1074 * 2 ^ 52 := Nat.mul_le_mul_right _ (by omega)
      omega
  obtain ⟨w1, w2, w3⟩ := word_lt (s := s) hr
  have e : Fz s K = f.word s (if K = 0 then 0 else (K.log2 + 1022) * 2 ^ 52 + K * 2 ^ (52 - K.log2)) := rfl
  rw [← e] at w1 w2
  refine ⟨w1, ?_⟩
  generalize Fz s K = x at *
  cases s
  · simp only [Bool.false_eq_true, if_false] at w2; constructor
    · intro _; rfl
    · intro _; omega
  · simp only [if_true] at w2; constructor
    · intro h; omega
    · intro h; simp at h

/-- The bits of a number of the program's. -/
def Pl (b : Nat) (n : Int) : Prop := b = Fi n ∧ n.natAbs ≤ 16777216

def plainB (b : Nat) : Bool := geF b cm && (leF b cM && (eqF b (truncF b) && (!eqF b 0 || decide (b < 2 ^ 63))))
theorem plainB_yes {b : Nat} {n : Int} (h : Pl b n) : plainB b = true := by
  obtain ⟨rfl, hn⟩ := h
  have h1 : n.natAbs < 2 ^ 53 := by omega
  unfold plainB
  rw [← cm_Fi, ← cM_Fi, geF_Fi h1 (by decide), leF_Fi h1 (by decide)]
  have e0 : eqF (Fi n) 0 = decide (n = 0) := by
    have := eqF_Fi (a := n) (b := 0) h1 (by decide)
    rwa [Fi_0] at this
  have e1 : truncF (Fi n) = Fi n := truncF_Fz h1
  rw [e0, e1, eqF_Fi h1 h1]
  have e2 := (Fz_lt (s := decide (n < 0)) h1).2
  have e3 : (Fi n < 2 ^ 63) ↔ ¬ n < 0 := by
    unfold Fi; rw [e2]; simp
  have e4 : decide (Fi n < 2 ^ 63) = decide (¬ n < 0) := by simp only [e3]
  rw [e4]
  have a1 : decide (-16777216 ≤ n) = true := decide_eq_true (by omega)
  have a2 : decide (n ≤ 16777216) = true := decide_eq_true (by omega)
  rw [a1, a2]
  by_cases h0 : n = 0
  · subst h0; decide
  · simp [h0]
theorem plainB_of {b : Nat} (hb : b < 2 ^ 64) (h : plainB b = true) : ∃ n, Pl b n := by
  unfold plainB at h
  simp only [Bool.and_eq_true, Bool.or_eq_true, Bool.not_eq_true', decide_eq_true_eq] at h
  obtain ⟨h1, h2, h3, h4⟩ := h
  obtain ⟨s, K, hK, rfl⟩ := whole_of hb h1 h2 (fun s K hK hi => by
    unfold truncF at h3
    rw [hi] at h3
    have := nearest_Fz (s := s) (p := 0) hK (by omega)
    simp only [Nat.pow_zero, Nat.mul_one] at this
    have hw : f.write (.number s K 0) = Fz s K := this
    rwa [hw] at h3)
  have hK' : K < 2 ^ 53 := by omega
  refine ⟨sg s K, Fz_Fi ?_, by rw [sg_abs]; exact hK⟩
  by_cases h0 : K = 0
  · right
    rcases h4 with h4 | h4
    · subst h0
      exfalso
      have := order_F (s := s) (t := false) (N := 0) (M := 0) (by decide) (by decide)
      have e0 : Fz false 0 = 0 := by decide
      rw [e0] at this
      unfold eqF at h4
      rw [this] at h4
      unfold sg at h4
      cases s <;> simp [compare, compareOfLessAndEq] at h4
    · exact (Fz_lt hK').2.1 h4
  · exact .inl h0

theorem order_swap (d e : Datum) (h : d.order e = some .eq) : e.order d = some .eq := by
  cases d <;> cases e <;> simp only [Datum.order, Option.some.injEq] at h ⊢ <;> try simp at h
  · rename_i s m i t n j
    try rw [cmp_eq] at h
    rw [cmp_eq, Int.min_comm (j : Int) i]
    exact h.symm
  · split at h <;> simp at h
  · split at h <;> simp at h
  · rename_i s t
    cases s <;> cases t <;> simp_all <;> decide
theorem eqF_swap {a b : Nat} (h : eqF a b = true) : eqF b a = true := by
  unfold eqF Format.order at h ⊢
  rw [beq_iff_eq] at h ⊢
  exact order_swap _ _ h
theorem order_zero (d : Datum) (s t : Bool) (e : Int) : d.order (.number s 0 e) = d.order (.number t 0 e) := by
  have h : ∀ (s : Bool) k, Ieee.signed s 0 k = 0 := fun s k => by unfold Ieee.signed; cases s <;> simp
  cases d <;> simp [Datum.order, h]

/-- The number that a float stands for. -/
def nv (b : Nat) : Int := ((f.read b).toInt .zero).getD 0
theorem nv_Fi {n : Int} (h : n.natAbs < 2 ^ 53) : nv (Fi n) = n := by
  unfold nv Fi
  rw [toInt_F h, Option.getD_some, sg_Fi]
theorem Pl_nv {b : Nat} {n : Int} (h : Pl b n) : nv b = n := by
  obtain ⟨rfl, hn⟩ := h
  exact nv_Fi (by omega)
theorem plain_Pl {b : Nat} (hb : b < 2 ^ 64) (h : plainB b = true) : Pl b (nv b) := by
  obtain ⟨n, hn⟩ := plainB_of hb h
  rw [Pl_nv hn]; exact hn

/-- A float that is no number of the program's, yet in its bounds and no -0: its whole part is another one. -/
theorem part_no {b : Nat} (hb : b < 2 ^ 64) (hp : plainB b = false) (h1 : geF b cm = true) (h2 : leF b cM = true) (h4 : eqF b 0 = true → b = 0) :
    ∃ n : Int, n.natAbs < 2 ^ 53 ∧ (f.read b).toInt .zero = some n ∧ eqF (Fi n) b = false := by
  obtain ⟨s, K, hK, hi, hf⟩ := range_int hb h1 h2
  have ht : (f.read b).toInt .zero = some (sg s K) := by
    unfold Datum.toInt
    rw [hi]
    simp only [signed_mul, Nat.pow_zero, Nat.mul_one]
  refine ⟨sg s K, by rw [sg_abs]; exact hK, ht, ?_⟩
  cases he : eqF (Fi (sg s K)) b with
  | false => rfl
  | true =>
    exfalso
    have he2 := eqF_swap he
    have hc : eqF b (Fz s K) = true := by
      by_cases h0 : K ≠ 0 ∨ s = false
      · rw [Fz_Fi h0]; exact he2
      · have hK0 : K = 0 := by
          apply Classical.byContradiction
          intro h; exact h0 (.inl h)
        subst hK0
        have e1 : sg s 0 = 0 := by unfold sg; cases s <;> simp
        rw [e1] at he2
        unfold eqF Format.order at he2 ⊢
        rw [read_zero, order_zero _ s false]
        have : Fi 0 = Fz false 0 := rfl
        rw [this, read_zero] at he2
        exact he2
    obtain ⟨g1, g2⟩ := hf hc
    have hpl : ∃ n, Pl b n := by
      by_cases h0 : K ≠ 0 ∨ s = false
      · exact ⟨sg s K, g2.trans (Fz_Fi h0), by rw [sg_abs]; exact g1⟩
      · have hK0 : K = 0 := by
          apply Classical.byContradiction
          intro h; exact h0 (.inl h)
        subst hK0
        have : b = 0 := h4 (by
          rw [g2]
          cases s <;> decide)
        exact ⟨0, by rw [this]; decide, by decide⟩
    obtain ⟨n, hn⟩ := hpl
    rw [plainB_yes hn] at hp; simp at hp
end Go.Fx.Flt

/-
  Floats of 64 bits that are whole numbers (either zero is 0): sums, differences, products, exact quotients, comparisons.
-/

set_option linter.all false
namespace Go.Fx.Flt
open Go Ieee
/-- b is the float of the whole number n (either zero for 0). -/
def isW (b : Nat) (n : Int) : Prop := ∃ s N, N < 2 ^ 53 ∧ b = Fz s N ∧ sg s N = n
theorem isW_Fi {n : Int} (h : n.natAbs < 2 ^ 53) : isW (Fi n) n := ⟨_, _, h, rfl, sg_Fi n⟩
theorem isW_zero : isW 0 0 := ⟨false, 0, by decide, by decide, rfl⟩
theorem isW_lt {b : Nat} {n : Int} (h : isW b n) : b < 2 ^ 64 := by
  obtain ⟨s, N, hN, rfl, _⟩ := h
  exact (Fz_lt hN).1
theorem isW_Pl {b : Nat} {n : Int} (h : Pl b n) : isW b n := by
  obtain ⟨rfl, h⟩ := h
  exact isW_Fi (by omega)
theorem Fz_abs {a : Int} {s : Bool} (h : a ≠ 0) : Fz (decide (a < 0)) a.natAbs = Fi a := rfl
theorem sgn_abs {a : Int} : sg (decide (a < 0)) a.natAbs = a := sg_Fi a
theorem add_W {a b : Nat} {n m : Int} (ha : isW a n) (hb : isW b m) (h : (n + m).natAbs < 2 ^ 53) : ∃ r, f.add a b = some r ∧ isW r (n + m) := by
  obtain ⟨s, N, hN, rfl, rfl⟩ := ha
  obtain ⟨t, M, hM, rfl, rfl⟩ := hb
  obtain ⟨r, h1, h2⟩ := sum_Z (Z_Fz (s := s) hN) (Z_Fz (s := t) hM)
  unfold Format.add
  rw [h1]
  refine ⟨_, rfl, if sg s N + sg t M = 0 then s && t else decide (sg s N + sg t M < 0), _, h, ?_, ?_⟩
  · exact nearest_Fz h (by omega)
  · by_cases h0 : sg s N + sg t M = 0
    · rw [h0]; cases s <;> cases t <;> rfl
    · rw [if_neg h0]; exact sgn_abs
/-- With +0 added there is no -0. -/
theorem add_0 {a : Nat} {n : Int} (ha : isW a n) : f.add a 0 = some (Fi n) := by
  obtain ⟨s, N, hN, rfl, rfl⟩ := ha
  have hz : Z (f.read 0) false 0 := by
    have := Z_Fz (s := false) (N := 0) (by decide)
    have e : Fz false 0 = 0 := by decide
    rwa [e] at this
  obtain ⟨r, h1, h2⟩ := sum_Z (Z_Fz (s := s) hN) hz
  have e : sg s N + sg false 0 = sg s N := by simp [sg]
  rw [e] at h1
  unfold Format.add
  rw [h1]
  have h : (sg s N).natAbs < 2 ^ 53 := by rw [sg_abs]; exact hN
  have := nearest_Fz (s := if sg s N = 0 then s && false else decide (sg s N < 0)) h (show r ≤ 100000 by omega)
  show some (f.nearest _ _ _) = _
  rw [this]
  unfold Fi
  congr 2
  by_cases h0 : sg s N = 0
  · rw [if_pos h0, h0]; simp
  · rw [if_neg h0]
theorem opp_Z {d : Datum} {s : Bool} {N : Nat} (h : Z d s N) : Z d.opposite (!s) N := by
  obtain ⟨p, rfl, h1, h2⟩ := h
  exact ⟨p, rfl, h1, h2⟩
theorem sg_not {s : Bool} {N : Nat} : sg (!s) N = - sg s N := by cases s <;> simp [sg]
theorem sub_W {a b : Nat} {n m : Int} (ha : isW a n) (hb : isW b m) (h : (n - m).natAbs < 2 ^ 53) : ∃ r, f.sub a b = some r ∧ isW r (n - m) := by
  obtain ⟨s, N, hN, rfl, rfl⟩ := ha
  obtain ⟨t, M, hM, rfl, rfl⟩ := hb
  obtain ⟨r, h1, h2⟩ := sum_Z (Z_Fz (s := s) hN) (opp_Z (Z_Fz (s := t) hM))
  rw [sg_not, ← Int.sub_eq_add_neg] at h1
  unfold Format.sub
  rw [h1]
  refine ⟨_, rfl, if sg s N - sg t M = 0 then s && !t else decide (sg s N - sg t M < 0), _, h, ?_, ?_⟩
  · exact nearest_Fz h (by omega)
  · by_cases h0 : sg s N - sg t M = 0
    · rw [h0]; cases s <;> cases t <;> rfl
    · rw [if_neg h0]; exact sgn_abs
theorem sg_mul {s t : Bool} {N M : Nat} : sg (s ^^ t) (N * M) = sg s N * sg t M := by
  cases s <;> cases t <;> simp [sg, Int.neg_mul, Int.mul_neg]
theorem mul_W {a b : Nat} {n m : Int} (ha : isW a n) (hb : isW b m) (h : (n * m).natAbs < 2 ^ 53) : ∃ r, f.mul a b = some r ∧ isW r (n * m) := by
  obtain ⟨s, N, hN, rfl, rfl⟩ := ha
  obtain ⟨t, M, hM, rfl, rfl⟩ := hb
  obtain ⟨p, h1, p1, _⟩ := Z_Fz (s := s) hN
  obtain ⟨q, h2, q1, _⟩ := Z_Fz (s := t) hM
  unfold Format.mul
  rw [h1, h2]
  have hNM : N * M < 2 ^ 53 := by rwa [Int.natAbs_mul, sg_abs, sg_abs] at h
  refine ⟨_, rfl, s ^^ t, N * M, hNM, ?_, sg_mul⟩
  show f.nearest (s ^^ t) (N * 2 ^ p * (M * 2 ^ q)) (-(p : Int) + -(q : Int)) = _
  have e : N * 2 ^ p * (M * 2 ^ q) = N * M * 2 ^ (p + q) := by rw [Nat.pow_add]; simp only [Nat.mul_assoc, Nat.mul_left_comm]
  rw [e, show -(p : Int) + -(q : Int) = -((p + q : Nat) : Int) by omega]
  exact nearest_Fz hNM (by omega)
theorem nearest_none {s : Bool} {e : Int} : f.nearest s 0 e = Fz s 0 := by unfold Format.nearest Fz; simp
/-- A quotient that comes out. -/
theorem div_W {a b : Nat} {n m : Int} (ha : isW a (n * m)) (hb : isW b m) (hm : m ≠ 0) : ∃ r, f.div a b = some r ∧ isW r n := by
  obtain ⟨s, N, hN, rfl, h1⟩ := ha
  obtain ⟨t, M, hM, rfl, rfl⟩ := hb
  have hM0 : M ≠ 0 := fun h => hm (by rw [h]; cases t <;> rfl)
  obtain ⟨K, rfl, hK⟩ : ∃ K, N = K * M ∧ K = n.natAbs := ⟨n.natAbs, by
    have := congrArg Int.natAbs h1
    rwa [sg_abs, Int.natAbs_mul, sg_abs] at this, rfl⟩
  have hKl : K < 2 ^ 53 := Nat.lt_of_le_of_lt (Nat.le_mul_of_pos_right K (by omega)) hN
  have hs : K ≠ 0 → sg (s ^^ t) K = n := by
    intro h0
    have h2 : sg (s ^^ t) K * sg t M = n * sg t M := by
      rw [← sg_mul, ← h1]
      congr 1
      cases s <;> cases t <;> rfl
    exact Int.eq_of_mul_eq_mul_right hm h2
  obtain ⟨p, r1, p1, p2⟩ := Z_Fz (s := s) hN
  obtain ⟨q, r2, q1, q2⟩ := Z_Fz (s := t) hM
  have q3 := q2 hM0
  unfold Format.div
  rw [r1, r2]
  have hn0 : M * 2 ^ q ≠ 0 := Nat.mul_ne_zero hM0 (Nat.ne_of_gt (Nat.two_pow_pos q))
  simp only [Datum.quotient, if_neg hn0, Option.map_some]
  refine ⟨_, rfl, s ^^ t, K, hKl, ?_, ?_⟩
  · by_cases h0 : K = 0
    · subst h0
      simp only [Nat.zero_mul, Nat.zero_shiftLeft, Nat.zero_div, Nat.zero_mod]
      exact nearest_none
    · have hKM : K * M ≠ 0 := Nat.mul_ne_zero h0 hM0
      have p3 := p2 hKM
      generalize hmore : f.fractionBits + 2 + (M * 2 ^ q).log2 - (K * M * 2 ^ p).log2 = more
      have hlog : (K * M).log2 ≤ 52 := log_lt hKM hN
      have hlogM : M.log2 ≤ 52 := log_lt hM0 hM
      rw [log_mul hM0, log_mul hKM, fb] at hmore
      have hge : q ≤ p + more := by omega
      have e1 : (K * M * 2 ^ p) <<< more = K * 2 ^ (p + more - q) * (M * 2 ^ q) := by
        rw [Nat.shiftLeft_eq, Nat.mul_assoc, ← Nat.pow_add]
        have : 2 ^ (p + more) = 2 ^ (p + more - q) * 2 ^ q := by rw [← Nat.pow_add]; congr 1; omega
        rw [this]; simp only [Nat.mul_assoc, Nat.mul_left_comm]
      have hpos : 0 < M * 2 ^ q := Nat.pos_of_ne_zero hn0
      rw [e1, Nat.mul_div_cancel _ hpos, Nat.mul_mod_left]
      have e2 : 2 * (K * 2 ^ (p + more - q)) + (0 != 0).toNat = K * 2 ^ (p + more - q + 1) := by
        rw [Nat.pow_succ]; simp only [bne_self_eq_false, Bool.toNat_false, Nat.add_zero]
        rw [Nat.mul_comm 2, Nat.mul_assoc]
      rw [e2]
      have e3 : -(p : Int) - -(q : Int) - (more : Int) - 1 = -((p + more - q + 1 : Nat) : Int) := by omega
      rw [e3]
      exact nearest_Fz hKl (by omega)
  · by_cases h0 : K = 0
    · have : n = 0 := by omega
      rw [this, h0]; cases s <;> cases t <;> rfl
    · exact hs h0
theorem order_W {a b : Nat} {n m : Int} (ha : isW a n) (hb : isW b m) : f.order a b = some (compare n m) := by
  obtain ⟨s, N, hN, rfl, rfl⟩ := ha
  obtain ⟨t, M, hM, rfl, rfl⟩ := hb
  exact order_F hN hM
theorem eqF_W {a b : Nat} {n m : Int} (ha : isW a n) (hb : isW b m) : eqF a b = decide (n = m) := by
  unfold eqF; rw [order_W ha hb]
  by_cases h : n = m
  · rw [cmp_eq.2 h]; simp [h]
  · have : compare n m ≠ .eq := fun h2 => h (cmp_eq.1 h2)
    cases h2 : compare n m <;> simp_all
theorem ltF_W {a b : Nat} {n m : Int} (ha : isW a n) (hb : isW b m) : ltF a b = decide (n < m) := by
  unfold ltF; rw [order_W ha hb]
  by_cases h : n < m
  · rw [cmp_lt.2 h]; simp [h]
  · have : compare n m ≠ .lt := fun h2 => h (cmp_lt.1 h2)
    cases h2 : compare n m <;> simp_all
theorem geF_W {a b : Nat} {n m : Int} (ha : isW a n) (hb : isW b m) : geF a b = decide (m ≤ n) := by
  unfold geF; rw [order_W ha hb]
  rcases Int.lt_trichotomy n m with h | h | h
  · rw [cmp_lt.2 h]; simp; omega
  · rw [cmp_eq.2 h]; simp; omega
  · rw [cmp_gt.2 h]; simp; omega
end Go.Fx.Flt

/-
  Floats of 64 bits that are whole numbers above 0: their bits, mantissas; powers of two times them.
-/


set_option linter.all false
namespace Go.Fx.Flt
open Go Ieee
def mN (N : Nat) : Nat := N * 2 ^ (52 - N.log2)
theorem mN_b {N : Nat} (h : N ≠ 0) (hN : N < 2 ^ 53) : 2 ^ 52 ≤ mN N ∧ mN N < 2 ^ 53 := mant h hN
theorem Fz_pos {N : Nat} (h : N ≠ 0) : Fz false N = (N.log2 + 1022) * 2 ^ 52 + mN N := by
  unfold Fz Format.word mN; rw [if_neg h]; rfl
def fracF (N : Nat) : Nat := 1021 * 2 ^ 52 + mN N
theorem read_frac {m : Nat} (h1 : 2 ^ 52 ≤ m) (h2 : m < 2 ^ 53) : f.read (1021 * 2 ^ 52 + m) = .number false m (-53) := by
  unfold Format.read
  simp only [fsw, fbin, finf, fl]
  have w1 : (1021 * 2 ^ 52 + m) / 2 ^ 63 % 2 = 0 := by omega
  have w2 : (1021 * 2 ^ 52 + m) % 2 ^ 63 = 1021 * 2 ^ 52 + m := by omega
  rw [w1, w2, if_neg (by omega), if_pos (by omega)]
  have e2 : 2 ^ 52 + (1021 * 2 ^ 52 + m) % 2 ^ 52 = m := by omega
  have e3 : (1021 * 2 ^ 52 + m) / 2 ^ 52 = 1022 := by omega
  rw [e2, e3]
  rfl
theorem ltF_frac {N M : Nat} (h : N ≠ 0) (hN : N < 2 ^ 53) (k : M ≠ 0) (hM : M < 2 ^ 53) : ltF (fracF N) (fracF M) = decide (mN N < mN M) := by
  unfold ltF Format.order fracF
  rw [read_frac (mN_b h hN).1 (mN_b h hN).2, read_frac (mN_b k hM).1 (mN_b k hM).2]
  simp only [Datum.order, Int.min_self, Int.sub_self]
  have : (0 : Int).toNat = 0 := rfl
  simp only [this, Ieee.signed, Nat.shiftLeft_zero, Bool.false_eq_true, if_false]
  by_cases hlt : mN N < mN M
  · have : compare ((mN N : Nat) : Int) ((mN M : Nat) : Int) = .lt := cmp_lt.2 (by omega)
    rw [this]; simp [hlt]
  · have : compare ((mN N : Nat) : Int) ((mN M : Nat) : Int) ≠ .lt := fun h => hlt (by have := cmp_lt.1 h; omega)
    cases h2 : compare ((mN N : Nat) : Int) ((mN M : Nat) : Int) <;> simp_all
/-- Times a power of two. -/
theorem Fz_shl {N k : Nat} (h : N ≠ 0) (hk : N * 2 ^ k < 2 ^ 53) : Fz false (N * 2 ^ k) = (N.log2 + k + 1022) * 2 ^ 52 + mN N := by
  have h0 : N * 2 ^ k ≠ 0 := Nat.mul_ne_zero h (Nat.ne_of_gt (Nat.two_pow_pos k))
  rw [Fz_pos h0]
  have hl := log_lt h0 hk
  unfold mN
  rw [log_mul h] at hl ⊢
  congr 1
  rw [Nat.mul_assoc, ← Nat.pow_add]
  congr 2
  omega
theorem isW_pos {b : Nat} {n : Int} (h : isW b n) (hn : n ≠ 0) : b = Fi n := by
  obtain ⟨s, N, hN, rfl, rfl⟩ := h
  refine Fz_Fi (.inl fun h0 => hn ?_)
  rw [h0]; cases s <;> rfl
theorem Fi_nat (N : Nat) : Fi (N : Int) = Fz false N := by unfold Fi; congr 1
/-- No whole number is above the greatest float. -/
theorem order_top {s : Bool} {N : Nat} (hN : N < 2 ^ 53) : gtF (Fz false N) 9218868437227405311 = false := by
  obtain ⟨p, h1, p1, _⟩ := Z_Fz (s := false) hN
  have h2 : f.read 9218868437227405311 = .number false (2 ^ 53 - 1) 971 := by decide
  unfold gtF Format.order
  rw [h1, h2]
  simp only [Datum.order]
  have hb : min (-(p : Int)) 971 = -(p : Int) := by omega
  rw [hb, show (-(p : Int) - -(p : Int)).toNat = 0 by omega, show ((971 : Int) - -(p : Int)).toNat = 971 + p by omega]
  simp only [signed_mul, sg, Bool.false_eq_true, if_false, Nat.pow_zero, Nat.mul_one]
  have hle : N * 2 ^ p ≤ (2 ^ 53 - 1) * 2 ^ (971 + p) := Nat.mul_le_mul (by omega) (Nat.pow_le_pow_right (by decide) (by omega))
  generalize N * 2 ^ p = a at *
  generalize (2 ^ 53 - 1) * 2 ^ (971 + p) = c at *
  cases h3 : compare (a : Int) (c : Int)
  · simp
  · simp
  · have := cmp_gt.1 h3; omega
/-- A whole number above 0 is no less than the least normal float. -/
theorem order_least {N : Nat} (h : N ≠ 0) (hN : N < 2 ^ 53) : ltF (Fz false N) 4503599627370496 = false := by
  obtain ⟨p, h1, p1, _⟩ := Z_Fz (s := false) hN
  have h2 : f.read 4503599627370496 = .number false (2 ^ 52) (-1074) := by decide
  unfold ltF Format.order
  rw [h1, h2]
  simp only [Datum.order]
  have hb : min (-(p : Int)) (-1074) = -1074 := by omega
  rw [hb, show (-(p : Int) - -1074).toNat = 1074 - p by omega, show ((-1074 : Int) - -1074).toNat = 0 by decide]
  simp only [signed_mul, sg, Bool.false_eq_true, if_false, Nat.pow_zero, Nat.mul_one]
  have hle : 2 ^ 52 ≤ N * 2 ^ p * 2 ^ (1074 - p) := by
    rw [Nat.mul_assoc, ← Nat.pow_add]
    calc 2 ^ 52 ≤ 2 ^ (p + (1074 - p)) := Nat.pow_le_pow_right (by decide) (by omega)
      _ ≤ N * 2 ^ (p + (1074 - p)) := Nat.le_mul_of_pos_left _ (by omega)
  generalize N * 2 ^ p * 2 ^ (1074 - p) = a at *
  cases h3 : compare (a : Int) ((2 ^ 52 : Nat) : Int)
  · have := cmp_lt.1 h3; omega
  · simp
  · simp
theorem Fz_mod {s : Bool} {N : Nat} (h : N < 2 ^ 53) : Fz s N % 2 ^ 63 = Fz false N := by
  have h1 := (Fz_lt (s := false) h).2.2 rfl
  cases s
  · exact Nat.mod_eq_of_lt h1
  · have h2 : Fz true N = 2 ^ 63 + Fz false N := by unfold Fz Format.word; rw [fsw]; rfl
    rw [h2]; omega
end Go.Fx.Flt
namespace Go.Fx
open Go
theorem bt_exp : ∀ i, i < 64 → Nat.testBit 9218868437227405312 i = (decide (52 ≤ i) && decide (i < 63)) := by decide
theorem bt_sgn : ∀ i, i < 64 → Nat.testBit 9223372036854775808 i = decide (i = 63) := by decide
theorem bt_natc (x : Nat) (i : Nat) : bt (x : Int) i = x.testBit i := by unfold bt; rw [Int.toNat_natCast]
theorem bClr_exp {x : Nat} (h : x < 2 ^ 63) : bClr .u64 (x : Int) 9218868437227405312 = ((x % 2 ^ 52 : Nat) : Int) := by
  have h1 : W64 (x : Int) := ⟨by omega, by omega⟩
  have h2 : W64 (9218868437227405312 : Int) := ⟨by decide, by decide⟩
  refine W_ext W_clr ⟨by omega, by omega⟩ fun i hi => ?_
  rw [bt_clr h1 h2 hi, bt_natc, bt_natc, Nat.testBit_mod_two_pow]
  have e : bt (9218868437227405312 : Int) i = (decide (52 ≤ i) && decide (i < 63)) := bt_exp i hi
  rw [e]
  by_cases h63 : i = 63
  · subst h63; rw [Nat.testBit_lt_two_pow h]; simp
  · by_cases h52 : i < 52
    · have : ¬ 52 ≤ i := by omega
      simp [h52, this]
    · have h3 : 52 ≤ i := by omega
      have h4 : i < 63 := by omega
      simp [h52, h3, h4]
theorem bClr_sgn {x : Nat} (h : x < 2 ^ 64) : bClr .u64 (x : Int) 9223372036854775808 = ((x % 2 ^ 63 : Nat) : Int) := by
  have h1 : W64 (x : Int) := ⟨by omega, by omega⟩
  have h2 : W64 (9223372036854775808 : Int) := ⟨by decide, by decide⟩
  refine W_ext W_clr ⟨by omega, by omega⟩ fun i hi => ?_
  rw [bt_clr h1 h2 hi, bt_natc, bt_natc, Nat.testBit_mod_two_pow]
  have e : bt (9223372036854775808 : Int) i = decide (i = 63) := bt_sgn i hi
  rw [e]
  by_cases h63 : i = 63
  · subst h63; simp
  · have : i < 63 := by omega
    simp [h63, this]
theorem bAnd_i64 {x : Nat} (h : x < 2048) : bAnd .i64 (x : Int) 2047 = (x : Int) := by
  show IntKind.i64.wrap (((BitVec.ofInt 64 (x : Int) &&& BitVec.ofInt 64 2047).toNat : Nat) : Int) = _
  rw [BitVec.toNat_and, BitVec.toNat_ofInt, BitVec.toNat_ofInt]
  have e1 : ((x : Int) % ((2 ^ 64 : Nat) : Int)).toNat = x := by omega
  have e2 : ((2047 : Int) % ((2 ^ 64 : Nat) : Int)).toNat = 2 ^ 11 - 1 := by decide
  rw [e1, e2, Nat.and_two_pow_sub_one_eq_mod, Nat.mod_eq_of_lt (by omega), wr64 (by omega) (by omega)]
end Go.Fx

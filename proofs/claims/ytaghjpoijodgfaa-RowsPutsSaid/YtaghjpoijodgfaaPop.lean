/-
  How many bits of a word are set, by halves.
-/
import Derived.Test.YtaghjpoijodgfaaBits
set_option linter.all false
namespace Go.Fx
open Go
theorem and_nat {a b : Nat} (ha : a < 2 ^ 64) (hb : b < 2 ^ 64) : bAnd .u64 (a : Int) (b : Int) = ((a &&& b : Nat) : Int) := by
  rw [and_eq]
  unfold bv
  rw [BitVec.toNat_and, BitVec.toNat_ofInt, BitVec.toNat_ofInt]
  have e1 : ((a : Int) % ((2 ^ 64 : Nat) : Int)).toNat = a := by omega
  have e2 : ((b : Int) % ((2 ^ 64 : Nat) : Int)).toNat = b := by omega
  rw [e1, e2]
theorem shr_nat {a k : Nat} (hk : k ≤ 64) : bShr .u64 (a : Int) (k : Int) = ((a / 2 ^ k : Nat) : Int) := by
  rw [shr_nonneg _ _ rfl (by simpa [IntKind.bits] using hk)]
  simp

def val (b : Nat) : List Nat → Nat
  | [] => 0
  | x :: xs => x + 2 ^ b * val b xs
def prs : List Nat → List Nat
  | x :: y :: r => (x + y) :: prs r
  | _ => []
def msk (b : Nat) : Nat → Nat
  | 0 => 0
  | n + 1 => (2 ^ b - 1) + 2 ^ (2 * b) * msk b n

theorem and_block {a b m c k : Nat} (ha : a < 2 ^ k) (hm : m < 2 ^ k) : (a + 2 ^ k * b) &&& (m + 2 ^ k * c) = (a &&& m) + 2 ^ k * (b &&& c) := by
  apply Nat.eq_of_testBit_eq
  intro i
  have ham : a &&& m < 2 ^ k := Nat.lt_of_le_of_lt Nat.and_le_left ha
  rw [Nat.testBit_and, Nat.add_comm a, Nat.add_comm m, Nat.add_comm (a &&& m), Nat.testBit_two_pow_mul_add _ ha, Nat.testBit_two_pow_mul_add _ hm, Nat.testBit_two_pow_mul_add _ ham]
  split <;> simp [Nat.testBit_and]

theorem val_lt {b : Nat} : ∀ (xs : List Nat), (∀ x ∈ xs, x < 2 ^ b) → val b xs < 2 ^ (b * xs.length)
  | [], _ => by simp [val]
  | x :: xs, h => by
    have ih := val_lt xs fun y hy => h y (by simp [hy])
    have h0 := h x (by simp)
    simp only [val, List.length_cons, Nat.mul_succ, Nat.pow_add]
    have : 2 ^ b * val b xs + 2 ^ b ≤ 2 ^ b * 2 ^ (b * xs.length) := by
      rw [← Nat.mul_succ]; exact Nat.mul_le_mul_left _ ih
    rw [Nat.mul_comm (2 ^ (b * xs.length))]; omega

theorem prs_step {b : Nat} : ∀ (n : Nat) (xs : List Nat), xs.length = 2 * n → (∀ x ∈ xs, x < 2 ^ b) → (val b xs / 2 ^ b &&& msk b n) + (val b xs &&& msk b n) = val (2 * b) (prs xs)
  | 0, xs, hl, _ => by
    have : xs = [] := List.eq_nil_of_length_eq_zero (by simpa using hl)
    subst this; simp [val, prs, msk]
  | n + 1, [], hl, _ => by simp at hl
  | n + 1, [_], hl, _ => by simp at hl; omega
  | n + 1, x :: y :: r, hl, h => by
    have ih := prs_step n r (by simp at hl; omega) fun z hz => h z (by simp [hz])
    have hx := h x (by simp)
    have hy := h y (by simp)
    have hp : 0 < 2 ^ b := Nat.pow_pos (by decide)
    have h2 : 2 ^ (2 * b) = 2 ^ b * 2 ^ b := by rw [Nat.two_mul, Nat.pow_add]
    have e1 : val b (x :: y :: r) = (x + 2 ^ b * y) + 2 ^ (2 * b) * val b r := by
      simp only [val, h2, Nat.mul_add, Nat.mul_assoc]; omega
    have hxy : x + 2 ^ b * y < 2 ^ (2 * b) := by
      rw [h2]
      have : 2 ^ b * y + 2 ^ b ≤ 2 ^ b * 2 ^ b := by rw [← Nat.mul_succ]; exact Nat.mul_le_mul_left _ hy
      omega
    have e2 : val b (x :: y :: r) / 2 ^ b = (y + 2 ^ b * (val b r % 2 ^ b)) + 2 ^ (2 * b) * (val b r / 2 ^ b) := by
      have : val b (x :: y :: r) = x + 2 ^ b * (y + 2 ^ b * val b r) := rfl
      rw [this, Nat.add_mul_div_left _ _ hp, Nat.div_eq_of_lt hx, Nat.zero_add, h2]
      have := Nat.mod_add_div (val b r) (2 ^ b)
      conv => lhs; rw [← this]
      rw [Nat.mul_add, Nat.mul_assoc, Nat.add_assoc]
    have hyv : y + 2 ^ b * (val b r % 2 ^ b) < 2 ^ (2 * b) := by
      rw [h2]
      have hv := Nat.mod_lt (val b r) hp
      have : 2 ^ b * (val b r % 2 ^ b) + 2 ^ b ≤ 2 ^ b * 2 ^ b := by rw [← Nat.mul_succ]; exact Nat.mul_le_mul_left _ hv
      omega
    have hM : 2 ^ b - 1 < 2 ^ (2 * b) := by
      rw [h2]
      have : 2 ^ b * 1 ≤ 2 ^ b * 2 ^ b := Nat.mul_le_mul_left _ hp
      omega
    simp only [msk]
    rw [e2, e1, and_block hyv hM, and_block hxy hM, Nat.and_two_pow_sub_one_eq_mod, Nat.and_two_pow_sub_one_eq_mod, Nat.add_mul_mod_self_left, Nat.add_mul_mod_self_left, Nat.mod_eq_of_lt hx, Nat.mod_eq_of_lt hy]
    simp only [prs, val]
    rw [← ih, Nat.mul_add]
    omega

theorem prs_step2 {b : Nat} : ∀ (n : Nat) (xs : List Nat), xs.length = 2 * n → (∀ x ∈ xs, 2 * x < 2 ^ b) → (val b xs / 2 ^ b + val b xs) &&& msk b n = val (2 * b) (prs xs)
  | 0, xs, hl, _ => by
    have : xs = [] := List.eq_nil_of_length_eq_zero (by simpa using hl)
    subst this; simp [val, prs, msk]
  | n + 1, [], hl, _ => by simp at hl
  | n + 1, [_], hl, _ => by simp at hl; omega
  | n + 1, x :: y :: r, hl, h => by
    have ih := prs_step2 n r (by simp at hl; omega) fun z hz => h z (by simp [hz])
    have hx := h x (by simp)
    have hy := h y (by simp)
    have hp : 0 < 2 ^ b := Nat.pow_pos (by decide)
    have h2 : 2 ^ (2 * b) = 2 ^ b * 2 ^ b := by rw [Nat.two_mul, Nat.pow_add]
    have hr0 : 2 * (val b r % 2 ^ b) < 2 ^ b ∨ val b r % 2 ^ b = 0 := by
      cases r with
      | nil => right; simp [val]
      | cons z r =>
        left
        have hz := h z (by simp)
        simp only [val]
        rw [Nat.add_mul_mod_self_left, Nat.mod_eq_of_lt (by omega)]
        exact hz
    have e : val b (x :: y :: r) / 2 ^ b + val b (x :: y :: r) = ((x + y) + 2 ^ b * (val b r % 2 ^ b + y)) + 2 ^ (2 * b) * (val b r / 2 ^ b + val b r) := by
      have e0 : val b (x :: y :: r) = x + 2 ^ b * (y + 2 ^ b * val b r) := rfl
      rw [e0, Nat.add_mul_div_left _ _ hp, Nat.div_eq_of_lt (by omega), Nat.zero_add, h2]
      have := Nat.mod_add_div (val b r) (2 ^ b)
      have e3 : 2 ^ b * val b r = 2 ^ b * (val b r % 2 ^ b) + 2 ^ b * 2 ^ b * (val b r / 2 ^ b) := by
        conv => lhs; rw [← this]
        rw [Nat.mul_add, Nat.mul_assoc]
      simp only [Nat.mul_add, ← Nat.mul_assoc] at *
      omega
    have hlow : (x + y) + 2 ^ b * (val b r % 2 ^ b + y) < 2 ^ (2 * b) := by
      rw [h2]
      have hs : val b r % 2 ^ b + y < 2 ^ b := by omega
      have : 2 ^ b * (val b r % 2 ^ b + y) + 2 ^ b ≤ 2 ^ b * 2 ^ b := by rw [← Nat.mul_succ]; exact Nat.mul_le_mul_left _ hs
      omega
    have hM : 2 ^ b - 1 < 2 ^ (2 * b) := by
      rw [h2]
      have : 2 ^ b * 1 ≤ 2 ^ b * 2 ^ b := Nat.mul_le_mul_left _ hp
      omega
    simp only [msk]
    rw [e, and_block hlow hM, Nat.and_two_pow_sub_one_eq_mod, Nat.add_mul_mod_self_left, Nat.mod_eq_of_lt (by omega : x + y < 2 ^ b), ih]
    rfl

theorem prs_sum : ∀ (n : Nat) (xs : List Nat), xs.length = 2 * n → (prs xs).sum = xs.sum ∧ (prs xs).length = n
  | 0, xs, hl => by
    have : xs = [] := List.eq_nil_of_length_eq_zero (by simpa using hl)
    subst this; simp [prs]
  | n + 1, [], hl => by simp at hl
  | n + 1, [_], hl => by simp at hl; omega
  | n + 1, x :: y :: r, hl => by
    have ih := prs_sum n r (by simp at hl; omega)
    simp only [prs, List.sum_cons, List.length_cons, ih.1, ih.2]
    exact ⟨by omega, trivial⟩
theorem prs_le {k : Nat} : ∀ (xs : List Nat), (∀ x ∈ xs, x ≤ k) → ∀ x ∈ prs xs, x ≤ 2 * k
  | [], _, x, hx => by simp [prs] at hx
  | [_], _, x, hx => by simp [prs] at hx
  | a :: b :: r, h, x, hx => by
    simp only [prs, List.mem_cons] at hx
    have ha := h a (by simp)
    have hb := h b (by simp)
    rcases hx with rfl | hx
    · omega
    · exact prs_le r (fun z hz => h z (by simp [hz])) x hx

def bits (x : Nat) (n : Nat) : List Nat := (List.range n).map fun i => x / 2 ^ i % 2
theorem val_bits : ∀ (n x : Nat), x < 2 ^ n → val 1 (bits x n) = x
  | 0, x, h => by simp [bits, val]; omega
  | n + 1, x, h => by
    have ih := val_bits n (x / 2) (by rw [Nat.pow_succ] at h; omega)
    unfold bits at ih ⊢
    rw [List.range_succ_eq_map, List.map_cons, List.map_map]
    have : ((fun i => x / 2 ^ i % 2) ∘ Nat.succ) = fun i => x / 2 / 2 ^ i % 2 := by
      funext i
      simp only [Function.comp, Nat.succ_eq_add_one]
      rw [Nat.pow_succ, Nat.mul_comm, Nat.div_div_eq_div_mul]
    simp only [val, this, ih, Nat.pow_zero, Nat.div_one]
    omega

theorem val_le {b k : Nat} : ∀ (xs : List Nat), (∀ x ∈ xs, x ≤ k) → val b xs ≤ k * val b (List.replicate xs.length 1)
  | [], _ => by simp [val]
  | x :: xs, h => by
    have ih := val_le (b := b) xs fun y hy => h y (by simp [hy])
    have h0 := h x (by simp)
    simp only [val, List.length_cons, List.replicate_succ, Nat.mul_add, Nat.mul_one]
    have : 2 ^ b * val b xs ≤ 2 ^ b * (k * val b (List.replicate xs.length 1)) := Nat.mul_le_mul_left _ ih
    rw [Nat.mul_left_comm k]; omega

theorem pop_end {f0 f1 f2 f3 f4 f5 f6 f7 a3 : Nat} (g0 : f0 ≤ 8) (g1 : f1 ≤ 8) (g2 : f2 ≤ 8) (g3 : f3 ≤ 8) (g4 : f4 ≤ 8) (g5 : f5 ≤ 8) (g6 : f6 ≤ 8) (g7 : f7 ≤ 8)
    (e : a3 = f0 + 256 * (f1 + 256 * (f2 + 256 * (f3 + 256 * (f4 + 256 * (f5 + 256 * (f6 + 256 * f7))))))) {a4 a5 a6 : Nat} (h4 : a4 = a3 + a3 / 256) (h5 : a5 = a4 + a4 / 65536) (h6 : a6 = a5 + a5 / 4294967296) :
    a6 % 128 = f0 + f1 + f2 + f3 + f4 + f5 + f6 + f7 ∧ a4 < 2 ^ 64 ∧ a5 < 2 ^ 64 ∧ a6 < 2 ^ 64 := by
  have q1 : a3 / 256 = f1 + 256 * (f2 + 256 * (f3 + 256 * (f4 + 256 * (f5 + 256 * (f6 + 256 * f7))))) := by
    rw [e, Nat.add_mul_div_left _ _ (by decide), Nat.div_eq_of_lt (by omega), Nat.zero_add]
  have e4 : a4 = ((f0 + f1) + 256 * (f1 + f2)) + 65536 * ((f2 + f3) + 256 * ((f3 + f4) + 256 * ((f4 + f5) + 256 * ((f5 + f6) + 256 * ((f6 + f7) + 256 * f7))))) := by
    rw [h4, q1, e]; clear q1 e h4 h5 h6 g0 g1 g2 g3 g4 g5 g6 g7; omega
  clear h4 q1 e
  have q2 : a4 / 65536 = (f2 + f3) + 256 * ((f3 + f4) + 256 * ((f4 + f5) + 256 * ((f5 + f6) + 256 * ((f6 + f7) + 256 * f7)))) := by
    rw [e4, Nat.add_mul_div_left _ _ (by decide), Nat.div_eq_of_lt (by clear e4 h5 h6; omega), Nat.zero_add]
  have e5 : a5 = ((f0 + f1 + f2 + f3) + 256 * ((f1 + f2 + f3 + f4) + 256 * ((f2 + f3 + f4 + f5) + 256 * (f3 + f4 + f5 + f6)))) + 4294967296 * ((f4 + f5 + f6 + f7) + 256 * ((f5 + f6 + f7) + 256 * ((f6 + f7) + 256 * f7))) := by
    rw [h5, q2, e4]; clear q2 e4 h5 h6 g0 g1 g2 g3 g4 g5 g6 g7; omega
  clear h5 q2
  have q3 : a5 / 4294967296 = (f4 + f5 + f6 + f7) + 256 * ((f5 + f6 + f7) + 256 * ((f6 + f7) + 256 * f7)) := by
    rw [e5, Nat.add_mul_div_left _ _ (by decide), Nat.div_eq_of_lt (by clear e4 e5 h6; omega), Nat.zero_add]
  have e6 : a6 = (f0 + f1 + f2 + f3 + f4 + f5 + f6 + f7) + 128 * (2 * ((f1 + f2 + f3 + f4 + f5 + f6 + f7) + 256 * ((f2 + f3 + f4 + f5 + f6 + f7) + 256 * ((f3 + f4 + f5 + f6 + f7) + 256 * ((f4 + f5 + f6 + f7) + 256 * ((f5 + f6 + f7) + 256 * ((f6 + f7) + 256 * f7))))))) := by
    rw [h6, q3, e5]; clear q3 e4 e5 h6 g0 g1 g2 g3 g4 g5 g6 g7; omega
  clear h6 q3
  refine ⟨?_, ?_, ?_, ?_⟩
  · rw [e6, Nat.add_mul_mod_self_left, Nat.mod_eq_of_lt (by clear e4 e5 e6; omega)]
  · rw [e4]; clear e4 e5 e6; omega
  · rw [e5]; clear e4 e5 e6; omega
  · rw [e6]; clear e4 e5 e6; omega

theorem pop_add {a b : Nat} (h : a ≤ 4919131752989213764) (h2 : b ≤ a) : b + a < 2 ^ 64 := by omega
theorem pop_sum {f0 f1 f2 f3 f4 f5 f6 f7 : Nat} (g0 : f0 ≤ 8) (g1 : f1 ≤ 8) (g2 : f2 ≤ 8) (g3 : f3 ≤ 8) (g4 : f4 ≤ 8) (g5 : f5 ≤ 8) (g6 : f6 ≤ 8) (g7 : f7 ≤ 8) : f0 + f1 + f2 + f3 + f4 + f5 + f6 + f7 ≤ 64 := by omega
set_option maxHeartbeats 2000000 in
/-- The count by halves comes to the number of bits that are set. -/
theorem pop_ok (x : Nat) (h : x < 2 ^ 64) :
    let a1 := (x / 2 ^ 1 &&& 6148914691236517205) + (x &&& 6148914691236517205)
    let a2 := (a1 / 2 ^ 2 &&& 3689348814741910323) + (a1 &&& 3689348814741910323)
    let a3 := (a2 / 2 ^ 4 + a2) &&& 1085102592571150095
    let a4 := a3 + a3 / 2 ^ 8
    let a5 := a4 + a4 / 2 ^ 16
    let a6 := a5 + a5 / 2 ^ 32
    a6 % 128 = (bits x 64).sum ∧ a1 < 2 ^ 64 ∧ a2 < 2 ^ 64 ∧ a2 / 2 ^ 4 + a2 < 2 ^ 64 ∧ a4 < 2 ^ 64 ∧ a5 < 2 ^ 64 ∧ a6 < 2 ^ 64 ∧ (bits x 64).sum ≤ 64 := by
  intro a1 a2 a3 a4 a5 a6
  have hb : (bits x 64).length = 2 * 32 := by simp [bits]
  have hb1 : ∀ y ∈ bits x 64, y ≤ 1 := by
    intro y hy
    obtain ⟨i, _, rfl⟩ := List.mem_map.1 hy
    omega
  have m0 : msk 1 32 = 6148914691236517205 := by decide
  have m1 : msk 2 16 = 3689348814741910323 := by decide
  have m2 : msk 4 8 = 1085102592571150095 := by decide
  have s1 := prs_sum 32 _ hb
  have s2 := prs_sum 16 _ s1.2
  have s3 := prs_sum 8 _ s2.2
  have l1 := prs_le _ hb1
  have l2 := prs_le _ l1
  have l3 := prs_le _ l2
  have e1 : a1 = val 2 (prs (bits x 64)) := by
    have := prs_step (b := 1) 32 (bits x 64) hb (fun y hy => by have := hb1 y hy; omega)
    rw [val_bits 64 x h, m0] at this; exact this
  have e2 : a2 = val 4 (prs (prs (bits x 64))) := by
    have := prs_step (b := 2) 16 _ s1.2 (fun y hy => by have := l1 y hy; omega)
    rw [← e1, m1] at this; exact this
  have e3 : a3 = val 8 (prs (prs (prs (bits x 64)))) := by
    have := prs_step2 (b := 4) 8 _ s2.2 (fun y hy => by have := l2 y hy; omega)
    rw [← e2, m2] at this; exact this
  have b1 := val_lt (b := 2) _ (fun y hy => by have := l1 y hy; omega : ∀ y ∈ prs (bits x 64), y < 2 ^ 2)
  rw [← e1, s1.2] at b1
  have b2 : a2 ≤ 4919131752989213764 := by
    have := val_le (b := 4) (k := 4) _ l2
    rw [s2.2, ← e2] at this
    exact this
  have hs : (prs (prs (prs (bits x 64)))).sum = (bits x 64).sum := by rw [s3.1, s2.1, s1.1]
  generalize prs (prs (prs (bits x 64))) = fs at *
  obtain ⟨hsum, hlen⟩ := s3
  match fs, hlen with
  | [f0, f1, f2, f3, f4, f5, f6, f7], _ =>
    have g0 := l3 f0 (by simp)
    have g1 := l3 f1 (by simp)
    have g2 := l3 f2 (by simp)
    have g3 := l3 f3 (by simp)
    have g4 := l3 f4 (by simp)
    have g5 := l3 f5 (by simp)
    have g6 := l3 f6 (by simp)
    have g7 := l3 f7 (by simp)
    have e3' : a3 = f0 + 256 * (f1 + 256 * (f2 + 256 * (f3 + 256 * (f4 + 256 * (f5 + 256 * (f6 + 256 * f7)))))) := by
      rw [e3]; simp only [val]; rfl
    have z := pop_end g0 g1 g2 g3 g4 g5 g6 g7 e3' (a4 := a4) (a5 := a5) (a6 := a6) rfl rfl rfl
    simp only [List.sum_cons, List.sum_nil] at hs
    have e7 : a2 / 2 ^ 4 ≤ a2 := Nat.div_le_self _ _
    have t1 : f0 + f1 + f2 + f3 + f4 + f5 + f6 + f7 = (bits x 64).sum := by rw [← hs]; simp only [Nat.add_zero, Nat.add_assoc]
    exact ⟨z.1.trans t1, Nat.lt_of_lt_of_le b1 (by decide), Nat.lt_of_le_of_lt b2 (by decide), pop_add b2 e7, z.2.1, z.2.2.1, z.2.2.2, t1 ▸ pop_sum g0 g1 g2 g3 g4 g5 g6 g7⟩
end Go.Fx

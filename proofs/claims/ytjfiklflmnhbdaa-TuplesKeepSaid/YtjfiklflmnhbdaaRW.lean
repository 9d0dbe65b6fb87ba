/-
  Words of cells: the plain law. No program in sight.
-/
import Derived.Test.YtjfiklflmnhbdaaXF
set_option linter.all false
namespace Go.Fx.Rows
open Go

/-- The number whose digits to the base 4 are these, the least first. -/
def wd : List Int → Int
  | [] => 0
  | c :: cs => c + 4 * wd cs

def Cell4 (c : Int) : Prop := 0 ≤ c ∧ c ≤ 3

theorem wd_app : ∀ (xs : List Int) (c : Int), wd (xs ++ [c]) = wd xs + c * 4 ^ xs.length
  | [], c => by simp [wd]
  | x :: xs, c => by
    simp only [List.cons_append, wd, wd_app xs c, List.length_cons, Int.pow_succ]
    rw [Int.mul_add, Int.add_assoc, Int.mul_comm (4 ^ xs.length) 4, ← Int.mul_assoc c, Int.mul_comm c 4, Int.mul_assoc 4 c]

theorem wd_bounds : ∀ (xs : List Int), (∀ x ∈ xs, Cell4 x) → 0 ≤ wd xs ∧ wd xs < 4 ^ xs.length
  | [], _ => by simp [wd]
  | x :: xs, h => by
    have h0 := h x (by simp)
    have ih := wd_bounds xs fun y hy => h y (by simp [hy])
    simp only [wd, List.length_cons, Int.pow_succ, Cell4] at h0 ⊢
    omega

theorem wd_get : ∀ (xs : List Int), (∀ x ∈ xs, Cell4 x) → ∀ j, wd xs / 4 ^ j % 4 = xs[j]?.getD 0
  | [], _, j => by simp [wd]
  | x :: xs, h, 0 => by
    have h0 := h x (by simp)
    simp only [wd, Cell4, List.getElem?_cons_zero, Option.getD_some, Int.pow_zero, Int.ediv_one] at h0 ⊢
    omega
  | x :: xs, h, j + 1 => by
    have h0 := h x (by simp)
    have ih := wd_get xs (fun y hy => h y (by simp [hy])) j
    simp only [wd, Cell4, List.getElem?_cons_succ] at h0 ⊢
    rw [Int.pow_succ, Int.mul_comm (4 ^ j) 4, ← Int.ediv_ediv_of_nonneg (by decide)]
    have : (x + 4 * wd xs) / 4 = wd xs := by omega
    rw [this]; exact ih

/-- Any number's digits make it again. -/
theorem wd_digits : ∀ (k : Nat) (u : Int), 0 ≤ u → u < 4 ^ k → wd ((List.range k).map fun j => u / 4 ^ j % 4) = u
  | 0, u, h0, h1 => by simp at h1; simp [wd]; omega
  | k + 1, u, h0, h1 => by
    have ih := wd_digits k (u / 4) (by omega) (by rw [Int.pow_succ] at h1; omega)
    rw [List.range_succ_eq_map, List.map_cons, List.map_map]
    simp only [wd, Function.comp_def]
    have : (fun j : Nat => u / 4 ^ (j + 1) % 4) = fun j => u / 4 / 4 ^ j % 4 := by
      funext j
      rw [Int.pow_succ, Int.mul_comm (4 ^ j) 4, ← Int.ediv_ediv_of_nonneg (by decide)]
    simp only [Nat.succ_eq_add_one, this, ih, Int.pow_zero, Int.ediv_one]
    omega

/-- The words of cells. -/
def packL (cs : List Int) : List Int := (List.range ((cs.length + 31) / 32)).map fun q => wd ((cs.drop (32 * q)).take 32)

theorem packL_len (cs : List Int) : (packL cs).length = (cs.length + 31) / 32 := by simp [packL]

theorem packL_get (cs : List Int) (q : Nat) (hq : q < (cs.length + 31) / 32) : (packL cs)[q]? = some (wd ((cs.drop (32 * q)).take 32)) := by
  simp [packL, hq]

/-- One cell more. -/
theorem packL_new {cs : List Int} {c : Int} (h : cs.length % 32 = 0) : packL (cs ++ [c]) = packL cs ++ [c] := by
  apply List.ext_getElem?
  intro q
  by_cases hq : q < (cs.length + 31) / 32
  · rw [packL_get _ _ (by simp; omega), List.getElem?_append_left (by rw [packL_len]; exact hq), packL_get _ _ hq]
    congr 2
    rw [List.drop_append_of_le_length (by omega), List.take_append_of_le_length (by simp; omega)]
  · by_cases hq' : q = cs.length / 32
    · subst hq'
      rw [packL_get _ _ (by simp; omega), List.getElem?_append_right (by rw [packL_len]; omega), packL_len]
      have e : 32 * (cs.length / 32) = cs.length := by omega
      rw [e, List.drop_append_of_le_length (by omega), List.drop_length]
      have : cs.length / 32 - (cs.length + 31) / 32 = 0 := by omega
      simp [this, wd]
    · rw [List.getElem?_eq_none (by simp [packL_len]; omega), List.getElem?_eq_none (by simp [packL_len]; omega)]

theorem packL_more {cs : List Int} {c : Int} (h : cs.length % 32 ≠ 0) :
    packL (cs ++ [c]) = (packL cs).set (cs.length / 32) (wd (cs.drop (32 * (cs.length / 32))) + c * 4 ^ (cs.length % 32)) := by
  apply List.ext_getElem?
  intro q
  by_cases hq : q < (cs.length + 31) / 32
  · rw [packL_get _ _ (by simp; omega)]
    by_cases hq' : q = cs.length / 32
    · subst hq'
      rw [List.getElem?_set_self (by rw [packL_len]; exact hq), List.drop_append_of_le_length (by omega), List.take_of_length_le (by simp; omega), wd_app]
      simp only [List.length_drop]
      rw [show cs.length - 32 * (cs.length / 32) = cs.length % 32 by omega]
    · rw [List.getElem?_set_ne (fun e => hq' e.symm), packL_get _ _ hq, List.drop_append_of_le_length (by omega), List.take_append_of_le_length (by simp; omega)]
  · rw [List.getElem?_eq_none (by simp [packL_len]; omega), List.getElem?_eq_none (by simp [packL_len]; omega)]

theorem packL_zero (n : Nat) : packL (List.replicate n 0) = List.replicate ((n + 31) / 32) 0 := by
  have hz : ∀ k, wd (List.replicate k 0) = 0 := by
    intro k; induction k with
    | zero => rfl
    | succ k ih => simp [List.replicate_succ, wd, ih]
  apply List.ext_getElem?
  intro q
  by_cases hq : q < (n + 31) / 32
  · rw [packL_get _ _ (by simpa using hq)]
    simp [hq, hz]
  · rw [List.getElem?_eq_none (by simp [packL_len]; omega), List.getElem?_eq_none (by simp; omega)]
end Go.Fx.Rows

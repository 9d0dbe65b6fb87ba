import Derived.Test.YtjfiklflmnhbdaaRg
import Derived.Test.YtjfiklflmnhbdaaXF
set_option linter.all false
namespace Go.Fx.Ytjfiklflmnhbdaa
open Go Go.Fx Go.Proofs Go.Fx.Rows
theorem and64 {a : Nat} (ha : a < 2 ^ 64) (m : Nat) (hm : m < 2 ^ 64) : bAnd .u64 (a : Int) (m : Int) = ((a &&& m : Nat) : Int) := and_nat ha hm
theorem add64 {a b : Nat} (h : a + b < 2 ^ 64) : IntKind.u64.wrap ((a : Int) + (b : Int)) = ((a + b : Nat) : Int) := by
  rw [wru64 (by omega) (by omega)]; omega
theorem wrap_mod (x : Int) : IntKind.i64.wrap x % 128 = x % 128 := by
  have key : ∀ (b : Bool) (m : Int), (if b = true then m - 18446744073709551616 else m) % 128 = m % 128 := by
    intro b m; cases b <;> simp; omega
  have e : IntKind.i64.wrap x % 128 = x % 18446744073709551616 % 128 := key _ (x % 18446744073709551616)
  rw [e]; omega
theorem and127 (x : Int) : bAnd .i64 x 127 = x % 128 := by
  show IntKind.i64.wrap (((BitVec.ofInt 64 x &&& BitVec.ofInt 64 127).toNat : Nat) : Int) = _
  rw [BitVec.toNat_and, BitVec.toNat_ofInt, BitVec.toNat_ofInt]
  have e2 : ((127 : Int) % ((2 ^ 64 : Nat) : Int)).toNat = 2 ^ 7 - 1 := by decide
  rw [e2, Nat.and_two_pow_sub_one_eq_mod, wr64 (by omega) (by omega)]
  omega
theorem ones_c (x : Nat) (h : x < 2 ^ 64) : Pure Try.prog 58 [U x] (I ((bits x 64).sum : Nat)) := by
  refine pu58 (by simp) ?_
  simp -implicitDefEqProofs [ac58]
  obtain ⟨p1, p2, p3, p4, p5, p6, p7, p8⟩ := pop_ok x h
  have lt_and : ∀ a m : Nat, m < 2 ^ 64 → (a &&& m) < 2 ^ 64 := fun a m hm => Nat.lt_of_le_of_lt Nat.and_le_right hm
  have m0 : (6148914691236517205 : Int) = ((6148914691236517205 : Nat) : Int) := rfl
  have m1 : (3689348814741910323 : Int) = ((3689348814741910323 : Nat) : Int) := rfl
  have m2 : (1085102592571150095 : Int) = ((1085102592571150095 : Nat) : Int) := rfl
  have sh : ∀ (a k : Nat), k ≤ 64 → bShr .u64 (a : Int) ((k : Nat) : Int) = ((a / 2 ^ k : Nat) : Int) := fun a k hk => shr_nat hk
  have dv : ∀ (a k : Nat), a < 2 ^ 64 → a / 2 ^ k < 2 ^ 64 := fun a k ha => Nat.lt_of_le_of_lt (Nat.div_le_self _ _) ha
  rw [show (1 : Int) = ((1 : Nat) : Int) from rfl, show (2 : Int) = ((2 : Nat) : Int) from rfl, show (4 : Int) = ((4 : Nat) : Int) from rfl, show (8 : Int) = ((8 : Nat) : Int) from rfl, show (16 : Int) = ((16 : Nat) : Int) from rfl, show (32 : Int) = ((32 : Nat) : Int) from rfl, m0, m1, m2,
    sh x 1 (by decide), and64 (dv x 1 h) _ (by decide), and64 h _ (by decide), add64 p2]
  generalize ha1 : (x / 2 ^ 1 &&& 6148914691236517205) + (x &&& 6148914691236517205) = a1 at *
  rw [sh a1 2 (by decide), and64 (dv a1 2 p2) _ (by decide), and64 p2 _ (by decide), add64 p3]
  generalize ha2 : (a1 / 2 ^ 2 &&& 3689348814741910323) + (a1 &&& 3689348814741910323) = a2 at *
  rw [sh a2 4 (by decide), add64 p4, and64 p4 _ (by decide)]
  generalize ha3 : (a2 / 2 ^ 4 + a2 &&& 1085102592571150095) = a3 at *
  rw [sh a3 8 (by decide), add64 p5]
  generalize ha4 : a3 + a3 / 2 ^ 8 = a4 at *
  rw [sh a4 16 (by decide), add64 p6]
  generalize ha5 : a4 + a4 / 2 ^ 16 = a5 at *
  rw [sh a5 32 (by decide), add64 p7]
  rw [and127, wrap_mod]
  omega
end Go.Fx.Ytjfiklflmnhbdaa

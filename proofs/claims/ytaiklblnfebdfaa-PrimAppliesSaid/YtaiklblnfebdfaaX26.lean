/-
  Arithmetic of floats and complex numbers of 64 bits.
-/
import Derived.Test.YtaiklblnfebdfaaX24
import Derived.Test.YtaiklblnfebdfaaFlt3
set_option linter.all false
namespace Go.Fx.Flt
open Go Ieee
theorem xor_lo {r : Nat} (h : r < 2 ^ 63) : r ^^^ 2 ^ 63 = 2 ^ 63 + r := by
  have e : 2 ^ 63 + r = 2 ^ 63 ||| r := by
    have := Nat.two_pow_add_eq_or_of_lt h 1
    simpa using this
  rw [e]
  apply Nat.eq_of_testBit_eq
  intro i
  rw [Nat.testBit_xor, Nat.testBit_or, Nat.testBit_two_pow]
  by_cases hi : 63 = i
  · subst hi
    rw [Nat.testBit_lt_two_pow h]; simp
  · simp [hi]
theorem xor_hi {r : Nat} (h : r < 2 ^ 63) : (2 ^ 63 + r) ^^^ 2 ^ 63 = r := by
  rw [← xor_lo h, Nat.xor_assoc, Nat.xor_self, Nat.xor_zero]
theorem neg_Fz {s : Bool} {N : Nat} (h : N < 2 ^ 53) : Fz s N ^^^ 2 ^ 63 = Fz (!s) N := by
  have hr : (if N = 0 then 0 else (N.log2 + 1022) * 2 ^ 52 + N * 2 ^ (52 - N.log2)) < 2 ^ 63 := by
    split
    · decide
    · rename_i h0
      have := log_lt h0 h
      obtain ⟨m1, m2⟩ := mant h0 h
      have : (N.log2 + 1022) * 2 ^ 52 ≤ 1074 * 2 ^ 52 := Nat.mul_le_mul_right _ (by omega)
      omega
  unfold Fz Format.word
  rw [fsw]
  generalize (if N = 0 then 0 else (N.log2 + 1022) * 2 ^ 52 + N * 2 ^ (52 - N.log2)) = r at *
  cases s
  · simpa using xor_lo hr
  · simpa using xor_hi hr
def ngF (b : Nat) : Nat := b ^^^ 2 ^ 63
theorem neg_W {b : Nat} {n : Int} (h : isW b n) : isW (ngF b) (-n) := by
  obtain ⟨s, N, hN, rfl, rfl⟩ := h
  exact ⟨!s, N, hN, neg_Fz hN, sg_not⟩
end Go.Fx.Flt
namespace Go.Fx
open Go Go.Fx.Flt
section
variable {P : Program} {ty : TypeId} {a b c d r s : Nat}
theorem bin_addF (h : Ieee.double.add a b = some r) : binD P .add ty (FL a) (FL b) = some (FL r) := by simp [binD, lit, binOp, Op.floatArith, Sem.look, Pure.pure, Bind.bind, Sem.bind, FloatKind.format, h]
theorem bin_subF (h : Ieee.double.sub a b = some r) : binD P .sub ty (FL a) (FL b) = some (FL r) := by simp [binD, lit, binOp, Op.floatArith, Sem.look, Pure.pure, Bind.bind, Sem.bind, FloatKind.format, h]
theorem bin_mulF (h : Ieee.double.mul a b = some r) : binD P .mul ty (FL a) (FL b) = some (FL r) := by simp [binD, lit, binOp, Op.floatArith, Sem.look, Pure.pure, Bind.bind, Sem.bind, FloatKind.format, h]
theorem bin_quoF (h : Ieee.double.div a b = some r) : binD P .quo ty (FL a) (FL b) = some (FL r) := by simp [binD, lit, binOp, Op.floatArith, Sem.look, Pure.pure, Bind.bind, Sem.bind, FloatKind.format, h]
@[simp] theorem un_negF : unD P .neg (FL a) = some (FL (ngF a)) := (rfl)
theorem lookA {op : BinOp} {x y z : Nat} (h : Sem.look P (Op.floatArith op .f64 x y) = some (.float .f64 z)) : Sem.look P (Op.Complex.arith op .f64 x y) = some z := by
  unfold Op.Complex.arith
  rw [look_bind, h]; rfl
theorem look_add (h : Ieee.double.add a b = some r) : Sem.look P (Op.Complex.arith .add .f64 a b) = some r := lookA (by simp [Op.floatArith, Sem.look, Pure.pure, Bind.bind, Sem.bind, FloatKind.format, h])
theorem look_sub (h : Ieee.double.sub a b = some r) : Sem.look P (Op.Complex.arith .sub .f64 a b) = some r := lookA (by simp [Op.floatArith, Sem.look, Pure.pure, Bind.bind, Sem.bind, FloatKind.format, h])
theorem look_mul (h : Ieee.double.mul a b = some r) : Sem.look P (Op.Complex.arith .mul .f64 a b) = some r := lookA (by simp [Op.floatArith, Sem.look, Pure.pure, Bind.bind, Sem.bind, FloatKind.format, h])
theorem bin_addC (h1 : Ieee.double.add a c = some r) (h2 : Ieee.double.add b d = some s) : binD P .add ty (CX a b) (CX c d) = some (CX r s) := by
  simp [-bind_pure_comp, binD, lit, binOp, Op.complexOp, look_bind, look_add h1, look_add h2]; rfl
theorem bin_subC (h1 : Ieee.double.sub a c = some r) (h2 : Ieee.double.sub b d = some s) : binD P .sub ty (CX a b) (CX c d) = some (CX r s) := by
  simp [-bind_pure_comp, binD, lit, binOp, Op.complexOp, look_bind, look_sub h1, look_sub h2]; rfl
theorem look_prod {p1 p2 p3 p4 : Nat} (h1 : Ieee.double.mul a c = some p1) (h2 : Ieee.double.mul b d = some p2) (h3 : Ieee.double.mul a d = some p3) (h4 : Ieee.double.mul b c = some p4) (h5 : Ieee.double.sub p1 p2 = some r) (h6 : Ieee.double.add p3 p4 = some s) : Sem.look P (Op.Complex.product a b c d) = some (r, s) := by
  unfold Op.Complex.product Op.Complex.mul Op.Complex.sub Op.Complex.add
  simp only [look_bind, look_mul h1, look_mul h2, look_mul h3, look_mul h4, look_sub h5, look_add h6, Option.bind]; rfl
theorem bin_mulC {p1 p2 p3 p4 : Nat} (h1 : Ieee.double.mul a c = some p1) (h2 : Ieee.double.mul b d = some p2) (h3 : Ieee.double.mul a d = some p3) (h4 : Ieee.double.mul b c = some p4) (h5 : Ieee.double.sub p1 p2 = some r) (h6 : Ieee.double.add p3 p4 = some s) : binD P .mul ty (CX a b) (CX c d) = some (CX r s) := by
  have hc : ∀ x, Sem.look P (Op.Complex.conv .f64 x .f64) = some x := fun x => rfl
  simp [binD, lit, binOp, Op.complexOp, look_bind, hc, look_prod h1 h2 h3 h4 h5 h6]; rfl
end
end Go.Fx

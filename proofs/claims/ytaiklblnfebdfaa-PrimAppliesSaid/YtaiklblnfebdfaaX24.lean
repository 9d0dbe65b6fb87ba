/-
  Floats and complex numbers of 64 bits: operations on values; functions without a text.
-/
import Derived.Test.YtaiklblnfebdfaaX23
import Derived.Test.YtaiklblnfebdfaaFlt2
set_option linter.all false
namespace Go.Fx
open Go Go.Fx.Flt
section
variable {P : Program} {ty : TypeId} {a b c d : Nat}
abbrev FL (b : Nat) : D := .pl (.float .f64 b)
abbrev CX (a b : Nat) : D := .pl (.complex .f64 a b)
@[simp] theorem bin_eqlF : binD P .eql ty (FL a) (FL b) = some (.pl (.bool (eqF a b))) := by simp [eqF, binD, lit, binOp, Op.floatCmp, Sem.look, Pure.pure, FloatKind.format]
@[simp] theorem bin_neqF : binD P .neq ty (FL a) (FL b) = some (.pl (.bool (!eqF a b))) := by simp [eqF, binD, lit, binOp, Op.floatCmp, Sem.look, Pure.pure, FloatKind.format, bne]
@[simp] theorem bin_lssF : binD P .lss ty (FL a) (FL b) = some (.pl (.bool (ltF a b))) := by simp [ltF, binD, lit, binOp, Op.floatCmp, Sem.look, Pure.pure, FloatKind.format]
@[simp] theorem bin_leqF : binD P .leq ty (FL a) (FL b) = some (.pl (.bool (leF a b))) := by simp [leF, binD, lit, binOp, Op.floatCmp, Sem.look, Pure.pure, FloatKind.format]
@[simp] theorem bin_gtrF : binD P .gtr ty (FL a) (FL b) = some (.pl (.bool (gtF a b))) := by simp [gtF, binD, lit, binOp, Op.floatCmp, Sem.look, Pure.pure, FloatKind.format]
@[simp] theorem bin_geqF : binD P .geq ty (FL a) (FL b) = some (.pl (.bool (geF a b))) := by simp [geF, binD, lit, binOp, Op.floatCmp, Sem.look, Pure.pure, FloatKind.format]
@[simp] theorem bin_eqlC : binD P .eql ty (CX a b) (CX c d) = some (.pl (.bool (eqF a c && eqF b d))) := by
  have : ∀ x y, Sem.look P (Op.Complex.cmp .eql .f64 x y) = some (eqF x y) := fun x y => by
    simp [eqF, Op.Complex.cmp, Op.floatCmp, look_bind, Sem.look, Pure.pure, FloatKind.format, asBool]
  simp [binD, lit, binOp, Op.complexOp, look_bind, this, Sem.look]
  rfl
@[simp] theorem bin_neqC : binD P .neq ty (CX a b) (CX c d) = some (.pl (.bool (!(eqF a c && eqF b d)))) := by
  have : ∀ x y, Sem.look P (Op.Complex.cmp .eql .f64 x y) = some (eqF x y) := fun x y => by
    simp [eqF, Op.Complex.cmp, Op.floatCmp, look_bind, Sem.look, Pure.pure, FloatKind.format, asBool]
  simp [binD, lit, binOp, Op.complexOp, look_bind, this, Sem.look]
  rfl
@[simp] theorem bi_real : biD P .real [CX a b] = some (FL a) := (rfl)
@[simp] theorem bi_imag : biD P .imag [CX a b] = some (FL b) := (rfl)
@[simp] theorem bi_complex : biD P .complex [FL a, FL b] = some (CX a b) := (rfl)
theorem cv_intF {s t : TypeId} {k : IntKind} {n : Int} (hs : P.underlying s = some (.int k)) (ht : P.underlying t = some (.float .f64)) : cvD P s t (.pl (.int k n)) = some (FL (FloatKind.f64.nearest n)) := by
  simp [cvD, lit, convert, underlying, program, Bind.bind, Sem.bind, Sem.look, hs, ht, Pure.pure, Conv.intToFloat]
theorem cv_Fint {s t : TypeId} {k : IntKind} {n : Int} (hs : P.underlying s = some (.float .f64)) (ht : P.underlying t = some (.int k)) (h : (FloatKind.f64.decode b).toInt .zero = some n) (h1 : k.min ≤ n) (h2 : n ≤ k.max) : cvD P s t (FL b) = some (.pl (.int k n)) := by
  simp [cvD, lit, convert, underlying, program, Bind.bind, Sem.bind, Sem.look, hs, ht, Pure.pure, Conv.floatToInt, h, h1, h2]

/-- A function without a text, by its name. -/
theorem Extn_of {f : FuncId} {fn : Func} {e : Array Value → Sem Value} {args : List D} {res : D} (hf : P.funcs[f]? = some fn) (hn : (fn.name == "runtime.NumGoroutine") = false) (hb : fn.body.isNone = true) (h1 : Extern.findNext fn = none) (h2 : Extern.find fn = some e)
    (h : ∀ (S : Nat → Prop) (φ : Locs) (w : World) (xs : List Value), RepVs w S φ args xs → ∃ v, Rep w S φ res v ∧ (e xs.toArray).run P w = .ok v w) : Extn P f args res := by
  intro S φ w xs hx
  obtain ⟨v, hv, hr⟩ := h S φ w xs hx
  refine ⟨v, hv, ?_⟩
  unfold callFunc
  simp only [Sem.run_bind, run_program, Result.andThen_ok, hf, hn, hb, h1, h2, if_true, Bool.false_eq_true, if_false]
  simp [Sem.run_bind, hr]
end
end Go.Fx

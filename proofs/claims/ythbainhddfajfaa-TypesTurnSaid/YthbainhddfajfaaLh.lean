/-
  Layer 7: awake.
-/
import Derived.Test.YthbainhddfajfaaLg
set_option linter.all false
set_option maxRecDepth 100000
set_option maxHeartbeats 4000000
namespace Go.Fx.Ythbainhddfajfaa
open Go Go.Fx Go.Proofs Go.Fx.Flt
def r1 : List Fn × Rd := (progF 40 [] (rd0 t1 32768 32768 32768 32768)).getD ([], rd0 t1 32768 32768 32768 32768)
def r2 : List Fn × Rd := (progF 40 [] (rd0 t2 32768 32768 32768 32768)).getD ([], rd0 t2 32768 32768 32768 32768)
theorem some_getD {α : Type} {o : Option α} {d : α} (h : o.isSome = true) : o = some (o.getD d) := by
  cases o with
  | none => simp at h
  | some x => rfl
theorem pp1 : progF 40 [] (rd0 t1 32768 32768 32768 32768) = some (r1.1, r1.2) := some_getD (d := ([], rd0 t1 32768 32768 32768 32768)) (by decide)
theorem pp2 : progF 40 [] (rd0 t2 32768 32768 32768 32768) = some (r2.1, r2.2) := some_getD (d := ([], rd0 t2 32768 32768 32768 32768)) (by decide)
theorem read1 : ReadAs t1 r1.1 0 0 := read_at t1 (by decide) (by decide) (n := 40) (by decide) pp1 (by decide) (by decide)
theorem read2 : ReadAs t2 r2.1 0 0 := read_at t2 (by decide) (by decide) (n := 40) (by decide) pp2 (by decide) (by decide)
theorem ty1 : typesF r1.1 = (0, 0) := by decide
theorem ty2 : typesF r2.1 = (34, 9) := by decide
theorem len1 : r1.1.length = 1 := by decide
theorem of1 : ofF r1.1 (r1.1[0]?.getD default).params (r1.1[0]?.getD default).body = (2, 0) := by decide
end Go.Fx.Ythbainhddfajfaa

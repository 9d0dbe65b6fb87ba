/-
  Complex numbers by their bits; marks.
-/
import Derived.Test.YtaiklblnfebdfaaK0
import Derived.Test.YtaiklblnfebdfaaXG
set_option linter.all false
namespace Go.Fx.Ytaiklblnfebdfaa
open Go Go.Fx Go.Proofs Go.Fx.Flt
structure Cx where
  re : Nat
  im : Nat
deriving Inhabited, DecidableEq
def encC (z : Cx) : List D := [CX z.re z.im]
def Cx.lt (z : Cx) : Prop := z.re < 2 ^ 64 ∧ z.im < 2 ^ 64
def Cx.ok (z : Cx) : Bool := plainB z.re && plainB z.im
theorem ia_C {l : List Cx} {mem : Mem} {j : IntKind} {i : Int} : iaD mem 1 (.sl (em encC l)) (.pl (.int j i)) = if 0 ≤ i ∧ i < l.length then some (.pt [CX (l[i.toNat]?.getD default).re (l[i.toNat]?.getD default).im]) else none := em_ia fun _ => rfl
theorem imm_C (l : List Cx) : D.immss (em encC l) = true := em_imm fun _ => rfl
theorem app_C (l : List Cx) (a b : Nat) : em encC l ++ [[CX a b]] = em encC (l ++ [⟨a, b⟩]) := em_app (x := (⟨a, b⟩ : Cx))
theorem cell_C (l : List Cx) : (em encC l).all (fun e => e.all D.cell) = true := em_cell fun _ => rfl
theorem els_C (l : List Cx) : (em encC l).all (fun e => e.length == 1 && e.all D.cell) = true := em_els (fun _ => rfl) fun _ => rfl
theorem set_C (l : List Cx) (i : Nat) (a b : Nat) : (em encC l).set i [CX a b] = em encC (l.set i ⟨a, b⟩) := em_set (x := (⟨a, b⟩ : Cx))
attribute [simp] ia_C imm_C app_C cell_C els_C set_C
end Go.Fx.Ytaiklblnfebdfaa

/-
  No cell of these rows narrows 'for every input' (looked for: loops, veiled, ifaces, maps, wideKeys, modest, calm, conditions, laid).
  DERIVED. THE GIVEN ROWS OF THIS SEAT. 5 by the template 'for every input the law returns true; each argument reads behind the call as it read before'; 0 by the template 'total and deterministic' (their statements: YtaiklblnfebdfaaTotals.lean).
  GIVEN WITH THE SEED: the statements are not yours to turn. If you find one false, say at which input.
  Laid BY PROGRAM, IN A SANDBOX (cutbox-rows.mjs): the forced cells as the released guide's own fill.sh prints them over the translation 11848aa855f772d8… (all of the seat's roots in one cut). By AI agents, Wed Nov 11 2026. No macro, syntax, notation, axiom, sorry.
-/
import Derived.Test.YtaiklblnfebdfaaChecked
import GoSem.Claim
import GoSem.ClaimJoined
import GoSem.ClaimMapViews
import Derived.JoinedTies
import Derived.KernelRfl
namespace Go.Proofs.Ytaiklblnfebdfaa
/- THE CELL 'sum', in the pinned program and in every row, IS THE sha256 OF THE DUMP (.gsa) THAT YtaiklblnfebdfaaProg.lean LOADS. Nothing in Lean hashes anything: it is a label: what it is worth is what the hold of that sum in a sandbox is worth. -/
noncomputable def Try.pinned : Pinned := { name := "ytaiklblnfebdfaa", sum := "11848aa855f772d8e8912f2191f5170c30dd5492d72a8ab8dcb65ceab577b363", checked := Try.checked }
namespace Rows
def none {H : Type} : Left H := { results := [], args := [] }

/-- 'fathomlaw10.PrimApplies': WHATEVER THE INPUT: true; the input reads as it did. -/
def primAppliesSpec : ChangeSpec := { name := "primApplies", fn := fun _ => fun
  | [d1, d2] => { results := [.lit (.bool true)], args := [d1, d2] }
  | _ => none }
def primAppliesRow : OpenClaim := { program := "ytaiklblnfebdfaa", sum := "11848aa855f772d8e8912f2191f5170c30dd5492d72a8ab8dcb65ceab577b363", func := "fathom/fathomlaw10.PrimApplies", spec := "primApplies", inPlace := ["math.archTrunc", "math.Float64bits", "math.Float64frombits"], apart := false }
def PrimAppliesSaid : Prop := primAppliesRow.holds Try.pinned (OpenSpec.ofChange primAppliesSpec)

/-- ITS FALSE NEIGHBOUR: 'it returns false'. Refute it at one input. -/
def primAppliesWrong : ChangeSpec := { name := "primApplies", fn := fun _ => fun
  | [d1, d2] => { results := [.lit (.bool false)], args := [d1, d2] }
  | _ => none }
def PrimAppliesWrongFalsely : Prop := primAppliesRow.holds Try.pinned (OpenSpec.ofChange primAppliesWrong)

/-- 'fathomlaw10.PrimOrder': WHATEVER THE INPUT: true; the input reads as it did. -/
def primOrderSpec : ChangeSpec := { name := "primOrder", fn := fun _ => fun
  | [d1, d2] => { results := [.lit (.bool true)], args := [d1, d2] }
  | _ => none }
def primOrderRow : OpenClaim := { program := "ytaiklblnfebdfaa", sum := "11848aa855f772d8e8912f2191f5170c30dd5492d72a8ab8dcb65ceab577b363", func := "fathom/fathomlaw10.PrimOrder", spec := "primOrder", inPlace := ["math.archTrunc", "math.Float64bits", "math.Float64frombits"], apart := false }
def PrimOrderSaid : Prop := primOrderRow.holds Try.pinned (OpenSpec.ofChange primOrderSpec)

/-- ITS FALSE NEIGHBOUR: 'it returns false'. Refute it at one input. -/
def primOrderWrong : ChangeSpec := { name := "primOrder", fn := fun _ => fun
  | [d1, d2] => { results := [.lit (.bool false)], args := [d1, d2] }
  | _ => none }
def PrimOrderWrongFalsely : Prop := primOrderRow.holds Try.pinned (OpenSpec.ofChange primOrderWrong)

/-- 'fathomlaw10.PrimParts': WHATEVER THE INPUT: true; the input reads as it did. -/
def primPartsSpec : ChangeSpec := { name := "primParts", fn := fun _ => fun
  | [d] => { results := [.lit (.bool true)], args := [d] }
  | _ => none }
def primPartsRow : OpenClaim := { program := "ytaiklblnfebdfaa", sum := "11848aa855f772d8e8912f2191f5170c30dd5492d72a8ab8dcb65ceab577b363", func := "fathom/fathomlaw10.PrimParts", spec := "primParts", inPlace := ["math.archTrunc", "math.Float64bits", "math.Float64frombits"], apart := false }
def PrimPartsSaid : Prop := primPartsRow.holds Try.pinned (OpenSpec.ofChange primPartsSpec)

/-- ITS FALSE NEIGHBOUR: 'it returns false'. Refute it at one input. -/
def primPartsWrong : ChangeSpec := { name := "primParts", fn := fun _ => fun
  | [d] => { results := [.lit (.bool false)], args := [d] }
  | _ => none }
def PrimPartsWrongFalsely : Prop := primPartsRow.holds Try.pinned (OpenSpec.ofChange primPartsWrong)

/-- 'fathomlaw10.PrimKeep': WHATEVER THE INPUT: true; the input reads as it did. -/
def primKeepSpec : ChangeSpec := { name := "primKeep", fn := fun _ => fun
  | [d1, d2, d3] => { results := [.lit (.bool true)], args := [d1, d2, d3] }
  | _ => none }
def primKeepRow : OpenClaim := { program := "ytaiklblnfebdfaa", sum := "11848aa855f772d8e8912f2191f5170c30dd5492d72a8ab8dcb65ceab577b363", func := "fathom/fathomlaw10.PrimKeep", spec := "primKeep", inPlace := ["math.archTrunc", "math.Float64bits", "math.Float64frombits"], apart := false }
def PrimKeepSaid : Prop := primKeepRow.holds Try.pinned (OpenSpec.ofChange primKeepSpec)

/-- ITS FALSE NEIGHBOUR: 'it returns false'. Refute it at one input. -/
def primKeepWrong : ChangeSpec := { name := "primKeep", fn := fun _ => fun
  | [d1, d2, d3] => { results := [.lit (.bool false)], args := [d1, d2, d3] }
  | _ => none }
def PrimKeepWrongFalsely : Prop := primKeepRow.holds Try.pinned (OpenSpec.ofChange primKeepWrong)

/-- 'fathomlaw10.PrimGauss': WHATEVER THE INPUT: true; the input reads as it did. -/
def primGaussSpec : ChangeSpec := { name := "primGauss", fn := fun _ => fun
  | [d1, d2] => { results := [.lit (.bool true)], args := [d1, d2] }
  | _ => none }
def primGaussRow : OpenClaim := { program := "ytaiklblnfebdfaa", sum := "11848aa855f772d8e8912f2191f5170c30dd5492d72a8ab8dcb65ceab577b363", func := "fathom/fathomlaw10.PrimGauss", spec := "primGauss", inPlace := ["math.archTrunc", "math.Float64bits", "math.Float64frombits"], apart := false }
def PrimGaussSaid : Prop := primGaussRow.holds Try.pinned (OpenSpec.ofChange primGaussSpec)

/-- ITS FALSE NEIGHBOUR: 'it returns false'. Refute it at one input. -/
def primGaussWrong : ChangeSpec := { name := "primGauss", fn := fun _ => fun
  | [d1, d2] => { results := [.lit (.bool false)], args := [d1, d2] }
  | _ => none }
def PrimGaussWrongFalsely : Prop := primGaussRow.holds Try.pinned (OpenSpec.ofChange primGaussWrong)

/- THE SECOND FORM. 'bulk': how many values and letters a reading holds, each counted each time it is reached (what is shared counts as often as it is met; a slice's spare places count too). A statement '..UptoSaid' is the law's where the arguments, and the package variables that the reading takes, are together of bulk at most 1048576: NARROWER than '..Said'. Prove '..Said' where nothing that the law and all that it calls make is longer than what came in: it says more and counts as full. Else prove '..UptoSaid'. A law counts once. -/
mutual
def uptoBulk {H : Type} : DataW H → Nat
  | .lit (.string bytes) => bytes.length + 1
  | .lit _ => 1
  | .nil => 1
  | .ptr d => uptoBulk d + 1
  | .slice elems spare => uptoBulkAll elems + uptoBulkAll spare + 1
  | .agg parts => uptoBulkAll parts + 1
  | .iface _ d => uptoBulk d + 1
  | .map entries => uptoBulkEntries entries + 1
  | .held _ => 1
def uptoBulkAll {H : Type} : List (DataW H) → Nat
  | [] => 0
  | d :: r => uptoBulk d + uptoBulkAll r
def uptoBulkEntries {H : Type} : List (Lit × DataW H) → Nat
  | [] => 0
  | x :: r => uptoBulkEntry x + uptoBulkEntries r
def uptoBulkEntry {H : Type} : Lit × DataW H → Nat
  | (.string bytes, d) => bytes.length + uptoBulk d + 1
  | (_, d) => uptoBulk d + 1
 end
def uptoSmall : (H : Type) → List (DataW H) → Bool := fun _ ds => decide (uptoBulkAll ds ≤ 1048576)
def OpenSpec.upto (s : _root_.Go.ChangeSpec) : _root_.Go.OpenSpec := { _root_.Go.OpenSpec.ofChange s with cond := some uptoSmall }

/-- 'fathomlaw10.PrimApplies', WHERE WHAT IT READS IS OF BULK AT MOST 1048576: true; the input reads as it did. -/
def primAppliesUptoRow : OpenClaim := { program := "ytaiklblnfebdfaa", sum := "11848aa855f772d8e8912f2191f5170c30dd5492d72a8ab8dcb65ceab577b363", func := "fathom/fathomlaw10.PrimApplies", spec := "primApplies", inPlace := ["math.archTrunc", "math.Float64bits", "math.Float64frombits"], apart := false, narrowed := true }
def PrimAppliesUptoSaid : Prop := primAppliesUptoRow.holds Try.pinned (OpenSpec.upto primAppliesSpec)

/-- 'fathomlaw10.PrimOrder', WHERE WHAT IT READS IS OF BULK AT MOST 1048576: true; the input reads as it did. -/
def primOrderUptoRow : OpenClaim := { program := "ytaiklblnfebdfaa", sum := "11848aa855f772d8e8912f2191f5170c30dd5492d72a8ab8dcb65ceab577b363", func := "fathom/fathomlaw10.PrimOrder", spec := "primOrder", inPlace := ["math.archTrunc", "math.Float64bits", "math.Float64frombits"], apart := false, narrowed := true }
def PrimOrderUptoSaid : Prop := primOrderUptoRow.holds Try.pinned (OpenSpec.upto primOrderSpec)

/-- 'fathomlaw10.PrimParts', WHERE WHAT IT READS IS OF BULK AT MOST 1048576: true; the input reads as it did. -/
def primPartsUptoRow : OpenClaim := { program := "ytaiklblnfebdfaa", sum := "11848aa855f772d8e8912f2191f5170c30dd5492d72a8ab8dcb65ceab577b363", func := "fathom/fathomlaw10.PrimParts", spec := "primParts", inPlace := ["math.archTrunc", "math.Float64bits", "math.Float64frombits"], apart := false, narrowed := true }
def PrimPartsUptoSaid : Prop := primPartsUptoRow.holds Try.pinned (OpenSpec.upto primPartsSpec)

/-- 'fathomlaw10.PrimKeep', WHERE WHAT IT READS IS OF BULK AT MOST 1048576: true; the input reads as it did. -/
def primKeepUptoRow : OpenClaim := { program := "ytaiklblnfebdfaa", sum := "11848aa855f772d8e8912f2191f5170c30dd5492d72a8ab8dcb65ceab577b363", func := "fathom/fathomlaw10.PrimKeep", spec := "primKeep", inPlace := ["math.archTrunc", "math.Float64bits", "math.Float64frombits"], apart := false, narrowed := true }
def PrimKeepUptoSaid : Prop := primKeepUptoRow.holds Try.pinned (OpenSpec.upto primKeepSpec)

/-- 'fathomlaw10.PrimGauss', WHERE WHAT IT READS IS OF BULK AT MOST 1048576: true; the input reads as it did. -/
def primGaussUptoRow : OpenClaim := { program := "ytaiklblnfebdfaa", sum := "11848aa855f772d8e8912f2191f5170c30dd5492d72a8ab8dcb65ceab577b363", func := "fathom/fathomlaw10.PrimGauss", spec := "primGauss", inPlace := ["math.archTrunc", "math.Float64bits", "math.Float64frombits"], apart := false, narrowed := true }
def PrimGaussUptoSaid : Prop := primGaussUptoRow.holds Try.pinned (OpenSpec.upto primGaussSpec)

end Rows
end Go.Proofs.Ytaiklblnfebdfaa

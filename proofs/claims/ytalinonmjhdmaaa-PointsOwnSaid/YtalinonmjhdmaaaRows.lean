/-
  No cell of these rows narrows 'for every input' (looked for: loops, veiled, ifaces, maps, wideKeys, modest, calm, conditions, laid).
  DERIVED. THE GIVEN ROWS OF THIS SEAT. 3 by the template 'for every input the law returns true; each argument reads behind the call as it read before'; 0 by the template 'total and deterministic' (their statements: YtalinonmjhdmaaaTotals.lean).
  GIVEN WITH THE SEED: the statements are not yours to turn. If you find one false, say at which input.
  Laid BY PROGRAM, IN A SANDBOX (cutbox-rows.mjs): the forced cells as the released guide's own fill.sh prints them over the translation 6e95c15b7d8d8728… (all of the seat's roots in one cut). By AI agents, Wed Nov 11 2026. No macro, syntax, notation, axiom, sorry.
-/
import Derived.Test.YtalinonmjhdmaaaChecked
import GoSem.Claim
import GoSem.ClaimJoined
import GoSem.ClaimMapViews
import Derived.JoinedTies
import Derived.KernelRfl
namespace Go.Proofs.Ytalinonmjhdmaaa
/- THE CELL 'sum', in the pinned program and in every row, IS THE sha256 OF THE DUMP (.gsa) THAT YtalinonmjhdmaaaProg.lean LOADS. Nothing in Lean hashes anything: it is a label: what it is worth is what the hold of that sum in a sandbox is worth. -/
noncomputable def Try.pinned : Pinned := { name := "ytalinonmjhdmaaa", sum := "6e95c15b7d8d87281db3bc78667ff4adc789b0d0ca000c0941f145fa6971290e", checked := Try.checked }
namespace Rows
def none {H : Type} : Left H := { results := [], args := [] }

/-- 'fathomlaw15.PointsAll': WHATEVER THE INPUT: true; the input reads as it did. -/
def pointsAllSpec : ChangeSpec := { name := "pointsAll", fn := fun _ => fun
  | [d1, d2, d3] => { results := [.lit (.bool true)], args := [d1, d2, d3] }
  | _ => none }
def pointsAllRow : OpenClaim := { program := "ytalinonmjhdmaaa", sum := "6e95c15b7d8d87281db3bc78667ff4adc789b0d0ca000c0941f145fa6971290e", func := "fathom/fathomlaw15.PointsAll", spec := "pointsAll", apart := false }
def PointsAllSaid : Prop := pointsAllRow.holds Try.pinned (OpenSpec.ofChange pointsAllSpec)

/-- ITS FALSE NEIGHBOUR: 'it returns false'. Refute it at one input. -/
def pointsAllWrong : ChangeSpec := { name := "pointsAll", fn := fun _ => fun
  | [d1, d2, d3] => { results := [.lit (.bool false)], args := [d1, d2, d3] }
  | _ => none }
def PointsAllWrongFalsely : Prop := pointsAllRow.holds Try.pinned (OpenSpec.ofChange pointsAllWrong)

/-- 'fathomlaw15.PointsRise': WHATEVER THE INPUT: true; the input reads as it did. -/
def pointsRiseSpec : ChangeSpec := { name := "pointsRise", fn := fun _ => fun
  | [d1, d2, d3, d4] => { results := [.lit (.bool true)], args := [d1, d2, d3, d4] }
  | _ => none }
def pointsRiseRow : OpenClaim := { program := "ytalinonmjhdmaaa", sum := "6e95c15b7d8d87281db3bc78667ff4adc789b0d0ca000c0941f145fa6971290e", func := "fathom/fathomlaw15.PointsRise", spec := "pointsRise", apart := false }
def PointsRiseSaid : Prop := pointsRiseRow.holds Try.pinned (OpenSpec.ofChange pointsRiseSpec)

/-- ITS FALSE NEIGHBOUR: 'it returns false'. Refute it at one input. -/
def pointsRiseWrong : ChangeSpec := { name := "pointsRise", fn := fun _ => fun
  | [d1, d2, d3, d4] => { results := [.lit (.bool false)], args := [d1, d2, d3, d4] }
  | _ => none }
def PointsRiseWrongFalsely : Prop := pointsRiseRow.holds Try.pinned (OpenSpec.ofChange pointsRiseWrong)

/-- 'fathomlaw15.PointsOwn': WHATEVER THE INPUT: true; the input reads as it did. -/
def pointsOwnSpec : ChangeSpec := { name := "pointsOwn", fn := fun _ => fun
  | [d1, d2] => { results := [.lit (.bool true)], args := [d1, d2] }
  | _ => none }
def pointsOwnRow : OpenClaim := { program := "ytalinonmjhdmaaa", sum := "6e95c15b7d8d87281db3bc78667ff4adc789b0d0ca000c0941f145fa6971290e", func := "fathom/fathomlaw15.PointsOwn", spec := "pointsOwn", inPlace := ["math.Float64frombits", "math.archTrunc", "math.Float64bits"], apart := false }
def PointsOwnSaid : Prop := pointsOwnRow.holds Try.pinned (OpenSpec.ofChange pointsOwnSpec)

/-- ITS FALSE NEIGHBOUR: 'it returns false'. Refute it at one input. -/
def pointsOwnWrong : ChangeSpec := { name := "pointsOwn", fn := fun _ => fun
  | [d1, d2] => { results := [.lit (.bool false)], args := [d1, d2] }
  | _ => none }
def PointsOwnWrongFalsely : Prop := pointsOwnRow.holds Try.pinned (OpenSpec.ofChange pointsOwnWrong)

/- THE SECOND FORM. 'bulk': how many values and letters a reading holds, each counted each time it is reached (what is shared counts as often as it is met; a slice's spare places count too). A statement '..UptoSaid' is the law's where the arguments, and the package variables that the reading takes, are together of bulk at most 1048576: NARROWER than '..Said'. Prove '..Said' where nothing that the law and all that it calls make is longer than what came in: it says more and counts as full. Else prove '..UptoSaid'. A law counts once. -/
mutual
def uptoBulk {H : Type} : DataW H → Nat
  | .lit (.string bytes) => bytes.length + 1
  | .lit _ => 1
  | .nil => 1
  | .ptr d => uptoBulk d + 1
  | .slice elems spare => uptoBulkAll elems + uptoBulkAll spare + 1
  | .agg parts => uptoBulkAll parts + 1
  | .iface _ d => uptoBulk d + 1
  | .map entries => uptoBulkEntries entries + 1
  | .held _ => 1
def uptoBulkAll {H : Type} : List (DataW H) → Nat
  | [] => 0
  | d :: r => uptoBulk d + uptoBulkAll r
def uptoBulkEntries {H : Type} : List (Lit × DataW H) → Nat
  | [] => 0
  | x :: r => uptoBulkEntry x + uptoBulkEntries r
def uptoBulkEntry {H : Type} : Lit × DataW H → Nat
  | (.string bytes, d) => bytes.length + uptoBulk d + 1
  | (_, d) => uptoBulk d + 1
 end
def uptoSmall : (H : Type) → List (DataW H) → Bool := fun _ ds => decide (uptoBulkAll ds ≤ 1048576)
def OpenSpec.upto (s : _root_.Go.ChangeSpec) : _root_.Go.OpenSpec := { _root_.Go.OpenSpec.ofChange s with cond := some uptoSmall }

/-- 'fathomlaw15.PointsAll', WHERE WHAT IT READS IS OF BULK AT MOST 1048576: true; the input reads as it did. -/
def pointsAllUptoRow : OpenClaim := { program := "ytalinonmjhdmaaa", sum := "6e95c15b7d8d87281db3bc78667ff4adc789b0d0ca000c0941f145fa6971290e", func := "fathom/fathomlaw15.PointsAll", spec := "pointsAll", apart := false, narrowed := true }
def PointsAllUptoSaid : Prop := pointsAllUptoRow.holds Try.pinned (OpenSpec.upto pointsAllSpec)

/-- 'fathomlaw15.PointsRise', WHERE WHAT IT READS IS OF BULK AT MOST 1048576: true; the input reads as it did. -/
def pointsRiseUptoRow : OpenClaim := { program := "ytalinonmjhdmaaa", sum := "6e95c15b7d8d87281db3bc78667ff4adc789b0d0ca000c0941f145fa6971290e", func := "fathom/fathomlaw15.PointsRise", spec := "pointsRise", apart := false, narrowed := true }
def PointsRiseUptoSaid : Prop := pointsRiseUptoRow.holds Try.pinned (OpenSpec.upto pointsRiseSpec)

/-- 'fathomlaw15.PointsOwn', WHERE WHAT IT READS IS OF BULK AT MOST 1048576: true; the input reads as it did. -/
def pointsOwnUptoRow : OpenClaim := { program := "ytalinonmjhdmaaa", sum := "6e95c15b7d8d87281db3bc78667ff4adc789b0d0ca000c0941f145fa6971290e", func := "fathom/fathomlaw15.PointsOwn", spec := "pointsOwn", inPlace := ["math.Float64frombits", "math.archTrunc", "math.Float64bits"], apart := false, narrowed := true }
def PointsOwnUptoSaid : Prop := pointsOwnUptoRow.holds Try.pinned (OpenSpec.upto pointsOwnSpec)

end Rows
end Go.Proofs.Ytalinonmjhdmaaa

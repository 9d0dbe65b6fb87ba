/-
  No cell of these rows narrows 'for every input' (looked for: loops, veiled, ifaces, maps, wideKeys, modest, calm, conditions, laid).
  DERIVED. THE GIVEN ROWS OF THIS SEAT. 6 by the template 'for every input the law returns true; each argument reads behind the call as it read before'; 0 by the template 'total and deterministic' (their statements: YtjfiklflmnhbdaaTotals.lean).
  GIVEN WITH THE SEED: the statements are not yours to turn. If you find one false, say at which input.
  Laid BY PROGRAM, IN A SANDBOX (cutbox-rows.mjs): the forced cells as the released guide's own fill.sh prints them over the translation 3469cf2c0abf15e9… (all of the seat's roots in one cut). By AI agents, Wed Nov 11 2026. No macro, syntax, notation, axiom, sorry.
-/
import Derived.Test.YtjfiklflmnhbdaaChecked
import GoSem.Claim
import GoSem.ClaimJoined
import GoSem.ClaimMapViews
import Derived.JoinedTies
import Derived.KernelRfl
namespace Go.Proofs.Ytjfiklflmnhbdaa
/- THE CELL 'sum', in the pinned program and in every row, IS THE sha256 OF THE DUMP (.gsa) THAT YtjfiklflmnhbdaaProg.lean LOADS. Nothing in Lean hashes anything: it is a label: what it is worth is what the hold of that sum in a sandbox is worth. -/
noncomputable def Try.pinned : Pinned := { name := "ytjfiklflmnhbdaa", sum := "3469cf2c0abf15e986f1ee99f6b979e98e7462313727f303946ae798ab2d0602", checked := Try.checked }
namespace Rows
def none {H : Type} : Left H := { results := [], args := [] }

/-- 'fathomlaw16.TuplesNumbers': WHATEVER THE INPUT: true; the input reads as it did. -/
def tuplesNumbersSpec : ChangeSpec := { name := "tuplesNumbers", fn := fun _ => fun
  | [d1, d2, d3] => { results := [.lit (.bool true)], args := [d1, d2, d3] }
  | _ => none }
def tuplesNumbersRow : OpenClaim := { program := "ytjfiklflmnhbdaa", sum := "3469cf2c0abf15e986f1ee99f6b979e98e7462313727f303946ae798ab2d0602", func := "fathom/fathomlaw16.TuplesNumbers", spec := "tuplesNumbers", unfollowed := true, recurses := true, apart := false }
def TuplesNumbersSaid : Prop := tuplesNumbersRow.holds Try.pinned (OpenSpec.ofChange tuplesNumbersSpec)

/-- ITS FALSE NEIGHBOUR: 'it returns false'. Refute it at one input. -/
def tuplesNumbersWrong : ChangeSpec := { name := "tuplesNumbers", fn := fun _ => fun
  | [d1, d2, d3] => { results := [.lit (.bool false)], args := [d1, d2, d3] }
  | _ => none }
def TuplesNumbersWrongFalsely : Prop := tuplesNumbersRow.holds Try.pinned (OpenSpec.ofChange tuplesNumbersWrong)

/-- 'fathomlaw16.TuplesTables': WHATEVER THE INPUT: true; the input reads as it did. -/
def tuplesTablesSpec : ChangeSpec := { name := "tuplesTables", fn := fun _ => fun
  | [d1, d2, d3] => { results := [.lit (.bool true)], args := [d1, d2, d3] }
  | _ => none }
def tuplesTablesRow : OpenClaim := { program := "ytjfiklflmnhbdaa", sum := "3469cf2c0abf15e986f1ee99f6b979e98e7462313727f303946ae798ab2d0602", func := "fathom/fathomlaw16.TuplesTables", spec := "tuplesTables", unfollowed := true, recurses := true, apart := false }
def TuplesTablesSaid : Prop := tuplesTablesRow.holds Try.pinned (OpenSpec.ofChange tuplesTablesSpec)

/-- ITS FALSE NEIGHBOUR: 'it returns false'. Refute it at one input. -/
def tuplesTablesWrong : ChangeSpec := { name := "tuplesTables", fn := fun _ => fun
  | [d1, d2, d3] => { results := [.lit (.bool false)], args := [d1, d2, d3] }
  | _ => none }
def TuplesTablesWrongFalsely : Prop := tuplesTablesRow.holds Try.pinned (OpenSpec.ofChange tuplesTablesWrong)

/-- 'fathomlaw16.TuplesOne': WHATEVER THE INPUT: true; the input reads as it did. -/
def tuplesOneSpec : ChangeSpec := { name := "tuplesOne", fn := fun _ => fun
  | [d1, d2, d3] => { results := [.lit (.bool true)], args := [d1, d2, d3] }
  | _ => none }
def tuplesOneRow : OpenClaim := { program := "ytjfiklflmnhbdaa", sum := "3469cf2c0abf15e986f1ee99f6b979e98e7462313727f303946ae798ab2d0602", func := "fathom/fathomlaw16.TuplesOne", spec := "tuplesOne", unfollowed := true, recurses := true, apart := false }
def TuplesOneSaid : Prop := tuplesOneRow.holds Try.pinned (OpenSpec.ofChange tuplesOneSpec)

/-- ITS FALSE NEIGHBOUR: 'it returns false'. Refute it at one input. -/
def tuplesOneWrong : ChangeSpec := { name := "tuplesOne", fn := fun _ => fun
  | [d1, d2, d3] => { results := [.lit (.bool false)], args := [d1, d2, d3] }
  | _ => none }
def TuplesOneWrongFalsely : Prop := tuplesOneRow.holds Try.pinned (OpenSpec.ofChange tuplesOneWrong)

/-- 'fathomlaw16.TuplesSet': WHATEVER THE INPUT: true; the input reads as it did. -/
def tuplesSetSpec : ChangeSpec := { name := "tuplesSet", fn := fun _ => fun
  | [d1, d2, d3, d4] => { results := [.lit (.bool true)], args := [d1, d2, d3, d4] }
  | _ => none }
def tuplesSetRow : OpenClaim := { program := "ytjfiklflmnhbdaa", sum := "3469cf2c0abf15e986f1ee99f6b979e98e7462313727f303946ae798ab2d0602", func := "fathom/fathomlaw16.TuplesSet", spec := "tuplesSet", unfollowed := true, recurses := true, apart := false }
def TuplesSetSaid : Prop := tuplesSetRow.holds Try.pinned (OpenSpec.ofChange tuplesSetSpec)

/-- ITS FALSE NEIGHBOUR: 'it returns false'. Refute it at one input. -/
def tuplesSetWrong : ChangeSpec := { name := "tuplesSet", fn := fun _ => fun
  | [d1, d2, d3, d4] => { results := [.lit (.bool false)], args := [d1, d2, d3, d4] }
  | _ => none }
def TuplesSetWrongFalsely : Prop := tuplesSetRow.holds Try.pinned (OpenSpec.ofChange tuplesSetWrong)

/-- 'fathomlaw16.TuplesKeep': WHATEVER THE INPUT: true; the input reads as it did. -/
def tuplesKeepSpec : ChangeSpec := { name := "tuplesKeep", fn := fun _ => fun
  | [d1, d2, d3] => { results := [.lit (.bool true)], args := [d1, d2, d3] }
  | _ => none }
def tuplesKeepRow : OpenClaim := { program := "ytjfiklflmnhbdaa", sum := "3469cf2c0abf15e986f1ee99f6b979e98e7462313727f303946ae798ab2d0602", func := "fathom/fathomlaw16.TuplesKeep", spec := "tuplesKeep", unfollowed := true, recurses := true, apart := false }
def TuplesKeepSaid : Prop := tuplesKeepRow.holds Try.pinned (OpenSpec.ofChange tuplesKeepSpec)

/-- ITS FALSE NEIGHBOUR: 'it returns false'. Refute it at one input. -/
def tuplesKeepWrong : ChangeSpec := { name := "tuplesKeep", fn := fun _ => fun
  | [d1, d2, d3] => { results := [.lit (.bool false)], args := [d1, d2, d3] }
  | _ => none }
def TuplesKeepWrongFalsely : Prop := tuplesKeepRow.holds Try.pinned (OpenSpec.ofChange tuplesKeepWrong)

/-- 'fathomlaw16.TuplesJoin': WHATEVER THE INPUT: true; the input reads as it did. -/
def tuplesJoinSpec : ChangeSpec := { name := "tuplesJoin", fn := fun _ => fun
  | [d1, d2] => { results := [.lit (.bool true)], args := [d1, d2] }
  | _ => none }
def tuplesJoinRow : OpenClaim := { program := "ytjfiklflmnhbdaa", sum := "3469cf2c0abf15e986f1ee99f6b979e98e7462313727f303946ae798ab2d0602", func := "fathom/fathomlaw16.TuplesJoin", spec := "tuplesJoin", unfollowed := true, recurses := true, apart := false }
def TuplesJoinSaid : Prop := tuplesJoinRow.holds Try.pinned (OpenSpec.ofChange tuplesJoinSpec)

/-- ITS FALSE NEIGHBOUR: 'it returns false'. Refute it at one input. -/
def tuplesJoinWrong : ChangeSpec := { name := "tuplesJoin", fn := fun _ => fun
  | [d1, d2] => { results := [.lit (.bool false)], args := [d1, d2] }
  | _ => none }
def TuplesJoinWrongFalsely : Prop := tuplesJoinRow.holds Try.pinned (OpenSpec.ofChange tuplesJoinWrong)

/- THE SECOND FORM. 'bulk': how many values and letters a reading holds, each counted each time it is reached (what is shared counts as often as it is met; a slice's spare places count too). A statement '..UptoSaid' is the law's where the arguments, and the package variables that the reading takes, are together of bulk at most 1048576: NARROWER than '..Said'. Prove '..Said' where nothing that the law and all that it calls make is longer than what came in: it says more and counts as full. Else prove '..UptoSaid'. A law counts once. -/
mutual
def uptoBulk {H : Type} : DataW H → Nat
  | .lit (.string bytes) => bytes.length + 1
  | .lit _ => 1
  | .nil => 1
  | .ptr d => uptoBulk d + 1
  | .slice elems spare => uptoBulkAll elems + uptoBulkAll spare + 1
  | .agg parts => uptoBulkAll parts + 1
  | .iface _ d => uptoBulk d + 1
  | .map entries => uptoBulkEntries entries + 1
  | .held _ => 1
def uptoBulkAll {H : Type} : List (DataW H) → Nat
  | [] => 0
  | d :: r => uptoBulk d + uptoBulkAll r
def uptoBulkEntries {H : Type} : List (Lit × DataW H) → Nat
  | [] => 0
  | x :: r => uptoBulkEntry x + uptoBulkEntries r
def uptoBulkEntry {H : Type} : Lit × DataW H → Nat
  | (.string bytes, d) => bytes.length + uptoBulk d + 1
  | (_, d) => uptoBulk d + 1
 end
def uptoSmall : (H : Type) → List (DataW H) → Bool := fun _ ds => decide (uptoBulkAll ds ≤ 1048576)
def OpenSpec.upto (s : _root_.Go.ChangeSpec) : _root_.Go.OpenSpec := { _root_.Go.OpenSpec.ofChange s with cond := some uptoSmall }

/-- 'fathomlaw16.TuplesNumbers', WHERE WHAT IT READS IS OF BULK AT MOST 1048576: true; the input reads as it did. -/
def tuplesNumbersUptoRow : OpenClaim := { program := "ytjfiklflmnhbdaa", sum := "3469cf2c0abf15e986f1ee99f6b979e98e7462313727f303946ae798ab2d0602", func := "fathom/fathomlaw16.TuplesNumbers", spec := "tuplesNumbers", unfollowed := true, recurses := true, apart := false, narrowed := true }
def TuplesNumbersUptoSaid : Prop := tuplesNumbersUptoRow.holds Try.pinned (OpenSpec.upto tuplesNumbersSpec)

/-- 'fathomlaw16.TuplesTables', WHERE WHAT IT READS IS OF BULK AT MOST 1048576: true; the input reads as it did. -/
def tuplesTablesUptoRow : OpenClaim := { program := "ytjfiklflmnhbdaa", sum := "3469cf2c0abf15e986f1ee99f6b979e98e7462313727f303946ae798ab2d0602", func := "fathom/fathomlaw16.TuplesTables", spec := "tuplesTables", unfollowed := true, recurses := true, apart := false, narrowed := true }
def TuplesTablesUptoSaid : Prop := tuplesTablesUptoRow.holds Try.pinned (OpenSpec.upto tuplesTablesSpec)

/-- 'fathomlaw16.TuplesOne', WHERE WHAT IT READS IS OF BULK AT MOST 1048576: true; the input reads as it did. -/
def tuplesOneUptoRow : OpenClaim := { program := "ytjfiklflmnhbdaa", sum := "3469cf2c0abf15e986f1ee99f6b979e98e7462313727f303946ae798ab2d0602", func := "fathom/fathomlaw16.TuplesOne", spec := "tuplesOne", unfollowed := true, recurses := true, apart := false, narrowed := true }
def TuplesOneUptoSaid : Prop := tuplesOneUptoRow.holds Try.pinned (OpenSpec.upto tuplesOneSpec)

/-- 'fathomlaw16.TuplesSet', WHERE WHAT IT READS IS OF BULK AT MOST 1048576: true; the input reads as it did. -/
def tuplesSetUptoRow : OpenClaim := { program := "ytjfiklflmnhbdaa", sum := "3469cf2c0abf15e986f1ee99f6b979e98e7462313727f303946ae798ab2d0602", func := "fathom/fathomlaw16.TuplesSet", spec := "tuplesSet", unfollowed := true, recurses := true, apart := false, narrowed := true }
def TuplesSetUptoSaid : Prop := tuplesSetUptoRow.holds Try.pinned (OpenSpec.upto tuplesSetSpec)

/-- 'fathomlaw16.TuplesKeep', WHERE WHAT IT READS IS OF BULK AT MOST 1048576: true; the input reads as it did. -/
def tuplesKeepUptoRow : OpenClaim := { program := "ytjfiklflmnhbdaa", sum := "3469cf2c0abf15e986f1ee99f6b979e98e7462313727f303946ae798ab2d0602", func := "fathom/fathomlaw16.TuplesKeep", spec := "tuplesKeep", unfollowed := true, recurses := true, apart := false, narrowed := true }
def TuplesKeepUptoSaid : Prop := tuplesKeepUptoRow.holds Try.pinned (OpenSpec.upto tuplesKeepSpec)

/-- 'fathomlaw16.TuplesJoin', WHERE WHAT IT READS IS OF BULK AT MOST 1048576: true; the input reads as it did. -/
def tuplesJoinUptoRow : OpenClaim := { program := "ytjfiklflmnhbdaa", sum := "3469cf2c0abf15e986f1ee99f6b979e98e7462313727f303946ae798ab2d0602", func := "fathom/fathomlaw16.TuplesJoin", spec := "tuplesJoin", unfollowed := true, recurses := true, apart := false, narrowed := true }
def TuplesJoinUptoSaid : Prop := tuplesJoinUptoRow.holds Try.pinned (OpenSpec.upto tuplesJoinSpec)

end Rows
end Go.Proofs.Ytjfiklflmnhbdaa

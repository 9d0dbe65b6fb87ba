/-
  No cell of these rows narrows 'for every input' (looked for: loops, veiled, ifaces, maps, wideKeys, modest, calm, conditions, laid).
  DERIVED. THE GIVEN ROWS OF THIS SEAT. 7 by the template 'for every input the law returns true; each argument reads behind the call as it read before'; 0 by the template 'total and deterministic' (their statements: YtaghjpoijodgfaaTotals.lean).
  GIVEN WITH THE SEED: the statements are not yours to turn. If you find one false, say at which input.
  Laid BY PROGRAM, IN A SANDBOX (cutbox-rows.mjs): the forced cells as the released guide's own fill.sh prints them over the translation 45d1e39f3d9562a2… (all of the seat's roots in one cut). By AI agents, Wed Nov 11 2026. No macro, syntax, notation, axiom, sorry.
-/
import Derived.Test.YtaghjpoijodgfaaChecked
import GoSem.Claim
import GoSem.ClaimJoined
import GoSem.ClaimMapViews
import Derived.JoinedTies
import Derived.KernelRfl
namespace Go.Proofs.Ytaghjpoijodgfaa
/- THE CELL 'sum', in the pinned program and in every row, IS THE sha256 OF THE DUMP (.gsa) THAT YtaghjpoijodgfaaProg.lean LOADS. Nothing in Lean hashes anything: it is a label: what it is worth is what the hold of that sum in a sandbox is worth. -/
noncomputable def Try.pinned : Pinned := { name := "ytaghjpoijodgfaa", sum := "45d1e39f3d9562a256131eedc547996d8507af463bff587281eace7bfb22f523", checked := Try.checked }
namespace Rows
def none {H : Type} : Left H := { results := [], args := [] }

/-- 'fathomlaw02.RowsMakes': WHATEVER THE INPUT: true; the input reads as it did. -/
def rowsMakesSpec : ChangeSpec := { name := "rowsMakes", fn := fun _ => fun
  | [d1, d2] => { results := [.lit (.bool true)], args := [d1, d2] }
  | _ => none }
def rowsMakesRow : OpenClaim := { program := "ytaghjpoijodgfaa", sum := "45d1e39f3d9562a256131eedc547996d8507af463bff587281eace7bfb22f523", func := "fathom/fathomlaw02.RowsMakes", spec := "rowsMakes", apart := false }
def RowsMakesSaid : Prop := rowsMakesRow.holds Try.pinned (OpenSpec.ofChange rowsMakesSpec)

/-- ITS FALSE NEIGHBOUR: 'it returns false'. Refute it at one input. -/
def rowsMakesWrong : ChangeSpec := { name := "rowsMakes", fn := fun _ => fun
  | [d1, d2] => { results := [.lit (.bool false)], args := [d1, d2] }
  | _ => none }
def RowsMakesWrongFalsely : Prop := rowsMakesRow.holds Try.pinned (OpenSpec.ofChange rowsMakesWrong)

/-- 'fathomlaw02.RowsKeep': WHATEVER THE INPUT: true; the input reads as it did. -/
def rowsKeepSpec : ChangeSpec := { name := "rowsKeep", fn := fun _ => fun
  | [d1, d2, d3, d4] => { results := [.lit (.bool true)], args := [d1, d2, d3, d4] }
  | _ => none }
def rowsKeepRow : OpenClaim := { program := "ytaghjpoijodgfaa", sum := "45d1e39f3d9562a256131eedc547996d8507af463bff587281eace7bfb22f523", func := "fathom/fathomlaw02.RowsKeep", spec := "rowsKeep", unfollowed := true, recurses := true, apart := false }
def RowsKeepSaid : Prop := rowsKeepRow.holds Try.pinned (OpenSpec.ofChange rowsKeepSpec)

/-- ITS FALSE NEIGHBOUR: 'it returns false'. Refute it at one input. -/
def rowsKeepWrong : ChangeSpec := { name := "rowsKeep", fn := fun _ => fun
  | [d1, d2, d3, d4] => { results := [.lit (.bool false)], args := [d1, d2, d3, d4] }
  | _ => none }
def RowsKeepWrongFalsely : Prop := rowsKeepRow.holds Try.pinned (OpenSpec.ofChange rowsKeepWrong)

/-- 'fathomlaw02.RowsPairs': WHATEVER THE INPUT: true; the input reads as it did. -/
def rowsPairsSpec : ChangeSpec := { name := "rowsPairs", fn := fun _ => fun
  | [d1, d2] => { results := [.lit (.bool true)], args := [d1, d2] }
  | _ => none }
def rowsPairsRow : OpenClaim := { program := "ytaghjpoijodgfaa", sum := "45d1e39f3d9562a256131eedc547996d8507af463bff587281eace7bfb22f523", func := "fathom/fathomlaw02.RowsPairs", spec := "rowsPairs", unfollowed := true, recurses := true, apart := false }
def RowsPairsSaid : Prop := rowsPairsRow.holds Try.pinned (OpenSpec.ofChange rowsPairsSpec)

/-- ITS FALSE NEIGHBOUR: 'it returns false'. Refute it at one input. -/
def rowsPairsWrong : ChangeSpec := { name := "rowsPairs", fn := fun _ => fun
  | [d1, d2] => { results := [.lit (.bool false)], args := [d1, d2] }
  | _ => none }
def RowsPairsWrongFalsely : Prop := rowsPairsRow.holds Try.pinned (OpenSpec.ofChange rowsPairsWrong)

/-- 'fathomlaw02.RowsLattice': WHATEVER THE INPUT: true; the input reads as it did. -/
def rowsLatticeSpec : ChangeSpec := { name := "rowsLattice", fn := fun _ => fun
  | [d1, d2, d3] => { results := [.lit (.bool true)], args := [d1, d2, d3] }
  | _ => none }
def rowsLatticeRow : OpenClaim := { program := "ytaghjpoijodgfaa", sum := "45d1e39f3d9562a256131eedc547996d8507af463bff587281eace7bfb22f523", func := "fathom/fathomlaw02.RowsLattice", spec := "rowsLattice", unfollowed := true, recurses := true, apart := false }
def RowsLatticeSaid : Prop := rowsLatticeRow.holds Try.pinned (OpenSpec.ofChange rowsLatticeSpec)

/-- ITS FALSE NEIGHBOUR: 'it returns false'. Refute it at one input. -/
def rowsLatticeWrong : ChangeSpec := { name := "rowsLattice", fn := fun _ => fun
  | [d1, d2, d3] => { results := [.lit (.bool false)], args := [d1, d2, d3] }
  | _ => none }
def RowsLatticeWrongFalsely : Prop := rowsLatticeRow.holds Try.pinned (OpenSpec.ofChange rowsLatticeWrong)

/-- 'fathomlaw02.RowsOrder': WHATEVER THE INPUT: true; the input reads as it did. -/
def rowsOrderSpec : ChangeSpec := { name := "rowsOrder", fn := fun _ => fun
  | [d1, d2, d3] => { results := [.lit (.bool true)], args := [d1, d2, d3] }
  | _ => none }
def rowsOrderRow : OpenClaim := { program := "ytaghjpoijodgfaa", sum := "45d1e39f3d9562a256131eedc547996d8507af463bff587281eace7bfb22f523", func := "fathom/fathomlaw02.RowsOrder", spec := "rowsOrder", unfollowed := true, recurses := true, apart := false }
def RowsOrderSaid : Prop := rowsOrderRow.holds Try.pinned (OpenSpec.ofChange rowsOrderSpec)

/-- ITS FALSE NEIGHBOUR: 'it returns false'. Refute it at one input. -/
def rowsOrderWrong : ChangeSpec := { name := "rowsOrder", fn := fun _ => fun
  | [d1, d2, d3] => { results := [.lit (.bool false)], args := [d1, d2, d3] }
  | _ => none }
def RowsOrderWrongFalsely : Prop := rowsOrderRow.holds Try.pinned (OpenSpec.ofChange rowsOrderWrong)

/-- 'fathomlaw02.RowsCells': WHATEVER THE INPUT: true; the input reads as it did. -/
def rowsCellsSpec : ChangeSpec := { name := "rowsCells", fn := fun _ => fun
  | [d1, d2, d3] => { results := [.lit (.bool true)], args := [d1, d2, d3] }
  | _ => none }
def rowsCellsRow : OpenClaim := { program := "ytaghjpoijodgfaa", sum := "45d1e39f3d9562a256131eedc547996d8507af463bff587281eace7bfb22f523", func := "fathom/fathomlaw02.RowsCells", spec := "rowsCells", apart := false }
def RowsCellsSaid : Prop := rowsCellsRow.holds Try.pinned (OpenSpec.ofChange rowsCellsSpec)

/-- ITS FALSE NEIGHBOUR: 'it returns false'. Refute it at one input. -/
def rowsCellsWrong : ChangeSpec := { name := "rowsCells", fn := fun _ => fun
  | [d1, d2, d3] => { results := [.lit (.bool false)], args := [d1, d2, d3] }
  | _ => none }
def RowsCellsWrongFalsely : Prop := rowsCellsRow.holds Try.pinned (OpenSpec.ofChange rowsCellsWrong)

/-- 'fathomlaw02.RowsPuts': WHATEVER THE INPUT: true; the input reads as it did. -/
def rowsPutsSpec : ChangeSpec := { name := "rowsPuts", fn := fun _ => fun
  | [d1, d2, d3, d4] => { results := [.lit (.bool true)], args := [d1, d2, d3, d4] }
  | _ => none }
def rowsPutsRow : OpenClaim := { program := "ytaghjpoijodgfaa", sum := "45d1e39f3d9562a256131eedc547996d8507af463bff587281eace7bfb22f523", func := "fathom/fathomlaw02.RowsPuts", spec := "rowsPuts", apart := false }
def RowsPutsSaid : Prop := rowsPutsRow.holds Try.pinned (OpenSpec.ofChange rowsPutsSpec)

/-- ITS FALSE NEIGHBOUR: 'it returns false'. Refute it at one input. -/
def rowsPutsWrong : ChangeSpec := { name := "rowsPuts", fn := fun _ => fun
  | [d1, d2, d3, d4] => { results := [.lit (.bool false)], args := [d1, d2, d3, d4] }
  | _ => none }
def RowsPutsWrongFalsely : Prop := rowsPutsRow.holds Try.pinned (OpenSpec.ofChange rowsPutsWrong)

/- THE SECOND FORM. 'bulk': how many values and letters a reading holds, each counted each time it is reached (what is shared counts as often as it is met; a slice's spare places count too). A statement '..UptoSaid' is the law's where the arguments, and the package variables that the reading takes, are together of bulk at most 1048576: NARROWER than '..Said'. Prove '..Said' where nothing that the law and all that it calls make is longer than what came in: it says more and counts as full. Else prove '..UptoSaid'. A law counts once. -/
mutual
def uptoBulk {H : Type} : DataW H → Nat
  | .lit (.string bytes) => bytes.length + 1
  | .lit _ => 1
  | .nil => 1
  | .ptr d => uptoBulk d + 1
  | .slice elems spare => uptoBulkAll elems + uptoBulkAll spare + 1
  | .agg parts => uptoBulkAll parts + 1
  | .iface _ d => uptoBulk d + 1
  | .map entries => uptoBulkEntries entries + 1
  | .held _ => 1
def uptoBulkAll {H : Type} : List (DataW H) → Nat
  | [] => 0
  | d :: r => uptoBulk d + uptoBulkAll r
def uptoBulkEntries {H : Type} : List (Lit × DataW H) → Nat
  | [] => 0
  | x :: r => uptoBulkEntry x + uptoBulkEntries r
def uptoBulkEntry {H : Type} : Lit × DataW H → Nat
  | (.string bytes, d) => bytes.length + uptoBulk d + 1
  | (_, d) => uptoBulk d + 1
 end
def uptoSmall : (H : Type) → List (DataW H) → Bool := fun _ ds => decide (uptoBulkAll ds ≤ 1048576)
def OpenSpec.upto (s : _root_.Go.ChangeSpec) : _root_.Go.OpenSpec := { _root_.Go.OpenSpec.ofChange s with cond := some uptoSmall }

/-- 'fathomlaw02.RowsMakes', WHERE WHAT IT READS IS OF BULK AT MOST 1048576: true; the input reads as it did. -/
def rowsMakesUptoRow : OpenClaim := { program := "ytaghjpoijodgfaa", sum := "45d1e39f3d9562a256131eedc547996d8507af463bff587281eace7bfb22f523", func := "fathom/fathomlaw02.RowsMakes", spec := "rowsMakes", apart := false, narrowed := true }
def RowsMakesUptoSaid : Prop := rowsMakesUptoRow.holds Try.pinned (OpenSpec.upto rowsMakesSpec)

/-- 'fathomlaw02.RowsKeep', WHERE WHAT IT READS IS OF BULK AT MOST 1048576: true; the input reads as it did. -/
def rowsKeepUptoRow : OpenClaim := { program := "ytaghjpoijodgfaa", sum := "45d1e39f3d9562a256131eedc547996d8507af463bff587281eace7bfb22f523", func := "fathom/fathomlaw02.RowsKeep", spec := "rowsKeep", unfollowed := true, recurses := true, apart := false, narrowed := true }
def RowsKeepUptoSaid : Prop := rowsKeepUptoRow.holds Try.pinned (OpenSpec.upto rowsKeepSpec)

/-- 'fathomlaw02.RowsPairs', WHERE WHAT IT READS IS OF BULK AT MOST 1048576: true; the input reads as it did. -/
def rowsPairsUptoRow : OpenClaim := { program := "ytaghjpoijodgfaa", sum := "45d1e39f3d9562a256131eedc547996d8507af463bff587281eace7bfb22f523", func := "fathom/fathomlaw02.RowsPairs", spec := "rowsPairs", unfollowed := true, recurses := true, apart := false, narrowed := true }
def RowsPairsUptoSaid : Prop := rowsPairsUptoRow.holds Try.pinned (OpenSpec.upto rowsPairsSpec)

/-- 'fathomlaw02.RowsLattice', WHERE WHAT IT READS IS OF BULK AT MOST 1048576: true; the input reads as it did. -/
def rowsLatticeUptoRow : OpenClaim := { program := "ytaghjpoijodgfaa", sum := "45d1e39f3d9562a256131eedc547996d8507af463bff587281eace7bfb22f523", func := "fathom/fathomlaw02.RowsLattice", spec := "rowsLattice", unfollowed := true, recurses := true, apart := false, narrowed := true }
def RowsLatticeUptoSaid : Prop := rowsLatticeUptoRow.holds Try.pinned (OpenSpec.upto rowsLatticeSpec)

/-- 'fathomlaw02.RowsOrder', WHERE WHAT IT READS IS OF BULK AT MOST 1048576: true; the input reads as it did. -/
def rowsOrderUptoRow : OpenClaim := { program := "ytaghjpoijodgfaa", sum := "45d1e39f3d9562a256131eedc547996d8507af463bff587281eace7bfb22f523", func := "fathom/fathomlaw02.RowsOrder", spec := "rowsOrder", unfollowed := true, recurses := true, apart := false, narrowed := true }
def RowsOrderUptoSaid : Prop := rowsOrderUptoRow.holds Try.pinned (OpenSpec.upto rowsOrderSpec)

/-- 'fathomlaw02.RowsCells', WHERE WHAT IT READS IS OF BULK AT MOST 1048576: true; the input reads as it did. -/
def rowsCellsUptoRow : OpenClaim := { program := "ytaghjpoijodgfaa", sum := "45d1e39f3d9562a256131eedc547996d8507af463bff587281eace7bfb22f523", func := "fathom/fathomlaw02.RowsCells", spec := "rowsCells", apart := false, narrowed := true }
def RowsCellsUptoSaid : Prop := rowsCellsUptoRow.holds Try.pinned (OpenSpec.upto rowsCellsSpec)

/-- 'fathomlaw02.RowsPuts', WHERE WHAT IT READS IS OF BULK AT MOST 1048576: true; the input reads as it did. -/
def rowsPutsUptoRow : OpenClaim := { program := "ytaghjpoijodgfaa", sum := "45d1e39f3d9562a256131eedc547996d8507af463bff587281eace7bfb22f523", func := "fathom/fathomlaw02.RowsPuts", spec := "rowsPuts", apart := false, narrowed := true }
def RowsPutsUptoSaid : Prop := rowsPutsUptoRow.holds Try.pinned (OpenSpec.upto rowsPutsSpec)

end Rows
end Go.Proofs.Ytaghjpoijodgfaa

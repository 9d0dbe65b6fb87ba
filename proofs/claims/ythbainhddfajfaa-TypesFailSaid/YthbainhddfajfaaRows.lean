/-
  No cell of these rows narrows 'for every input' (looked for: loops, veiled, ifaces, maps, wideKeys, modest, calm, conditions, laid).
  DERIVED. THE GIVEN ROWS OF THIS SEAT. 5 by the template 'for every input the law returns true; each argument reads behind the call as it read before'; 0 by the template 'total and deterministic' (their statements: YthbainhddfajfaaTotals.lean).
  GIVEN WITH THE SEED: the statements are not yours to turn. If you find one false, say at which input.
  Laid BY PROGRAM, IN A SANDBOX (cutbox-rows.mjs): the forced cells as the released guide's own fill.sh prints them over the translation 9669003ff6b02803… (all of the seat's roots in one cut). By AI agents, Wed Nov 11 2026. No macro, syntax, notation, axiom, sorry.
-/
import Derived.Test.YthbainhddfajfaaChecked
import GoSem.Claim
import GoSem.ClaimJoined
import GoSem.ClaimMapViews
import Derived.JoinedTies
import Derived.KernelRfl
namespace Go.Proofs.Ythbainhddfajfaa
/- THE CELL 'sum', in the pinned program and in every row, IS THE sha256 OF THE DUMP (.gsa) THAT YthbainhddfajfaaProg.lean LOADS. Nothing in Lean hashes anything: it is a label: what it is worth is what the hold of that sum in a sandbox is worth. -/
noncomputable def Try.pinned : Pinned := { name := "ythbainhddfajfaa", sum := "9669003ff6b028032c4e65c1f082377847d87171982877464e54d609360b506f", checked := Try.checked }
namespace Rows
def none {H : Type} : Left H := { results := [], args := [] }

/-- 'fathomlaw07.TypesChecks': WHATEVER THE INPUT: true; the input reads as it did. -/
def typesChecksSpec : ChangeSpec := { name := "typesChecks", fn := fun _ => fun
  | [d] => { results := [.lit (.bool true)], args := [d] }
  | _ => none }
def typesChecksRow : OpenClaim := { program := "ythbainhddfajfaa", sum := "9669003ff6b028032c4e65c1f082377847d87171982877464e54d609360b506f", func := "fathom/fathomlaw07.TypesChecks", spec := "typesChecks", unfollowed := true, recurses := true, apart := false }
def TypesChecksSaid : Prop := typesChecksRow.holds Try.pinned (OpenSpec.ofChange typesChecksSpec)

/-- ITS FALSE NEIGHBOUR: 'it returns false'. Refute it at one input. -/
def typesChecksWrong : ChangeSpec := { name := "typesChecks", fn := fun _ => fun
  | [d] => { results := [.lit (.bool false)], args := [d] }
  | _ => none }
def TypesChecksWrongFalsely : Prop := typesChecksRow.holds Try.pinned (OpenSpec.ofChange typesChecksWrong)

/-- 'fathomlaw07.TypesBodies': WHATEVER THE INPUT: true; the input reads as it did. -/
def typesBodiesSpec : ChangeSpec := { name := "typesBodies", fn := fun _ => fun
  | [d] => { results := [.lit (.bool true)], args := [d] }
  | _ => none }
def typesBodiesRow : OpenClaim := { program := "ythbainhddfajfaa", sum := "9669003ff6b028032c4e65c1f082377847d87171982877464e54d609360b506f", func := "fathom/fathomlaw07.TypesBodies", spec := "typesBodies", unfollowed := true, recurses := true, apart := false }
def TypesBodiesSaid : Prop := typesBodiesRow.holds Try.pinned (OpenSpec.ofChange typesBodiesSpec)

/-- ITS FALSE NEIGHBOUR: 'it returns false'. Refute it at one input. -/
def typesBodiesWrong : ChangeSpec := { name := "typesBodies", fn := fun _ => fun
  | [d] => { results := [.lit (.bool false)], args := [d] }
  | _ => none }
def TypesBodiesWrongFalsely : Prop := typesBodiesRow.holds Try.pinned (OpenSpec.ofChange typesBodiesWrong)

/-- 'fathomlaw07.TypesTurn': WHATEVER THE INPUT: true; the input reads as it did. -/
def typesTurnSpec : ChangeSpec := { name := "typesTurn", fn := fun _ => fun
  | [d1, d2, d3] => { results := [.lit (.bool true)], args := [d1, d2, d3] }
  | _ => none }
def typesTurnRow : OpenClaim := { program := "ythbainhddfajfaa", sum := "9669003ff6b028032c4e65c1f082377847d87171982877464e54d609360b506f", func := "fathom/fathomlaw07.TypesTurn", spec := "typesTurn", unfollowed := true, recurses := true, apart := false }
def TypesTurnSaid : Prop := typesTurnRow.holds Try.pinned (OpenSpec.ofChange typesTurnSpec)

/-- ITS FALSE NEIGHBOUR: 'it returns false'. Refute it at one input. -/
def typesTurnWrong : ChangeSpec := { name := "typesTurn", fn := fun _ => fun
  | [d1, d2, d3] => { results := [.lit (.bool false)], args := [d1, d2, d3] }
  | _ => none }
def TypesTurnWrongFalsely : Prop := typesTurnRow.holds Try.pinned (OpenSpec.ofChange typesTurnWrong)

/-- 'fathomlaw07.TypesKeep': WHATEVER THE INPUT: true; the input reads as it did. -/
def typesKeepSpec : ChangeSpec := { name := "typesKeep", fn := fun _ => fun
  | [d1, d2] => { results := [.lit (.bool true)], args := [d1, d2] }
  | _ => none }
def typesKeepRow : OpenClaim := { program := "ythbainhddfajfaa", sum := "9669003ff6b028032c4e65c1f082377847d87171982877464e54d609360b506f", func := "fathom/fathomlaw07.TypesKeep", spec := "typesKeep", unfollowed := true, recurses := true, apart := false }
def TypesKeepSaid : Prop := typesKeepRow.holds Try.pinned (OpenSpec.ofChange typesKeepSpec)

/-- ITS FALSE NEIGHBOUR: 'it returns false'. Refute it at one input. -/
def typesKeepWrong : ChangeSpec := { name := "typesKeep", fn := fun _ => fun
  | [d1, d2] => { results := [.lit (.bool false)], args := [d1, d2] }
  | _ => none }
def TypesKeepWrongFalsely : Prop := typesKeepRow.holds Try.pinned (OpenSpec.ofChange typesKeepWrong)

/-- 'fathomlaw07.TypesFail': WHATEVER THE INPUT: true; the input reads as it did. -/
def typesFailSpec : ChangeSpec := { name := "typesFail", fn := fun _ => fun
  | [d1, d2, d3] => { results := [.lit (.bool true)], args := [d1, d2, d3] }
  | _ => none }
def typesFailRow : OpenClaim := { program := "ythbainhddfajfaa", sum := "9669003ff6b028032c4e65c1f082377847d87171982877464e54d609360b506f", func := "fathom/fathomlaw07.TypesFail", spec := "typesFail", unfollowed := true, recurses := true, apart := false }
def TypesFailSaid : Prop := typesFailRow.holds Try.pinned (OpenSpec.ofChange typesFailSpec)

/-- ITS FALSE NEIGHBOUR: 'it returns false'. Refute it at one input. -/
def typesFailWrong : ChangeSpec := { name := "typesFail", fn := fun _ => fun
  | [d1, d2, d3] => { results := [.lit (.bool false)], args := [d1, d2, d3] }
  | _ => none }
def TypesFailWrongFalsely : Prop := typesFailRow.holds Try.pinned (OpenSpec.ofChange typesFailWrong)

/- THE SECOND FORM. 'bulk': how many values and letters a reading holds, each counted each time it is reached (what is shared counts as often as it is met; a slice's spare places count too). A statement '..UptoSaid' is the law's where the arguments, and the package variables that the reading takes, are together of bulk at most 1048576: NARROWER than '..Said'. Prove '..Said' where nothing that the law and all that it calls make is longer than what came in: it says more and counts as full. Else prove '..UptoSaid'. A law counts once. -/
mutual
def uptoBulk {H : Type} : DataW H → Nat
  | .lit (.string bytes) => bytes.length + 1
  | .lit _ => 1
  | .nil => 1
  | .ptr d => uptoBulk d + 1
  | .slice elems spare => uptoBulkAll elems + uptoBulkAll spare + 1
  | .agg parts => uptoBulkAll parts + 1
  | .iface _ d => uptoBulk d + 1
  | .map entries => uptoBulkEntries entries + 1
  | .held _ => 1
def uptoBulkAll {H : Type} : List (DataW H) → Nat
  | [] => 0
  | d :: r => uptoBulk d + uptoBulkAll r
def uptoBulkEntries {H : Type} : List (Lit × DataW H) → Nat
  | [] => 0
  | x :: r => uptoBulkEntry x + uptoBulkEntries r
def uptoBulkEntry {H : Type} : Lit × DataW H → Nat
  | (.string bytes, d) => bytes.length + uptoBulk d + 1
  | (_, d) => uptoBulk d + 1
 end
def uptoSmall : (H : Type) → List (DataW H) → Bool := fun _ ds => decide (uptoBulkAll ds ≤ 1048576)
def OpenSpec.upto (s : _root_.Go.ChangeSpec) : _root_.Go.OpenSpec := { _root_.Go.OpenSpec.ofChange s with cond := some uptoSmall }

/-- 'fathomlaw07.TypesChecks', WHERE WHAT IT READS IS OF BULK AT MOST 1048576: true; the input reads as it did. -/
def typesChecksUptoRow : OpenClaim := { program := "ythbainhddfajfaa", sum := "9669003ff6b028032c4e65c1f082377847d87171982877464e54d609360b506f", func := "fathom/fathomlaw07.TypesChecks", spec := "typesChecks", unfollowed := true, recurses := true, apart := false, narrowed := true }
def TypesChecksUptoSaid : Prop := typesChecksUptoRow.holds Try.pinned (OpenSpec.upto typesChecksSpec)

/-- 'fathomlaw07.TypesBodies', WHERE WHAT IT READS IS OF BULK AT MOST 1048576: true; the input reads as it did. -/
def typesBodiesUptoRow : OpenClaim := { program := "ythbainhddfajfaa", sum := "9669003ff6b028032c4e65c1f082377847d87171982877464e54d609360b506f", func := "fathom/fathomlaw07.TypesBodies", spec := "typesBodies", unfollowed := true, recurses := true, apart := false, narrowed := true }
def TypesBodiesUptoSaid : Prop := typesBodiesUptoRow.holds Try.pinned (OpenSpec.upto typesBodiesSpec)

/-- 'fathomlaw07.TypesTurn', WHERE WHAT IT READS IS OF BULK AT MOST 1048576: true; the input reads as it did. -/
def typesTurnUptoRow : OpenClaim := { program := "ythbainhddfajfaa", sum := "9669003ff6b028032c4e65c1f082377847d87171982877464e54d609360b506f", func := "fathom/fathomlaw07.TypesTurn", spec := "typesTurn", unfollowed := true, recurses := true, apart := false, narrowed := true }
def TypesTurnUptoSaid : Prop := typesTurnUptoRow.holds Try.pinned (OpenSpec.upto typesTurnSpec)

/-- 'fathomlaw07.TypesKeep', WHERE WHAT IT READS IS OF BULK AT MOST 1048576: true; the input reads as it did. -/
def typesKeepUptoRow : OpenClaim := { program := "ythbainhddfajfaa", sum := "9669003ff6b028032c4e65c1f082377847d87171982877464e54d609360b506f", func := "fathom/fathomlaw07.TypesKeep", spec := "typesKeep", unfollowed := true, recurses := true, apart := false, narrowed := true }
def TypesKeepUptoSaid : Prop := typesKeepUptoRow.holds Try.pinned (OpenSpec.upto typesKeepSpec)

/-- 'fathomlaw07.TypesFail', WHERE WHAT IT READS IS OF BULK AT MOST 1048576: true; the input reads as it did. -/
def typesFailUptoRow : OpenClaim := { program := "ythbainhddfajfaa", sum := "9669003ff6b028032c4e65c1f082377847d87171982877464e54d609360b506f", func := "fathom/fathomlaw07.TypesFail", spec := "typesFail", unfollowed := true, recurses := true, apart := false, narrowed := true }
def TypesFailUptoSaid : Prop := typesFailUptoRow.holds Try.pinned (OpenSpec.upto typesFailSpec)

end Rows
end Go.Proofs.Ythbainhddfajfaa

/-
  DERIVED. GIVEN WITH THE SEED: THE CARDS: each row of YtackkeoannbnbaaDoorRows.lean that lists a variable, with what it lists TIED to the program's text (the seventh form; the later family's looks); each row that meets fmt, with fmt's text TOLD by the authors' own Lean function (tested against real Go, not proved from fmt's source: count such statements apart). THE CARD IS WHAT COUNTS. Prove the row's statement (the work); the ties are given (YtackkeoannbnbaaDoorTie.lean); close each card by the builder's one call (the guide's Derived/Test/ToyasCard.lean, 'card_holds'). Laid BY PROGRAM, IN A SANDBOX (cutbox-door.mjs). By AI agents, Wed Nov 11 2026. No macro, syntax, notation, axiom, sorry.
-/
import Derived.Test.YtackkeoannbnbaaDoorRows
import GoSem.ClaimSeven
namespace Go.Proofs.YtackkeoannbnbaaDoor
namespace Rows

/-- THE TIED CARD OF 'fathomlaw06.ScopeFresh'. -/
def scopeFreshCard : Claim7 := { stood := { row := scopeFreshRow, standIns := [], harness := (true, "8d037232ecbdc286e1563b0117ad5d733cf82281aeab205f9b54d730689bf89b"), looks := false }, kinds := [], alts := [], laidByText := true, laidKinds := [.data, .data, .data], laidTests := true, laidLooks := .later }
def ScopeFreshCardSaid : Prop := Claim7.holds Tryd.pinned (.plain (OpenSpec.ofChange scopeFreshSpec)) scopeFreshCard

/-- THE TIED CARD OF 'fathomlaw06.ScopeBinds'. -/
def scopeBindsCard : Claim7 := { stood := { row := scopeBindsRow, standIns := [], harness := (true, "8d037232ecbdc286e1563b0117ad5d733cf82281aeab205f9b54d730689bf89b"), looks := false }, kinds := [], alts := [], laidByText := true, laidKinds := [.data, .data, .data], laidTests := true, laidLooks := .later }
def ScopeBindsCardSaid : Prop := Claim7.holds Tryd.pinned (.plain (OpenSpec.ofChange scopeBindsSpec)) scopeBindsCard

/-- THE SECOND FORM's CARD OF 'fathomlaw06.ScopeFresh'. -/
def scopeFreshUptoCard : Claim7 := { stood := { row := scopeFreshUptoRow, standIns := [], harness := (true, "8d037232ecbdc286e1563b0117ad5d733cf82281aeab205f9b54d730689bf89b"), looks := false }, kinds := [], alts := [], laidByText := true, laidKinds := [.data, .data, .data], laidTests := true, laidLooks := .later }
def ScopeFreshUptoCardSaid : Prop := Claim7.holds Tryd.pinned (.plain (OpenSpec.upto scopeFreshSpec)) scopeFreshUptoCard

/-- THE SECOND FORM's CARD OF 'fathomlaw06.ScopeBinds'. -/
def scopeBindsUptoCard : Claim7 := { stood := { row := scopeBindsUptoRow, standIns := [], harness := (true, "8d037232ecbdc286e1563b0117ad5d733cf82281aeab205f9b54d730689bf89b"), looks := false }, kinds := [], alts := [], laidByText := true, laidKinds := [.data, .data, .data], laidTests := true, laidLooks := .later }
def ScopeBindsUptoCardSaid : Prop := Claim7.holds Tryd.pinned (.plain (OpenSpec.upto scopeBindsSpec)) scopeBindsUptoCard
end Rows
end Go.Proofs.YtackkeoannbnbaaDoor

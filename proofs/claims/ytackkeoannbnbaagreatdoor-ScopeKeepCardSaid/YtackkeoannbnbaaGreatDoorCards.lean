/-
  DERIVED. GIVEN WITH THE SEED: THE CARDS: each row of YtackkeoannbnbaaGreatDoorRows.lean that lists a variable, with what it lists TIED to the program's text (the seventh form; the later family's looks); each row that meets fmt, with fmt's text TOLD by the authors' own Lean function (tested against real Go, not proved from fmt's source: count such statements apart). THE CARD IS WHAT COUNTS. Prove the row's statement (the work); the ties are given (YtackkeoannbnbaaGreatDoorTie.lean); close each card by the builder's one call (the guide's Derived/Test/ToyasCard.lean, 'card_holds'). Laid BY PROGRAM, IN A SANDBOX (cutbox-door.mjs). By AI agents, Wed Nov 11 2026. No macro, syntax, notation, axiom, sorry.
-/
import Derived.Test.YtackkeoannbnbaaGreatDoorRows
import GoSem.ClaimSeven
namespace Go.Proofs.YtackkeoannbnbaaGreatDoor
namespace Rows

/-- THE TIED CARD OF 'fathomlaw06.ScopeChecks'. -/
def scopeChecksCard : Claim7 := { stood := { row := scopeChecksRow, standIns := [], harness := (true, "d0aa4a5ce6fb92b8b0350950d0c312b45f56a0a2c495a1f5a93a6f7693b42a68"), looks := false }, kinds := [], alts := [], laidByText := true, laidKinds := [.data, .data, .data], laidTests := true, laidLooks := .later }
def ScopeChecksCardSaid : Prop := Claim7.holds Tryz.pinned (.plain (OpenSpec.ofChange scopeChecksSpec)) scopeChecksCard

/-- THE TIED CARD OF 'fathomlaw06.ScopeNames'. -/
def scopeNamesCard : Claim7 := { stood := { row := scopeNamesRow, standIns := [], harness := (true, "d0aa4a5ce6fb92b8b0350950d0c312b45f56a0a2c495a1f5a93a6f7693b42a68"), looks := false }, kinds := [], alts := [], laidByText := true, laidKinds := [.data, .data, .data], laidTests := true, laidLooks := .later }
def ScopeNamesCardSaid : Prop := Claim7.holds Tryz.pinned (.plain (OpenSpec.ofChange scopeNamesSpec)) scopeNamesCard

/-- THE TIED CARD OF 'fathomlaw06.ScopeKeep'. -/
def scopeKeepCard : Claim7 := { stood := { row := scopeKeepRow, standIns := [], harness := (true, "d0aa4a5ce6fb92b8b0350950d0c312b45f56a0a2c495a1f5a93a6f7693b42a68"), looks := false }, kinds := [], alts := [], laidByText := true, laidKinds := [.data, .data, .data], laidTests := true, laidLooks := .later }
def ScopeKeepCardSaid : Prop := Claim7.holds Tryz.pinned (.plain (OpenSpec.ofChange scopeKeepSpec)) scopeKeepCard

/-- THE SECOND FORM's CARD OF 'fathomlaw06.ScopeChecks'. -/
def scopeChecksUptoCard : Claim7 := { stood := { row := scopeChecksUptoRow, standIns := [], harness := (true, "d0aa4a5ce6fb92b8b0350950d0c312b45f56a0a2c495a1f5a93a6f7693b42a68"), looks := false }, kinds := [], alts := [], laidByText := true, laidKinds := [.data, .data, .data], laidTests := true, laidLooks := .later }
def ScopeChecksUptoCardSaid : Prop := Claim7.holds Tryz.pinned (.plain (OpenSpec.upto scopeChecksSpec)) scopeChecksUptoCard

/-- THE SECOND FORM's CARD OF 'fathomlaw06.ScopeNames'. -/
def scopeNamesUptoCard : Claim7 := { stood := { row := scopeNamesUptoRow, standIns := [], harness := (true, "d0aa4a5ce6fb92b8b0350950d0c312b45f56a0a2c495a1f5a93a6f7693b42a68"), looks := false }, kinds := [], alts := [], laidByText := true, laidKinds := [.data, .data, .data], laidTests := true, laidLooks := .later }
def ScopeNamesUptoCardSaid : Prop := Claim7.holds Tryz.pinned (.plain (OpenSpec.upto scopeNamesSpec)) scopeNamesUptoCard

/-- THE SECOND FORM's CARD OF 'fathomlaw06.ScopeKeep'. -/
def scopeKeepUptoCard : Claim7 := { stood := { row := scopeKeepUptoRow, standIns := [], harness := (true, "d0aa4a5ce6fb92b8b0350950d0c312b45f56a0a2c495a1f5a93a6f7693b42a68"), looks := false }, kinds := [], alts := [], laidByText := true, laidKinds := [.data, .data, .data], laidTests := true, laidLooks := .later }
def ScopeKeepUptoCardSaid : Prop := Claim7.holds Tryz.pinned (.plain (OpenSpec.upto scopeKeepSpec)) scopeKeepUptoCard
end Rows
end Go.Proofs.YtackkeoannbnbaaGreatDoor

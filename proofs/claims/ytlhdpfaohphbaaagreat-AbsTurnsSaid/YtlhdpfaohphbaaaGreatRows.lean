/-
  No cell of these rows narrows 'for every input' (looked for: loops, veiled, ifaces, maps, wideKeys, modest, calm, conditions, laid).
  DERIVED. THE GIVEN ROWS OF THIS SEAT. 5 by the template 'for every input the law returns true; each argument reads behind the call as it read before'; 0 by the template 'total and deterministic' (their statements: YtlhdpfaohphbaaaGreatTotals.lean).
  GIVEN WITH THE SEED: the statements are not yours to turn. If you find one false, say at which input.
  Laid BY PROGRAM, IN A SANDBOX (cutbox-rows.mjs): the forced cells as the released guide's own fill.sh prints them over the translation ba97e1dc486784f4… (all of the seat's roots in one cut). By AI agents, Wed Nov 11 2026. No macro, syntax, notation, axiom, sorry.
-/
import Derived.Test.YtlhdpfaohphbaaaGreatChecked
import GoSem.Claim
import GoSem.ClaimJoined
import GoSem.ClaimMapViews
import Derived.JoinedTies
import Derived.KernelRfl
namespace Go.Proofs.YtlhdpfaohphbaaaGreat
/- THE CELL 'sum', in the pinned program and in every row, IS THE sha256 OF THE DUMP (.gsa) THAT YtlhdpfaohphbaaaGreatProg.lean LOADS. Nothing in Lean hashes anything: it is a label: what it is worth is what the hold of that sum in a sandbox is worth. -/
noncomputable def Tryz.pinned : Pinned := { name := "ytlhdpfaohphbaaagreat", sum := "ba97e1dc486784f40dc4da99ab2673aeb479e8dd5b00d3ba657a770f2bbeec2b", checked := Tryz.checked }
namespace Rows
def none {H : Type} : Left H := { results := [], args := [] }

/-- 'fathomlaw17.AbsExprs': WHATEVER THE INPUT: true; the input reads as it did. -/
def absExprsSpec : ChangeSpec := { name := "absExprs", fn := fun _ => fun
  | [d1, d2, d3, d4] => { results := [.lit (.bool true)], args := [d1, d2, d3, d4] }
  | _ => none }
def absExprsRow : OpenClaim := { program := "ytlhdpfaohphbaaagreat", sum := "ba97e1dc486784f40dc4da99ab2673aeb479e8dd5b00d3ba657a770f2bbeec2b", func := "fathom/fathomlaw17.AbsExprs", spec := "absExprs", unfollowed := true, recurses := true, apart := false }
def AbsExprsSaid : Prop := absExprsRow.holds Tryz.pinned (OpenSpec.ofChange absExprsSpec)

/-- ITS FALSE NEIGHBOUR: 'it returns false'. Refute it at one input. -/
def absExprsWrong : ChangeSpec := { name := "absExprs", fn := fun _ => fun
  | [d1, d2, d3, d4] => { results := [.lit (.bool false)], args := [d1, d2, d3, d4] }
  | _ => none }
def AbsExprsWrongFalsely : Prop := absExprsRow.holds Tryz.pinned (OpenSpec.ofChange absExprsWrong)

/-- 'fathomlaw17.AbsTurns': WHATEVER THE INPUT: true; the input reads as it did. -/
def absTurnsSpec : ChangeSpec := { name := "absTurns", fn := fun _ => fun
  | [d1, d2, d3, d4] => { results := [.lit (.bool true)], args := [d1, d2, d3, d4] }
  | _ => none }
def absTurnsRow : OpenClaim := { program := "ytlhdpfaohphbaaagreat", sum := "ba97e1dc486784f40dc4da99ab2673aeb479e8dd5b00d3ba657a770f2bbeec2b", func := "fathom/fathomlaw17.AbsTurns", spec := "absTurns", unfollowed := true, recurses := true, apart := false }
def AbsTurnsSaid : Prop := absTurnsRow.holds Tryz.pinned (OpenSpec.ofChange absTurnsSpec)

/-- ITS FALSE NEIGHBOUR: 'it returns false'. Refute it at one input. -/
def absTurnsWrong : ChangeSpec := { name := "absTurns", fn := fun _ => fun
  | [d1, d2, d3, d4] => { results := [.lit (.bool false)], args := [d1, d2, d3, d4] }
  | _ => none }
def AbsTurnsWrongFalsely : Prop := absTurnsRow.holds Tryz.pinned (OpenSpec.ofChange absTurnsWrong)

/-- 'fathomlaw17.AbsBodies': WHATEVER THE INPUT: true; the input reads as it did. -/
def absBodiesSpec : ChangeSpec := { name := "absBodies", fn := fun _ => fun
  | [d1, d2, d3, d4] => { results := [.lit (.bool true)], args := [d1, d2, d3, d4] }
  | _ => none }
def absBodiesRow : OpenClaim := { program := "ytlhdpfaohphbaaagreat", sum := "ba97e1dc486784f40dc4da99ab2673aeb479e8dd5b00d3ba657a770f2bbeec2b", func := "fathom/fathomlaw17.AbsBodies", spec := "absBodies", unfollowed := true, recurses := true, apart := false }
def AbsBodiesSaid : Prop := absBodiesRow.holds Tryz.pinned (OpenSpec.ofChange absBodiesSpec)

/-- ITS FALSE NEIGHBOUR: 'it returns false'. Refute it at one input. -/
def absBodiesWrong : ChangeSpec := { name := "absBodies", fn := fun _ => fun
  | [d1, d2, d3, d4] => { results := [.lit (.bool false)], args := [d1, d2, d3, d4] }
  | _ => none }
def AbsBodiesWrongFalsely : Prop := absBodiesRow.holds Tryz.pinned (OpenSpec.ofChange absBodiesWrong)

/-- 'fathomlaw17.AbsRises': WHATEVER THE INPUT: true; the input reads as it did. -/
def absRisesSpec : ChangeSpec := { name := "absRises", fn := fun _ => fun
  | [d1, d2, d3] => { results := [.lit (.bool true)], args := [d1, d2, d3] }
  | _ => none }
def absRisesRow : OpenClaim := { program := "ytlhdpfaohphbaaagreat", sum := "ba97e1dc486784f40dc4da99ab2673aeb479e8dd5b00d3ba657a770f2bbeec2b", func := "fathom/fathomlaw17.AbsRises", spec := "absRises", unfollowed := true, recurses := true, apart := false }
def AbsRisesSaid : Prop := absRisesRow.holds Tryz.pinned (OpenSpec.ofChange absRisesSpec)

/-- ITS FALSE NEIGHBOUR: 'it returns false'. Refute it at one input. -/
def absRisesWrong : ChangeSpec := { name := "absRises", fn := fun _ => fun
  | [d1, d2, d3] => { results := [.lit (.bool false)], args := [d1, d2, d3] }
  | _ => none }
def AbsRisesWrongFalsely : Prop := absRisesRow.holds Tryz.pinned (OpenSpec.ofChange absRisesWrong)

/-- 'fathomlaw17.AbsKeep': WHATEVER THE INPUT: true; the input reads as it did. -/
def absKeepSpec : ChangeSpec := { name := "absKeep", fn := fun _ => fun
  | [d1, d2] => { results := [.lit (.bool true)], args := [d1, d2] }
  | _ => none }
def absKeepRow : OpenClaim := { program := "ytlhdpfaohphbaaagreat", sum := "ba97e1dc486784f40dc4da99ab2673aeb479e8dd5b00d3ba657a770f2bbeec2b", func := "fathom/fathomlaw17.AbsKeep", spec := "absKeep", unfollowed := true, recurses := true, apart := false }
def AbsKeepSaid : Prop := absKeepRow.holds Tryz.pinned (OpenSpec.ofChange absKeepSpec)

/-- ITS FALSE NEIGHBOUR: 'it returns false'. Refute it at one input. -/
def absKeepWrong : ChangeSpec := { name := "absKeep", fn := fun _ => fun
  | [d1, d2] => { results := [.lit (.bool false)], args := [d1, d2] }
  | _ => none }
def AbsKeepWrongFalsely : Prop := absKeepRow.holds Tryz.pinned (OpenSpec.ofChange absKeepWrong)

/- THE SECOND FORM. 'bulk': how many values and letters a reading holds, each counted each time it is reached (what is shared counts as often as it is met; a slice's spare places count too). A statement '..UptoSaid' is the law's where the arguments, and the package variables that the reading takes, are together of bulk at most 1048576: NARROWER than '..Said'. Prove '..Said' where nothing that the law and all that it calls make is longer than what came in: it says more and counts as full. Else prove '..UptoSaid'. A law counts once. -/
mutual
def uptoBulk {H : Type} : DataW H → Nat
  | .lit (.string bytes) => bytes.length + 1
  | .lit _ => 1
  | .nil => 1
  | .ptr d => uptoBulk d + 1
  | .slice elems spare => uptoBulkAll elems + uptoBulkAll spare + 1
  | .agg parts => uptoBulkAll parts + 1
  | .iface _ d => uptoBulk d + 1
  | .map entries => uptoBulkEntries entries + 1
  | .held _ => 1
def uptoBulkAll {H : Type} : List (DataW H) → Nat
  | [] => 0
  | d :: r => uptoBulk d + uptoBulkAll r
def uptoBulkEntries {H : Type} : List (Lit × DataW H) → Nat
  | [] => 0
  | x :: r => uptoBulkEntry x + uptoBulkEntries r
def uptoBulkEntry {H : Type} : Lit × DataW H → Nat
  | (.string bytes, d) => bytes.length + uptoBulk d + 1
  | (_, d) => uptoBulk d + 1
 end
def uptoSmall : (H : Type) → List (DataW H) → Bool := fun _ ds => decide (uptoBulkAll ds ≤ 1048576)
def OpenSpec.upto (s : _root_.Go.ChangeSpec) : _root_.Go.OpenSpec := { _root_.Go.OpenSpec.ofChange s with cond := some uptoSmall }

/-- 'fathomlaw17.AbsExprs', WHERE WHAT IT READS IS OF BULK AT MOST 1048576: true; the input reads as it did. -/
def absExprsUptoRow : OpenClaim := { program := "ytlhdpfaohphbaaagreat", sum := "ba97e1dc486784f40dc4da99ab2673aeb479e8dd5b00d3ba657a770f2bbeec2b", func := "fathom/fathomlaw17.AbsExprs", spec := "absExprs", unfollowed := true, recurses := true, apart := false, narrowed := true }
def AbsExprsUptoSaid : Prop := absExprsUptoRow.holds Tryz.pinned (OpenSpec.upto absExprsSpec)

/-- 'fathomlaw17.AbsTurns', WHERE WHAT IT READS IS OF BULK AT MOST 1048576: true; the input reads as it did. -/
def absTurnsUptoRow : OpenClaim := { program := "ytlhdpfaohphbaaagreat", sum := "ba97e1dc486784f40dc4da99ab2673aeb479e8dd5b00d3ba657a770f2bbeec2b", func := "fathom/fathomlaw17.AbsTurns", spec := "absTurns", unfollowed := true, recurses := true, apart := false, narrowed := true }
def AbsTurnsUptoSaid : Prop := absTurnsUptoRow.holds Tryz.pinned (OpenSpec.upto absTurnsSpec)

/-- 'fathomlaw17.AbsBodies', WHERE WHAT IT READS IS OF BULK AT MOST 1048576: true; the input reads as it did. -/
def absBodiesUptoRow : OpenClaim := { program := "ytlhdpfaohphbaaagreat", sum := "ba97e1dc486784f40dc4da99ab2673aeb479e8dd5b00d3ba657a770f2bbeec2b", func := "fathom/fathomlaw17.AbsBodies", spec := "absBodies", unfollowed := true, recurses := true, apart := false, narrowed := true }
def AbsBodiesUptoSaid : Prop := absBodiesUptoRow.holds Tryz.pinned (OpenSpec.upto absBodiesSpec)

/-- 'fathomlaw17.AbsRises', WHERE WHAT IT READS IS OF BULK AT MOST 1048576: true; the input reads as it did. -/
def absRisesUptoRow : OpenClaim := { program := "ytlhdpfaohphbaaagreat", sum := "ba97e1dc486784f40dc4da99ab2673aeb479e8dd5b00d3ba657a770f2bbeec2b", func := "fathom/fathomlaw17.AbsRises", spec := "absRises", unfollowed := true, recurses := true, apart := false, narrowed := true }
def AbsRisesUptoSaid : Prop := absRisesUptoRow.holds Tryz.pinned (OpenSpec.upto absRisesSpec)

/-- 'fathomlaw17.AbsKeep', WHERE WHAT IT READS IS OF BULK AT MOST 1048576: true; the input reads as it did. -/
def absKeepUptoRow : OpenClaim := { program := "ytlhdpfaohphbaaagreat", sum := "ba97e1dc486784f40dc4da99ab2673aeb479e8dd5b00d3ba657a770f2bbeec2b", func := "fathom/fathomlaw17.AbsKeep", spec := "absKeep", unfollowed := true, recurses := true, apart := false, narrowed := true }
def AbsKeepUptoSaid : Prop := absKeepUptoRow.holds Tryz.pinned (OpenSpec.upto absKeepSpec)

end Rows
end Go.Proofs.YtlhdpfaohphbaaaGreat

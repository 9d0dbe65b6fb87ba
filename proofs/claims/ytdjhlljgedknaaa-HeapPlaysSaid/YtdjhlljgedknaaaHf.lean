/-
  Layer 13: no heap; small functions of the laws; awake; HeapNil.
-/
import Derived.Test.YtdjhlljgedknaaaHe
import Derived.Test.YtdjhlljgedknaaaCodeL13
set_option linter.all false
set_option maxRecDepth 100000
set_option maxHeartbeats 4000000
namespace Go.Fx.Ytdjhlljgedknaaa
open Go Go.Fx Go.Proofs Go.Fx.Flt
theorem Poison_n : Pure Try.prog 11 [.pl (.pointer none)] (.tup [I 0, I 1]) := by
  refine pu11 (by simp) ?_
  simp -implicitDefEqProofs [ac11]
theorem Pair_n (a b : Ce) : Pure Try.prog 12 [.pl (.pointer none), .agg (encCe a), .agg (encCe b)] (.tup [I 0, I 1]) := by
  refine pu12 (by simp) ?_
  simp -implicitDefEqProofs [ac12, encCe]
theorem Parts_n (i : Int) : Pure Try.prog 21 [.pl (.pointer none), I i] (.tup [.agg (encCe ce0), .agg (encCe ce0), I 1]) := by
  refine pu21 (by simp) ?_
  simp -implicitDefEqProofs [ac21, encCe, ce0]
theorem Counts_n : Pure Try.prog 18 [.pl (.pointer none)] (.tup [I 0, I 0]) := by
  refine pu18 (by simp) ?_
  simp -implicitDefEqProofs [ac18]
theorem Enter_n (i : Int) : Pure Try.prog 16 [.pl (.pointer none), I i] (.tup [.agg (encNd nd0), I 1]) := by
  refine pu16 (by simp) ?_
  simp -implicitDefEqProofs [ac16]
  refine clK_of (CallT_flat (mf := []) (args' := [.pl (.pointer none), I i]) (d0 := .tup [.agg (encNd nd0), I 1]) rfl (memSub_nil _) rfl (Look_n i) ?_)
  simp -implicitDefEqProofs [encNd, nd0, ce0]
theorem Update_n (i : Int) (c : Ce) : Pure Try.prog 14 [.pl (.pointer none), I i, .agg (encCe c)] (I 1) := by
  refine pu14 (by simp) ?_
  simp -implicitDefEqProofs [ac14, encCe]
  refine clK_of (CallT_flat (mf := []) (args' := [.pl (.pointer none), I i]) (d0 := .tup [.agg (encNd nd0), I 1]) rfl (memSub_nil _) rfl (Look_n i) ?_)
  simp -implicitDefEqProofs [encNd, nd0, ce0]
def sameF (a b : Ce) : Bool := decide (a.kind = b.kind) && ((eqF a.re b.re && eqF a.im b.im) && (decide (a.b = b.b) && decide (a.at' = b.at')))
theorem same_c (a b : Ce) : Pure Try.prog 17 [.agg (encCe a), .agg (encCe b)] (B (sameF a b)) := by
  refine pu17 (by simp) ?_
  unfold sameF
  by_cases h1 : a.kind = b.kind
  · cases h2 : (eqF a.re b.re && eqF a.im b.im)
    · simp -implicitDefEqProofs [ac17, encCe, h1, h2]
    · by_cases h3 : a.b = b.b
      · simp -implicitDefEqProofs [ac17, encCe, h1, h2, h3]
      · simp -implicitDefEqProofs [ac17, encCe, h1, h2, h3]
  · simp -implicitDefEqProofs [ac17, encCe, h1]
def alikeF (a b : Nd) : Bool := decide (a.state = b.state) && (decide (a.tag = b.tag) && sameF a.cell b.cell)
theorem alike_c (a b : Nd) : Pure Try.prog 22 [.agg (encNd a), .agg (encNd b)] (B (alikeF a b)) := by
  refine pu22 (by simp) ?_
  unfold alikeF
  have hs := same_c a.cell b.cell
  simp only [encCe] at hs
  by_cases h1 : a.state = b.state
  · by_cases h2 : a.tag = b.tag
    · simp -implicitDefEqProofs [ac22, encNd, h1, h2]
      refine pcK_of hs (by simp) ?_
      simp -implicitDefEqProofs
    · simp -implicitDefEqProofs [ac22, encNd, h1, h2]
  · simp -implicitDefEqProofs [ac22, encNd, h1]
/-- A cell as it is handed in. -/
structure Lc where
  kind : Int
  at' : Int
  num : Nm
  b : Bool
def encLc (c : Lc) : List D := [I c.kind, I c.at', I c.num.re, I c.num.im, B c.num.raw, B c.b]
def Lc.c (c : Lc) : Ce := ⟨c.kind, zb c.num.raw c.num.re, zb c.num.raw c.num.im, c.b, c.at'⟩
theorem C_c (c : Lc) : Pure Try.prog 13 [.agg (encLc c)] (.agg (encCe c.c)) := by
  refine pu13 (by simp) ?_
  have hz := Z_c c.num
  simp only [encN] at hz
  simp -implicitDefEqProofs [ac13, encLc]
  refine pcK_of hz (by simp) ?_
  simp -implicitDefEqProofs [encCe, Lc.c]
theorem aw_enter1 : enterF [⟨1, 7, ce0⟩] 0 = ((⟨1, 7, ce0⟩, 0), [⟨2, 0, ce0⟩]) := rfl
theorem aw_enter2 : enterF [⟨2, 0, ce0⟩] 0 = ((nd0, 53), [⟨2, 0, ce0⟩]) := rfl
def awA : Ce := ⟨1, 4607182418800017408, 0, false, 0⟩
def awB : Ce := ⟨5, 0, 0, false, 0⟩
def awC : Ce := ⟨4, 0, 0, false, 0⟩
theorem aw_pair : (cellF 1 0 awA && cellF 1 0 awB) = true := by decide +kernel
theorem aw_upd : updE [⟨2, 0, ce0⟩] 1 0 awC = 0 := by decide +kernel
theorem aw_alike : alikeF ⟨1, 7, ce0⟩ ⟨1, 7, ce0⟩ = true := by decide +kernel
theorem aw_zero : alikeF nd0 nd0 = true := by decide +kernel
theorem aw_same : sameF ce0 ce0 = true := by decide +kernel
end Go.Fx.Ytdjhlljgedknaaa

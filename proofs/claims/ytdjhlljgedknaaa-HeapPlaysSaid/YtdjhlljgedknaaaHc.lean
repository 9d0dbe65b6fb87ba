/-
  Layer 13: is it a cell of the heap?
-/
import Derived.Test.YtdjhlljgedknaaaHb
set_option linter.all false
set_option maxRecDepth 100000
set_option maxHeartbeats 4000000
namespace Go.Fx.Ytdjhlljgedknaaa
open Go Go.Fx Go.Proofs Go.Fx.Flt
def okZ (c : Ce) : Bool := plainB c.re && plainB c.im
def mostF (n p k : Int) : Int := if k = 2 ∨ k = 3 then 1 else if k = 4 then p else if k = 5 then n else 0
def cellF (n p : Int) (c : Ce) : Bool :=
  if c.kind = 1 then okZ c && (!c.b && decide (c.at' = 0)) else okZ c && ((eqF c.re 0 && eqF c.im 0) && ((!c.b || decide (c.kind = 2)) && (decide (0 ≤ c.at') && decide (c.at' < mostF n p c.kind))))
theorem cell_c (ns : List Nd) (ps : List (Ce × Ce)) (th up : Int) (c : Ce) (hr : c.re < 2 ^ 64) (hi : c.im < 2 ^ 64) : Pure Try.prog 24 [.pt (hpC ns ps th up), .agg (encCe c)] (B (cellF ns.length ps.length c)) := by
  refine pu24 (by simp) ?_
  obtain ⟨k, re, im, b, at'⟩ := c
  simp only at hr hi
  have hv := Valid_c hr hi
  unfold cellF okZ
  simp only []
  generalize (plainB re && plainB im) = v at *
  generalize hL : (ns.length : Int) = n
  generalize hM : (ps.length : Int) = p
  generalize hm : mostF n p k = m
  unfold mostF at hm
  generalize he : (eqF re 0 && eqF im 0) = e
  have hk : k = 1 ∨ (¬ k = 1 ∧ k = 2) ∨ (¬ k = 1 ∧ ¬ k = 2 ∧ k = 3) ∨ (¬ k = 1 ∧ ¬ k = 2 ∧ ¬ k = 3 ∧ k = 4) ∨ (¬ k = 1 ∧ ¬ k = 2 ∧ ¬ k = 3 ∧ ¬ k = 4 ∧ k = 5) ∨ (¬ k = 1 ∧ ¬ k = 2 ∧ ¬ k = 3 ∧ ¬ k = 4 ∧ ¬ k = 5) := by omega
  have hat : (at' < 0 ∧ ¬ 0 ≤ at') ∨ (0 ≤ at' ∧ at' < m ∧ ¬ at' < 0) ∨ (0 ≤ at' ∧ ¬ at' < m ∧ ¬ at' < 0) := by omega
  rcases hk with h | ⟨h1, h⟩ | ⟨h1, h2, h⟩ | ⟨h1, h2, h3, h⟩ | ⟨h1, h2, h3, h4, h⟩ | ⟨h1, h2, h3, h4, h5⟩
  · by_cases h0 : at' = 0
    · cases v <;> cases b
      all_goals
        simp -implicitDefEqProofs [ac24, encCe, h]
        refine pcK_of hv (by simp) ?_
        simp -implicitDefEqProofs [h0]
    · cases v <;> cases b
      all_goals
        simp -implicitDefEqProofs [ac24, encCe, h]
        refine pcK_of hv (by simp) ?_
        simp -implicitDefEqProofs [h0]
  · subst h
    simp at hm
    subst hm
    rcases hat with ⟨a1, a2⟩ | ⟨a1, a2, a3⟩ | ⟨a1, a2, a3⟩ <;> cases v <;> cases e <;> cases b
    all_goals
      simp -implicitDefEqProofs [ac24, encCe, hL, hM]
      refine pcK_of hv (by simp) ?_
      simp -implicitDefEqProofs [he, a1, a2, Int.not_lt]
  · subst h
    simp at hm
    subst hm
    rcases hat with ⟨a1, a2⟩ | ⟨a1, a2, a3⟩ | ⟨a1, a2, a3⟩ <;> cases v <;> cases e <;> cases b
    all_goals
      simp -implicitDefEqProofs [ac24, encCe, hL, hM]
      refine pcK_of hv (by simp) ?_
      simp -implicitDefEqProofs [he, a1, a2, Int.not_lt]
  · subst h
    simp at hm
    subst hm
    rcases hat with ⟨a1, a2⟩ | ⟨a1, a2, a3⟩ | ⟨a1, a2, a3⟩ <;> cases v <;> cases e <;> cases b
    all_goals
      simp -implicitDefEqProofs [ac24, encCe, hL, hM]
      refine pcK_of hv (by simp) ?_
      simp -implicitDefEqProofs [he, a1, a2, Int.not_lt]
  · subst h
    simp at hm
    subst hm
    rcases hat with ⟨a1, a2⟩ | ⟨a1, a2, a3⟩ | ⟨a1, a2, a3⟩ <;> cases v <;> cases e <;> cases b
    all_goals
      simp -implicitDefEqProofs [ac24, encCe, hL, hM]
      refine pcK_of hv (by simp) ?_
      simp -implicitDefEqProofs [he, a1, a2, Int.not_lt]
  · simp only [h2, h3, h4, h5, or_self, if_false] at hm
    subst hm
    rcases hat with ⟨a1, a2⟩ | ⟨a1, a2, a3⟩ | ⟨a1, a2, a3⟩ <;> cases v <;> cases e <;> cases b
    all_goals
      simp -implicitDefEqProofs [ac24, encCe, h1, h2, h3, h4, h5, hL, hM]
      refine pcK_of hv (by simp) ?_
      simp -implicitDefEqProofs [he, a1, a2, h2]
end Go.Fx.Ytdjhlljgedknaaa

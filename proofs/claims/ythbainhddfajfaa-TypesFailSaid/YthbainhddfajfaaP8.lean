/-
  The parser's expressions, by induction on the fuel.
-/
import Derived.Test.YthbainhddfajfaaP7
set_option linter.all false
set_option maxRecDepth 100000
set_option maxHeartbeats 4000000
namespace Go.Fx.Ythbainhddfajfaa
open Go Go.Fx Go.Proofs Go.Fx.Flt
structure Good (k : Nat) : Prop where
  expr : ∀ r, r.ok → EC 66 [] (exprF k r) r
  cons : ∀ r, r.ok → EC 73 [] (consF k r) r
  comp : ∀ r, r.ok → EC 77 [] (compF k r) r
  sum : ∀ r, r.ok → EC 79 [] (sumF k r) r
  term : ∀ r, r.ok → EC 80 [] (termF k r) r
  unit : ∀ r, r.ok → EC 81 [] (unitF k r) r
  named : ∀ m r, r.ok → EC 82 [.agg (encMk m)] (namedF k m r) r
theorem all_c : ∀ n, n ≤ 2 ^ 40 → Good n := by
  intro n
  induction n using Nat.strongRecOn with
  | _ n ih =>
    intro hn
    cases n with
    | zero =>
      refine ⟨?_, ?_, ?_, ?_, ?_, ?_, ?_⟩
      · intro r _ e r' h; simp [exprF] at h
      · intro r _ e r' h; simp [consF] at h
      · intro r _ e r' h; simp [compF] at h
      · intro r _ e r' h; simp [sumF] at h
      · intro r _ e r' h; simp [termF] at h
      · intro r _ e r' h; simp [unitF] at h
      · intro m r _ e r' h; simp [namedF] at h
    | succ n =>
      have g : ∀ k, k ≤ n → Good k := fun k hk => ih k (by omega) (by omega)
      have gn := g n (Nat.le_refl _)
      refine ⟨?_, cons_s gn.comp gn.cons, comp_s gn.sum, sum_s fun k hk => (g k hk).term, term_s fun k hk => (g k hk).unit, unit_s gn.expr gn.named, named_s (by omega) fun k hk => (g k hk).expr⟩
      refine expr_s (by omega) gn.cons ?_ ?_
      · intro ss r L r' hss h hrun
        exact parts_s (fun k hk => (g k (by omega)).expr) ss hss r h L r' hrun
      · intro r p e r' h hrun
        cases n with
        | zero => simp [branchesF] at hrun
        | succ n => exact branches_s (g n (by omega)).expr r h p e r' hrun
theorem expr_c {n : Nat} (hn : n ≤ 2 ^ 40) {r : Rd} (h : r.ok) {e : Ex} {r' : Rd} (hrun : exprF n r = some (e, r')) : r'.ok ∧ r'.nest = r.nest ∧ RC 66 [] r r' (.agg (encEx e)) := (all_c n hn).expr r h e r' hrun
end Go.Fx.Ythbainhddfajfaa

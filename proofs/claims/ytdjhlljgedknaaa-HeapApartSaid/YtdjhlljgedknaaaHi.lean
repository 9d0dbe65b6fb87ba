/-
  Layer 13: HeapOnce: into; cells are the same as themselves.
-/
import Derived.Test.YtdjhlljgedknaaaHh
import Derived.Test.YtdjhlljgedknaaaCodeL13b
set_option linter.all false
set_option maxRecDepth 100000
set_option maxHeartbeats 4000000
namespace Go.Fx.Ytdjhlljgedknaaa
open Go Go.Fx Go.Proofs Go.Fx.Flt
def intoF (n : Int) : Int := (n.tmod 7 + 7).tmod 7
theorem intoF_b (n : Int) : 0 ≤ intoF n ∧ intoF n < 7 := by
  have h1 := Int.lt_tmod_of_pos n (by decide : (0 : Int) < 7)
  have h3 : 0 ≤ n.tmod 7 + 7 := by omega
  exact ⟨Int.tmod_nonneg _ h3, Int.tmod_lt_of_pos _ (by decide)⟩
theorem into_c (n : Int) : Pure Try.prog 9 [I n, I 7] (I (intoF n)) := by
  refine pu9 (by simp) ?_
  have h1 := Int.lt_tmod_of_pos n (by decide : (0 : Int) < 7)
  have h2 := Int.tmod_lt_of_pos n (by decide : (0 : Int) < 7)
  have w1 := wr64 (x := n.tmod 7 + 7) (by omega) (by omega)
  simp -implicitDefEqProofs [ac9, w1, intoF]
theorem eq_plain {b : Nat} (hb : b < 2 ^ 64) (h : plainB b = true) : eqF b b = true := by
  obtain ⟨n, hn⟩ := plainB_of hb h
  rw [eqF_W (isW_Pl hn) (isW_Pl hn)]; simp
theorem cell_same {n p : Int} {c : Ce} (hc : c.re < 2 ^ 64 ∧ c.im < 2 ^ 64) (h : cellF n p c = true) : sameF c c = true := by
  have hz : okZ c = true := by
    unfold cellF at h
    split at h <;> (simp only [Bool.and_eq_true] at h; exact h.1)
  unfold okZ at hz
  rw [Bool.and_eq_true] at hz
  unfold sameF
  rw [eq_plain hc.1 hz.1, eq_plain hc.2 hz.2]
  simp
theorem upd_cell {ns : List Nd} {np i : Int} {c : Ce} (h : updE ns np i c = 0) : (lookF ns i).2 = 0 ∧ (lookF ns i).1.state = 2 ∧ cellF ns.length np c = true := by
  unfold updE at h
  split at h
  · rename_i g; exact absurd h g
  · rename_i g
    split at h
    · rename_i k; exact ⟨Classical.byContradiction g, k.1, k.2.2⟩
    · simp at h
theorem look_at {ns : List Nd} {i : Int} (h : (lookF ns i).2 = 0) : 0 ≤ i ∧ i < ns.length ∧ atI ns i = some (lookF ns i).1 := by
  unfold lookF at h ⊢
  split at h
  · rename_i g
    rw [if_pos g]
    refine ⟨g.1, g.2, ?_⟩
    unfold atI
    have : i.toNat < ns.length := by omega
    rw [if_pos g.1, List.getElem?_eq_getElem this]; rfl
  · simp at h
theorem look_no {ns : List Nd} {i : Int} (h : (lookF ns i).2 ≠ 0) : lookF ns i = (nd0, 2) ∧ atI ns i = none := by
  unfold lookF at h ⊢
  split at h
  · simp at h
  · rename_i g
    rw [if_neg g]
    refine ⟨rfl, ?_⟩
    unfold atI
    split
    · rw [List.getElem?_eq_none (by omega)]
    · rfl
end Go.Fx.Ytdjhlljgedknaaa

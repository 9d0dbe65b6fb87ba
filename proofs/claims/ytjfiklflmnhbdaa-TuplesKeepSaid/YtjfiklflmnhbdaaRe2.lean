import Derived.Test.YtjfiklflmnhbdaaRe
set_option linter.all false
namespace Go.Fx.Ytjfiklflmnhbdaa
open Go Go.Fx Go.Proofs Go.Fx.Rows
theorem wd_zero (k : Nat) : wd (List.replicate k 0) = 0 := by
  induction k with
  | zero => rfl
  | succ k ih => simp [List.replicate_succ, wd, ih]

theorem good_cells {n : Int} {l : List Int} (hw : ∀ u ∈ l, (Lit.int .u64 u).wf = true) : Good n l ↔ CellsOk n l := by
  unfold Good CellsOk
  refine ⟨fun ⟨h0, h1, h2, h3⟩ => ⟨h0, h1, h2, fun i hi hlt => ?_⟩, fun ⟨h0, h1, h2, h3⟩ => ⟨h0, h1, h2, fun hp => ?_⟩⟩
  · have hp : 0 < n % 32 := by omega
    have h4 := h3 hp
    have e : i / 32 = l.length - 1 := by omega
    unfold cellN
    rw [e]
    have e2 : i % 32 = (n % 32).toNat + (i % 32 - (n % 32).toNat) := by omega
    rw [e2, Int.pow_add, ← Int.ediv_ediv_of_nonneg (Int.pow_nonneg (by decide)), h4]
    simp
  · have hl : l.length - 1 < l.length := by omega
    have hb := u64_bounds (hw _ (List.getElem_mem hl))
    rw [List.getElem?_eq_getElem hl] at *
    simp only [Option.getD_some]
    have hp2 : (n % 32).toNat < 32 := by omega
    have e4 : (4 : Int) ^ 32 = 4 ^ (n % 32).toNat * 4 ^ (32 - (n % 32).toNat) := by rw [← Int.pow_add]; congr 1; omega
    have hpos : (0 : Int) < 4 ^ (n % 32).toNat := Int.pow_pos (by decide)
    have hlt : l[l.length - 1] / 4 ^ (n % 32).toNat < 4 ^ (32 - (n % 32).toNat) := by
      apply Int.ediv_lt_of_lt_mul hpos
      rw [Int.mul_comm, ← e4]
      have : (4 : Int) ^ 32 = 18446744073709551616 := by decide
      omega
    have hnn : 0 ≤ l[l.length - 1] / 4 ^ (n % 32).toNat := Int.ediv_nonneg hb.1 (by omega)
    rw [← wd_digits (32 - (n % 32).toNat) _ hnn hlt]
    have : (List.range (32 - (n % 32).toNat)).map (fun j => l[l.length - 1] / 4 ^ (n % 32).toNat / 4 ^ j % 4) = List.replicate (32 - (n % 32).toNat) 0 := by
      apply List.ext_getElem
      · simp
      · intro j hj1 hj2
        simp at hj1
        have h5 := h3 (32 * (l.length - 1) + (n % 32).toNat + j) (by omega) (by omega)
        unfold cellN at h5
        rw [show (32 * (l.length - 1) + (n % 32).toNat + j) / 32 = l.length - 1 by omega, show (32 * (l.length - 1) + (n % 32).toNat + j) % 32 = (n % 32).toNat + j by omega, List.getElem?_eq_getElem hl, Option.getD_some, Int.pow_add, ← Int.ediv_ediv_of_nonneg (by omega)] at h5
        simpa using h5
    rw [this, wd_zero]

end Go.Fx.Ytjfiklflmnhbdaa

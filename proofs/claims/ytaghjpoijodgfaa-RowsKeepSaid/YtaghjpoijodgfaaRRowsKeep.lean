/- The law RowsKeep answers true for every input, and every argument reads behind the call as it read before. Conditions: those of the given row, none besides. -/
import Derived.Test.YtaghjpoijodgfaaXD
import Derived.Test.YtaghjpoijodgfaaRows
import Derived.Test.YtaghjpoijodgfaaLr
import Derived.KernelRfl
import Derived.JoinedOf
import Derived.Handed
set_option maxRecDepth 1000000
set_option linter.unusedVariables false
namespace Go.Proofs.Ytaghjpoijodgfaa.RowRowsKeep
open Go Go.Fx Go.Proofs Go.Proofs.Ytaghjpoijodgfaa
theorem fnRow : RowFn Try.checked 4 Try.f4 Rows.rowsKeepSpec (Try.f4.resultTypes.getD 0 0) where
  own := by kernel_rfl
  noInit := by kernel_rfl
  func := Try.func4
  laid := by kernel_rfl
  params := by kernel_rfl
  res := by kernel_rfl
  bool := by kernel_rfl
  vars := rfl
  spec := by
    intro H ds h
    have h' : ds.length = 4 := h.trans (by kernel_rfl)
    match ds, h' with
    | [d0, d1, d2, d3], _ => rfl
theorem over : Rows.rowsKeepRow.holds Try.pinned (OpenSpec.ofChange Rows.rowsKeepSpec) :=
  OpenClaim.holds_of_wide 4 Try.f4 rfl rfl rfl rfl rfl rfl rfl ⟨rfl, rfl, rfl, rfl, rfl⟩ rfl rfl rfl rfl rfl (by kernel_rfl) Try.func4 (by kernel_rfl)
    (of_decide_eq_true (by kernel_rfl)) (by unfold Func.isWrapper; first | (rw [if_pos (by decide +kernel)]; kernel_rfl) | (rw [if_neg (by decide +kernel)]; exact ⟨rfl, rfl⟩))
    (fun os started H enc _ => row_of fnRow started (ChangeSpec.witness6 (enc := enc) (C := Try.checked) false ⟨#[], #[.agg #[.int .i64 0, .slice none 0 0], .agg #[.int .i64 0, .slice none 0 0], .int .i64 0, .int .i64 0], []⟩ 8 (by kernel_rfl) (by kernel_rfl) (by kernel_rfl) (by kernel_rfl)) Go.Fx.Ytaghjpoijodgfaa.law_RowsKeep)
theorem proved : Rows.RowsKeepSaid := over
end Go.Proofs.Ytaghjpoijodgfaa.RowRowsKeep
namespace Go.Proofs.Ytaghjpoijodgfaa
theorem rowsKeep_holds : Rows.RowsKeepSaid := RowRowsKeep.proved
#print axioms rowsKeep_holds
end Go.Proofs.Ytaghjpoijodgfaa

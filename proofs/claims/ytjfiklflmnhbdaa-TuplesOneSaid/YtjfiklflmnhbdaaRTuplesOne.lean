/- The law TuplesOne answers true for every input, and every argument reads behind the call as it read before. Conditions: those of the given row, none besides. -/
import Derived.Test.YtjfiklflmnhbdaaXD
import Derived.Test.YtjfiklflmnhbdaaRows
import Derived.Test.YtjfiklflmnhbdaaLu
import Derived.KernelRfl
import Derived.JoinedOf
import Derived.Handed
set_option maxRecDepth 1000000
set_option linter.unusedVariables false
namespace Go.Proofs.Ytjfiklflmnhbdaa.RowTuplesOne
open Go Go.Fx Go.Proofs Go.Proofs.Ytjfiklflmnhbdaa
theorem fnRow : RowFn Try.checked 5 Try.f5 Rows.tuplesOneSpec (Try.f5.resultTypes.getD 0 0) where
  own := by kernel_rfl
  noInit := by kernel_rfl
  func := Try.func5
  laid := by kernel_rfl
  params := by kernel_rfl
  res := by kernel_rfl
  bool := by kernel_rfl
  vars := rfl
  spec := by
    intro H ds h
    have h' : ds.length = 3 := h.trans (by kernel_rfl)
    match ds, h' with
    | [d0, d1, d2], _ => rfl
theorem over : Rows.tuplesOneRow.holds Try.pinned (OpenSpec.ofChange Rows.tuplesOneSpec) :=
  OpenClaim.holds_of_wide 5 Try.f5 rfl rfl rfl rfl rfl rfl rfl ⟨rfl, rfl, rfl, rfl, rfl⟩ rfl rfl rfl rfl rfl (by kernel_rfl) Try.func5 (by kernel_rfl)
    (of_decide_eq_true (by kernel_rfl)) (by unfold Func.isWrapper; first | (rw [if_pos (by decide +kernel)]; kernel_rfl) | (rw [if_neg (by decide +kernel)]; exact ⟨rfl, rfl⟩))
    (fun os started H enc _ => row_of fnRow started (ChangeSpec.witness6 (enc := enc) (C := Try.checked) false ⟨#[], #[.slice none 0 0, .int .i64 0, .int .i64 0], []⟩ 8 (by kernel_rfl) (by kernel_rfl) (by kernel_rfl) (by kernel_rfl)) Go.Fx.Ytjfiklflmnhbdaa.law_TuplesOne)
theorem proved : Rows.TuplesOneSaid := over
end Go.Proofs.Ytjfiklflmnhbdaa.RowTuplesOne
namespace Go.Proofs.Ytjfiklflmnhbdaa
theorem tuplesOne_holds : Rows.TuplesOneSaid := RowTuplesOne.proved
#print axioms tuplesOne_holds
end Go.Proofs.Ytjfiklflmnhbdaa

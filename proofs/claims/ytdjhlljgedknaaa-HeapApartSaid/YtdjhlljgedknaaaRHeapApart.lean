/- The law HeapApart answers true for every input, and every argument reads behind the call as it read before. Conditions: those of the given row, none besides. -/
import Derived.Test.YtdjhlljgedknaaaXD
import Derived.Test.YtdjhlljgedknaaaRows
import Derived.Test.YtdjhlljgedknaaaHt
import Derived.KernelRfl
import Derived.JoinedOf
import Derived.Handed
set_option maxRecDepth 1000000
set_option linter.unusedVariables false
namespace Go.Proofs.Ytdjhlljgedknaaa.RowHeapApart
open Go Go.Fx Go.Proofs Go.Proofs.Ytdjhlljgedknaaa
theorem fnRow : RowFn Try.checked 5 Try.f5 Rows.heapApartSpec (Try.f5.resultTypes.getD 0 0) where
  own := by kernel_rfl
  noInit := by kernel_rfl
  func := Try.func5
  laid := by kernel_rfl
  params := by kernel_rfl
  res := by kernel_rfl
  bool := by kernel_rfl
  vars := rfl
  spec := by
    intro H ds h
    have h' : ds.length = 2 := h.trans (by kernel_rfl)
    match ds, h' with
    | [d0, d1], _ => rfl
theorem over : Rows.heapApartRow.holds Try.pinned (OpenSpec.ofChange Rows.heapApartSpec) :=
  OpenClaim.holds_of_wide 5 Try.f5 rfl rfl rfl rfl rfl rfl rfl ⟨rfl, rfl, rfl, rfl, rfl⟩ rfl rfl rfl rfl rfl (by kernel_rfl) Try.func5 (by kernel_rfl)
    (of_decide_eq_true (by kernel_rfl)) (by unfold Func.isWrapper; first | (rw [if_pos (by decide +kernel)]; kernel_rfl) | (rw [if_neg (by decide +kernel)]; exact ⟨rfl, rfl⟩))
    (fun os started H enc _ => row_of fnRow started (ChangeSpec.witness6 (enc := enc) (C := Try.checked) false ⟨#[], #[.slice none 0 0, .slice none 0 0], []⟩ 8 (by kernel_rfl) (by kernel_rfl) (by kernel_rfl) (by kernel_rfl)) Go.Fx.Ytdjhlljgedknaaa.law_HeapApart)
theorem proved : Rows.HeapApartSaid := over
end Go.Proofs.Ytdjhlljgedknaaa.RowHeapApart
namespace Go.Proofs.Ytdjhlljgedknaaa
theorem heapApart_holds : Rows.HeapApartSaid := RowHeapApart.proved
#print axioms heapApart_holds
end Go.Proofs.Ytdjhlljgedknaaa

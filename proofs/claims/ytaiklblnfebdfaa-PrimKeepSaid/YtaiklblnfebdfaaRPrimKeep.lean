/- The law PrimKeep answers true for every input, and every argument reads behind the call as it read before. Conditions: those of the given row, none besides. -/
import Derived.Test.YtaiklblnfebdfaaXD
import Derived.Test.YtaiklblnfebdfaaRows
import Derived.Test.YtaiklblnfebdfaaLk
import Derived.KernelRfl
import Derived.JoinedOf
import Derived.Handed
set_option maxRecDepth 1000000
set_option linter.unusedVariables false
namespace Go.Proofs.Ytaiklblnfebdfaa.RowPrimKeep
open Go Go.Fx Go.Proofs Go.Proofs.Ytaiklblnfebdfaa
theorem fnRow : RowFn Try.checked 6 Try.f6 Rows.primKeepSpec (Try.f6.resultTypes.getD 0 0) where
  own := by kernel_rfl
  noInit := by kernel_rfl
  func := Try.func6
  laid := by kernel_rfl
  params := by kernel_rfl
  res := by kernel_rfl
  bool := by kernel_rfl
  vars := rfl
  spec := by
    intro H ds h
    have h' : ds.length = 3 := h.trans (by kernel_rfl)
    match ds, h' with
    | [d0, d1, d2], _ => rfl
theorem over : Rows.primKeepRow.holds Try.pinned (OpenSpec.ofChange Rows.primKeepSpec) :=
  OpenClaim.holds_of_wide 6 Try.f6 rfl rfl rfl rfl rfl rfl rfl ⟨rfl, rfl, rfl, rfl, rfl⟩ rfl rfl rfl rfl rfl (by kernel_rfl) Try.func6 (by kernel_rfl)
    (of_decide_eq_true (by kernel_rfl)) (by unfold Func.isWrapper; first | (rw [if_pos (by decide +kernel)]; kernel_rfl) | (rw [if_neg (by decide +kernel)]; exact ⟨rfl, rfl⟩))
    (fun os started H enc _ => row_of fnRow started (ChangeSpec.witness6 (enc := enc) (C := Try.checked) false ⟨#[], #[.int .i64 0, .agg #[.int .i64 0, .int .i64 0, .int .i64 0, .bool false, .bool false, .slice none 0 0], .agg #[.int .i64 0, .int .i64 0, .int .i64 0, .bool false, .bool false, .slice none 0 0]], []⟩ 8 (by kernel_rfl) (by kernel_rfl) (by kernel_rfl) (by kernel_rfl)) Go.Fx.Ytaiklblnfebdfaa.law_PrimKeep)
theorem proved : Rows.PrimKeepSaid := over
end Go.Proofs.Ytaiklblnfebdfaa.RowPrimKeep
namespace Go.Proofs.Ytaiklblnfebdfaa
theorem primKeep_holds : Rows.PrimKeepSaid := RowPrimKeep.proved
#print axioms primKeep_holds
end Go.Proofs.Ytaiklblnfebdfaa

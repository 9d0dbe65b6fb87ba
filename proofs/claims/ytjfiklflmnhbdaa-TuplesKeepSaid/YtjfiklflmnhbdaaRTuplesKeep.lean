/- The law TuplesKeep answers true for every input, and every argument reads behind the call as it read before. Conditions: those of the given row, none besides. -/
import Derived.Test.YtjfiklflmnhbdaaXD
import Derived.Test.YtjfiklflmnhbdaaRows
import Derived.Test.YtjfiklflmnhbdaaTk
import Derived.KernelRfl
import Derived.JoinedOf
import Derived.Handed
set_option maxRecDepth 1000000
set_option linter.unusedVariables false
namespace Go.Proofs.Ytjfiklflmnhbdaa.RowTuplesKeep
open Go Go.Fx Go.Proofs Go.Proofs.Ytjfiklflmnhbdaa
theorem fnRow : RowFn Try.checked 7 Try.f7 Rows.tuplesKeepSpec (Try.f7.resultTypes.getD 0 0) where
  own := by kernel_rfl
  noInit := by kernel_rfl
  func := Try.func7
  laid := by kernel_rfl
  params := by kernel_rfl
  res := by kernel_rfl
  bool := by kernel_rfl
  vars := rfl
  spec := by
    intro H ds h
    have h' : ds.length = 3 := h.trans (by kernel_rfl)
    match ds, h' with
    | [d0, d1, d2], _ => rfl
theorem over : Rows.tuplesKeepRow.holds Try.pinned (OpenSpec.ofChange Rows.tuplesKeepSpec) :=
  OpenClaim.holds_of_wide 7 Try.f7 rfl rfl rfl rfl rfl rfl rfl ⟨rfl, rfl, rfl, rfl, rfl⟩ rfl rfl rfl rfl rfl (by kernel_rfl) Try.func7 (by kernel_rfl)
    (of_decide_eq_true (by kernel_rfl)) (by unfold Func.isWrapper; first | (rw [if_pos (by decide +kernel)]; kernel_rfl) | (rw [if_neg (by decide +kernel)]; exact ⟨rfl, rfl⟩))
    (fun os started H enc _ => row_of fnRow started (ChangeSpec.witness6 (enc := enc) (C := Try.checked) false ⟨#[], #[.agg #[.slice none 0 0, .int .i64 0, .int .i64 0, .slice none 0 0], .slice none 0 0, .int .i64 0], []⟩ 8 (by kernel_rfl) (by kernel_rfl) (by kernel_rfl) (by kernel_rfl)) Go.Fx.Ytjfiklflmnhbdaa.law_TuplesKeep)
theorem proved : Rows.TuplesKeepSaid := over
end Go.Proofs.Ytjfiklflmnhbdaa.RowTuplesKeep
namespace Go.Proofs.Ytjfiklflmnhbdaa
theorem tuplesKeep_holds : Rows.TuplesKeepSaid := RowTuplesKeep.proved
#print axioms tuplesKeep_holds
end Go.Proofs.Ytjfiklflmnhbdaa

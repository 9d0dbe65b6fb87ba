import Derived.Test.YthbainhddfajfaaXD
import Derived.Test.YthbainhddfajfaaProg
import Derived.KernelRfl
set_option linter.all false
set_option maxRecDepth 1000000
set_option maxHeartbeats 0
namespace Go.Fx.Ythbainhddfajfaa
open Go Go.Fx Go.Proofs

/-- fathomref01.in -/
noncomputable def cf69 : Cfg := ⟨Try.prog, 24, [0, 1, 2, 3], []⟩
noncomputable def ac69 : AC :=
  (.seq (.reg [.mk (.g 1) none (.bxi (.g 0)), .mk (.g 2) none (.al [.int .i64 0, .int .i64 0]), .mk (.g 3) none (.mv (.c (.int .i64 0)))]) (.seq (.ifr [.mk (.t 4) none (.fa 0 (.g 1)), .mk (.t 5) none (.ld false 1 (.t 4)), .mk (.t 6) none (.bin .lss 3 (.t 5) (.c (.int .i64 (-16777216)))), .mk (.t 7) none (.mv (.t 6)), .mk (.t 8) (some (.t 7, false)) (.fa 0 (.g 1)), .mk (.t 9) (some (.t 7, false)) (.ld false 1 (.t 8)), .mk (.t 10) (some (.t 7, false)) (.bin .gtr 3 (.t 9) (.c (.int .i64 16777216))), .mk (.t 11) none (.pick (.t 7) (.c (.bool true)) (.t 10)), .mk (.t 12) none (.mv (.t 11)), .mk (.t 13) (some (.t 12, false)) (.fa 1 (.g 1)), .mk (.t 14) (some (.t 12, false)) (.ld false 1 (.t 13)), .mk (.t 15) (some (.t 12, false)) (.bin .lss 3 (.t 14) (.c (.int .i64 (-16777216)))), .mk (.t 16) none (.pick (.t 12) (.c (.bool true)) (.t 15)), .mk (.t 17) none (.mv (.t 16)), .mk (.t 18) (some (.t 17, false)) (.fa 1 (.g 1)), .mk (.t 19) (some (.t 17, false)) (.ld false 1 (.t 18)), .mk (.t 20) (some (.t 17, false)) (.bin .gtr 3 (.t 19) (.c (.int .i64 16777216))), .mk (.t 21) none (.pick (.t 17) (.c (.bool true)) (.t 20))] (.t 21) (.seq (.reg [.mk (.t 22) none (.bld [.int .i64 0, .int .i64 0] []), .mk .no none (.st 2 (.g 2) (.t 22)), .mk (.g 3) none (.mv (.c (.int .i64 50)))]) .ret) .skip) (.seq (.reg [.mk (.t 23) none (.ld true 2 (.g 1)), .mk .no none (.st 2 (.g 2) (.t 23)), .mk (.g 3) none (.mv (.c (.int .i64 0)))]) .ret)))
theorem co69 : cf69.comp (Try.f69.body.getD .skip) = some ac69 := by kernel_rfl
theorem pu69 {args : List D} {res : D} (hl : args.length ≤ 24) (h : A cf69 ac69 (Kont cf69 (RetQ [.c 2 true 2, .t 3] res) []) (env0 [0, 1, 2, 3] args) [] 0) : Pure Try.prog 69 args res :=
  Pure_of (C := cf69) (c := Try.f69.body.getD .skip) Try.func69 (by kernel_rfl) (by rfl) (by rfl) hl (by kernel_rfl) co69 h
theorem ct69 {args : List D} {mem : Mem} {nx : Nat} {K : KD} (hl : args.length ≤ 24) (h : (∀ i, nx ≤ i → look mem i = none) → A cf69 ac69 (Kont cf69 (RetC [.c 2 true 2, .t 3] K) []) (env0 [0, 1, 2, 3] args) mem nx) : CallT Try.prog 69 args mem nx K :=
  CallT_of (C := cf69) (c := Try.f69.body.getD .skip) Try.func69 (by kernel_rfl) (by rfl) (by rfl) hl (by kernel_rfl) co69 h
@[simp] theorem cfP69 : cf69.P = Try.prog := (rfl)

/-- (fathomref01.Num).Z -/
noncomputable def cf58 : Cfg := ⟨Try.prog, 10, [0, 1, 2], []⟩
noncomputable def ac58 : AC :=
  (.seq (.reg [.mk (.g 1) none (.bxi (.g 0)), .mk (.g 2) none (.mv (.c (.complex .f64 0 0)))]) (.seq (.reg [.mk (.t 3) none (.fa 0 (.g 1)), .mk (.t 4) none (.ld false 1 (.t 3)), .mk (.t 5) none (.cv 3 123 (.t 4)), .mk (.t 6) none (.fa 1 (.g 1)), .mk (.t 7) none (.ld false 1 (.t 6)), .mk (.t 8) none (.cv 3 123 (.t 7)), .mk (.t 9) none (.bi .complex [.t 5, .t 8]), .mk (.g 2) none (.mv (.t 9))]) .ret))
theorem co58 : cf58.comp (Try.f58.body.getD .skip) = some ac58 := by kernel_rfl
theorem pu58 {args : List D} {res : D} (hl : args.length ≤ 10) (h : A cf58 ac58 (Kont cf58 (RetQ [.t 2] res) []) (env0 [0, 1, 2] args) [] 0) : Pure Try.prog 58 args res :=
  Pure_of (C := cf58) (c := Try.f58.body.getD .skip) Try.func58 (by kernel_rfl) (by rfl) (by rfl) hl (by kernel_rfl) co58 h
theorem ct58 {args : List D} {mem : Mem} {nx : Nat} {K : KD} (hl : args.length ≤ 10) (h : (∀ i, nx ≤ i → look mem i = none) → A cf58 ac58 (Kont cf58 (RetC [.t 2] K) []) (env0 [0, 1, 2] args) mem nx) : CallT Try.prog 58 args mem nx K :=
  CallT_of (C := cf58) (c := Try.f58.body.getD .skip) Try.func58 (by kernel_rfl) (by rfl) (by rfl) hl (by kernel_rfl) co58 h
@[simp] theorem cfP58 : cf58.P = Try.prog := (rfl)
end Go.Fx.Ythbainhddfajfaa

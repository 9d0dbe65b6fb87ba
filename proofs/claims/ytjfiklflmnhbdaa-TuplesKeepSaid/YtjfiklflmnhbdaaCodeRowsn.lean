import Derived.Test.YtjfiklflmnhbdaaXD
import Derived.Test.YtjfiklflmnhbdaaProg
import Derived.KernelRfl
set_option linter.all false
set_option maxRecDepth 1000000
set_option maxHeartbeats 0
namespace Go.Fx.Ytjfiklflmnhbdaa.Own
open Go Go.Fx Go.Proofs

/-- rows.New -/
noncomputable def cf37 : Cfg := ⟨Try.prog, 16, [0, 2, 3], [14]⟩
noncomputable def ac37 : AC :=
  (.seq (.reg [.mk (.g 2) none (.al [.int .i64 0, .slice none 0 0]), .mk (.g 3) none (.mv (.c (.int .i64 0)))]) (.seq (.ifr [.mk (.t 4) none (.mv (.g 0)), .mk (.t 5) none (.bin .lss 3 (.t 4) (.c (.int .i64 0))), .mk (.t 6) none (.mv (.t 5)), .mk (.t 7) (some (.t 6, false)) (.mv (.g 0)), .mk (.t 8) (some (.t 6, false)) (.bin .gtr 3 (.t 7) (.c (.int .i64 4096))), .mk (.t 9) none (.pick (.t 6) (.c (.bool true)) (.t 8))] (.t 9) (.seq (.reg [.mk (.t 10) none (.bld [.int .i64 0, .slice none 0 0] []), .mk .no none (.st 2 (.g 2) (.t 10)), .mk (.g 3) none (.mv (.c (.int .i64 2)))]) .ret) .skip) (.seq (.reg [.mk (.t 11) none (.mv (.g 0)), .mk (.t 12) none (.mv (.g 0)), .mk (.t 13) none (.pc (.f 56) [.t 12]), .mk (.t 14) none (.mks 1 8 [.int .u64 0] (.t 13)), .mk (.t 15) none (.bld [.int .i64 0, .slice none 0 0] [(0, 1, .t 11), (1, 1, .t 14)]), .mk .no none (.st 2 (.g 2) (.t 15)), .mk (.g 3) none (.mv (.c (.int .i64 0)))]) .ret)))
theorem co37 : cf37.comp (Try.f37.body.getD .skip) = some ac37 := by kernel_rfl
theorem pu37 {args : List D} {res : D} (hl : args.length ≤ 16) (h : A cf37 ac37 (Kont cf37 (RetQ [.c 2 true 2, .t 3] res) []) (env0 [0, 2, 3] args) [] 0) : Pure Try.prog 37 args res :=
  Pure_of (C := cf37) (c := Try.f37.body.getD .skip) Try.func37 (by kernel_rfl) (by rfl) (by rfl) hl (by kernel_rfl) co37 h
theorem ct37 {args : List D} {mem : Mem} {nx : Nat} {K : KD} (hl : args.length ≤ 16) (h : (∀ i, nx ≤ i → look mem i = none) → A cf37 ac37 (Kont cf37 (RetC [.c 2 true 2, .t 3] K) []) (env0 [0, 2, 3] args) mem nx) : CallT Try.prog 37 args mem nx K :=
  CallT_of (C := cf37) (c := Try.f37.body.getD .skip) Try.func37 (by kernel_rfl) (by rfl) (by rfl) hl (by kernel_rfl) co37 h
@[simp] theorem cfP37 : cf37.P = Try.prog := (rfl)

/-- rows.Join -/
noncomputable def cf30 : Cfg := ⟨Try.prog, 11, [0, 1, 2, 3, 4, 5], [8]⟩
noncomputable def ac30 : AC :=
  (.seq (.reg [.mk (.g 2) none (.bxi (.g 0)), .mk (.g 3) none (.bxi (.g 1)), .mk (.g 4) none (.al [.int .i64 0, .slice none 0 0]), .mk (.g 5) none (.mv (.c (.int .i64 0)))]) (.seq (.reg [.mk (.t 6) none (.ld true 2 (.g 2)), .mk (.t 7) none (.ld true 2 (.g 3)), .mk (.t 8) none (.cl (.f 50) [.t 6, .t 7, .f 51]), .mk (.t 9) none (.ext 0 (.t 8)), .mk (.t 10) none (.ext 1 (.t 8)), .mk .no none (.st 2 (.g 4) (.t 9)), .mk (.g 5) none (.mv (.t 10))]) .ret))
theorem co30 : cf30.comp (Try.f30.body.getD .skip) = some ac30 := by kernel_rfl
theorem pu30 {args : List D} {res : D} (hl : args.length ≤ 11) (h : A cf30 ac30 (Kont cf30 (RetQ [.c 4 true 2, .t 5] res) []) (env0 [0, 1, 2, 3, 4, 5] args) [] 0) : Pure Try.prog 30 args res :=
  Pure_of (C := cf30) (c := Try.f30.body.getD .skip) Try.func30 (by kernel_rfl) (by rfl) (by rfl) hl (by kernel_rfl) co30 h
theorem ct30 {args : List D} {mem : Mem} {nx : Nat} {K : KD} (hl : args.length ≤ 11) (h : (∀ i, nx ≤ i → look mem i = none) → A cf30 ac30 (Kont cf30 (RetC [.c 4 true 2, .t 5] K) []) (env0 [0, 1, 2, 3, 4, 5] args) mem nx) : CallT Try.prog 30 args mem nx K :=
  CallT_of (C := cf30) (c := Try.f30.body.getD .skip) Try.func30 (by kernel_rfl) (by rfl) (by rfl) hl (by kernel_rfl) co30 h
@[simp] theorem cfP30 : cf30.P = Try.prog := (rfl)

/-- rows.Meet -/
noncomputable def cf31 : Cfg := ⟨Try.prog, 11, [0, 1, 2, 3, 4, 5], [8]⟩
noncomputable def ac31 : AC :=
  (.seq (.reg [.mk (.g 2) none (.bxi (.g 0)), .mk (.g 3) none (.bxi (.g 1)), .mk (.g 4) none (.al [.int .i64 0, .slice none 0 0]), .mk (.g 5) none (.mv (.c (.int .i64 0)))]) (.seq (.reg [.mk (.t 6) none (.ld true 2 (.g 2)), .mk (.t 7) none (.ld true 2 (.g 3)), .mk (.t 8) none (.cl (.f 50) [.t 6, .t 7, .f 53]), .mk (.t 9) none (.ext 0 (.t 8)), .mk (.t 10) none (.ext 1 (.t 8)), .mk .no none (.st 2 (.g 4) (.t 9)), .mk (.g 5) none (.mv (.t 10))]) .ret))
theorem co31 : cf31.comp (Try.f31.body.getD .skip) = some ac31 := by kernel_rfl
theorem pu31 {args : List D} {res : D} (hl : args.length ≤ 11) (h : A cf31 ac31 (Kont cf31 (RetQ [.c 4 true 2, .t 5] res) []) (env0 [0, 1, 2, 3, 4, 5] args) [] 0) : Pure Try.prog 31 args res :=
  Pure_of (C := cf31) (c := Try.f31.body.getD .skip) Try.func31 (by kernel_rfl) (by rfl) (by rfl) hl (by kernel_rfl) co31 h
theorem ct31 {args : List D} {mem : Mem} {nx : Nat} {K : KD} (hl : args.length ≤ 11) (h : (∀ i, nx ≤ i → look mem i = none) → A cf31 ac31 (Kont cf31 (RetC [.c 4 true 2, .t 5] K) []) (env0 [0, 1, 2, 3, 4, 5] args) mem nx) : CallT Try.prog 31 args mem nx K :=
  CallT_of (C := cf31) (c := Try.f31.body.getD .skip) Try.func31 (by kernel_rfl) (by rfl) (by rfl) hl (by kernel_rfl) co31 h
@[simp] theorem cfP31 : cf31.P = Try.prog := (rfl)
end Go.Fx.Ytjfiklflmnhbdaa.Own

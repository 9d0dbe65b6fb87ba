import Derived.Test.YtaghjpoijodgfaaXD
import Derived.Test.YtaghjpoijodgfaaProg
import Derived.KernelRfl
set_option linter.all false
set_option maxRecDepth 1000000
set_option maxHeartbeats 0
namespace Go.Fx.Ytaghjpoijodgfaa.Own
open Go Go.Fx Go.Proofs

/-- rows.New -/
noncomputable def cf11 : Cfg := ⟨Try.prog, 16, [0, 2, 3], [14]⟩
noncomputable def ac11 : AC :=
  (.seq (.reg [.mk (.g 2) none (.al [.int .i64 0, .slice none 0 0]), .mk (.g 3) none (.mv (.c (.int .i64 0)))]) (.seq (.ifr [.mk (.t 4) none (.mv (.g 0)), .mk (.t 5) none (.bin .lss 3 (.t 4) (.c (.int .i64 0))), .mk (.t 6) none (.mv (.t 5)), .mk (.t 7) (some (.t 6, false)) (.mv (.g 0)), .mk (.t 8) (some (.t 6, false)) (.bin .gtr 3 (.t 7) (.c (.int .i64 4096))), .mk (.t 9) none (.pick (.t 6) (.c (.bool true)) (.t 8))] (.t 9) (.seq (.reg [.mk (.t 10) none (.bld [.int .i64 0, .slice none 0 0] []), .mk .no none (.st 2 (.g 2) (.t 10)), .mk (.g 3) none (.mv (.c (.int .i64 2)))]) .ret) .skip) (.seq (.reg [.mk (.t 11) none (.mv (.g 0)), .mk (.t 12) none (.mv (.g 0)), .mk (.t 13) none (.pc (.f 31) [.t 12]), .mk (.t 14) none (.mks 1 8 [.int .u64 0] (.t 13)), .mk (.t 15) none (.bld [.int .i64 0, .slice none 0 0] [(0, 1, .t 11), (1, 1, .t 14)]), .mk .no none (.st 2 (.g 2) (.t 15)), .mk (.g 3) none (.mv (.c (.int .i64 0)))]) .ret)))
theorem co11 : cf11.comp (Try.f11.body.getD .skip) = some ac11 := by kernel_rfl
theorem pu11 {args : List D} {res : D} (hl : args.length ≤ 16) (h : A cf11 ac11 (Kont cf11 (RetQ [.c 2 true 2, .t 3] res) []) (env0 [0, 2, 3] args) [] 0) : Pure Try.prog 11 args res :=
  Pure_of (C := cf11) (c := Try.f11.body.getD .skip) Try.func11 (by kernel_rfl) (by rfl) (by rfl) hl (by kernel_rfl) co11 h
theorem ct11 {args : List D} {mem : Mem} {nx : Nat} {K : KD} (hl : args.length ≤ 16) (h : (∀ i, nx ≤ i → look mem i = none) → A cf11 ac11 (Kont cf11 (RetC [.c 2 true 2, .t 3] K) []) (env0 [0, 2, 3] args) mem nx) : CallT Try.prog 11 args mem nx K :=
  CallT_of (C := cf11) (c := Try.f11.body.getD .skip) Try.func11 (by kernel_rfl) (by rfl) (by rfl) hl (by kernel_rfl) co11 h
@[simp] theorem cfP11 : cf11.P = Try.prog := (rfl)

/-- rows.Join -/
noncomputable def cf18 : Cfg := ⟨Try.prog, 11, [0, 1, 2, 3, 4, 5], [8]⟩
noncomputable def ac18 : AC :=
  (.seq (.reg [.mk (.g 2) none (.bxi (.g 0)), .mk (.g 3) none (.bxi (.g 1)), .mk (.g 4) none (.al [.int .i64 0, .slice none 0 0]), .mk (.g 5) none (.mv (.c (.int .i64 0)))]) (.seq (.reg [.mk (.t 6) none (.ld true 2 (.g 2)), .mk (.t 7) none (.ld true 2 (.g 3)), .mk (.t 8) none (.cl (.f 33) [.t 6, .t 7, .f 34]), .mk (.t 9) none (.ext 0 (.t 8)), .mk (.t 10) none (.ext 1 (.t 8)), .mk .no none (.st 2 (.g 4) (.t 9)), .mk (.g 5) none (.mv (.t 10))]) .ret))
theorem co18 : cf18.comp (Try.f18.body.getD .skip) = some ac18 := by kernel_rfl
theorem pu18 {args : List D} {res : D} (hl : args.length ≤ 11) (h : A cf18 ac18 (Kont cf18 (RetQ [.c 4 true 2, .t 5] res) []) (env0 [0, 1, 2, 3, 4, 5] args) [] 0) : Pure Try.prog 18 args res :=
  Pure_of (C := cf18) (c := Try.f18.body.getD .skip) Try.func18 (by kernel_rfl) (by rfl) (by rfl) hl (by kernel_rfl) co18 h
theorem ct18 {args : List D} {mem : Mem} {nx : Nat} {K : KD} (hl : args.length ≤ 11) (h : (∀ i, nx ≤ i → look mem i = none) → A cf18 ac18 (Kont cf18 (RetC [.c 4 true 2, .t 5] K) []) (env0 [0, 1, 2, 3, 4, 5] args) mem nx) : CallT Try.prog 18 args mem nx K :=
  CallT_of (C := cf18) (c := Try.f18.body.getD .skip) Try.func18 (by kernel_rfl) (by rfl) (by rfl) hl (by kernel_rfl) co18 h
@[simp] theorem cfP18 : cf18.P = Try.prog := (rfl)

/-- rows.Meet -/
noncomputable def cf19 : Cfg := ⟨Try.prog, 11, [0, 1, 2, 3, 4, 5], [8]⟩
noncomputable def ac19 : AC :=
  (.seq (.reg [.mk (.g 2) none (.bxi (.g 0)), .mk (.g 3) none (.bxi (.g 1)), .mk (.g 4) none (.al [.int .i64 0, .slice none 0 0]), .mk (.g 5) none (.mv (.c (.int .i64 0)))]) (.seq (.reg [.mk (.t 6) none (.ld true 2 (.g 2)), .mk (.t 7) none (.ld true 2 (.g 3)), .mk (.t 8) none (.cl (.f 33) [.t 6, .t 7, .f 36]), .mk (.t 9) none (.ext 0 (.t 8)), .mk (.t 10) none (.ext 1 (.t 8)), .mk .no none (.st 2 (.g 4) (.t 9)), .mk (.g 5) none (.mv (.t 10))]) .ret))
theorem co19 : cf19.comp (Try.f19.body.getD .skip) = some ac19 := by kernel_rfl
theorem pu19 {args : List D} {res : D} (hl : args.length ≤ 11) (h : A cf19 ac19 (Kont cf19 (RetQ [.c 4 true 2, .t 5] res) []) (env0 [0, 1, 2, 3, 4, 5] args) [] 0) : Pure Try.prog 19 args res :=
  Pure_of (C := cf19) (c := Try.f19.body.getD .skip) Try.func19 (by kernel_rfl) (by rfl) (by rfl) hl (by kernel_rfl) co19 h
theorem ct19 {args : List D} {mem : Mem} {nx : Nat} {K : KD} (hl : args.length ≤ 11) (h : (∀ i, nx ≤ i → look mem i = none) → A cf19 ac19 (Kont cf19 (RetC [.c 4 true 2, .t 5] K) []) (env0 [0, 1, 2, 3, 4, 5] args) mem nx) : CallT Try.prog 19 args mem nx K :=
  CallT_of (C := cf19) (c := Try.f19.body.getD .skip) Try.func19 (by kernel_rfl) (by rfl) (by rfl) hl (by kernel_rfl) co19 h
@[simp] theorem cfP19 : cf19.P = Try.prog := (rfl)
end Go.Fx.Ytaghjpoijodgfaa.Own

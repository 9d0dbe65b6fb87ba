import Derived.Test.YthbainhddfajfaaXD
import Derived.Test.YthbainhddfajfaaProg
import Derived.KernelRfl
set_option linter.all false
set_option maxRecDepth 1000000
set_option maxHeartbeats 0
namespace Go.Fx.Ythbainhddfajfaa
open Go Go.Fx Go.Proofs

/-- fathomlaw07.awake -/
noncomputable def cf8 : Cfg := ⟨Try.prog, 55, [0, 1, 3, 4, 5, 6], [8, 9, 14, 15]⟩
noncomputable def ac8 : AC :=
  (.seq (.reg [.mk (.g 0) none (.mv (.c (.bool false)))]) (.seq (.reg [.mk (.t 8) none (.bso 1 14 [.int .u8 0] [(0, 1, .c (.int .u8 102)), (1, 1, .c (.int .u8 40)), (2, 1, .c (.int .u8 120)), (3, 1, .c (.int .u8 32)), (4, 1, .c (.int .u8 78)), (5, 1, .c (.int .u8 41)), (6, 1, .c (.int .u8 58)), (7, 1, .c (.int .u8 66)), (8, 1, .c (.int .u8 61)), (9, 1, .c (.int .u8 120)), (10, 1, .c (.int .u8 61)), (11, 1, .c (.int .u8 61)), (12, 1, .c (.int .u8 49)), (13, 1, .c (.int .u8 59))]), .mk (.t 9) none (.cvo (.t 8)), .mk (.t 10) none (.pc (.f 9) [.t 9]), .mk (.t 7) none (.mv (.t 10)), .mk (.t 11) none (.ext 0 (.t 7)), .mk (.t 12) none (.ext 1 (.t 7)), .mk (.g 1) none (.al [.slice none 0 0]), .mk .no none (.st 1 (.g 1) (.t 11)), .mk (.t 2) none (.mv (.t 12))]) (.seq (.reg [.mk (.t 14) none (.bso 1 13 [.int .u8 0] [(0, 1, .c (.int .u8 102)), (1, 1, .c (.int .u8 40)), (2, 1, .c (.int .u8 120)), (3, 1, .c (.int .u8 32)), (4, 1, .c (.int .u8 66)), (5, 1, .c (.int .u8 41)), (6, 1, .c (.int .u8 58)), (7, 1, .c (.int .u8 78)), (8, 1, .c (.int .u8 61)), (9, 1, .c (.int .u8 120)), (10, 1, .c (.int .u8 43)), (11, 1, .c (.int .u8 49)), (12, 1, .c (.int .u8 59))]), .mk (.t 15) none (.cvo (.t 14)), .mk (.t 16) none (.pc (.f 9) [.t 15]), .mk (.t 13) none (.mv (.t 16)), .mk (.t 17) none (.ext 0 (.t 13)), .mk (.t 18) none (.ext 1 (.t 13)), .mk (.g 3) none (.al [.slice none 0 0]), .mk .no none (.st 1 (.g 3) (.t 17)), .mk (.g 4) none (.mv (.t 18))]) (.seq (.reg [.mk (.t 20) none (.ld true 1 (.g 1)), .mk (.t 21) none (.fa 0 (.g 1)), .mk (.t 22) none (.ld false 1 (.t 21)), .mk (.t 23) none (.ia 11 (.t 22) (.c (.int .i64 0))), .mk (.t 24) none (.fa 1 (.t 23)), .mk (.t 25) none (.ld false 1 (.t 24)), .mk (.t 26) none (.fa 0 (.g 1)), .mk (.t 27) none (.ld false 1 (.t 26)), .mk (.t 28) none (.ia 11 (.t 27) (.c (.int .i64 0))), .mk (.t 29) none (.fa 3 (.t 28)), .mk (.t 30) none (.ld true 7 (.t 29)), .mk (.t 31) none (.pc (.f 13) [.t 20, .t 25, .t 30]), .mk (.t 19) none (.mv (.t 31)), .mk (.t 32) none (.ext 0 (.t 19)), .mk (.t 33) none (.ext 1 (.t 19)), .mk (.g 5) none (.mv (.t 32)), .mk (.g 6) none (.mv (.t 33))]) (.seq (.reg [.mk (.t 34) none (.mv (.g 4)), .mk (.t 35) none (.mv (.t 34)), .mk (.t 36) (some (.t 35, true)) (.ld true 1 (.g 1)), .mk (.t 37) (some (.t 35, true)) (.pc (.f 10) [.t 36]), .mk (.t 38) (some (.t 35, true)) (.bld [.int .i64 0, .int .i64 0] []), .mk (.t 39) (some (.t 35, true)) (.bin .eql 31 (.t 37) (.t 38)), .mk (.t 40) none (.pick (.t 35) (.t 39) (.c (.bool false))), .mk (.t 41) none (.mv (.t 40)), .mk (.t 42) (some (.t 41, true)) (.ld true 1 (.g 3)), .mk (.t 43) (some (.t 41, true)) (.pc (.f 10) [.t 42]), .mk (.t 44) (some (.t 41, true)) (.bld [.int .i64 0, .int .i64 0] [(0, 1, .c (.int .i64 34)), (1, 1, .c (.int .i64 9))]), .mk (.t 45) (some (.t 41, true)) (.bin .eql 31 (.t 43) (.t 44)), .mk (.t 46) none (.pick (.t 41) (.t 45) (.c (.bool false))), .mk (.t 47) none (.mv (.t 46)), .mk (.t 48) (some (.t 47, true)) (.mv (.g 5)), .mk (.t 49) (some (.t 47, true)) (.bin .eql 35 (.t 48) (.c (.int .i64 2))), .mk (.t 50) none (.pick (.t 47) (.t 49) (.c (.bool false))), .mk (.t 51) none (.mv (.t 50)), .mk (.t 52) (some (.t 51, true)) (.mv (.g 6)), .mk (.t 53) (some (.t 51, true)) (.bin .eql 29 (.t 52) (.c (.int .i64 0))), .mk (.t 54) none (.pick (.t 51) (.t 53) (.c (.bool false))), .mk (.g 0) none (.mv (.t 54))]) .ret)))))
theorem co8 : cf8.comp (Try.f8.body.getD .skip) = some ac8 := by kernel_rfl
theorem pu8 {args : List D} {res : D} (hl : args.length ≤ 55) (h : A cf8 ac8 (Kont cf8 (RetQ [.t 0] res) []) (env0 [0, 1, 3, 4, 5, 6] args) [] 0) : Pure Try.prog 8 args res :=
  Pure_of (C := cf8) (c := Try.f8.body.getD .skip) Try.func8 (by kernel_rfl) (by rfl) (by rfl) hl (by kernel_rfl) co8 h
theorem ct8 {args : List D} {mem : Mem} {nx : Nat} {K : KD} (hl : args.length ≤ 55) (h : (∀ i, nx ≤ i → look mem i = none) → A cf8 ac8 (Kont cf8 (RetC [.t 0] K) []) (env0 [0, 1, 3, 4, 5, 6] args) mem nx) : CallT Try.prog 8 args mem nx K :=
  CallT_of (C := cf8) (c := Try.f8.body.getD .skip) Try.func8 (by kernel_rfl) (by rfl) (by rfl) hl (by kernel_rfl) co8 h
@[simp] theorem cfP8 : cf8.P = Try.prog := (rfl)

/-- fathomlaw07.read -/
noncomputable def cf9 : Cfg := ⟨Try.prog, 16, [0, 2, 3, 4, 5], []⟩
noncomputable def ac9 : AC :=
  (.seq (.reg [.mk (.g 2) none (.al [.slice none 0 0]), .mk (.g 3) none (.mv (.c (.bool false)))]) (.seq (.reg [.mk (.t 7) none (.mv (.g 0)), .mk (.t 8) none (.pc (.f 18) []), .mk (.t 9) none (.pc (.f 17) [.t 7, .t 8]), .mk (.t 6) none (.mv (.t 9)), .mk (.t 10) none (.ext 0 (.t 6)), .mk (.t 11) none (.ext 1 (.t 6)), .mk (.g 4) none (.al [.slice none 0 0]), .mk (.g 5) none (.al [.int .i64 0, .int .i64 0]), .mk .no none (.st 1 (.g 4) (.t 10)), .mk .no none (.st 2 (.g 5) (.t 11))]) (.seq (.reg [.mk (.t 12) none (.ld true 1 (.g 4)), .mk (.t 13) none (.fa 0 (.g 5)), .mk (.t 14) none (.ld false 1 (.t 13)), .mk (.t 15) none (.bin .eql 29 (.t 14) (.c (.int .i64 0))), .mk .no none (.sta 1 (.g 2) (.t 12) [.g 5, .g 5]), .mk (.g 3) none (.mv (.t 15))]) .ret)))
theorem co9 : cf9.comp (Try.f9.body.getD .skip) = some ac9 := by kernel_rfl
theorem pu9 {args : List D} {res : D} (hl : args.length ≤ 16) (h : A cf9 ac9 (Kont cf9 (RetQ [.c 2 true 1, .t 3] res) []) (env0 [0, 2, 3, 4, 5] args) [] 0) : Pure Try.prog 9 args res :=
  Pure_of (C := cf9) (c := Try.f9.body.getD .skip) Try.func9 (by kernel_rfl) (by rfl) (by rfl) hl (by kernel_rfl) co9 h
theorem ct9 {args : List D} {mem : Mem} {nx : Nat} {K : KD} (hl : args.length ≤ 16) (h : (∀ i, nx ≤ i → look mem i = none) → A cf9 ac9 (Kont cf9 (RetC [.c 2 true 1, .t 3] K) []) (env0 [0, 2, 3, 4, 5] args) mem nx) : CallT Try.prog 9 args mem nx K :=
  CallT_of (C := cf9) (c := Try.f9.body.getD .skip) Try.func9 (by kernel_rfl) (by rfl) (by rfl) hl (by kernel_rfl) co9 h
@[simp] theorem cfP9 : cf9.P = Try.prog := (rfl)

/-- fathomlaw07.TypesChecks -/
noncomputable def cf3 : Cfg := ⟨Try.prog, 21, [0, 2, 3, 4], []⟩
noncomputable def ac3 : AC :=
  (.seq (.reg [.mk (.g 2) none (.mv (.c (.bool false)))]) (.seq (.ifr [.mk (.t 5) none (.pc (.f 8) []), .mk (.t 6) none (.un .not (.t 5))] (.t 6) (.seq (.reg [.mk (.g 2) none (.mv (.c (.bool false)))]) .ret) .skip) (.seq (.reg [.mk (.t 8) none (.mv (.g 0)), .mk (.t 9) none (.pc (.f 9) [.t 8]), .mk (.t 7) none (.mv (.t 9)), .mk (.t 10) none (.ext 0 (.t 7)), .mk (.t 11) none (.ext 1 (.t 7)), .mk (.g 3) none (.al [.slice none 0 0]), .mk .no none (.st 1 (.g 3) (.t 10)), .mk (.g 4) none (.mv (.t 11))]) (.seq (.reg [.mk (.t 12) none (.mv (.g 4)), .mk (.t 13) none (.un .not (.t 12)), .mk (.t 14) none (.mv (.t 13)), .mk (.t 15) (some (.t 14, false)) (.ld true 1 (.g 3)), .mk (.t 16) (some (.t 14, false)) (.pc (.f 10) [.t 15]), .mk (.t 17) (some (.t 14, false)) (.ld true 1 (.g 3)), .mk (.t 18) (some (.t 14, false)) (.pc (.f 11) [.t 17]), .mk (.t 19) (some (.t 14, false)) (.bin .eql 31 (.t 16) (.t 18)), .mk (.t 20) none (.pick (.t 14) (.c (.bool true)) (.t 19)), .mk (.g 2) none (.mv (.t 20))]) .ret))))
theorem co3 : cf3.comp (Try.f3.body.getD .skip) = some ac3 := by kernel_rfl
theorem pu3 {args : List D} {res : D} (hl : args.length ≤ 21) (h : A cf3 ac3 (Kont cf3 (RetQ [.t 2] res) []) (env0 [0, 2, 3, 4] args) [] 0) : Pure Try.prog 3 args res :=
  Pure_of (C := cf3) (c := Try.f3.body.getD .skip) Try.func3 (by kernel_rfl) (by rfl) (by rfl) hl (by kernel_rfl) co3 h
theorem ct3 {args : List D} {mem : Mem} {nx : Nat} {K : KD} (hl : args.length ≤ 21) (h : (∀ i, nx ≤ i → look mem i = none) → A cf3 ac3 (Kont cf3 (RetC [.t 2] K) []) (env0 [0, 2, 3, 4] args) mem nx) : CallT Try.prog 3 args mem nx K :=
  CallT_of (C := cf3) (c := Try.f3.body.getD .skip) Try.func3 (by kernel_rfl) (by rfl) (by rfl) hl (by kernel_rfl) co3 h
@[simp] theorem cfP3 : cf3.P = Try.prog := (rfl)
end Go.Fx.Ythbainhddfajfaa

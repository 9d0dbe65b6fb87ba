import Derived.Test.YtalinonmjhdmaaaXD
import Derived.Test.YtalinonmjhdmaaaProg
import Derived.KernelRfl
set_option linter.all false
set_option maxRecDepth 1000000
set_option maxHeartbeats 0
namespace Go.Fx.Ytalinonmjhdmaaa
open Go Go.Fx Go.Proofs

/-- points.Top -/
noncomputable def cf7 : Cfg := ⟨Try.prog, 10, [0, 2, 3, 4, 5], []⟩
noncomputable def ac7 : AC :=
  (.seq (.reg [.mk (.g 2) none (.mv (.c (.int .i64 0))), .mk (.g 3) none (.mv (.c (.int .i64 0)))]) (.seq (.seq (.reg [.mk (.g 4) none (.mv (.g 0))]) (.block 0 (.seq (.ifr [.mk (.t 6) none (.bin .eql 23 (.g 4) (.c (.int .i64 1))), .mk (.g 5) none (.mv (.t 6))] (.g 5) .skip (.reg [.mk (.t 7) none (.bin .eql 23 (.g 4) (.c (.int .i64 2))), .mk (.g 5) none (.mv (.t 7))])) (.cond (.g 5) (.seq (.reg [.mk (.g 2) none (.mv (.c (.int .i64 1))), .mk (.g 3) none (.mv (.c (.int .i64 0)))]) .ret) (.ifr [.mk (.t 9) none (.bin .eql 23 (.g 4) (.c (.int .i64 3))), .mk (.t 8) none (.mv (.t 9))] (.t 8) (.seq (.reg [.mk (.g 2) none (.mv (.c (.int .i64 3))), .mk (.g 3) none (.mv (.c (.int .i64 0)))]) .ret) .skip))))) (.seq (.reg [.mk (.g 2) none (.mv (.c (.int .i64 0))), .mk (.g 3) none (.mv (.c (.int .i64 3)))]) .ret)))
theorem co7 : cf7.comp (Try.f7.body.getD .skip) = some ac7 := by kernel_rfl
theorem pu7 {args : List D} {res : D} (hl : args.length ≤ 10) (h : A cf7 ac7 (Kont cf7 (RetQ [.t 2, .t 3] res) []) (env0 [0, 2, 3, 4, 5] args) [] 0) : Pure Try.prog 7 args res :=
  Pure_of (C := cf7) (c := Try.f7.body.getD .skip) Try.func7 (by kernel_rfl) (by rfl) (by rfl) hl (by kernel_rfl) co7 h
theorem ct7 {args : List D} {mem : Mem} {nx : Nat} {K : KD} (hl : args.length ≤ 10) (h : (∀ i, nx ≤ i → look mem i = none) → A cf7 ac7 (Kont cf7 (RetC [.t 2, .t 3] K) []) (env0 [0, 2, 3, 4, 5] args) mem nx) : CallT Try.prog 7 args mem nx K :=
  CallT_of (C := cf7) (c := Try.f7.body.getD .skip) Try.func7 (by kernel_rfl) (by rfl) (by rfl) hl (by kernel_rfl) co7 h
@[simp] theorem cfP7 : cf7.P = Try.prog := (rfl)

/-- points.Check -/
noncomputable def cf9 : Cfg := ⟨Try.prog, 24, [0, 1, 4, 5, 6], []⟩
noncomputable def ac9 : AC :=
  (.seq (.reg [.mk (.g 4) none (.mv (.c (.int .i64 0)))]) (.seq (.reg [.mk (.t 8) none (.mv (.g 0)), .mk (.t 9) none (.pc (.f 7) [.t 8]), .mk (.t 7) none (.mv (.t 9)), .mk (.t 10) none (.ext 0 (.t 7)), .mk (.t 11) none (.ext 1 (.t 7)), .mk (.g 5) none (.mv (.t 10)), .mk (.g 6) none (.mv (.t 11))]) (.seq (.ifr [.mk (.t 12) none (.mv (.g 6)), .mk (.t 13) none (.bin .eql 25 (.t 12) (.c (.int .i64 0))), .mk (.t 14) none (.mv (.t 13)), .mk (.t 15) (some (.t 14, true)) (.mv (.g 1)), .mk (.t 16) (some (.t 14, true)) (.bin .lss 24 (.t 15) (.c (.int .i64 0))), .mk (.t 17) (some (.t 14, true)) (.mv (.t 16)), .mk (.t 18) (some (.t 17, false)) (.mv (.g 1)), .mk (.t 19) (some (.t 17, false)) (.mv (.g 5)), .mk (.t 20) (some (.t 17, false)) (.bin .gtr 24 (.t 18) (.t 19)), .mk (.t 21) (some (.t 14, true)) (.pick (.t 17) (.c (.bool true)) (.t 20)), .mk (.t 22) none (.pick (.t 14) (.t 21) (.c (.bool false)))] (.t 22) (.seq (.reg [.mk (.g 4) none (.mv (.c (.int .i64 2)))]) .ret) .skip) (.seq (.reg [.mk (.t 23) none (.mv (.g 6)), .mk (.g 4) none (.mv (.t 23))]) .ret))))
theorem co9 : cf9.comp (Try.f9.body.getD .skip) = some ac9 := by kernel_rfl
theorem pu9 {args : List D} {res : D} (hl : args.length ≤ 24) (h : A cf9 ac9 (Kont cf9 (RetQ [.t 4] res) []) (env0 [0, 1, 4, 5, 6] args) [] 0) : Pure Try.prog 9 args res :=
  Pure_of (C := cf9) (c := Try.f9.body.getD .skip) Try.func9 (by kernel_rfl) (by rfl) (by rfl) hl (by kernel_rfl) co9 h
theorem ct9 {args : List D} {mem : Mem} {nx : Nat} {K : KD} (hl : args.length ≤ 24) (h : (∀ i, nx ≤ i → look mem i = none) → A cf9 ac9 (Kont cf9 (RetC [.t 4] K) []) (env0 [0, 1, 4, 5, 6] args) mem nx) : CallT Try.prog 9 args mem nx K :=
  CallT_of (C := cf9) (c := Try.f9.body.getD .skip) Try.func9 (by kernel_rfl) (by rfl) (by rfl) hl (by kernel_rfl) co9 h
@[simp] theorem cfP9 : cf9.P = Try.prog := (rfl)

/-- points.Cons -/
noncomputable def cf11 : Cfg := ⟨Try.prog, 19, [0, 1, 4, 5], []⟩
noncomputable def ac11 : AC :=
  (.seq (.reg [.mk (.g 4) none (.mv (.c (.int .i64 0))), .mk (.g 5) none (.mv (.c (.int .i64 0)))]) (.seq (.ifr [.mk (.t 6) none (.mv (.g 0)), .mk (.t 7) none (.pc (.f 9) [.c (.int .i64 1), .t 6]), .mk (.t 8) none (.bin .neq 25 (.t 7) (.c (.int .i64 0))), .mk (.t 9) none (.mv (.t 8)), .mk (.t 10) (some (.t 9, false)) (.mv (.g 1)), .mk (.t 11) (some (.t 9, false)) (.pc (.f 9) [.c (.int .i64 3), .t 10]), .mk (.t 12) (some (.t 9, false)) (.bin .neq 25 (.t 11) (.c (.int .i64 0))), .mk (.t 13) none (.pick (.t 9) (.c (.bool true)) (.t 12))] (.t 13) (.seq (.reg [.mk (.g 4) none (.mv (.c (.int .i64 0))), .mk (.g 5) none (.mv (.c (.int .i64 2)))]) .ret) .skip) (.seq (.reg [.mk (.t 14) none (.mv (.g 1)), .mk (.t 15) none (.mv (.g 0)), .mk (.t 16) none (.bin .add 24 (.c (.int .i64 2)) (.t 15)), .mk (.t 17) none (.bi .min [.t 14, .t 16]), .mk (.t 18) none (.bi .max [.c (.int .i64 1), .t 17]), .mk (.g 4) none (.mv (.t 18)), .mk (.g 5) none (.mv (.c (.int .i64 0)))]) .ret)))
theorem co11 : cf11.comp (Try.f11.body.getD .skip) = some ac11 := by kernel_rfl
theorem pu11 {args : List D} {res : D} (hl : args.length ≤ 19) (h : A cf11 ac11 (Kont cf11 (RetQ [.t 4, .t 5] res) []) (env0 [0, 1, 4, 5] args) [] 0) : Pure Try.prog 11 args res :=
  Pure_of (C := cf11) (c := Try.f11.body.getD .skip) Try.func11 (by kernel_rfl) (by rfl) (by rfl) hl (by kernel_rfl) co11 h
theorem ct11 {args : List D} {mem : Mem} {nx : Nat} {K : KD} (hl : args.length ≤ 19) (h : (∀ i, nx ≤ i → look mem i = none) → A cf11 ac11 (Kont cf11 (RetC [.t 4, .t 5] K) []) (env0 [0, 1, 4, 5] args) mem nx) : CallT Try.prog 11 args mem nx K :=
  CallT_of (C := cf11) (c := Try.f11.body.getD .skip) Try.func11 (by kernel_rfl) (by rfl) (by rfl) hl (by kernel_rfl) co11 h
@[simp] theorem cfP11 : cf11.P = Try.prog := (rfl)

/-- points.Cases -/
noncomputable def cf14 : Cfg := ⟨Try.prog, 22, [0, 2, 3, 7], []⟩
noncomputable def ac14 : AC :=
  (.seq (.reg [.mk (.g 2) none (.mv (.c (.slice none 0 0))), .mk (.g 3) none (.mv (.c (.int .i64 0)))]) (.seq (.ifr [.mk (.t 4) none (.mv (.g 0)), .mk (.t 5) none (.pc (.f 9) [.c (.int .i64 3), .t 4]), .mk (.t 6) none (.bin .neq 25 (.t 5) (.c (.int .i64 0)))] (.t 6) (.seq (.reg [.mk (.g 2) none (.mv (.c (.slice none 0 0))), .mk (.g 3) none (.mv (.c (.int .i64 2)))]) .ret) .skip) (.seq (.seq (.reg [.mk (.g 7) none (.mv (.g 0))]) (.block 0 (.ifr [.mk (.t 9) none (.bin .eql 24 (.g 7) (.c (.int .i64 0))), .mk (.t 8) none (.mv (.t 9))] (.t 8) (.seq (.reg [.mk (.g 2) none (.mv (.c (.slice none 0 0))), .mk (.g 3) none (.mv (.c (.int .i64 0)))]) .ret) (.ifr [.mk (.t 11) none (.bin .eql 24 (.g 7) (.c (.int .i64 2))), .mk (.t 10) none (.mv (.t 11))] (.t 10) (.seq (.reg [.mk (.t 12) none (.bld [.bool false, .int .i64 0, .int .i64 0] [(2, 1, .c (.int .i64 3))]), .mk (.t 13) none (.bld [.bool false, .int .i64 0, .int .i64 0] [(1, 1, .c (.int .i64 1)), (2, 1, .c (.int .i64 2))]), .mk (.t 14) none (.bsl 3 2 [.bool false, .int .i64 0, .int .i64 0] [(0, 3, .t 12), (3, 3, .t 13)]), .mk (.g 2) none (.mv (.t 14)), .mk (.g 3) none (.mv (.c (.int .i64 0)))]) .ret) (.ifr [.mk (.t 16) none (.bin .eql 24 (.g 7) (.c (.int .i64 3))), .mk (.t 15) none (.mv (.t 16))] (.t 15) (.seq (.reg [.mk (.t 17) none (.bld [.bool false, .int .i64 0, .int .i64 0] [(0, 1, .c (.bool true))]), .mk (.t 18) none (.bld [.bool false, .int .i64 0, .int .i64 0] [(1, 1, .c (.int .i64 1)), (2, 1, .c (.int .i64 3))]), .mk (.t 19) none (.bsl 3 2 [.bool false, .int .i64 0, .int .i64 0] [(0, 3, .t 17), (3, 3, .t 18)]), .mk (.g 2) none (.mv (.t 19)), .mk (.g 3) none (.mv (.c (.int .i64 0)))]) .ret) .skip))))) (.seq (.reg [.mk (.t 20) none (.bld [.bool false, .int .i64 0, .int .i64 0] [(1, 1, .c (.int .i64 1)), (2, 1, .c (.int .i64 1))]), .mk (.t 21) none (.bsl 3 1 [.bool false, .int .i64 0, .int .i64 0] [(0, 3, .t 20)]), .mk (.g 2) none (.mv (.t 21)), .mk (.g 3) none (.mv (.c (.int .i64 0)))]) .ret))))
theorem co14 : cf14.comp (Try.f14.body.getD .skip) = some ac14 := by kernel_rfl
theorem pu14 {args : List D} {res : D} (hl : args.length ≤ 22) (h : A cf14 ac14 (Kont cf14 (RetQ [.t 2, .t 3] res) []) (env0 [0, 2, 3, 7] args) [] 0) : Pure Try.prog 14 args res :=
  Pure_of (C := cf14) (c := Try.f14.body.getD .skip) Try.func14 (by kernel_rfl) (by rfl) (by rfl) hl (by kernel_rfl) co14 h
theorem ct14 {args : List D} {mem : Mem} {nx : Nat} {K : KD} (hl : args.length ≤ 22) (h : (∀ i, nx ≤ i → look mem i = none) → A cf14 ac14 (Kont cf14 (RetC [.t 2, .t 3] K) []) (env0 [0, 2, 3, 7] args) mem nx) : CallT Try.prog 14 args mem nx K :=
  CallT_of (C := cf14) (c := Try.f14.body.getD .skip) Try.func14 (by kernel_rfl) (by rfl) (by rfl) hl (by kernel_rfl) co14 h
@[simp] theorem cfP14 : cf14.P = Try.prog := (rfl)

/-- points.Word -/
noncomputable def cf16 : Cfg := ⟨Try.prog, 23, [0, 1, 4, 5, 6], []⟩
noncomputable def ac16 : AC :=
  (.seq (.reg [.mk (.g 4) none (.mv (.c (.string (ByteArray.mk (Array.mk []))))), .mk (.g 5) none (.mv (.c (.int .i64 0)))]) (.seq (.seq (.reg [.mk (.t 7) none (.mv (.g 0)), .mk (.t 8) none (.mv (.g 1)), .mk (.t 9) none (.pc (.f 9) [.t 7, .t 8]), .mk (.g 6) none (.mv (.t 9))]) (.ifr [.mk (.t 10) none (.mv (.g 6)), .mk (.t 11) none (.bin .neq 25 (.t 10) (.c (.int .i64 0)))] (.t 11) (.seq (.reg [.mk (.t 12) none (.mv (.g 6)), .mk (.g 4) none (.mv (.c (.string (ByteArray.mk (Array.mk []))))), .mk (.g 5) none (.mv (.t 12))]) .ret) .skip)) (.seq (.ifr [.mk (.t 13) none (.mv (.g 0)), .mk (.t 14) none (.bin .eql 23 (.t 13) (.c (.int .i64 3)))] (.t 14) (.seq (.reg [.mk (.t 15) none (.bsl 1 4 [.string (ByteArray.mk (Array.mk []))] [(0, 1, .c (.string (ByteArray.mk (Array.mk [110, 101, 118, 101, 114])))), (1, 1, .c (.string (ByteArray.mk (Array.mk [112, 97, 114, 116, 105, 97, 108])))), (2, 1, .c (.string (ByteArray.mk (Array.mk [104, 111, 108, 101, 100])))), (3, 1, .c (.string (ByteArray.mk (Array.mk [119, 104, 111, 108, 101]))))]), .mk (.t 16) none (.mv (.g 1)), .mk (.t 17) none (.ia 1 (.t 15) (.t 16)), .mk (.t 18) none (.ld false 1 (.t 17)), .mk (.g 4) none (.mv (.t 18)), .mk (.g 5) none (.mv (.c (.int .i64 0)))]) .ret) .skip) (.seq (.reg [.mk (.t 19) none (.bsl 1 2 [.string (ByteArray.mk (Array.mk []))] [(0, 1, .c (.string (ByteArray.mk (Array.mk [110, 101, 118, 101, 114])))), (1, 1, .c (.string (ByteArray.mk (Array.mk [118, 97, 108, 117, 101]))))]), .mk (.t 20) none (.mv (.g 1)), .mk (.t 21) none (.ia 1 (.t 19) (.t 20)), .mk (.t 22) none (.ld false 1 (.t 21)), .mk (.g 4) none (.mv (.t 22)), .mk (.g 5) none (.mv (.c (.int .i64 0)))]) .ret))))
theorem co16 : cf16.comp (Try.f16.body.getD .skip) = some ac16 := by kernel_rfl
theorem pu16 {args : List D} {res : D} (hl : args.length ≤ 23) (h : A cf16 ac16 (Kont cf16 (RetQ [.t 4, .t 5] res) []) (env0 [0, 1, 4, 5, 6] args) [] 0) : Pure Try.prog 16 args res :=
  Pure_of (C := cf16) (c := Try.f16.body.getD .skip) Try.func16 (by kernel_rfl) (by rfl) (by rfl) hl (by kernel_rfl) co16 h
theorem ct16 {args : List D} {mem : Mem} {nx : Nat} {K : KD} (hl : args.length ≤ 23) (h : (∀ i, nx ≤ i → look mem i = none) → A cf16 ac16 (Kont cf16 (RetC [.t 4, .t 5] K) []) (env0 [0, 1, 4, 5, 6] args) mem nx) : CallT Try.prog 16 args mem nx K :=
  CallT_of (C := cf16) (c := Try.f16.body.getD .skip) Try.func16 (by kernel_rfl) (by rfl) (by rfl) hl (by kernel_rfl) co16 h
@[simp] theorem cfP16 : cf16.P = Try.prog := (rfl)

/-- fathomref15.Top -/
noncomputable def cf8 : Cfg := ⟨Try.prog, 9, [0, 2, 3, 4], []⟩
noncomputable def ac8 : AC :=
  (.seq (.reg [.mk (.g 2) none (.mv (.c (.int .i64 0)))]) (.seq (.seq (.reg [.mk (.g 3) none (.mv (.g 0))]) (.block 0 (.seq (.ifr [.mk (.t 5) none (.bin .eql 23 (.g 3) (.c (.int .i64 1))), .mk (.g 4) none (.mv (.t 5))] (.g 4) .skip (.reg [.mk (.t 6) none (.bin .eql 23 (.g 3) (.c (.int .i64 2))), .mk (.g 4) none (.mv (.t 6))])) (.cond (.g 4) (.seq (.reg [.mk (.g 2) none (.mv (.c (.int .i64 1)))]) .ret) (.ifr [.mk (.t 8) none (.bin .eql 23 (.g 3) (.c (.int .i64 3))), .mk (.t 7) none (.mv (.t 8))] (.t 7) (.seq (.reg [.mk (.g 2) none (.mv (.c (.int .i64 3)))]) .ret) .skip))))) (.seq (.reg [.mk (.g 2) none (.mv (.c (.int .i64 (-1))))]) .ret)))
theorem co8 : cf8.comp (Try.f8.body.getD .skip) = some ac8 := by kernel_rfl
theorem pu8 {args : List D} {res : D} (hl : args.length ≤ 9) (h : A cf8 ac8 (Kont cf8 (RetQ [.t 2] res) []) (env0 [0, 2, 3, 4] args) [] 0) : Pure Try.prog 8 args res :=
  Pure_of (C := cf8) (c := Try.f8.body.getD .skip) Try.func8 (by kernel_rfl) (by rfl) (by rfl) hl (by kernel_rfl) co8 h
theorem ct8 {args : List D} {mem : Mem} {nx : Nat} {K : KD} (hl : args.length ≤ 9) (h : (∀ i, nx ≤ i → look mem i = none) → A cf8 ac8 (Kont cf8 (RetC [.t 2] K) []) (env0 [0, 2, 3, 4] args) mem nx) : CallT Try.prog 8 args mem nx K :=
  CallT_of (C := cf8) (c := Try.f8.body.getD .skip) Try.func8 (by kernel_rfl) (by rfl) (by rfl) hl (by kernel_rfl) co8 h
@[simp] theorem cfP8 : cf8.P = Try.prog := (rfl)

/-- fathomref15.Check -/
noncomputable def cf10 : Cfg := ⟨Try.prog, 12, [0, 1, 4], []⟩
noncomputable def ac10 : AC :=
  (.seq (.reg [.mk (.g 4) none (.mv (.c (.int .i64 0)))]) (.seq (.ifr [.mk (.t 5) none (.mv (.g 0)), .mk (.t 6) none (.pc (.f 8) [.t 5]), .mk (.t 7) none (.bin .lss 3 (.t 6) (.c (.int .i64 0)))] (.t 7) (.seq (.reg [.mk (.g 4) none (.mv (.c (.int .i64 3)))]) .ret) .skip) (.seq (.ifr [.mk (.t 8) none (.mv (.g 0)), .mk (.t 9) none (.mv (.g 1)), .mk (.t 10) none (.pc (.f 12) [.t 8, .t 9]), .mk (.t 11) none (.un .not (.t 10))] (.t 11) (.seq (.reg [.mk (.g 4) none (.mv (.c (.int .i64 2)))]) .ret) .skip) (.seq (.reg [.mk (.g 4) none (.mv (.c (.int .i64 0)))]) .ret))))
theorem co10 : cf10.comp (Try.f10.body.getD .skip) = some ac10 := by kernel_rfl
theorem pu10 {args : List D} {res : D} (hl : args.length ≤ 12) (h : A cf10 ac10 (Kont cf10 (RetQ [.t 4] res) []) (env0 [0, 1, 4] args) [] 0) : Pure Try.prog 10 args res :=
  Pure_of (C := cf10) (c := Try.f10.body.getD .skip) Try.func10 (by kernel_rfl) (by rfl) (by rfl) hl (by kernel_rfl) co10 h
theorem ct10 {args : List D} {mem : Mem} {nx : Nat} {K : KD} (hl : args.length ≤ 12) (h : (∀ i, nx ≤ i → look mem i = none) → A cf10 ac10 (Kont cf10 (RetC [.t 4] K) []) (env0 [0, 1, 4] args) mem nx) : CallT Try.prog 10 args mem nx K :=
  CallT_of (C := cf10) (c := Try.f10.body.getD .skip) Try.func10 (by kernel_rfl) (by rfl) (by rfl) hl (by kernel_rfl) co10 h
@[simp] theorem cfP10 : cf10.P = Try.prog := (rfl)

/-- fathomref15.Is -/
noncomputable def cf12 : Cfg := ⟨Try.prog, 13, [0, 1, 4], []⟩
noncomputable def ac12 : AC :=
  (.seq (.reg [.mk (.g 4) none (.mv (.c (.bool false)))]) (.seq (.reg [.mk (.t 5) none (.mv (.g 1)), .mk (.t 6) none (.bin .geq 24 (.t 5) (.c (.int .i64 0))), .mk (.t 7) none (.mv (.t 6)), .mk (.t 8) (some (.t 7, true)) (.mv (.g 1)), .mk (.t 9) (some (.t 7, true)) (.mv (.g 0)), .mk (.t 10) (some (.t 7, true)) (.pc (.f 8) [.t 9]), .mk (.t 11) (some (.t 7, true)) (.bin .leq 3 (.t 8) (.t 10)), .mk (.t 12) none (.pick (.t 7) (.t 11) (.c (.bool false))), .mk (.g 4) none (.mv (.t 12))]) .ret))
theorem co12 : cf12.comp (Try.f12.body.getD .skip) = some ac12 := by kernel_rfl
theorem pu12 {args : List D} {res : D} (hl : args.length ≤ 13) (h : A cf12 ac12 (Kont cf12 (RetQ [.t 4] res) []) (env0 [0, 1, 4] args) [] 0) : Pure Try.prog 12 args res :=
  Pure_of (C := cf12) (c := Try.f12.body.getD .skip) Try.func12 (by kernel_rfl) (by rfl) (by rfl) hl (by kernel_rfl) co12 h
theorem ct12 {args : List D} {mem : Mem} {nx : Nat} {K : KD} (hl : args.length ≤ 13) (h : (∀ i, nx ≤ i → look mem i = none) → A cf12 ac12 (Kont cf12 (RetC [.t 4] K) []) (env0 [0, 1, 4] args) mem nx) : CallT Try.prog 12 args mem nx K :=
  CallT_of (C := cf12) (c := Try.f12.body.getD .skip) Try.func12 (by kernel_rfl) (by rfl) (by rfl) hl (by kernel_rfl) co12 h
@[simp] theorem cfP12 : cf12.P = Try.prog := (rfl)

/-- fathomref15.Cons -/
noncomputable def cf13 : Cfg := ⟨Try.prog, 14, [0, 1, 4], []⟩
noncomputable def ac13 : AC :=
  (.seq (.reg [.mk (.g 4) none (.mv (.c (.int .i64 0)))]) (.seq (.ifr [.mk (.t 5) none (.mv (.g 1)), .mk (.t 6) none (.bin .eql 24 (.t 5) (.c (.int .i64 0)))] (.t 6) (.seq (.reg [.mk (.g 4) none (.mv (.c (.int .i64 1)))]) .ret) .skip) (.seq (.ifr [.mk (.t 7) none (.mv (.g 1)), .mk (.t 8) none (.bin .eql 24 (.t 7) (.c (.int .i64 3))), .mk (.t 9) none (.mv (.t 8)), .mk (.t 10) (some (.t 9, true)) (.mv (.g 0)), .mk (.t 11) (some (.t 9, true)) (.bin .eql 24 (.t 10) (.c (.int .i64 0))), .mk (.t 12) none (.pick (.t 9) (.t 11) (.c (.bool false)))] (.t 12) (.seq (.reg [.mk (.g 4) none (.mv (.c (.int .i64 2)))]) .ret) .skip) (.seq (.reg [.mk (.t 13) none (.mv (.g 1)), .mk (.g 4) none (.mv (.t 13))]) .ret))))
theorem co13 : cf13.comp (Try.f13.body.getD .skip) = some ac13 := by kernel_rfl
theorem pu13 {args : List D} {res : D} (hl : args.length ≤ 14) (h : A cf13 ac13 (Kont cf13 (RetQ [.t 4] res) []) (env0 [0, 1, 4] args) [] 0) : Pure Try.prog 13 args res :=
  Pure_of (C := cf13) (c := Try.f13.body.getD .skip) Try.func13 (by kernel_rfl) (by rfl) (by rfl) hl (by kernel_rfl) co13 h
theorem ct13 {args : List D} {mem : Mem} {nx : Nat} {K : KD} (hl : args.length ≤ 14) (h : (∀ i, nx ≤ i → look mem i = none) → A cf13 ac13 (Kont cf13 (RetC [.t 4] K) []) (env0 [0, 1, 4] args) mem nx) : CallT Try.prog 13 args mem nx K :=
  CallT_of (C := cf13) (c := Try.f13.body.getD .skip) Try.func13 (by kernel_rfl) (by rfl) (by rfl) hl (by kernel_rfl) co13 h
@[simp] theorem cfP13 : cf13.P = Try.prog := (rfl)

/-- fathomref15.Cases -/
noncomputable def cf15 : Cfg := ⟨Try.prog, 18, [0, 2, 3], []⟩
noncomputable def ac15 : AC :=
  (.seq (.reg [.mk (.g 2) none (.mv (.c (.slice none 0 0)))]) (.seq (.seq (.reg [.mk (.g 3) none (.mv (.g 0))]) (.block 0 (.ifr [.mk (.t 5) none (.bin .eql 24 (.g 3) (.c (.int .i64 1))), .mk (.t 4) none (.mv (.t 5))] (.t 4) (.seq (.reg [.mk (.t 6) none (.bld [.bool false, .int .i64 0, .int .i64 0] [(1, 1, .c (.int .i64 1)), (2, 1, .c (.int .i64 1))]), .mk (.t 7) none (.bsl 3 1 [.bool false, .int .i64 0, .int .i64 0] [(0, 3, .t 6)]), .mk (.g 2) none (.mv (.t 7))]) .ret) (.ifr [.mk (.t 9) none (.bin .eql 24 (.g 3) (.c (.int .i64 2))), .mk (.t 8) none (.mv (.t 9))] (.t 8) (.seq (.reg [.mk (.t 10) none (.bld [.bool false, .int .i64 0, .int .i64 0] [(2, 1, .c (.int .i64 3))]), .mk (.t 11) none (.bld [.bool false, .int .i64 0, .int .i64 0] [(1, 1, .c (.int .i64 1)), (2, 1, .c (.int .i64 2))]), .mk (.t 12) none (.bsl 3 2 [.bool false, .int .i64 0, .int .i64 0] [(0, 3, .t 10), (3, 3, .t 11)]), .mk (.g 2) none (.mv (.t 12))]) .ret) (.ifr [.mk (.t 14) none (.bin .eql 24 (.g 3) (.c (.int .i64 3))), .mk (.t 13) none (.mv (.t 14))] (.t 13) (.seq (.reg [.mk (.t 15) none (.bld [.bool false, .int .i64 0, .int .i64 0] [(0, 1, .c (.bool true))]), .mk (.t 16) none (.bld [.bool false, .int .i64 0, .int .i64 0] [(1, 1, .c (.int .i64 1)), (2, 1, .c (.int .i64 3))]), .mk (.t 17) none (.bsl 3 2 [.bool false, .int .i64 0, .int .i64 0] [(0, 3, .t 15), (3, 3, .t 16)]), .mk (.g 2) none (.mv (.t 17))]) .ret) .skip))))) (.seq (.reg [.mk (.g 2) none (.mv (.c (.slice none 0 0)))]) .ret)))
theorem co15 : cf15.comp (Try.f15.body.getD .skip) = some ac15 := by kernel_rfl
theorem pu15 {args : List D} {res : D} (hl : args.length ≤ 18) (h : A cf15 ac15 (Kont cf15 (RetQ [.t 2] res) []) (env0 [0, 2, 3] args) [] 0) : Pure Try.prog 15 args res :=
  Pure_of (C := cf15) (c := Try.f15.body.getD .skip) Try.func15 (by kernel_rfl) (by rfl) (by rfl) hl (by kernel_rfl) co15 h
theorem ct15 {args : List D} {mem : Mem} {nx : Nat} {K : KD} (hl : args.length ≤ 18) (h : (∀ i, nx ≤ i → look mem i = none) → A cf15 ac15 (Kont cf15 (RetC [.t 2] K) []) (env0 [0, 2, 3] args) mem nx) : CallT Try.prog 15 args mem nx K :=
  CallT_of (C := cf15) (c := Try.f15.body.getD .skip) Try.func15 (by kernel_rfl) (by rfl) (by rfl) hl (by kernel_rfl) co15 h
@[simp] theorem cfP15 : cf15.P = Try.prog := (rfl)

/-- fathomref15.Word -/
noncomputable def cf17 : Cfg := ⟨Try.prog, 22, [0, 1, 4, 5, 6, 7], []⟩
noncomputable def ac17 : AC :=
  (.seq (.reg [.mk (.g 4) none (.mv (.c (.string (ByteArray.mk (Array.mk []))))), .mk (.g 5) none (.mv (.c (.int .i64 0)))]) (.seq (.reg [.mk (.t 8) none (.mv (.g 0)), .mk (.t 9) none (.mv (.g 1)), .mk (.t 10) none (.pc (.f 10) [.t 8, .t 9]), .mk (.g 6) none (.mv (.t 10))]) (.seq (.ifr [.mk (.t 11) none (.mv (.g 6)), .mk (.t 12) none (.bin .neq 3 (.t 11) (.c (.int .i64 0)))] (.t 12) (.seq (.reg [.mk (.t 13) none (.mv (.g 6)), .mk (.g 4) none (.mv (.c (.string (ByteArray.mk (Array.mk []))))), .mk (.g 5) none (.mv (.t 13))]) .ret) .skip) (.seq (.reg [.mk (.t 14) none (.bsl 1 2 [.string (ByteArray.mk (Array.mk []))] [(0, 1, .c (.string (ByteArray.mk (Array.mk [110, 101, 118, 101, 114])))), (1, 1, .c (.string (ByteArray.mk (Array.mk [118, 97, 108, 117, 101]))))]), .mk (.g 7) none (.mv (.t 14))]) (.seq (.ifr [.mk (.t 15) none (.mv (.g 0)), .mk (.t 16) none (.bin .eql 23 (.t 15) (.c (.int .i64 3)))] (.t 16) (.reg [.mk (.t 17) none (.bsl 1 4 [.string (ByteArray.mk (Array.mk []))] [(0, 1, .c (.string (ByteArray.mk (Array.mk [110, 101, 118, 101, 114])))), (1, 1, .c (.string (ByteArray.mk (Array.mk [112, 97, 114, 116, 105, 97, 108])))), (2, 1, .c (.string (ByteArray.mk (Array.mk [104, 111, 108, 101, 100])))), (3, 1, .c (.string (ByteArray.mk (Array.mk [119, 104, 111, 108, 101]))))]), .mk (.g 7) none (.mv (.t 17))]) .skip) (.seq (.reg [.mk (.t 18) none (.mv (.g 7)), .mk (.t 19) none (.mv (.g 1)), .mk (.t 20) none (.ia 1 (.t 18) (.t 19)), .mk (.t 21) none (.ld false 1 (.t 20)), .mk (.g 4) none (.mv (.t 21)), .mk (.g 5) none (.mv (.c (.int .i64 0)))]) .ret))))))
theorem co17 : cf17.comp (Try.f17.body.getD .skip) = some ac17 := by kernel_rfl
theorem pu17 {args : List D} {res : D} (hl : args.length ≤ 22) (h : A cf17 ac17 (Kont cf17 (RetQ [.t 4, .t 5] res) []) (env0 [0, 1, 4, 5, 6, 7] args) [] 0) : Pure Try.prog 17 args res :=
  Pure_of (C := cf17) (c := Try.f17.body.getD .skip) Try.func17 (by kernel_rfl) (by rfl) (by rfl) hl (by kernel_rfl) co17 h
theorem ct17 {args : List D} {mem : Mem} {nx : Nat} {K : KD} (hl : args.length ≤ 22) (h : (∀ i, nx ≤ i → look mem i = none) → A cf17 ac17 (Kont cf17 (RetC [.t 4, .t 5] K) []) (env0 [0, 1, 4, 5, 6, 7] args) mem nx) : CallT Try.prog 17 args mem nx K :=
  CallT_of (C := cf17) (c := Try.f17.body.getD .skip) Try.func17 (by kernel_rfl) (by rfl) (by rfl) hl (by kernel_rfl) co17 h
@[simp] theorem cfP17 : cf17.P = Try.prog := (rfl)
end Go.Fx.Ytalinonmjhdmaaa

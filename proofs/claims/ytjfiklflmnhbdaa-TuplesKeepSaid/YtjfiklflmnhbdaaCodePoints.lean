import Derived.Test.YtjfiklflmnhbdaaXD
import Derived.Test.YtjfiklflmnhbdaaProg
import Derived.KernelRfl
set_option linter.all false
set_option maxRecDepth 1000000
set_option maxHeartbeats 0
namespace Go.Fx.Ytjfiklflmnhbdaa
open Go Go.Fx Go.Proofs

/-- points.Top -/
noncomputable def cf54 : Cfg := ⟨Try.prog, 10, [0, 2, 3, 4, 5], []⟩
noncomputable def ac54 : AC :=
  (.seq (.reg [.mk (.g 2) none (.mv (.c (.int .i64 0))), .mk (.g 3) none (.mv (.c (.int .i64 0)))]) (.seq (.seq (.reg [.mk (.g 4) none (.mv (.g 0))]) (.block 0 (.seq (.ifr [.mk (.t 6) none (.bin .eql 38 (.g 4) (.c (.int .i64 1))), .mk (.g 5) none (.mv (.t 6))] (.g 5) .skip (.reg [.mk (.t 7) none (.bin .eql 38 (.g 4) (.c (.int .i64 2))), .mk (.g 5) none (.mv (.t 7))])) (.cond (.g 5) (.seq (.reg [.mk (.g 2) none (.mv (.c (.int .i64 1))), .mk (.g 3) none (.mv (.c (.int .i64 0)))]) .ret) (.ifr [.mk (.t 9) none (.bin .eql 38 (.g 4) (.c (.int .i64 3))), .mk (.t 8) none (.mv (.t 9))] (.t 8) (.seq (.reg [.mk (.g 2) none (.mv (.c (.int .i64 3))), .mk (.g 3) none (.mv (.c (.int .i64 0)))]) .ret) .skip))))) (.seq (.reg [.mk (.g 2) none (.mv (.c (.int .i64 0))), .mk (.g 3) none (.mv (.c (.int .i64 3)))]) .ret)))
theorem co54 : cf54.comp (Try.f54.body.getD .skip) = some ac54 := by kernel_rfl
theorem pu54 {args : List D} {res : D} (hl : args.length ≤ 10) (h : A cf54 ac54 (Kont cf54 (RetQ [.t 2, .t 3] res) []) (env0 [0, 2, 3, 4, 5] args) [] 0) : Pure Try.prog 54 args res :=
  Pure_of (C := cf54) (c := Try.f54.body.getD .skip) Try.func54 (by kernel_rfl) (by rfl) (by rfl) hl (by kernel_rfl) co54 h
theorem ct54 {args : List D} {mem : Mem} {nx : Nat} {K : KD} (hl : args.length ≤ 10) (h : (∀ i, nx ≤ i → look mem i = none) → A cf54 ac54 (Kont cf54 (RetC [.t 2, .t 3] K) []) (env0 [0, 2, 3, 4, 5] args) mem nx) : CallT Try.prog 54 args mem nx K :=
  CallT_of (C := cf54) (c := Try.f54.body.getD .skip) Try.func54 (by kernel_rfl) (by rfl) (by rfl) hl (by kernel_rfl) co54 h
@[simp] theorem cfP54 : cf54.P = Try.prog := (rfl)

/-- points.Check -/
noncomputable def cf34 : Cfg := ⟨Try.prog, 24, [0, 1, 4, 5, 6], []⟩
noncomputable def ac34 : AC :=
  (.seq (.reg [.mk (.g 4) none (.mv (.c (.int .i64 0)))]) (.seq (.reg [.mk (.t 8) none (.mv (.g 0)), .mk (.t 9) none (.pc (.f 54) [.t 8]), .mk (.t 7) none (.mv (.t 9)), .mk (.t 10) none (.ext 0 (.t 7)), .mk (.t 11) none (.ext 1 (.t 7)), .mk (.g 5) none (.mv (.t 10)), .mk (.g 6) none (.mv (.t 11))]) (.seq (.ifr [.mk (.t 12) none (.mv (.g 6)), .mk (.t 13) none (.bin .eql 25 (.t 12) (.c (.int .i64 0))), .mk (.t 14) none (.mv (.t 13)), .mk (.t 15) (some (.t 14, true)) (.mv (.g 1)), .mk (.t 16) (some (.t 14, true)) (.bin .lss 54 (.t 15) (.c (.int .i64 0))), .mk (.t 17) (some (.t 14, true)) (.mv (.t 16)), .mk (.t 18) (some (.t 17, false)) (.mv (.g 1)), .mk (.t 19) (some (.t 17, false)) (.mv (.g 5)), .mk (.t 20) (some (.t 17, false)) (.bin .gtr 54 (.t 18) (.t 19)), .mk (.t 21) (some (.t 14, true)) (.pick (.t 17) (.c (.bool true)) (.t 20)), .mk (.t 22) none (.pick (.t 14) (.t 21) (.c (.bool false)))] (.t 22) (.seq (.reg [.mk (.g 4) none (.mv (.c (.int .i64 2)))]) .ret) .skip) (.seq (.reg [.mk (.t 23) none (.mv (.g 6)), .mk (.g 4) none (.mv (.t 23))]) .ret))))
theorem co34 : cf34.comp (Try.f34.body.getD .skip) = some ac34 := by kernel_rfl
theorem pu34 {args : List D} {res : D} (hl : args.length ≤ 24) (h : A cf34 ac34 (Kont cf34 (RetQ [.t 4] res) []) (env0 [0, 1, 4, 5, 6] args) [] 0) : Pure Try.prog 34 args res :=
  Pure_of (C := cf34) (c := Try.f34.body.getD .skip) Try.func34 (by kernel_rfl) (by rfl) (by rfl) hl (by kernel_rfl) co34 h
theorem ct34 {args : List D} {mem : Mem} {nx : Nat} {K : KD} (hl : args.length ≤ 24) (h : (∀ i, nx ≤ i → look mem i = none) → A cf34 ac34 (Kont cf34 (RetC [.t 4] K) []) (env0 [0, 1, 4, 5, 6] args) mem nx) : CallT Try.prog 34 args mem nx K :=
  CallT_of (C := cf34) (c := Try.f34.body.getD .skip) Try.func34 (by kernel_rfl) (by rfl) (by rfl) hl (by kernel_rfl) co34 h
@[simp] theorem cfP34 : cf34.P = Try.prog := (rfl)

/-- fathomref15.Top -/
noncomputable def cf33 : Cfg := ⟨Try.prog, 9, [0, 2, 3, 4], []⟩
noncomputable def ac33 : AC :=
  (.seq (.reg [.mk (.g 2) none (.mv (.c (.int .i64 0)))]) (.seq (.seq (.reg [.mk (.g 3) none (.mv (.g 0))]) (.block 0 (.seq (.ifr [.mk (.t 5) none (.bin .eql 38 (.g 3) (.c (.int .i64 1))), .mk (.g 4) none (.mv (.t 5))] (.g 4) .skip (.reg [.mk (.t 6) none (.bin .eql 38 (.g 3) (.c (.int .i64 2))), .mk (.g 4) none (.mv (.t 6))])) (.cond (.g 4) (.seq (.reg [.mk (.g 2) none (.mv (.c (.int .i64 1)))]) .ret) (.ifr [.mk (.t 8) none (.bin .eql 38 (.g 3) (.c (.int .i64 3))), .mk (.t 7) none (.mv (.t 8))] (.t 7) (.seq (.reg [.mk (.g 2) none (.mv (.c (.int .i64 3)))]) .ret) .skip))))) (.seq (.reg [.mk (.g 2) none (.mv (.c (.int .i64 (-1))))]) .ret)))
theorem co33 : cf33.comp (Try.f33.body.getD .skip) = some ac33 := by kernel_rfl
theorem pu33 {args : List D} {res : D} (hl : args.length ≤ 9) (h : A cf33 ac33 (Kont cf33 (RetQ [.t 2] res) []) (env0 [0, 2, 3, 4] args) [] 0) : Pure Try.prog 33 args res :=
  Pure_of (C := cf33) (c := Try.f33.body.getD .skip) Try.func33 (by kernel_rfl) (by rfl) (by rfl) hl (by kernel_rfl) co33 h
theorem ct33 {args : List D} {mem : Mem} {nx : Nat} {K : KD} (hl : args.length ≤ 9) (h : (∀ i, nx ≤ i → look mem i = none) → A cf33 ac33 (Kont cf33 (RetC [.t 2] K) []) (env0 [0, 2, 3, 4] args) mem nx) : CallT Try.prog 33 args mem nx K :=
  CallT_of (C := cf33) (c := Try.f33.body.getD .skip) Try.func33 (by kernel_rfl) (by rfl) (by rfl) hl (by kernel_rfl) co33 h
@[simp] theorem cfP33 : cf33.P = Try.prog := (rfl)

/-- fathomref15.Is -/
noncomputable def cf35 : Cfg := ⟨Try.prog, 13, [0, 1, 4], []⟩
noncomputable def ac35 : AC :=
  (.seq (.reg [.mk (.g 4) none (.mv (.c (.bool false)))]) (.seq (.reg [.mk (.t 5) none (.mv (.g 1)), .mk (.t 6) none (.bin .geq 54 (.t 5) (.c (.int .i64 0))), .mk (.t 7) none (.mv (.t 6)), .mk (.t 8) (some (.t 7, true)) (.mv (.g 1)), .mk (.t 9) (some (.t 7, true)) (.mv (.g 0)), .mk (.t 10) (some (.t 7, true)) (.pc (.f 33) [.t 9]), .mk (.t 11) (some (.t 7, true)) (.bin .leq 3 (.t 8) (.t 10)), .mk (.t 12) none (.pick (.t 7) (.t 11) (.c (.bool false))), .mk (.g 4) none (.mv (.t 12))]) .ret))
theorem co35 : cf35.comp (Try.f35.body.getD .skip) = some ac35 := by kernel_rfl
theorem pu35 {args : List D} {res : D} (hl : args.length ≤ 13) (h : A cf35 ac35 (Kont cf35 (RetQ [.t 4] res) []) (env0 [0, 1, 4] args) [] 0) : Pure Try.prog 35 args res :=
  Pure_of (C := cf35) (c := Try.f35.body.getD .skip) Try.func35 (by kernel_rfl) (by rfl) (by rfl) hl (by kernel_rfl) co35 h
theorem ct35 {args : List D} {mem : Mem} {nx : Nat} {K : KD} (hl : args.length ≤ 13) (h : (∀ i, nx ≤ i → look mem i = none) → A cf35 ac35 (Kont cf35 (RetC [.t 4] K) []) (env0 [0, 1, 4] args) mem nx) : CallT Try.prog 35 args mem nx K :=
  CallT_of (C := cf35) (c := Try.f35.body.getD .skip) Try.func35 (by kernel_rfl) (by rfl) (by rfl) hl (by kernel_rfl) co35 h
@[simp] theorem cfP35 : cf35.P = Try.prog := (rfl)
end Go.Fx.Ytjfiklflmnhbdaa

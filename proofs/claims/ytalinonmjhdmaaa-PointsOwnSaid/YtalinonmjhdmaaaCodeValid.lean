import Derived.Test.YtalinonmjhdmaaaXD
import Derived.Test.YtalinonmjhdmaaaProg
import Derived.KernelRfl
set_option linter.all false
set_option maxRecDepth 1000000
set_option maxHeartbeats 0
namespace Go.Fx.Ytalinonmjhdmaaa
open Go Go.Fx Go.Proofs

/-- gauss.plain -/
noncomputable def cf30 : Cfg := ⟨Try.prog, 24, [0, 2], []⟩
noncomputable def ac30 : AC :=
  (.seq (.reg [.mk (.g 2) none (.mv (.c (.bool false)))]) (.seq (.reg [.mk (.t 3) none (.mv (.g 0)), .mk (.t 4) none (.bin .geq 71 (.t 3) (.c (.float .f64 13938640846711685120))), .mk (.t 5) none (.mv (.t 4)), .mk (.t 6) (some (.t 5, true)) (.mv (.g 0)), .mk (.t 7) (some (.t 5, true)) (.bin .leq 71 (.t 6) (.c (.float .f64 4715268809856909312))), .mk (.t 8) none (.pick (.t 5) (.t 7) (.c (.bool false))), .mk (.t 9) none (.mv (.t 8)), .mk (.t 10) (some (.t 9, true)) (.mv (.g 0)), .mk (.t 11) (some (.t 9, true)) (.mv (.g 0)), .mk (.t 12) (some (.t 9, true)) (.pc (.f 33) [.t 11]), .mk (.t 13) (some (.t 9, true)) (.bin .eql 71 (.t 10) (.t 12)), .mk (.t 14) none (.pick (.t 9) (.t 13) (.c (.bool false))), .mk (.t 15) none (.mv (.t 14)), .mk (.t 16) (some (.t 15, true)) (.mv (.g 0)), .mk (.t 17) (some (.t 15, true)) (.bin .neq 71 (.t 16) (.c (.float .f64 0))), .mk (.t 18) (some (.t 15, true)) (.mv (.t 17)), .mk (.t 19) (some (.t 18, false)) (.mv (.g 0)), .mk (.t 20) (some (.t 18, false)) (.pc (.f 34) [.t 19]), .mk (.t 21) (some (.t 18, false)) (.un .not (.t 20)), .mk (.t 22) (some (.t 15, true)) (.pick (.t 18) (.c (.bool true)) (.t 21)), .mk (.t 23) none (.pick (.t 15) (.t 22) (.c (.bool false))), .mk (.g 2) none (.mv (.t 23))]) .ret))
theorem co30 : cf30.comp (Try.f30.body.getD .skip) = some ac30 := by kernel_rfl
theorem pu30 {args : List D} {res : D} (hl : args.length ≤ 24) (h : A cf30 ac30 (Kont cf30 (RetQ [.t 2] res) []) (env0 [0, 2] args) [] 0) : Pure Try.prog 30 args res :=
  Pure_of (C := cf30) (c := Try.f30.body.getD .skip) Try.func30 (by kernel_rfl) (by rfl) (by rfl) hl (by kernel_rfl) co30 h
theorem ct30 {args : List D} {mem : Mem} {nx : Nat} {K : KD} (hl : args.length ≤ 24) (h : (∀ i, nx ≤ i → look mem i = none) → A cf30 ac30 (Kont cf30 (RetC [.t 2] K) []) (env0 [0, 2] args) mem nx) : CallT Try.prog 30 args mem nx K :=
  CallT_of (C := cf30) (c := Try.f30.body.getD .skip) Try.func30 (by kernel_rfl) (by rfl) (by rfl) hl (by kernel_rfl) co30 h
@[simp] theorem cfP30 : cf30.P = Try.prog := (rfl)

/-- gauss.Valid -/
noncomputable def cf27 : Cfg := ⟨Try.prog, 11, [0, 2], []⟩
noncomputable def ac27 : AC :=
  (.seq (.reg [.mk (.g 2) none (.mv (.c (.bool false)))]) (.seq (.reg [.mk (.t 3) none (.mv (.g 0)), .mk (.t 4) none (.bi .real [.t 3]), .mk (.t 5) none (.pc (.f 30) [.t 4]), .mk (.t 6) none (.mv (.t 5)), .mk (.t 7) (some (.t 6, true)) (.mv (.g 0)), .mk (.t 8) (some (.t 6, true)) (.bi .imag [.t 7]), .mk (.t 9) (some (.t 6, true)) (.pc (.f 30) [.t 8]), .mk (.t 10) none (.pick (.t 6) (.t 9) (.c (.bool false))), .mk (.g 2) none (.mv (.t 10))]) .ret))
theorem co27 : cf27.comp (Try.f27.body.getD .skip) = some ac27 := by kernel_rfl
theorem pu27 {args : List D} {res : D} (hl : args.length ≤ 11) (h : A cf27 ac27 (Kont cf27 (RetQ [.t 2] res) []) (env0 [0, 2] args) [] 0) : Pure Try.prog 27 args res :=
  Pure_of (C := cf27) (c := Try.f27.body.getD .skip) Try.func27 (by kernel_rfl) (by rfl) (by rfl) hl (by kernel_rfl) co27 h
theorem ct27 {args : List D} {mem : Mem} {nx : Nat} {K : KD} (hl : args.length ≤ 11) (h : (∀ i, nx ≤ i → look mem i = none) → A cf27 ac27 (Kont cf27 (RetC [.t 2] K) []) (env0 [0, 2] args) mem nx) : CallT Try.prog 27 args mem nx K :=
  CallT_of (C := cf27) (c := Try.f27.body.getD .skip) Try.func27 (by kernel_rfl) (by rfl) (by rfl) hl (by kernel_rfl) co27 h
@[simp] theorem cfP27 : cf27.P = Try.prog := (rfl)

/-- math.Trunc -/
noncomputable def cf33 : Cfg := ⟨Try.prog, 7, [0, 2], []⟩
noncomputable def ac33 : AC :=
  (.seq (.ifr [.mk (.g 2) none (.mv (.c (.float .f64 0)))] (.c (.bool true)) (.seq (.reg [.mk (.t 3) none (.mv (.g 0)), .mk (.t 4) none (.pc (.f 36) [.t 3]), .mk (.g 2) none (.mv (.t 4))]) .ret) .skip) (.seq (.reg [.mk (.t 5) none (.mv (.g 0)), .mk (.t 6) none (.pc (.f 37) [.t 5]), .mk (.g 2) none (.mv (.t 6))]) .ret))
theorem co33 : cf33.comp (Try.f33.body.getD .skip) = some ac33 := by kernel_rfl
theorem pu33 {args : List D} {res : D} (hl : args.length ≤ 7) (h : A cf33 ac33 (Kont cf33 (RetQ [.t 2] res) []) (env0 [0, 2] args) [] 0) : Pure Try.prog 33 args res :=
  Pure_of (C := cf33) (c := Try.f33.body.getD .skip) Try.func33 (by kernel_rfl) (by rfl) (by rfl) hl (by kernel_rfl) co33 h
theorem ct33 {args : List D} {mem : Mem} {nx : Nat} {K : KD} (hl : args.length ≤ 7) (h : (∀ i, nx ≤ i → look mem i = none) → A cf33 ac33 (Kont cf33 (RetC [.t 2] K) []) (env0 [0, 2] args) mem nx) : CallT Try.prog 33 args mem nx K :=
  CallT_of (C := cf33) (c := Try.f33.body.getD .skip) Try.func33 (by kernel_rfl) (by rfl) (by rfl) hl (by kernel_rfl) co33 h
@[simp] theorem cfP33 : cf33.P = Try.prog := (rfl)

/-- math.Signbit -/
noncomputable def cf34 : Cfg := ⟨Try.prog, 7, [0, 2], []⟩
noncomputable def ac34 : AC :=
  (.seq (.reg [.mk (.g 2) none (.mv (.c (.bool false)))]) (.seq (.reg [.mk (.t 3) none (.mv (.g 0)), .mk (.t 4) none (.pc (.f 38) [.t 3]), .mk (.t 5) none (.cv 73 2 (.t 4)), .mk (.t 6) none (.bin .lss 2 (.t 5) (.c (.int .i64 0))), .mk (.g 2) none (.mv (.t 6))]) .ret))
theorem co34 : cf34.comp (Try.f34.body.getD .skip) = some ac34 := by kernel_rfl
theorem pu34 {args : List D} {res : D} (hl : args.length ≤ 7) (h : A cf34 ac34 (Kont cf34 (RetQ [.t 2] res) []) (env0 [0, 2] args) [] 0) : Pure Try.prog 34 args res :=
  Pure_of (C := cf34) (c := Try.f34.body.getD .skip) Try.func34 (by kernel_rfl) (by rfl) (by rfl) hl (by kernel_rfl) co34 h
theorem ct34 {args : List D} {mem : Mem} {nx : Nat} {K : KD} (hl : args.length ≤ 7) (h : (∀ i, nx ≤ i → look mem i = none) → A cf34 ac34 (Kont cf34 (RetC [.t 2] K) []) (env0 [0, 2] args) mem nx) : CallT Try.prog 34 args mem nx K :=
  CallT_of (C := cf34) (c := Try.f34.body.getD .skip) Try.func34 (by kernel_rfl) (by rfl) (by rfl) hl (by kernel_rfl) co34 h
@[simp] theorem cfP34 : cf34.P = Try.prog := (rfl)

/-- fathomref01.part -/
noncomputable def cf35 : Cfg := ⟨Try.prog, 28, [0, 2, 3, 4], []⟩
noncomputable def ac35 : AC :=
  (.seq (.reg [.mk (.g 2) none (.mv (.c (.int .i64 0))), .mk (.g 3) none (.mv (.c (.bool false)))]) (.seq (.ifr [.mk (.t 5) none (.mv (.g 0)), .mk (.t 6) none (.bin .geq 71 (.t 5) (.c (.float .f64 13938640846711685120))), .mk (.t 7) none (.mv (.t 6)), .mk (.t 8) (some (.t 7, true)) (.mv (.g 0)), .mk (.t 9) (some (.t 7, true)) (.bin .leq 71 (.t 8) (.c (.float .f64 4715268809856909312))), .mk (.t 10) none (.pick (.t 7) (.t 9) (.c (.bool false))), .mk (.t 11) none (.un .not (.t 10)), .mk (.t 12) none (.mv (.t 11)), .mk (.t 13) (some (.t 12, false)) (.mv (.g 0)), .mk (.t 14) (some (.t 12, false)) (.bin .eql 71 (.t 13) (.c (.float .f64 0))), .mk (.t 15) (some (.t 12, false)) (.mv (.t 14)), .mk (.t 16) (some (.t 15, true)) (.mv (.g 0)), .mk (.t 17) (some (.t 15, true)) (.pc (.f 38) [.t 16]), .mk (.t 18) (some (.t 15, true)) (.bin .neq 73 (.t 17) (.c (.int .u64 0))), .mk (.t 19) (some (.t 12, false)) (.pick (.t 15) (.t 18) (.c (.bool false))), .mk (.t 20) none (.pick (.t 12) (.c (.bool true)) (.t 19))] (.t 20) (.seq (.reg [.mk (.g 2) none (.mv (.c (.int .i64 0))), .mk (.g 3) none (.mv (.c (.bool false)))]) .ret) .skip) (.seq (.reg [.mk (.t 21) none (.mv (.g 0)), .mk (.t 22) none (.cv 71 3 (.t 21)), .mk (.g 4) none (.mv (.t 22))]) (.seq (.reg [.mk (.t 23) none (.mv (.g 4)), .mk (.t 24) none (.mv (.g 4)), .mk (.t 25) none (.cv 3 71 (.t 24)), .mk (.t 26) none (.mv (.g 0)), .mk (.t 27) none (.bin .eql 71 (.t 25) (.t 26)), .mk (.g 2) none (.mv (.t 23)), .mk (.g 3) none (.mv (.t 27))]) .ret))))
theorem co35 : cf35.comp (Try.f35.body.getD .skip) = some ac35 := by kernel_rfl
theorem pu35 {args : List D} {res : D} (hl : args.length ≤ 28) (h : A cf35 ac35 (Kont cf35 (RetQ [.t 2, .t 3] res) []) (env0 [0, 2, 3, 4] args) [] 0) : Pure Try.prog 35 args res :=
  Pure_of (C := cf35) (c := Try.f35.body.getD .skip) Try.func35 (by kernel_rfl) (by rfl) (by rfl) hl (by kernel_rfl) co35 h
theorem ct35 {args : List D} {mem : Mem} {nx : Nat} {K : KD} (hl : args.length ≤ 28) (h : (∀ i, nx ≤ i → look mem i = none) → A cf35 ac35 (Kont cf35 (RetC [.t 2, .t 3] K) []) (env0 [0, 2, 3, 4] args) mem nx) : CallT Try.prog 35 args mem nx K :=
  CallT_of (C := cf35) (c := Try.f35.body.getD .skip) Try.func35 (by kernel_rfl) (by rfl) (by rfl) hl (by kernel_rfl) co35 h
@[simp] theorem cfP35 : cf35.P = Try.prog := (rfl)

/-- fathomref01.Of -/
noncomputable def cf31 : Cfg := ⟨Try.prog, 30, [0, 2, 3, 4, 5, 6, 7], []⟩
noncomputable def ac31 : AC :=
  (.seq (.reg [.mk (.g 2) none (.al [.int .i64 0, .int .i64 0]), .mk (.g 3) none (.mv (.c (.bool false)))]) (.seq (.reg [.mk (.t 9) none (.mv (.g 0)), .mk (.t 10) none (.bi .real [.t 9]), .mk (.t 11) none (.pc (.f 35) [.t 10]), .mk (.t 8) none (.mv (.t 11)), .mk (.t 12) none (.ext 0 (.t 8)), .mk (.t 13) none (.ext 1 (.t 8)), .mk (.g 4) none (.mv (.t 12)), .mk (.g 5) none (.mv (.t 13))]) (.seq (.reg [.mk (.t 15) none (.mv (.g 0)), .mk (.t 16) none (.bi .imag [.t 15]), .mk (.t 17) none (.pc (.f 35) [.t 16]), .mk (.t 14) none (.mv (.t 17)), .mk (.t 18) none (.ext 0 (.t 14)), .mk (.t 19) none (.ext 1 (.t 14)), .mk (.g 6) none (.mv (.t 18)), .mk (.g 7) none (.mv (.t 19))]) (.seq (.ifr [.mk (.t 20) none (.mv (.g 5)), .mk (.t 21) none (.un .not (.t 20)), .mk (.t 22) none (.mv (.t 21)), .mk (.t 23) (some (.t 22, false)) (.mv (.g 7)), .mk (.t 24) (some (.t 22, false)) (.un .not (.t 23)), .mk (.t 25) none (.pick (.t 22) (.c (.bool true)) (.t 24))] (.t 25) (.seq (.reg [.mk (.t 26) none (.bld [.int .i64 0, .int .i64 0] []), .mk .no none (.st 2 (.g 2) (.t 26)), .mk (.g 3) none (.mv (.c (.bool false)))]) .ret) .skip) (.seq (.reg [.mk (.t 27) none (.mv (.g 4)), .mk (.t 28) none (.mv (.g 6)), .mk (.t 29) none (.bld [.int .i64 0, .int .i64 0] [(0, 1, .t 27), (1, 1, .t 28)]), .mk .no none (.st 2 (.g 2) (.t 29)), .mk (.g 3) none (.mv (.c (.bool true)))]) .ret)))))
theorem co31 : cf31.comp (Try.f31.body.getD .skip) = some ac31 := by kernel_rfl
theorem pu31 {args : List D} {res : D} (hl : args.length ≤ 30) (h : A cf31 ac31 (Kont cf31 (RetQ [.c 2 true 2, .t 3] res) []) (env0 [0, 2, 3, 4, 5, 6, 7] args) [] 0) : Pure Try.prog 31 args res :=
  Pure_of (C := cf31) (c := Try.f31.body.getD .skip) Try.func31 (by kernel_rfl) (by rfl) (by rfl) hl (by kernel_rfl) co31 h
theorem ct31 {args : List D} {mem : Mem} {nx : Nat} {K : KD} (hl : args.length ≤ 30) (h : (∀ i, nx ≤ i → look mem i = none) → A cf31 ac31 (Kont cf31 (RetC [.c 2 true 2, .t 3] K) []) (env0 [0, 2, 3, 4, 5, 6, 7] args) mem nx) : CallT Try.prog 31 args mem nx K :=
  CallT_of (C := cf31) (c := Try.f31.body.getD .skip) Try.func31 (by kernel_rfl) (by rfl) (by rfl) hl (by kernel_rfl) co31 h
@[simp] theorem cfP31 : cf31.P = Try.prog := (rfl)

/-- (fathomlaw01.Num).Z -/
noncomputable def cf23 : Cfg := ⟨Try.prog, 21, [0, 1, 2], []⟩
noncomputable def ac23 : AC :=
  (.seq (.reg [.mk (.g 1) none (.bxi (.g 0)), .mk (.g 2) none (.mv (.c (.complex .f64 0 0)))]) (.seq (.ifr [.mk (.t 3) none (.fa 2 (.g 1)), .mk (.t 4) none (.ld false 1 (.t 3))] (.t 4) (.seq (.reg [.mk (.t 5) none (.fa 0 (.g 1)), .mk (.t 6) none (.ld false 1 (.t 5)), .mk (.t 7) none (.cv 3 73 (.t 6)), .mk (.t 8) none (.pc (.f 26) [.t 7]), .mk (.t 9) none (.fa 1 (.g 1)), .mk (.t 10) none (.ld false 1 (.t 9)), .mk (.t 11) none (.cv 3 73 (.t 10)), .mk (.t 12) none (.pc (.f 26) [.t 11]), .mk (.t 13) none (.bi .complex [.t 8, .t 12]), .mk (.g 2) none (.mv (.t 13))]) .ret) .skip) (.seq (.reg [.mk (.t 14) none (.fa 0 (.g 1)), .mk (.t 15) none (.ld false 1 (.t 14)), .mk (.t 16) none (.cv 3 71 (.t 15)), .mk (.t 17) none (.fa 1 (.g 1)), .mk (.t 18) none (.ld false 1 (.t 17)), .mk (.t 19) none (.cv 3 71 (.t 18)), .mk (.t 20) none (.bi .complex [.t 16, .t 19]), .mk (.g 2) none (.mv (.t 20))]) .ret)))
theorem co23 : cf23.comp (Try.f23.body.getD .skip) = some ac23 := by kernel_rfl
theorem pu23 {args : List D} {res : D} (hl : args.length ≤ 21) (h : A cf23 ac23 (Kont cf23 (RetQ [.t 2] res) []) (env0 [0, 1, 2] args) [] 0) : Pure Try.prog 23 args res :=
  Pure_of (C := cf23) (c := Try.f23.body.getD .skip) Try.func23 (by kernel_rfl) (by rfl) (by rfl) hl (by kernel_rfl) co23 h
theorem ct23 {args : List D} {mem : Mem} {nx : Nat} {K : KD} (hl : args.length ≤ 21) (h : (∀ i, nx ≤ i → look mem i = none) → A cf23 ac23 (Kont cf23 (RetC [.t 2] K) []) (env0 [0, 1, 2] args) mem nx) : CallT Try.prog 23 args mem nx K :=
  CallT_of (C := cf23) (c := Try.f23.body.getD .skip) Try.func23 (by kernel_rfl) (by rfl) (by rfl) hl (by kernel_rfl) co23 h
@[simp] theorem cfP23 : cf23.P = Try.prog := (rfl)
@[simp] theorem cvValid_3_73 {n : Int} : cvD Try.prog 3 73 (.pl (.int .i64 n)) = some (.pl (.int .u64 (IntKind.u64.wrap n))) := cv_int Try.underlying3 Try.underlying73
@[simp] theorem cvValid_73_2 {n : Int} : cvD Try.prog 73 2 (.pl (.int .u64 n)) = some (.pl (.int .i64 (IntKind.i64.wrap n))) := cv_int Try.underlying73 Try.underlying2
end Go.Fx.Ytalinonmjhdmaaa

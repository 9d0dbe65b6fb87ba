import Derived.Test.YtaiklblnfebdfaaXD
import Derived.Test.YtaiklblnfebdfaaProg
import Derived.KernelRfl
set_option linter.all false
set_option maxRecDepth 1000000
set_option maxHeartbeats 0
namespace Go.Fx.Ytaiklblnfebdfaa
open Go Go.Fx Go.Proofs

/-- gauss.plain -/
noncomputable def cf41 : Cfg := ⟨Try.prog, 24, [0, 2], []⟩
noncomputable def ac41 : AC :=
  (.seq (.reg [.mk (.g 2) none (.mv (.c (.bool false)))]) (.seq (.reg [.mk (.t 3) none (.mv (.g 0)), .mk (.t 4) none (.bin .geq 62 (.t 3) (.c (.float .f64 13938640846711685120))), .mk (.t 5) none (.mv (.t 4)), .mk (.t 6) (some (.t 5, true)) (.mv (.g 0)), .mk (.t 7) (some (.t 5, true)) (.bin .leq 62 (.t 6) (.c (.float .f64 4715268809856909312))), .mk (.t 8) none (.pick (.t 5) (.t 7) (.c (.bool false))), .mk (.t 9) none (.mv (.t 8)), .mk (.t 10) (some (.t 9, true)) (.mv (.g 0)), .mk (.t 11) (some (.t 9, true)) (.mv (.g 0)), .mk (.t 12) (some (.t 9, true)) (.pc (.f 47) [.t 11]), .mk (.t 13) (some (.t 9, true)) (.bin .eql 62 (.t 10) (.t 12)), .mk (.t 14) none (.pick (.t 9) (.t 13) (.c (.bool false))), .mk (.t 15) none (.mv (.t 14)), .mk (.t 16) (some (.t 15, true)) (.mv (.g 0)), .mk (.t 17) (some (.t 15, true)) (.bin .neq 62 (.t 16) (.c (.float .f64 0))), .mk (.t 18) (some (.t 15, true)) (.mv (.t 17)), .mk (.t 19) (some (.t 18, false)) (.mv (.g 0)), .mk (.t 20) (some (.t 18, false)) (.pc (.f 48) [.t 19]), .mk (.t 21) (some (.t 18, false)) (.un .not (.t 20)), .mk (.t 22) (some (.t 15, true)) (.pick (.t 18) (.c (.bool true)) (.t 21)), .mk (.t 23) none (.pick (.t 15) (.t 22) (.c (.bool false))), .mk (.g 2) none (.mv (.t 23))]) .ret))
theorem co41 : cf41.comp (Try.f41.body.getD .skip) = some ac41 := by kernel_rfl
theorem pu41 {args : List D} {res : D} (hl : args.length ≤ 24) (h : A cf41 ac41 (Kont cf41 (RetQ [.t 2] res) []) (env0 [0, 2] args) [] 0) : Pure Try.prog 41 args res :=
  Pure_of (C := cf41) (c := Try.f41.body.getD .skip) Try.func41 (by kernel_rfl) (by rfl) (by rfl) hl (by kernel_rfl) co41 h
theorem ct41 {args : List D} {mem : Mem} {nx : Nat} {K : KD} (hl : args.length ≤ 24) (h : (∀ i, nx ≤ i → look mem i = none) → A cf41 ac41 (Kont cf41 (RetC [.t 2] K) []) (env0 [0, 2] args) mem nx) : CallT Try.prog 41 args mem nx K :=
  CallT_of (C := cf41) (c := Try.f41.body.getD .skip) Try.func41 (by kernel_rfl) (by rfl) (by rfl) hl (by kernel_rfl) co41 h
@[simp] theorem cfP41 : cf41.P = Try.prog := (rfl)

/-- gauss.Valid -/
noncomputable def cf21 : Cfg := ⟨Try.prog, 11, [0, 2], []⟩
noncomputable def ac21 : AC :=
  (.seq (.reg [.mk (.g 2) none (.mv (.c (.bool false)))]) (.seq (.reg [.mk (.t 3) none (.mv (.g 0)), .mk (.t 4) none (.bi .real [.t 3]), .mk (.t 5) none (.pc (.f 41) [.t 4]), .mk (.t 6) none (.mv (.t 5)), .mk (.t 7) (some (.t 6, true)) (.mv (.g 0)), .mk (.t 8) (some (.t 6, true)) (.bi .imag [.t 7]), .mk (.t 9) (some (.t 6, true)) (.pc (.f 41) [.t 8]), .mk (.t 10) none (.pick (.t 6) (.t 9) (.c (.bool false))), .mk (.g 2) none (.mv (.t 10))]) .ret))
theorem co21 : cf21.comp (Try.f21.body.getD .skip) = some ac21 := by kernel_rfl
theorem pu21 {args : List D} {res : D} (hl : args.length ≤ 11) (h : A cf21 ac21 (Kont cf21 (RetQ [.t 2] res) []) (env0 [0, 2] args) [] 0) : Pure Try.prog 21 args res :=
  Pure_of (C := cf21) (c := Try.f21.body.getD .skip) Try.func21 (by kernel_rfl) (by rfl) (by rfl) hl (by kernel_rfl) co21 h
theorem ct21 {args : List D} {mem : Mem} {nx : Nat} {K : KD} (hl : args.length ≤ 11) (h : (∀ i, nx ≤ i → look mem i = none) → A cf21 ac21 (Kont cf21 (RetC [.t 2] K) []) (env0 [0, 2] args) mem nx) : CallT Try.prog 21 args mem nx K :=
  CallT_of (C := cf21) (c := Try.f21.body.getD .skip) Try.func21 (by kernel_rfl) (by rfl) (by rfl) hl (by kernel_rfl) co21 h
@[simp] theorem cfP21 : cf21.P = Try.prog := (rfl)

/-- math.Trunc -/
noncomputable def cf47 : Cfg := ⟨Try.prog, 7, [0, 2], []⟩
noncomputable def ac47 : AC :=
  (.seq (.ifr [.mk (.g 2) none (.mv (.c (.float .f64 0)))] (.c (.bool true)) (.seq (.reg [.mk (.t 3) none (.mv (.g 0)), .mk (.t 4) none (.pc (.f 52) [.t 3]), .mk (.g 2) none (.mv (.t 4))]) .ret) .skip) (.seq (.reg [.mk (.t 5) none (.mv (.g 0)), .mk (.t 6) none (.pc (.f 53) [.t 5]), .mk (.g 2) none (.mv (.t 6))]) .ret))
theorem co47 : cf47.comp (Try.f47.body.getD .skip) = some ac47 := by kernel_rfl
theorem pu47 {args : List D} {res : D} (hl : args.length ≤ 7) (h : A cf47 ac47 (Kont cf47 (RetQ [.t 2] res) []) (env0 [0, 2] args) [] 0) : Pure Try.prog 47 args res :=
  Pure_of (C := cf47) (c := Try.f47.body.getD .skip) Try.func47 (by kernel_rfl) (by rfl) (by rfl) hl (by kernel_rfl) co47 h
theorem ct47 {args : List D} {mem : Mem} {nx : Nat} {K : KD} (hl : args.length ≤ 7) (h : (∀ i, nx ≤ i → look mem i = none) → A cf47 ac47 (Kont cf47 (RetC [.t 2] K) []) (env0 [0, 2] args) mem nx) : CallT Try.prog 47 args mem nx K :=
  CallT_of (C := cf47) (c := Try.f47.body.getD .skip) Try.func47 (by kernel_rfl) (by rfl) (by rfl) hl (by kernel_rfl) co47 h
@[simp] theorem cfP47 : cf47.P = Try.prog := (rfl)

/-- math.Signbit -/
noncomputable def cf48 : Cfg := ⟨Try.prog, 7, [0, 2], []⟩
noncomputable def ac48 : AC :=
  (.seq (.reg [.mk (.g 2) none (.mv (.c (.bool false)))]) (.seq (.reg [.mk (.t 3) none (.mv (.g 0)), .mk (.t 4) none (.pc (.f 51) [.t 3]), .mk (.t 5) none (.cv 75 2 (.t 4)), .mk (.t 6) none (.bin .lss 2 (.t 5) (.c (.int .i64 0))), .mk (.g 2) none (.mv (.t 6))]) .ret))
theorem co48 : cf48.comp (Try.f48.body.getD .skip) = some ac48 := by kernel_rfl
theorem pu48 {args : List D} {res : D} (hl : args.length ≤ 7) (h : A cf48 ac48 (Kont cf48 (RetQ [.t 2] res) []) (env0 [0, 2] args) [] 0) : Pure Try.prog 48 args res :=
  Pure_of (C := cf48) (c := Try.f48.body.getD .skip) Try.func48 (by kernel_rfl) (by rfl) (by rfl) hl (by kernel_rfl) co48 h
theorem ct48 {args : List D} {mem : Mem} {nx : Nat} {K : KD} (hl : args.length ≤ 7) (h : (∀ i, nx ≤ i → look mem i = none) → A cf48 ac48 (Kont cf48 (RetC [.t 2] K) []) (env0 [0, 2] args) mem nx) : CallT Try.prog 48 args mem nx K :=
  CallT_of (C := cf48) (c := Try.f48.body.getD .skip) Try.func48 (by kernel_rfl) (by rfl) (by rfl) hl (by kernel_rfl) co48 h
@[simp] theorem cfP48 : cf48.P = Try.prog := (rfl)

/-- fathomref01.part -/
noncomputable def cf44 : Cfg := ⟨Try.prog, 28, [0, 2, 3, 4], []⟩
noncomputable def ac44 : AC :=
  (.seq (.reg [.mk (.g 2) none (.mv (.c (.int .i64 0))), .mk (.g 3) none (.mv (.c (.bool false)))]) (.seq (.ifr [.mk (.t 5) none (.mv (.g 0)), .mk (.t 6) none (.bin .geq 62 (.t 5) (.c (.float .f64 13938640846711685120))), .mk (.t 7) none (.mv (.t 6)), .mk (.t 8) (some (.t 7, true)) (.mv (.g 0)), .mk (.t 9) (some (.t 7, true)) (.bin .leq 62 (.t 8) (.c (.float .f64 4715268809856909312))), .mk (.t 10) none (.pick (.t 7) (.t 9) (.c (.bool false))), .mk (.t 11) none (.un .not (.t 10)), .mk (.t 12) none (.mv (.t 11)), .mk (.t 13) (some (.t 12, false)) (.mv (.g 0)), .mk (.t 14) (some (.t 12, false)) (.bin .eql 62 (.t 13) (.c (.float .f64 0))), .mk (.t 15) (some (.t 12, false)) (.mv (.t 14)), .mk (.t 16) (some (.t 15, true)) (.mv (.g 0)), .mk (.t 17) (some (.t 15, true)) (.pc (.f 51) [.t 16]), .mk (.t 18) (some (.t 15, true)) (.bin .neq 75 (.t 17) (.c (.int .u64 0))), .mk (.t 19) (some (.t 12, false)) (.pick (.t 15) (.t 18) (.c (.bool false))), .mk (.t 20) none (.pick (.t 12) (.c (.bool true)) (.t 19))] (.t 20) (.seq (.reg [.mk (.g 2) none (.mv (.c (.int .i64 0))), .mk (.g 3) none (.mv (.c (.bool false)))]) .ret) .skip) (.seq (.reg [.mk (.t 21) none (.mv (.g 0)), .mk (.t 22) none (.cv 62 3 (.t 21)), .mk (.g 4) none (.mv (.t 22))]) (.seq (.reg [.mk (.t 23) none (.mv (.g 4)), .mk (.t 24) none (.mv (.g 4)), .mk (.t 25) none (.cv 3 62 (.t 24)), .mk (.t 26) none (.mv (.g 0)), .mk (.t 27) none (.bin .eql 62 (.t 25) (.t 26)), .mk (.g 2) none (.mv (.t 23)), .mk (.g 3) none (.mv (.t 27))]) .ret))))
theorem co44 : cf44.comp (Try.f44.body.getD .skip) = some ac44 := by kernel_rfl
theorem pu44 {args : List D} {res : D} (hl : args.length ≤ 28) (h : A cf44 ac44 (Kont cf44 (RetQ [.t 2, .t 3] res) []) (env0 [0, 2, 3, 4] args) [] 0) : Pure Try.prog 44 args res :=
  Pure_of (C := cf44) (c := Try.f44.body.getD .skip) Try.func44 (by kernel_rfl) (by rfl) (by rfl) hl (by kernel_rfl) co44 h
theorem ct44 {args : List D} {mem : Mem} {nx : Nat} {K : KD} (hl : args.length ≤ 28) (h : (∀ i, nx ≤ i → look mem i = none) → A cf44 ac44 (Kont cf44 (RetC [.t 2, .t 3] K) []) (env0 [0, 2, 3, 4] args) mem nx) : CallT Try.prog 44 args mem nx K :=
  CallT_of (C := cf44) (c := Try.f44.body.getD .skip) Try.func44 (by kernel_rfl) (by rfl) (by rfl) hl (by kernel_rfl) co44 h
@[simp] theorem cfP44 : cf44.P = Try.prog := (rfl)

/-- fathomref01.Of -/
noncomputable def cf32 : Cfg := ⟨Try.prog, 30, [0, 2, 3, 4, 5, 6, 7], []⟩
noncomputable def ac32 : AC :=
  (.seq (.reg [.mk (.g 2) none (.al [.int .i64 0, .int .i64 0]), .mk (.g 3) none (.mv (.c (.bool false)))]) (.seq (.reg [.mk (.t 9) none (.mv (.g 0)), .mk (.t 10) none (.bi .real [.t 9]), .mk (.t 11) none (.pc (.f 44) [.t 10]), .mk (.t 8) none (.mv (.t 11)), .mk (.t 12) none (.ext 0 (.t 8)), .mk (.t 13) none (.ext 1 (.t 8)), .mk (.g 4) none (.mv (.t 12)), .mk (.g 5) none (.mv (.t 13))]) (.seq (.reg [.mk (.t 15) none (.mv (.g 0)), .mk (.t 16) none (.bi .imag [.t 15]), .mk (.t 17) none (.pc (.f 44) [.t 16]), .mk (.t 14) none (.mv (.t 17)), .mk (.t 18) none (.ext 0 (.t 14)), .mk (.t 19) none (.ext 1 (.t 14)), .mk (.g 6) none (.mv (.t 18)), .mk (.g 7) none (.mv (.t 19))]) (.seq (.ifr [.mk (.t 20) none (.mv (.g 5)), .mk (.t 21) none (.un .not (.t 20)), .mk (.t 22) none (.mv (.t 21)), .mk (.t 23) (some (.t 22, false)) (.mv (.g 7)), .mk (.t 24) (some (.t 22, false)) (.un .not (.t 23)), .mk (.t 25) none (.pick (.t 22) (.c (.bool true)) (.t 24))] (.t 25) (.seq (.reg [.mk (.t 26) none (.bld [.int .i64 0, .int .i64 0] []), .mk .no none (.st 2 (.g 2) (.t 26)), .mk (.g 3) none (.mv (.c (.bool false)))]) .ret) .skip) (.seq (.reg [.mk (.t 27) none (.mv (.g 4)), .mk (.t 28) none (.mv (.g 6)), .mk (.t 29) none (.bld [.int .i64 0, .int .i64 0] [(0, 1, .t 27), (1, 1, .t 28)]), .mk .no none (.st 2 (.g 2) (.t 29)), .mk (.g 3) none (.mv (.c (.bool true)))]) .ret)))))
theorem co32 : cf32.comp (Try.f32.body.getD .skip) = some ac32 := by kernel_rfl
theorem pu32 {args : List D} {res : D} (hl : args.length ≤ 30) (h : A cf32 ac32 (Kont cf32 (RetQ [.c 2 true 2, .t 3] res) []) (env0 [0, 2, 3, 4, 5, 6, 7] args) [] 0) : Pure Try.prog 32 args res :=
  Pure_of (C := cf32) (c := Try.f32.body.getD .skip) Try.func32 (by kernel_rfl) (by rfl) (by rfl) hl (by kernel_rfl) co32 h
theorem ct32 {args : List D} {mem : Mem} {nx : Nat} {K : KD} (hl : args.length ≤ 30) (h : (∀ i, nx ≤ i → look mem i = none) → A cf32 ac32 (Kont cf32 (RetC [.c 2 true 2, .t 3] K) []) (env0 [0, 2, 3, 4, 5, 6, 7] args) mem nx) : CallT Try.prog 32 args mem nx K :=
  CallT_of (C := cf32) (c := Try.f32.body.getD .skip) Try.func32 (by kernel_rfl) (by rfl) (by rfl) hl (by kernel_rfl) co32 h
@[simp] theorem cfP32 : cf32.P = Try.prog := (rfl)

/-- (fathomlaw01.Num).Z -/
noncomputable def cf15 : Cfg := ⟨Try.prog, 21, [0, 1, 2], []⟩
noncomputable def ac15 : AC :=
  (.seq (.reg [.mk (.g 1) none (.bxi (.g 0)), .mk (.g 2) none (.mv (.c (.complex .f64 0 0)))]) (.seq (.ifr [.mk (.t 3) none (.fa 2 (.g 1)), .mk (.t 4) none (.ld false 1 (.t 3))] (.t 4) (.seq (.reg [.mk (.t 5) none (.fa 0 (.g 1)), .mk (.t 6) none (.ld false 1 (.t 5)), .mk (.t 7) none (.cv 3 75 (.t 6)), .mk (.t 8) none (.pc (.f 40) [.t 7]), .mk (.t 9) none (.fa 1 (.g 1)), .mk (.t 10) none (.ld false 1 (.t 9)), .mk (.t 11) none (.cv 3 75 (.t 10)), .mk (.t 12) none (.pc (.f 40) [.t 11]), .mk (.t 13) none (.bi .complex [.t 8, .t 12]), .mk (.g 2) none (.mv (.t 13))]) .ret) .skip) (.seq (.reg [.mk (.t 14) none (.fa 0 (.g 1)), .mk (.t 15) none (.ld false 1 (.t 14)), .mk (.t 16) none (.cv 3 62 (.t 15)), .mk (.t 17) none (.fa 1 (.g 1)), .mk (.t 18) none (.ld false 1 (.t 17)), .mk (.t 19) none (.cv 3 62 (.t 18)), .mk (.t 20) none (.bi .complex [.t 16, .t 19]), .mk (.g 2) none (.mv (.t 20))]) .ret)))
theorem co15 : cf15.comp (Try.f15.body.getD .skip) = some ac15 := by kernel_rfl
theorem pu15 {args : List D} {res : D} (hl : args.length ≤ 21) (h : A cf15 ac15 (Kont cf15 (RetQ [.t 2] res) []) (env0 [0, 1, 2] args) [] 0) : Pure Try.prog 15 args res :=
  Pure_of (C := cf15) (c := Try.f15.body.getD .skip) Try.func15 (by kernel_rfl) (by rfl) (by rfl) hl (by kernel_rfl) co15 h
theorem ct15 {args : List D} {mem : Mem} {nx : Nat} {K : KD} (hl : args.length ≤ 21) (h : (∀ i, nx ≤ i → look mem i = none) → A cf15 ac15 (Kont cf15 (RetC [.t 2] K) []) (env0 [0, 1, 2] args) mem nx) : CallT Try.prog 15 args mem nx K :=
  CallT_of (C := cf15) (c := Try.f15.body.getD .skip) Try.func15 (by kernel_rfl) (by rfl) (by rfl) hl (by kernel_rfl) co15 h
@[simp] theorem cfP15 : cf15.P = Try.prog := (rfl)
@[simp] theorem cvValid_3_75 {n : Int} : cvD Try.prog 3 75 (.pl (.int .i64 n)) = some (.pl (.int .u64 (IntKind.u64.wrap n))) := cv_int Try.underlying3 Try.underlying75
@[simp] theorem cvValid_75_2 {n : Int} : cvD Try.prog 75 2 (.pl (.int .u64 n)) = some (.pl (.int .i64 (IntKind.i64.wrap n))) := cv_int Try.underlying75 Try.underlying2
end Go.Fx.Ytaiklblnfebdfaa

import Derived.Test.YtdjhlljgedknaaaXD
import Derived.Test.YtdjhlljgedknaaaProg
import Derived.KernelRfl
set_option linter.all false
set_option maxRecDepth 1000000
set_option maxHeartbeats 0
namespace Go.Fx.Ytdjhlljgedknaaa
open Go Go.Fx Go.Proofs

/-- gauss.plain -/
noncomputable def cf36 : Cfg := ⟨Try.prog, 24, [0, 2], []⟩
noncomputable def ac36 : AC :=
  (.seq (.reg [.mk (.g 2) none (.mv (.c (.bool false)))]) (.seq (.reg [.mk (.t 3) none (.mv (.g 0)), .mk (.t 4) none (.bin .geq 89 (.t 3) (.c (.float .f64 13938640846711685120))), .mk (.t 5) none (.mv (.t 4)), .mk (.t 6) (some (.t 5, true)) (.mv (.g 0)), .mk (.t 7) (some (.t 5, true)) (.bin .leq 89 (.t 6) (.c (.float .f64 4715268809856909312))), .mk (.t 8) none (.pick (.t 5) (.t 7) (.c (.bool false))), .mk (.t 9) none (.mv (.t 8)), .mk (.t 10) (some (.t 9, true)) (.mv (.g 0)), .mk (.t 11) (some (.t 9, true)) (.mv (.g 0)), .mk (.t 12) (some (.t 9, true)) (.pc (.f 39) [.t 11]), .mk (.t 13) (some (.t 9, true)) (.bin .eql 89 (.t 10) (.t 12)), .mk (.t 14) none (.pick (.t 9) (.t 13) (.c (.bool false))), .mk (.t 15) none (.mv (.t 14)), .mk (.t 16) (some (.t 15, true)) (.mv (.g 0)), .mk (.t 17) (some (.t 15, true)) (.bin .neq 89 (.t 16) (.c (.float .f64 0))), .mk (.t 18) (some (.t 15, true)) (.mv (.t 17)), .mk (.t 19) (some (.t 18, false)) (.mv (.g 0)), .mk (.t 20) (some (.t 18, false)) (.pc (.f 40) [.t 19]), .mk (.t 21) (some (.t 18, false)) (.un .not (.t 20)), .mk (.t 22) (some (.t 15, true)) (.pick (.t 18) (.c (.bool true)) (.t 21)), .mk (.t 23) none (.pick (.t 15) (.t 22) (.c (.bool false))), .mk (.g 2) none (.mv (.t 23))]) .ret))
theorem co36 : cf36.comp (Try.f36.body.getD .skip) = some ac36 := by kernel_rfl
theorem pu36 {args : List D} {res : D} (hl : args.length ≤ 24) (h : A cf36 ac36 (Kont cf36 (RetQ [.t 2] res) []) (env0 [0, 2] args) [] 0) : Pure Try.prog 36 args res :=
  Pure_of (C := cf36) (c := Try.f36.body.getD .skip) Try.func36 (by kernel_rfl) (by rfl) (by rfl) hl (by kernel_rfl) co36 h
theorem ct36 {args : List D} {mem : Mem} {nx : Nat} {K : KD} (hl : args.length ≤ 24) (h : (∀ i, nx ≤ i → look mem i = none) → A cf36 ac36 (Kont cf36 (RetC [.t 2] K) []) (env0 [0, 2] args) mem nx) : CallT Try.prog 36 args mem nx K :=
  CallT_of (C := cf36) (c := Try.f36.body.getD .skip) Try.func36 (by kernel_rfl) (by rfl) (by rfl) hl (by kernel_rfl) co36 h
@[simp] theorem cfP36 : cf36.P = Try.prog := (rfl)

/-- gauss.Valid -/
noncomputable def cf33 : Cfg := ⟨Try.prog, 11, [0, 2], []⟩
noncomputable def ac33 : AC :=
  (.seq (.reg [.mk (.g 2) none (.mv (.c (.bool false)))]) (.seq (.reg [.mk (.t 3) none (.mv (.g 0)), .mk (.t 4) none (.bi .real [.t 3]), .mk (.t 5) none (.pc (.f 36) [.t 4]), .mk (.t 6) none (.mv (.t 5)), .mk (.t 7) (some (.t 6, true)) (.mv (.g 0)), .mk (.t 8) (some (.t 6, true)) (.bi .imag [.t 7]), .mk (.t 9) (some (.t 6, true)) (.pc (.f 36) [.t 8]), .mk (.t 10) none (.pick (.t 6) (.t 9) (.c (.bool false))), .mk (.g 2) none (.mv (.t 10))]) .ret))
theorem co33 : cf33.comp (Try.f33.body.getD .skip) = some ac33 := by kernel_rfl
theorem pu33 {args : List D} {res : D} (hl : args.length ≤ 11) (h : A cf33 ac33 (Kont cf33 (RetQ [.t 2] res) []) (env0 [0, 2] args) [] 0) : Pure Try.prog 33 args res :=
  Pure_of (C := cf33) (c := Try.f33.body.getD .skip) Try.func33 (by kernel_rfl) (by rfl) (by rfl) hl (by kernel_rfl) co33 h
theorem ct33 {args : List D} {mem : Mem} {nx : Nat} {K : KD} (hl : args.length ≤ 11) (h : (∀ i, nx ≤ i → look mem i = none) → A cf33 ac33 (Kont cf33 (RetC [.t 2] K) []) (env0 [0, 2] args) mem nx) : CallT Try.prog 33 args mem nx K :=
  CallT_of (C := cf33) (c := Try.f33.body.getD .skip) Try.func33 (by kernel_rfl) (by rfl) (by rfl) hl (by kernel_rfl) co33 h
@[simp] theorem cfP33 : cf33.P = Try.prog := (rfl)

/-- math.Trunc -/
noncomputable def cf39 : Cfg := ⟨Try.prog, 7, [0, 2], []⟩
noncomputable def ac39 : AC :=
  (.seq (.ifr [.mk (.g 2) none (.mv (.c (.float .f64 0)))] (.c (.bool true)) (.seq (.reg [.mk (.t 3) none (.mv (.g 0)), .mk (.t 4) none (.pc (.f 42) [.t 3]), .mk (.g 2) none (.mv (.t 4))]) .ret) .skip) (.seq (.reg [.mk (.t 5) none (.mv (.g 0)), .mk (.t 6) none (.pc (.f 43) [.t 5]), .mk (.g 2) none (.mv (.t 6))]) .ret))
theorem co39 : cf39.comp (Try.f39.body.getD .skip) = some ac39 := by kernel_rfl
theorem pu39 {args : List D} {res : D} (hl : args.length ≤ 7) (h : A cf39 ac39 (Kont cf39 (RetQ [.t 2] res) []) (env0 [0, 2] args) [] 0) : Pure Try.prog 39 args res :=
  Pure_of (C := cf39) (c := Try.f39.body.getD .skip) Try.func39 (by kernel_rfl) (by rfl) (by rfl) hl (by kernel_rfl) co39 h
theorem ct39 {args : List D} {mem : Mem} {nx : Nat} {K : KD} (hl : args.length ≤ 7) (h : (∀ i, nx ≤ i → look mem i = none) → A cf39 ac39 (Kont cf39 (RetC [.t 2] K) []) (env0 [0, 2] args) mem nx) : CallT Try.prog 39 args mem nx K :=
  CallT_of (C := cf39) (c := Try.f39.body.getD .skip) Try.func39 (by kernel_rfl) (by rfl) (by rfl) hl (by kernel_rfl) co39 h
@[simp] theorem cfP39 : cf39.P = Try.prog := (rfl)

/-- math.Signbit -/
noncomputable def cf40 : Cfg := ⟨Try.prog, 7, [0, 2], []⟩
noncomputable def ac40 : AC :=
  (.seq (.reg [.mk (.g 2) none (.mv (.c (.bool false)))]) (.seq (.reg [.mk (.t 3) none (.mv (.g 0)), .mk (.t 4) none (.pc (.f 44) [.t 3]), .mk (.t 5) none (.cv 91 2 (.t 4)), .mk (.t 6) none (.bin .lss 2 (.t 5) (.c (.int .i64 0))), .mk (.g 2) none (.mv (.t 6))]) .ret))
theorem co40 : cf40.comp (Try.f40.body.getD .skip) = some ac40 := by kernel_rfl
theorem pu40 {args : List D} {res : D} (hl : args.length ≤ 7) (h : A cf40 ac40 (Kont cf40 (RetQ [.t 2] res) []) (env0 [0, 2] args) [] 0) : Pure Try.prog 40 args res :=
  Pure_of (C := cf40) (c := Try.f40.body.getD .skip) Try.func40 (by kernel_rfl) (by rfl) (by rfl) hl (by kernel_rfl) co40 h
theorem ct40 {args : List D} {mem : Mem} {nx : Nat} {K : KD} (hl : args.length ≤ 7) (h : (∀ i, nx ≤ i → look mem i = none) → A cf40 ac40 (Kont cf40 (RetC [.t 2] K) []) (env0 [0, 2] args) mem nx) : CallT Try.prog 40 args mem nx K :=
  CallT_of (C := cf40) (c := Try.f40.body.getD .skip) Try.func40 (by kernel_rfl) (by rfl) (by rfl) hl (by kernel_rfl) co40 h
@[simp] theorem cfP40 : cf40.P = Try.prog := (rfl)

/-- fathomref01.part -/
noncomputable def cf41 : Cfg := ⟨Try.prog, 28, [0, 2, 3, 4], []⟩
noncomputable def ac41 : AC :=
  (.seq (.reg [.mk (.g 2) none (.mv (.c (.int .i64 0))), .mk (.g 3) none (.mv (.c (.bool false)))]) (.seq (.ifr [.mk (.t 5) none (.mv (.g 0)), .mk (.t 6) none (.bin .geq 89 (.t 5) (.c (.float .f64 13938640846711685120))), .mk (.t 7) none (.mv (.t 6)), .mk (.t 8) (some (.t 7, true)) (.mv (.g 0)), .mk (.t 9) (some (.t 7, true)) (.bin .leq 89 (.t 8) (.c (.float .f64 4715268809856909312))), .mk (.t 10) none (.pick (.t 7) (.t 9) (.c (.bool false))), .mk (.t 11) none (.un .not (.t 10)), .mk (.t 12) none (.mv (.t 11)), .mk (.t 13) (some (.t 12, false)) (.mv (.g 0)), .mk (.t 14) (some (.t 12, false)) (.bin .eql 89 (.t 13) (.c (.float .f64 0))), .mk (.t 15) (some (.t 12, false)) (.mv (.t 14)), .mk (.t 16) (some (.t 15, true)) (.mv (.g 0)), .mk (.t 17) (some (.t 15, true)) (.pc (.f 44) [.t 16]), .mk (.t 18) (some (.t 15, true)) (.bin .neq 91 (.t 17) (.c (.int .u64 0))), .mk (.t 19) (some (.t 12, false)) (.pick (.t 15) (.t 18) (.c (.bool false))), .mk (.t 20) none (.pick (.t 12) (.c (.bool true)) (.t 19))] (.t 20) (.seq (.reg [.mk (.g 2) none (.mv (.c (.int .i64 0))), .mk (.g 3) none (.mv (.c (.bool false)))]) .ret) .skip) (.seq (.reg [.mk (.t 21) none (.mv (.g 0)), .mk (.t 22) none (.cv 89 3 (.t 21)), .mk (.g 4) none (.mv (.t 22))]) (.seq (.reg [.mk (.t 23) none (.mv (.g 4)), .mk (.t 24) none (.mv (.g 4)), .mk (.t 25) none (.cv 3 89 (.t 24)), .mk (.t 26) none (.mv (.g 0)), .mk (.t 27) none (.bin .eql 89 (.t 25) (.t 26)), .mk (.g 2) none (.mv (.t 23)), .mk (.g 3) none (.mv (.t 27))]) .ret))))
theorem co41 : cf41.comp (Try.f41.body.getD .skip) = some ac41 := by kernel_rfl
theorem pu41 {args : List D} {res : D} (hl : args.length ≤ 28) (h : A cf41 ac41 (Kont cf41 (RetQ [.t 2, .t 3] res) []) (env0 [0, 2, 3, 4] args) [] 0) : Pure Try.prog 41 args res :=
  Pure_of (C := cf41) (c := Try.f41.body.getD .skip) Try.func41 (by kernel_rfl) (by rfl) (by rfl) hl (by kernel_rfl) co41 h
theorem ct41 {args : List D} {mem : Mem} {nx : Nat} {K : KD} (hl : args.length ≤ 28) (h : (∀ i, nx ≤ i → look mem i = none) → A cf41 ac41 (Kont cf41 (RetC [.t 2, .t 3] K) []) (env0 [0, 2, 3, 4] args) mem nx) : CallT Try.prog 41 args mem nx K :=
  CallT_of (C := cf41) (c := Try.f41.body.getD .skip) Try.func41 (by kernel_rfl) (by rfl) (by rfl) hl (by kernel_rfl) co41 h
@[simp] theorem cfP41 : cf41.P = Try.prog := (rfl)

/-- fathomref01.Of -/
noncomputable def cf37 : Cfg := ⟨Try.prog, 30, [0, 2, 3, 4, 5, 6, 7], []⟩
noncomputable def ac37 : AC :=
  (.seq (.reg [.mk (.g 2) none (.al [.int .i64 0, .int .i64 0]), .mk (.g 3) none (.mv (.c (.bool false)))]) (.seq (.reg [.mk (.t 9) none (.mv (.g 0)), .mk (.t 10) none (.bi .real [.t 9]), .mk (.t 11) none (.pc (.f 41) [.t 10]), .mk (.t 8) none (.mv (.t 11)), .mk (.t 12) none (.ext 0 (.t 8)), .mk (.t 13) none (.ext 1 (.t 8)), .mk (.g 4) none (.mv (.t 12)), .mk (.g 5) none (.mv (.t 13))]) (.seq (.reg [.mk (.t 15) none (.mv (.g 0)), .mk (.t 16) none (.bi .imag [.t 15]), .mk (.t 17) none (.pc (.f 41) [.t 16]), .mk (.t 14) none (.mv (.t 17)), .mk (.t 18) none (.ext 0 (.t 14)), .mk (.t 19) none (.ext 1 (.t 14)), .mk (.g 6) none (.mv (.t 18)), .mk (.g 7) none (.mv (.t 19))]) (.seq (.ifr [.mk (.t 20) none (.mv (.g 5)), .mk (.t 21) none (.un .not (.t 20)), .mk (.t 22) none (.mv (.t 21)), .mk (.t 23) (some (.t 22, false)) (.mv (.g 7)), .mk (.t 24) (some (.t 22, false)) (.un .not (.t 23)), .mk (.t 25) none (.pick (.t 22) (.c (.bool true)) (.t 24))] (.t 25) (.seq (.reg [.mk (.t 26) none (.bld [.int .i64 0, .int .i64 0] []), .mk .no none (.st 2 (.g 2) (.t 26)), .mk (.g 3) none (.mv (.c (.bool false)))]) .ret) .skip) (.seq (.reg [.mk (.t 27) none (.mv (.g 4)), .mk (.t 28) none (.mv (.g 6)), .mk (.t 29) none (.bld [.int .i64 0, .int .i64 0] [(0, 1, .t 27), (1, 1, .t 28)]), .mk .no none (.st 2 (.g 2) (.t 29)), .mk (.g 3) none (.mv (.c (.bool true)))]) .ret)))))
theorem co37 : cf37.comp (Try.f37.body.getD .skip) = some ac37 := by kernel_rfl
theorem pu37 {args : List D} {res : D} (hl : args.length ≤ 30) (h : A cf37 ac37 (Kont cf37 (RetQ [.c 2 true 2, .t 3] res) []) (env0 [0, 2, 3, 4, 5, 6, 7] args) [] 0) : Pure Try.prog 37 args res :=
  Pure_of (C := cf37) (c := Try.f37.body.getD .skip) Try.func37 (by kernel_rfl) (by rfl) (by rfl) hl (by kernel_rfl) co37 h
theorem ct37 {args : List D} {mem : Mem} {nx : Nat} {K : KD} (hl : args.length ≤ 30) (h : (∀ i, nx ≤ i → look mem i = none) → A cf37 ac37 (Kont cf37 (RetC [.c 2 true 2, .t 3] K) []) (env0 [0, 2, 3, 4, 5, 6, 7] args) mem nx) : CallT Try.prog 37 args mem nx K :=
  CallT_of (C := cf37) (c := Try.f37.body.getD .skip) Try.func37 (by kernel_rfl) (by rfl) (by rfl) hl (by kernel_rfl) co37 h
@[simp] theorem cfP37 : cf37.P = Try.prog := (rfl)

/-- (fathomlaw01.Num).Z -/
noncomputable def cf25 : Cfg := ⟨Try.prog, 21, [0, 1, 2], []⟩
noncomputable def ac25 : AC :=
  (.seq (.reg [.mk (.g 1) none (.bxi (.g 0)), .mk (.g 2) none (.mv (.c (.complex .f64 0 0)))]) (.seq (.ifr [.mk (.t 3) none (.fa 2 (.g 1)), .mk (.t 4) none (.ld false 1 (.t 3))] (.t 4) (.seq (.reg [.mk (.t 5) none (.fa 0 (.g 1)), .mk (.t 6) none (.ld false 1 (.t 5)), .mk (.t 7) none (.cv 3 91 (.t 6)), .mk (.t 8) none (.pc (.f 34) [.t 7]), .mk (.t 9) none (.fa 1 (.g 1)), .mk (.t 10) none (.ld false 1 (.t 9)), .mk (.t 11) none (.cv 3 91 (.t 10)), .mk (.t 12) none (.pc (.f 34) [.t 11]), .mk (.t 13) none (.bi .complex [.t 8, .t 12]), .mk (.g 2) none (.mv (.t 13))]) .ret) .skip) (.seq (.reg [.mk (.t 14) none (.fa 0 (.g 1)), .mk (.t 15) none (.ld false 1 (.t 14)), .mk (.t 16) none (.cv 3 89 (.t 15)), .mk (.t 17) none (.fa 1 (.g 1)), .mk (.t 18) none (.ld false 1 (.t 17)), .mk (.t 19) none (.cv 3 89 (.t 18)), .mk (.t 20) none (.bi .complex [.t 16, .t 19]), .mk (.g 2) none (.mv (.t 20))]) .ret)))
theorem co25 : cf25.comp (Try.f25.body.getD .skip) = some ac25 := by kernel_rfl
theorem pu25 {args : List D} {res : D} (hl : args.length ≤ 21) (h : A cf25 ac25 (Kont cf25 (RetQ [.t 2] res) []) (env0 [0, 1, 2] args) [] 0) : Pure Try.prog 25 args res :=
  Pure_of (C := cf25) (c := Try.f25.body.getD .skip) Try.func25 (by kernel_rfl) (by rfl) (by rfl) hl (by kernel_rfl) co25 h
theorem ct25 {args : List D} {mem : Mem} {nx : Nat} {K : KD} (hl : args.length ≤ 21) (h : (∀ i, nx ≤ i → look mem i = none) → A cf25 ac25 (Kont cf25 (RetC [.t 2] K) []) (env0 [0, 1, 2] args) mem nx) : CallT Try.prog 25 args mem nx K :=
  CallT_of (C := cf25) (c := Try.f25.body.getD .skip) Try.func25 (by kernel_rfl) (by rfl) (by rfl) hl (by kernel_rfl) co25 h
@[simp] theorem cfP25 : cf25.P = Try.prog := (rfl)
@[simp] theorem cvValid_3_91 {n : Int} : cvD Try.prog 3 91 (.pl (.int .i64 n)) = some (.pl (.int .u64 (IntKind.u64.wrap n))) := cv_int Try.underlying3 Try.underlying91
@[simp] theorem cvValid_91_2 {n : Int} : cvD Try.prog 91 2 (.pl (.int .u64 n)) = some (.pl (.int .i64 (IntKind.i64.wrap n))) := cv_int Try.underlying91 Try.underlying2
end Go.Fx.Ytdjhlljgedknaaa

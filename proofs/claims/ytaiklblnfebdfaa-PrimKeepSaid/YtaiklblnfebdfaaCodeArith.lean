import Derived.Test.YtaiklblnfebdfaaXD
import Derived.Test.YtaiklblnfebdfaaProg
import Derived.KernelRfl
set_option linter.all false
set_option maxRecDepth 1000000
set_option maxHeartbeats 0
namespace Go.Fx.Ytaiklblnfebdfaa
open Go Go.Fx Go.Proofs

/-- gauss.bound -/
noncomputable def cf42 : Cfg := ⟨Try.prog, 15, [0, 2, 3], []⟩
noncomputable def ac42 : AC :=
  (.seq (.reg [.mk (.g 2) none (.mv (.c (.complex .f64 0 0))), .mk (.g 3) none (.mv (.c (.int .i64 0)))]) (.seq (.reg [.mk (.t 4) none (.mv (.g 0)), .mk (.t 5) none (.bi .real [.t 4]), .mk (.t 6) none (.bin .add 62 (.t 5) (.c (.float .f64 0))), .mk (.t 7) none (.mv (.g 0)), .mk (.t 8) none (.bi .imag [.t 7]), .mk (.t 9) none (.bin .add 62 (.t 8) (.c (.float .f64 0))), .mk (.t 10) none (.bi .complex [.t 6, .t 9]), .mk (.g 0) none (.mv (.t 10))]) (.seq (.ifr [.mk (.t 11) none (.mv (.g 0)), .mk (.t 12) none (.pc (.f 21) [.t 11]), .mk (.t 13) none (.un .not (.t 12))] (.t 13) (.seq (.reg [.mk (.g 2) none (.mv (.c (.complex .f64 0 0))), .mk (.g 3) none (.mv (.c (.int .i64 50)))]) .ret) .skip) (.seq (.reg [.mk (.t 14) none (.mv (.g 0)), .mk (.g 2) none (.mv (.t 14)), .mk (.g 3) none (.mv (.c (.int .i64 0)))]) .ret))))
theorem co42 : cf42.comp (Try.f42.body.getD .skip) = some ac42 := by kernel_rfl
theorem pu42 {args : List D} {res : D} (hl : args.length ≤ 15) (h : A cf42 ac42 (Kont cf42 (RetQ [.t 2, .t 3] res) []) (env0 [0, 2, 3] args) [] 0) : Pure Try.prog 42 args res :=
  Pure_of (C := cf42) (c := Try.f42.body.getD .skip) Try.func42 (by kernel_rfl) (by rfl) (by rfl) hl (by kernel_rfl) co42 h
theorem ct42 {args : List D} {mem : Mem} {nx : Nat} {K : KD} (hl : args.length ≤ 15) (h : (∀ i, nx ≤ i → look mem i = none) → A cf42 ac42 (Kont cf42 (RetC [.t 2, .t 3] K) []) (env0 [0, 2, 3] args) mem nx) : CallT Try.prog 42 args mem nx K :=
  CallT_of (C := cf42) (c := Try.f42.body.getD .skip) Try.func42 (by kernel_rfl) (by rfl) (by rfl) hl (by kernel_rfl) co42 h
@[simp] theorem cfP42 : cf42.P = Try.prog := (rfl)

/-- gauss.Add -/
noncomputable def cf22 : Cfg := ⟨Try.prog, 20, [0, 1, 4, 5], []⟩
noncomputable def ac22 : AC :=
  (.seq (.reg [.mk (.g 4) none (.mv (.c (.complex .f64 0 0))), .mk (.g 5) none (.mv (.c (.int .i64 0)))]) (.seq (.ifr [.mk (.t 6) none (.mv (.g 0)), .mk (.t 7) none (.pc (.f 21) [.t 6]), .mk (.t 8) none (.un .not (.t 7)), .mk (.t 9) none (.mv (.t 8)), .mk (.t 10) (some (.t 9, false)) (.mv (.g 1)), .mk (.t 11) (some (.t 9, false)) (.pc (.f 21) [.t 10]), .mk (.t 12) (some (.t 9, false)) (.un .not (.t 11)), .mk (.t 13) none (.pick (.t 9) (.c (.bool true)) (.t 12))] (.t 13) (.seq (.reg [.mk (.g 4) none (.mv (.c (.complex .f64 0 0))), .mk (.g 5) none (.mv (.c (.int .i64 3)))]) .ret) .skip) (.seq (.reg [.mk (.t 14) none (.mv (.g 0)), .mk (.t 15) none (.mv (.g 1)), .mk (.t 16) none (.bin .add 29 (.t 14) (.t 15)), .mk (.t 17) none (.pc (.f 42) [.t 16]), .mk (.t 18) none (.ext 0 (.t 17)), .mk (.t 19) none (.ext 1 (.t 17)), .mk (.g 4) none (.mv (.t 18)), .mk (.g 5) none (.mv (.t 19))]) .ret)))
theorem co22 : cf22.comp (Try.f22.body.getD .skip) = some ac22 := by kernel_rfl
theorem pu22 {args : List D} {res : D} (hl : args.length ≤ 20) (h : A cf22 ac22 (Kont cf22 (RetQ [.t 4, .t 5] res) []) (env0 [0, 1, 4, 5] args) [] 0) : Pure Try.prog 22 args res :=
  Pure_of (C := cf22) (c := Try.f22.body.getD .skip) Try.func22 (by kernel_rfl) (by rfl) (by rfl) hl (by kernel_rfl) co22 h
theorem ct22 {args : List D} {mem : Mem} {nx : Nat} {K : KD} (hl : args.length ≤ 20) (h : (∀ i, nx ≤ i → look mem i = none) → A cf22 ac22 (Kont cf22 (RetC [.t 4, .t 5] K) []) (env0 [0, 1, 4, 5] args) mem nx) : CallT Try.prog 22 args mem nx K :=
  CallT_of (C := cf22) (c := Try.f22.body.getD .skip) Try.func22 (by kernel_rfl) (by rfl) (by rfl) hl (by kernel_rfl) co22 h
@[simp] theorem cfP22 : cf22.P = Try.prog := (rfl)

/-- gauss.Sub -/
noncomputable def cf23 : Cfg := ⟨Try.prog, 20, [0, 1, 4, 5], []⟩
noncomputable def ac23 : AC :=
  (.seq (.reg [.mk (.g 4) none (.mv (.c (.complex .f64 0 0))), .mk (.g 5) none (.mv (.c (.int .i64 0)))]) (.seq (.ifr [.mk (.t 6) none (.mv (.g 0)), .mk (.t 7) none (.pc (.f 21) [.t 6]), .mk (.t 8) none (.un .not (.t 7)), .mk (.t 9) none (.mv (.t 8)), .mk (.t 10) (some (.t 9, false)) (.mv (.g 1)), .mk (.t 11) (some (.t 9, false)) (.pc (.f 21) [.t 10]), .mk (.t 12) (some (.t 9, false)) (.un .not (.t 11)), .mk (.t 13) none (.pick (.t 9) (.c (.bool true)) (.t 12))] (.t 13) (.seq (.reg [.mk (.g 4) none (.mv (.c (.complex .f64 0 0))), .mk (.g 5) none (.mv (.c (.int .i64 3)))]) .ret) .skip) (.seq (.reg [.mk (.t 14) none (.mv (.g 0)), .mk (.t 15) none (.mv (.g 1)), .mk (.t 16) none (.bin .sub 29 (.t 14) (.t 15)), .mk (.t 17) none (.pc (.f 42) [.t 16]), .mk (.t 18) none (.ext 0 (.t 17)), .mk (.t 19) none (.ext 1 (.t 17)), .mk (.g 4) none (.mv (.t 18)), .mk (.g 5) none (.mv (.t 19))]) .ret)))
theorem co23 : cf23.comp (Try.f23.body.getD .skip) = some ac23 := by kernel_rfl
theorem pu23 {args : List D} {res : D} (hl : args.length ≤ 20) (h : A cf23 ac23 (Kont cf23 (RetQ [.t 4, .t 5] res) []) (env0 [0, 1, 4, 5] args) [] 0) : Pure Try.prog 23 args res :=
  Pure_of (C := cf23) (c := Try.f23.body.getD .skip) Try.func23 (by kernel_rfl) (by rfl) (by rfl) hl (by kernel_rfl) co23 h
theorem ct23 {args : List D} {mem : Mem} {nx : Nat} {K : KD} (hl : args.length ≤ 20) (h : (∀ i, nx ≤ i → look mem i = none) → A cf23 ac23 (Kont cf23 (RetC [.t 4, .t 5] K) []) (env0 [0, 1, 4, 5] args) mem nx) : CallT Try.prog 23 args mem nx K :=
  CallT_of (C := cf23) (c := Try.f23.body.getD .skip) Try.func23 (by kernel_rfl) (by rfl) (by rfl) hl (by kernel_rfl) co23 h
@[simp] theorem cfP23 : cf23.P = Try.prog := (rfl)

/-- gauss.Mul -/
noncomputable def cf24 : Cfg := ⟨Try.prog, 20, [0, 1, 4, 5], []⟩
noncomputable def ac24 : AC :=
  (.seq (.reg [.mk (.g 4) none (.mv (.c (.complex .f64 0 0))), .mk (.g 5) none (.mv (.c (.int .i64 0)))]) (.seq (.ifr [.mk (.t 6) none (.mv (.g 0)), .mk (.t 7) none (.pc (.f 21) [.t 6]), .mk (.t 8) none (.un .not (.t 7)), .mk (.t 9) none (.mv (.t 8)), .mk (.t 10) (some (.t 9, false)) (.mv (.g 1)), .mk (.t 11) (some (.t 9, false)) (.pc (.f 21) [.t 10]), .mk (.t 12) (some (.t 9, false)) (.un .not (.t 11)), .mk (.t 13) none (.pick (.t 9) (.c (.bool true)) (.t 12))] (.t 13) (.seq (.reg [.mk (.g 4) none (.mv (.c (.complex .f64 0 0))), .mk (.g 5) none (.mv (.c (.int .i64 3)))]) .ret) .skip) (.seq (.reg [.mk (.t 14) none (.mv (.g 0)), .mk (.t 15) none (.mv (.g 1)), .mk (.t 16) none (.bin .mul 29 (.t 14) (.t 15)), .mk (.t 17) none (.pc (.f 42) [.t 16]), .mk (.t 18) none (.ext 0 (.t 17)), .mk (.t 19) none (.ext 1 (.t 17)), .mk (.g 4) none (.mv (.t 18)), .mk (.g 5) none (.mv (.t 19))]) .ret)))
theorem co24 : cf24.comp (Try.f24.body.getD .skip) = some ac24 := by kernel_rfl
theorem pu24 {args : List D} {res : D} (hl : args.length ≤ 20) (h : A cf24 ac24 (Kont cf24 (RetQ [.t 4, .t 5] res) []) (env0 [0, 1, 4, 5] args) [] 0) : Pure Try.prog 24 args res :=
  Pure_of (C := cf24) (c := Try.f24.body.getD .skip) Try.func24 (by kernel_rfl) (by rfl) (by rfl) hl (by kernel_rfl) co24 h
theorem ct24 {args : List D} {mem : Mem} {nx : Nat} {K : KD} (hl : args.length ≤ 20) (h : (∀ i, nx ≤ i → look mem i = none) → A cf24 ac24 (Kont cf24 (RetC [.t 4, .t 5] K) []) (env0 [0, 1, 4, 5] args) mem nx) : CallT Try.prog 24 args mem nx K :=
  CallT_of (C := cf24) (c := Try.f24.body.getD .skip) Try.func24 (by kernel_rfl) (by rfl) (by rfl) hl (by kernel_rfl) co24 h
@[simp] theorem cfP24 : cf24.P = Try.prog := (rfl)

/-- gauss.Conj -/
noncomputable def cf27 : Cfg := ⟨Try.prog, 16, [0, 2, 3], []⟩
noncomputable def ac27 : AC :=
  (.seq (.reg [.mk (.g 2) none (.mv (.c (.complex .f64 0 0))), .mk (.g 3) none (.mv (.c (.int .i64 0)))]) (.seq (.ifr [.mk (.t 4) none (.mv (.g 0)), .mk (.t 5) none (.pc (.f 21) [.t 4]), .mk (.t 6) none (.un .not (.t 5))] (.t 6) (.seq (.reg [.mk (.g 2) none (.mv (.c (.complex .f64 0 0))), .mk (.g 3) none (.mv (.c (.int .i64 3)))]) .ret) .skip) (.seq (.reg [.mk (.t 7) none (.mv (.g 0)), .mk (.t 8) none (.bi .real [.t 7]), .mk (.t 9) none (.mv (.g 0)), .mk (.t 10) none (.bi .imag [.t 9]), .mk (.t 11) none (.un .neg (.t 10)), .mk (.t 12) none (.bi .complex [.t 8, .t 11]), .mk (.t 13) none (.pc (.f 42) [.t 12]), .mk (.t 14) none (.ext 0 (.t 13)), .mk (.t 15) none (.ext 1 (.t 13)), .mk (.g 2) none (.mv (.t 14)), .mk (.g 3) none (.mv (.t 15))]) .ret)))
theorem co27 : cf27.comp (Try.f27.body.getD .skip) = some ac27 := by kernel_rfl
theorem pu27 {args : List D} {res : D} (hl : args.length ≤ 16) (h : A cf27 ac27 (Kont cf27 (RetQ [.t 2, .t 3] res) []) (env0 [0, 2, 3] args) [] 0) : Pure Try.prog 27 args res :=
  Pure_of (C := cf27) (c := Try.f27.body.getD .skip) Try.func27 (by kernel_rfl) (by rfl) (by rfl) hl (by kernel_rfl) co27 h
theorem ct27 {args : List D} {mem : Mem} {nx : Nat} {K : KD} (hl : args.length ≤ 16) (h : (∀ i, nx ≤ i → look mem i = none) → A cf27 ac27 (Kont cf27 (RetC [.t 2, .t 3] K) []) (env0 [0, 2, 3] args) mem nx) : CallT Try.prog 27 args mem nx K :=
  CallT_of (C := cf27) (c := Try.f27.body.getD .skip) Try.func27 (by kernel_rfl) (by rfl) (by rfl) hl (by kernel_rfl) co27 h
@[simp] theorem cfP27 : cf27.P = Try.prog := (rfl)

/-- gauss.Less -/
noncomputable def cf26 : Cfg := ⟨Try.prog, 29, [0, 1, 4, 5], []⟩
noncomputable def ac26 : AC :=
  (.seq (.reg [.mk (.g 4) none (.mv (.c (.bool false))), .mk (.g 5) none (.mv (.c (.int .i64 0)))]) (.seq (.ifr [.mk (.t 6) none (.mv (.g 0)), .mk (.t 7) none (.pc (.f 21) [.t 6]), .mk (.t 8) none (.un .not (.t 7)), .mk (.t 9) none (.mv (.t 8)), .mk (.t 10) (some (.t 9, false)) (.mv (.g 1)), .mk (.t 11) (some (.t 9, false)) (.pc (.f 21) [.t 10]), .mk (.t 12) (some (.t 9, false)) (.un .not (.t 11)), .mk (.t 13) none (.pick (.t 9) (.c (.bool true)) (.t 12))] (.t 13) (.seq (.reg [.mk (.g 4) none (.mv (.c (.bool false))), .mk (.g 5) none (.mv (.c (.int .i64 3)))]) .ret) .skip) (.seq (.ifr [.mk (.t 14) none (.mv (.g 0)), .mk (.t 15) none (.bi .real [.t 14]), .mk (.t 16) none (.mv (.g 1)), .mk (.t 17) none (.bi .real [.t 16]), .mk (.t 18) none (.bin .neq 62 (.t 15) (.t 17))] (.t 18) (.seq (.reg [.mk (.t 19) none (.mv (.g 0)), .mk (.t 20) none (.bi .real [.t 19]), .mk (.t 21) none (.mv (.g 1)), .mk (.t 22) none (.bi .real [.t 21]), .mk (.t 23) none (.bin .lss 62 (.t 20) (.t 22)), .mk (.g 4) none (.mv (.t 23)), .mk (.g 5) none (.mv (.c (.int .i64 0)))]) .ret) .skip) (.seq (.reg [.mk (.t 24) none (.mv (.g 0)), .mk (.t 25) none (.bi .imag [.t 24]), .mk (.t 26) none (.mv (.g 1)), .mk (.t 27) none (.bi .imag [.t 26]), .mk (.t 28) none (.bin .lss 62 (.t 25) (.t 27)), .mk (.g 4) none (.mv (.t 28)), .mk (.g 5) none (.mv (.c (.int .i64 0)))]) .ret))))
theorem co26 : cf26.comp (Try.f26.body.getD .skip) = some ac26 := by kernel_rfl
theorem pu26 {args : List D} {res : D} (hl : args.length ≤ 29) (h : A cf26 ac26 (Kont cf26 (RetQ [.t 4, .t 5] res) []) (env0 [0, 1, 4, 5] args) [] 0) : Pure Try.prog 26 args res :=
  Pure_of (C := cf26) (c := Try.f26.body.getD .skip) Try.func26 (by kernel_rfl) (by rfl) (by rfl) hl (by kernel_rfl) co26 h
theorem ct26 {args : List D} {mem : Mem} {nx : Nat} {K : KD} (hl : args.length ≤ 29) (h : (∀ i, nx ≤ i → look mem i = none) → A cf26 ac26 (Kont cf26 (RetC [.t 4, .t 5] K) []) (env0 [0, 1, 4, 5] args) mem nx) : CallT Try.prog 26 args mem nx K :=
  CallT_of (C := cf26) (c := Try.f26.body.getD .skip) Try.func26 (by kernel_rfl) (by rfl) (by rfl) hl (by kernel_rfl) co26 h
@[simp] theorem cfP26 : cf26.P = Try.prog := (rfl)

/-- fathomref01.in -/
noncomputable def cf46 : Cfg := ⟨Try.prog, 24, [0, 1, 2, 3], []⟩
noncomputable def ac46 : AC :=
  (.seq (.reg [.mk (.g 1) none (.bxi (.g 0)), .mk (.g 2) none (.al [.int .i64 0, .int .i64 0]), .mk (.g 3) none (.mv (.c (.int .i64 0)))]) (.seq (.ifr [.mk (.t 4) none (.fa 0 (.g 1)), .mk (.t 5) none (.ld false 1 (.t 4)), .mk (.t 6) none (.bin .lss 3 (.t 5) (.c (.int .i64 (-16777216)))), .mk (.t 7) none (.mv (.t 6)), .mk (.t 8) (some (.t 7, false)) (.fa 0 (.g 1)), .mk (.t 9) (some (.t 7, false)) (.ld false 1 (.t 8)), .mk (.t 10) (some (.t 7, false)) (.bin .gtr 3 (.t 9) (.c (.int .i64 16777216))), .mk (.t 11) none (.pick (.t 7) (.c (.bool true)) (.t 10)), .mk (.t 12) none (.mv (.t 11)), .mk (.t 13) (some (.t 12, false)) (.fa 1 (.g 1)), .mk (.t 14) (some (.t 12, false)) (.ld false 1 (.t 13)), .mk (.t 15) (some (.t 12, false)) (.bin .lss 3 (.t 14) (.c (.int .i64 (-16777216)))), .mk (.t 16) none (.pick (.t 12) (.c (.bool true)) (.t 15)), .mk (.t 17) none (.mv (.t 16)), .mk (.t 18) (some (.t 17, false)) (.fa 1 (.g 1)), .mk (.t 19) (some (.t 17, false)) (.ld false 1 (.t 18)), .mk (.t 20) (some (.t 17, false)) (.bin .gtr 3 (.t 19) (.c (.int .i64 16777216))), .mk (.t 21) none (.pick (.t 17) (.c (.bool true)) (.t 20))] (.t 21) (.seq (.reg [.mk (.t 22) none (.bld [.int .i64 0, .int .i64 0] []), .mk .no none (.st 2 (.g 2) (.t 22)), .mk (.g 3) none (.mv (.c (.int .i64 50)))]) .ret) .skip) (.seq (.reg [.mk (.t 23) none (.ld true 2 (.g 1)), .mk .no none (.st 2 (.g 2) (.t 23)), .mk (.g 3) none (.mv (.c (.int .i64 0)))]) .ret)))
theorem co46 : cf46.comp (Try.f46.body.getD .skip) = some ac46 := by kernel_rfl
theorem pu46 {args : List D} {res : D} (hl : args.length ≤ 24) (h : A cf46 ac46 (Kont cf46 (RetQ [.c 2 true 2, .t 3] res) []) (env0 [0, 1, 2, 3] args) [] 0) : Pure Try.prog 46 args res :=
  Pure_of (C := cf46) (c := Try.f46.body.getD .skip) Try.func46 (by kernel_rfl) (by rfl) (by rfl) hl (by kernel_rfl) co46 h
theorem ct46 {args : List D} {mem : Mem} {nx : Nat} {K : KD} (hl : args.length ≤ 24) (h : (∀ i, nx ≤ i → look mem i = none) → A cf46 ac46 (Kont cf46 (RetC [.c 2 true 2, .t 3] K) []) (env0 [0, 1, 2, 3] args) mem nx) : CallT Try.prog 46 args mem nx K :=
  CallT_of (C := cf46) (c := Try.f46.body.getD .skip) Try.func46 (by kernel_rfl) (by rfl) (by rfl) hl (by kernel_rfl) co46 h
@[simp] theorem cfP46 : cf46.P = Try.prog := (rfl)

/-- fathomref01.Add -/
noncomputable def cf34 : Cfg := ⟨Try.prog, 20, [0, 1, 2, 3, 4, 5], []⟩
noncomputable def ac34 : AC :=
  (.seq (.reg [.mk (.g 2) none (.bxi (.g 0)), .mk (.g 3) none (.bxi (.g 1)), .mk (.g 4) none (.al [.int .i64 0, .int .i64 0]), .mk (.g 5) none (.mv (.c (.int .i64 0)))]) (.seq (.reg [.mk (.t 6) none (.fa 0 (.g 2)), .mk (.t 7) none (.ld false 1 (.t 6)), .mk (.t 8) none (.fa 0 (.g 3)), .mk (.t 9) none (.ld false 1 (.t 8)), .mk (.t 10) none (.bin .add 3 (.t 7) (.t 9)), .mk (.t 11) none (.fa 1 (.g 2)), .mk (.t 12) none (.ld false 1 (.t 11)), .mk (.t 13) none (.fa 1 (.g 3)), .mk (.t 14) none (.ld false 1 (.t 13)), .mk (.t 15) none (.bin .add 3 (.t 12) (.t 14)), .mk (.t 16) none (.bld [.int .i64 0, .int .i64 0] [(0, 1, .t 10), (1, 1, .t 15)]), .mk (.t 17) none (.pc (.f 46) [.t 16]), .mk (.t 18) none (.ext 0 (.t 17)), .mk (.t 19) none (.ext 1 (.t 17)), .mk .no none (.st 2 (.g 4) (.t 18)), .mk (.g 5) none (.mv (.t 19))]) .ret))
theorem co34 : cf34.comp (Try.f34.body.getD .skip) = some ac34 := by kernel_rfl
theorem pu34 {args : List D} {res : D} (hl : args.length ≤ 20) (h : A cf34 ac34 (Kont cf34 (RetQ [.c 4 true 2, .t 5] res) []) (env0 [0, 1, 2, 3, 4, 5] args) [] 0) : Pure Try.prog 34 args res :=
  Pure_of (C := cf34) (c := Try.f34.body.getD .skip) Try.func34 (by kernel_rfl) (by rfl) (by rfl) hl (by kernel_rfl) co34 h
theorem ct34 {args : List D} {mem : Mem} {nx : Nat} {K : KD} (hl : args.length ≤ 20) (h : (∀ i, nx ≤ i → look mem i = none) → A cf34 ac34 (Kont cf34 (RetC [.c 4 true 2, .t 5] K) []) (env0 [0, 1, 2, 3, 4, 5] args) mem nx) : CallT Try.prog 34 args mem nx K :=
  CallT_of (C := cf34) (c := Try.f34.body.getD .skip) Try.func34 (by kernel_rfl) (by rfl) (by rfl) hl (by kernel_rfl) co34 h
@[simp] theorem cfP34 : cf34.P = Try.prog := (rfl)

/-- fathomref01.Sub -/
noncomputable def cf35 : Cfg := ⟨Try.prog, 20, [0, 1, 2, 3, 4, 5], []⟩
noncomputable def ac35 : AC :=
  (.seq (.reg [.mk (.g 2) none (.bxi (.g 0)), .mk (.g 3) none (.bxi (.g 1)), .mk (.g 4) none (.al [.int .i64 0, .int .i64 0]), .mk (.g 5) none (.mv (.c (.int .i64 0)))]) (.seq (.reg [.mk (.t 6) none (.fa 0 (.g 2)), .mk (.t 7) none (.ld false 1 (.t 6)), .mk (.t 8) none (.fa 0 (.g 3)), .mk (.t 9) none (.ld false 1 (.t 8)), .mk (.t 10) none (.bin .sub 3 (.t 7) (.t 9)), .mk (.t 11) none (.fa 1 (.g 2)), .mk (.t 12) none (.ld false 1 (.t 11)), .mk (.t 13) none (.fa 1 (.g 3)), .mk (.t 14) none (.ld false 1 (.t 13)), .mk (.t 15) none (.bin .sub 3 (.t 12) (.t 14)), .mk (.t 16) none (.bld [.int .i64 0, .int .i64 0] [(0, 1, .t 10), (1, 1, .t 15)]), .mk (.t 17) none (.pc (.f 46) [.t 16]), .mk (.t 18) none (.ext 0 (.t 17)), .mk (.t 19) none (.ext 1 (.t 17)), .mk .no none (.st 2 (.g 4) (.t 18)), .mk (.g 5) none (.mv (.t 19))]) .ret))
theorem co35 : cf35.comp (Try.f35.body.getD .skip) = some ac35 := by kernel_rfl
theorem pu35 {args : List D} {res : D} (hl : args.length ≤ 20) (h : A cf35 ac35 (Kont cf35 (RetQ [.c 4 true 2, .t 5] res) []) (env0 [0, 1, 2, 3, 4, 5] args) [] 0) : Pure Try.prog 35 args res :=
  Pure_of (C := cf35) (c := Try.f35.body.getD .skip) Try.func35 (by kernel_rfl) (by rfl) (by rfl) hl (by kernel_rfl) co35 h
theorem ct35 {args : List D} {mem : Mem} {nx : Nat} {K : KD} (hl : args.length ≤ 20) (h : (∀ i, nx ≤ i → look mem i = none) → A cf35 ac35 (Kont cf35 (RetC [.c 4 true 2, .t 5] K) []) (env0 [0, 1, 2, 3, 4, 5] args) mem nx) : CallT Try.prog 35 args mem nx K :=
  CallT_of (C := cf35) (c := Try.f35.body.getD .skip) Try.func35 (by kernel_rfl) (by rfl) (by rfl) hl (by kernel_rfl) co35 h
@[simp] theorem cfP35 : cf35.P = Try.prog := (rfl)

/-- fathomref01.Mul -/
noncomputable def cf36 : Cfg := ⟨Try.prog, 32, [0, 1, 2, 3, 4, 5], []⟩
noncomputable def ac36 : AC :=
  (.seq (.reg [.mk (.g 2) none (.bxi (.g 0)), .mk (.g 3) none (.bxi (.g 1)), .mk (.g 4) none (.al [.int .i64 0, .int .i64 0]), .mk (.g 5) none (.mv (.c (.int .i64 0)))]) (.seq (.reg [.mk (.t 6) none (.fa 0 (.g 2)), .mk (.t 7) none (.ld false 1 (.t 6)), .mk (.t 8) none (.fa 0 (.g 3)), .mk (.t 9) none (.ld false 1 (.t 8)), .mk (.t 10) none (.bin .mul 3 (.t 7) (.t 9)), .mk (.t 11) none (.fa 1 (.g 2)), .mk (.t 12) none (.ld false 1 (.t 11)), .mk (.t 13) none (.fa 1 (.g 3)), .mk (.t 14) none (.ld false 1 (.t 13)), .mk (.t 15) none (.bin .mul 3 (.t 12) (.t 14)), .mk (.t 16) none (.bin .sub 3 (.t 10) (.t 15)), .mk (.t 17) none (.fa 0 (.g 2)), .mk (.t 18) none (.ld false 1 (.t 17)), .mk (.t 19) none (.fa 1 (.g 3)), .mk (.t 20) none (.ld false 1 (.t 19)), .mk (.t 21) none (.bin .mul 3 (.t 18) (.t 20)), .mk (.t 22) none (.fa 1 (.g 2)), .mk (.t 23) none (.ld false 1 (.t 22)), .mk (.t 24) none (.fa 0 (.g 3)), .mk (.t 25) none (.ld false 1 (.t 24)), .mk (.t 26) none (.bin .mul 3 (.t 23) (.t 25)), .mk (.t 27) none (.bin .add 3 (.t 21) (.t 26)), .mk (.t 28) none (.bld [.int .i64 0, .int .i64 0] [(0, 1, .t 16), (1, 1, .t 27)]), .mk (.t 29) none (.pc (.f 46) [.t 28]), .mk (.t 30) none (.ext 0 (.t 29)), .mk (.t 31) none (.ext 1 (.t 29)), .mk .no none (.st 2 (.g 4) (.t 30)), .mk (.g 5) none (.mv (.t 31))]) .ret))
theorem co36 : cf36.comp (Try.f36.body.getD .skip) = some ac36 := by kernel_rfl
theorem pu36 {args : List D} {res : D} (hl : args.length ≤ 32) (h : A cf36 ac36 (Kont cf36 (RetQ [.c 4 true 2, .t 5] res) []) (env0 [0, 1, 2, 3, 4, 5] args) [] 0) : Pure Try.prog 36 args res :=
  Pure_of (C := cf36) (c := Try.f36.body.getD .skip) Try.func36 (by kernel_rfl) (by rfl) (by rfl) hl (by kernel_rfl) co36 h
theorem ct36 {args : List D} {mem : Mem} {nx : Nat} {K : KD} (hl : args.length ≤ 32) (h : (∀ i, nx ≤ i → look mem i = none) → A cf36 ac36 (Kont cf36 (RetC [.c 4 true 2, .t 5] K) []) (env0 [0, 1, 2, 3, 4, 5] args) mem nx) : CallT Try.prog 36 args mem nx K :=
  CallT_of (C := cf36) (c := Try.f36.body.getD .skip) Try.func36 (by kernel_rfl) (by rfl) (by rfl) hl (by kernel_rfl) co36 h
@[simp] theorem cfP36 : cf36.P = Try.prog := (rfl)

/-- fathomref01.Less -/
noncomputable def cf39 : Cfg := ⟨Try.prog, 24, [0, 1, 2, 3, 4], []⟩
noncomputable def ac39 : AC :=
  (.seq (.reg [.mk (.g 2) none (.bxi (.g 0)), .mk (.g 3) none (.bxi (.g 1)), .mk (.g 4) none (.mv (.c (.bool false)))]) (.seq (.reg [.mk (.t 5) none (.fa 0 (.g 2)), .mk (.t 6) none (.ld false 1 (.t 5)), .mk (.t 7) none (.fa 0 (.g 3)), .mk (.t 8) none (.ld false 1 (.t 7)), .mk (.t 9) none (.bin .lss 3 (.t 6) (.t 8)), .mk (.t 10) none (.mv (.t 9)), .mk (.t 11) (some (.t 10, false)) (.fa 0 (.g 2)), .mk (.t 12) (some (.t 10, false)) (.ld false 1 (.t 11)), .mk (.t 13) (some (.t 10, false)) (.fa 0 (.g 3)), .mk (.t 14) (some (.t 10, false)) (.ld false 1 (.t 13)), .mk (.t 15) (some (.t 10, false)) (.bin .eql 3 (.t 12) (.t 14)), .mk (.t 16) (some (.t 10, false)) (.mv (.t 15)), .mk (.t 17) (some (.t 16, true)) (.fa 1 (.g 2)), .mk (.t 18) (some (.t 16, true)) (.ld false 1 (.t 17)), .mk (.t 19) (some (.t 16, true)) (.fa 1 (.g 3)), .mk (.t 20) (some (.t 16, true)) (.ld false 1 (.t 19)), .mk (.t 21) (some (.t 16, true)) (.bin .lss 3 (.t 18) (.t 20)), .mk (.t 22) (some (.t 10, false)) (.pick (.t 16) (.t 21) (.c (.bool false))), .mk (.t 23) none (.pick (.t 10) (.c (.bool true)) (.t 22)), .mk (.g 4) none (.mv (.t 23))]) .ret))
theorem co39 : cf39.comp (Try.f39.body.getD .skip) = some ac39 := by kernel_rfl
theorem pu39 {args : List D} {res : D} (hl : args.length ≤ 24) (h : A cf39 ac39 (Kont cf39 (RetQ [.t 4] res) []) (env0 [0, 1, 2, 3, 4] args) [] 0) : Pure Try.prog 39 args res :=
  Pure_of (C := cf39) (c := Try.f39.body.getD .skip) Try.func39 (by kernel_rfl) (by rfl) (by rfl) hl (by kernel_rfl) co39 h
theorem ct39 {args : List D} {mem : Mem} {nx : Nat} {K : KD} (hl : args.length ≤ 24) (h : (∀ i, nx ≤ i → look mem i = none) → A cf39 ac39 (Kont cf39 (RetC [.t 4] K) []) (env0 [0, 1, 2, 3, 4] args) mem nx) : CallT Try.prog 39 args mem nx K :=
  CallT_of (C := cf39) (c := Try.f39.body.getD .skip) Try.func39 (by kernel_rfl) (by rfl) (by rfl) hl (by kernel_rfl) co39 h
@[simp] theorem cfP39 : cf39.P = Try.prog := (rfl)

/-- (fathomref01.Num).Z -/
noncomputable def cf45 : Cfg := ⟨Try.prog, 10, [0, 1, 2], []⟩
noncomputable def ac45 : AC :=
  (.seq (.reg [.mk (.g 1) none (.bxi (.g 0)), .mk (.g 2) none (.mv (.c (.complex .f64 0 0)))]) (.seq (.reg [.mk (.t 3) none (.fa 0 (.g 1)), .mk (.t 4) none (.ld false 1 (.t 3)), .mk (.t 5) none (.cv 3 62 (.t 4)), .mk (.t 6) none (.fa 1 (.g 1)), .mk (.t 7) none (.ld false 1 (.t 6)), .mk (.t 8) none (.cv 3 62 (.t 7)), .mk (.t 9) none (.bi .complex [.t 5, .t 8]), .mk (.g 2) none (.mv (.t 9))]) .ret))
theorem co45 : cf45.comp (Try.f45.body.getD .skip) = some ac45 := by kernel_rfl
theorem pu45 {args : List D} {res : D} (hl : args.length ≤ 10) (h : A cf45 ac45 (Kont cf45 (RetQ [.t 2] res) []) (env0 [0, 1, 2] args) [] 0) : Pure Try.prog 45 args res :=
  Pure_of (C := cf45) (c := Try.f45.body.getD .skip) Try.func45 (by kernel_rfl) (by rfl) (by rfl) hl (by kernel_rfl) co45 h
theorem ct45 {args : List D} {mem : Mem} {nx : Nat} {K : KD} (hl : args.length ≤ 10) (h : (∀ i, nx ≤ i → look mem i = none) → A cf45 ac45 (Kont cf45 (RetC [.t 2] K) []) (env0 [0, 1, 2] args) mem nx) : CallT Try.prog 45 args mem nx K :=
  CallT_of (C := cf45) (c := Try.f45.body.getD .skip) Try.func45 (by kernel_rfl) (by rfl) (by rfl) hl (by kernel_rfl) co45 h
@[simp] theorem cfP45 : cf45.P = Try.prog := (rfl)
end Go.Fx.Ytaiklblnfebdfaa

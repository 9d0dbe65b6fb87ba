import Derived.Test.YtaiklblnfebdfaaXD
import Derived.Test.YtaiklblnfebdfaaProg
import Derived.KernelRfl
set_option linter.all false
set_option maxRecDepth 1000000
set_option maxHeartbeats 0
namespace Go.Fx.Ytaiklblnfebdfaa
open Go Go.Fx Go.Proofs

/-- math.Mod -/
noncomputable def cf43 : Cfg := ⟨Try.prog, 11, [0, 1, 4], []⟩
noncomputable def ac43 : AC :=
  (.seq (.ifr [.mk (.g 4) none (.mv (.c (.float .f64 0)))] (.c (.bool false)) (.seq (.reg [.mk (.t 5) none (.mv (.g 0)), .mk (.t 6) none (.mv (.g 1)), .mk (.t 7) none (.pc (.f 49) [.t 5, .t 6]), .mk (.g 4) none (.mv (.t 7))]) .ret) .skip) (.seq (.reg [.mk (.t 8) none (.mv (.g 0)), .mk (.t 9) none (.mv (.g 1)), .mk (.t 10) none (.pc (.f 50) [.t 8, .t 9]), .mk (.g 4) none (.mv (.t 10))]) .ret))
theorem co43 : cf43.comp (Try.f43.body.getD .skip) = some ac43 := by kernel_rfl
theorem pu43 {args : List D} {res : D} (hl : args.length ≤ 11) (h : A cf43 ac43 (Kont cf43 (RetQ [.t 4] res) []) (env0 [0, 1, 4] args) [] 0) : Pure Try.prog 43 args res :=
  Pure_of (C := cf43) (c := Try.f43.body.getD .skip) Try.func43 (by kernel_rfl) (by rfl) (by rfl) hl (by kernel_rfl) co43 h
theorem ct43 {args : List D} {mem : Mem} {nx : Nat} {K : KD} (hl : args.length ≤ 11) (h : (∀ i, nx ≤ i → look mem i = none) → A cf43 ac43 (Kont cf43 (RetC [.t 4] K) []) (env0 [0, 1, 4] args) mem nx) : CallT Try.prog 43 args mem nx K :=
  CallT_of (C := cf43) (c := Try.f43.body.getD .skip) Try.func43 (by kernel_rfl) (by rfl) (by rfl) hl (by kernel_rfl) co43 h
@[simp] theorem cfP43 : cf43.P = Try.prog := (rfl)

/-- math.mod -/
noncomputable def cf50 : Cfg := ⟨Try.prog, 62, [0, 1, 4, 5, 6, 7, 8, 9], []⟩
noncomputable def lb50_0 : AC :=
  .seq (.ifr [.mk (.t 37) none (.mv (.g 7)), .mk (.t 38) none (.mv (.g 1)), .mk (.t 39) none (.bin .geq 62 (.t 37) (.t 38))] (.t 39) .skip (.exit 0)) (.block 1 (.seq (.reg [.mk (.t 41) none (.mv (.g 7)), .mk (.t 42) none (.pc (.f 58) [.t 41]), .mk (.t 40) none (.mv (.t 42)), .mk (.t 43) none (.ext 0 (.t 40)), .mk (.t 44) none (.ext 1 (.t 40)), .mk (.g 8) none (.mv (.t 43)), .mk (.g 9) none (.mv (.t 44))]) (.seq (.ifr [.mk (.t 45) none (.mv (.g 8)), .mk (.t 46) none (.mv (.g 5)), .mk (.t 47) none (.bin .lss 62 (.t 45) (.t 46))] (.t 47) (.reg [.mk (.t 48) none (.mv (.g 9)), .mk (.t 49) none (.bin .sub 3 (.t 48) (.c (.int .i64 1))), .mk (.g 9) none (.mv (.t 49))]) .skip) (.reg [.mk (.t 50) none (.mv (.g 7)), .mk (.t 51) none (.mv (.g 1)), .mk (.t 52) none (.mv (.g 9)), .mk (.t 53) none (.mv (.g 6)), .mk (.t 54) none (.bin .sub 3 (.t 52) (.t 53)), .mk (.t 55) none (.pc (.f 59) [.t 51, .t 54]), .mk (.t 56) none (.bin .sub 62 (.t 50) (.t 55)), .mk (.g 7) none (.mv (.t 56))]))))
theorem lp50_0 {α : Type} {Q : Exit → St → Prop} {env : Env} {mem : Mem} {nx : Nat} (V : α → Nat → List (Nat × D)) (M : α → Nat → Mem) (inv : α → Nat → Prop) (μ : α → Nat) (x0 : α) (h0 : inv x0 nx) (he : envLe env (upds (tops [7, 8, 9] env) (V x0 nx))) (hm : memLe mem (M x0 nx))
    (round : ∀ y n, inv y n → A cf50 lb50_0 (Kont cf50 (thenQ (Again cf50 (fun y n => upds (tops [7, 8, 9] env) (V y n)) M inv μ y) Q) []) (upds (tops [7, 8, 9] env) (V y n)) (M y n) n) : A cf50 (.loop lb50_0) Q env mem nx :=
  A_loop_of (fun y n => upds (tops [7, 8, 9] env) (V y n)) M inv μ x0 h0 he hm round
noncomputable def ac50 : AC :=
  (.seq (.reg [.mk (.g 4) none (.mv (.c (.float .f64 0)))]) (.seq (.ifr [.mk (.t 10) none (.mv (.g 1)), .mk (.t 11) none (.bin .eql 62 (.t 10) (.c (.float .f64 0))), .mk (.t 12) none (.mv (.t 11)), .mk (.t 13) (some (.t 12, false)) (.mv (.g 0)), .mk (.t 14) (some (.t 12, false)) (.pc (.f 54) [.t 13, .c (.int .i64 0)]), .mk (.t 15) none (.pick (.t 12) (.c (.bool true)) (.t 14)), .mk (.t 16) none (.mv (.t 15)), .mk (.t 17) (some (.t 16, false)) (.mv (.g 0)), .mk (.t 18) (some (.t 16, false)) (.pc (.f 55) [.t 17]), .mk (.t 19) none (.pick (.t 16) (.c (.bool true)) (.t 18)), .mk (.t 20) none (.mv (.t 19)), .mk (.t 21) (some (.t 20, false)) (.mv (.g 1)), .mk (.t 22) (some (.t 20, false)) (.pc (.f 55) [.t 21]), .mk (.t 23) none (.pick (.t 20) (.c (.bool true)) (.t 22))] (.t 23) (.seq (.reg [.mk (.t 24) none (.pc (.f 56) []), .mk (.g 4) none (.mv (.t 24))]) .ret) .skip) (.seq (.reg [.mk (.t 25) none (.mv (.g 1)), .mk (.t 26) none (.pc (.f 57) [.t 25]), .mk (.g 1) none (.mv (.t 26))]) (.seq (.reg [.mk (.t 28) none (.mv (.g 1)), .mk (.t 29) none (.pc (.f 58) [.t 28]), .mk (.t 27) none (.mv (.t 29)), .mk (.t 30) none (.ext 0 (.t 27)), .mk (.t 31) none (.ext 1 (.t 27)), .mk (.g 5) none (.mv (.t 30)), .mk (.g 6) none (.mv (.t 31))]) (.seq (.reg [.mk (.t 32) none (.mv (.g 0)), .mk (.g 7) none (.mv (.t 32))]) (.seq (.ifr [.mk (.t 33) none (.mv (.g 0)), .mk (.t 34) none (.bin .lss 62 (.t 33) (.c (.float .f64 0)))] (.t 34) (.reg [.mk (.t 35) none (.mv (.g 0)), .mk (.t 36) none (.un .neg (.t 35)), .mk (.g 7) none (.mv (.t 36))]) .skip) (.seq (.block 0 (.loop lb50_0)) (.seq (.ifr [.mk (.t 57) none (.mv (.g 0)), .mk (.t 58) none (.bin .lss 62 (.t 57) (.c (.float .f64 0)))] (.t 58) (.reg [.mk (.t 59) none (.mv (.g 7)), .mk (.t 60) none (.un .neg (.t 59)), .mk (.g 7) none (.mv (.t 60))]) .skip) (.seq (.reg [.mk (.t 61) none (.mv (.g 7)), .mk (.g 4) none (.mv (.t 61))]) .ret)))))))))
theorem co50 : cf50.comp (Try.f50.body.getD .skip) = some ac50 := by kernel_rfl
theorem pu50 {args : List D} {res : D} (hl : args.length ≤ 62) (h : A cf50 ac50 (Kont cf50 (RetQ [.t 4] res) []) (env0 [0, 1, 4, 5, 6, 7, 8, 9] args) [] 0) : Pure Try.prog 50 args res :=
  Pure_of (C := cf50) (c := Try.f50.body.getD .skip) Try.func50 (by kernel_rfl) (by rfl) (by rfl) hl (by kernel_rfl) co50 h
theorem ct50 {args : List D} {mem : Mem} {nx : Nat} {K : KD} (hl : args.length ≤ 62) (h : (∀ i, nx ≤ i → look mem i = none) → A cf50 ac50 (Kont cf50 (RetC [.t 4] K) []) (env0 [0, 1, 4, 5, 6, 7, 8, 9] args) mem nx) : CallT Try.prog 50 args mem nx K :=
  CallT_of (C := cf50) (c := Try.f50.body.getD .skip) Try.func50 (by kernel_rfl) (by rfl) (by rfl) hl (by kernel_rfl) co50 h
@[simp] theorem cfP50 : cf50.P = Try.prog := (rfl)

/-- math.Frexp -/
noncomputable def cf58 : Cfg := ⟨Try.prog, 12, [0, 2, 3], []⟩
noncomputable def ac58 : AC :=
  (.seq (.ifr [.mk (.g 2) none (.mv (.c (.float .f64 0))), .mk (.g 3) none (.mv (.c (.int .i64 0)))] (.c (.bool false)) (.seq (.reg [.mk (.t 4) none (.mv (.g 0)), .mk (.t 5) none (.pc (.f 61) [.t 4]), .mk (.t 6) none (.ext 0 (.t 5)), .mk (.t 7) none (.ext 1 (.t 5)), .mk (.g 2) none (.mv (.t 6)), .mk (.g 3) none (.mv (.t 7))]) .ret) .skip) (.seq (.reg [.mk (.t 8) none (.mv (.g 0)), .mk (.t 9) none (.pc (.f 62) [.t 8]), .mk (.t 10) none (.ext 0 (.t 9)), .mk (.t 11) none (.ext 1 (.t 9)), .mk (.g 2) none (.mv (.t 10)), .mk (.g 3) none (.mv (.t 11))]) .ret))
theorem co58 : cf58.comp (Try.f58.body.getD .skip) = some ac58 := by kernel_rfl
theorem pu58 {args : List D} {res : D} (hl : args.length ≤ 12) (h : A cf58 ac58 (Kont cf58 (RetQ [.t 2, .t 3] res) []) (env0 [0, 2, 3] args) [] 0) : Pure Try.prog 58 args res :=
  Pure_of (C := cf58) (c := Try.f58.body.getD .skip) Try.func58 (by kernel_rfl) (by rfl) (by rfl) hl (by kernel_rfl) co58 h
theorem ct58 {args : List D} {mem : Mem} {nx : Nat} {K : KD} (hl : args.length ≤ 12) (h : (∀ i, nx ≤ i → look mem i = none) → A cf58 ac58 (Kont cf58 (RetC [.t 2, .t 3] K) []) (env0 [0, 2, 3] args) mem nx) : CallT Try.prog 58 args mem nx K :=
  CallT_of (C := cf58) (c := Try.f58.body.getD .skip) Try.func58 (by kernel_rfl) (by rfl) (by rfl) hl (by kernel_rfl) co58 h
@[simp] theorem cfP58 : cf58.P = Try.prog := (rfl)

/-- math.frexp -/
noncomputable def cf62 : Cfg := ⟨Try.prog, 38, [0, 2, 3, 4], []⟩
noncomputable def ac62 : AC :=
  (.seq (.reg [.mk (.g 2) none (.mv (.c (.float .f64 0))), .mk (.g 3) none (.mv (.c (.int .i64 0)))]) (.seq (.block 0 (.ifr [.mk (.t 6) none (.mv (.g 0)), .mk (.t 7) none (.bin .eql 62 (.t 6) (.c (.float .f64 0))), .mk (.t 5) none (.mv (.t 7))] (.t 5) (.seq (.reg [.mk (.t 8) none (.mv (.g 0)), .mk (.g 2) none (.mv (.t 8)), .mk (.g 3) none (.mv (.c (.int .i64 0)))]) .ret) (.ifr [.mk (.t 10) none (.mv (.g 0)), .mk (.t 11) none (.pc (.f 54) [.t 10, .c (.int .i64 0)]), .mk (.t 12) none (.mv (.t 11)), .mk (.t 13) (some (.t 12, false)) (.mv (.g 0)), .mk (.t 14) (some (.t 12, false)) (.pc (.f 55) [.t 13]), .mk (.t 15) none (.pick (.t 12) (.c (.bool true)) (.t 14)), .mk (.t 9) none (.mv (.t 15))] (.t 9) (.seq (.reg [.mk (.t 16) none (.mv (.g 0)), .mk (.g 2) none (.mv (.t 16)), .mk (.g 3) none (.mv (.c (.int .i64 0)))]) .ret) .skip))) (.seq (.reg [.mk (.t 18) none (.mv (.g 0)), .mk (.t 19) none (.pc (.f 65) [.t 18]), .mk (.t 17) none (.mv (.t 19)), .mk (.t 20) none (.ext 0 (.t 17)), .mk (.t 21) none (.ext 1 (.t 17)), .mk (.g 0) none (.mv (.t 20)), .mk (.g 3) none (.mv (.t 21))]) (.seq (.reg [.mk (.t 22) none (.mv (.g 0)), .mk (.t 23) none (.pc (.f 51) [.t 22]), .mk (.g 4) none (.mv (.t 23))]) (.seq (.reg [.mk (.t 24) none (.mv (.g 3)), .mk (.t 25) none (.mv (.g 4)), .mk (.t 26) none (.bin .shr 75 (.t 25) (.c (.int .u64 52))), .mk (.t 27) none (.bin .and 75 (.t 26) (.c (.int .u64 2047))), .mk (.t 28) none (.cv 75 3 (.t 27)), .mk (.t 29) none (.bin .sub 3 (.t 28) (.c (.int .i64 1023))), .mk (.t 30) none (.bin .add 3 (.t 29) (.c (.int .i64 1))), .mk (.t 31) none (.bin .add 3 (.t 24) (.t 30)), .mk (.g 3) none (.mv (.t 31))]) (.seq (.reg [.mk (.t 32) none (.mv (.g 4)), .mk (.t 33) none (.bin .andNot 75 (.t 32) (.c (.int .u64 9218868437227405312))), .mk (.g 4) none (.mv (.t 33))]) (.seq (.reg [.mk (.t 34) none (.mv (.g 4)), .mk (.t 35) none (.bin .or 75 (.t 34) (.c (.int .u64 4602678819172646912))), .mk (.g 4) none (.mv (.t 35))]) (.seq (.reg [.mk (.t 36) none (.mv (.g 4)), .mk (.t 37) none (.pc (.f 40) [.t 36]), .mk (.g 2) none (.mv (.t 37))]) .ret))))))))
theorem co62 : cf62.comp (Try.f62.body.getD .skip) = some ac62 := by kernel_rfl
theorem pu62 {args : List D} {res : D} (hl : args.length ≤ 38) (h : A cf62 ac62 (Kont cf62 (RetQ [.t 2, .t 3] res) []) (env0 [0, 2, 3, 4] args) [] 0) : Pure Try.prog 62 args res :=
  Pure_of (C := cf62) (c := Try.f62.body.getD .skip) Try.func62 (by kernel_rfl) (by rfl) (by rfl) hl (by kernel_rfl) co62 h
theorem ct62 {args : List D} {mem : Mem} {nx : Nat} {K : KD} (hl : args.length ≤ 38) (h : (∀ i, nx ≤ i → look mem i = none) → A cf62 ac62 (Kont cf62 (RetC [.t 2, .t 3] K) []) (env0 [0, 2, 3, 4] args) mem nx) : CallT Try.prog 62 args mem nx K :=
  CallT_of (C := cf62) (c := Try.f62.body.getD .skip) Try.func62 (by kernel_rfl) (by rfl) (by rfl) hl (by kernel_rfl) co62 h
@[simp] theorem cfP62 : cf62.P = Try.prog := (rfl)

/-- math.Ldexp -/
noncomputable def cf59 : Cfg := ⟨Try.prog, 11, [0, 1, 4], []⟩
noncomputable def ac59 : AC :=
  (.seq (.ifr [.mk (.g 4) none (.mv (.c (.float .f64 0)))] (.c (.bool false)) (.seq (.reg [.mk (.t 5) none (.mv (.g 0)), .mk (.t 6) none (.mv (.g 1)), .mk (.t 7) none (.pc (.f 63) [.t 5, .t 6]), .mk (.g 4) none (.mv (.t 7))]) .ret) .skip) (.seq (.reg [.mk (.t 8) none (.mv (.g 0)), .mk (.t 9) none (.mv (.g 1)), .mk (.t 10) none (.pc (.f 64) [.t 8, .t 9]), .mk (.g 4) none (.mv (.t 10))]) .ret))
theorem co59 : cf59.comp (Try.f59.body.getD .skip) = some ac59 := by kernel_rfl
theorem pu59 {args : List D} {res : D} (hl : args.length ≤ 11) (h : A cf59 ac59 (Kont cf59 (RetQ [.t 4] res) []) (env0 [0, 1, 4] args) [] 0) : Pure Try.prog 59 args res :=
  Pure_of (C := cf59) (c := Try.f59.body.getD .skip) Try.func59 (by kernel_rfl) (by rfl) (by rfl) hl (by kernel_rfl) co59 h
theorem ct59 {args : List D} {mem : Mem} {nx : Nat} {K : KD} (hl : args.length ≤ 11) (h : (∀ i, nx ≤ i → look mem i = none) → A cf59 ac59 (Kont cf59 (RetC [.t 4] K) []) (env0 [0, 1, 4] args) mem nx) : CallT Try.prog 59 args mem nx K :=
  CallT_of (C := cf59) (c := Try.f59.body.getD .skip) Try.func59 (by kernel_rfl) (by rfl) (by rfl) hl (by kernel_rfl) co59 h
@[simp] theorem cfP59 : cf59.P = Try.prog := (rfl)

/-- math.ldexp -/
noncomputable def cf64 : Cfg := ⟨Try.prog, 63, [0, 1, 4, 5, 6, 7], []⟩
noncomputable def ac64 : AC :=
  (.seq (.reg [.mk (.g 4) none (.mv (.c (.float .f64 0)))]) (.seq (.block 0 (.ifr [.mk (.t 9) none (.mv (.g 0)), .mk (.t 10) none (.bin .eql 62 (.t 9) (.c (.float .f64 0))), .mk (.t 8) none (.mv (.t 10))] (.t 8) (.seq (.reg [.mk (.t 11) none (.mv (.g 0)), .mk (.g 4) none (.mv (.t 11))]) .ret) (.ifr [.mk (.t 13) none (.mv (.g 0)), .mk (.t 14) none (.pc (.f 54) [.t 13, .c (.int .i64 0)]), .mk (.t 15) none (.mv (.t 14)), .mk (.t 16) (some (.t 15, false)) (.mv (.g 0)), .mk (.t 17) (some (.t 15, false)) (.pc (.f 55) [.t 16]), .mk (.t 18) none (.pick (.t 15) (.c (.bool true)) (.t 17)), .mk (.t 12) none (.mv (.t 18))] (.t 12) (.seq (.reg [.mk (.t 19) none (.mv (.g 0)), .mk (.g 4) none (.mv (.t 19))]) .ret) .skip))) (.seq (.reg [.mk (.t 21) none (.mv (.g 0)), .mk (.t 22) none (.pc (.f 65) [.t 21]), .mk (.t 20) none (.mv (.t 22)), .mk (.t 23) none (.ext 0 (.t 20)), .mk (.t 24) none (.ext 1 (.t 20)), .mk (.g 0) none (.mv (.t 23)), .mk (.g 5) none (.mv (.t 24))]) (.seq (.reg [.mk (.t 25) none (.mv (.g 1)), .mk (.t 26) none (.mv (.g 5)), .mk (.t 27) none (.bin .add 3 (.t 25) (.t 26)), .mk (.g 1) none (.mv (.t 27))]) (.seq (.reg [.mk (.t 28) none (.mv (.g 0)), .mk (.t 29) none (.pc (.f 51) [.t 28]), .mk (.g 6) none (.mv (.t 29))]) (.seq (.reg [.mk (.t 30) none (.mv (.g 1)), .mk (.t 31) none (.mv (.g 6)), .mk (.t 32) none (.bin .shr 75 (.t 31) (.c (.int .u64 52))), .mk (.t 33) none (.cv 75 3 (.t 32)), .mk (.t 34) none (.bin .and 3 (.t 33) (.c (.int .i64 2047))), .mk (.t 35) none (.bin .sub 3 (.t 34) (.c (.int .i64 1023))), .mk (.t 36) none (.bin .add 3 (.t 30) (.t 35)), .mk (.g 1) none (.mv (.t 36))]) (.seq (.ifr [.mk (.t 37) none (.mv (.g 1)), .mk (.t 38) none (.bin .lss 3 (.t 37) (.c (.int .i64 (-1075))))] (.t 38) (.seq (.reg [.mk (.t 39) none (.mv (.g 0)), .mk (.t 40) none (.pc (.f 60) [.c (.float .f64 0), .t 39]), .mk (.g 4) none (.mv (.t 40))]) .ret) .skip) (.seq (.ifr [.mk (.t 41) none (.mv (.g 1)), .mk (.t 42) none (.bin .gtr 3 (.t 41) (.c (.int .i64 1023)))] (.t 42) (.seq (.ifr [.mk (.t 43) none (.mv (.g 0)), .mk (.t 44) none (.bin .lss 62 (.t 43) (.c (.float .f64 0)))] (.t 44) (.seq (.reg [.mk (.t 45) none (.pc (.f 66) [.c (.int .i64 (-1))]), .mk (.g 4) none (.mv (.t 45))]) .ret) .skip) (.seq (.reg [.mk (.t 46) none (.pc (.f 66) [.c (.int .i64 1)]), .mk (.g 4) none (.mv (.t 46))]) .ret)) .skip) (.seq (.reg [.mk (.g 7) none (.mv (.c (.float .f64 4607182418800017408)))]) (.seq (.ifr [.mk (.t 47) none (.mv (.g 1)), .mk (.t 48) none (.bin .lss 3 (.t 47) (.c (.int .i64 (-1022))))] (.t 48) (.seq (.reg [.mk (.t 49) none (.mv (.g 1)), .mk (.t 50) none (.bin .add 3 (.t 49) (.c (.int .i64 53))), .mk (.g 1) none (.mv (.t 50))]) (.reg [.mk (.g 7) none (.mv (.c (.float .f64 4368491638549381120)))])) .skip) (.seq (.reg [.mk (.t 51) none (.mv (.g 6)), .mk (.t 52) none (.bin .andNot 75 (.t 51) (.c (.int .u64 9218868437227405312))), .mk (.g 6) none (.mv (.t 52))]) (.seq (.reg [.mk (.t 53) none (.mv (.g 6)), .mk (.t 54) none (.mv (.g 1)), .mk (.t 55) none (.bin .add 3 (.t 54) (.c (.int .i64 1023))), .mk (.t 56) none (.cv 3 75 (.t 55)), .mk (.t 57) none (.bin .shl 75 (.t 56) (.c (.int .u64 52))), .mk (.t 58) none (.bin .or 75 (.t 53) (.t 57)), .mk (.g 6) none (.mv (.t 58))]) (.seq (.reg [.mk (.t 59) none (.mv (.g 7)), .mk (.t 60) none (.mv (.g 6)), .mk (.t 61) none (.pc (.f 40) [.t 60]), .mk (.t 62) none (.bin .mul 62 (.t 59) (.t 61)), .mk (.g 4) none (.mv (.t 62))]) .ret)))))))))))))
theorem co64 : cf64.comp (Try.f64.body.getD .skip) = some ac64 := by kernel_rfl
theorem pu64 {args : List D} {res : D} (hl : args.length ≤ 63) (h : A cf64 ac64 (Kont cf64 (RetQ [.t 4] res) []) (env0 [0, 1, 4, 5, 6, 7] args) [] 0) : Pure Try.prog 64 args res :=
  Pure_of (C := cf64) (c := Try.f64.body.getD .skip) Try.func64 (by kernel_rfl) (by rfl) (by rfl) hl (by kernel_rfl) co64 h
theorem ct64 {args : List D} {mem : Mem} {nx : Nat} {K : KD} (hl : args.length ≤ 63) (h : (∀ i, nx ≤ i → look mem i = none) → A cf64 ac64 (Kont cf64 (RetC [.t 4] K) []) (env0 [0, 1, 4, 5, 6, 7] args) mem nx) : CallT Try.prog 64 args mem nx K :=
  CallT_of (C := cf64) (c := Try.f64.body.getD .skip) Try.func64 (by kernel_rfl) (by rfl) (by rfl) hl (by kernel_rfl) co64 h
@[simp] theorem cfP64 : cf64.P = Try.prog := (rfl)

/-- math.normalize -/
noncomputable def cf65 : Cfg := ⟨Try.prog, 10, [0, 2, 3], []⟩
noncomputable def ac65 : AC :=
  (.seq (.reg [.mk (.g 2) none (.mv (.c (.float .f64 0))), .mk (.g 3) none (.mv (.c (.int .i64 0)))]) (.seq (.ifr [.mk (.t 4) none (.mv (.g 0)), .mk (.t 5) none (.pc (.f 57) [.t 4]), .mk (.t 6) none (.bin .lss 62 (.t 5) (.c (.float .f64 4503599627370496)))] (.t 6) (.seq (.reg [.mk (.t 7) none (.mv (.g 0)), .mk (.t 8) none (.bin .mul 62 (.t 7) (.c (.float .f64 4841369599423283200))), .mk (.g 2) none (.mv (.t 8)), .mk (.g 3) none (.mv (.c (.int .i64 (-52))))]) .ret) .skip) (.seq (.reg [.mk (.t 9) none (.mv (.g 0)), .mk (.g 2) none (.mv (.t 9)), .mk (.g 3) none (.mv (.c (.int .i64 0)))]) .ret)))
theorem co65 : cf65.comp (Try.f65.body.getD .skip) = some ac65 := by kernel_rfl
theorem pu65 {args : List D} {res : D} (hl : args.length ≤ 10) (h : A cf65 ac65 (Kont cf65 (RetQ [.t 2, .t 3] res) []) (env0 [0, 2, 3] args) [] 0) : Pure Try.prog 65 args res :=
  Pure_of (C := cf65) (c := Try.f65.body.getD .skip) Try.func65 (by kernel_rfl) (by rfl) (by rfl) hl (by kernel_rfl) co65 h
theorem ct65 {args : List D} {mem : Mem} {nx : Nat} {K : KD} (hl : args.length ≤ 10) (h : (∀ i, nx ≤ i → look mem i = none) → A cf65 ac65 (Kont cf65 (RetC [.t 2, .t 3] K) []) (env0 [0, 2, 3] args) mem nx) : CallT Try.prog 65 args mem nx K :=
  CallT_of (C := cf65) (c := Try.f65.body.getD .skip) Try.func65 (by kernel_rfl) (by rfl) (by rfl) hl (by kernel_rfl) co65 h
@[simp] theorem cfP65 : cf65.P = Try.prog := (rfl)

/-- math.Abs -/
noncomputable def cf57 : Cfg := ⟨Try.prog, 7, [0, 2], []⟩
noncomputable def ac57 : AC :=
  (.seq (.reg [.mk (.g 2) none (.mv (.c (.float .f64 0)))]) (.seq (.reg [.mk (.t 3) none (.mv (.g 0)), .mk (.t 4) none (.pc (.f 51) [.t 3]), .mk (.t 5) none (.bin .andNot 75 (.t 4) (.c (.int .u64 9223372036854775808))), .mk (.t 6) none (.pc (.f 40) [.t 5]), .mk (.g 2) none (.mv (.t 6))]) .ret))
theorem co57 : cf57.comp (Try.f57.body.getD .skip) = some ac57 := by kernel_rfl
theorem pu57 {args : List D} {res : D} (hl : args.length ≤ 7) (h : A cf57 ac57 (Kont cf57 (RetQ [.t 2] res) []) (env0 [0, 2] args) [] 0) : Pure Try.prog 57 args res :=
  Pure_of (C := cf57) (c := Try.f57.body.getD .skip) Try.func57 (by kernel_rfl) (by rfl) (by rfl) hl (by kernel_rfl) co57 h
theorem ct57 {args : List D} {mem : Mem} {nx : Nat} {K : KD} (hl : args.length ≤ 7) (h : (∀ i, nx ≤ i → look mem i = none) → A cf57 ac57 (Kont cf57 (RetC [.t 2] K) []) (env0 [0, 2] args) mem nx) : CallT Try.prog 57 args mem nx K :=
  CallT_of (C := cf57) (c := Try.f57.body.getD .skip) Try.func57 (by kernel_rfl) (by rfl) (by rfl) hl (by kernel_rfl) co57 h
@[simp] theorem cfP57 : cf57.P = Try.prog := (rfl)

/-- math.IsInf -/
noncomputable def cf54 : Cfg := ⟨Try.prog, 15, [0, 1, 4], []⟩
noncomputable def ac54 : AC :=
  (.seq (.reg [.mk (.g 4) none (.mv (.c (.bool false)))]) (.seq (.ifr [.mk (.t 5) none (.mv (.g 1)), .mk (.t 6) none (.bin .eql 3 (.t 5) (.c (.int .i64 0)))] (.t 6) (.reg [.mk (.t 7) none (.mv (.g 0)), .mk (.t 8) none (.pc (.f 57) [.t 7]), .mk (.g 0) none (.mv (.t 8))]) (.ifr [.mk (.t 9) none (.mv (.g 1)), .mk (.t 10) none (.bin .lss 3 (.t 9) (.c (.int .i64 0)))] (.t 10) (.reg [.mk (.t 11) none (.mv (.g 0)), .mk (.t 12) none (.un .neg (.t 11)), .mk (.g 0) none (.mv (.t 12))]) .skip)) (.seq (.reg [.mk (.t 13) none (.mv (.g 0)), .mk (.t 14) none (.bin .gtr 62 (.t 13) (.c (.float .f64 9218868437227405311))), .mk (.g 4) none (.mv (.t 14))]) .ret)))
theorem co54 : cf54.comp (Try.f54.body.getD .skip) = some ac54 := by kernel_rfl
theorem pu54 {args : List D} {res : D} (hl : args.length ≤ 15) (h : A cf54 ac54 (Kont cf54 (RetQ [.t 4] res) []) (env0 [0, 1, 4] args) [] 0) : Pure Try.prog 54 args res :=
  Pure_of (C := cf54) (c := Try.f54.body.getD .skip) Try.func54 (by kernel_rfl) (by rfl) (by rfl) hl (by kernel_rfl) co54 h
theorem ct54 {args : List D} {mem : Mem} {nx : Nat} {K : KD} (hl : args.length ≤ 15) (h : (∀ i, nx ≤ i → look mem i = none) → A cf54 ac54 (Kont cf54 (RetC [.t 4] K) []) (env0 [0, 1, 4] args) mem nx) : CallT Try.prog 54 args mem nx K :=
  CallT_of (C := cf54) (c := Try.f54.body.getD .skip) Try.func54 (by kernel_rfl) (by rfl) (by rfl) hl (by kernel_rfl) co54 h
@[simp] theorem cfP54 : cf54.P = Try.prog := (rfl)

/-- math.IsNaN -/
noncomputable def cf55 : Cfg := ⟨Try.prog, 6, [0, 2], []⟩
noncomputable def ac55 : AC :=
  (.seq (.reg [.mk (.g 2) none (.mv (.c (.bool false)))]) (.seq (.reg [.mk (.t 3) none (.mv (.g 0)), .mk (.t 4) none (.mv (.g 0)), .mk (.t 5) none (.bin .neq 62 (.t 3) (.t 4)), .mk (.g 2) none (.mv (.t 5))]) .ret))
theorem co55 : cf55.comp (Try.f55.body.getD .skip) = some ac55 := by kernel_rfl
theorem pu55 {args : List D} {res : D} (hl : args.length ≤ 6) (h : A cf55 ac55 (Kont cf55 (RetQ [.t 2] res) []) (env0 [0, 2] args) [] 0) : Pure Try.prog 55 args res :=
  Pure_of (C := cf55) (c := Try.f55.body.getD .skip) Try.func55 (by kernel_rfl) (by rfl) (by rfl) hl (by kernel_rfl) co55 h
theorem ct55 {args : List D} {mem : Mem} {nx : Nat} {K : KD} (hl : args.length ≤ 6) (h : (∀ i, nx ≤ i → look mem i = none) → A cf55 ac55 (Kont cf55 (RetC [.t 2] K) []) (env0 [0, 2] args) mem nx) : CallT Try.prog 55 args mem nx K :=
  CallT_of (C := cf55) (c := Try.f55.body.getD .skip) Try.func55 (by kernel_rfl) (by rfl) (by rfl) hl (by kernel_rfl) co55 h
@[simp] theorem cfP55 : cf55.P = Try.prog := (rfl)

/-- math.NaN -/
noncomputable def cf56 : Cfg := ⟨Try.prog, 2, [0], []⟩
noncomputable def ac56 : AC :=
  (.seq (.reg [.mk (.g 0) none (.mv (.c (.float .f64 0)))]) (.seq (.reg [.mk (.t 1) none (.pc (.f 40) [.c (.int .u64 9221120237041090561)]), .mk (.g 0) none (.mv (.t 1))]) .ret))
theorem co56 : cf56.comp (Try.f56.body.getD .skip) = some ac56 := by kernel_rfl
theorem pu56 {args : List D} {res : D} (hl : args.length ≤ 2) (h : A cf56 ac56 (Kont cf56 (RetQ [.t 0] res) []) (env0 [0] args) [] 0) : Pure Try.prog 56 args res :=
  Pure_of (C := cf56) (c := Try.f56.body.getD .skip) Try.func56 (by kernel_rfl) (by rfl) (by rfl) hl (by kernel_rfl) co56 h
theorem ct56 {args : List D} {mem : Mem} {nx : Nat} {K : KD} (hl : args.length ≤ 2) (h : (∀ i, nx ≤ i → look mem i = none) → A cf56 ac56 (Kont cf56 (RetC [.t 0] K) []) (env0 [0] args) mem nx) : CallT Try.prog 56 args mem nx K :=
  CallT_of (C := cf56) (c := Try.f56.body.getD .skip) Try.func56 (by kernel_rfl) (by rfl) (by rfl) hl (by kernel_rfl) co56 h
@[simp] theorem cfP56 : cf56.P = Try.prog := (rfl)

/-- math.Inf -/
noncomputable def cf66 : Cfg := ⟨Try.prog, 8, [0, 2, 3], []⟩
noncomputable def ac66 : AC :=
  (.seq (.reg [.mk (.g 2) none (.mv (.c (.float .f64 0)))]) (.seq (.reg [.mk (.g 3) none (.mv (.c (.int .u64 0)))]) (.seq (.ifr [.mk (.t 4) none (.mv (.g 0)), .mk (.t 5) none (.bin .geq 3 (.t 4) (.c (.int .i64 0)))] (.t 5) (.reg [.mk (.g 3) none (.mv (.c (.int .u64 9218868437227405312)))]) (.reg [.mk (.g 3) none (.mv (.c (.int .u64 18442240474082181120)))])) (.seq (.reg [.mk (.t 6) none (.mv (.g 3)), .mk (.t 7) none (.pc (.f 40) [.t 6]), .mk (.g 2) none (.mv (.t 7))]) .ret))))
theorem co66 : cf66.comp (Try.f66.body.getD .skip) = some ac66 := by kernel_rfl
theorem pu66 {args : List D} {res : D} (hl : args.length ≤ 8) (h : A cf66 ac66 (Kont cf66 (RetQ [.t 2] res) []) (env0 [0, 2, 3] args) [] 0) : Pure Try.prog 66 args res :=
  Pure_of (C := cf66) (c := Try.f66.body.getD .skip) Try.func66 (by kernel_rfl) (by rfl) (by rfl) hl (by kernel_rfl) co66 h
theorem ct66 {args : List D} {mem : Mem} {nx : Nat} {K : KD} (hl : args.length ≤ 8) (h : (∀ i, nx ≤ i → look mem i = none) → A cf66 ac66 (Kont cf66 (RetC [.t 2] K) []) (env0 [0, 2, 3] args) mem nx) : CallT Try.prog 66 args mem nx K :=
  CallT_of (C := cf66) (c := Try.f66.body.getD .skip) Try.func66 (by kernel_rfl) (by rfl) (by rfl) hl (by kernel_rfl) co66 h
@[simp] theorem cfP66 : cf66.P = Try.prog := (rfl)

/-- math.Copysign -/
noncomputable def cf60 : Cfg := ⟨Try.prog, 13, [0, 1, 4], []⟩
noncomputable def ac60 : AC :=
  (.seq (.reg [.mk (.g 4) none (.mv (.c (.float .f64 0)))]) (.seq (.reg [.mk (.t 5) none (.mv (.g 0)), .mk (.t 6) none (.pc (.f 51) [.t 5]), .mk (.t 7) none (.bin .andNot 75 (.t 6) (.c (.int .u64 9223372036854775808))), .mk (.t 8) none (.mv (.g 1)), .mk (.t 9) none (.pc (.f 51) [.t 8]), .mk (.t 10) none (.bin .and 75 (.t 9) (.c (.int .u64 9223372036854775808))), .mk (.t 11) none (.bin .or 75 (.t 7) (.t 10)), .mk (.t 12) none (.pc (.f 40) [.t 11]), .mk (.g 4) none (.mv (.t 12))]) .ret))
theorem co60 : cf60.comp (Try.f60.body.getD .skip) = some ac60 := by kernel_rfl
theorem pu60 {args : List D} {res : D} (hl : args.length ≤ 13) (h : A cf60 ac60 (Kont cf60 (RetQ [.t 4] res) []) (env0 [0, 1, 4] args) [] 0) : Pure Try.prog 60 args res :=
  Pure_of (C := cf60) (c := Try.f60.body.getD .skip) Try.func60 (by kernel_rfl) (by rfl) (by rfl) hl (by kernel_rfl) co60 h
theorem ct60 {args : List D} {mem : Mem} {nx : Nat} {K : KD} (hl : args.length ≤ 13) (h : (∀ i, nx ≤ i → look mem i = none) → A cf60 ac60 (Kont cf60 (RetC [.t 4] K) []) (env0 [0, 1, 4] args) mem nx) : CallT Try.prog 60 args mem nx K :=
  CallT_of (C := cf60) (c := Try.f60.body.getD .skip) Try.func60 (by kernel_rfl) (by rfl) (by rfl) hl (by kernel_rfl) co60 h
@[simp] theorem cfP60 : cf60.P = Try.prog := (rfl)

/-- gauss.Quo -/
noncomputable def cf25 : Cfg := ⟨Try.prog, 58, [0, 1, 4, 5, 6, 7, 8], []⟩
noncomputable def ac25 : AC :=
  (.seq (.reg [.mk (.g 4) none (.mv (.c (.complex .f64 0 0))), .mk (.g 5) none (.mv (.c (.int .i64 0)))]) (.seq (.block 0 (.ifr [.mk (.t 10) none (.mv (.g 0)), .mk (.t 11) none (.pc (.f 21) [.t 10]), .mk (.t 12) none (.un .not (.t 11)), .mk (.t 13) none (.mv (.t 12)), .mk (.t 14) (some (.t 13, false)) (.mv (.g 1)), .mk (.t 15) (some (.t 13, false)) (.pc (.f 21) [.t 14]), .mk (.t 16) (some (.t 13, false)) (.un .not (.t 15)), .mk (.t 17) none (.pick (.t 13) (.c (.bool true)) (.t 16)), .mk (.t 9) none (.mv (.t 17))] (.t 9) (.seq (.reg [.mk (.g 4) none (.mv (.c (.complex .f64 0 0))), .mk (.g 5) none (.mv (.c (.int .i64 3)))]) .ret) (.ifr [.mk (.t 19) none (.mv (.g 1)), .mk (.t 20) none (.bin .eql 29 (.t 19) (.c (.complex .f64 0 0))), .mk (.t 18) none (.mv (.t 20))] (.t 18) (.seq (.reg [.mk (.g 4) none (.mv (.c (.complex .f64 0 0))), .mk (.g 5) none (.mv (.c (.int .i64 51)))]) .ret) .skip))) (.seq (.reg [.mk (.t 21) none (.mv (.g 1)), .mk (.t 22) none (.bi .real [.t 21]), .mk (.t 23) none (.mv (.g 1)), .mk (.t 24) none (.bi .imag [.t 23]), .mk (.t 25) none (.un .neg (.t 24)), .mk (.t 26) none (.bi .complex [.t 22, .t 25]), .mk (.g 6) none (.mv (.t 26))]) (.seq (.reg [.mk (.t 27) none (.mv (.g 0)), .mk (.t 28) none (.mv (.g 6)), .mk (.t 29) none (.bin .mul 29 (.t 27) (.t 28)), .mk (.t 30) none (.mv (.g 1)), .mk (.t 31) none (.mv (.g 6)), .mk (.t 32) none (.bin .mul 29 (.t 30) (.t 31)), .mk (.t 33) none (.bi .real [.t 32]), .mk (.g 7) none (.mv (.t 29)), .mk (.g 8) none (.mv (.t 33))]) (.seq (.ifr [.mk (.t 34) none (.mv (.g 7)), .mk (.t 35) none (.bi .real [.t 34]), .mk (.t 36) none (.mv (.g 8)), .mk (.t 37) none (.pc (.f 43) [.t 35, .t 36]), .mk (.t 38) none (.bin .neq 62 (.t 37) (.c (.float .f64 0))), .mk (.t 39) none (.mv (.t 38)), .mk (.t 40) (some (.t 39, false)) (.mv (.g 7)), .mk (.t 41) (some (.t 39, false)) (.bi .imag [.t 40]), .mk (.t 42) (some (.t 39, false)) (.mv (.g 8)), .mk (.t 43) (some (.t 39, false)) (.pc (.f 43) [.t 41, .t 42]), .mk (.t 44) (some (.t 39, false)) (.bin .neq 62 (.t 43) (.c (.float .f64 0))), .mk (.t 45) none (.pick (.t 39) (.c (.bool true)) (.t 44))] (.t 45) (.seq (.reg [.mk (.g 4) none (.mv (.c (.complex .f64 0 0))), .mk (.g 5) none (.mv (.c (.int .i64 51)))]) .ret) .skip) (.seq (.reg [.mk (.t 46) none (.mv (.g 7)), .mk (.t 47) none (.bi .real [.t 46]), .mk (.t 48) none (.mv (.g 8)), .mk (.t 49) none (.bin .quo 62 (.t 47) (.t 48)), .mk (.t 50) none (.mv (.g 7)), .mk (.t 51) none (.bi .imag [.t 50]), .mk (.t 52) none (.mv (.g 8)), .mk (.t 53) none (.bin .quo 62 (.t 51) (.t 52)), .mk (.t 54) none (.bi .complex [.t 49, .t 53]), .mk (.t 55) none (.pc (.f 42) [.t 54]), .mk (.t 56) none (.ext 0 (.t 55)), .mk (.t 57) none (.ext 1 (.t 55)), .mk (.g 4) none (.mv (.t 56)), .mk (.g 5) none (.mv (.t 57))]) .ret))))))
theorem co25 : cf25.comp (Try.f25.body.getD .skip) = some ac25 := by kernel_rfl
theorem pu25 {args : List D} {res : D} (hl : args.length ≤ 58) (h : A cf25 ac25 (Kont cf25 (RetQ [.t 4, .t 5] res) []) (env0 [0, 1, 4, 5, 6, 7, 8] args) [] 0) : Pure Try.prog 25 args res :=
  Pure_of (C := cf25) (c := Try.f25.body.getD .skip) Try.func25 (by kernel_rfl) (by rfl) (by rfl) hl (by kernel_rfl) co25 h
theorem ct25 {args : List D} {mem : Mem} {nx : Nat} {K : KD} (hl : args.length ≤ 58) (h : (∀ i, nx ≤ i → look mem i = none) → A cf25 ac25 (Kont cf25 (RetC [.t 4, .t 5] K) []) (env0 [0, 1, 4, 5, 6, 7, 8] args) mem nx) : CallT Try.prog 25 args mem nx K :=
  CallT_of (C := cf25) (c := Try.f25.body.getD .skip) Try.func25 (by kernel_rfl) (by rfl) (by rfl) hl (by kernel_rfl) co25 h
@[simp] theorem cfP25 : cf25.P = Try.prog := (rfl)

/-- fathomref01.Quo -/
noncomputable def cf37 : Cfg := ⟨Try.prog, 67, [0, 1, 2, 3, 4, 5, 6, 7, 8], []⟩
noncomputable def ac37 : AC :=
  (.seq (.reg [.mk (.g 2) none (.bxi (.g 0)), .mk (.g 3) none (.bxi (.g 1)), .mk (.g 4) none (.al [.int .i64 0, .int .i64 0]), .mk (.g 5) none (.mv (.c (.int .i64 0)))]) (.seq (.reg [.mk (.t 9) none (.fa 0 (.g 3)), .mk (.t 10) none (.ld false 1 (.t 9)), .mk (.t 11) none (.fa 0 (.g 3)), .mk (.t 12) none (.ld false 1 (.t 11)), .mk (.t 13) none (.bin .mul 3 (.t 10) (.t 12)), .mk (.t 14) none (.fa 1 (.g 3)), .mk (.t 15) none (.ld false 1 (.t 14)), .mk (.t 16) none (.fa 1 (.g 3)), .mk (.t 17) none (.ld false 1 (.t 16)), .mk (.t 18) none (.bin .mul 3 (.t 15) (.t 17)), .mk (.t 19) none (.bin .add 3 (.t 13) (.t 18)), .mk (.g 6) none (.mv (.t 19))]) (.seq (.reg [.mk (.t 20) none (.fa 0 (.g 2)), .mk (.t 21) none (.ld false 1 (.t 20)), .mk (.t 22) none (.fa 0 (.g 3)), .mk (.t 23) none (.ld false 1 (.t 22)), .mk (.t 24) none (.bin .mul 3 (.t 21) (.t 23)), .mk (.t 25) none (.fa 1 (.g 2)), .mk (.t 26) none (.ld false 1 (.t 25)), .mk (.t 27) none (.fa 1 (.g 3)), .mk (.t 28) none (.ld false 1 (.t 27)), .mk (.t 29) none (.bin .mul 3 (.t 26) (.t 28)), .mk (.t 30) none (.bin .add 3 (.t 24) (.t 29)), .mk (.g 7) none (.mv (.t 30))]) (.seq (.reg [.mk (.t 31) none (.fa 1 (.g 2)), .mk (.t 32) none (.ld false 1 (.t 31)), .mk (.t 33) none (.fa 0 (.g 3)), .mk (.t 34) none (.ld false 1 (.t 33)), .mk (.t 35) none (.bin .mul 3 (.t 32) (.t 34)), .mk (.t 36) none (.fa 0 (.g 2)), .mk (.t 37) none (.ld false 1 (.t 36)), .mk (.t 38) none (.fa 1 (.g 3)), .mk (.t 39) none (.ld false 1 (.t 38)), .mk (.t 40) none (.bin .mul 3 (.t 37) (.t 39)), .mk (.t 41) none (.bin .sub 3 (.t 35) (.t 40)), .mk (.g 8) none (.mv (.t 41))]) (.seq (.ifr [.mk (.t 42) none (.mv (.g 6)), .mk (.t 43) none (.bin .eql 3 (.t 42) (.c (.int .i64 0))), .mk (.t 44) none (.mv (.t 43)), .mk (.t 45) (some (.t 44, false)) (.mv (.g 7)), .mk (.t 46) (some (.t 44, false)) (.mv (.g 6)), .mk (.t 47) (some (.t 44, false)) (.bin .rem 3 (.t 45) (.t 46)), .mk (.t 48) (some (.t 44, false)) (.bin .neq 3 (.t 47) (.c (.int .i64 0))), .mk (.t 49) none (.pick (.t 44) (.c (.bool true)) (.t 48)), .mk (.t 50) none (.mv (.t 49)), .mk (.t 51) (some (.t 50, false)) (.mv (.g 8)), .mk (.t 52) (some (.t 50, false)) (.mv (.g 6)), .mk (.t 53) (some (.t 50, false)) (.bin .rem 3 (.t 51) (.t 52)), .mk (.t 54) (some (.t 50, false)) (.bin .neq 3 (.t 53) (.c (.int .i64 0))), .mk (.t 55) none (.pick (.t 50) (.c (.bool true)) (.t 54))] (.t 55) (.seq (.reg [.mk (.t 56) none (.bld [.int .i64 0, .int .i64 0] []), .mk .no none (.st 2 (.g 4) (.t 56)), .mk (.g 5) none (.mv (.c (.int .i64 51)))]) .ret) .skip) (.seq (.reg [.mk (.t 57) none (.mv (.g 7)), .mk (.t 58) none (.mv (.g 6)), .mk (.t 59) none (.bin .quo 3 (.t 57) (.t 58)), .mk (.t 60) none (.mv (.g 8)), .mk (.t 61) none (.mv (.g 6)), .mk (.t 62) none (.bin .quo 3 (.t 60) (.t 61)), .mk (.t 63) none (.bld [.int .i64 0, .int .i64 0] [(0, 1, .t 59), (1, 1, .t 62)]), .mk (.t 64) none (.pc (.f 46) [.t 63]), .mk (.t 65) none (.ext 0 (.t 64)), .mk (.t 66) none (.ext 1 (.t 64)), .mk .no none (.st 2 (.g 4) (.t 65)), .mk (.g 5) none (.mv (.t 66))]) .ret))))))
theorem co37 : cf37.comp (Try.f37.body.getD .skip) = some ac37 := by kernel_rfl
theorem pu37 {args : List D} {res : D} (hl : args.length ≤ 67) (h : A cf37 ac37 (Kont cf37 (RetQ [.c 4 true 2, .t 5] res) []) (env0 [0, 1, 2, 3, 4, 5, 6, 7, 8] args) [] 0) : Pure Try.prog 37 args res :=
  Pure_of (C := cf37) (c := Try.f37.body.getD .skip) Try.func37 (by kernel_rfl) (by rfl) (by rfl) hl (by kernel_rfl) co37 h
theorem ct37 {args : List D} {mem : Mem} {nx : Nat} {K : KD} (hl : args.length ≤ 67) (h : (∀ i, nx ≤ i → look mem i = none) → A cf37 ac37 (Kont cf37 (RetC [.c 4 true 2, .t 5] K) []) (env0 [0, 1, 2, 3, 4, 5, 6, 7, 8] args) mem nx) : CallT Try.prog 37 args mem nx K :=
  CallT_of (C := cf37) (c := Try.f37.body.getD .skip) Try.func37 (by kernel_rfl) (by rfl) (by rfl) hl (by kernel_rfl) co37 h
@[simp] theorem cfP37 : cf37.P = Try.prog := (rfl)
@[simp] theorem cvModf_3_75 {n : Int} : cvD Try.prog 3 75 (.pl (.int .i64 n)) = some (.pl (.int .u64 (IntKind.u64.wrap n))) := cv_int Try.underlying3 Try.underlying75
@[simp] theorem cvModf_75_3 {n : Int} : cvD Try.prog 75 3 (.pl (.int .u64 n)) = some (.pl (.int .i64 (IntKind.i64.wrap n))) := cv_int Try.underlying75 Try.underlying3
end Go.Fx.Ytaiklblnfebdfaa

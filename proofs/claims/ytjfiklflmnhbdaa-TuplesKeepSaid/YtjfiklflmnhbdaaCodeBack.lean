import Derived.Test.YtjfiklflmnhbdaaXD
import Derived.Test.YtjfiklflmnhbdaaProg
import Derived.KernelRfl
set_option linter.all false
set_option maxRecDepth 1000000
set_option maxHeartbeats 0
namespace Go.Fx.Ytjfiklflmnhbdaa
open Go Go.Fx Go.Proofs

/-- slices.Backward[[]fathom/api.Type,fathom/api.Type] -/
noncomputable def cf36 : Cfg := ⟨Try.prog, 4, [0, 1, 2], []⟩
noncomputable def ac36 : AC :=
  (.seq (.reg [.mk (.g 1) none (.bxi (.g 0)), .mk (.g 2) none (.mv (.c .nilFunc))]) (.seq (.reg [.mk (.t 3) none (.mkf 55 [.g 1]), .mk (.g 2) none (.mv (.t 3))]) .ret))
theorem co36 : cf36.comp (Try.f36.body.getD .skip) = some ac36 := by kernel_rfl
theorem pu36 {args : List D} {res : D} (hl : args.length ≤ 4) (h : A cf36 ac36 (Kont cf36 (RetQ [.t 2] res) []) (env0 [0, 1, 2] args) [] 0) : Pure Try.prog 36 args res :=
  Pure_of (C := cf36) (c := Try.f36.body.getD .skip) Try.func36 (by kernel_rfl) (by rfl) (by rfl) hl (by kernel_rfl) co36 h
theorem ct36 {args : List D} {mem : Mem} {nx : Nat} {K : KD} (hl : args.length ≤ 4) (h : (∀ i, nx ≤ i → look mem i = none) → A cf36 ac36 (Kont cf36 (RetC [.t 2] K) []) (env0 [0, 1, 2] args) mem nx) : CallT Try.prog 36 args mem nx K :=
  CallT_of (C := cf36) (c := Try.f36.body.getD .skip) Try.func36 (by kernel_rfl) (by rfl) (by rfl) hl (by kernel_rfl) co36 h
@[simp] theorem cfP36 : cf36.P = Try.prog := (rfl)

/-- slices.Backward[[]fathom/api.Type,fathom/api.Type]$1 -/
noncomputable def cf55 : Cfg := ⟨Try.prog, 19, [0, 1, 3], []⟩
noncomputable def lb55_0 : AC :=
  .seq (.ifr [.mk (.t 7) none (.mv (.g 3)), .mk (.t 8) none (.bin .geq 3 (.t 7) (.c (.int .i64 0)))] (.t 8) .skip (.exit 0)) (.seq (.block 1 (.ifr [.mk (.t 11) none (.mv (.g 0)), .mk (.t 12) none (.mv (.g 3)), .mk (.t 13) none (.ld false 1 (.g 1)), .mk (.t 14) none (.mv (.g 3)), .mk (.t 15) none (.ia 1 (.t 13) (.t 14)), .mk (.t 16) none (.ld false 1 (.t 15)), .mk (.t 17) none (.pc (.t 11) [.t 12, .t 16]), .mk (.t 18) none (.un .not (.t 17))] (.t 18) .ret .skip)) (.reg [.mk (.t 9) none (.mv (.g 3)), .mk (.t 10) none (.bin .sub 3 (.t 9) (.c (.int .i64 1))), .mk (.g 3) none (.mv (.t 10))]))
theorem lp55_0 {α : Type} {Q : Exit → St → Prop} {env : Env} {mem : Mem} {nx : Nat} (V : α → Nat → List (Nat × D)) (M : α → Nat → Mem) (inv : α → Nat → Prop) (μ : α → Nat) (x0 : α) (h0 : inv x0 nx) (he : envLe env (upds (tops [3] env) (V x0 nx))) (hm : memLe mem (M x0 nx))
    (round : ∀ y n, inv y n → A cf55 lb55_0 (Kont cf55 (thenQ (Again cf55 (fun y n => upds (tops [3] env) (V y n)) M inv μ y) Q) []) (upds (tops [3] env) (V y n)) (M y n) n) : A cf55 (.loop lb55_0) Q env mem nx :=
  A_loop_of (fun y n => upds (tops [3] env) (V y n)) M inv μ x0 h0 he hm round
noncomputable def ac55 : AC :=
  (.seq (.reg [.mk (.t 4) none (.ld false 1 (.g 1)), .mk (.t 5) none (.len false (.t 4)), .mk (.t 6) none (.bin .sub 3 (.t 5) (.c (.int .i64 1))), .mk (.g 3) none (.mv (.t 6))]) (.block 0 (.loop lb55_0)))
theorem co55 : cf55.comp (Try.f55.body.getD .skip) = some ac55 := by kernel_rfl
theorem pu55 {args : List D} {res : D} (hl : args.length ≤ 19) (h : A cf55 ac55 (Kont cf55 (RetQ [] res) []) (env0 [0, 1, 3] args) [] 0) : Pure Try.prog 55 args res :=
  Pure_of (C := cf55) (c := Try.f55.body.getD .skip) Try.func55 (by kernel_rfl) (by rfl) (by rfl) hl (by kernel_rfl) co55 h
theorem ct55 {args : List D} {mem : Mem} {nx : Nat} {K : KD} (hl : args.length ≤ 19) (h : (∀ i, nx ≤ i → look mem i = none) → A cf55 ac55 (Kont cf55 (RetC [] K) []) (env0 [0, 1, 3] args) mem nx) : CallT Try.prog 55 args mem nx K :=
  CallT_of (C := cf55) (c := Try.f55.body.getD .skip) Try.func55 (by kernel_rfl) (by rfl) (by rfl) hl (by kernel_rfl) co55 h
@[simp] theorem cfP55 : cf55.P = Try.prog := (rfl)
end Go.Fx.Ytjfiklflmnhbdaa

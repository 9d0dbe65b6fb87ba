/- Joined texts of this claim. No condition. -/
import Derived.Test.YtlhdpfaohphbaaaGreatMt4
set_option linter.all false
set_option maxRecDepth 1000000
set_option maxHeartbeats 0
namespace Go.Fx.YtlhdpfaohphbaaaGreat
open Go Go.Fx Go.Proofs
noncomputable def cf83 : Cfg := ⟨Tryz.prog, 14, [0, 2, 3, 4, 5], []⟩
noncomputable def ac83 : AC :=
 (.seq (.reg [JI 2 0, JI 3 0]) (.seq (.reg [JA 7 0, JO 8 (.pc (.f 67) [.t 7]), JC 6 8, JK 9 0 6, JK 10 1 6, JB 4 9, JB 5 10]) (.seq (.reg [JA 11 4, JO 12 (.bin .add 3 (.t 11) (JT 1)), JA 13 5, JB 2 12, JB 3 13]) .ret)))
theorem fi83 : FI Tryz.prog 83 cf83 ac83 [.t 2, .t 3] [0, 2, 3, 4, 5] 14 := FI_of (c := Tryz.f83.body.getD .skip) Tryz.func83 (by kernel_rfl) (by rfl) (by rfl) (by kernel_rfl) (by kernel_rfl) rfl rfl rfl
@[simp] theorem cfP83 : cf83.P = Tryz.prog := (rfl)
noncomputable def cf82 : Cfg := ⟨Tryz.prog, 31, [0, 2, 3, 4, 6, 7, 8, 9, 10, 11], []⟩
noncomputable def lb82_0 : AC :=
 .seq (.ifr [JO 12 (.bin .lss 3 (.g 11) (.g 10))] (.t 12) .skip (.exit 0)) (.seq (.block 1 (.seq (.reg [JO 13 (.ia 1 (.g 9) (.g 11)), JD 14 1 13, JB 6 14]) (.seq (.reg [JA 16 6, JO 17 (.pc (.f 83) [.t 16]), JC 15 17, JK 18 0 15, JK 19 1 15, JB 7 18, JB 8 19]) (.seq (.ifr [JA 20 8, JO 21 (.bin .neq 52 (.t 20) (JT 0))] (.t 21) (.seq (.reg [JA 22 8, JI 2 0, JB 3 22]) .ret) .skip) (.reg [JA 23 4, JA 24 7, JO 25 (.bin .mul 3 (.t 23) (.t 24)), JO 26 (.bi .min [.t 25, .c (.int .i64 4097)]), JB 4 26]))))) (.reg [JO 27 (.bin .add 3 (.g 11) (JT 1)), JB 11 27]))
noncomputable def ac82 : AC :=
 (.seq (.reg [JI 2 0, JI 3 0]) (.seq (.reg [JI 4 1]) (.seq (.seq (.reg [JP 9 (.mv (.g 0)), JP 10 (.len false (.g 9)), JI 11 0]) (.block 0 (.loop lb82_0))) (.seq (.ifr [JA 28 4, JO 29 (.bin .gtr 3 (.t 28) (JT 4096))] (.t 29) (.seq (.reg [JI 2 0, JI 3 22]) .ret) .skip) (.seq (.reg [JA 30 4, JB 2 30, JI 3 0]) .ret)))))
theorem fi82 : FI Tryz.prog 82 cf82 ac82 [.t 2, .t 3] [0, 2, 3, 4, 6, 7, 8, 9, 10, 11] 31 := FI_of (c := Tryz.f82.body.getD .skip) Tryz.func82 (by kernel_rfl) (by rfl) (by rfl) (by kernel_rfl) (by kernel_rfl) rfl rfl rfl
@[simp] theorem cfP82 : cf82.P = Tryz.prog := (rfl)
noncomputable def cf49 : Cfg := ⟨Tryz.prog, 58, [0, 1, 4, 5, 7, 8, 9, 10, 11, 12, 27, 28, 29], []⟩
noncomputable def lb49_0 : AC :=
 .seq (.ifr [JO 30 (.bin .lss 3 (.g 29) (.g 28))] (.t 30) .skip (.exit 0)) (.seq (.block 1 (.seq (.reg [JA 31 29, JO 32 (.ia 1 (.g 27) (.g 29)), JD 33 1 32, JB 9 31, JB 10 33]) (.seq (.seq (.reg [JA 34 0, JA 35 9, JL 36 1 34 35, JD 37 1 36, JA 38 10, JO 39 (.pc (.f 36) [.t 37, .t 38]), JB 11 39]) (.ifr [JA 40 11, JO 41 (.bin .neq 52 (.t 40) (JT 0))] (.t 41) (.seq (.reg [JA 42 11, JI 4 0, JB 5 42]) .ret) .skip)) (.seq (.reg [JA 44 0, JA 45 9, JL 46 1 44 45, JD 47 1 46, JO 48 (.pc (.f 83) [.t 47]), JC 43 48, JK 49 0 43, JK 50 1 43, JB 12 49, JC 13 50]) (.reg [JA 51 8, JA 52 12, JO 53 (.bin .mul 3 (.t 51) (.t 52)), JA 54 10, JO 55 (.bin .add 3 (.t 53) (.t 54)), JB 8 55]))))) (.reg [JO 56 (.bin .add 3 (.g 29) (JT 1)), JB 29 56]))
noncomputable def ac49 : AC :=
 (.seq (.reg [JI 4 0, JI 5 0]) (.seq (.seq (.reg [JA 15 0, JO 16 (.pc (.f 82) [.t 15]), JC 14 16, JK 17 0 14, JK 18 1 14, JC 6 17, JB 7 18]) (.ifr [JA 19 7, JO 20 (.bin .neq 52 (.t 19) (JT 0))] (.t 20) (.seq (.reg [JA 21 7, JI 4 0, JB 5 21]) .ret) .skip)) (.seq (.ifr [JA 22 1, JO 23 (.len false (.t 22)), JA 24 0, JO 25 (.len false (.t 24)), JO 26 (.bin .neq 3 (.t 23) (.t 25))] (.t 26) (.seq (.reg [JI 4 0, JI 5 3]) .ret) .skip) (.seq (.reg [JI 8 0]) (.seq (.seq (.reg [JP 27 (.mv (.g 1)), JP 28 (.len false (.g 27)), JI 29 0]) (.block 0 (.loop lb49_0))) (.seq (.reg [JA 57 8, JB 4 57, JI 5 0]) .ret))))))
theorem fi49 : FI Tryz.prog 49 cf49 ac49 [.t 4, .t 5] [0, 1, 4, 5, 7, 8, 9, 10, 11, 12, 27, 28, 29] 58 := FI_of (c := Tryz.f49.body.getD .skip) Tryz.func49 (by kernel_rfl) (by rfl) (by rfl) (by kernel_rfl) (by kernel_rfl) rfl rfl rfl
@[simp] theorem cfP49 : cf49.P = Tryz.prog := (rfl)
noncomputable def cf54 : Cfg := ⟨Tryz.prog, 50, [0, 1, 3, 4, 5, 6, 7, 8, 9, 10, 11, 32, 33, 34], [3, 30]⟩
@[simp] theorem cfP54 : cf54.P = Tryz.prog := (rfl)
noncomputable def cf53 : Cfg := ⟨Tryz.prog, 40, [0, 1, 4, 5, 6, 7, 9, 10], []⟩
noncomputable def ac53 : AC :=
 (.seq (.reg [JP 4 (.al [JW, JV, JV, JW]), JI 5 0]) (.seq (.reg [JA 12 0, JO 13 (.pc (.f 82) [.t 12]), JC 11 13, JK 14 0 11, JK 15 1 11, JB 6 14, JB 7 15]) (.seq (.ifr [JA 16 7, JO 17 (.bin .neq 52 (.t 16) (JT 0))] (.t 17) (.seq (.reg [JO 18 (.bld [JW, JV, JV, JW] []), JA 19 7, JQ (.st 4 (.g 4) (.t 18)), JB 5 19]) .ret) .skip) (.seq (.seq (.reg [JA 21 1, JO 22 (.pc (.f 83) [.t 21]), JC 20 22, JK 23 0 20, JK 24 1 20, JC 8 23, JB 9 24]) (.ifr [JA 25 9, JO 26 (.bin .neq 52 (.t 25) (JT 0))] (.t 26) (.seq (.reg [JO 27 (.bld [JW, JV, JV, JW] []), JA 28 9, JQ (.st 4 (.g 4) (.t 27)), JB 5 28]) .ret) .skip)) (.seq (.reg [JA 30 6, JO 31 (.pc (.f 84) [.t 30]), JC 29 31, JK 32 0 29, JK 33 1 29, JP 10 (.al [JV, JW]), JQ (.st 2 (.g 10) (.t 32)), JB 7 33]) (.seq (.reg [JA 34 0, JO 35 (.pc (.f 85) [.t 34]), JA 36 1, JF 37 2 10, JO 38 (.bld [JW, JV, JV, JW] [(0, 1, .t 35), (1, 1, .t 36), (2, 2, .t 37)]), JA 39 7, JQ (.st 4 (.g 4) (.t 38)), JB 5 39]) .ret))))))
theorem fi53 : FI Tryz.prog 53 cf53 ac53 [.c 4 true 4, .t 5] [0, 1, 4, 5, 6, 7, 9, 10] 40 := FI_of (c := Tryz.f53.body.getD .skip) Tryz.func53 (by kernel_rfl) (by rfl) (by rfl) (by kernel_rfl) (by kernel_rfl) rfl rfl rfl
@[simp] theorem cfP53 : cf53.P = Tryz.prog := (rfl)
noncomputable def cf66 : Cfg := ⟨Tryz.prog, 55, [0, 1, 2, 3, 4, 5, 6, 7, 8], []⟩
noncomputable def lb66_0 : AC :=
 .seq (.ifr [JA 42 7, JO 43 (.bin .lss 3 (.t 42) (JT 4))] (.t 43) .skip (.exit 0)) (.seq (.block 1 (.seq (.reg [JG 47 2 1, JE 48 2 47, JA 49 7, JO 50 (.pc (.f 95) [.t 48, .t 49]), JC 46 50, JK 51 0 46, JK 52 1 46, JB 8 51, JC 9 52]) (.ifr [JA 53 8, JO 54 (.bin .gtr 3 (.t 53) (JT 0))] (.t 54) (.seq (.reg [JI 2 3]) .ret) .skip))) (.reg [JA 44 7, JO 45 (.bin .add 3 (.t 44) (JT 1)), JB 7 45]))
noncomputable def ac66 : AC :=
 (.seq (.reg [JN 1 0, JI 2 0]) (.seq (.reg [JG 11 0 1, JD 12 1 11, JO 13 (.pc (.f 82) [.t 12]), JC 10 13, JK 14 0 10, JK 15 1 10, JB 3 14, JB 4 15]) (.seq (.reg [JG 17 1 1, JD 18 1 17, JO 19 (.pc (.f 83) [.t 18]), JC 16 19, JK 20 0 16, JK 21 1 16, JB 5 20, JB 6 21]) (.seq (.ifr [JA 22 4, JO 23 (.bin .neq 52 (.t 22) (JT 0)), JC 24 23, JR 25 24 (.mv (.g 6)), JR 26 24 (.bin .neq 52 (.t 25) (JT 0)), JO 27 (.pick (.t 24) JX (.t 26)), JC 28 27, JR 29 28 (.fa 2 (.g 1)), JR 30 28 (.fa 0 (.t 29)), JR 31 28 (.ld false 1 (.t 30)), JR 32 28 (.mv (.g 3)), JR 33 28 (.bin .neq 3 (.t 31) (.t 32)), JO 34 (.pick (.t 28) JX (.t 33)), JC 35 34, JR 36 35 (.fa 2 (.g 1)), JR 37 35 (.ld true 2 (.t 36)), JR 38 35 (.pc (.f 87) [.t 37]), JR 39 35 (.bin .neq 52 (.t 38) (JT 0)), JO 40 (.pick (.t 35) JX (.t 39))] (.t 40) (.seq (.reg [JI 2 3]) .ret) .skip) (.seq (.seq (.reg [JA 41 5, JB 7 41]) (.block 0 (.loop lb66_0))) (.seq (.reg [JI 2 0]) .ret))))))
theorem fi66 : FI Tryz.prog 66 cf66 ac66 [.t 2] [0, 1, 2, 3, 4, 5, 6, 7, 8] 55 := FI_of (c := Tryz.f66.body.getD .skip) Tryz.func66 (by kernel_rfl) (by rfl) (by rfl) (by kernel_rfl) (by kernel_rfl) rfl rfl rfl
@[simp] theorem cfP66 : cf66.P = Tryz.prog := (rfl)
noncomputable def cf85 : Cfg := ⟨Tryz.prog, 8, [0, 2], [7]⟩
noncomputable def ac85 : AC :=
 (.seq (.reg [JP 2 (.mv (.c (.slice none 0 0)))]) (.seq (.ifr [JA 3 0, JO 4 (.bin .eql 24 (.t 3) (.c (.slice none 0 0)))] (.t 4) (.seq (.reg [JP 2 (.mv (.c (.slice none 0 0)))]) .ret) .skip) (.seq (.reg [.mk (.t 5) none .z0, JA 6 0, JO 7 (.app 1 8 [JV] (.t 5) (.t 6)), JB 2 7]) .ret)))
theorem fi85 : FI Tryz.prog 85 cf85 ac85 [.t 2] [0, 2] 8 := FI_of (c := Tryz.f85.body.getD .skip) Tryz.func85 (by kernel_rfl) (by rfl) (by rfl) (by kernel_rfl) (by kernel_rfl) rfl rfl rfl
@[simp] theorem cfP85 : cf85.P = Tryz.prog := (rfl)
noncomputable def cf31 : Cfg := ⟨Tryz.prog, 36, [0, 2, 3, 4, 5, 6], []⟩
noncomputable def lb31_0 : AC :=
 .seq (.ifr [JA 19 6, JA 20 0, JO 21 (.len false (.t 20)), JO 22 (.bin .lss 3 (.t 19) (.t 21))] (.t 22) .skip (.exit 2)) (.seq (.block 3 (.seq (.reg [JA 25 5, JA 26 0, JA 27 6, JL 28 1 26 27, JD 29 1 28, JO 30 (.pc (.f 33) [.t 29]), JO 31 (.bin .add 3 (.t 30) (JT 1)), JO 32 (.bin .mul 3 (.t 25) (.t 31)), JB 5 32]) (.ifr [JA 33 5, JO 34 (.bin .gtr 3 (.t 33) (JT 4096))] (.t 34) (.seq (.reg [JI 2 0, JI 3 22]) .ret) .skip))) (.reg [JA 23 6, JO 24 (.bin .add 3 (.t 23) (JT 1)), JB 6 24]))
noncomputable def lb31_1 : AC :=
 .seq (.ifr [JA 7 4, JA 8 0, JO 9 (.len false (.t 8)), JO 10 (.bin .lss 3 (.t 7) (.t 9))] (.t 10) .skip (.exit 0)) (.seq (.block 1 (.ifr [JA 13 0, JA 14 4, JL 15 1 13 14, JD 16 1 15, JO 17 (.pc (.f 33) [.t 16]), JO 18 (.bin .lss 3 (.t 17) (JT 0))] (.t 18) (.seq (.reg [JI 2 0, JI 3 3]) .ret) .skip)) (.reg [JA 11 4, JO 12 (.bin .add 3 (.t 11) (JT 1)), JB 4 12]))
noncomputable def ac31 : AC :=
 (.seq (.reg [JI 2 0, JI 3 0]) (.seq (.seq (.reg [JI 4 0]) (.block 0 (.loop lb31_1))) (.seq (.reg [JI 5 1]) (.seq (.seq (.reg [JI 6 0]) (.block 2 (.loop lb31_0))) (.seq (.reg [JA 35 5, JB 2 35, JI 3 0]) .ret)))))
theorem fi31 : FI Tryz.prog 31 cf31 ac31 [.t 2, .t 3] [0, 2, 3, 4, 5, 6] 36 := FI_of (c := Tryz.f31.body.getD .skip) Tryz.func31 (by kernel_rfl) (by rfl) (by rfl) (by kernel_rfl) (by kernel_rfl) rfl rfl rfl
@[simp] theorem cfP31 : cf31.P = Tryz.prog := (rfl)
noncomputable def cf51 : Cfg := ⟨Tryz.prog, 53, [0, 1, 4, 5, 7, 8, 9], []⟩
@[simp] theorem cfP51 : cf51.P = Tryz.prog := (rfl)
noncomputable def cf58 : Cfg := ⟨Tryz.prog, 52, [0, 1, 4, 5, 6, 7, 8, 9, 10], [28]⟩
@[simp] theorem cfP58 : cf58.P = Tryz.prog := (rfl)
noncomputable def cf63 : Cfg := ⟨Tryz.prog, 7, [0, 2, 3], [6]⟩
noncomputable def ac63 : AC :=
 (.seq (.reg [JP 2 (.mv (.c (.slice none 0 0)))]) (.seq (.reg [JP 3 (.mv (.c (.slice none 0 0)))]) (.seq (.reg [JA 4 3, JA 5 0, JO 6 (.app 1 8 [JV] (.t 4) (.t 5)), JB 2 6]) .ret)))
theorem fi63 : FI Tryz.prog 63 cf63 ac63 [.t 2] [0, 2, 3] 7 := FI_of (c := Tryz.f63.body.getD .skip) Tryz.func63 (by kernel_rfl) (by rfl) (by rfl) (by kernel_rfl) (by kernel_rfl) rfl rfl rfl
@[simp] theorem cfP63 : cf63.P = Tryz.prog := (rfl)
noncomputable def cf26 : Cfg := ⟨Tryz.prog, 53, [0, 1, 2, 3, 4, 5, 6, 7, 8], [18]⟩
@[simp] theorem cfP26 : cf26.P = Tryz.prog := (rfl)
noncomputable def cf34 : Cfg := ⟨Tryz.prog, 13, [0, 1, 2, 6], []⟩
noncomputable def ac34 : AC :=
 (.seq (.reg [JP 6 (.al [JW, JV, JV, JW])]) (.seq (.reg [JA 7 0, JO 8 (.pc (.f 63) [.t 7]), JA 9 1, JA 10 2, JO 11 (.pc (.f 64) [.t 10]), JO 12 (.bld [JW, JV, JV, JW] [(0, 1, .t 8), (1, 1, .t 9), (2, 2, .t 11)]), JQ (.st 4 (.g 6) (.t 12))]) .ret))
theorem fi34 : FI Tryz.prog 34 cf34 ac34 [.c 6 true 4] [0, 1, 2, 6] 13 := FI_of (c := Tryz.f34.body.getD .skip) Tryz.func34 (by kernel_rfl) (by rfl) (by rfl) (by kernel_rfl) (by kernel_rfl) rfl rfl rfl
@[simp] theorem cfP34 : cf34.P = Tryz.prog := (rfl)
noncomputable def cf27 : Cfg := ⟨Tryz.prog, 78, [0, 1, 2, 3, 4, 5, 6, 7, 9, 10], [29, 60]⟩
@[simp] theorem cfP27 : cf27.P = Tryz.prog := (rfl)
noncomputable def cf23 : Cfg := ⟨Tryz.prog, 46, [0, 1, 2, 3, 4, 5], []⟩
@[simp] theorem cfP23 : cf23.P = Tryz.prog := (rfl)
noncomputable def cf67 : Cfg := ⟨Tryz.prog, 10, [0, 2, 3, 4, 5], []⟩
noncomputable def ac67 : AC :=
 (.seq (.reg [JI 2 0, JI 3 0]) (.seq (.seq (.reg [JP 4 (.mv (.g 0))]) (.block 0 (.seq (.ifr [JO 6 (.bin .eql 25 (.g 4) (JT 1)), JB 5 6] (.g 5) .skip (.reg [JO 7 (.bin .eql 25 (.g 4) (JT 2)), JB 5 7])) (.cond (.g 5) (.seq (.reg [JI 2 1, JI 3 0]) .ret) (.ifr [JO 9 (.bin .eql 25 (.g 4) (JT 3)), JC 8 9] (.t 8) (.seq (.reg [JI 2 3, JI 3 0]) .ret) .skip))))) (.seq (.reg [JI 2 0, JI 3 3]) .ret)))
theorem fi67 : FI Tryz.prog 67 cf67 ac67 [.t 2, .t 3] [0, 2, 3, 4, 5] 10 := FI_of (c := Tryz.f67.body.getD .skip) Tryz.func67 (by kernel_rfl) (by rfl) (by rfl) (by kernel_rfl) (by kernel_rfl) rfl rfl rfl
@[simp] theorem cfP67 : cf67.P = Tryz.prog := (rfl)
noncomputable def cf36 : Cfg := ⟨Tryz.prog, 24, [0, 1, 4, 5, 6], []⟩
noncomputable def ac36 : AC :=
 (.seq (.reg [JI 4 0]) (.seq (.reg [JA 8 0, JO 9 (.pc (.f 67) [.t 8]), JC 7 9, JK 10 0 7, JK 11 1 7, JB 5 10, JB 6 11]) (.seq (.ifr [JA 12 6, JO 13 (.bin .eql 52 (.t 12) (JT 0)), JC 14 13, JS 15 14 (.mv (.g 1)), JS 16 14 (.bin .lss 49 (.t 15) (JT 0)), JS 17 14 (.mv (.t 16)), JR 18 17 (.mv (.g 1)), JR 19 17 (.mv (.g 5)), JR 20 17 (.bin .gtr 49 (.t 18) (.t 19)), JS 21 14 (.pick (.t 17) JX (.t 20)), JO 22 (.pick (.t 14) (.t 21) JY)] (.t 22) (.seq (.reg [JI 4 2]) .ret) .skip) (.seq (.reg [JA 23 6, JB 4 23]) .ret))))
theorem fi36 : FI Tryz.prog 36 cf36 ac36 [.t 4] [0, 1, 4, 5, 6] 24 := FI_of (c := Tryz.f36.body.getD .skip) Tryz.func36 (by kernel_rfl) (by rfl) (by rfl) (by kernel_rfl) (by kernel_rfl) rfl rfl rfl
@[simp] theorem cfP36 : cf36.P = Tryz.prog := (rfl)
noncomputable def cf103 : Cfg := ⟨Tryz.prog, 19, [0, 1, 4, 5], []⟩
noncomputable def ac103 : AC :=
 (.seq (.reg [JI 4 0, JI 5 0]) (.seq (.ifr [JA 6 0, JO 7 (.pc (.f 36) [.c (.int .i64 1), .t 6]), JO 8 (.bin .neq 52 (.t 7) (JT 0)), JC 9 8, JR 10 9 (.mv (.g 1)), JR 11 9 (.pc (.f 36) [.c (.int .i64 3), .t 10]), JR 12 9 (.bin .neq 52 (.t 11) (JT 0)), JO 13 (.pick (.t 9) JX (.t 12))] (.t 13) (.seq (.reg [JI 4 0, JI 5 2]) .ret) .skip) (.seq (.reg [JA 14 1, JA 15 0, JO 16 (.bin .add 49 (JT 2) (.t 15)), JO 17 (.bi .min [.t 14, .t 16]), JO 18 (.bi .max [.c (.int .i64 1), .t 17]), JB 4 18, JI 5 0]) .ret)))
theorem fi103 : FI Tryz.prog 103 cf103 ac103 [.t 4, .t 5] [0, 1, 4, 5] 19 := FI_of (c := Tryz.f103.body.getD .skip) Tryz.func103 (by kernel_rfl) (by rfl) (by rfl) (by kernel_rfl) (by kernel_rfl) rfl rfl rfl
@[simp] theorem cfP103 : cf103.P = Tryz.prog := (rfl)
noncomputable def cf102 : Cfg := ⟨Tryz.prog, 22, [0, 2, 3, 7], []⟩
noncomputable def ac102 : AC :=
 (.seq (.reg [JP 2 (.mv (.c (.slice none 0 0))), JI 3 0]) (.seq (.ifr [JA 4 0, JO 5 (.pc (.f 36) [.c (.int .i64 3), .t 4]), JO 6 (.bin .neq 52 (.t 5) (JT 0))] (.t 6) (.seq (.reg [JP 2 (.mv (.c (.slice none 0 0))), JI 3 2]) .ret) .skip) (.seq (.seq (.reg [JP 7 (.mv (.g 0))]) (.block 0 (.ifr [JO 9 (.bin .eql 49 (.g 7) (JT 0)), JC 8 9] (.t 8) (.seq (.reg [JP 2 (.mv (.c (.slice none 0 0))), JI 3 0]) .ret) (.ifr [JO 11 (.bin .eql 49 (.g 7) (JT 2)), JC 10 11] (.t 10) (.seq (.reg [JO 12 (.bld [.bool false, JV, JV] [(2, 1, .c (.int .i64 3))]), JO 13 (.bld [.bool false, JV, JV] [(1, 1, .c (.int .i64 1)), (2, 1, .c (.int .i64 2))]), JO 14 (.bsl 3 2 [.bool false, JV, JV] [(0, 3, .t 12), (3, 3, .t 13)]), JB 2 14, JI 3 0]) .ret) (.ifr [JO 16 (.bin .eql 49 (.g 7) (JT 3)), JC 15 16] (.t 15) (.seq (.reg [JO 17 (.bld [.bool false, JV, JV] [(0, 1, .c (.bool true))]), JO 18 (.bld [.bool false, JV, JV] [(1, 1, .c (.int .i64 1)), (2, 1, .c (.int .i64 3))]), JO 19 (.bsl 3 2 [.bool false, JV, JV] [(0, 3, .t 17), (3, 3, .t 18)]), JB 2 19, JI 3 0]) .ret) .skip))))) (.seq (.reg [JO 20 (.bld [.bool false, JV, JV] [(1, 1, .c (.int .i64 1)), (2, 1, .c (.int .i64 1))]), JO 21 (.bsl 3 1 [.bool false, JV, JV] [(0, 3, .t 20)]), JB 2 21, JI 3 0]) .ret))))
theorem fi102 : FI Tryz.prog 102 cf102 ac102 [.t 2, .t 3] [0, 2, 3, 7] 22 := FI_of (c := Tryz.f102.body.getD .skip) Tryz.func102 (by kernel_rfl) (by rfl) (by rfl) (by kernel_rfl) (by kernel_rfl) rfl rfl rfl
@[simp] theorem cfP102 : cf102.P = Tryz.prog := (rfl)
noncomputable def cf33 : Cfg := ⟨Tryz.prog, 9, [0, 2, 3, 4], []⟩
noncomputable def ac33 : AC :=
 (.seq (.reg [JI 2 0]) (.seq (.seq (.reg [JP 3 (.mv (.g 0))]) (.block 0 (.seq (.ifr [JO 5 (.bin .eql 25 (.g 3) (JT 1)), JB 4 5] (.g 4) .skip (.reg [JO 6 (.bin .eql 25 (.g 3) (JT 2)), JB 4 6])) (.cond (.g 4) (.seq (.reg [JI 2 1]) .ret) (.ifr [JO 8 (.bin .eql 25 (.g 3) (JT 3)), JC 7 8] (.t 7) (.seq (.reg [JI 2 3]) .ret) .skip))))) (.seq (.reg [JI 2 (-1)]) .ret)))
theorem fi33 : FI Tryz.prog 33 cf33 ac33 [.t 2] [0, 2, 3, 4] 9 := FI_of (c := Tryz.f33.body.getD .skip) Tryz.func33 (by kernel_rfl) (by rfl) (by rfl) (by kernel_rfl) (by kernel_rfl) rfl rfl rfl
@[simp] theorem cfP33 : cf33.P = Tryz.prog := (rfl)
noncomputable def cf41 : Cfg := ⟨Tryz.prog, 12, [0, 1, 4], []⟩
@[simp] theorem cfP41 : cf41.P = Tryz.prog := (rfl)
noncomputable def cf15 : Cfg := ⟨Tryz.prog, 13, [0, 1, 4], []⟩
noncomputable def ac15 : AC :=
 (.seq (.reg [JP 4 (.mv JY)]) (.seq (.reg [JA 5 1, JO 6 (.bin .geq 49 (.t 5) (JT 0)), JC 7 6, JS 8 7 (.mv (.g 1)), JS 9 7 (.mv (.g 0)), JS 10 7 (.pc (.f 33) [.t 9]), JS 11 7 (.bin .leq 3 (.t 8) (.t 10)), JO 12 (.pick (.t 7) (.t 11) JY), JB 4 12]) .ret))
theorem fi15 : FI Tryz.prog 15 cf15 ac15 [.t 4] [0, 1, 4] 13 := FI_of (c := Tryz.f15.body.getD .skip) Tryz.func15 (by kernel_rfl) (by rfl) (by rfl) (by kernel_rfl) (by kernel_rfl) rfl rfl rfl
@[simp] theorem cfP15 : cf15.P = Tryz.prog := (rfl)
noncomputable def cf106 : Cfg := ⟨Tryz.prog, 14, [0, 1, 4], []⟩
@[simp] theorem cfP106 : cf106.P = Tryz.prog := (rfl)
noncomputable def cf105 : Cfg := ⟨Tryz.prog, 18, [0, 2, 3], []⟩
noncomputable def ac105 : AC :=
 (.seq (.reg [JP 2 (.mv (.c (.slice none 0 0)))]) (.seq (.seq (.reg [JP 3 (.mv (.g 0))]) (.block 0 (.ifr [JO 5 (.bin .eql 49 (.g 3) (JT 1)), JC 4 5] (.t 4) (.seq (.reg [JO 6 (.bld [.bool false, JV, JV] [(1, 1, .c (.int .i64 1)), (2, 1, .c (.int .i64 1))]), JO 7 (.bsl 3 1 [.bool false, JV, JV] [(0, 3, .t 6)]), JB 2 7]) .ret) (.ifr [JO 9 (.bin .eql 49 (.g 3) (JT 2)), JC 8 9] (.t 8) (.seq (.reg [JO 10 (.bld [.bool false, JV, JV] [(2, 1, .c (.int .i64 3))]), JO 11 (.bld [.bool false, JV, JV] [(1, 1, .c (.int .i64 1)), (2, 1, .c (.int .i64 2))]), JO 12 (.bsl 3 2 [.bool false, JV, JV] [(0, 3, .t 10), (3, 3, .t 11)]), JB 2 12]) .ret) (.ifr [JO 14 (.bin .eql 49 (.g 3) (JT 3)), JC 13 14] (.t 13) (.seq (.reg [JO 15 (.bld [.bool false, JV, JV] [(0, 1, .c (.bool true))]), JO 16 (.bld [.bool false, JV, JV] [(1, 1, .c (.int .i64 1)), (2, 1, .c (.int .i64 3))]), JO 17 (.bsl 3 2 [.bool false, JV, JV] [(0, 3, .t 15), (3, 3, .t 16)]), JB 2 17]) .ret) .skip))))) (.seq (.reg [JP 2 (.mv (.c (.slice none 0 0)))]) .ret)))
theorem fi105 : FI Tryz.prog 105 cf105 ac105 [.t 2] [0, 2, 3] 18 := FI_of (c := Tryz.f105.body.getD .skip) Tryz.func105 (by kernel_rfl) (by rfl) (by rfl) (by kernel_rfl) (by kernel_rfl) rfl rfl rfl
@[simp] theorem cfP105 : cf105.P = Tryz.prog := (rfl)
def tp (t : Int) : Int := if t = 1 then 1 else if t = 2 then 1 else if t = 3 then 3 else -1
theorem tp_1 : tp 1 = 1 := rfl
theorem tQ : tp 3 = 3 := rfl
theorem tS (t : Int) : (t = 1 ∧ tp t = 1) ∨ (t = 2 ∧ tp t = 1) ∨ (t = 3 ∧ tp t = 3) ∨ (t ≠ 1 ∧ t ≠ 2 ∧ t ≠ 3 ∧ tp t = -1) := by
 unfold tp
 by_cases h1 : t = 1
 ·simp [h1]
 ·by_cases h2 : t = 2
  ·simp [h2]
  ·by_cases h3 : t = 3
   ·simp [h3]
   ·simp [h1, h2, h3]
def nI (t : Int) : D := if tp t < 0 then .tup [I 0, I 3] else .tup [I (tp t), I 0]
theorem Top_c (t : Int) : Pure Tryz.prog 67 [I t] (nI t) := by
 refine fi67.pu (by simp) ?_
 rcases tS t with ⟨rfl, h⟩ | ⟨rfl, h⟩ | ⟨rfl, h⟩ | ⟨h1, h2, h3, h⟩
 ·simp -implicitDefEqProofs [ac67, nI, h]
 ·simp -implicitDefEqProofs [ac67, nI, h]
 ·simp -implicitDefEqProofs [ac67, nI, h]
 ·simp -implicitDefEqProofs [ac67, nI, h, h1, h2, h3]
theorem qH (t : Int) : Pure Tryz.prog 33 [I t] (I (tp t)) := by
 refine fi33.pu (by simp) ?_
 rcases tS t with ⟨rfl, h⟩ | ⟨rfl, h⟩ | ⟨rfl, h⟩ | ⟨h1, h2, h3, h⟩
 ·simp -implicitDefEqProofs [ac33, h]
 ·simp -implicitDefEqProofs [ac33, h]
 ·simp -implicitDefEqProofs [ac33, h]
 ·simp -implicitDefEqProofs [ac33, h, h1, h2, h3]
def ck (t p : Int) : Int := if tp t < 0 then 3 else if 0 ≤ p ∧ p ≤ tp t then 0 else 2
theorem yM {t p : Int} : ck t p = 0 ↔ 0 ≤ p ∧ p ≤ tp t := by
 unfold ck
 by_cases h : tp t < 0
 ·rw [if_pos h]; simp; omega
 ·rw [if_neg h]
  by_cases h2 : 0 ≤ p ∧ p ≤ tp t <;> simp [h2]
theorem iG (t p : Int) : Pure Tryz.prog 36 [I t, I p] (I (ck t p)) := by
 refine fi36.pu (by simp) ?_
 simp -implicitDefEqProofs [ac36]
 refine aG (Top_c t) (by simp) ?_
 simp -implicitDefEqProofs
 by_cases h : tp t < 0
 ·simp -implicitDefEqProofs [nI, h, ck]
 ·by_cases h1 : p < 0
  ·have : ¬ 0 ≤ p := by omega
   simp -implicitDefEqProofs [nI, h, ck, h1, this]
  ·have h0 : 0 ≤ p := by omega
   by_cases h2 : p ≤ tp t
   ·have : ¬ tp t < p := by omega
    simp -implicitDefEqProofs [nI, h, ck, h1, h0, h2, this]
   ·have : tp t < p := by omega
    simp -implicitDefEqProofs [nI, h, ck, h1, h0, h2, this]
theorem Is_c (t p : Int) : Pure Tryz.prog 15 [I t, I p] (B (decide (0 ≤ p ∧ p ≤ tp t))) := by
 refine fi15.pu (by simp) ?_
 by_cases h : 0 ≤ p
 ·simp -implicitDefEqProofs [ac15, h]
  refine aG (qH t) (by simp) ?_
  simp -implicitDefEqProofs
 ·simp -implicitDefEqProofs [ac15, h]
def cnF (h t : Int) : Int := max 1 (min t (2 + h))
theorem IK {h t : Int} (h1 : 0 ≤ h ∧ h ≤ 1) (h2 : 0 ≤ t ∧ t ≤ 3) : Pure Tryz.prog 103 [I h, I t] (.tup [I (cnF h t), I 0]) := by
 have e1 : ck 1 h = 0 := yM.2 h1
 have e2 : ck 3 t = 0 := yM.2 h2
 refine fi103.pu (by simp) ?_
 simp -implicitDefEqProofs [ac103]
 refine aG (iG 1 h) (by simp) ?_
 simp -implicitDefEqProofs [e1]
 refine aG (iG 3 t) (by simp) ?_
 simp -implicitDefEqProofs [e2, cnF]
 rw [aS (by omega) (by omega)]
structure Br where
 nl : Bool
 hd : Int
 tl : Int
deriving Inhabited, DecidableEq
def uJ (b : Br) : List D := [B b.nl, I b.hd, I b.tl]
def csF (p : Int) : List Br := if p = 0 then [] else if p = 1 then [⟨false, 1, 1⟩] else if p = 2 then [⟨false, 0, 3⟩, ⟨false, 1, 2⟩] else [⟨true, 0, 0⟩, ⟨false, 1, 3⟩]
theorem FD {p : Int} (h : 0 ≤ p ∧ p ≤ 3) : Pure Tryz.prog 102 [I p] (.tup [.sl (em uJ (csF p)), I 0]) ∧ Pure Tryz.prog 105 [I p] (.sl (em uJ (csF p))) := by
 have e1 : ck 3 p = 0 := yM.2 h
 have hp : p = 0 ∨ p = 1 ∨ p = 2 ∨ p = 3 := by omega
 refine ⟨?_, ?_⟩
 ·refine fi102.pu (by simp) ?_
  simp -implicitDefEqProofs [ac102]
  refine aG (iG 3 p) (by simp) ?_
  simp -implicitDefEqProofs
  rcases hp with rfl | rfl | rfl | rfl <;> simp -implicitDefEqProofs [e1, csF, uJ, em]
 ·refine fi105.pu (by simp) ?_
  rcases hp with rfl | rfl | rfl | rfl <;> simp -implicitDefEqProofs [ac105, csF, uJ, em]
noncomputable def cf86 : Cfg := ⟨Tryz.prog, 4, [0, 1, 2], []⟩
@[simp] theorem cfP86 : cf86.P = Tryz.prog := (rfl)
noncomputable def cf113 : Cfg := ⟨Tryz.prog, 19, [0, 1, 3], []⟩
@[simp] theorem cfP113 : cf113.P = Tryz.prog := (rfl)
end Go.Fx.YtlhdpfaohphbaaaGreat
namespace Go.Fx
open Go
inductive rLc : List D → List D → Prop where
 | nil : rLc [] []
 | cons {d d' : D} {ds ds' : List D} (h : rLe d d') (k : rLc ds ds') : rLc (d :: ds) (d' :: ds')
inductive rLe2 : List (List D) → List (List D) → Prop where
 | nil : rLe2 [] []
 | cons {d d' : List D} {ds ds' : List (List D)} (h : rLc d d') (k : rLe2 ds ds') : rLe2 (d :: ds) (d' :: ds')
theorem rLc.refl : ∀ {ds : List D}, rLc ds ds
 | [] => .nil
 | _ :: _ => .cons rLe.refl rLc.refl
theorem rLe2.refl : ∀ {ds : List (List D)}, rLe2 ds ds
 | [] => .nil
 | _ :: _ => .cons rLc.refl rLe2.refl
theorem rLc.len {ds ds' : List D} (h : rLc ds ds') : ds'.length = ds.length := by
 induction h with
 | nil => rfl
 | cons _ _ ih => simp [ih]
theorem rLe2.len {ds ds' : List (List D)} (h : rLe2 ds ds') : ds'.length = ds.length := by
 induction h with
 | nil => rfl
 | cons _ _ ih => simp [ih]
theorem rLc.rep {ds ds' : List D} (h : rLc ds ds') {w : World} {S : Nat → Prop} {φ : bA} {b : Nat} : ∀ {o : Nat}, RepCs w S φ ds b o → RepCs w S φ ds' b o := by
 induction h with
 | nil => intro o hx; exact hx
 | cons h1 _ ih =>
  intro o hx
  simp only [RepCs] at hx ⊢
  obtain ⟨⟨x, hx1, hx2⟩, hx3⟩ := hx
  exact ⟨⟨x, hx1, h1 _ _ _ _ hx2⟩, ih hx3⟩
theorem rLe2.rep {ds ds' : List (List D)} (h : rLe2 ds ds') {w : World} {S : Nat → Prop} {φ : bA} {k b : Nat} : ∀ {o : Nat}, RepEs w S φ ds k b o → RepEs w S φ ds' k b o := by
 induction h with
 | nil => intro o hx; exact hx
 | cons h1 _ ih =>
  intro o hx
  simp only [RepEs] at hx ⊢
  exact ⟨h1.len.trans hx.1, h1.rep hx.2.1, ih hx.2.2⟩
theorem cX {es es' : List (List D)} (h : rLe2 es es') : rLe (.sl es) (.sl es') := fun w S φ x hx => by
 simp only [Rep] at hx ⊢
 rcases hx with ⟨h1, h2⟩ | ⟨b, o, cap, k, h1, h2, h3, h4⟩
 ·subst h1
  cases h
  exact .inl ⟨rfl, h2⟩
 ·exact .inr ⟨b, o, cap, k, by rw [h.len]; exact h1, by rw [h.len]; exact h2, h3, h.rep h4⟩
mutual
def D.flat : D → Bool
 | .pl _ => true
 | .agg cs => D.flats cs
 | .tup cs => D.flats cs
 | _ => false
def D.flats : List D → Bool
 | [] => true
 | d :: ds => d.flat && D.flats ds
end
mutual
theorem yS {w w' : World} {S S' : Nat → Prop} {φ φ' : bA} : ∀ (d : D) (x : Value), d.flat = true → Rep w S φ d x → Rep w' S' φ' d x
 | .pl v, x, _, h => by simpa [Rep] using h
 | .agg cs, x, hf, h => by
  simp only [D.flat] at hf
  simp only [Rep] at h ⊢
  obtain ⟨vs, h1, h2⟩ := h
  exact ⟨vs, h1, rK cs _ hf h2⟩
 | .tup cs, x, hf, h => by
  simp only [D.flat] at hf
  simp only [Rep] at h ⊢
  obtain ⟨vs, h1, h2⟩ := h
  exact ⟨vs, h1, rK cs _ hf h2⟩
 | .top, x, hf, _ => by simp [D.flat] at hf
 | .zs, x, hf, _ => by simp [D.flat] at hf
 | .sl _, x, hf, _ => by simp [D.flat] at hf
 | .pt _, x, hf, _ => by simp [D.flat] at hf
 | .opt _ _, x, hf, _ => by simp [D.flat] at hf
 | .osl _ _ _ _, x, hf, _ => by simp [D.flat] at hf
 | .oel _ _ _ _, x, hf, _ => by simp [D.flat] at hf
 | .omap _, x, hf, _ => by simp [D.flat] at hf
 | .fn _ _, x, hf, _ => by simp [D.flat] at hf
theorem rK {w w' : World} {S S' : Nat → Prop} {φ φ' : bA} : ∀ (ds : List D) (xs : List Value), D.flats ds = true → RepVs w S φ ds xs → RepVs w' S' φ' ds xs
 | [], xs, _, h => by simpa [RepVs] using h
 | d :: ds, xs, hf, h => by
  simp only [D.flats, Bool.and_eq_true] at hf
  simp only [RepVs] at h ⊢
  obtain ⟨x, r, h1, h2, h3⟩ := h
  exact ⟨x, r, h1, yS d x hf.1 h2, rK ds r hf.2 h3⟩
end
section
variable {P : Program} {f : FuncId} {args args' : List D} {mem mf : Mem} {nx : Nat} {K : KD}
theorem EB {d0 : D} (hf : d0.flat = true) (h1 : cD mem mf) (hfr : gL mf 100 args = some args') (hp : Pure P f args' d0) (hk : K d0 mem nx) : bO P f args mem nx K := by
 refine ⟨hp.1, fun S φ w xs hm hx => ?_⟩
 have hmf : MSim S φ mf nx w := gA hm (gI h1) (Nat.le_refl _)
 have hargs := iU hmf 100 args args' xs hfr hx
 have hS2 : ∀ b, SF S φ mf b → b < w.heap.size := by
  rintro b (h | ⟨i, blk, l, _, g2, g3, rfl⟩)
  ·exact hm.sub b h
  ·exact hm.lt i l g2 g3
 refine (hp.2 (SF S φ mf) w xs hS2 hargs).mono ?_
 rintro e w' ⟨v, S', rfl, hr, hx', hS'⟩
 have hsame : ∀ b, b < w.heap.size → w'.heap[b]? = w.heap[b]? := fun b hb => hx'.keep b hb (by rintro ⟨i, blk, l, h1, _⟩; simp [look] at h1)
 have hst : Stays w S φ w' S φ := Stays.of_heap (fun _ h => h) (fun b hb => hsame b (hm.sub b hb)) (fun _ _ h => h)
 refine ⟨v, d0, mem, nx, S, φ, rfl, hk, Nat.le_refl _, ⟨?_, hm.inj, ?_, hm.fresh, fun b hb => Nat.lt_of_lt_of_le (hm.sub b hb) hx'.size⟩, yS d0 v hf hr, hst,
  ⟨fun b hb => hb, fun b hb _ => hsame b hb, hx'.size, fun b _ h => h, fun b hb => .inl hb, hx'.os, hx'.output, hx'.tape⟩, fun _ _ h => h⟩
 ·intro i blk hi
  obtain ⟨l, g1, g2, g3⟩ := hm.mem i blk hi
  exact ⟨l, g1, g2, g3.mono hst fun hr => hsame _ (hm.lt i l g1 hr)⟩
 ·intro i l g1 g2
  exact Nat.lt_of_lt_of_le (hm.lt i l g1 g2) hx'.size
end
set_option maxRecDepth 100000
section
variable {C : Cfg} {w w' W W' : World} {S S' : Nat → Prop} {φ φ' : bA} {a : Act} {env tl : Env} {mem mem' : Mem} {nx nx' : Nat} {x : Rx} {s : St}
structure Grown (w w' : World) : Prop where
 size : w.heap.size ≤ w'.heap.size
 same : ∀ b, b < w.heap.size → w'.heap[b]? = w.heap[b]?
 os : w'.os = w.os
 output : w'.output = w.output
 tape : w'.tape = w.tape
theorem Grown.ext (h : Grown w w') : Ext S φ mem w S φ mem w' := ⟨fun _ h => h, fun b hb _ => h.same b hb, h.size, fun _ _ h => h, fun _ h => .inl h, h.os, h.output, h.tape⟩
end
section
variable {C : Cfg} {Q : Exit → St → Prop} {env : Env} {mem : Mem} {nx : Nat}
end
section
variable {C : Cfg} {w : World} {S : Nat → Prop} {φ : bA} {a : Act} {env tl : Env} {mem : Mem} {nx : Nat}
end
section
variable {P : Program} {ty e : TypeId} {f : FuncId} {r : D} {es : List (List D)}
theorem LQ (hu : P.underlying ty = some (.slice e)) (h : es ≠ []) : bF P .eql ty (.sl es) (.pl (.slice none 0 0)) = some (.pl (.bool false)) := by
 cases es with
 | nil => exact absurd rfl h
 | cons a l => simp [bF, nilS, hu]
theorem K_ (hu : P.underlying ty = some (.slice e)) {p : Addr} {n c : Nat} : bF P .eql ty (.pl (.slice (some p) n c)) (.pl (.slice none 0 0)) = some (.pl (.bool false)) := by
 simp [bF, nilS, hu, lit]
theorem KU (hu : P.underlying ty = some (.slice e)) : Sem.look P (Op.equal ty (.slice none 0 0) (.slice none 0 0)) = some true := by
 unfold Op.equal Op.maxDepth Op.equalIn
 simp [nX, underlying, program, Bind.bind, Sem.bind, Sem.look, hu, Pure.pure]
theorem NO (hu : P.underlying ty = some (.slice e)) : bF P .eql ty (.pl (.slice none 0 0)) (.pl (.slice none 0 0)) = some (.pl (.bool true)) := by
 simp only [bF, lit, Bool.and_self, if_true]
 rw [show binOp .eql ty (.slice none 0 0) (.slice none 0 0) = (Op.equal ty (.slice none 0 0) (.slice none 0 0) >>= fun b => pure (.bool b)) from rfl, nX, KU hu]
 rfl
theorem DP (h1 : Pure P f [.pl (.slice none 0 0)] r) (h2 : ∀ p c, Pure P f [.pl (.slice (some p) 0 c)] r) (h3 : es ≠ [] → Pure P f [.sl es] r) : Pure P f [.sl es] r := by
 by_cases he : es = []
 ·subst he
  refine ⟨h1.1, fun S w xs hS hx => ?_⟩
  simp only [RepVs] at hx
  obtain ⟨x, rest, rfl, hx, rfl⟩ := hx
  simp only [Rep] at hx
  have hz : x = .slice none 0 0 ∨ ∃ p c, x = .slice (some p) 0 c := by
   rcases hx with ⟨_, hz | ⟨p, hz⟩⟩ | ⟨b, o, cap, k, hz, _⟩
   ·exact .inl hz
   ·exact .inr ⟨p, 0, hz⟩
   ·exact .inr ⟨_, cap, hz⟩
  rcases hz with rfl | ⟨p, c, rfl⟩
  ·exact h1.2 S w _ hS (by simp [RepVs, Rep])
  ·exact (h2 p c).2 S w _ hS (by simp [RepVs, Rep])
 ·exact h3 he
end
end Go.Fx
set_option maxHeartbeats 4000000
namespace Go.Fx.YtlhdpfaohphbaaaGreat
open Go Go.Fx Go.Proofs
def okT (ts : List Int) : Prop := ∀ t ∈ ts, 0 ≤ tp t
instance (ts : List Int) : Decidable (okT ts) := by unfold okT; infer_instance
def pr : List Int → Int
 | [] => 1
 | t :: ts => (tp t + 1) * pr ts
def dI (ts : List Int) : Int × Int := if okT ts then (if 4096 < pr ts then (0, 22) else (pr ts, 0)) else (0, 3)
theorem wF (t : Int) (ts : List Int) : pr (t :: ts) = (tp t + 1) * pr ts := rfl
theorem iY (t : Int) : tp t = -1 ∨ tp t = 1 ∨ tp t = 3 := by
 rcases tS t with ⟨_, h⟩ | ⟨_, h⟩ | ⟨_, h⟩ | ⟨_, _, _, h⟩ <;> simp [h]
theorem EL : ∀ (ts : List Int), 0 ≤ pr ts
 | [] => by simp [pr]
 | t :: ts => by
  unfold pr
  rcases iY t with h | h | h <;> rw [h] <;> have := EL ts <;> omega
theorem okT_tl {t : Int} {ts : List Int} (h : okT (t :: ts)) : 0 ≤ tp t ∧ okT ts := ⟨h t (by simp), fun u hu => h u (by simp [hu])⟩
theorem zW {ts : List Int} (h : okT ts) (i : Nat) : okT (ts.drop i) := fun t ht => h t (List.mem_of_mem_drop ht)
theorem o5 : ∀ {ts : List Int}, okT ts → 1 ≤ pr ts
 | [], _ => by simp [pr]
 | t :: ts, h => by
  unfold pr
  obtain ⟨h1, h2⟩ := okT_tl h
  have := o5 h2
  rcases iY t with h | h | h <;> rw [h] <;> omega
theorem LY {a P : Int} (hP : 0 ≤ P) : min (min a 4097 * P) 4097 = min (a * P) 4097 := by
 by_cases h : a ≤ 4097
 ·have e : min a 4097 = a := Int.min_eq_left h
  rw [e]
 ·have e : min a 4097 = 4097 := Int.min_eq_right (by omega)
  rw [e]
  by_cases h0 : P = 0
  ·subst h0; simp
  ·have h1 : 4097 * 1 ≤ 4097 * P := Int.mul_le_mul_of_nonneg_left (by omega) (by omega)
   have h2 : 4097 * P ≤ a * P := Int.mul_le_mul_of_nonneg_right (by omega) hP
   omega
theorem yH {l : List Int} {i : Nat} (h : i < l.length) : l.drop i = l[i] :: l.drop (i + 1) := List.drop_eq_getElem_cons h
theorem wrS {x : Int} (h1 : -100000 ≤ x) (h2 : x ≤ 100000) : IntKind.i64.wrap x = x := aS (by omega) (by omega)
theorem uB (t : Int) : Pure Tryz.prog 83 [I t] (.tup [I (if tp t < 0 then 1 else tp t + 1), I (if tp t < 0 then 3 else 0)]) := by
 refine fi83.pu (by simp) ?_
 simp -implicitDefEqProofs [ac83]
 refine aG (Top_c t) (by simp) ?_
 simp -implicitDefEqProofs
 have w := wrS (x := tp t + 1) (by have := iY t; omega) (by have := iY t; omega)
 by_cases h : tp t < 0
 ·simp -implicitDefEqProofs [nI, h]
  decide
 ·simp -implicitDefEqProofs [nI, h, w]
theorem rT (ts : List Int) (hl : ts.length < 2 ^ 48) : Pure Tryz.prog 82 [.sl (em bH ts)] (.tup [I (dI ts).1, I (dI ts).2]) := by
 refine fi82.pu (by simp) ?_
 simp -implicitDefEqProofs [ac82]
 refine lpG cf82 lb82_0 [2, 3, 4, 6, 7, 8, 11] (α := Nat × Int) (fun s _ => [(2, .top), (3, .top), (4, I s.2), (6, .top), (7, .top), (8, .top), (11, I s.1)]) (fun s _ => []) (fun s k => s.1 ≤ ts.length ∧ okT (ts.take s.1) ∧ 1 ≤ s.2 ∧ s.2 ≤ 4097 ∧ min (s.2 * pr (ts.drop s.1)) 4097 = min (pr ts) 4097) (fun s => ts.length - s.1) (0, 1) ⟨by simp, by simp [okT], by simp, by simp, by simp⟩ (by simp) (by simp) ?_
 rintro ⟨i, n⟩ k ⟨hi, ho, hn1, hn2, hp⟩
 simp only at hi ho hn1 hn2 hp
 by_cases hlt : i < ts.length
 ·obtain ⟨t, ht⟩ : ∃ t, ts[i] = t := ⟨_, rfl⟩
  rw [yH hlt, ht] at hp
  rw [wF] at hp
  have w1 := aS (x := (i : Int) + 1) (by omega) (by omega)
  simp -implicitDefEqProofs [lb82_0, hlt, ht]
  refine aG (uB t) (by simp) ?_
  simp -implicitDefEqProofs
  by_cases hb : tp t < 0
  ·have hno : ¬ okT ts := fun h => by have := h t (ht ▸ List.getElem_mem hlt); omega
   have hb1 : ¬ 0 ≤ tp t := by omega
   simp -implicitDefEqProofs [hb, hb1, dI, hno]
  ·have hb1 : 0 ≤ tp t := by omega
   have hk : 2 ≤ tp t + 1 ∧ tp t + 1 ≤ 4 := by have := iY t; omega
   have hm : 0 ≤ n * (tp t + 1) ∧ n * (tp t + 1) ≤ 20000 ∧ 1 ≤ n * (tp t + 1) := by
    obtain ⟨h1, h2⟩ := hk
    rcases iY t with h | h | h <;> rw [h] <;> omega
   have w2 := wrS (x := n * (tp t + 1)) (by omega) (by omega)
   simp -implicitDefEqProofs [hb, hb1, w1, w2]
   refine aI (i + 1, min (n * (tp t + 1)) 4097) ⟨hlt, ?_, by simp only; omega, by simp only; omega, ?_⟩ (by simp only; omega) (by simp) (by simp)
   ·simp only
    rw [List.take_succ_eq_append_getElem hlt, ht]
    intro u hu
    rcases List.mem_append.1 hu with h | h
    ·exact ho u h
    ·simp only [List.mem_singleton] at h; subst h; omega
   ·simp only
    rw [LY (EL _), Int.mul_assoc]
    exact hp
 ·have hil : i = ts.length := by omega
  subst hil
  rw [List.take_length] at ho
  rw [List.drop_length] at hp
  simp only [pr, Int.mul_one] at hp
  have hnl : ¬ (ts.length < ts.length) := by omega
  by_cases hbig : 4096 < n
  ·have : 4096 < pr ts := by omega
   simp -implicitDefEqProofs [lb82_0, hbig, dI, ho, this]
  ·have h1 : ¬ 4096 < pr ts := by omega
   have h2 : n = pr ts := by omega
   subst h2
   simp -implicitDefEqProofs [lb82_0, dI, ho, h1]
theorem r8 (ts : List Int) (hl : ts.length < 2 ^ 48) : Pure Tryz.prog 31 [.sl (em bH ts)] (.tup [I (dI ts).1, I (dI ts).2]) := by
 refine fi31.pu (by simp) ?_
 simp -implicitDefEqProofs [ac31]
 refine lpG cf31 lb31_1 [2, 3, 4] (α := Nat) (fun s _ => [(2, .top), (3, .top), (4, I s)]) (fun s _ => []) (fun s k => s ≤ ts.length ∧ okT (ts.take s)) (fun s => ts.length - s) 0 ⟨by simp, by simp [okT]⟩ (by simp) (by simp) ?_
 rintro i k ⟨hi, ho⟩
 by_cases hlt : i < ts.length
 ·obtain ⟨t, ht⟩ : ∃ t, ts[i] = t := ⟨_, rfl⟩
  have w1 := aS (x := (i : Int) + 1) (by omega) (by omega)
  simp -implicitDefEqProofs [lb31_1, hlt, ht]
  refine aG (qH t) (by simp) ?_
  simp -implicitDefEqProofs
  by_cases hb : tp t < 0
  ·have hno : ¬ okT ts := fun h => by have := h t (ht ▸ List.getElem_mem hlt); omega
   have hb1 : ¬ 0 ≤ tp t := by omega
   simp -implicitDefEqProofs [hb, hb1, dI, hno]
  ·have hb1 : 0 ≤ tp t := by omega
   simp -implicitDefEqProofs [hb, hb1, w1]
   refine aI (i + 1) ⟨hlt, ?_⟩ (by omega) (by simp) (by simp)
   rw [List.take_succ_eq_append_getElem hlt, ht]
   intro u hu
   rcases List.mem_append.1 hu with h | h
   ·exact ho u h
   ·simp only [List.mem_singleton] at h; subst h; omega
 ·have hil : i = ts.length := by omega
  subst hil
  rw [List.take_length] at ho
  simp -implicitDefEqProofs [lb31_1]
  refine lpG cf31 lb31_0 [2, 3, 5, 6] (α := Nat × Int) (fun s _ => [(2, .top), (3, .top), (5, I s.2), (6, I s.1)]) (fun s _ => []) (fun s k => s.1 ≤ ts.length ∧ 1 ≤ s.2 ∧ s.2 ≤ 4096 ∧ s.2 * pr (ts.drop s.1) = pr ts) (fun s => ts.length - s.1) (0, 1) ⟨by simp, by simp, by simp, by simp⟩ (by simp) (by simp) ?_
  rintro ⟨i, n⟩ k ⟨hi, hn1, hn2, hp⟩
  simp only at hi hn1 hn2 hp
  by_cases hlt : i < ts.length
  ·obtain ⟨t, ht⟩ : ∃ t, ts[i] = t := ⟨_, rfl⟩
   have hto : 0 ≤ tp t := ho t (ht ▸ List.getElem_mem hlt)
   rw [yH hlt, ht] at hp
   rw [wF] at hp
   have hP := o5 (zW ho (i + 1))
   have w1 := aS (x := (i : Int) + 1) (by omega) (by omega)
   have w0 := wrS (x := tp t + 1) (by omega) (by have := iY t; omega)
   have hm : 1 ≤ n * (tp t + 1) ∧ n * (tp t + 1) ≤ 20000 := by
    rcases iY t with h | h | h <;> rw [h] <;> omega
   have w2 := wrS (x := n * (tp t + 1)) (by omega) (by omega)
   simp -implicitDefEqProofs [lb31_0, hlt, ht]
   refine aG (qH t) (by simp) ?_
   simp -implicitDefEqProofs
   rw [← Int.mul_assoc] at hp
   by_cases hbig : 4096 < n * (tp t + 1)
   ·have : 4096 < pr ts := by
     have : n * (tp t + 1) * 1 ≤ n * (tp t + 1) * pr (ts.drop (i + 1)) := Int.mul_le_mul_of_nonneg_left hP (by omega)
     omega
    simp -implicitDefEqProofs [w0, w2, hbig, Int.not_le.2 hbig, dI, ho, this]
   ·simp -implicitDefEqProofs [w0, w1, w2, hbig, Int.not_lt.1 hbig]
    exact aI (i + 1, n * (tp t + 1)) ⟨hlt, hm.1, by simp only; omega, hp⟩ (by simp only; omega) (by simp) (by simp)
  ·rw [List.drop_eq_nil_of_le (by omega)] at hp
   simp only [pr, Int.mul_one] at hp
   subst hp
   have h1 : ¬ 4096 < pr ts := by omega
   simp -implicitDefEqProofs [lb31_0, hlt, dI, ho, h1]
theorem kR {ts : List Int} (h : (dI ts).2 = 0) : okT ts ∧ pr ts ≤ 4096 ∧ (dI ts).1 = pr ts := by
 unfold dI at h ⊢
 by_cases h1 : okT ts
 ·rw [if_pos h1] at h ⊢
  by_cases h2 : 4096 < pr ts
  ·rw [if_pos h2] at h; simp at h
  ·rw [if_neg h2]; exact ⟨h1, by omega, rfl⟩
 ·rw [if_neg h1] at h; simp at h
def vl : List Int → List Int → Int → Int
 | t :: ts, p :: ps, a => vl ts ps (a * (tp t + 1) + p)
 | _, _, a => a
def inT : List Int → List Int → Bool
 | t :: ts, p :: ps => decide (0 ≤ p ∧ p ≤ tp t) && inT ts ps
 | [], [] => true
 | _, _ => false
theorem pB (t p : Int) (ts ps : List Int) : inT (t :: ts) (p :: ps) = (decide (0 ≤ p ∧ p ≤ tp t) && inT ts ps) := rfl
theorem K9 (t p a : Int) (ts ps : List Int) : vl (t :: ts) (p :: ps) a = vl ts ps (a * (tp t + 1) + p) := rfl
theorem LC : inT [] [] = true := rfl
theorem vl_nil (a : Int) : vl [] [] a = a := rfl
def fI (ts ps : List Int) : Int × Int := if (dI ts).2 ≠ 0 then (0, (dI ts).2) else if ps.length ≠ ts.length then (0, 3) else if inT ts ps then (vl ts ps 0, 0) else (0, 2)
theorem KM {a k p P N : Int} (ha : 0 ≤ a) (h : (a + 1) * (k * P) ≤ N) (hp : 0 ≤ p) (hk : p < k) (hP : 1 ≤ P) : 0 ≤ a * k + p ∧ (a * k + p + 1) * P ≤ N ∧ a * k + p < N + 1 := by
 have h0 : 0 ≤ a * k := Int.mul_nonneg ha (by omega)
 have e : (a + 1) * k = a * k + k := by rw [Int.add_mul, Int.one_mul]
 have h1 : (a * k + p + 1) * P ≤ ((a + 1) * k) * P := Int.mul_le_mul_of_nonneg_right (by omega) (by omega)
 rw [Int.mul_assoc] at h1
 have h2 : (a * k + p + 1) * 1 ≤ (a * k + p + 1) * P := Int.mul_le_mul_of_nonneg_left hP (by omega)
 omega
theorem yV (ts ps : List Int) (hl : ts.length < 2 ^ 48) (hl2 : ps.length < 2 ^ 48) : Pure Tryz.prog 49 [.sl (em bH ts), .sl (em bH ps)] (.tup [I (fI ts ps).1, I (fI ts ps).2]) := by
 refine fi49.pu (by simp) ?_
 simp -implicitDefEqProofs [ac49]
 refine aG (rT ts hl) (by simp) ?_
 simp -implicitDefEqProofs
 by_cases he : (dI ts).2 = 0
 ·obtain ⟨ho, hp96, _⟩ := kR he
  by_cases hlen : ps.length = ts.length
  ·have hlen2 : (ps.length : Int) = (ts.length : Int) := by omega
   simp -implicitDefEqProofs [he, hlen2]
   refine lpG cf49 lb49_0 [4, 5, 8, 9, 10, 11, 12, 29] (α := Nat × Int) (fun s _ => [(4, .top), (5, .top), (8, I s.2), (9, .top), (10, .top), (11, .top), (12, .top), (29, I s.1)]) (fun s _ => []) (fun s k => s.1 ≤ ps.length ∧ 0 ≤ s.2 ∧ (s.2 + 1) * pr (ts.drop s.1) ≤ pr ts ∧ inT (ts.drop s.1) (ps.drop s.1) = inT ts ps ∧ vl (ts.drop s.1) (ps.drop s.1) s.2 = vl ts ps 0) (fun s => ps.length - s.1) (0, 0) ⟨by simp, by simp, by simp, by simp, by simp⟩ (by simp) (by simp) ?_
   rintro ⟨i, a⟩ k ⟨hi, ha, hb, hin, hv⟩
   simp only at hi ha hb hin hv
   by_cases hlt : i < ps.length
   ·have hlt2 : i < ts.length := by omega
    obtain ⟨t, ht⟩ : ∃ t, ts[i] = t := ⟨_, rfl⟩
    obtain ⟨p, hp⟩ : ∃ p, ps[i] = p := ⟨_, rfl⟩
    have hto : 0 ≤ tp t := ho t (ht ▸ List.getElem_mem hlt2)
    rw [yH hlt2, ht] at hb hin hv
    rw [yH hlt, hp] at hin hv
    rw [wF] at hb
    rw [pB] at hin
    rw [K9] at hv
    have hP := o5 (zW ho (i + 1))
    have w1 := aS (x := (i : Int) + 1) (by omega) (by omega)
    have hltn : (i : Int) < (ts.length : Int) := by omega
    simp -implicitDefEqProofs [lb49_0, hlt, hlt2, ht, hp, hltn]
    refine aG (iG t p) (by simp) ?_
    simp -implicitDefEqProofs
    by_cases hc : 0 ≤ p ∧ p ≤ tp t
    ·have hck : ck t p = 0 := yM.2 hc
     obtain ⟨s1, s2, s3⟩ := KM ha hb hc.1 (by omega) hP
     have hak : 0 ≤ a * (tp t + 1) := Int.mul_nonneg ha (by omega)
     have w2 := wrS (x := a * (tp t + 1)) (by omega) (by omega)
     have w3 := wrS (x := a * (tp t + 1) + p) (by omega) (by omega)
     have hnb : ¬ tp t < 0 := by omega
     simp -implicitDefEqProofs [hck, hlt2, ht, hltn]
     refine aG (uB t) (by simp) ?_
     simp -implicitDefEqProofs [hnb, w1, w2, w3]
     exact aI (i + 1, a * (tp t + 1) + p) ⟨hlt, s1, s2, by simpa [hc] using hin, hv⟩ (by simp only; omega) (by simp) (by simp)
    ·have hck : ck t p = 2 := by unfold ck; rw [if_neg (by omega), if_neg hc]
     have hno : inT ts ps = false := by rw [← hin]; simp [hc]
     simp -implicitDefEqProofs [hck, fI, he, hlen, hno]
   ·rw [List.drop_eq_nil_of_le (by omega), List.drop_eq_nil_of_le (by omega)] at hin hv
    rw [LC] at hin
    rw [vl_nil] at hv
    have hlt2 : ¬ i < ts.length := by omega
    simp -implicitDefEqProofs [lb49_0, hlt2, fI, he, hlen, hin.symm, hv.symm]
  ·have hlen2 : ¬ (ps.length : Int) = (ts.length : Int) := by omega
   simp -implicitDefEqProofs [he, hlen2, fI, hlen]
 ·simp -implicitDefEqProofs [he, fI]
set_option maxRecDepth 1000000
set_option maxHeartbeats 0
noncomputable def cf112 : Cfg := ⟨Tryz.prog, 6, [0, 2], []⟩
noncomputable def ac112 : AC :=
 (.seq (.reg [JI 2 0]) (.seq (.reg [JA 3 0, JO 4 (.bin .add 3 (.t 3) (JT 31)), JO 5 (.bin .quo 3 (.t 4) (JT 32)), JB 2 5]) .ret))
theorem fi112 : FI Tryz.prog 112 cf112 ac112 [.t 2] [0, 2] 6 := FI_of (c := Tryz.f112.body.getD .skip) Tryz.func112 (by kernel_rfl) (by rfl) (by rfl) (by kernel_rfl) (by kernel_rfl) rfl rfl rfl
@[simp] theorem cfP112 : cf112.P = Tryz.prog := (rfl)
noncomputable def cf84 : Cfg := ⟨Tryz.prog, 16, [0, 2, 3], []⟩
noncomputable def ac84 : AC :=
 (.seq (.reg [JP 2 (.al [JV, JW]), JI 3 0]) (.seq (.ifr [JA 4 0, JO 5 (.bin .lss 3 (.t 4) (JT 0)), JC 6 5, JR 7 6 (.mv (.g 0)), JR 8 6 (.bin .gtr 3 (.t 7) (JT 4096)), JO 9 (.pick (.t 6) JX (.t 8))] (.t 9) (.seq (.reg [JO 10 (.bld [JV, JW] []), JQ (.st 2 (.g 2) (.t 10)), JI 3 2]) .ret) .skip) (.seq (.reg [JA 11 0, JA 12 0, JO 13 (.pc (.f 112) [.t 12]), JO 14 (.mki 1 8 [.int .u64 0] (.t 13)), JO 15 (.bld [JV, JW] [(0, 1, .t 11), (1, 1, .t 14)]), JQ (.st 2 (.g 2) (.t 15)), JI 3 0]) .ret)))
theorem fi84 : FI Tryz.prog 84 cf84 ac84 [.c 2 true 2, .t 3] [0, 2, 3] 16 := FI_of (c := Tryz.f84.body.getD .skip) Tryz.func84 (by kernel_rfl) (by rfl) (by rfl) (by kernel_rfl) (by kernel_rfl) rfl rfl rfl
@[simp] theorem cfP84 : cf84.P = Tryz.prog := (rfl)
noncomputable def cf87 : Cfg := ⟨Tryz.prog, 40, [0, 1, 2, 3], []⟩
noncomputable def ac87 : AC :=
 (.seq (.reg [JN 1 0, JI 2 0]) (.seq (.ifr [JG 4 0 1, JD 5 1 4, JO 6 (.bin .lss 3 (.t 5) (JT 0)), JC 7 6, JR 8 7 (.fa 0 (.g 1)), JR 9 7 (.ld false 1 (.t 8)), JR 10 7 (.bin .gtr 3 (.t 9) (JT 4096)), JO 11 (.pick (.t 7) JX (.t 10)), JC 12 11, JR 13 12 (.fa 1 (.g 1)), JR 14 12 (.ld false 1 (.t 13)), JR 15 12 (.len false (.t 14)), JR 16 12 (.fa 0 (.g 1)), JR 17 12 (.ld false 1 (.t 16)), JR 18 12 (.pc (.f 112) [.t 17]), JR 19 12 (.bin .neq 3 (.t 15) (.t 18)), JO 20 (.pick (.t 12) JX (.t 19))] (.t 20) (.seq (.reg [JI 2 3]) .ret) .skip) (.seq (.seq (.reg [JG 21 0 1, JD 22 1 21, JO 23 (.bin .rem 3 (.t 22) (JT 32)), JB 3 23]) (.ifr [JA 24 3, JO 25 (.bin .gtr 3 (.t 24) (JT 0)), JC 26 25, JS 27 26 (.fa 1 (.g 1)), JS 28 26 (.ld false 1 (.t 27)), JS 29 26 (.fa 1 (.g 1)), JS 30 26 (.ld false 1 (.t 29)), JS 31 26 (.len false (.t 30)), JS 32 26 (.bin .sub 3 (.t 31) (JT 1)), JS 33 26 (.ia 1 (.t 28) (.t 32)), JS 34 26 (.ld false 1 (.t 33)), JS 35 26 (.mv (.g 3)), JS 36 26 (.bin .mul 3 (JT 2) (.t 35)), JS 37 26 (.bin .shr 85 (.t 34) (.t 36)), JS 38 26 (.bin .neq 85 (.t 37) (.c (.int .u64 0))), JO 39 (.pick (.t 26) (.t 38) JY)] (.t 39) (.seq (.reg [JI 2 3]) .ret) .skip)) (.seq (.reg [JI 2 0]) .ret))))
theorem fi87 : FI Tryz.prog 87 cf87 ac87 [.t 2] [0, 1, 2, 3] 40 := FI_of (c := Tryz.f87.body.getD .skip) Tryz.func87 (by kernel_rfl) (by rfl) (by rfl) (by kernel_rfl) (by kernel_rfl) rfl rfl rfl
@[simp] theorem cfP87 : cf87.P = Tryz.prog := (rfl)
noncomputable def cf55 : Cfg := ⟨Tryz.prog, 63, [0, 1, 2, 3, 6, 7, 8, 9, 10], []⟩
@[simp] theorem cfP55 : cf55.P = Tryz.prog := (rfl)
noncomputable def cf104 : Cfg := ⟨Tryz.prog, 32, [0, 1, 2, 4, 5, 6], []⟩
noncomputable def ac104 : AC :=
 (.seq (.reg [JN 2 0, JI 4 0, JI 5 0]) (.seq (.seq (.reg [JF 7 2 2, JO 8 (.pc (.f 87) [.t 7]), JB 6 8]) (.ifr [JA 9 6, JO 10 (.bin .neq 52 (.t 9) (JT 0))] (.t 10) (.seq (.reg [JA 11 6, JI 4 0, JB 5 11]) .ret) .skip)) (.seq (.ifr [JA 12 1, JO 13 (.bin .lss 3 (.t 12) (JT 0)), JC 14 13, JR 15 14 (.mv (.g 1)), JR 16 14 (.fa 0 (.g 2)), JR 17 14 (.ld false 1 (.t 16)), JR 18 14 (.bin .geq 3 (.t 15) (.t 17)), JO 19 (.pick (.t 14) JX (.t 18))] (.t 19) (.seq (.reg [JI 4 0, JI 5 2]) .ret) .skip) (.seq (.reg [JG 20 1 2, JD 21 1 20, JA 22 1, JO 23 (.bin .quo 3 (.t 22) (JT 32)), JL 24 1 21 23, JD 25 1 24, JA 26 1, JO 27 (.bin .rem 3 (.t 26) (JT 32)), JO 28 (.bin .mul 3 (JT 2) (.t 27)), JO 29 (.bin .shr 85 (.t 25) (.t 28)), JO 30 (.bin .and 85 (.t 29) (.c (.int .u64 3))), JO 31 (.cv 85 3 (.t 30)), JB 4 31, JI 5 0]) .ret))))
theorem fi104 : FI Tryz.prog 104 cf104 ac104 [.t 4, .t 5] [0, 1, 2, 4, 5, 6] 32 := FI_of (c := Tryz.f104.body.getD .skip) Tryz.func104 (by kernel_rfl) (by rfl) (by rfl) (by kernel_rfl) (by kernel_rfl) rfl rfl rfl
@[simp] theorem cfP104 : cf104.P = Tryz.prog := (rfl)
noncomputable def cf95 : Cfg := ⟨Tryz.prog, 58, [0, 1, 2, 4, 5, 6, 7, 8, 10, 11, 27, 28, 29], []⟩
noncomputable def lb95_0 : AC :=
 .seq (.ifr [JO 30 (.bin .lss 3 (.g 29) (.g 28))] (.t 30) .skip (.exit 0)) (.seq (.block 1 (.seq (.reg [JO 31 (.ia 1 (.g 27) (.g 29)), JD 32 1 31, JB 10 32]) (.seq (.reg [JA 33 10, JA 34 7, JO 35 (.bin .xor 85 (.t 33) (.t 34)), JB 11 35]) (.reg [JA 36 8, JA 37 11, JA 38 11, JO 39 (.bin .shr 85 (.t 38) (.c (.int .u64 1))), JO 40 (.bin .or 85 (.t 37) (.t 39)), JO 41 (.un .xor (.t 40)), JO 42 (.bin .and 85 (.t 41) (.c (.int .u64 6148914691236517205))), JO 43 (.pc (.f 129) [.t 42]), JO 44 (.bin .add 3 (.t 36) (.t 43)), JB 8 44])))) (.reg [JO 45 (.bin .add 3 (.g 29) (JT 1)), JB 29 45]))
noncomputable def ac95 : AC :=
 (.seq (.reg [JN 2 0, JI 4 0, JI 5 0]) (.seq (.seq (.reg [JF 12 2 2, JO 13 (.pc (.f 87) [.t 12]), JB 6 13]) (.ifr [JA 14 6, JO 15 (.bin .neq 52 (.t 14) (JT 0))] (.t 15) (.seq (.reg [JA 16 6, JI 4 0, JB 5 16]) .ret) .skip)) (.seq (.ifr [JA 17 1, JO 18 (.bin .lss 3 (.t 17) (JT 0)), JC 19 18, JR 20 19 (.mv (.g 1)), JR 21 19 (.bin .gtr 3 (.t 20) (JT 3)), JO 22 (.pick (.t 19) JX (.t 21))] (.t 22) (.seq (.reg [JI 4 0, JI 5 2]) .ret) .skip) (.seq (.reg [JA 23 1, JO 24 (.cv 3 85 (.t 23)), JO 25 (.bin .mul 85 (.t 24) (.c (.int .u64 6148914691236517205))), JB 7 25]) (.seq (.reg [JI 8 0]) (.seq (.seq (.reg [JG 26 1 2, JP 27 (.ld false 1 (.t 26)), JP 28 (.len false (.g 27)), JI 29 0]) (.block 0 (.loop lb95_0))) (.seq (.ifr [JA 46 1, JO 47 (.bin .eql 3 (.t 46) (JT 0))] (.t 47) (.reg [JA 48 8, JG 49 1 2, JD 50 1 49, JO 51 (.len false (.t 50)), JO 52 (.bin .mul 3 (JT 32) (.t 51)), JG 53 0 2, JD 54 1 53, JO 55 (.bin .sub 3 (.t 52) (.t 54)), JO 56 (.bin .sub 3 (.t 48) (.t 55)), JB 8 56]) .skip) (.seq (.reg [JA 57 8, JB 4 57, JI 5 0]) .ret))))))))
theorem fi95 : FI Tryz.prog 95 cf95 ac95 [.t 4, .t 5] [0, 1, 2, 4, 5, 6, 7, 8, 10, 11, 27, 28, 29] 58 := FI_of (c := Tryz.f95.body.getD .skip) Tryz.func95 (by kernel_rfl) (by rfl) (by rfl) (by kernel_rfl) (by kernel_rfl) rfl rfl rfl
@[simp] theorem cfP95 : cf95.P = Tryz.prog := (rfl)
noncomputable def cf57 : Cfg := ⟨Tryz.prog, 38, [0, 1, 2, 3, 4, 5], []⟩
@[simp] theorem cfP57 : cf57.P = Tryz.prog := (rfl)
noncomputable def cf59 : Cfg := ⟨Tryz.prog, 57, [0, 1, 2, 3, 4, 5, 6], [53]⟩
@[simp] theorem cfP59 : cf59.P = Tryz.prog := (rfl)
noncomputable def cf64 : Cfg := ⟨Tryz.prog, 45, [0, 2, 3, 4], [20]⟩
noncomputable def lb64_0 : AC :=
 .seq (.ifr [JA 8 4, JA 9 0, JO 10 (.len false (.t 9)), JO 11 (.bin .lss 3 (.t 8) (.t 10))] (.t 11) .skip (.exit 0)) (.seq (.block 1 (.seq (.ifr [JA 14 4, JO 15 (.bin .rem 3 (.t 14) (JT 32)), JO 16 (.bin .eql 3 (.t 15) (JT 0))] (.t 16) (.reg [JG 17 1 3, JD 18 1 17, JO 19 (.bsl 1 1 [.int .u64 0] [(0, 1, .c (.int .u64 0))]), JO 20 (.app 1 8 [.int .u64 0] (.t 18) (.t 19)), JG 21 1 3, JQ (.st 1 (.t 21) (.t 20))]) .skip) (.reg [JG 22 1 3, JD 23 1 22, JA 24 4, JO 25 (.bin .quo 3 (.t 24) (JT 32)), JG 26 1 3, JD 27 1 26, JA 28 4, JO 29 (.bin .quo 3 (.t 28) (JT 32)), JL 30 1 27 29, JD 31 1 30, JA 32 0, JA 33 4, JL 34 1 32 33, JD 35 1 34, JO 36 (.cv 3 85 (.t 35)), JA 37 4, JO 38 (.bin .rem 3 (.t 37) (JT 32)), JO 39 (.bin .mul 3 (JT 2) (.t 38)), JO 40 (.cv 3 176 (.t 39)), JO 41 (.bin .shl 85 (.t 36) (.t 40)), JO 42 (.bin .or 85 (.t 31) (.t 41)), JL 43 1 23 25, JQ (.st 1 (.t 43) (.t 42))]))) (.reg [JA 12 4, JO 13 (.bin .add 3 (.t 12) (JT 1)), JB 4 13]))
noncomputable def ac64 : AC :=
 (.seq (.reg [JP 2 (.al [JV, JW])]) (.seq (.reg [JA 5 0, JO 6 (.len false (.t 5)), JO 7 (.bld [JV, JW] [(0, 1, .t 6)]), JP 3 (.al [JV, JW]), JQ (.st 2 (.g 3) (.t 7))]) (.seq (.seq (.reg [JI 4 0]) (.block 0 (.loop lb64_0))) (.seq (.reg [JF 44 2 3, JQ (.st 2 (.g 2) (.t 44))]) .ret))))
theorem fi64 : FI Tryz.prog 64 cf64 ac64 [.c 2 true 2] [0, 2, 3, 4] 45 := FI_of (c := Tryz.f64.body.getD .skip) Tryz.func64 (by kernel_rfl) (by rfl) (by rfl) (by kernel_rfl) (by kernel_rfl) rfl rfl rfl
@[simp] theorem cfP64 : cf64.P = Tryz.prog := (rfl)
noncomputable def cf129 : Cfg := ⟨Tryz.prog, 35, [0, 2], []⟩
noncomputable def ac129 : AC :=
 (.seq (.reg [JI 2 0]) (.seq (.reg [JA 3 0, JO 4 (.bin .shr 85 (.t 3) (.c (.int .u64 1))), JO 5 (.bin .and 85 (.t 4) (.c (.int .u64 6148914691236517205))), JA 6 0, JO 7 (.bin .and 85 (.t 6) (.c (.int .u64 6148914691236517205))), JO 8 (.bin .add 85 (.t 5) (.t 7)), JB 0 8]) (.seq (.reg [JA 9 0, JO 10 (.bin .shr 85 (.t 9) (.c (.int .u64 2))), JO 11 (.bin .and 85 (.t 10) (.c (.int .u64 3689348814741910323))), JA 12 0, JO 13 (.bin .and 85 (.t 12) (.c (.int .u64 3689348814741910323))), JO 14 (.bin .add 85 (.t 11) (.t 13)), JB 0 14]) (.seq (.reg [JA 15 0, JO 16 (.bin .shr 85 (.t 15) (.c (.int .u64 4))), JA 17 0, JO 18 (.bin .add 85 (.t 16) (.t 17)), JO 19 (.bin .and 85 (.t 18) (.c (.int .u64 1085102592571150095))), JB 0 19]) (.seq (.reg [JA 20 0, JA 21 0, JO 22 (.bin .shr 85 (.t 21) (.c (.int .u64 8))), JO 23 (.bin .add 85 (.t 20) (.t 22)), JB 0 23]) (.seq (.reg [JA 24 0, JA 25 0, JO 26 (.bin .shr 85 (.t 25) (.c (.int .u64 16))), JO 27 (.bin .add 85 (.t 24) (.t 26)), JB 0 27]) (.seq (.reg [JA 28 0, JA 29 0, JO 30 (.bin .shr 85 (.t 29) (.c (.int .u64 32))), JO 31 (.bin .add 85 (.t 28) (.t 30)), JB 0 31]) (.seq (.reg [JA 32 0, JO 33 (.cv 85 3 (.t 32)), JO 34 (.bin .and 3 (.t 33) (JT 127)), JB 2 34]) .ret))))))))
theorem fi129 : FI Tryz.prog 129 cf129 ac129 [.t 2] [0, 2] 35 := FI_of (c := Tryz.f129.body.getD .skip) Tryz.func129 (by kernel_rfl) (by rfl) (by rfl) (by kernel_rfl) (by kernel_rfl) rfl rfl rfl
@[simp] theorem cfP129 : cf129.P = Tryz.prog := (rfl)
@[simp] theorem NW {n : Int} : cvD Tryz.prog 3 85 (.pl (.int .i64 n)) = some (.pl (.int .u64 (IntKind.u64.wrap n))) := nE Tryz.underlying3 Tryz.underlying85
@[simp] theorem NX {n : Int} : cvD Tryz.prog 85 3 (.pl (.int .u64 n)) = some (.pl (.int .i64 (IntKind.i64.wrap n))) := nE Tryz.underlying85 Tryz.underlying3
set_option maxRecDepth 100000
abbrev row (n : Int) (l : List Int) : D := .agg [I n, .sl (em i8 l)]
theorem C_ {n : Int} (h0 : 0 ≤ n) (h1 : n ≤ 4096) : Pure Tryz.prog 112 [I n] (I ((n + 31) / 32)) := by
 refine fi112.pu (by simp) ?_
 simp -implicitDefEqProofs [ac112]
 rw [aS (x := n + 31) (by omega) (by omega), Int.tdiv_eq_ediv_of_nonneg (by omega), aS (by omega) (by omega)]
def dQ (n : Int) (l : List Int) : Prop := 0 ≤ n ∧ n ≤ 4096 ∧ (l.length : Int) = (n + 31) / 32 ∧ (0 < n % 32 → l[l.length - 1]?.getD 0 / 4 ^ (n % 32).toNat = 0)
instance (n : Int) (l : List Int) : Decidable (dQ n l) := by unfold dQ; infer_instance
def eG (n : Int) (l : List Int) : Int := if dQ n l then 0 else 3
theorem shr4 (x : Int) {p : Int} (h0 : 0 ≤ p) (h1 : p < 32) : jA .u64 x (IntKind.i64.wrap (2 * p)) = x / 4 ^ p.toNat := by
 unfold jA
 rw [aS (by omega) (by omega)]
 have : min (2 * p).toNat IntKind.u64.bits = 2 * p.toNat := by simp only [IntKind.bits]; omega
 rw [this, Int.pow_mul]
 exact Int.fdiv_eq_ediv_of_nonneg _ (Int.pow_nonneg (by decide))
theorem sF (n : Int) (l : List Int) : Pure Tryz.prog 87 [row n l] (I (eG n l)) := by
 refine fi87.pu (by simp) ?_
 simp -implicitDefEqProofs [ac87, row]
 refine ⟨fun h0 => ⟨fun h1 => ?_, fun h1 => ?_⟩, fun h0 => ?_⟩
 ·refine aG (C_ h0 h1) (by simp) ?_
  simp -implicitDefEqProofs
  refine ⟨fun hne => ?_, fun heq => ?_⟩
  ·simp [eG, dQ, hne]
  ·rw [Int.tmod_eq_emod_of_nonneg h0]
   refine ⟨fun hp => ?_, fun hp => ?_⟩
   ·have e1 : IntKind.i64.wrap (↑l.length - 1) = ↑l.length - 1 := aS (by omega) (by omega)
    have e2 : ((l.length : Int) - 1).toNat = l.length - 1 := by omega
    rw [shr4 _ (by omega) (by omega), e1, e2, aS (by omega) (by omega)]
    refine ⟨by omega, by omega, fun h => ?_, fun h => ?_⟩
    ·simp [eG, dQ, hp, h]
    ·simp [eG, dQ, h0, h1, heq, h]
   ·have : ¬ 0 < n % 32 := by omega
    simp [eG, dQ, h0, h1, heq, this]
 ·simp [eG, dQ]; omega
 ·simp [eG, dQ]; omega
def tup2 (n : Int) (l : List Int) (e : Int) : D := .tup [row n l, I e]
def newF (n : Int) : D := if 0 ≤ n ∧ n ≤ 4096 then tup2 n (List.replicate ((n + 31) / 32).toNat 0) 0 else tup2 0 [] 2
theorem New_c (n : Int) : Pure Tryz.prog 84 [I n] (newF n) := by
 refine fi84.pu (by simp) ?_
 simp -implicitDefEqProofs [ac84, row]
 refine ⟨fun h0 => ⟨fun h1 => ?_, fun h1 => ?_⟩, fun h0 => ?_⟩
 ·have : ¬ n ≤ 4096 := by omega
  simp [newF, tup2, this]
 ·refine aG (C_ h0 h1) (by simp) ?_
  simp -implicitDefEqProofs [newF, tup2, h0, h1]
  omega
 ·have : ¬ 0 ≤ n := by omega
  simp [newF, tup2, this]
def cR (l : List Int) (i : Nat) : Int := (l[i / 32]?.getD 0 / 4 ^ (i % 32)) % 4
def vT (n : Int) (l : List Int) : Prop := 0 ≤ n ∧ n ≤ 4096 ∧ (l.length : Int) = (n + 31) / 32 ∧ (∀ i : Nat, n ≤ i → i < 32 * l.length → cR l i = 0)
theorem B6 (l : List Int) (j : Nat) : 0 ≤ cR l j ∧ cR l j < 4 := ⟨Int.emod_nonneg _ (by decide), Int.emod_lt_of_pos _ (by decide)⟩
def cl (n : Int) (l : List Int) : List Int := (List.range n.toNat).map (cR l)
@[simp] theorem vM {n : Int} {l : List Int} : (cl n l).length = n.toNat := by simp [cl]
end Go.Fx.YtlhdpfaohphbaaaGreat
namespace Go.Fx.Rows
open Go
def wd : List Int → Int
 | [] => 0
 | c :: cs => c + 4 * wd cs
def jJ (c : Int) : Prop := 0 ≤ c ∧ c ≤ 3
theorem G5 : ∀ (xs : List Int) (c : Int), wd (xs ++ [c]) = wd xs + c * 4 ^ xs.length
 | [], c => by simp [wd]
 | x :: xs, c => by
  simp only [List.cons_append, wd, G5 xs c, List.length_cons, Int.pow_succ]
  rw [Int.mul_add, Int.add_assoc, Int.mul_comm (4 ^ xs.length) 4, ← Int.mul_assoc c, Int.mul_comm c 4, Int.mul_assoc 4 c]
theorem xO : ∀ (xs : List Int), (∀ x ∈ xs, jJ x) → 0 ≤ wd xs ∧ wd xs < 4 ^ xs.length
 | [], _ => by simp [wd]
 | x :: xs, h => by
  have h0 := h x (by simp)
  have ih := xO xs fun y hy => h y (by simp [hy])
  simp only [wd, List.length_cons, Int.pow_succ, jJ] at h0 ⊢
  omega
theorem sE : ∀ (k : Nat) (u : Int), 0 ≤ u → u < 4 ^ k → wd ((List.range k).map fun j => u / 4 ^ j % 4) = u
 | 0, u, h0, h1 => by simp at h1; simp [wd]; omega
 | k + 1, u, h0, h1 => by
  have ih := sE k (u / 4) (by omega) (by rw [Int.pow_succ] at h1; omega)
  rw [List.range_succ_eq_map, List.map_cons, List.map_map]
  simp only [wd, Function.comp_def]
  have : (fun j : Nat => u / 4 ^ (j + 1) % 4) = fun j => u / 4 / 4 ^ j % 4 := by
   funext j
   rw [Int.pow_succ, Int.mul_comm (4 ^ j) 4, ← Int.ediv_ediv_of_nonneg (by decide)]
  simp only [Nat.succ_eq_add_one, this, ih, Int.pow_zero, Int.ediv_one]
  omega
def c8 (cs : List Int) : List Int := (List.range ((cs.length + 31) / 32)).map fun q => wd ((cs.drop (32 * q)).take 32)
theorem eL (cs : List Int) : (c8 cs).length = (cs.length + 31) / 32 := by simp [c8]
theorem iF (cs : List Int) (q : Nat) (hq : q < (cs.length + 31) / 32) : (c8 cs)[q]? = some (wd ((cs.drop (32 * q)).take 32)) := by
 simp [c8, hq]
theorem GK {cs : List Int} {c : Int} (h : cs.length % 32 = 0) : c8 (cs ++ [c]) = c8 cs ++ [c] := by
 apply List.ext_getElem?
 intro q
 by_cases hq : q < (cs.length + 31) / 32
 ·rw [iF _ _ (by simp; omega), List.getElem?_append_left (by rw [eL]; exact hq), iF _ _ hq]
  congr 2
  rw [List.drop_append_of_le_length (by omega), List.take_append_of_le_length (by simp; omega)]
 ·by_cases hq' : q = cs.length / 32
  ·subst hq'
   rw [iF _ _ (by simp; omega), List.getElem?_append_right (by rw [eL]; omega), eL]
   have e : 32 * (cs.length / 32) = cs.length := by omega
   rw [e, List.drop_append_of_le_length (by omega), List.drop_length]
   have : cs.length / 32 - (cs.length + 31) / 32 = 0 := by omega
   simp [this, wd]
  ·rw [List.getElem?_eq_none (by simp [eL]; omega), List.getElem?_eq_none (by simp [eL]; omega)]
theorem EE {cs : List Int} {c : Int} (h : cs.length % 32 ≠ 0) :
  c8 (cs ++ [c]) = (c8 cs).set (cs.length / 32) (wd (cs.drop (32 * (cs.length / 32))) + c * 4 ^ (cs.length % 32)) := by
 apply List.ext_getElem?
 intro q
 by_cases hq : q < (cs.length + 31) / 32
 ·rw [iF _ _ (by simp; omega)]
  by_cases hq' : q = cs.length / 32
  ·subst hq'
   rw [List.getElem?_set_self (by rw [eL]; exact hq), List.drop_append_of_le_length (by omega), List.take_of_length_le (by simp; omega), G5]
   simp only [List.length_drop]
   rw [show cs.length - 32 * (cs.length / 32) = cs.length % 32 by omega]
  ·rw [List.getElem?_set_ne (fun e => hq' e.symm), iF _ _ hq, List.drop_append_of_le_length (by omega), List.take_append_of_le_length (by simp; omega)]
 ·rw [List.getElem?_eq_none (by simp [eL]; omega), List.getElem?_eq_none (by simp [eL]; omega)]
end Go.Fx.Rows
namespace Go.Fx.YtlhdpfaohphbaaaGreat
open Go Go.Fx Go.Proofs Go.Fx.Rows
attribute [local simp] lb64_0
theorem Pack_c (cs : List Int) (h4 : ∀ c ∈ cs, jJ c) (hl : cs.length ≤ 4096) : Pure Tryz.prog 64 [.sl (em bH cs)] (row cs.length (c8 cs)) := by
 refine fi64.pu (by simp) ?_
 simp -implicitDefEqProofs [ac64]
 refine xB (α := Nat) (fun i _ => [(0, D.sl (em bH cs)), (2, D.opt 0 0), (3, D.opt 4 0), (4, I i)])
  (fun i _ => [(7, .arr ((i + 31) / 32) 1 (em i8 (c8 (cs.take i)))), (4, .box [I cs.length, .osl 7 ((i + 31) / 32) 0 ((i + 31) / 32)]), (0, .box [I 0, .pl (.slice none 0 0)])])
  (fun i _ => i ≤ cs.length) (fun i => cs.length - i) ⟨0, 8, by simp, by simpa [c8, upd] using CN (C := cf64) (env := [(0, D.sl (em bH cs)), (2, D.opt 0 0), (3, D.opt 4 0), (4, I 0)]) (tl := []) (mem := [(4, .box [I cs.length, .pl (.slice none 0 0)]), (0, .box [I 0, .pl (.slice none 0 0)])]) (nx := 7) (id := 4) (off := 1) (k := 1) rfl rfl (.inl rfl)⟩ ?_
 rintro i nx hi
 have hpl : (c8 (cs.take i)).length = (i + 31) / 32 := by rw [eL]; simp; omega
 simp -implicitDefEqProofs [nE Tryz.underlying3 Tryz.underlying176, nE Tryz.underlying3 Tryz.underlying85, hpl]
 refine ⟨fun hlt => ?_, fun hge => ?_⟩
 ·have hc4 : jJ (cs[i]?.getD 0) := by
   rw [List.getElem?_eq_getElem hlt]; exact h4 _ (List.getElem_mem hlt)
  have hc1 := hc4.1
  have hc2 := hc4.2
  have e1 : IntKind.i64.wrap ((i : Int) / 32) = i / 32 := aS (by omega) (by omega)
  have e1' : ((i : Int) / 32).toNat = i / 32 := by omega
  have e2 : IntKind.u64.wrap (IntKind.i64.wrap (2 * (i : Int).tmod 32)) = ((2 * (i % 32) : Nat) : Int) := by
   rw [Int.tmod_eq_emod_of_nonneg (by omega), aS (by omega) (by omega), pS (by omega) (by omega)]; omega
  have e3 : IntKind.u64.wrap (cs[i]?.getD 0) = cs[i]?.getD 0 := pS hc1 (by omega)
  have e4 : IntKind.i64.wrap ((i : Int) + 1) = ((i + 1 : Nat) : Int) := by rw [aS (by omega) (by omega)]; omega
  have e5 : (i : Int).tmod 32 = ((i % 32 : Nat) : Int) := by rw [Int.tmod_eq_emod_of_nonneg (by omega)]; omega
  have e6 : cs.take (i + 1) = cs.take i ++ [cs[i]?.getD 0] := by rw [List.take_succ, List.getElem?_eq_getElem hlt]; rfl
  have e7 : (cs.take i).length = i := by simp; omega
  have e8 : mE .u64 (cs[i]?.getD 0) ((2 * (i % 32) : Nat) : Int) = cs[i]?.getD 0 * 4 ^ (i % 32) := by
   have hp : (4 : Int) ^ (i % 32) ≤ 4 ^ 31 := by
    have : (4 : Nat) ^ (i % 32) ≤ 4 ^ 31 := Nat.pow_le_pow_right (by decide) (by omega)
    exact_mod_cast this
   have hb : cs[i]?.getD 0 * 4 ^ (i % 32) < 2 ^ 64 := by
    have h0 : (0 : Int) ≤ 4 ^ (i % 32) := Int.pow_nonneg (by decide)
    have : cs[i]?.getD 0 * 4 ^ (i % 32) ≤ 3 * 4 ^ 31 := Int.mul_le_mul hc2 hp h0 (by decide)
    have : (3 : Int) * 4 ^ 31 < 2 ^ 64 := by decide
    omega
   rw [D3 rfl (by omega) hc1 (by rw [Int.pow_mul]; exact hb), Int.pow_mul]
   rfl
  rw [e1, e2, e3, e4, e5, e1']
  refine ⟨fun h0 => ⟨by omega, ⟨by omega, by omega⟩, by omega, hlt, by omega, ⟨by omega, by omega⟩, by omega, ?_⟩, fun h0 => ⟨⟨by omega, by omega⟩, by omega, hlt, by omega, ⟨by omega, by omega⟩, by omega, ?_⟩⟩
  ·refine aI (i + 1) (by omega) (by omega) (qS _) ?_
   have hv : (i + 1 + 31) / 32 = (i + 31) / 32 + 1 := by omega
   have hk : i / 32 = (c8 (cs.take i)).length := by rw [hpl]; omega
   rw [e8, hv, e6, GK (by rw [e7]; omega), List.take_of_length_le (by omega), hk]
   have h00 : i % 32 = 0 := by omega
   have hor : bOr .u64 0 (cs[i]?.getD 0 * 4 ^ 0) = cs[i]?.getD 0 := by
    have := C8 (a := 0) (c := cs[i]?.getD 0) (j := 0) (by decide) (by decide) hc1 (by omega)
    simpa using this
   simp only [h00, List.getElem?_append_right (Nat.le_refl _), Nat.sub_self, List.getElem?_cons_zero, Option.getD_some, hor, List.set_append_right _ _ (Nat.le_refl _), List.set_cons_zero]
   exact aK _
  ·refine aI (i + 1) (by omega) (by omega) (qS _) ?_
   have hv : (i + 1 + 31) / 32 = (i + 31) / 32 := by omega
   have hsub : ∀ x ∈ (cs.take i).drop (32 * (i / 32)), jJ x := fun x hx => h4 x (List.mem_of_mem_take (List.mem_of_mem_drop hx))
   have hwb := xO _ hsub
   have hdl : ((cs.take i).drop (32 * (i / 32))).length = i % 32 := by simp; omega
   rw [hdl] at hwb
   have hget : (c8 (cs.take i))[i / 32]?.getD 0 = wd ((cs.take i).drop (32 * (i / 32))) := by
    rw [iF _ _ (by rw [e7]; omega), List.take_of_length_le (by rw [hdl]; omega)]; rfl
   have hor : bOr .u64 (wd ((cs.take i).drop (32 * (i / 32)))) (cs[i]?.getD 0 * 4 ^ (i % 32)) = wd ((cs.take i).drop (32 * (i / 32))) + cs[i]?.getD 0 * 4 ^ (i % 32) := by
    have h4p : (4 : Int) ^ (i % 32) = 2 ^ (2 * (i % 32)) := by rw [Int.pow_mul]; rfl
    rw [h4p] at hwb ⊢
    refine C8 hwb.1 hwb.2 hc1 ?_
    have : (2 : Int) ^ (2 * (i % 32)) ≤ 2 ^ 62 := by
     have : (2 : Nat) ^ (2 * (i % 32)) ≤ 2 ^ 62 := Nat.pow_le_pow_right (by decide) (by omega)
     exact_mod_cast this
    have hm : cs[i]?.getD 0 * 2 ^ (2 * (i % 32)) ≤ 3 * 2 ^ (2 * (i % 32)) := Int.mul_le_mul_of_nonneg_right hc2 (Int.pow_nonneg (by decide))
    omega
   rw [e8, hv, e6, EE (by rw [e7]; omega), e7, hget, hor]
   exact aK _
 ·have e : i = cs.length := by omega
  subst e
  rw [List.take_length, List.take_of_length_le (by rw [eL]; exact Nat.le_refl _)]
def getF (n : Int) (l : List Int) (i : Int) : D := if dQ n l then (if 0 ≤ i ∧ i < n then .tup [I (cR l i.toNat), I 0] else .tup [I 0, I 2]) else .tup [I 0, I 3]
theorem xK {n : Int} {l : List Int} : eG n l = 0 ↔ dQ n l := by unfold eG; split <;> simp [*]
theorem Get_c (n i : Int) (l : List Int) : Pure Tryz.prog 104 [row n l, I i] (getF n l i) := by
 refine fi104.pu (by simp) ?_
 simp -implicitDefEqProofs [ac104, row]
 refine aG (sF n l) (by simp) ?_
 simp -implicitDefEqProofs [nE Tryz.underlying85 Tryz.underlying3, xK]
 refine ⟨fun hg => ?_, fun hg => ⟨fun h0 => ⟨fun h1 => ?_, fun h1 => ?_⟩, fun h0 => ?_⟩⟩
 ·simp [getF, hg, eG]
 ·simp [getF, hg, h0]; omega
 ·have hg' := hg
  obtain ⟨g1, g2, g3, _⟩ := hg'
  have e1 : i.tdiv 32 = i / 32 := Int.tdiv_eq_ediv_of_nonneg h0
  have e2 : i.tmod 32 = i % 32 := Int.tmod_eq_emod_of_nonneg h0
  have e3 : (i / 32).toNat = i.toNat / 32 := by omega
  have e4 : (2 : Int) * (i % 32) = ((2 * (i.toNat % 32) : Nat) : Int) := by omega
  have hb : ∀ j, 0 ≤ cR l j ∧ cR l j < 4 := fun j => ⟨Int.emod_nonneg _ (by decide), Int.emod_lt_of_pos _ (by decide)⟩
  have hb' := hb i.toNat
  have e5 : lI .u64 (jA .u64 (l[i.toNat / 32]?.getD 0) ((2 * (i.toNat % 32) : Nat) : Int)) 3 = cR l i.toNat := by
   rw [bAnd3, qW _ _ rfl (by simp only [IntKind.bits]; omega), Int.pow_mul]; rfl
  rw [e1, e2, aS (x := i / 32) (by omega) (by omega), aS (x := 2 * (i % 32)) (by omega) (by omega), e3, e4, e5, aS (by omega) (by omega)]
  refine ⟨⟨by omega, by omega⟩, by omega, ?_⟩
  simp [getF, hg, h0, h1]
 ·have : ¬ 0 ≤ i := by omega
  simp [getF, hg, this]
def putW (u : Int) (j : Nat) (v : Int) : Int := bOr .u64 (bClr .u64 u (mE .u64 3 ((2 * j : Nat) : Int))) (mE .u64 v ((2 * j : Nat) : Int))
def pT (l : List Int) (i : Nat) (v : Int) : List Int := l.set (i / 32) (putW (l[i / 32]?.getD 0) (i % 32) v)
theorem KJ (k : Nat) : wd (List.replicate k 0) = 0 := by
 induction k with
 | zero => rfl
 | succ k ih => simp [List.replicate_succ, wd, ih]
theorem mI {n : Int} {l : List Int} (hw : ∀ u ∈ l, (Lit.int .u64 u).wf = true) : dQ n l ↔ vT n l := by
 unfold dQ vT
 refine ⟨fun ⟨h0, h1, h2, h3⟩ => ⟨h0, h1, h2, fun i hi hlt => ?_⟩, fun ⟨h0, h1, h2, h3⟩ => ⟨h0, h1, h2, fun hp => ?_⟩⟩
 ·have hp : 0 < n % 32 := by omega
  have h4 := h3 hp
  have e : i / 32 = l.length - 1 := by omega
  unfold cR
  rw [e]
  have e2 : i % 32 = (n % 32).toNat + (i % 32 - (n % 32).toNat) := by omega
  rw [e2, Int.pow_add, ← Int.ediv_ediv_of_nonneg (Int.pow_nonneg (by decide)), h4]
  simp
 ·have hl : l.length - 1 < l.length := by omega
  have hb := D0 (hw _ (List.getElem_mem hl))
  rw [List.getElem?_eq_getElem hl] at *
  simp only [Option.getD_some]
  have hp2 : (n % 32).toNat < 32 := by omega
  have e4 : (4 : Int) ^ 32 = 4 ^ (n % 32).toNat * 4 ^ (32 - (n % 32).toNat) := by rw [← Int.pow_add]; congr 1; omega
  have hpos : (0 : Int) < 4 ^ (n % 32).toNat := Int.pow_pos (by decide)
  have hlt : l[l.length - 1] / 4 ^ (n % 32).toNat < 4 ^ (32 - (n % 32).toNat) := by
   apply Int.ediv_lt_of_lt_mul hpos
   rw [Int.mul_comm, ← e4]
   have : (4 : Int) ^ 32 = 18446744073709551616 := by decide
   omega
  have hnn : 0 ≤ l[l.length - 1] / 4 ^ (n % 32).toNat := Int.ediv_nonneg hb.1 (by omega)
  rw [← sE (32 - (n % 32).toNat) _ hnn hlt]
  have : (List.range (32 - (n % 32).toNat)).map (fun j => l[l.length - 1] / 4 ^ (n % 32).toNat / 4 ^ j % 4) = List.replicate (32 - (n % 32).toNat) 0 := by
   apply List.ext_getElem
   ·simp
   ·intro j hj1 hj2
    simp at hj1
    have h5 := h3 (32 * (l.length - 1) + (n % 32).toNat + j) (by omega) (by omega)
    unfold cR at h5
    rw [show (32 * (l.length - 1) + (n % 32).toNat + j) / 32 = l.length - 1 by omega, show (32 * (l.length - 1) + (n % 32).toNat + j) % 32 = (n % 32).toNat + j by omega, List.getElem?_eq_getElem hl, Option.getD_some, Int.pow_add, ← Int.ediv_ediv_of_nonneg (by omega)] at h5
    simpa using h5
  rw [this, KJ]
def low : Int := 6148914691236517205
def Two (n : Int) (l : List Int) (m : Int) (k : List Int) : Prop := dQ n l ∧ dQ m k ∧ n = m
instance (n : Int) (l : List Int) (m : Int) (k : List Int) : Decidable (Two n l m k) := by unfold Two; infer_instance
theorem W_low : W64 low := by unfold W64 low; decide
theorem bt_low : ∀ j, j < 32 → bt low (2 * j) = true ∧ bt low (2 * j + 1) = false := by decide
def gt (x y : Int) (j : Nat) : Bool := (bt x (2 * j + 1) && !bt y (2 * j + 1)) || ((bt x (2 * j + 1) == bt y (2 * j + 1)) && (bt x (2 * j) && !bt y (2 * j)))
section
variable {x y z : Int} (hx : W64 x) (hy : W64 y)
include hx hy
end
theorem W_zero : W64 0 := by unfold W64; decide
section
variable {x y z : Int} (hx : W64 x) (hy : W64 y)
include hx hy
end
def gM (l : List Int) : Prop := ∀ u ∈ l, W64 u
theorem Wwf {u : Int} (h : W64 u) : (Lit.int .u64 u).wf = true := by
 unfold W64 at h
 simp [Lit.wf, IntKind.min, IntKind.max, IntKind.signed, IntKind.bits]; omega
section
variable {n m : Int} {l k : List Int}
end
theorem H_ {n : Int} {l : List Int} (h : dQ n l) : l.length ≤ 128 := by have := h.2.1; have := h.2.2.1; omega
section
variable {n m : Int} {l k : List Int}
theorem BC {i : Nat} (h : i < n.toNat) : (cl n l)[i]? = some (cR l i) := by simp [cl, h]
theorem L1 {i : Nat} (h : i < n.toNat) : (cl n l)[i]?.getD 0 = cR l i := by rw [BC h]; rfl
theorem cl_ext {cs : List Int} (hl : cs.length = n.toNat) (h : ∀ i, i < n.toNat → cs[i]?.getD 0 = cR l i) : cs = cl n l := by
 apply List.ext_getElem?
 intro i
 by_cases hi : i < n.toNat
 ·rw [BC hi, ← h i hi, List.getElem?_eq_getElem (by omega)]; rfl
 ·rw [List.getElem?_eq_none (by omega), List.getElem?_eq_none (by rw [vM]; omega)]
theorem pC (h : dQ n l) : n.toNat ≤ 32 * l.length := by have := h.1; have := h.2.2.1; omega
theorem ME (g : dQ n l) (w : gM l) : c8 (cl n l) = l := by
 have hc := (mI (n := n) fun u hu => Wwf (w u hu)).1 g
 apply List.ext_getElem?
 intro q
 have h0 := g.1
 have h2 := g.2.2.1
 by_cases hq : q < l.length
 ·rw [iF _ _ (by rw [vM]; omega), List.getElem?_eq_getElem hq]
  congr 1
  have hw := w _ (List.getElem_mem hq)
  have e : ((cl n l).drop (32 * q)).take 32 = (List.range (min 32 (n.toNat - 32 * q))).map (fun j => l[q] / 4 ^ j % 4) := by
   apply List.ext_getElem?
   intro j
   by_cases hj : j < min 32 (n.toNat - 32 * q)
   ·rw [List.getElem?_take, if_pos (by omega), List.getElem?_drop, BC (by omega)]
    simp only [List.getElem?_map, List.getElem?_range hj, Option.map_some]
    unfold cR
    rw [show (32 * q + j) / 32 = q by omega, show (32 * q + j) % 32 = j by omega, List.getElem?_eq_getElem hq]
    rfl
   ·rw [List.getElem?_eq_none (by simp [vM]; omega), List.getElem?_eq_none (by simp; omega)]
  rw [e]
  refine sE _ _ hw.1 ?_
  by_cases h32 : 32 ≤ n.toNat - 32 * q
  ·rw [Nat.min_eq_left h32]
   have : (4 : Int) ^ 32 = 18446744073709551616 := by decide
   rw [this]; exact hw.2
  ·have hq1 : q = l.length - 1 := by omega
   have hp : 0 < n % 32 := by omega
   have h3 := g.2.2.2 hp
   rw [← hq1, List.getElem?_eq_getElem hq] at h3
   simp only [Option.getD_some] at h3
   rw [Nat.min_eq_right (by omega), show n.toNat - 32 * q = (n % 32).toNat by omega]
   have hpos : (0 : Int) < 4 ^ (n % 32).toNat := Int.pow_pos (by decide)
   apply Classical.byContradiction
   intro hlt
   have : 1 ≤ l[q] / 4 ^ (n % 32).toNat := by
    rw [Int.le_ediv_iff_mul_le hpos]; omega
   omega
 ·rw [List.getElem?_eq_none (by rw [eL, vM]; omega), List.getElem?_eq_none (by omega)]
theorem qK {i : Nat} (h : i < 32 * l.length) : ∃ hq : i / 32 < l.length, cR l i = l[i / 32] / 4 ^ (i % 32) % 4 := by
 refine ⟨by omega, ?_⟩
 unfold cR
 rw [List.getElem?_eq_getElem (by omega : i / 32 < l.length)]; rfl
theorem GQ {u v : Int} {j : Nat} : W64 (putW u j v) := W_or
theorem qE {v : Int} (h0 : 0 ≤ v) (h3 : v ≤ 3) {t : Nat} (ht : 2 ≤ t) : bt v t = false := by
 unfold bt
 apply Nat.testBit_lt_two_pow
 have : 2 ^ 2 ≤ 2 ^ t := Nat.pow_le_pow_right (by decide) ht
 omega
theorem KV {u v : Int} (hu : W64 u) (h0 : 0 ≤ v) (h3 : v ≤ 3) {j i : Nat} (hj : j < 32) (hi : i < 32) : putW u j v / 4 ^ i % 4 = if i = j then v else u / 4 ^ i % 4 := by
 have hv : W64 v := ⟨h0, by omega⟩
 have h33 : W64 3 := ⟨by decide, by decide⟩
 have key : ∀ t, t < 64 → bt (putW u j v) t = ((bt u t && !(!decide (t < 2 * j) && bt 3 (t - 2 * j))) || (!decide (t < 2 * j) && bt v (t - 2 * j))) := by
  intro t ht
  unfold putW
  have w1 := W_shl h33 (k := 2 * j) (by omega)
  have w2 := W_shl hv (k := 2 * j) (by omega)
  rw [bt_or W_clr w2, bt_clr hu w1 ht, G1 h33 (by omega), G1 hv (by omega)]
  simp [ht]
 have k1 := key (2 * i) (by omega)
 have k2 := key (2 * i + 1) (by omega)
 rw [lZ GQ.1, k1, k2]
 by_cases hij : i = j
 ·subst hij
  have e : v = (if bt v 1 then 2 else 0) + (if bt v 0 then 1 else 0) := by
   have := lZ h0 0
   simp at this
   omega
  have b0 : bt 3 0 = true := by decide
  have b1 : bt 3 1 = true := by decide
  simp only [if_true]
  rw [show 2 * i + 1 - 2 * i = 1 by omega, Nat.sub_self, b0, b1]
  conv => rhs; rw [e]
  have hn : ¬ 2 * i + 1 < 2 * i := by omega
  simp [hn]
 ·rw [if_neg hij, lZ hu.1]
  by_cases hlt : i < j
  ·have d1 : 2 * i < 2 * j := by omega
   have d2 : 2 * i + 1 < 2 * j := by omega
   simp [d1, d2]
  ·have d1 : ¬ 2 * i < 2 * j := by omega
   have d2 : ¬ 2 * i + 1 < 2 * j := by omega
   rw [qE (v := 3) (by decide) (by decide) (by omega), qE (v := 3) (by decide) (by decide) (by omega), qE h0 h3 (by omega), qE h0 h3 (by omega)]
   simp
theorem FM {v : Int} {i : Nat} (h : gM l) : gM (pT l i v) := by
 intro u hu
 rcases List.mem_or_eq_of_mem_set hu with h1 | rfl
 ·exact h u h1
 ·exact GQ
theorem wP {v : Int} (h : gM l) (h0 : 0 ≤ v) (h3 : v ≤ 3) {i j : Nat} (hi : i < 32 * l.length) (hj : j < 32 * l.length) : cR (pT l j v) i = if i = j then v else cR l i := by
 obtain ⟨a1, a2⟩ := qK hi
 obtain ⟨b1, b2⟩ := qK (l := pT l j v) (i := i) (by simpa [pT] using hi)
 rw [a2, b2]
 simp only [pT, List.getElem_set]
 have hj2 : j / 32 < l.length := by omega
 by_cases hq : j / 32 = i / 32
 ·rw [if_pos hq]
  have e : l[j / 32]?.getD 0 = l[i / 32] := by rw [hq, List.getElem?_eq_getElem a1]; rfl
  rw [e, KV (h _ (List.getElem_mem _)) h0 h3 (by omega) (by omega)]
  by_cases hij : i = j
  ·subst hij; simp
  ·rw [if_neg hij, if_neg (by omega)]
 ·rw [if_neg hq, if_neg (by rintro rfl; exact hq rfl)]
theorem FW {v : Int} (w : gM l) (g : dQ n l) (h0 : 0 ≤ v) (h3 : v ≤ 3) {i : Nat} (hi : i < n.toNat) : dQ n (pT l i v) := by
 have hc := (mI (n := n) fun u hu => Wwf (w u hu)).1 g
 refine (mI (n := n) fun u hu => Wwf (FM w u hu)).2 ⟨hc.1, hc.2.1, by simpa [pT] using hc.2.2.1, fun j hj hlt => ?_⟩
 have hlt' : j < 32 * l.length := by simpa [pT] using hlt
 rw [wP w h0 h3 hlt' (by have := pC g; omega), if_neg (by omega)]
 exact hc.2.2.2 j hj hlt'
theorem F1 {n : Int} (h0 : 0 ≤ n) (h1 : n ≤ 4096) : dQ n (List.replicate ((n + 31) / 32).toNat 0) := by
 refine ⟨h0, h1, by simp; omega, fun hp => ?_⟩
 rw [List.getElem?_replicate]
 split <;> simp
theorem zero_W (q : Nat) : gM (List.replicate q 0) := by
 intro u hu; rw [List.mem_replicate] at hu; rw [hu.2]; exact W_zero
theorem GL {q i : Nat} : cR (List.replicate q 0) i = 0 := by
 unfold cR
 rw [List.getElem?_replicate]
 split <;> simp
end
theorem uX {a : Nat} (ha : a < 2 ^ 64) (m : Nat) (hm : m < 2 ^ 64) : lI .u64 (a : Int) (m : Int) = ((a &&& m : Nat) : Int) := M_ ha hm
theorem sN {a b : Nat} (h : a + b < 2 ^ 64) : IntKind.u64.wrap ((a : Int) + (b : Int)) = ((a + b : Nat) : Int) := by
 rw [pS (by omega) (by omega)]; omega
theorem KS (x : Int) : IntKind.i64.wrap x % 128 = x % 128 := by
 have key : ∀ (b : Bool) (m : Int), (if b = true then m - 18446744073709551616 else m) % 128 = m % 128 := by
  intro b m; cases b <;> simp; omega
 have e : IntKind.i64.wrap x % 128 = x % 18446744073709551616 % 128 := key _ (x % 18446744073709551616)
 rw [e]; omega
theorem and127 (x : Int) : lI .i64 x 127 = x % 128 := by
 show IntKind.i64.wrap (((BitVec.ofInt 64 x &&& BitVec.ofInt 64 127).toNat : Nat) : Int) = _
 rw [BitVec.toNat_and, BitVec.toNat_ofInt, BitVec.toNat_ofInt]
 have e2 : ((127 : Int) % ((2 ^ 64 : Nat) : Int)).toNat = 2 ^ 7 - 1 := by decide
 rw [e2, Nat.and_two_pow_sub_one_eq_mod, aS (by omega) (by omega)]
 omega
theorem ones_c (x : Nat) (h : x < 2 ^ 64) : Pure Tryz.prog 129 [U x] (I ((bits x 64).sum : Nat)) := by
 refine fi129.pu (by simp) ?_
 simp -implicitDefEqProofs [ac129]
 obtain ⟨p1, p2, p3, p4, p5, p6, p7, p8⟩ := pop_ok x h
 have lt_and : ∀ a m : Nat, m < 2 ^ 64 → (a &&& m) < 2 ^ 64 := fun a m hm => Nat.lt_of_le_of_lt Nat.and_le_right hm
 have m0 : (6148914691236517205 : Int) = ((6148914691236517205 : Nat) : Int) := rfl
 have m1 : (3689348814741910323 : Int) = ((3689348814741910323 : Nat) : Int) := rfl
 have m2 : (1085102592571150095 : Int) = ((1085102592571150095 : Nat) : Int) := rfl
 have sh : ∀ (a k : Nat), k ≤ 64 → jA .u64 (a : Int) ((k : Nat) : Int) = ((a / 2 ^ k : Nat) : Int) := fun a k hk => NN hk
 have dv : ∀ (a k : Nat), a < 2 ^ 64 → a / 2 ^ k < 2 ^ 64 := fun a k ha => Nat.lt_of_le_of_lt (Nat.div_le_self _ _) ha
 rw [show (1 : Int) = ((1 : Nat) : Int) from rfl, show (2 : Int) = ((2 : Nat) : Int) from rfl, show (4 : Int) = ((4 : Nat) : Int) from rfl, show (8 : Int) = ((8 : Nat) : Int) from rfl, show (16 : Int) = ((16 : Nat) : Int) from rfl, show (32 : Int) = ((32 : Nat) : Int) from rfl, m0, m1, m2,
  sh x 1 (by decide), uX (dv x 1 h) _ (by decide), uX h _ (by decide), sN p2]
 generalize ha1 : (x / 2 ^ 1 &&& 6148914691236517205) + (x &&& 6148914691236517205) = a1 at *
 rw [sh a1 2 (by decide), uX (dv a1 2 p2) _ (by decide), uX p2 _ (by decide), sN p3]
 generalize ha2 : (a1 / 2 ^ 2 &&& 3689348814741910323) + (a1 &&& 3689348814741910323) = a2 at *
 rw [sh a2 4 (by decide), sN p4, uX p4 _ (by decide)]
 generalize ha3 : (a2 / 2 ^ 4 + a2 &&& 1085102592571150095) = a3 at *
 rw [sh a3 8 (by decide), sN p5]
 generalize ha4 : a3 + a3 / 2 ^ 8 = a4 at *
 rw [sh a4 16 (by decide), sN p6]
 generalize ha5 : a4 + a4 / 2 ^ 16 = a5 at *
 rw [sh a5 32 (by decide), sN p7]
 rw [and127, KS]
 omega
section
variable {n m : Int} {l k : List Int}
theorem ND (w : gM l) : dQ n l ↔ vT n l := mI (n := n) fun u hu => Wwf (w u hu)
end
section
variable {n m : Int} {l k : List Int}
def eW (l : List Int) (v : Int) (t : Nat) : Nat := (List.range t).countP fun i => decide (cR l i = v)
theorem tJ {v : Int} {t : Nat} : eW l v t ≤ t := by
 unfold eW
 have := List.countP_le_length (p := fun i => decide (cR l i = v)) (l := List.range t)
 simpa using this
theorem xY {v : Int} {a b : Nat} : eW l v (a + b) = eW l v a + ((List.range b).countP fun j => decide (cR l (a + j) = v)) := by
 unfold eW
 rw [List.range_add, List.countP_append, List.countP_map]
 rfl
def nD (n : Int) (l : List Int) (v : Int) : D := if dQ n l then (if 0 ≤ v ∧ v ≤ 3 then .tup [I (eW l v n.toNat : Nat), I 0] else .tup [I 0, I 2]) else .tup [I 0, I 3]
theorem zG (f : Nat → Nat) : ∀ k, ((List.range (2 * k)).map f).sum = ((List.range k).map fun j => f (2 * j) + f (2 * j + 1)).sum
 | 0 => rfl
 | k + 1 => by
  rw [show 2 * (k + 1) = 2 * k + 1 + 1 by omega, List.range_succ, List.range_succ, List.range_succ (n := k)]
  simp only [List.map_append, List.sum_append, List.map_cons, List.map_nil, List.sum_cons, List.sum_nil, zG f k]
  omega
theorem uA (p : Nat → Bool) : ∀ k, ((List.range k).map fun j => if p j then 1 else 0).sum = (List.range k).countP p
 | 0 => rfl
 | k + 1 => by
  rw [List.range_succ, List.map_append, List.sum_append, uA p k, List.countP_append]
  by_cases h : p k = true <;> simp [h]
def unl (v : Int) : Int := IntKind.u64.wrap (IntKind.u64.wrap v * 6148914691236517205)
def kG (x v : Int) : Int := lI .u64 (rH .u64 (bOr .u64 (nQ .u64 x (unl v)) (jA .u64 (nQ .u64 x (unl v)) 1))) low
theorem I5 : ∀ v : Fin 4, (0 ≤ unl (v.val : Int) ∧ unl (v.val : Int) < 18446744073709551616) ∧ ∀ j, j < 32 → bt (unl (v.val : Int)) (2 * j) = bt (v.val : Int) 0 ∧ bt (unl (v.val : Int)) (2 * j + 1) = bt (v.val : Int) 1 := by decide
theorem unl_ok {v : Int} (h0 : 0 ≤ v) (h3 : v ≤ 3) : W64 (unl v) ∧ ∀ j, j < 32 → bt (unl v) (2 * j) = bt v 0 ∧ bt (unl v) (2 * j + 1) = bt v 1 := by
 have := I5 ⟨v.toNat, by omega⟩
 rw [show (((⟨v.toNat, by omega⟩ : Fin 4).val : Nat) : Int) = v by simp; omega] at this
 exact this
theorem HP {x v : Int} (hx : W64 x) (h0 : 0 ≤ v) (h3 : v ≤ 3) {j : Nat} (hj : j < 32) : bt (kG x v) (2 * j) = decide (x / 4 ^ j % 4 = v) ∧ bt (kG x v) (2 * j + 1) = false := by
 obtain ⟨u1, u2⟩ := unl_ok h0 h3
 obtain ⟨u3, u4⟩ := u2 j hj
 obtain ⟨l1, l2⟩ := bt_low j hj
 have wd : W64 (nQ .u64 x (unl v)) := W_xor
 have ws : W64 (jA .u64 (nQ .u64 x (unl v)) ((1 : Nat) : Int)) := W_shr wd (by decide)
 have e1 : (1 : Int) = ((1 : Nat) : Int) := rfl
 have hv : v = (if bt v 1 then 2 else 0) + (if bt v 0 then 1 else 0) := by
  have := lZ h0 0
  simp at this
  omega
 unfold kG
 rw [e1, G7 W_not W_low, G7 W_not W_low, l1, l2, bt_not W_or (by omega), bt_or wd ws, bt_shr wd (by decide), GA hx u1, show 1 + 2 * j = 2 * j + 1 by omega, GA hx u1, u3, u4, lZ hx.1]
 refine ⟨?_, by simp⟩
 conv => rhs; rw [hv]
 cases bt x (2 * j) <;> cases bt x (2 * j + 1) <;> cases bt v 0 <;> cases bt v 1 <;> decide
theorem IU {x v : Int} (hx : W64 x) (h0 : 0 ≤ v) (h3 : v ≤ 3) : (bits (kG x v).toNat 64).sum = (List.range 32).countP fun j => decide (x / 4 ^ j % 4 = v) := by
 have e : ∀ i, (kG x v).toNat / 2 ^ i % 2 = if bt (kG x v) i then 1 else 0 := by
  intro i
  unfold bt
  rw [Nat.testBit_eq_decide_div_mod_eq]
  have := Nat.mod_two_eq_zero_or_one ((kG x v).toNat / 2 ^ i)
  rcases this with h | h <;> simp [h]
 unfold bits
 rw [show (64 : Nat) = 2 * 32 from rfl, zG, ← uA]
 congr 1
 apply List.map_congr_left
 intro j hj
 rw [List.mem_range] at hj
 obtain ⟨b1, b2⟩ := HP hx h0 h3 hj
 rw [e, e, b1, b2]
 simp
theorem EO {v : Int} (w : gM l) (h0 : 0 ≤ v) (h3 : v ≤ 3) {q : Nat} (hq : q < l.length) : eW l v (32 * (q + 1)) = eW l v (32 * q) + (bits (kG l[q] v).toNat 64).sum := by
 rw [show 32 * (q + 1) = 32 * q + 32 by omega, xY, IU (w _ (List.getElem_mem hq)) h0 h3]
 congr 1
 apply List.countP_congr
 intro j hj
 rw [List.mem_range] at hj
 obtain ⟨a1, a2⟩ := qK (l := l) (i := 32 * q + j) (by omega)
 have b1 : (32 * q + j) / 32 = q := by omega
 have b2 : (32 * q + j) % 32 = j := by omega
 simp only [b1, b2] at a2
 rw [a2]
theorem DR {v : Int} (g : dQ n l) (w : gM l) : eW l v (32 * l.length) = eW l v n.toNat + (if v = 0 then 32 * l.length - n.toNat else 0) := by
 have hp := pC g
 have hok := (ND w).1 g
 rw [show 32 * l.length = n.toNat + (32 * l.length - n.toNat) by omega, xY]
 congr 1
 have hz : ∀ j, j < 32 * l.length - n.toNat → cR l (n.toNat + j) = 0 := fun j hj => hok.2.2.2 _ (by have := g.1; omega) (by omega)
 split
 ·rename_i hv
  rw [List.countP_eq_length.2]
  ·simp
  ·intro j hj
   rw [List.mem_range] at hj
   simp [hz j hj, hv]
 ·rename_i hv
  rw [List.countP_eq_zero.2]
  intro j hj
  rw [List.mem_range] at hj
  simp [hz j hj]
  exact fun h => hv h.symm
theorem NQ (w : gM l) (v : Int) : Pure Tryz.prog 95 [row n l, I v] (nD n l v) := by
 refine fi95.pu (by simp) ?_
 simp -implicitDefEqProofs [ac95, row]
 refine aG (sF n l) (by simp) ?_
 simp -implicitDefEqProofs
 by_cases g : dQ n l
 ·have h0 := g.1
  have h4 := g.2.1
  have h5 := g.2.2.1
  have hlen := H_ g
  by_cases h1 : 0 ≤ v
  ·by_cases h2 : v ≤ 3
   ·have e : ¬ v < 0 := by omega
    have e2 : ¬ 3 < v := by omega
    simp -implicitDefEqProofs [e, e2, h1, h2, eG, g]
    rw [show IntKind.u64.wrap (IntKind.u64.wrap v * 6148914691236517205) = unl v from rfl]
    refine lpG cf95 lb95_0 [8, 10, 11, 29] (α := Nat) (fun i _ => [(8, I (eW l v (32 * i) : Nat)), (29, I i)]) (fun _ _ => []) (fun i _ => i ≤ l.length) (fun i => l.length - i) 0 (by omega) (by simp [eW]) (by simp) ?_
    rintro i nx hi
    have hc := tJ (l := l) (v := v) (t := 32 * i)
    simp -implicitDefEqProofs [lb95_0]
    refine ⟨fun hlt => ⟨hlt, ?_⟩, fun hge => ?_⟩
    ·have hg : l[i]?.getD 0 = l[i] := by rw [List.getElem?_eq_getElem hlt]; rfl
     rw [hg, show lI .u64 (rH .u64 (bOr .u64 (nQ .u64 l[i] (unl v)) (jA .u64 (nQ .u64 l[i] (unl v)) 1))) 6148914691236517205 = kG l[i] v from rfl]
     have hW : W64 (kG l[i] v) := W_and
     have hn : kG l[i] v = (((kG l[i] v).toNat : Nat) : Int) := by have := hW.1; omega
     have hs := EO w h1 h2 hlt
     have hc2 := tJ (l := l) (v := v) (t := 32 * (i + 1))
     have hb : (kG l[i] v).toNat < 2 ^ 64 := by have := hW.2; have := hW.1; omega
     have ho := ones_c (kG l[i] v).toNat hb
     rw [← hn] at ho
     refine aG (ho) (by simp) ?_
     simp -implicitDefEqProofs
     rw [aS (x := (i : Int) + 1) (by omega) (by omega), aS (by omega) (by omega)]
     exact aI (i + 1) (by omega) (by omega) (by simp [hs]) (by simp)
    ·have e3 : i = l.length := by omega
     subst e3
     have ht := DR (v := v) g w
     have hc3 := tJ (l := l) (v := v) (t := n.toNat)
     have hp := pC g
     rw [aS (x := 32 * (l.length : Int)) (by omega) (by omega), aS (x := 32 * (l.length : Int) - n) (by omega) (by omega), aS (by omega) (by omega)]
     refine ⟨fun hv => ?_, fun hv => ?_⟩
     ·rw [if_pos hv] at ht
      simp only [nD, g, h1, h2, if_true, and_self]
      congr 4
      omega
     ·rw [if_neg hv] at ht
      simp only [nD, g, h1, h2, if_true, and_self]
      congr 4
      omega
   ·have e : ¬ v < 0 := by omega
    have e2 : 3 < v := by omega
    simp -implicitDefEqProofs [e, e2, eG, nD, g, h2]
  ·have e : v < 0 := by omega
   simp -implicitDefEqProofs [e, eG, nD, g, h1]
 ·simp -implicitDefEqProofs [nD, g, eG]
end
set_option maxHeartbeats 4000000
theorem I1 {α : Type} {enc : α → List D} {k : Nat} {l : List α} {mem : Mem} (h : ∀ x, (enc x).all D.cell = true) (hk : ∀ x, (enc x).length = k) : els mem k (.sl (em enc l)) = some (em enc l) := by
 show (if ((em enc l).all fun e => e.length == k && e.all D.cell) = true then some (em enc l) else none) = _
 rw [if_pos (FC h hk)]
theorem HQ {l : List Int} {mem : Mem} : els mem 1 (.sl (em bH l)) = some (em bH l) := I1 (fun x => rfl) (fun x => rfl)
abbrev tbC (ps : List Int) (t n : Int) (l : List Int) : List D := [.sl (em bH ps), I t, I n, .sl (em i8 l)]
abbrev tb (ps : List Int) (t n : Int) (l : List Int) : D := .agg (tbC ps t n l)
theorem DQ (l : List Int) (hl : l.length < 2 ^ 44) : Pure Tryz.prog 63 [.sl (em bH l)] (.sl (em bH l)) := by
 refine fi63.pu (by simp) ?_
 have b1 : l.length * 8 ≤ 3 * 2 ^ 46 := by omega
 simp -implicitDefEqProofs [-els, HQ, ac63, b1]
theorem LJ (l : List Int) (hl : l.length < 2 ^ 44) : Pure Tryz.prog 85 [.sl (em bH l)] (.sl (em bH l)) := by
 by_cases he : l = []
 ·subst he
  refine DP ?_ (fun p c => ?_) (fun h => absurd rfl h)
  ·refine fi85.pu (by simp) ?_
   simp -implicitDefEqProofs [ac85, NO Tryz.underlying24]
  ·refine fi85.pu (by simp) ?_
   simp -implicitDefEqProofs [ac85, K_ Tryz.underlying24]
 ·have hne : em bH l ≠ [] := by cases l with
   | nil => exact absurd rfl he
   | cons a l => simp [em]
  have b1 : l.length * 8 ≤ 3 * 2 ^ 46 := by omega
  refine fi85.pu (by simp) ?_
  simp -implicitDefEqProofs [-els, HQ, ac85, LQ Tryz.underlying24 hne, b1]
def newT (ps : List Int) (t : Int) : D × Int := if (dI ps).2 ≠ 0 then (tb [] 0 0 [], (dI ps).2) else if tp t < 0 then (tb [] 0 0 [], 3) else (tb ps t (pr ps) (List.replicate ((pr ps + 31) / 32).toNat 0), 0)
theorem New_c16 (ps : List Int) (t : Int) (hl : ps.length < 2 ^ 44) : Pure Tryz.prog 53 [.sl (em bH ps), I t] (.tup [(newT ps t).1, I (newT ps t).2]) := by
 refine fi53.pu (by simp) ?_
 simp -implicitDefEqProofs [ac53]
 refine aG (rT ps (by omega)) (by simp) ?_
 simp -implicitDefEqProofs
 unfold newT
 by_cases he : (dI ps).2 = 0
 ·obtain ⟨ho, hp96, hp1⟩ := kR he
  have hpos := o5 ho
  simp -implicitDefEqProofs [he, hp1]
  refine aG (uB t) (by simp) ?_
  simp -implicitDefEqProofs
  by_cases hb : tp t < 0
  ·have hb1 : ¬ 0 ≤ tp t := by omega
   simp -implicitDefEqProofs [hb, hb1]
  ·have hb1 : 0 ≤ tp t := by omega
   have hN : 0 ≤ pr ps ∧ pr ps ≤ 4096 := by omega
   simp -implicitDefEqProofs [hb, hb1]
   refine aG (New_c (pr ps)) (by simp) ?_
   simp -implicitDefEqProofs [newF, hN.1, hN.2, tup2]
   refine aG (LJ ps hl) (by simp) ?_
   simp -implicitDefEqProofs
 ·simp -implicitDefEqProofs [he]
def lW (ps : List Int) (t n : Int) (l : List Int) : Prop := (dI ps).2 = 0 ∧ 0 ≤ tp t ∧ n = pr ps ∧ dQ n l ∧ ∀ i, i < n.toNat → cR l i ≤ tp t
open Classical in
noncomputable def oN (ps : List Int) (t n : Int) (l : List Int) : Int := if lW ps t n l then 0 else 3
theorem HA {l : List Int} {n t : Int} (ht : 0 ≤ tp t) (hc : ∀ v : Int, tp t + 1 ≤ v → v < 4 → eW l v n.toNat = 0) : ∀ i, i < n.toNat → cR l i ≤ tp t := by
 intro i hi
 have hb := B6 l i
 apply Classical.byContradiction
 intro h
 have := hc (cR l i) (by omega) hb.2
 unfold eW at this
 rw [List.countP_eq_zero] at this
 have := this i (by simpa using hi)
 simp at this
theorem cells_top' {l : List Int} {n t v : Int} (h : ∀ i, i < n.toNat → cR l i ≤ tp t) (hv : tp t < v) : eW l v n.toNat = 0 := by
 unfold eW
 rw [List.countP_eq_zero]
 intro i hi
 have := h i (by simpa using hi)
 simp
 omega
theorem HC (ps : List Int) (t n : Int) (l : List Int) (w : gM l) (hl : ps.length < 2 ^ 44) : Pure Tryz.prog 66 [tb ps t n l] (I (oN ps t n l)) := by
 refine fi66.pu (by simp) ?_
 simp -implicitDefEqProofs [ac66]
 refine aG (rT ps (by omega)) (by simp) ?_
 simp -implicitDefEqProofs
 refine aG (uB t) (by simp) ?_
 simp -implicitDefEqProofs
 by_cases he : (dI ps).2 = 0
 ·obtain ⟨ho, hp96, hp1⟩ := kR he
  by_cases hb : tp t < 0
  ·have hno : ¬ lW ps t n l := fun h => by have := h.2.1; omega
   have hb1 : ¬ 0 ≤ tp t := by omega
   simp -implicitDefEqProofs [he, hb, hb1, hp1, oN, hno]
  ·have hb1 : 0 ≤ tp t := by omega
   by_cases hn : n = pr ps
   ·by_cases hg : dQ n l
    ·have hck : eG n l = 0 := xK.2 hg
     simp -implicitDefEqProofs [he, hb, hb1, hp1, hn]
     rw [← hn]
     refine aG (sF n l) (by simp) ?_
     simp -implicitDefEqProofs [hck]
     generalize hR : oN ps t n l = R
     refine lpG cf66 lb66_0 [2, 7, 8] (α := Nat) (fun s _ => [(2, .top), (7, I (tp t + 1 + s)), (8, .top)]) (fun s _ => []) (fun s k => tp t + 1 + s ≤ 4 ∧ ∀ v : Int, tp t + 1 ≤ v → v < tp t + 1 + s → eW l v n.toNat = 0) (fun s => 4 - s) 0 ⟨by have := iY t; omega, fun v h1 h2 => by omega⟩ (by simp) (by simp) ?_
     rintro s k ⟨hs, hc⟩
     have hti := iY t
     by_cases hlt : tp t + 1 + (s : Int) < 4
     ·have w1 := wrS (x := tp t + 1 + (s : Int) + 1) (by omega) (by omega)
      have hv : 0 ≤ tp t + 1 + (s : Int) ∧ tp t + 1 + (s : Int) ≤ 3 := by omega
      simp -implicitDefEqProofs [lb66_0, hlt, Int.not_le.2 hlt]
      refine aG (NQ w (tp t + 1 + s)) (by simp) ?_
      simp -implicitDefEqProofs [nD, hg, hv.1, hv.2]
      by_cases hz : eW l (tp t + 1 + s) n.toNat = 0
      ·simp -implicitDefEqProofs [hz, w1]
       refine aI (s + 1) ⟨by omega, fun v h1 h2 => ?_⟩ (by omega) (by simp; exact .inl (by rw [Int.add_assoc _ (s : Int) 1])) (by simp)
       by_cases e : v = tp t + 1 + s
       ·rw [e]; exact hz
       ·exact hc v h1 (by omega)
      ·have hno : ¬ lW ps t n l := fun h => hz (cells_top' h.2.2.2.2 (by omega))
       have hpos : 0 < eW l (tp t + 1 + s) n.toNat := by omega
       rw [oN, if_neg hno] at hR
       subst hR
       simp -implicitDefEqProofs [hpos, hz]
     ·have hyes : lW ps t n l := ⟨he, by omega, hn, hg, HA (by omega) fun v h1 h2 => hc v h1 (by omega)⟩
      rw [oN, if_pos hyes] at hR
      subst hR
      simp -implicitDefEqProofs [lb66_0, hlt, Int.not_lt.1 hlt]
    ·have hck : eG n l = 3 := by unfold eG; rw [if_neg hg]
     have hno : ¬ lW ps t n l := fun h => hg h.2.2.2.1
     simp -implicitDefEqProofs [he, hb, hb1, hp1, hn]
     rw [← hn]
     refine aG (sF n l) (by simp) ?_
     simp -implicitDefEqProofs [hck, oN, hno]
   ·have hno : ¬ lW ps t n l := fun h => hn h.2.2.1
    simp -implicitDefEqProofs [he, hb, hb1, hp1, hn, oN, hno]
 ·have hno : ¬ lW ps t n l := fun h => he h.1
  simp -implicitDefEqProofs [he, oN, hno]
theorem yZ : ∀ (ts ps : List Int) (a : Int), inT ts ps = true → 0 ≤ a → a * pr ts ≤ vl ts ps a ∧ vl ts ps a < (a + 1) * pr ts
 | [], ps, a, h, ha => by
  cases ps with
  | nil => simp [vl, pr]; omega
  | cons p ps => simp [inT] at h
 | t :: ts, [], a, h, ha => by simp [inT] at h
 | t :: ts, p :: ps, a, h, ha => by
  unfold inT at h
  simp only [Bool.and_eq_true, decide_eq_true_eq] at h
  obtain ⟨⟨h0, h1⟩, h2⟩ := h
  have hk : 0 ≤ a * (tp t + 1) := Int.mul_nonneg ha (by omega)
  obtain ⟨g1, g2⟩ := yZ ts ps (a * (tp t + 1) + p) h2 (by omega)
  unfold vl pr
  have hP := EL ts
  have e1 : (a + 1) * ((tp t + 1) * pr ts) = (a * (tp t + 1) + (tp t + 1)) * pr ts := by rw [← Int.mul_assoc, Int.add_mul a 1, Int.one_mul]
  have e2 : a * ((tp t + 1) * pr ts) = (a * (tp t + 1)) * pr ts := by rw [Int.mul_assoc]
  have m1 : (a * (tp t + 1)) * pr ts ≤ (a * (tp t + 1) + p) * pr ts := Int.mul_le_mul_of_nonneg_right (by omega) hP
  have m2 : (a * (tp t + 1) + p + 1) * pr ts ≤ (a * (tp t + 1) + (tp t + 1)) * pr ts := Int.mul_le_mul_of_nonneg_right (by omega) hP
  omega
open Rows
theorem E9 (ps : List Int) (t : Int) (cs : List Int) (h4 : ∀ c ∈ cs, jJ c) (hc : cs.length ≤ 4096) (hl : ps.length < 2 ^ 44) : Pure Tryz.prog 34 [.sl (em bH ps), I t, .sl (em bH cs)] (tb ps t cs.length (c8 cs)) := by
 refine fi34.pu (by simp) ?_
 simp -implicitDefEqProofs [ac34]
 refine aG (DQ ps hl) (by simp) ?_
 simp -implicitDefEqProofs
 refine aG (Pack_c cs h4 hc) (by simp) ?_
 simp -implicitDefEqProofs
def F_ (a b : List Int) : Prop := a.length = b.length ∧ ∀ i, i < a.length → a[i]?.getD 0 ≤ b[i]?.getD 0
instance (a b : List Int) : Decidable (F_ a b) := by unfold F_; infer_instance
theorem sQ : ∀ {ts ds : List Int}, inT ts ds = true → ds.length = ts.length
 | [], [], _ => rfl
 | [], d :: ds, h => by simp [inT] at h
 | t :: ts, [], h => by simp [inT] at h
 | t :: ts, d :: ds, h => by
  rw [pB] at h
  simp only [Bool.and_eq_true] at h
  simp [sQ h.2]
open Go.Fx.Flt
abbrev Nls := List (List UInt8 × Int)
def h_ : Nls → List UInt8 → Int
 | [], _ => 0
 | x :: xs, n => if x.1 = n then x.2 else h_ xs n
def jK (g : Int → Int) : Nat → Int → Int
 | 0, p => p
 | k + 1, p => if g p ≤ p then p else jK g k (g p)
def casF (g : Br → Int) (l : List Br) : Int := l.foldl (fun m b => max m (g b)) 0
def hZ (V : List UInt8 → List Int → Int) (op : Int) (n : List UInt8) (l : List Int) : Int :=
 if op = 18 then cnF (l[0]?.getD 0) (l[1]?.getD 0) else if op = 7 then V n l else l.foldl min 1
mutual
def ptF (V : List UInt8 → List Int → Int) : Ex → Nls → Int
 | .mk op n tl ty z args p, N =>
  if op = 1 ∨ op = 2 ∨ op = 3 then 1 else if op = 4 then 3 else if op = 5 then 0 else if op = 6 then h_ N n else
  if op = 19 then (if ptI V args 0 N = 0 then 0 else max (ptI V args 1 N) (ptI V args 2 N)) else
  if op = 20 then casF (fun b => if b.nl then ptI V args 1 N else ptI V args 2 ((tl, b.tl) :: (n, b.hd) :: N)) (csF (ptI V args 0 N)) else
  if op = 21 then ptI V args 1 ((n, jK (fun q => ptI V args 0 ((n, q) :: N)) 4 0) :: N) else
  if op = 22 then (if 0 < ptI V args 0 N then ptI V args 1 ((n, ptI V args 0 N) :: N) else 0) else
  hZ V op n (ptL V args N)
def ptI (V : List UInt8 → List Int → Int) : List Ex → Nat → Nls → Int
 | [], _, _ => 0
 | x :: xs, 0, N => ptF V x N
 | x :: xs, i + 1, N => ptI V xs i N
def ptL (V : List UInt8 → List Int → Int) : List Ex → Nls → List Int
 | [], _ => []
 | x :: xs, N => ptF V x N :: ptL V xs N
end
def Pin (t p : Int) : Prop := 0 ≤ p ∧ p ≤ tp t
inductive EnvR : List Pm → Nls → Prop where
 | nil : EnvR [] []
 | snoc {env : List Pm} {N : Nls} {x : Pm} {p : Int} (h : EnvR env N) (hp : Pin x.type p) : EnvR (env ++ [x]) ((x.name, p) :: N)
theorem EnvR.look {env : List Pm} {N : Nls} (h : EnvR env N) {n : List UInt8} {t : Int} (ht : a_ t) (hl : eQ env n = t) : Pin t (h_ N n) := by
 induction h with
 | nil => unfold eQ eU at hl; simp at hl; unfold a_ at ht; omega
 | snoc h hp ih =>
  rename_i env N x p
  unfold eQ at hl ih
  rw [List.reverse_append] at hl
  simp only [List.reverse_cons, List.reverse_nil, List.nil_append, List.singleton_append, eU] at hl
  unfold h_
  split
  ·rename_i e; rw [if_pos e] at hl; subst hl; exact hp
  ·rename_i e; rw [if_neg e] at hl; exact ih hl
def VOk (P : List Fn) (V : List UInt8 → List Int → Int) : Prop := ∀ n l, ¬ dC P n l.length → inT ((hdF P n).params.map Pm.type) l = true → Pin (hdF P n).type (V n l)
def PIn (P : List Fn) (V : List UInt8 → List Int → Int) (e : Ex) : Prop := ∀ ⦃env : List Pm⦄ ⦃N : Nls⦄ ⦃t : Int⦄, Sh e → a_ t → a7 P env e t = [] → EnvR env N → Pin t (ptF V e N)
theorem nW {t : Int} (h : a_ t) : 1 ≤ tp t := by rcases h with rfl | rfl | rfl <;> decide
theorem t6 {P : List Fn} {env : List Pm} {op ty t : Int} {n tl : List UInt8} : ∀ (l : List Ex) (i k : Nat) (x : Ex), bB P env op n tl ty t i l = [] → l[k]? = some x → a7 P (aM env op n tl ty (i + k)) x (aL P op n ty (i + k) t) = []
 | [], i, k, x, h, hx => by simp at hx
 | y :: ys, i, 0, x, h, hx => by
  simp only [List.getElem?_cons_zero, Option.some.injEq] at hx
  subst hx
  simp only [bB, List.append_eq_nil_iff] at h
  exact h.1
 | y :: ys, i, k + 1, x, h, hx => by
  simp only [List.getElem?_cons_succ] at hx
  simp only [bB, List.append_eq_nil_iff] at h
  have := t6 ys (i + 1) k x h.2 hx
  rw [show i + (k + 1) = i + 1 + k by omega]; exact this
theorem j9 {V : List UInt8 → List Int → Int} {N : Nls} : ∀ (l : List Ex) (k : Nat) (x : Ex), l[k]? = some x → ptI V l k N = ptF V x N
 | [], k, x, h => by simp at h
 | y :: ys, 0, x, h => by simp only [List.getElem?_cons_zero, Option.some.injEq] at h; subst h; rfl
 | y :: ys, k + 1, x, h => by simp only [List.getElem?_cons_succ] at h; exact j9 ys k x h
theorem o0 {V : List UInt8 → List Int → Int} {N : Nls} : ∀ (l : List Ex), (ptL V l N).length = l.length
 | [] => rfl
 | y :: ys => by simp [ptL, o0 ys]
theorem oZ {V : List UInt8 → List Int → Int} {N : Nls} : ∀ (l : List Ex) (k : Nat) (x : Ex), l[k]? = some x → (ptL V l N)[k]? = some (ptF V x N)
 | [], k, x, h => by simp at h
 | y :: ys, 0, x, h => by simp only [List.getElem?_cons_zero, Option.some.injEq] at h; subst h; rfl
 | y :: ys, k + 1, x, h => by simp only [List.getElem?_cons_succ] at h; simp only [ptL, List.getElem?_cons_succ]; exact oZ ys k x h
theorem DA {g : Int → Int} {t : Int} (hg : ∀ q, Pin t q → Pin t (g q)) : ∀ k p, Pin t p → Pin t (jK g k p)
 | 0, p, h => h
 | k + 1, p, h => by
  unfold jK
  split
  ·exact h
  ·exact DA hg k _ (hg p h)
theorem CJ {g : Br → Int} {t : Int} : ∀ (l : List Br) (m : Int), Pin t m → (∀ b ∈ l, Pin t (g b)) → Pin t (l.foldl (fun m b => max m (g b)) m)
 | [], m, h, _ => h
 | b :: l, m, h, hl => by
  refine CJ l _ ?_ (fun c hc => hl c (by simp [hc]))
  have h1 := hl b (by simp)
  show Pin t (max m (g b))
  unfold Pin at *
  constructor <;> omega
theorem G3 {p : Int} : ∀ b ∈ csF p, (b.nl = false → Pin 1 b.hd ∧ Pin 3 b.tl) := by
 intro b hb
 unfold csF at hb
 unfold Pin
 rw [tp_1, tQ]
 split at hb
 ·simp at hb
 ·split at hb
  ·simp only [List.mem_singleton] at hb; subst hb; simp
  ·split at hb
   ·simp only [List.mem_cons, List.not_mem_nil, or_false] at hb
    rcases hb with rfl | rfl <;> simp
   ·simp only [List.mem_cons, List.not_mem_nil, or_false] at hb
    rcases hb with rfl | rfl <;> simp
theorem F2 : ∀ (l : List Int) (m : Int), (0 ≤ m ∧ m ≤ 1) → (∀ x ∈ l, 0 ≤ x) → 0 ≤ l.foldl min m ∧ l.foldl min m ≤ 1
 | [], m, h, _ => h
 | b :: l, m, h, hl => by
  refine F2 l _ ?_ (fun c hc => hl c (by simp [hc]))
  have h1 := hl b (by simp)
  show 0 ≤ min m b ∧ min m b ≤ 1
  constructor <;> omega
theorem zU : ∀ (ts l : List Int), l.length = ts.length → (∀ (k : Nat) (t : Int), ts[k]? = some t → Pin t (l[k]?.getD 0)) → inT ts l = true
 | [], [], _, _ => rfl
 | [], _ :: _, h, _ => by simp at h
 | _ :: _, [], h, _ => by simp at h
 | t :: ts, p :: ps, h, hk => by
  rw [pB, zU ts ps (by simpa using h) (fun k t ht => by have := hk (k + 1) t (by simpa using ht); simpa using this)]
  have := hk 0 t (by simp)
  simp only [List.getElem?_cons_zero, Option.getD_some] at this
  simp [this.1, this.2]
theorem yT {α : Type} {f : α → Int} {l : List α} {k : Nat} {t : Int} (h : (l.map f)[k]? = some t) : ∃ x, l[k]? = some x ∧ f x = t := by
 rw [List.getElem?_map] at h
 cases hx : l[k]? with
 | none => rw [hx] at h; simp at h
 | some x => rw [hx] at h; exact ⟨x, rfl, by simpa using h⟩
theorem EnvR.one {env : List Pm} {N : Nls} (h : EnvR env N) {n : List UInt8} {t p a : Int} (hp : Pin t p) : EnvR (env ++ [⟨n, t, a⟩]) ((n, p) :: N) := EnvR.snoc (x := ⟨n, t, a⟩) h hp
theorem M2 {P : List Fn} {V : List UInt8 → List Int → Int} (hP : PT P) (hV : VOk P V) (op : Int) (n tl : List UInt8) (ty : Int) (z : Cx) (args : List Ex) (p : Int) (ih : ∀ x ∈ args, PIn P V x) : PIn P V (.mk op n tl ty z args p) := by
 intro env N t hs ht hw he
 unfold Sh at hs
 obtain ⟨hsh, hss⟩ := hs
 unfold a7 at hw
 rw [List.append_eq_nil_iff] at hw
 obtain ⟨hw, hown⟩ := hw
 have h1 := nW ht
 have hown' : bX op ∨ bL P env op n ty args.length = t := by
  apply Classical.byContradiction
  intro g
  rw [if_neg g] at hown; simp at hown
 have hbad : op = 7 → ¬ dC P n args.length := by
  intro h7 hb
  subst h7
  rcases hown' with h | h
  ·unfold bX at h; omega
  ·unfold bL at h
   rw [if_neg (by omega), if_neg (by omega), if_neg (by omega), if_neg (by omega), if_pos rfl, if_pos hb] at h
   unfold a_ at ht; omega
 have hws : bB P env op n tl ty t 0 args = [] := by
  by_cases h7 : op = 7 ∧ dC P n args.length
  ·exact absurd h7.2 (hbad h7.1)
  ·rw [if_neg h7] at hw; exact hw
 have harg : ∀ k x, args[k]? = some x → a7 P (aM env op n tl ty k) x (aL P op n ty k t) = [] := fun k x hx => by
  have := t6 args 0 k x hws hx
  rwa [Nat.zero_add] at this
 have hin : ∀ k, k < args.length → ∀ {env' : List Pm} {M : Nls}, aM env op n tl ty k = env' → EnvR env' M → a_ (aL P op n ty k t) → Pin (aL P op n ty k t) (ptI V args k M) := fun k hk env' M hen hM htw => by
  have hx := List.getElem?_eq_getElem hk
  rw [j9 args k _ hx]
  refine ih _ (List.getElem_mem hk) (mY hss (List.getElem_mem hk)) htw ?_ hM
  rw [← hen]; exact harg k _ hx
 unfold ptF
 unfold cG at hsh
 by_cases c1 : op = 1 ∨ op = 2 ∨ op = 3
 ·rw [if_pos c1]; unfold Pin; omega
 rw [if_neg c1]
 have own_of : ¬ bX op → bL P env op n ty args.length = t := fun h => hown'.resolve_left h
 by_cases c4 : op = 4
 ·rw [if_pos c4]
  have h := own_of (by unfold bX; omega)
  unfold bL at h
  rw [if_neg (by omega), if_pos c4] at h
  subst h; unfold Pin; rw [tQ]; omega
 rw [if_neg c4]
 by_cases c5 : op = 5
 ·rw [if_pos c5]; unfold Pin; omega
 rw [if_neg c5]
 by_cases c6 : op = 6
 ·rw [if_pos c6]
  have h := own_of (by unfold bX; omega)
  unfold bL at h
  rw [if_neg (by omega), if_neg c4, if_neg c5, if_pos c6] at h
  exact he.look ht h
 rw [if_neg c6]
 by_cases c19 : op = 19
 ·rw [if_pos c19]
  subst c19
  have hl : args.length = 3 := by omega
  have w1 : aL P 19 n ty 1 t = t := by simp [aL]
  have w2 : aL P 19 n ty 2 t = t := by simp [aL]
  have a1 := hin 1 (by omega) (env' := env) (by simp [aM]) he (by rw [w1]; exact ht)
  have a2 := hin 2 (by omega) (env' := env) (by simp [aM]) he (by rw [w2]; exact ht)
  rw [w1] at a1
  rw [w2] at a2
  unfold Pin at *
  split <;> constructor <;> omega
 rw [if_neg c19]
 by_cases c20 : op = 20
 ·rw [if_pos c20]
  subst c20
  have hl : args.length = 3 := by omega
  have w1 : aL P 20 n ty 1 t = t := by simp [aL]
  have w2 : aL P 20 n ty 2 t = t := by simp [aL]
  refine CJ _ 0 (by unfold Pin; omega) fun b hb => ?_
  show Pin t (if b.nl = true then ptI V args 1 N else ptI V args 2 ((tl, b.tl) :: (n, b.hd) :: N))
  split
  ·have a1 := hin 1 (by omega) (env' := env) (by simp [aM]) he (by rw [w1]; exact ht)
   rw [w1] at a1; exact a1
  ·rename_i hb0
   obtain ⟨q1, q2⟩ := G3 b hb (by simpa using hb0)
   have a2 := hin 2 (by omega) (env' := (env ++ [⟨n, 1, 0⟩]) ++ [⟨tl, 3, 0⟩]) (by simp [aM]) ((he.one q1).one q2) (by rw [w2]; exact ht)
   rw [w2] at a2; exact a2
 rw [if_neg c20]
 by_cases c21 : op = 21
 ·rw [if_pos c21]
  subst c21
  have hl : args.length = 2 ∧ a_ ty := by
   unfold a_ at *; omega
  have w0 : aL P 21 n ty 0 t = ty := by simp [aL]
  have w1 : aL P 21 n ty 1 t = t := by simp [aL]
  have hty := nW hl.2
  have hp := DA (g := fun q => ptI V args 0 ((n, q) :: N)) (t := ty) (fun q hq => by
   have a0 := hin 0 (by omega) (env' := env ++ [⟨n, ty, 0⟩]) (by simp [aM]) (he.one hq) (by rw [w0]; exact hl.2)
   rw [w0] at a0; exact a0) 4 0 (by unfold Pin; omega)
  have a1 := hin 1 (by omega) (env' := env ++ [⟨n, ty, 0⟩]) (by simp [aM]) (he.one hp) (by rw [w1]; exact ht)
  rw [w1] at a1; exact a1
 rw [if_neg c21]
 by_cases c22 : op = 22
 ·rw [if_pos c22]
  subst c22
  have hl : args.length = 2 ∧ a_ ty := by
   unfold a_ at *; omega
  have w0 : aL P 22 n ty 0 t = ty := by simp [aL]
  have w1 : aL P 22 n ty 1 t = t := by simp [aL]
  have a0 := hin 0 (by omega) (env' := env) (by simp [aM]) he (by rw [w0]; exact hl.2)
  rw [w0] at a0
  split
  ·have a1 := hin 1 (by omega) (env' := env ++ [⟨n, ty, 0⟩]) (by simp [aM]) (he.one a0) (by rw [w1]; exact ht)
   rw [w1] at a1; exact a1
  ·unfold Pin; omega
 rw [if_neg c22]
 have h := own_of (by unfold bX; omega)
 unfold bL at h
 rw [if_neg (by omega), if_neg c4, if_neg c5, if_neg c6] at h
 unfold hZ
 by_cases c18 : op = 18
 ·rw [if_pos c18]
  subst c18
  rw [if_neg (by omega), if_neg (by omega), if_pos rfl] at h
  subst h
  have hl : args.length = 2 := by omega
  have w1 : aL P 18 n ty 1 3 = 3 := by simp [aL]
  have a1 := hin 1 (by omega) (env' := env) (by simp [aM]) he (by rw [w1]; exact ht)
  have hy := List.getElem?_eq_getElem (l := args) (i := 1) (by omega)
  rw [w1, j9 args 1 _ hy] at a1
  rw [oZ args 1 _ hy, Option.getD_some]
  unfold Pin at a1
  rw [tQ] at a1
  unfold cnF Pin; rw [tQ]
  constructor <;> omega
 rw [if_neg c18]
 by_cases c7 : op = 7
 ·rw [if_pos c7]
  subst c7
  have hb := hbad rfl
  rw [if_pos rfl, if_neg hb] at h
  subst h
  have hb' := hb
  unfold dC at hb'
  have hlen : (hdF P n).params.length = args.length := by omega
  refine hV n _ (by rw [o0]; exact hb) (zU _ _ (by rw [o0, List.length_map, hlen]) fun k u hu => ?_)
  obtain ⟨x, hx, rfl⟩ := yT hu
  have hk : k < args.length := by rw [← hlen]; exact (List.getElem?_eq_some_iff.1 hx).1
  have hy := List.getElem?_eq_getElem hk
  rw [oZ args k _ hy, Option.getD_some, ← j9 args k _ hy]
  have w : aL P 7 n ty k (hdF P n).type = x.type := by simp [aL, hx]
  have htx : a_ x.type := by
   have hf : hdF P n ∈ P := by
    unfold hdF
    have : ¬ aP P 0 n < 0 := by omega
    have hlt : (aP P 0 n).toNat < P.length := by have := eT P 0 n; omega
    rw [List.getElem?_eq_getElem hlt]; exact List.getElem_mem hlt
   exact (hP _ hf).2 x (List.mem_of_getElem? hx)
  have a := hin k hk (env' := env) (by simp [aM]) he (by rw [w]; exact htx)
  rw [w] at a; exact a
 rw [if_neg c7]
 rw [if_neg c7] at h
 have ht1 : tp t = 1 := by
  subst h
  split
  ·rfl
  ·first
   | (split <;> rfl)
   | (rw [if_neg c18]; split <;> rfl)
 have hm := F2 (ptL V args N) 1 (by omega) fun x hx => by
  obtain ⟨k, hk⟩ := List.getElem?_of_mem hx
  have hkl : k < args.length := by rw [← o0 (V := V) (N := N) args]; exact (List.getElem?_eq_some_iff.1 hk).1
  have hy := List.getElem?_eq_getElem hkl
  rw [oZ args k _ hy, ← j9 args k _ hy] at hk
  have hw : a_ (aL P op n ty k t) := by
   have c2 : ¬ (op = 21 ∨ op = 22) := by omega
   unfold aL a_
   rw [if_neg c18, if_neg c7, if_neg c19, if_neg c20, if_neg c2]
   by_cases c14 : op = 14 <;> simp [c14]
  have a := hin k hkl (env' := env) (by unfold aM; rw [if_neg (by omega), if_neg (by omega)]) he hw
  simp only [Option.some.injEq] at hk
  rw [hk] at a; exact a.1
 unfold Pin; rw [ht1]; exact hm
mutual
theorem D_ {P : List Fn} {V : List UInt8 → List Int → Int} (hP : PT P) (hV : VOk P V) : ∀ e : Ex, PIn P V e
 | .mk op n tl ty z args p => M2 hP hV op n tl ty z args p (FB hP hV args)
theorem FB {P : List Fn} {V : List UInt8 → List Int → Int} (hP : PT P) (hV : VOk P V) : ∀ l : List Ex, ∀ x ∈ l, PIn P V x
 | [], x, h => by simp at h
 | y :: ys, x, h => by
  rcases List.mem_cons.1 h with e | h
  ·rw [e]; exact D_ hP hV y
  ·exact FB hP hV ys x h
end
set_option maxRecDepth 1000000
set_option maxHeartbeats 0
noncomputable def cf72 : Cfg := ⟨Tryz.prog, 19, [0, 1, 4], []⟩
noncomputable def lb72_0 : AC :=
 .seq (.ifr [JA 5 0, JM 6 5, JH 7 0 6, JD 8 1 7, JA 9 1, JO 10 (.bin .neq 9 (.t 8) (.t 9))] (.t 10) .skip (.exit 0)) (.block 1 (.reg [JA 11 0, JM 12 11, JH 13 2 12, JD 14 1 13, JB 0 14]))
noncomputable def ac72 : AC :=
 (.seq (.reg [JI 4 0]) (.seq (.block 0 (.loop lb72_0)) (.seq (.reg [JA 15 0, JM 16 15, JH 17 1 16, JD 18 1 17, JB 4 18]) .ret)))
theorem fi72 : FI Tryz.prog 72 cf72 ac72 [.t 4] [0, 1, 4] 19 := FI_of (c := Tryz.f72.body.getD .skip) Tryz.func72 (by kernel_rfl) (by rfl) (by rfl) (by kernel_rfl) (by kernel_rfl) rfl rfl rfl
@[simp] theorem cfP72 : cf72.P = Tryz.prog := (rfl)
noncomputable def cf74 : Cfg := ⟨Tryz.prog, 73, [0, 1, 2, 4, 6, 7, 9, 10, 12, 14, 16, 18, 62, 63, 64], []⟩
noncomputable def lb74_0 : AC :=
 .seq (.ifr [JO 65 (.bin .lss 3 (.g 64) (.g 63))] (.t 65) .skip (.exit 1)) (.seq (.block 2 (.seq (.reg [JO 66 (.ia 1 (.g 62) (.g 64)), JD 67 1 66, JB 16 67]) (.reg [JA 68 14, JA 69 16, JO 70 (.bi .min [.t 68, .t 69]), JB 14 70]))) (.reg [JO 71 (.bin .add 3 (.g 64) (JT 1)), JB 64 71]))
noncomputable def ac74 : AC :=
 (.seq (.reg [JN 4 1, JI 6 0]) (.seq (.seq (.reg [JG 17 0 4, JP 18 (.ld false 1 (.t 17))]) (.block 0 (.ifr [JO 20 (.bin .eql 40 (.g 18) (JT 18)), JC 19 20] (.t 19) (.seq (.reg [JA 22 2, JO 23 (.ia 1 (.t 22) (JT 0)), JD 24 1 23, JA 25 2, JO 26 (.ia 1 (.t 25) (JT 1)), JD 27 1 26, JO 28 (.pc (.f 103) [.t 24, .t 27]), JC 21 28, JK 29 0 21, JK 30 1 21, JB 7 29, JC 8 30]) (.seq (.reg [JA 31 7, JB 6 31]) .ret)) (.ifr [JO 33 (.bin .eql 40 (.g 18) (JT 7)), JC 32 33] (.t 32) (.seq (.reg [JA 34 0, JM 35 34, JH 36 2 35, JD 37 1 36, JA 38 0, JM 39 38, JH 40 1 39, JD 41 1 40, JG 42 1 4, JD 43 1 42, JO 44 (.lk none (.int .i64 0) false (.t 41) (.t 43)), JL 45 4 37 44, JE 46 4 45, JP 9 (.al [JW, JV, JV, JW]), JQ (.st 4 (.g 9) (.t 46))]) (.seq (.reg [JG 48 0 9, JD 49 1 48, JA 50 2, JO 51 (.pc (.f 49) [.t 49, .t 50]), JC 47 51, JK 52 0 47, JK 53 1 47, JB 10 52, JC 11 53]) (.seq (.reg [JG 55 2 9, JE 56 2 55, JA 57 10, JO 58 (.pc (.f 104) [.t 56, .t 57]), JC 54 58, JK 59 0 54, JK 60 1 54, JB 12 59, JC 13 60]) (.seq (.reg [JA 61 12, JB 6 61]) .ret)))) .skip)))) (.seq (.reg [JI 14 1]) (.seq (.seq (.reg [JP 62 (.mv (.g 2)), JP 63 (.len false (.g 62)), JI 64 0]) (.block 1 (.loop lb74_0))) (.seq (.reg [JA 72 14, JB 6 72]) .ret)))))
theorem fi74 : FI Tryz.prog 74 cf74 ac74 [.t 6] [0, 1, 2, 4, 6, 7, 9, 10, 12, 14, 16, 18, 62, 63, 64] 73 := FI_of (c := Tryz.f74.body.getD .skip) Tryz.func74 (by kernel_rfl) (by rfl) (by rfl) (by kernel_rfl) (by kernel_rfl) rfl rfl rfl
@[simp] theorem cfP74 : cf74.P = Tryz.prog := (rfl)
noncomputable def cf73 : Cfg := ⟨Tryz.prog, 65, [0, 1, 2, 4, 6, 7, 8, 11, 12, 24, 25, 26], [20, 39, 61]⟩
noncomputable def lb73_0 : AC :=
 .seq (.ifr [JO 27 (.bin .lss 3 (.g 26) (.g 25))] (.t 27) .skip (.exit 0)) (.seq (.block 1 (.seq (.reg [JO 28 (.ia 3 (.g 24) (.g 26)), JE 29 3 28, JP 11 (.al [.bool false, JV, JV]), JQ (.st 3 (.g 11) (.t 29))]) (.seq (.ifr [JG 30 0 11, JD 31 1 30] (.t 31) (.seq (.reg [JA 32 7, JA 33 0, JG 34 5 4, JD 35 1 34, JO 36 (.ia 7 (.t 35) (JT 1)), JE 37 7 36, JA 38 2, JO 39 (.cl (.f 39) [.t 33, .t 37, .t 38]), JO 40 (.bi .max [.t 32, .t 39]), JB 7 40]) (.exit 1)) .skip) (.seq (.reg [JG 41 1 4, JD 42 1 41, JG 43 1 11, JD 44 1 43, JA 45 2, JO 46 (.bld [JU, JV, .pointer none] [(0, 1, .t 42), (1, 1, .t 44), (2, 1, .t 45)]), JO 47 (.bxi (.t 46)), JB 12 47]) (.reg [JA 48 7, JA 49 0, JG 50 5 4, JD 51 1 50, JO 52 (.ia 7 (.t 51) (JT 2)), JE 53 7 52, JG 54 2 4, JD 55 1 54, JG 56 2 11, JD 57 1 56, JA 58 12, JO 59 (.bld [JU, JV, .pointer none] [(0, 1, .t 55), (1, 1, .t 57), (2, 1, .t 58)]), JO 60 (.bxi (.t 59)), JO 61 (.cl (.f 39) [.t 49, .t 53, .t 60]), JO 62 (.bi .max [.t 48, .t 61]), JB 7 62]))))) (.reg [JO 63 (.bin .add 3 (.g 26) (JT 1)), JB 26 63]))
noncomputable def ac73 : AC :=
 (.seq (.reg [JN 4 1, JI 6 0]) (.seq (.reg [JI 7 0]) (.seq (.reg [JA 14 0, JG 15 5 4, JD 16 1 15, JO 17 (.ia 7 (.t 16) (JT 0)), JE 18 7 17, JA 19 2, JO 20 (.cl (.f 39) [.t 14, .t 18, .t 19]), JO 21 (.pc (.f 102) [.t 20]), JC 13 21, JK 22 0 13, JK 23 1 13, JB 8 22, JC 9 23]) (.seq (.seq (.reg [JP 24 (.mv (.g 8)), JP 25 (.len false (.g 24)), JI 26 0]) (.block 0 (.loop lb73_0))) (.seq (.reg [JA 64 7, JB 6 64]) .ret)))))
theorem fi73 : FI Tryz.prog 73 cf73 ac73 [.t 6] [0, 1, 2, 4, 6, 7, 8, 11, 12, 24, 25, 26] 65 := FI_of (c := Tryz.f73.body.getD .skip) Tryz.func73 (by kernel_rfl) (by rfl) (by rfl) (by kernel_rfl) (by kernel_rfl) rfl rfl rfl
@[simp] theorem cfP73 : cf73.P = Tryz.prog := (rfl)
noncomputable def cf39 : Cfg := ⟨Tryz.prog, 142, [0, 1, 2, 4, 6, 7, 8, 9, 10, 12, 14, 15, 124, 125, 126], [37, 45, 52, 59, 73, 86, 99, 108, 122, 134, 136, 141, 1000000]⟩
noncomputable def lb39_0 : AC :=
 .seq (.ifr [JO 127 (.bin .lss 3 (.g 126) (.g 125))] (.t 127) .skip (.exit 3)) (.seq (.block 4 (.seq (.reg [JO 128 (.ia 7 (.g 124) (.g 126)), JE 129 7 128, JP 12 (.al [JV, JU, JU, JV, .complex .f64 0 0, JW, JV]), JQ (.st 7 (.g 12) (.t 129))]) (.reg [JA 130 10, JA 131 0, JF 132 7 12, JA 133 2, JO 134 (.cl (.f 39) [.t 131, .t 132, .t 133]), JO 135 (.bsl 1 1 [JV] [(0, 1, .t 134)]), JO 136 (.app 1 8 [JV] (.t 130) (.t 135)), JB 10 136]))) (.reg [JO 137 (.bin .add 3 (.g 126) (JT 1)), JB 126 137]))
noncomputable def lb39_1 : AC :=
 .seq (.ifr [JA 74 8, JA 75 7, JM 76 75, JH 77 1 76, JD 78 1 77, JO 79 (.bin .gtr 49 (.t 74) (.t 78))] (.t 79) .skip (.exit 1)) (.seq (.block 2 (.reg [JG 87 1 4, JD 88 1 87, JA 89 8, JA 90 2, JO 91 (.bld [JU, JV, .pointer none] [(0, 1, .t 88), (1, 1, .t 89), (2, 1, .t 90)]), JO 92 (.bxi (.t 91)), JB 7 92])) (.reg [JA 80 0, JG 81 5 4, JD 82 1 81, JO 83 (.ia 7 (.t 82) (JT 0)), JE 84 7 83, JA 85 7, JO 86 (.cl (.f 39) [.t 80, .t 84, .t 85]), JB 8 86]))
noncomputable def ac39 : AC :=
 (.seq (.reg [JN 4 1, JI 6 0]) (.seq (.seq (.reg [JG 13 0 4, JP 14 (.ld false 1 (.t 13))]) (.block 0 (.seq (.ifr [JO 16 (.bin .eql 40 (.g 14) (JT 1)), JB 15 16] (.g 15) .skip (.ifr [JO 17 (.bin .eql 40 (.g 14) (JT 2)), JB 15 17] (.g 15) .skip (.reg [JO 18 (.bin .eql 40 (.g 14) (JT 3)), JB 15 18]))) (.cond (.g 15) (.seq (.reg [JI 6 1]) .ret) (.ifr [JO 20 (.bin .eql 40 (.g 14) (JT 4)), JC 19 20] (.t 19) (.seq (.reg [JI 6 3]) .ret) (.ifr [JO 22 (.bin .eql 40 (.g 14) (JT 5)), JC 21 22] (.t 21) (.seq (.reg [JI 6 0]) .ret) (.ifr [JO 24 (.bin .eql 40 (.g 14) (JT 6)), JC 23 24] (.t 23) (.seq (.reg [JA 25 2, JG 26 1 4, JD 27 1 26, JO 28 (.pc (.f 72) [.t 25, .t 27]), JB 6 28]) .ret) (.ifr [JO 30 (.bin .eql 40 (.g 14) (JT 19)), JC 29 30] (.t 29) (.seq (.ifr [JA 31 0, JG 32 5 4, JD 33 1 32, JO 34 (.ia 7 (.t 33) (JT 0)), JE 35 7 34, JA 36 2, JO 37 (.cl (.f 39) [.t 31, .t 35, .t 36]), JO 38 (.bin .eql 49 (.t 37) (JT 0))] (.t 38) (.seq (.reg [JI 6 0]) .ret) .skip) (.seq (.reg [JA 39 0, JG 40 5 4, JD 41 1 40, JO 42 (.ia 7 (.t 41) (JT 1)), JE 43 7 42, JA 44 2, JA 46 0, JG 47 5 4, JD 48 1 47, JO 49 (.ia 7 (.t 48) (JT 2)), JE 50 7 49, JA 51 2, JO 45 (.cln (.f 39) [.t 39, .t 43, .t 44]), JO 52 (.cln (.f 39) [.t 46, .t 50, .t 51]), JO 53 (.bi .max [.t 45, .t 52]), JB 6 53]) .ret)) (.ifr [JO 55 (.bin .eql 40 (.g 14) (JT 20)), JC 54 55] (.t 54) (.seq (.reg [JA 56 0, JF 57 7 4, JA 58 2, JO 59 (.cl (.f 73) [.t 56, .t 57, .t 58]), JB 6 59]) .ret) (.ifr [JO 61 (.bin .eql 40 (.g 14) (JT 21)), JC 60 61] (.t 60) (.seq (.reg [JG 62 1 4, JD 63 1 62, JA 64 2, JO 65 (.bld [JU, JV, .pointer none] [(0, 1, .t 63), (2, 1, .t 64)]), JO 66 (.bxi (.t 65)), JB 7 66]) (.seq (.seq (.reg [JA 67 0, JG 68 5 4, JD 69 1 68, JO 70 (.ia 7 (.t 69) (JT 0)), JE 71 7 70, JA 72 7, JO 73 (.cl (.f 39) [.t 67, .t 71, .t 72]), JB 8 73]) (.block 1 (.loop lb39_1))) (.seq (.reg [JA 93 0, JG 94 5 4, JD 95 1 94, JO 96 (.ia 7 (.t 95) (JT 1)), JE 97 7 96, JA 98 7, JO 99 (.cl (.f 39) [.t 93, .t 97, .t 98]), JB 6 99]) .ret))) (.ifr [JO 101 (.bin .eql 40 (.g 14) (JT 22)), JC 100 101] (.t 100) (.seq (.seq (.reg [JA 102 0, JG 103 5 4, JD 104 1 103, JO 105 (.ia 7 (.t 104) (JT 0)), JE 106 7 105, JA 107 2, JO 108 (.cl (.f 39) [.t 102, .t 106, .t 107]), JB 9 108]) (.ifr [JA 109 9, JO 110 (.bin .gtr 49 (.t 109) (JT 0))] (.t 110) (.seq (.reg [JA 111 0, JG 112 5 4, JD 113 1 112, JO 114 (.ia 7 (.t 113) (JT 1)), JE 115 7 114, JG 116 1 4, JD 117 1 116, JA 118 9, JA 119 2, JO 120 (.bld [JU, JV, .pointer none] [(0, 1, .t 117), (1, 1, .t 118), (2, 1, .t 119)]), JO 121 (.bxi (.t 120)), JO 122 (.cl (.f 39) [.t 111, .t 115, .t 121]), JB 6 122]) .ret) .skip)) (.seq (.reg [JI 6 0]) .ret)) .skip))))))))))) (.seq (.reg [JP 10 (.mv (.c (.slice none 0 0)))]) (.seq (.seq (.reg [JG 123 5 4, JP 124 (.ld false 1 (.t 123)), JP 125 (.len false (.g 124)), JI 126 0]) (.block 3 (.loop lb39_0))) (.seq (.reg [JA 138 0, JF 139 7 4, JA 140 10, JO 141 (.cl (.f 74) [.t 138, .t 139, .t 140]), JB 6 141]) .ret)))))
theorem fi39 : FI Tryz.prog 39 cf39 ac39 [.t 6] [0, 1, 2, 4, 6, 7, 8, 9, 10, 12, 14, 15, 124, 125, 126] 142 := FI_of (c := Tryz.f39.body.getD .skip) Tryz.func39 (by kernel_rfl) (by rfl) (by rfl) (by kernel_rfl) (by kernel_rfl) rfl rfl rfl
@[simp] theorem cfP39 : cf39.P = Tryz.prog := (rfl)
noncomputable def cf50 : Cfg := ⟨Tryz.prog, 47, [0, 1, 2, 6, 7, 8, 9, 18, 19, 20], [46]⟩
noncomputable def lb50_0 : AC :=
 .seq (.ifr [JO 21 (.bin .lss 3 (.g 20) (.g 19))] (.t 21) .skip (.exit 0)) (.seq (.block 1 (.seq (.reg [JA 22 20, JO 23 (.ia 3 (.g 18) (.g 20)), JE 24 3 23, JP 9 (.al [JU, JV, JV]), JB 8 22, JQ (.st 3 (.g 9) (.t 24))]) (.reg [JG 25 0 9, JD 26 1 25, JA 27 2, JA 28 8, JL 29 1 27 28, JD 30 1 29, JA 31 7, JO 32 (.bld [JU, JV, .pointer none] [(0, 1, .t 26), (1, 1, .t 30), (2, 1, .t 31)]), JO 33 (.bxi (.t 32)), JB 7 33]))) (.reg [JO 34 (.bin .add 3 (.g 20) (JT 1)), JB 20 34]))
noncomputable def ac50 : AC :=
 (.seq (.reg [JI 6 0]) (.seq (.reg [JP 7 (.mv (.c (.pointer none)))]) (.seq (.seq (.reg [JA 10 0, JM 11 10, JH 12 0 11, JH 13 0 12, JD 14 1 13, JA 15 1, JL 16 11 14 15, JH 17 1 16, JP 18 (.ld false 1 (.t 17)), JP 19 (.len false (.g 18)), JI 20 0]) (.block 0 (.loop lb50_0))) (.seq (.reg [JA 35 0, JA 36 0, JM 37 36, JH 38 0 37, JH 39 0 38, JD 40 1 39, JA 41 1, JL 42 11 40 41, JH 43 3 42, JE 44 7 43, JA 45 7, JO 46 (.cl (.f 39) [.t 35, .t 44, .t 45]), JB 6 46]) .ret))))
theorem fi50 : FI Tryz.prog 50 cf50 ac50 [.t 6] [0, 1, 2, 6, 7, 8, 9, 18, 19, 20] 47 := FI_of (c := Tryz.f50.body.getD .skip) Tryz.func50 (by kernel_rfl) (by rfl) (by rfl) (by kernel_rfl) (by kernel_rfl) rfl rfl rfl
@[simp] theorem cfP50 : cf50.P = Tryz.prog := (rfl)
set_option maxRecDepth 100000
set_option maxHeartbeats 4000000
def cP : Nls → D
 | [] => .pl (.pointer none)
 | x :: r => .pt [Tx x.1, I x.2, cP r]
theorem imm_N : ∀ (N : Nls), (cP N).imm = true
 | [] => rfl
 | x :: r => by simp [cP, D.imm, D.imms, imm_N r]
attribute [simp] imm_N
def hasN (N : Nls) (n : List UInt8) : Prop := ∃ x ∈ N, x.1 = n
theorem EnvR.has {env : List Pm} {N : Nls} (h : EnvR env N) {n : List UInt8} {t : Int} (ht : a_ t) (hl : eQ env n = t) : hasN N n := by
 induction h with
 | nil => unfold eQ eU at hl; simp at hl; unfold a_ at ht; omega
 | snoc h hp ih =>
  rename_i env N x p
  unfold eQ at hl ih
  rw [List.reverse_append] at hl
  simp only [List.reverse_cons, List.reverse_nil, List.nil_append, List.singleton_append, eU] at hl
  by_cases e : x.name = n
  ·exact ⟨_, List.mem_cons_self, e⟩
  ·rw [if_neg e] at hl
   obtain ⟨y, h1, h2⟩ := ih hl
   exact ⟨y, List.mem_cons_of_mem _ h1, h2⟩
theorem find_c (N : Nls) (n : List UInt8) (h : hasN N n) : Pure Tryz.prog 72 [cP N, Tx n] (I (h_ N n)) := by
 refine fi72.pu (by simp) ?_
 simp -implicitDefEqProofs [ac72]
 generalize hR : h_ N n = R
 refine lpG cf72 lb72_0 [0] (α := Nls) (fun s _ => [(0, cP s)]) (fun s _ => []) (fun s k => hasN s n ∧ h_ s n = R) (fun s => s.length) N ⟨h, hR⟩ (by simp) (by simp) ?_
 rintro s k ⟨hs, hr⟩
 cases s with
 | nil => obtain ⟨x, hx, _⟩ := hs; simp at hx
 | cons x r =>
  unfold h_ at hr
  by_cases e : x.1 = n
  ·rw [if_pos e] at hr
   subst hr
   simp -implicitDefEqProofs [lb72_0, cP, e]
  ·rw [if_neg e] at hr
   have e2 : ¬ n = x.1 := fun g => e g.symm
   simp -implicitDefEqProofs [lb72_0, cP, e, e2]
   refine aI r ⟨?_, hr⟩ (by simp) (by simp) (by simp)
   obtain ⟨y, h1, h2⟩ := hs
   rcases List.mem_cons.1 h1 with rfl | h1
   ·exact absurd h2 e
   ·exact ⟨y, h1, h2⟩
structure Tt where
 ps : List Int
 t : Int
 n : Int
 l : List Int
instance : Inhabited Tt := ⟨⟨[], 0, 0, []⟩⟩
def fQ (x : Tt) : List D := tbC x.ps x.t x.n x.l
def aZ (P : List Fn) (T : List Tt) (n : List UInt8) (l : List Int) : Int := cR (T[(aP P 0 n).toNat]?.getD default).l (fI (T[(aP P 0 n).toNat]?.getD default).ps l).1.toNat
structure vN (P : List Fn) (T : List Tt) : Prop where
 len : T.length = P.length
 ok : ∀ x ∈ T, lW x.ps x.t x.n x.l ∧ gM x.l ∧ x.ps.length < 2 ^ 44
 fit : ∀ i, (h : i < P.length) → (T[i]?.getD default).ps = P[i].params.map Pm.type ∧ (T[i]?.getD default).t = P[i].type
theorem AS {P : List Fn} {T : List Tt} (h : vN P T) : VOk P (aZ P T) := by
 intro n l hb hin
 unfold dC at hb
 have hh := eT P 0 n
 have hlt : (aP P 0 n).toNat < P.length := by omega
 obtain ⟨f1, f2⟩ := h.fit _ hlt
 have hd : hdF P n = P[(aP P 0 n).toNat] := by unfold hdF; rw [List.getElem?_eq_getElem hlt]; rfl
 have hT : (aP P 0 n).toNat < T.length := by rw [h.len]; exact hlt
 have hx := h.ok (T[(aP P 0 n).toNat]?.getD default) (by rw [List.getElem?_eq_getElem hT]; exact List.getElem_mem hT)
 unfold aZ
 rw [hd] at hin ⊢
 rw [← f1] at hin
 rw [← f2]
 obtain ⟨⟨k1, k2, k3, k4, k5⟩, _⟩ := hx
 have hlen := sQ hin
 have hv := yZ _ _ 0 hin (Int.le_refl 0)
 have hnum : fI (T[(aP P 0 n).toNat]?.getD default).ps l = (vl (T[(aP P 0 n).toNat]?.getD default).ps l 0, 0) := by
  unfold fI
  rw [if_neg (by rw [k1]; simp), if_neg (by rw [hlen]; simp), if_pos hin]
 rw [hnum]
 have := k5 (vl (T[(aP P 0 n).toNat]?.getD default).ps l 0).toNat (by omega)
 have h0 := B6 (T[(aP P 0 n).toNat]?.getD default).l (vl (T[(aP P 0 n).toNat]?.getD default).ps l 0).toNat
 exact ⟨h0.1, this⟩
theorem EF {l : List Tt} {mem : Mem} {j : IntKind} {i : Int} : iaD mem 4 (.sl (em fQ l)) (.pl (.int j i)) = if 0 ≤ i ∧ i < l.length then some (.pt [.sl (em bH (l[i.toNat]?.getD default).ps), I (l[i.toNat]?.getD default).t, I (l[i.toNat]?.getD default).n, .sl (em i8 (l[i.toNat]?.getD default).l)]) else none := iX fun x => rfl
abbrev sgD (P : List Fn) (hid : Nat) (T : List Tt) : D := .pt [.sl (em aY P), .omap hid, .sl (em fQ T)]
structure Sg (mem : Mem) (P : List Fn) (hid : Nat) (T : List Tt) : Prop where
 at' : ∃ m, look mem hid = some (.map (bR m)) ∧ ∀ n, 0 ≤ aP P 0 n → dB m n = aP P 0 n
 tabs : vN P T
theorem vX (l : List Int) (i : Nat) (h : i < l.length) (m : Int) : (l.drop i).foldl min m = (l.drop (i + 1)).foldl min (min m l[i]) := by
 rw [List.drop_eq_getElem_cons h]; rfl
theorem join_c {mem : Mem} {nx hid : Nat} {P : List Fn} {T : List Tt} {K : KD} (op : Int) (n tl : List UInt8) (ty : Int) (z : Cx) (args : List Ex) (p : Int) (l : List Int) (hs : Sg mem P hid T) (hl : l.length < 2 ^ 40)
  (h18 : op = 18 → l.length = 2 ∧ Pin 1 (l[0]?.getD 0) ∧ Pin 3 (l[1]?.getD 0)) (h7 : op = 7 → ¬ dC P n l.length ∧ inT ((hdF P n).params.map Pm.type) l = true)
  (hk : ∀ n', nx ≤ n' → K (I (hZ (aZ P T) op n l)) mem n') :
  bO Tryz.prog 74 [sgD P hid T, .agg [I op, Tx n, Tx tl, I ty, CX z.re z.im, .sl (em aQ args), I p], .sl (em bH l)] mem nx K := by
 obtain ⟨⟨m, hm, hat⟩, ht⟩ := hs
 refine fi74.ct (by simp) fun hfr => ?_
 have hne : ∀ i, nx ≤ i → (hid = i) = False := fun i hi => eq_false fun e => by rw [e, hfr i hi] at hm; simp at hm
 have hne2 : ∀ i, nx ≤ i → (i = hid) = False := fun i hi => eq_false fun e => by rw [← e, hfr i hi] at hm; simp at hm
 simp -implicitDefEqProofs [ac74]
 by_cases c18 : op = 18
 ·obtain ⟨hl2, p1, p2⟩ := h18 c18
  have e : hZ (aZ P T) op n l = cnF (l[0]?.getD 0) (l[1]?.getD 0) := by unfold hZ; rw [if_pos c18]
  rw [e] at hk
  have q0 : 0 < l.length := by omega
  have q1 : 1 < l.length := by omega
  unfold Pin at p1 p2
  rw [tp_1] at p1
  rw [tQ] at p2
  have r0 : l[0]?.getD 0 = l[0] := by rw [List.getElem?_eq_getElem q0]; rfl
  have r1 : l[1]?.getD 0 = l[1] := by rw [List.getElem?_eq_getElem q1]; rfl
  rw [r0] at p1 hk
  rw [r1] at p2 hk
  obtain ⟨a, ha⟩ : ∃ a, l[0] = a := ⟨_, rfl⟩
  obtain ⟨b, hb⟩ : ∃ b, l[1] = b := ⟨_, rfl⟩
  rw [ha] at p1 hk
  rw [hb] at p2 hk
  have q1i : (1 : Int) < (l.length : Int) := by omega
  simp -implicitDefEqProofs [c18, q0, q1, q1i, ha, hb]
  refine aG (IK p1 p2) (by simp) ?_
  simp -implicitDefEqProofs
  exact ⟨_, aF _, hk _ (by omega)⟩
 ·by_cases c7 : op = 7
  ·obtain ⟨hb, hin⟩ := h7 c7
   have hbi := hb
   unfold dC at hbi
   have hh := eT P 0 n
   have hat' := hat n (by omega)
   have hlt : (aP P 0 n).toNat < P.length := by omega
   have hT : (aP P 0 n).toNat < T.length := by rw [ht.len]; exact hlt
   have hTi : aP P 0 n < (T.length : Int) := by omega
   have h0 : 0 ≤ aP P 0 n := by omega
   obtain ⟨f1, f2⟩ := ht.fit _ hlt
   have hd : hdF P n = P[(aP P 0 n).toNat] := by unfold hdF; rw [List.getElem?_eq_getElem hlt]; rfl
   obtain ⟨x, hxe⟩ : ∃ x, T[(aP P 0 n).toNat]?.getD default = x := ⟨_, rfl⟩
   have hx := ht.ok x (by rw [← hxe, List.getElem?_eq_getElem hT]; exact List.getElem_mem hT)
   have e : hZ (aZ P T) op n l = cR x.l (fI x.ps l).1.toNat := by unfold hZ aZ; rw [if_neg c18, if_pos c7, hxe]
   rw [e] at hk
   rw [hd, ← f1, hxe] at hin
   obtain ⟨⟨k1, k2, k3, k4, k5⟩, kw, kl⟩ := hx
   have hlen := sQ hin
   have hv := yZ _ _ 0 hin (Int.le_refl 0)
   have hnum : fI x.ps l = (vl x.ps l 0, 0) := by
    unfold fI
    rw [if_neg (by rw [k1]; simp), if_neg (by rw [hlen]; simp), if_pos hin]
   rw [hnum] at hk
   simp only at hk
   have hv0 : 0 ≤ vl x.ps l 0 := by omega
   have hv1 : vl x.ps l 0 < x.n := by omega
   have hxe2 : T[(aP P 0 n).toNat] = x := by rw [← hxe, List.getElem?_eq_getElem hT]; rfl
   simp -implicitDefEqProofs [c18, c7, hm, hat', EF, h0, hTi, hT, hxe2]
   refine aG (yV x.ps l (by omega) (by omega)) (by simp) ?_
   simp -implicitDefEqProofs [hnum]
   refine aG (Get_c x.n (vl x.ps l 0) x.l) (by simp) ?_
   simp -implicitDefEqProofs [getF, k4, hv0, hv1]
   exact ⟨mem, fun i b hb => by rw [a8, if_neg (by rintro rfl; rw [hfr _ (by omega)] at hb; simp at hb)]; exact hb, hk _ (by omega)⟩
  ·have e : hZ (aZ P T) op n l = l.foldl min 1 := by unfold hZ; rw [if_neg c18, if_neg c7]
   rw [e] at hk
   generalize hR : l.foldl min 1 = R at hk
   simp -implicitDefEqProofs [c18, c7]
   refine lpG cf74 lb74_0 [14, 16, 64] (α := Nat × Int) (fun s _ => [(14, I s.2), (16, .top), (64, I s.1)]) (fun s _ => mem) (fun s k => nx ≤ k ∧ s.1 ≤ l.length ∧ (l.drop s.1).foldl min s.2 = R) (fun s => l.length - s.1) (0, 1) ⟨by omega, by simp, hR⟩ (by simp) (aK _) ?_
   rintro ⟨i, b⟩ k ⟨hk1, hi, hr⟩
   simp only at hi hr hk1
   by_cases hlt : i < l.length
   ·have w1 := aS (x := (i : Int) + 1) (by omega) (by omega)
    rw [vX l i hlt] at hr
    obtain ⟨x, hxe⟩ : ∃ x, l[i] = x := ⟨_, rfl⟩
    rw [hxe] at hr
    simp -implicitDefEqProofs [lb74_0, hlt, hxe, w1]
    exact aI (i + 1, min b x) ⟨by omega, hlt, hr⟩ (by simp only; omega) (by simp) (aK _)
   ·have hil : i = l.length := by omega
    subst hil
    rw [List.drop_length] at hr
    simp only [List.foldl_nil] at hr
    subst hr
    simp -implicitDefEqProofs [lb74_0]
    exact ⟨_, aF _, hk _ (by omega)⟩
mutual
def noN (z : List UInt8) : Ex → Prop
 | .mk _ n _ _ _ args _ => n ≠ z ∧ pI z args
def pI (z : List UInt8) : List Ex → Prop
 | [] => True
 | x :: xs => noN z x ∧ pI z xs
end
theorem mP (env : List Pm) (x : Pm) (n : List UInt8) : eQ (env ++ [x]) n = if x.name = n then x.type else eQ env n := by
 unfold eQ
 rw [List.reverse_append]
 rfl
def SameE (z : List UInt8) (env env' : List Pm) : Prop := ∀ n, n ≠ z → eQ env n = eQ env' n
def SameN (z : List UInt8) (N M : Nls) : Prop := ∀ n, n ≠ z → h_ N n = h_ M n
theorem SameE.snoc {z : List UInt8} {env env' : List Pm} (h : SameE z env env') (x : Pm) : SameE z (env ++ [x]) (env' ++ [x]) := fun n hn => by
 rw [mP, mP, h n hn]
theorem SameN.cons {z : List UInt8} {N M : Nls} (h : SameN z N M) (x : List UInt8 × Int) : SameN z (x :: N) (x :: M) := fun n hn => by
 unfold h_
 rw [h n hn]
theorem SameE.within {z : List UInt8} {env env' : List Pm} (h : SameE z env env') (op : Int) (n tl : List UInt8) (ty : Int) (i : Nat) : SameE z (aM env op n tl ty i) (aM env' op n tl ty i) := by
 unfold aM
 split
 ·exact h.snoc _
 ·split
  ·have e : ∀ e : List Pm, e ++ [⟨n, 1, 0⟩, ⟨tl, 3, 0⟩] = e ++ [⟨n, 1, 0⟩] ++ [⟨tl, 3, 0⟩] := fun e => by simp
   rw [e, e]
   exact (h.snoc _).snoc _
  ·exact h
mutual
theorem nY {P : List Fn} {z : List UInt8} : ∀ (e : Ex) (env env' : List Pm) (t : Int), noN z e → SameE z env env' → a7 P env e t = a7 P env' e t
 | .mk op n tl ty c args p, env, env', t, h, hE => by
  unfold noN at h
  have ho : bL P env op n ty args.length = bL P env' op n ty args.length := by
   unfold bL
   rw [hE n h.1]
  unfold a7
  rw [vD args env env' op n tl ty t 0 h.2 hE, ho]
theorem vD {P : List Fn} {z : List UInt8} : ∀ (l : List Ex) (env env' : List Pm) (op : Int) (n tl : List UInt8) (ty t : Int) (i : Nat), pI z l → SameE z env env' → bB P env op n tl ty t i l = bB P env' op n tl ty t i l
 | [], env, env', op, n, tl, ty, t, i, _, _ => rfl
 | x :: xs, env, env', op, n, tl, ty, t, i, h, hE => by
  unfold pI at h
  unfold bB
  rw [nY x _ _ _ h.1 (hE.within op n tl ty i), vD xs env env' op n tl ty t (i + 1) h.2 hE]
end
theorem EP {V : List UInt8 → List Int → Int} {N M : Nls} : ∀ (l : List Ex) (k : Nat), (∀ x ∈ l, ptF V x N = ptF V x M) → ptI V l k N = ptI V l k M
 | [], k, _ => rfl
 | x :: xs, 0, h => h x (by simp)
 | x :: xs, k + 1, h => EP xs k fun y hy => h y (by simp [hy])
theorem tP {z : List UInt8} : ∀ {l : List Ex}, pI z l → ∀ x ∈ l, noN z x
 | y :: ys, h, x, hx => by
  unfold pI at h
  rcases List.mem_cons.1 hx with rfl | hx
  ·exact h.1
  ·exact tP h.2 x hx
def yP (V : List UInt8 → List Int → Int) (z : List UInt8) (e : Ex) : Prop := ∀ ⦃N M : Nls⦄, noN z e → SameN z N M → ptF V e N = ptF V e M
theorem GM {V : List UInt8 → List Int → Int} {z : List UInt8} (op : Int) (n tl : List UInt8) (ty : Int) (c : Cx) (args : List Ex) (p : Int) (ih : ∀ x ∈ args, yP V z x) : yP V z (.mk op n tl ty c args p) := by
 intro N M h hN
 unfold noN at h
 have hi : ∀ k (A B : Nls), SameN z A B → ptI V args k A = ptI V args k B := fun k A B hAB => EP args k fun x hx => ih x hx (tP h.2 x hx) hAB
 have hl : ptL V args N = ptL V args M := by
  have : ∀ l : List Ex, (∀ x ∈ l, ptF V x N = ptF V x M) → ptL V l N = ptL V l M := by
   intro l
   induction l with
   | nil => intro _; rfl
   | cons x xs ih2 => intro g; simp only [ptL]; rw [g x (by simp), ih2 fun y hy => g y (by simp [hy])]
  exact this args fun x hx => ih x hx (tP h.2 x hx) hN
 have hg : (fun q => ptI V args 0 ((n, q) :: N)) = fun q => ptI V args 0 ((n, q) :: M) := funext fun q => hi 0 _ _ (hN.cons _)
 have hcase : (fun b : Br => if b.nl = true then ptI V args 1 N else ptI V args 2 ((tl, b.tl) :: (n, b.hd) :: N)) = fun b : Br => if b.nl = true then ptI V args 1 M else ptI V args 2 ((tl, b.tl) :: (n, b.hd) :: M) := funext fun b => by
  rw [hi 1 _ _ hN, hi 2 _ _ ((hN.cons _).cons _)]
 unfold ptF
 rw [hN n h.1, hi 0 _ _ hN, hi 1 _ _ hN, hi 2 _ _ hN, hl, hg]
 rw [hi 1 _ _ (hN.cons _), hi 1 _ _ (hN.cons (n, ptI V args 0 M))]
 rw [show (fun b : Br => if b.nl = true then ptI V args 1 M else ptI V args 2 ((tl, b.tl) :: (n, b.hd) :: N)) = fun b : Br => if b.nl = true then ptI V args 1 M else ptI V args 2 ((tl, b.tl) :: (n, b.hd) :: M) from funext fun b => by rw [hi 2 _ _ ((hN.cons _).cons _)]]
mutual
theorem v8 {V : List UInt8 → List Int → Int} {z : List UInt8} : ∀ e : Ex, yP V z e
 | .mk op n tl ty c args p => GM op n tl ty c args p (AB args)
theorem AB {V : List UInt8 → List Int → Int} {z : List UInt8} : ∀ l : List Ex, ∀ x ∈ l, yP V z x
 | [], x, h => by simp at h
 | y :: ys, x, h => by
  rcases List.mem_cons.1 h with e | h
  ·rw [e]; exact v8 y
  ·exact AB ys x h
end
theorem Sg.skip {mem : Mem} {P : List Fn} {hid : Nat} {T : List Tt} (h : Sg mem P hid T) {i : Nat} {b : Blk} (hi : look mem i = none) : Sg ((i, b) :: mem) P hid T := by
 obtain ⟨⟨m, h1, h2⟩, h3⟩ := h
 refine ⟨⟨m, ?_, h2⟩, h3⟩
 rw [a8]
 split
 ·rename_i e; subst e; rw [hi] at h1; simp at h1
 ·exact h1
abbrev exD (a : Ex) : D := .agg [I a.op, Tx a.name, Tx a.tail, I a.type, CX a.num.re a.num.im, .sl (em aQ a.args), I a.at']
def PtC (e : Ex) : Prop := ∀ ⦃mem : Mem⦄ ⦃nx hid : Nat⦄ ⦃P : List Fn⦄ ⦃T : List Tt⦄ ⦃N : Nls⦄ ⦃env : List Pm⦄ ⦃t : Int⦄ ⦃K : KD⦄, Sg mem P hid T → PT P → Sh e → a_ t → a7 P env e t = [] → EnvR env N → size e ≤ 2 ^ 39 →
 (∀ n', nx ≤ n' → K (I (ptF (aZ P T) e N)) mem n') → bO Tryz.prog 39 [sgD P hid T, exD e, cP N] mem nx K
structure Pts (P : List Fn) (T : List Tt) (env : List Pm) (op : Int) (n tl : List UInt8) (ty t : Int) (args : List Ex) : Prop where
 c : ∀ k (hk : k < args.length) ⦃mem : Mem⦄ ⦃nx hid : Nat⦄ ⦃env' : List Pm⦄ ⦃M : Nls⦄ ⦃K : KD⦄, Sg mem P hid T → aM env op n tl ty k = env' → EnvR env' M → a_ (aL P op n ty k t) → (∀ n', nx ≤ n' → K (I (ptI (aZ P T) args k M)) mem n') → bO Tryz.prog 39 [sgD P hid T, exD args[k], cP M] mem nx K
 i : ∀ k, k < args.length → ∀ ⦃env' : List Pm⦄ ⦃M : Nls⦄, aM env op n tl ty k = env' → EnvR env' M → a_ (aL P op n ty k t) → Pin (aL P op n ty k t) (ptI (aZ P T) args k M)
theorem D4 {l : List Br} {mem : Mem} {j : IntKind} {i : Int} : iaD mem 3 (.sl (em uJ l)) (.pl (.int j i)) = if 0 ≤ i ∧ i < l.length then some (.pt [B (l[i.toNat]?.getD default).nl, I (l[i.toNat]?.getD default).hd, I (l[i.toNat]?.getD default).tl]) else none := iX fun x => rfl
theorem L5 {mem : Mem} {nx hid : Nat} {P : List Fn} {T : List Tt} {N : Nls} {env : List Pm} {t : Int} {K : KD} (n tl : List UInt8) (ty : Int) (z : Cx) (args : List Ex) (p : Int) (hl : args.length = 3) (ht : a_ t) (hs : Sg mem P hid T) (he : EnvR env N) (pts : Pts P T env 20 n tl ty t args)
  (hk : ∀ n', nx ≤ n' → K (I (ptF (aZ P T) (.mk 20 n tl ty z args p) N)) mem n') :
  bO Tryz.prog 73 [sgD P hid T, .agg [I 20, Tx n, Tx tl, I ty, CX z.re z.im, .sl (em aQ args), I p], cP N] mem nx K := by
 have w0 : aL P 20 n ty 0 t = 3 := by simp [aL]
 have w1 : aL P 20 n ty 1 t = t := by simp [aL]
 have w2 : aL P 20 n ty 2 t = t := by simp [aL]
 have e0 : aM env 20 n tl ty 0 = env := by simp [aM]
 have e1 : aM env 20 n tl ty 1 = env := by simp [aM]
 have e2 : aM env 20 n tl ty 2 = (env ++ [⟨n, 1, 0⟩]) ++ [⟨tl, 3, 0⟩] := by simp [aM]
 have i0 := pts.i 0 (by omega) e0 he (by rw [w0]; exact .inr (.inr rfl))
 rw [w0] at i0
 have q0 : 0 < args.length := by omega
 have q1 : 1 < args.length := by omega
 have q2 : 2 < args.length := by omega
 have q0i : (0 : Int) < (args.length : Int) := by omega
 have q1i : (1 : Int) < (args.length : Int) := by omega
 have q2i : (2 : Int) < (args.length : Int) := by omega
 have c0 := pts.c 0 q0
 have c1 := pts.c 1 q1
 have c2 := pts.c 2 q2
 obtain ⟨a0, ha0⟩ : ∃ a, args[0] = a := ⟨_, rfl⟩
 obtain ⟨a1, ha1⟩ : ∃ a, args[1] = a := ⟨_, rfl⟩
 obtain ⟨a2, ha2⟩ : ∃ a, args[2] = a := ⟨_, rfl⟩
 rw [ha0] at c0
 rw [ha1] at c1
 rw [ha2] at c2
 have hpt : ptF (aZ P T) (.mk 20 n tl ty z args p) N = casF (fun b => if b.nl = true then ptI (aZ P T) args 1 N else ptI (aZ P T) args 2 ((tl, b.tl) :: (n, b.hd) :: N)) (csF (ptI (aZ P T) args 0 N)) := by
  conv => lhs; unfold ptF
  simp
 rw [hpt] at hk
 clear hpt
 generalize hv0 : ptI (aZ P T) args 0 N = v0 at *
 refine fi73.ct (by simp) fun hfr => ?_
 simp -implicitDefEqProofs [ac73, ha0, q0, q0i]
 refine aD (c0 hs e0 he (by rw [w0]; exact .inr (.inr rfl)) (fun n1 hn1 => ?_))
 rw [hv0]
 unfold Pin at i0
 rw [tQ] at i0
 simp -implicitDefEqProofs
 refine aG (FD i0).1 (by simp) ?_
 simp -implicitDefEqProofs
 generalize hL : csF v0 = L at hk
 have hLin : ∀ b ∈ L, b.nl = false → Pin 1 b.hd ∧ Pin 3 b.tl := by rw [← hL]; exact G3
 unfold casF at hk
 generalize hR : L.foldl (fun m b => max m ((fun b : Br => if b.nl = true then ptI (aZ P T) args 1 N else ptI (aZ P T) args 2 ((tl, b.tl) :: (n, b.hd) :: N)) b)) 0 = R at hk
 refine lpG cf73 lb73_0 [7, 11, 12, 26] (α := Nat × Int) (fun s _ => [(7, I s.2), (11, .top), (12, .top), (26, I s.1)]) (fun s _ => mem) (fun s k => n1 ≤ k ∧ s.1 ≤ L.length ∧ (L.drop s.1).foldl (fun m b => max m ((fun b : Br => if b.nl = true then ptI (aZ P T) args 1 N else ptI (aZ P T) args 2 ((tl, b.tl) :: (n, b.hd) :: N)) b)) s.2 = R) (fun s => L.length - s.1) (0, 0) ⟨by omega, by simp, hR⟩ (by simp) (aK _) ?_
 have hLl : L.length ≤ 2 := by
  rw [← hL]; unfold csF
  split
  ·simp
  ·split
   ·simp
   ·split <;> simp
 clear hR
 rintro ⟨i, m⟩ k ⟨hk1, hi, hr⟩
 simp only at hi hr hk1
 by_cases hlt : i < L.length
 ·have wi := aS (x := (i : Int) + 1) (by omega) (by omega)
  rw [List.drop_eq_getElem_cons hlt, List.foldl_cons] at hr
  obtain ⟨b, hb⟩ : ∃ b, L[i] = b := ⟨_, rfl⟩
  have hbL : b ∈ L := by rw [← hb]; exact List.getElem_mem hlt
  rw [hb] at hr
  by_cases hnl : b.nl = true
  ·rw [if_pos hnl] at hr
   simp -implicitDefEqProofs [lb73_0, D4, hlt, hb, hnl, ha1, q1, q1i]
   refine aD (c1 (hs.skip (hfr (k + 1 + 2) (by omega))) e1 he (by rw [w1]; exact ht) (fun n2 hn2 => ?_))
   simp -implicitDefEqProofs [wi]
   exact aI (i + 1, max m (ptI (aZ P T) args 1 N)) ⟨by omega, hlt, hr⟩ (by simp only; omega) (by simp) (aN (aK _) (hfr (k + 1 + 2) (by omega)))
  ·rw [if_neg hnl] at hr
   have hnl2 : b.nl = false := by simpa using hnl
   obtain ⟨p1, p2⟩ := hLin b hbL hnl2
   cases N with
   | nil =>
    simp -implicitDefEqProofs [lb73_0, D4, hlt, hb, hnl2, ha2, q2, q2i, cP]
    refine aD (c2 (M := (tl, b.tl) :: (n, b.hd) :: []) (hs.skip (hfr (k + 1 + 2) (by omega))) e2 ((he.one p1).one p2) (by rw [w2]; exact ht) (fun n2 hn2 => ?_))
    simp -implicitDefEqProofs [wi]
    exact aI (i + 1, max m (ptI (aZ P T) args 2 ((tl, b.tl) :: (n, b.hd) :: []))) ⟨by omega, hlt, hr⟩ (by simp only; omega) (by simp) (aN (aK _) (hfr (k + 1 + 2) (by omega)))
   | cons y r =>
    simp -implicitDefEqProofs [lb73_0, D4, hlt, hb, hnl2, ha2, q2, q2i, cP]
    refine aD (c2 (M := (tl, b.tl) :: (n, b.hd) :: y :: r) (hs.skip (hfr (k + 1 + 2) (by omega))) e2 ((he.one p1).one p2) (by rw [w2]; exact ht) (fun n2 hn2 => ?_))
    simp -implicitDefEqProofs [wi]
    exact aI (i + 1, max m (ptI (aZ P T) args 2 ((tl, b.tl) :: (n, b.hd) :: y :: r))) ⟨by omega, hlt, hr⟩ (by simp only; omega) (by simp) (aN (aK _) (hfr (k + 1 + 2) (by omega)))
 ·have hil : i = L.length := by omega
  subst hil
  rw [List.drop_length] at hr
  simp only [List.foldl_nil] at hr
  subst hr
  simp -implicitDefEqProofs [lb73_0]
  exact ⟨_, aF _, hk _ (by omega)⟩
set_option maxHeartbeats 8000000
theorem xC : ∀ (l : List Ex), l.length ≤ aV l
 | [] => by simp [aV]
 | y :: ys => by
  have := xC ys
  have h : 1 ≤ size y := by cases y; unfold size; omega
  unfold aV; simp only [List.length_cons]; omega
theorem pts_of {P : List Fn} {T : List Tt} {env : List Pm} {op : Int} {n tl : List UInt8} {ty t : Int} {args : List Ex} (hP : PT P) (hT : vN P T) (hss : Shs args) (hws : bB P env op n tl ty t 0 args = []) (hz : aV args ≤ 2 ^ 39) (ih : ∀ x ∈ args, PtC x) : Pts P T env op n tl ty t args := by
 have harg : ∀ k x, args[k]? = some x → a7 P (aM env op n tl ty k) x (aL P op n ty k t) = [] := fun k x hx => by
  have := t6 args 0 k x hws hx
  rwa [Nat.zero_add] at this
 refine ⟨fun k hk mem nx hid env' M K hs he hM ht hK => ?_, fun k hk env' M he hM ht => ?_⟩
 ·have hx := List.getElem?_eq_getElem hk
  have hm := List.getElem_mem hk
  refine ih _ hm hs hP (mY hss hm) ht (by rw [← he]; exact harg k _ hx) hM (Nat.le_trans (lE hm) hz) (fun n' hn => ?_)
  rw [← j9 (N := M) args k _ hx]; exact hK n' hn
 ·have hx := List.getElem?_eq_getElem hk
  have hm := List.getElem_mem hk
  rw [j9 args k _ hx]
  exact D_ hP (AS hT) _ (mY hss hm) ht (by rw [← he]; exact harg k _ hx) hM
theorem DO (op : Int) (n tl : List UInt8) (ty : Int) (z : Cx) (args : List Ex) (p : Int) (ih : ∀ x ∈ args, PtC x) : PtC (.mk op n tl ty z args p) := by
 intro mem nx hid P T N env t K hs hP hsh ht hw he hz hk
 have hw0 := hw
 have hsh0 := hsh
 unfold Sh at hsh
 obtain ⟨hsp, hss⟩ := hsh
 unfold a7 at hw
 rw [List.append_eq_nil_iff] at hw
 obtain ⟨hw, hown⟩ := hw
 have hown' : bX op ∨ bL P env op n ty args.length = t := by
  apply Classical.byContradiction
  intro g
  rw [if_neg g] at hown; simp at hown
 have hbad : op = 7 → ¬ dC P n args.length := by
  intro h7 hb
  subst h7
  rcases hown' with h | h
  ·unfold bX at h; omega
  ·unfold bL at h
   rw [if_neg (by omega), if_neg (by omega), if_neg (by omega), if_neg (by omega), if_pos rfl, if_pos hb] at h
   unfold a_ at ht; omega
 have hws : bB P env op n tl ty t 0 args = [] := by
  by_cases h7 : op = 7 ∧ dC P n args.length
  ·exact absurd h7.2 (hbad h7.1)
  ·rw [if_neg h7] at hw; exact hw
 have hz' : aV args ≤ 2 ^ 39 := by unfold size at hz; omega
 have pts := pts_of (T := T) hP hs.tabs hss hws hz' ih
 have hk0 := hk
 have hpt : ptF (aZ P T) (.mk op n tl ty z args p) N = ptF (aZ P T) (.mk op n tl ty z args p) N := rfl
 conv at hpt => rhs; unfold ptF
 rw [hpt] at hk
 clear hpt
 unfold cG at hsp
 show bO Tryz.prog 39 [sgD P hid T, .agg [I op, Tx n, Tx tl, I ty, CX z.re z.im, .sl (em aQ args), I p], cP N] mem nx K
 refine fi39.ct (by simp) fun hfr => ?_
 simp -implicitDefEqProofs [ac39]
 by_cases c1 : op = 1
 ·subst c1
  simp -implicitDefEqProofs []
  exact ⟨_, aF _, by simpa using hk _ (by omega)⟩
 by_cases c2 : op = 2
 ·subst c2
  simp -implicitDefEqProofs []
  exact ⟨_, aF _, by simpa using hk _ (by omega)⟩
 by_cases c3 : op = 3
 ·subst c3
  simp -implicitDefEqProofs []
  exact ⟨_, aF _, by simpa using hk _ (by omega)⟩
 by_cases c4 : op = 4
 ·subst c4
  simp -implicitDefEqProofs []
  exact ⟨_, aF _, by simpa using hk _ (by omega)⟩
 by_cases c5 : op = 5
 ·subst c5
  simp -implicitDefEqProofs []
  exact ⟨_, aF _, by simpa using hk _ (by omega)⟩
 have own_of : ¬ bX op → bL P env op n ty args.length = t := fun h => hown'.resolve_left h
 by_cases c6 : op = 6
 ·have h := own_of (by unfold bX; omega)
  unfold bL at h
  rw [if_neg (by omega), if_neg c4, if_neg c5, if_pos c6] at h
  subst c6
  simp -implicitDefEqProofs []
  refine aG (find_c N n (he.has ht h)) (by simp) ?_
  simp -implicitDefEqProofs
  exact ⟨_, aF _, by simpa using hk _ (by omega)⟩
 by_cases c19 : op = 19
 ·subst c19
  have hl : args.length = 3 := by omega
  have w0 : aL P 19 n ty 0 t = 2 := by simp [aL]
  have w1 : aL P 19 n ty 1 t = t := by simp [aL]
  have w2 : aL P 19 n ty 2 t = t := by simp [aL]
  have e0 : aM env 19 n tl ty 0 = env := by simp [aM]
  have e1 : aM env 19 n tl ty 1 = env := by simp [aM]
  have e2 : aM env 19 n tl ty 2 = env := by simp [aM]
  have q0 : 0 < args.length := by omega
  have q1 : 1 < args.length := by omega
  have q2 : 2 < args.length := by omega
  have q0i : (0 : Int) < (args.length : Int) := by omega
  have q1i : (1 : Int) < (args.length : Int) := by omega
  have q2i : (2 : Int) < (args.length : Int) := by omega
  have a0 := pts.c 0 q0
  have a1 := pts.c 1 q1
  have a2 := pts.c 2 q2
  obtain ⟨x0, hx0⟩ : ∃ a, args[0] = a := ⟨_, rfl⟩
  obtain ⟨x1, hx1⟩ : ∃ a, args[1] = a := ⟨_, rfl⟩
  obtain ⟨x2, hx2⟩ : ∃ a, args[2] = a := ⟨_, rfl⟩
  rw [hx0] at a0
  rw [hx1] at a1
  rw [hx2] at a2
  simp only [Int.reduceEq, if_true, if_false, or_self] at hk
  simp -implicitDefEqProofs [hx0, q0, q0i]
  refine aD (a0 hs e0 he (by rw [w0]; exact .inr (.inl rfl)) (fun n1 hn1 => ?_))
  by_cases hv : ptI (aZ P T) args 0 N = 0
  ·simp -implicitDefEqProofs [hv]
   exact ⟨_, aF _, by simpa [hv] using hk _ (by omega)⟩
  ·simp -implicitDefEqProofs [hv, hx1, hx2, q1, q2, q1i, q2i]
   refine aD (a1 hs e1 he (by rw [w1]; exact ht) (fun n2 hn2 => ?_))
   refine ⟨fun _ _ h => h, ?_⟩
   refine aD (a2 hs e2 he (by rw [w2]; exact ht) (fun n3 hn3 => ?_))
   refine ⟨fun _ _ h => h, ?_⟩
   simp -implicitDefEqProofs
   exact ⟨_, aF _, by simpa [hv] using hk _ (by omega)⟩
 by_cases c20 : op = 20
 ·subst c20
  have hl : args.length = 3 := by omega
  simp -implicitDefEqProofs []
  refine aD (L5 n tl ty z args p hl ht hs he pts (fun n1 hn1 => ?_))
  simp -implicitDefEqProofs
  exact ⟨_, aF _, hk0 _ (by omega)⟩
 by_cases c21 : op = 21
 ·subst c21
  have hl : args.length = 2 ∧ a_ ty := by unfold a_ at *; omega
  have w0 : aL P 21 n ty 0 t = ty := by simp [aL]
  have w1 : aL P 21 n ty 1 t = t := by simp [aL]
  have e0 : aM env 21 n tl ty 0 = env ++ [⟨n, ty, 0⟩] := by simp [aM]
  have e1 : aM env 21 n tl ty 1 = env ++ [⟨n, ty, 0⟩] := by simp [aM]
  have q0 : 0 < args.length := by omega
  have q1 : 1 < args.length := by omega
  have q0i : (0 : Int) < (args.length : Int) := by omega
  have q1i : (1 : Int) < (args.length : Int) := by omega
  have a0 := pts.c 0 q0
  have a1 := pts.c 1 q1
  have p0 : Pin ty 0 := by have := nW hl.2; unfold Pin; omega
  have i0 : ∀ q, Pin ty q → Pin ty (ptI (aZ P T) args 0 ((n, q) :: N)) := fun q hq => by
   have := pts.i 0 q0 (M := (n, q) :: N) e0 (he.one hq) (by rw [w0]; exact hl.2)
   rwa [w0] at this
  obtain ⟨x0, hx0⟩ : ∃ a, args[0] = a := ⟨_, rfl⟩
  obtain ⟨x1, hx1⟩ : ∃ a, args[1] = a := ⟨_, rfl⟩
  rw [hx0] at a0
  rw [hx1] at a1
  simp only [Int.reduceEq, if_true, if_false, or_self] at hk
  cases N with
  | nil =>
   simp -implicitDefEqProofs [cP, hx0, q0, q0i]
   refine aD (a0 (M := (n, 0) :: []) hs e0 (he.one p0) (by rw [w0]; exact hl.2) (fun n1 hn1 => ?_))
   simp -implicitDefEqProofs
   generalize hR : jK (fun q => ptI (aZ P T) args 0 ((n, q) :: [])) 4 0 = R at hk
   refine lpG cf39 lb39_1 [7, 8] (α := Nat × Int) (fun s _ => [(7, cP ((n, s.2) :: [])), (8, I (ptI (aZ P T) args 0 ((n, s.2) :: [])))]) (fun s _ => mem) (fun s k => n1 ≤ k ∧ jK (fun q => ptI (aZ P T) args 0 ((n, q) :: [])) s.1 s.2 = R ∧ Pin ty s.2 ∧ tp ty < s.2 + s.1 + 1) (fun s => s.1) (4, 0) ⟨by omega, hR, p0, by have := iY ty; simp only; omega⟩ (by simp [cP]) (aK _) ?_
   clear hR
   rintro ⟨j, q⟩ k ⟨hk1, hr, hp, hj⟩
   simp only at hk1 hr hp hj
   have g1 := i0 q hp
   by_cases hgq : q < ptI (aZ P T) args 0 ((n, q) :: [])
   ·have hj1 : ∃ j', j = j' + 1 := by
     cases j with
     | zero => unfold Pin at g1 hp; simp only [Int.natCast_zero] at hj; omega
     | succ j => exact ⟨j, rfl⟩
    obtain ⟨j', rfl⟩ := hj1
    unfold jK at hr
    rw [if_neg (by omega)] at hr
    simp -implicitDefEqProofs [lb39_1, cP, hgq, hx0, q0, q0i]
    refine aD (a0 (M := (n, ptI (aZ P T) args 0 ((n, q) :: [])) :: []) hs e0 (he.one g1) (by rw [w0]; exact hl.2) (fun n2 hn2 => ?_))
    simp -implicitDefEqProofs
    exact aI (j', ptI (aZ P T) args 0 ((n, q) :: [])) ⟨by omega, hr, g1, by simp only; push_cast at hj; omega⟩ (by simp) (by simp [cP]) (aK _)
   ·have hRq : R = q := by
     rw [← hr]
     cases j with
     | zero => rfl
     | succ j => unfold jK; rw [if_pos (by omega)]
    subst hRq
    simp -implicitDefEqProofs [lb39_1, cP, hgq, hx1, q1, q1i]
    refine aD (a1 (M := (n, R) :: []) hs e1 (he.one hp) (by rw [w1]; exact ht) (fun n2 hn2 => ?_))
    simp -implicitDefEqProofs
    exact ⟨_, aF _, hk _ (by omega)⟩
  | cons y r =>
   simp -implicitDefEqProofs [cP, hx0, q0, q0i]
   refine aD (a0 (M := (n, 0) :: y :: r) hs e0 (he.one p0) (by rw [w0]; exact hl.2) (fun n1 hn1 => ?_))
   simp -implicitDefEqProofs
   generalize hR : jK (fun q => ptI (aZ P T) args 0 ((n, q) :: y :: r)) 4 0 = R at hk
   refine lpG cf39 lb39_1 [7, 8] (α := Nat × Int) (fun s _ => [(7, cP ((n, s.2) :: y :: r)), (8, I (ptI (aZ P T) args 0 ((n, s.2) :: y :: r)))]) (fun s _ => mem) (fun s k => n1 ≤ k ∧ jK (fun q => ptI (aZ P T) args 0 ((n, q) :: y :: r)) s.1 s.2 = R ∧ Pin ty s.2 ∧ tp ty < s.2 + s.1 + 1) (fun s => s.1) (4, 0) ⟨by omega, hR, p0, by have := iY ty; simp only; omega⟩ (by simp [cP]) (aK _) ?_
   clear hR
   rintro ⟨j, q⟩ k ⟨hk1, hr, hp, hj⟩
   simp only at hk1 hr hp hj
   have g1 := i0 q hp
   by_cases hgq : q < ptI (aZ P T) args 0 ((n, q) :: y :: r)
   ·have hj1 : ∃ j', j = j' + 1 := by
     cases j with
     | zero => unfold Pin at g1 hp; simp only [Int.natCast_zero] at hj; omega
     | succ j => exact ⟨j, rfl⟩
    obtain ⟨j', rfl⟩ := hj1
    unfold jK at hr
    rw [if_neg (by omega)] at hr
    simp -implicitDefEqProofs [lb39_1, cP, hgq, hx0, q0, q0i]
    refine aD (a0 (M := (n, ptI (aZ P T) args 0 ((n, q) :: y :: r)) :: y :: r) hs e0 (he.one g1) (by rw [w0]; exact hl.2) (fun n2 hn2 => ?_))
    simp -implicitDefEqProofs
    exact aI (j', ptI (aZ P T) args 0 ((n, q) :: y :: r)) ⟨by omega, hr, g1, by simp only; push_cast at hj; omega⟩ (by simp) (by simp [cP]) (aK _)
   ·have hRq : R = q := by
     rw [← hr]
     cases j with
     | zero => rfl
     | succ j => unfold jK; rw [if_pos (by omega)]
    subst hRq
    simp -implicitDefEqProofs [lb39_1, cP, hgq, hx1, q1, q1i]
    refine aD (a1 (M := (n, R) :: y :: r) hs e1 (he.one hp) (by rw [w1]; exact ht) (fun n2 hn2 => ?_))
    simp -implicitDefEqProofs
    exact ⟨_, aF _, hk _ (by omega)⟩
 by_cases c22 : op = 22
 ·subst c22
  have hl : args.length = 2 ∧ a_ ty := by unfold a_ at *; omega
  have w0 : aL P 22 n ty 0 t = ty := by simp [aL]
  have w1 : aL P 22 n ty 1 t = t := by simp [aL]
  have e0 : aM env 22 n tl ty 0 = env := by simp [aM]
  have e1 : aM env 22 n tl ty 1 = env ++ [⟨n, ty, 0⟩] := by simp [aM]
  have q0 : 0 < args.length := by omega
  have q1 : 1 < args.length := by omega
  have q0i : (0 : Int) < (args.length : Int) := by omega
  have q1i : (1 : Int) < (args.length : Int) := by omega
  have a0 := pts.c 0 q0
  have a1 := pts.c 1 q1
  have i0 := pts.i 0 q0 (M := N) e0 he (by rw [w0]; exact hl.2)
  rw [w0] at i0
  obtain ⟨x0, hx0⟩ : ∃ a, args[0] = a := ⟨_, rfl⟩
  obtain ⟨x1, hx1⟩ : ∃ a, args[1] = a := ⟨_, rfl⟩
  rw [hx0] at a0
  rw [hx1] at a1
  simp only [Int.reduceEq, if_true, if_false, or_self] at hk
  simp -implicitDefEqProofs [hx0, q0, q0i]
  refine aD (a0 hs e0 he (by rw [w0]; exact hl.2) (fun n1 hn1 => ?_))
  by_cases hv : 0 < ptI (aZ P T) args 0 N
  ·rw [if_pos hv] at hk
   cases N with
   | nil =>
    simp -implicitDefEqProofs [cP, hv, hx1, q1, q1i]
    refine aD (a1 (M := (n, ptI (aZ P T) args 0 []) :: []) hs e1 (he.one i0) (by rw [w1]; exact ht) (fun n2 hn2 => ?_))
    simp -implicitDefEqProofs
    exact ⟨_, aF _, hk _ (by omega)⟩
   | cons y r =>
    simp -implicitDefEqProofs [cP, hv, hx1, q1, q1i]
    refine aD (a1 (M := (n, ptI (aZ P T) args 0 (y :: r)) :: y :: r) hs e1 (he.one i0) (by rw [w1]; exact ht) (fun n2 hn2 => ?_))
    simp -implicitDefEqProofs
    exact ⟨_, aF _, hk _ (by omega)⟩
  ·rw [if_neg hv] at hk
   simp -implicitDefEqProofs [hv]
   exact ⟨_, aF _, hk _ (by omega)⟩
 have c1' : ¬ (op = 1 ∨ op = 2 ∨ op = 3) := by omega
 rw [if_neg c1', if_neg c4, if_neg c5, if_neg c6, if_neg c19, if_neg c20, if_neg c21, if_neg c22] at hk
 simp -implicitDefEqProofs [c1, c2, c3, c4, c5, c6, c19, c20, c21, c22]
 generalize hq0 : nx + 2 + 2 + 2 + 2 + 2 + 2 + 2 + 2 + 2 + 2 + 2 + 2 + 1 + 4 = q
 have hqn : nx ≤ q := by omega
 refine cW (j := 10) (k := 1) rfl (.inl rfl) ?_
 refine jD ?_
 have hll : args.length ≤ 2 ^ 39 := Nat.le_trans (xC args) hz'
 have hpar : op = 7 → ∀ k, k < args.length → ∃ x, (hdF P n).params[k]? = some x ∧ a_ x.type := by
  intro c7 k hk
  have hb := hbad c7
  unfold dC at hb
  have hlen : (hdF P n).params.length = args.length := by omega
  have hkp : k < (hdF P n).params.length := by omega
  have hf : hdF P n ∈ P := by
   unfold hdF
   have hlt : (aP P 0 n).toNat < P.length := by have := eT P 0 n; omega
   rw [List.getElem?_eq_getElem hlt]; exact List.getElem_mem hlt
  exact ⟨_, List.getElem?_eq_getElem hkp, (hP _ hf).2 _ (List.getElem_mem hkp)⟩
 have hjn : ∀ k, k < args.length → a_ (aL P op n ty k t) ∧ aM env op n tl ty k = env := by
  intro k hk
  have d1 : ¬ (op = 21 ∨ op = 22 ∧ k = 1) := by omega
  have d2 : ¬ (op = 20 ∧ k = 2) := by omega
  refine ⟨?_, by unfold aM; rw [if_neg d1, if_neg d2]⟩
  by_cases c7 : op = 7
  ·obtain ⟨x, hx, htx⟩ := hpar c7 k hk
   have w : aL P op n ty k t = x.type := by subst c7; simp [aL, hx]
   rw [w]; exact htx
  ·have d3 : ¬ (op = 21 ∨ op = 22) := by omega
   unfold aL a_
   by_cases c14 : op = 14
   ·simp [c14]
   ·by_cases c18 : op = 18
    ·by_cases hk1 : k = 1 <;> simp [c18, hk1]
    ·rw [if_neg c14, if_neg c18, if_neg c7, if_neg c19, if_neg c20, if_neg d3]; simp
 refine lpG cf39 lb39_0 [10, 12, 126] (α := Nat × Nat × List Int) (fun s _ => [(10, .osl q s.2.1 0 s.2.2.length), (12, .top), (126, I s.1)]) (fun s _ => (q, .arr s.2.1 1 (em bH s.2.2)) :: mem) (fun s k => q < k ∧ s.1 ≤ args.length ∧ s.2.2 = (ptL (aZ P T) args N).take s.1) (fun s => args.length - s.1) (0, 0, []) ⟨by omega, by simp, by simp⟩ (by simp [upd]) (by simp) ?_
 rintro ⟨i, v, l⟩ k ⟨hk1, hi, hl⟩
 simp only at hi hl hk1
 have hplen := o0 (V := aZ P T) (N := N) args
 have hle : l.length = i := by rw [hl, List.length_take]; omega
 have hq2 : look mem q = none := hfr q hqn
 by_cases hlt : i < args.length
 ·have w1 := aS (x := (i : Int) + 1) (by omega) (by omega)
  have a := pts.c i hlt
  obtain ⟨ht1, ht2⟩ := hjn i hlt
  obtain ⟨x, hx⟩ : ∃ x, args[i] = x := ⟨_, rfl⟩
  rw [hx] at a
  have hnext : l ++ [ptI (aZ P T) args i N] = (ptL (aZ P T) args N).take (i + 1) := by
   rw [hl, List.take_add_one, oZ args i _ (List.getElem?_eq_getElem hlt), j9 args i _ (List.getElem?_eq_getElem hlt)]; rfl
  have b1 : (l.length + 1) * 8 ≤ 3 * 2 ^ 46 := by omega
  have z1 : (k + 1 + 2 = q) = False := eq_false (by omega)
  have z2 : (q = k + 1 + 2) = False := eq_false (by omega)
  simp -implicitDefEqProofs [lb39_0, hlt, hx, w1, z1, z2]
  refine aD (a ((hs.skip hq2).skip (by rw [a8, if_neg (by omega)]; exact hfr (k + 1 + 2) (by omega))) ht2 he ht1 (fun n2 hn2 => ?_))
  have e1 : em bH l ++ [[I (ptI (aZ P T) args i N)]] = em bH (l ++ [ptI (aZ P T) args i N]) := fP
  simp -implicitDefEqProofs [b1, z1, z2, w1, e1]
  exact aI (i + 1, v + 1, l ++ [ptI (aZ P T) args i N]) ⟨by omega, hlt, hnext⟩ (by simp only; omega) (by simp) (aN (by simp) (by rw [a8, if_neg (by omega)]; exact hfr (k + 1 + 2) (by omega)))
 ·have hil : i = args.length := by omega
  subst hil
  rw [List.take_of_length_le (by omega)] at hl
  subst hl
  simp -implicitDefEqProofs [lb39_0]
  have hpi : ∀ k, k < args.length → (ptL (aZ P T) args N)[k]?.getD 0 = ptI (aZ P T) args k N ∧ Pin (aL P op n ty k t) (ptI (aZ P T) args k N) := fun k hk => by
   have hy := List.getElem?_eq_getElem hk
   obtain ⟨ht1, ht2⟩ := hjn k hk
   exact ⟨by rw [oZ args k _ hy, j9 args k _ hy]; rfl, pts.i k hk ht2 he ht1⟩
  refine mH (j := 10) (d' := .sl (em bH (ptL (aZ P T) args N))) [(q, .arr v 1 (em bH (ptL (aZ P T) args N)))] mem rfl (by simp [frz, look]) (fun i b hb => ?_) (fun i b hb => ?_) (fun i => ?_) ?_
  ·rw [a8] at hb ⊢
   split at hb
   ·rename_i e; rw [if_pos e]; exact hb
   ·simp [look] at hb
  ·rw [a8, if_neg (by rintro rfl; rw [hq2] at hb; simp at hb)]; exact hb
  ·by_cases e : q = i
   ·subst e; exact .inr hq2
   ·left; rw [a8, if_neg e]; rfl
  ·simp -implicitDefEqProofs [upd]
   refine aD (join_c op n tl ty z args p (ptL (aZ P T) args N) hs (by omega) (fun c18 => ?_) (fun c7 => ?_) (fun n' hn' => ?_))
   ·have hl2 : args.length = 2 := by omega
    obtain ⟨h1, h2⟩ := hpi 0 (by omega)
    obtain ⟨h3, h4⟩ := hpi 1 (by omega)
    subst c18
    have w0 : aL P 18 n ty 0 t = 1 := by simp [aL]
    have w1 : aL P 18 n ty 1 t = 3 := by simp [aL]
    rw [w0] at h2
    rw [w1] at h4
    rw [h1, h3]
    exact ⟨by omega, h2, h4⟩
   ·have hb := hbad c7
    have hbb := hb
    unfold dC at hbb
    have hlen : (hdF P n).params.length = args.length := by omega
    refine ⟨by rw [hplen]; exact hb, zU _ _ (by rw [hplen, List.length_map, hlen]) fun k u hu => ?_⟩
    obtain ⟨x, hx, rfl⟩ := yT hu
    have hk : k < args.length := by rw [← hlen]; exact (List.getElem?_eq_some_iff.1 hx).1
    obtain ⟨h1, h2⟩ := hpi k hk
    subst c7
    have w : aL P 7 n ty k t = x.type := by simp [aL, hx]
    rw [w] at h2
    rw [h1]; exact h2
   ·simp -implicitDefEqProofs
    exact ⟨_, aF _, hk _ (by omega)⟩
mutual
theorem v9 : ∀ e : Ex, PtC e
 | .mk op n tl ty z args p => DO op n tl ty z args p (BT args)
theorem BT : ∀ l : List Ex, ∀ x ∈ l, PtC x
 | [], x, h => by simp at h
 | y :: ys, x, h => by
  rcases List.mem_cons.1 h with e | h
  ·rw [e]; exact v9 y
  ·exact BT ys x h
end
def nmF (ps : List Pm) (tu : List Int) : Nls := ((ps.map Pm.name).zip tu).reverse
theorem EnvR.pre : ∀ (ps : List Pm) (tu : List Int), inT (ps.map Pm.type) tu = true → EnvR ps (nmF ps tu) := by
 have key : ∀ (ps : List Pm) (tu : List Int) (env : List Pm) (N : Nls), inT (ps.map Pm.type) tu = true → EnvR env N → EnvR (env ++ ps) (nmF ps tu ++ N) := by
  intro ps
  induction ps with
  | nil => intro tu env N _ h; simpa [nmF] using h
  | cons x ps ih =>
   intro tu env N hin h
   cases tu with
   | nil => simp [inT] at hin
   | cons p tu =>
    rw [List.map_cons, pB] at hin
    simp only [Bool.and_eq_true, decide_eq_true_eq] at hin
    have h2 := ih tu (env ++ [x]) ((x.name, p) :: N) hin.2 (EnvR.snoc h hin.1)
    have e1 : env ++ [x] ++ ps = env ++ x :: ps := by simp
    have e2 : nmF ps tu ++ (x.name, p) :: N = nmF (x :: ps) (p :: tu) ++ N := by simp [nmF]
    rw [e1, e2] at h2
    exact h2
 intro ps tu h
 have := key ps tu [] [] h EnvR.nil
 simpa using this
theorem KY (ps : List Pm) (tu : List Int) (i : Nat) (h : i < ps.length) (h2 : i < tu.length) : (((ps.map Pm.name).zip tu).take (i + 1)).reverse = (ps[i].name, tu[i]) :: (((ps.map Pm.name).zip tu).take i).reverse := by
 have hz : i < ((ps.map Pm.name).zip tu).length := by simp; omega
 rw [List.take_add_one, List.getElem?_eq_getElem hz]
 simp
theorem body_c {mem : Mem} {nx hid : Nat} {P : List Fn} {T : List Tt} {K : KD} (i : Int) (f : Fn) (tu : List Int) (hs : Sg mem P hid T) (hP : PT P) (h0 : 0 ≤ i) (hlt : i.toNat < P.length) (hf : P[i.toNat] = f) (hsh : Sh f.body) (hw : a7 P f.params f.body f.type = []) (hz : size f.body ≤ 2 ^ 39) (hpl : f.params.length < 2 ^ 40) (hin : inT (f.params.map Pm.type) tu = true)
  (hk : ∀ n', nx ≤ n' → K (I (ptF (aZ P T) f.body (nmF f.params tu))) mem n') :
  bO Tryz.prog 50 [sgD P hid T, I i, .sl (em bH tu)] mem nx K := by
 have hti : i < (P.length : Int) := by omega
 have hln : tu.length = f.params.length := by simpa using sQ hin
 have ht : a_ f.type := (hP f (hf ▸ List.getElem_mem hlt)).1
 refine fi50.ct (by simp) fun hfr => ?_
 simp -implicitDefEqProofs [ac50, h0, hti, hlt, hf]
 refine lpG cf50 lb50_0 [7, 8, 9, 20] (α := Nat × Nls) (fun s _ => [(7, cP s.2), (20, I s.1)]) (fun s _ => mem) (fun s k => nx ≤ k ∧ s.1 ≤ tu.length ∧ s.2 = (((f.params.map Pm.name).zip tu).take s.1).reverse) (fun s => tu.length - s.1) (0, []) ⟨by omega, by simp, by simp⟩ (by simp [cP]) (aK _) ?_
 rintro ⟨j, N⟩ k ⟨hk1, hj, hN⟩
 simp only at hj hN hk1
 by_cases hjl : j < tu.length
 ·have w1 := aS (x := (j : Int) + 1) (by omega) (by omega)
  have hjp : j < f.params.length := by omega
  have hjpi : (j : Int) < (f.params.length : Int) := by omega
  have hjli : (j : Int) < (tu.length : Int) := by omega
  have hnext := KY f.params tu j hjp hjl
  rw [← hN] at hnext
  obtain ⟨x, hx⟩ : ∃ x, f.params[j] = x := ⟨_, rfl⟩
  obtain ⟨p, hp⟩ : ∃ x, tu[j] = x := ⟨_, rfl⟩
  rw [hx, hp] at hnext
  cases N with
  | nil =>
   simp -implicitDefEqProofs [lb50_0, hjp, hjpi, hjl, hjli, hx, hp, w1, cP]
   exact aI (j + 1, [(x.name, p)]) ⟨by omega, hjl, hnext.symm⟩ (by simp only; omega) (by simp [cP]) (aN (aK _) (hfr _ (by omega)))
  | cons y r =>
   simp -implicitDefEqProofs [lb50_0, hjp, hjpi, hjl, hjli, hx, hp, w1, cP]
   exact aI (j + 1, (x.name, p) :: y :: r) ⟨by omega, hjl, hnext.symm⟩ (by simp only; omega) (by simp [cP]) (aN (aK _) (hfr _ (by omega)))
 ·have hjt : j = f.params.length := by omega
  subst hjt
  have hN2 : N = nmF f.params tu := by rw [hN, List.take_of_length_le (by simp; omega)]; rfl
  subst hN2
  simp -implicitDefEqProofs [lb50_0, h0, hti, hlt, hf]
  have a := v9 f.body
  refine aD (a hs hP hsh ht hw (EnvR.pre _ _ hin) hz (fun n1 hn1 => ?_))
  simp -implicitDefEqProofs
  exact ⟨_, aF _, hk _ (by omega)⟩
set_option maxHeartbeats 4000000
theorem NE (t : List UInt8) (ht : t.length ≤ 32768) (hm : (dN t).2 < 0) {n : Nat} (hN : n ≤ 2 ^ 40) {L : List Fn} {q : Rd} (hp : eP n [] (rd0 t 32768 32768 32768 32768) = some (L, q)) (hw : q.why = 0) (hlt : q.at' < (dN t).1.length) : vI t L 0 0 := by
 have hk := BG (t := t) (lt := 32768) (lF := 32768) (lA := 32768) (lN := 32768) (by omega) hm (by decide)
 have hc := AG t ht hm hN hp
 rw [if_pos hw] at hc
 obtain ⟨g1, g2, k, g3, g4, g5⟩ := wZ _ _ _ L q hp hw
 simp only [List.nil_append] at g3
 subst g3
 refine ⟨hc, fun _ => ⟨(dN t).1, 0, q.at', hk.ms, hk.len, ?_, hlt, g4, g5 rfl⟩, fun h => absurd rfl h⟩
 exact gR _ t 0 [] (by omega) (fun i j _ h => by simp at h) (fun i h => by simp at h) hm
theorem wt_u8 {n : Nat} {ds : List D} (h : Wt Tryz.prog n 5 ds) : ∃ b : UInt8, ds = dM b ∧ True := by
 cases n with
 | zero => exact h.elim
 | succ n =>
  simp only [Wt, Tryz.underlying5] at h
  obtain ⟨z, rfl, hz⟩ := h
  simp [Lit.wf, IntKind.min, IntKind.max, IntKind.signed, IntKind.bits] at hz
  refine ⟨UInt8.ofNat z.toNat, ?_, trivial⟩
  unfold dM
  have : (((UInt8.ofNat z.toNat).toNat : Nat) : Int) = z := by
   rw [UInt8.toNat_ofNat']
   omega
  rw [this]
theorem KX {n : Nat} {ds : List D} (h : Wt Tryz.prog n 22 ds) : ∃ l : List UInt8, ds = [.sl (em dM l)] ∧ l.length < 2 ^ 48 := by
 cases n with
 | zero => exact h.elim
 | succ n =>
  simp only [Wt, Tryz.underlying22] at h
  obtain ⟨es, rfl, hl, he⟩ := h
  obtain ⟨l, rfl, _⟩ := sL (enc := dM) (p := fun _ => True) fun c hc => wt_u8 (he c hc)
  refine ⟨l, rfl, ?_⟩
  have hb : Tryz.prog.bytesOf 5 = 1 := by kernel_rfl
  rw [hb, uF] at hl
  unfold reachBytes at hl
  omega
theorem wN {x : D} (h : Arg Tryz.prog 22 x) : ∃ l : List UInt8, x = .sl (em dM l) ∧ l.length < 2 ^ 48 := by
 obtain ⟨n, ds, h, k⟩ := h
 simp only [Tryz.underlying22] at k
 obtain ⟨l, rfl, h1⟩ := KX h
 simp only [List.cons.injEq, and_true] at k
 exact ⟨l, k.symm, h1⟩
mutual
theorem y4 (P : List Fn) : ∀ (e : Ex) (env : List Pm) (t u : Int), Sh e → a7 P env e t = [] → a7 P env e u = [] → t = u
 | .mk op n tl ty z args p, env, t, u, hs, h1, h2 => by
  unfold a7 at h1 h2
  unfold Sh at hs
  rw [List.append_eq_nil_iff] at h1 h2
  by_cases hc : bX op
  ·have h7 : ¬ op = 7 := by unfold bX at hc; omega
   rw [if_neg (fun g => h7 g.1)] at h1 h2
   have hl : 2 ≤ args.length := by
    have := hs.1
    unfold cG at this
    unfold bX at hc
    omega
   exact IW P args env op n tl ty t u hc hl hs.2 h1.1 h2.1
  ·have a1 := h1.2
   have a2 := h2.2
   by_cases e1 : bL P env op n ty args.length = t
   ·by_cases e2 : bL P env op n ty args.length = u
    ·rw [← e1, ← e2]
    ·rw [if_neg (fun g => g.elim hc e2)] at a2; simp at a2
   ·rw [if_neg (fun g => g.elim hc e1)] at a1; simp at a1
theorem IW (P : List Fn) : ∀ (l : List Ex) (env : List Pm) (op : Int) (n tl : List UInt8) (ty t u : Int), bX op → 2 ≤ l.length → Shs l → bB P env op n tl ty t 0 l = [] → bB P env op n tl ty u 0 l = [] → t = u
 | [], env, op, n, tl, ty, t, u, hc, hl, hs, h1, h2 => by simp at hl
 | [a], env, op, n, tl, ty, t, u, hc, hl, hs, h1, h2 => by simp at hl
 | a :: b :: r, env, op, n, tl, ty, t, u, hc, hl, hs, h1, h2 => by
  simp only [bB, List.append_eq_nil_iff, Nat.zero_add] at h1 h2
  unfold Shs at hs
  have hs2 := hs.2
  unfold Shs at hs2
  have hw : ∀ t, aL P op n ty 1 t = t := fun t => by
   unfold bX at hc
   unfold aL
   rcases hc with rfl | rfl | rfl | rfl <;> simp
  rw [hw] at h1 h2
  exact y4 P b _ t u hs2.1 h1.2.1 h2.2.1
end
theorem GJ {P : List Fn} {env : List Pm} {e : Ex} {u : Int} (hs : Sh e) (hu : a_ u) : ofF P env e = (u, 0) ↔ a7 P env e u = [] := by
 have h := fun t => y4 P e env t u hs
 unfold ofF ofL ofL ofL ofL
 constructor
 ·intro g
  split at g
  ·rename_i k; simp only [Prod.mk.injEq, and_true] at g; rw [← g]; exact k
  ·split at g
   ·rename_i k; simp only [Prod.mk.injEq, and_true] at g; rw [← g]; exact k
   ·split at g
    ·rename_i k; simp only [Prod.mk.injEq, and_true] at g; rw [← g]; exact k
    ·simp at g
 ·intro g
  by_cases k1 : a7 P env e 1 = []
  ·rw [if_pos k1, h 1 k1 g]
  ·rw [if_neg k1]
   by_cases k2 : a7 P env e 2 = []
   ·rw [if_pos k2, h 2 k2 g]
   ·rw [if_neg k2]
    by_cases k3 : a7 P env e 3 = []
    ·rw [if_pos k3, h 3 k3 g]
    ·rcases hu with rfl | rfl | rfl <;> contradiction
theorem M6 (P : List Fn) (env : List Pm) (e : Ex) : ((ofF P env e).2 = 0 ∧ a_ (ofF P env e).1) ∨ ofF P env e = (0, 34) := by
 unfold ofF ofL ofL ofL ofL
 split
 ·exact .inl ⟨rfl, .inl rfl⟩
 ·split
  ·exact .inl ⟨rfl, .inr (.inl rfl)⟩
  ·split
   ·exact .inl ⟨rfl, .inr (.inr rfl)⟩
   ·exact .inr rfl
theorem zN (P : List Fn) : ∀ (l : List Fn) (s : Ft), (tcF P l s).1 = 0 ↔ s.1 = 0 ∧ ∀ f ∈ l, a7 P f.params f.body f.type = []
 | [], s => by simp [tcF]
 | f :: fs, s => by
  unfold tcF
  rw [zN P fs]
  have hk : ∀ (l : List Int) (s : Ft), (l.foldl d9 s).1 = 0 ↔ s.1 = 0 ∧ l = [] := by
   intro l
   induction l with
   | nil => intro s; simp
   | cons x xs ih =>
    intro s
    rw [List.foldl_cons, ih]
    have : (d9 s x).1 ≠ 0 := by
     unfold d9 cO
     split
     ·show (34 : Int) ≠ 0
      decide
     ·omega
    simp [this]
  rw [hk]
  simp only [List.mem_cons, forall_eq_or_imp]
  exact ⟨fun ⟨⟨a, b⟩, c⟩ => ⟨a, b, c⟩, fun ⟨a, b, c⟩ => ⟨⟨a, b⟩, c⟩⟩
section
variable {P : List Fn} {env : List Pm} {x y z : Ex}
end
set_option maxRecDepth 1000000
set_option maxHeartbeats 0
noncomputable def cf35 : Cfg := ⟨Tryz.prog, 86, [0, 1, 2, 4, 5, 6, 7, 8, 9, 10, 11, 30, 31, 32, 68, 69, 70], []⟩
noncomputable def lb35_0 : AC :=
 .seq (.ifr [JO 71 (.bin .lss 3 (.g 70) (.g 69))] (.t 71) .skip (.exit 2)) (.seq (.block 3 (.seq (.reg [JA 72 70, JO 73 (.ia 3 (.g 68) (.g 70)), JE 74 3 73, JP 11 (.al [JU, JV, JV]), JB 10 72, JQ (.st 3 (.g 11) (.t 74))]) (.ifr [JG 75 0 9, JD 76 1 75, JA 77 10, JL 78 1 76 77, JD 79 1 78, JG 80 1 11, JD 81 1 80, JO 82 (.bin .neq 25 (.t 79) (.t 81))] (.t 82) (.seq (.reg [JP 4 (.mv (.c (.pointer none))), JI 5 3]) .ret) .skip))) (.reg [JO 83 (.bin .add 3 (.g 70) (JT 1)), JB 70 83]))
noncomputable def lb35_1 : AC :=
 .seq (.ifr [JO 33 (.bin .lss 3 (.g 32) (.g 31))] (.t 33) .skip (.exit 0)) (.seq (.block 1 (.seq (.reg [JA 34 32, JO 35 (.ia 11 (.g 30) (.g 32)), JE 36 11 35, JP 8 (.al [JU, JW, JV, JV, JU, JU, JV, .complex .f64 0 0, JW, JV, JV]), JB 7 34, JQ (.st 11 (.g 8) (.t 36))]) (.seq (.reg [JA 37 6, JM 38 37, JH 39 1 38, JD 40 1 39, JG 41 0 8, JD 42 1 41, JA 43 7, JQ (.mup none (.t 40) (.t 42) (.t 43))]) (.seq (.reg [JA 44 1, JA 45 7, JL 46 4 44 45, JE 47 4 46, JP 9 (.al [JW, JV, JV, JW]), JQ (.st 4 (.g 9) (.t 47))]) (.seq (.ifr [JF 48 4 9, JO 49 (.pc (.f 66) [.t 48]), JO 50 (.bin .neq 52 (.t 49) (JT 0)), JC 51 50, JR 52 51 (.fa 1 (.g 9)), JR 53 51 (.ld false 1 (.t 52)), JR 54 51 (.fa 2 (.g 8)), JR 55 51 (.ld false 1 (.t 54)), JR 56 51 (.bin .neq 25 (.t 53) (.t 55)), JO 57 (.pick (.t 51) JX (.t 56)), JC 58 57, JR 59 58 (.fa 0 (.g 9)), JR 60 58 (.ld false 1 (.t 59)), JR 61 58 (.len false (.t 60)), JR 62 58 (.fa 1 (.g 8)), JR 63 58 (.ld false 1 (.t 62)), JR 64 58 (.len false (.t 63)), JR 65 58 (.bin .neq 3 (.t 61) (.t 64)), JO 66 (.pick (.t 58) JX (.t 65))] (.t 66) (.seq (.reg [JP 4 (.mv (.c (.pointer none))), JI 5 3]) .ret) .skip) (.seq (.reg [JG 67 1 8, JP 68 (.ld false 1 (.t 67)), JP 69 (.len false (.g 68)), JI 70 0]) (.block 2 (.loop lb35_0)))))))) (.reg [JO 84 (.bin .add 3 (.g 32) (JT 1)), JB 32 84]))
noncomputable def ac35 : AC :=
 (.seq (.reg [JN 2 0, JP 4 (.mv (.c (.pointer none))), JI 5 0]) (.seq (.ifr [JF 12 1 2, JO 13 (.pc (.f 65) [.t 12]), JO 14 (.fld false 1 0 (.t 13)), JO 15 (.bin .neq 52 (.t 14) (JT 0)), JC 16 15, JR 17 16 (.mv (.g 1)), JR 18 16 (.len false (.t 17)), JR 19 16 (.fa 0 (.g 2)), JR 20 16 (.ld false 1 (.t 19)), JR 21 16 (.len false (.t 20)), JR 22 16 (.bin .neq 3 (.t 18) (.t 21)), JO 23 (.pick (.t 16) JX (.t 22))] (.t 23) (.seq (.reg [JP 4 (.mv (.c (.pointer none))), JI 5 3]) .ret) .skip) (.seq (.reg [JF 24 1 2, .mk (.t 25) none .mkm, JA 26 1, JO 27 (.bld [JW, .map none, JW] [(0, 1, .t 24), (1, 1, .t 25), (2, 1, .t 26)]), JO 28 (.bxi (.t 27)), JB 6 28]) (.seq (.seq (.reg [JG 29 0 2, JP 30 (.ld false 1 (.t 29)), JP 31 (.len false (.g 30)), JI 32 0]) (.block 0 (.loop lb35_1))) (.seq (.reg [JA 85 6, JB 4 85, JI 5 0]) .ret)))))
theorem fi35 : FI Tryz.prog 35 cf35 ac35 [.t 4, .t 5] [0, 1, 2, 4, 5, 6, 7, 8, 9, 10, 11, 30, 31, 32, 68, 69, 70] 86 := FI_of (c := Tryz.f35.body.getD .skip) Tryz.func35 (by kernel_rfl) (by rfl) (by rfl) (by kernel_rfl) (by kernel_rfl) rfl rfl rfl
@[simp] theorem cfP35 : cf35.P = Tryz.prog := (rfl)
noncomputable def cf11 : Cfg := ⟨Tryz.prog, 74, [0, 1, 2, 3, 4, 7, 8, 9, 10, 11, 12, 13, 15, 17, 18, 28, 29, 30], [22, 54, 73]⟩
noncomputable def lb11_0 : AC :=
 .seq (.ifr [JO 31 (.bin .lss 3 (.g 30) (.g 29))] (.t 31) .skip (.exit 0)) (.seq (.block 1 (.seq (.reg [JO 32 (.ia 3 (.g 28) (.g 30)), JE 33 3 32, JP 15 (.al [JU, JV, JV]), JQ (.st 3 (.g 15) (.t 33))]) (.seq (.ifr [JG 34 1 15, JD 35 1 34, JG 36 2 15, JD 37 1 36, JO 38 (.pc (.f 36) [.t 35, .t 37]), JO 39 (.bin .neq 52 (.t 38) (JT 0))] (.t 39) (.seq (.reg [JI 8 0, JI 9 3]) .ret) .skip) (.seq (.reg [JG 40 0 15, JD 41 1 40, JG 42 2 15, JD 43 1 42, JA 44 12, JO 45 (.bld [JU, JV, .pointer none] [(0, 1, .t 41), (1, 1, .t 43), (2, 1, .t 44)]), JO 46 (.bxi (.t 45)), JB 12 46]) (.reg [JA 47 13, JG 48 0 15, JD 49 1 48, JG 50 1 15, JD 51 1 50, JO 52 (.bld [JU, JV, JV] [(0, 1, .t 49), (1, 1, .t 51)]), JO 53 (.bsl 3 1 [JU, JV, JV] [(0, 3, .t 52)]), JO 54 (.app 3 32 [JU, JV, JV] (.t 47) (.t 53)), JB 13 54]))))) (.reg [JO 55 (.bin .add 3 (.g 30) (JT 1)), JB 30 55]))
noncomputable def ac11 : AC :=
 (.seq (.reg [JN 4 0, JN 7 3, JI 8 0, JI 9 0]) (.seq (.reg [JF 20 1 4, JA 21 1, JO 22 (.cl (.f 35) [.t 20, .t 21]), JC 19 22, JK 23 0 19, JK 24 1 19, JB 10 23, JB 11 24]) (.seq (.ifr [JA 25 11, JO 26 (.bin .neq 52 (.t 25) (JT 0))] (.t 26) (.seq (.reg [JA 27 11, JI 8 0, JB 9 27]) .ret) .skip) (.seq (.reg [JP 12 (.mv (.c (.pointer none)))]) (.seq (.reg [JP 13 (.mv (.c (.slice none 0 0)))]) (.seq (.seq (.reg [JP 28 (.mv (.g 2)), JP 29 (.len false (.g 28)), JI 30 0]) (.block 0 (.loop lb11_0))) (.seq (.seq (.reg [JF 57 1 4, JA 58 13, JF 59 7 7, JO 60 (.pc (.f 37) [.t 57, .t 58, .t 59]), JC 56 60, JK 61 0 56, JK 62 1 56, JC 16 61, JB 17 62]) (.ifr [JA 63 17, JO 64 (.bin .neq 52 (.t 63) (JT 0))] (.t 64) (.seq (.reg [JI 8 0, JI 9 3]) .ret) .skip)) (.seq (.seq (.reg [JF 65 7 7, JO 66 (.pc (.f 38) [.t 65]), JB 18 66]) (.ifr [JA 67 18, JO 68 (.bin .neq 52 (.t 67) (JT 0))] (.t 68) (.seq (.reg [JA 69 18, JI 8 0, JB 9 69]) .ret) .skip)) (.seq (.reg [JA 70 10, JF 71 7 7, JA 72 12, JO 73 (.cl (.f 39) [.t 70, .t 71, .t 72]), JB 8 73, JI 9 0]) .ret)))))))))
theorem fi11 : FI Tryz.prog 11 cf11 ac11 [.t 8, .t 9] [0, 1, 2, 3, 4, 7, 8, 9, 10, 11, 12, 13, 15, 17, 18, 28, 29, 30] 74 := FI_of (c := Tryz.f11.body.getD .skip) Tryz.func11 (by kernel_rfl) (by rfl) (by rfl) (by kernel_rfl) (by kernel_rfl) rfl rfl rfl
@[simp] theorem cfP11 : cf11.P = Tryz.prog := (rfl)
noncomputable def cf19 : Cfg := ⟨Tryz.prog, 60, [0, 1, 2, 3, 4, 8, 9, 10, 11, 13, 14], [18, 59]⟩
noncomputable def ac19 : AC :=
 (.seq (.reg [JN 4 0, JI 8 0, JI 9 0]) (.seq (.reg [JF 16 1 4, JA 17 1, JO 18 (.cl (.f 35) [.t 16, .t 17]), JC 15 18, JK 19 0 15, JK 20 1 15, JB 10 19, JB 11 20]) (.seq (.ifr [JA 21 11, JO 22 (.bin .neq 52 (.t 21) (JT 0))] (.t 22) (.seq (.reg [JA 23 11, JI 8 0, JB 9 23]) .ret) .skip) (.seq (.ifr [JA 24 2, JO 25 (.bin .lss 3 (.t 24) (JT 0)), JC 26 25, JR 27 26 (.mv (.g 2)), JR 28 26 (.fa 0 (.g 4)), JR 29 26 (.ld false 1 (.t 28)), JR 30 26 (.len false (.t 29)), JR 31 26 (.bin .geq 3 (.t 27) (.t 30)), JO 32 (.pick (.t 26) JX (.t 31))] (.t 32) (.seq (.reg [JI 8 0, JI 9 2]) .ret) .skip) (.seq (.seq (.reg [JA 34 1, JA 35 2, JL 36 4 34 35, JH 37 0 36, JD 38 1 37, JA 39 3, JO 40 (.pc (.f 49) [.t 38, .t 39]), JC 33 40, JK 41 0 33, JK 42 1 33, JC 12 41, JB 13 42]) (.ifr [JA 43 13, JO 44 (.bin .neq 52 (.t 43) (JT 0))] (.t 44) (.seq (.reg [JA 45 13, JI 8 0, JB 9 45]) .ret) .skip)) (.seq (.seq (.reg [JG 46 0 4, JD 47 1 46, JA 48 2, JL 49 11 47 48, JH 50 3 49, JE 51 7 50, JO 52 (.pc (.f 38) [.t 51]), JB 14 52]) (.ifr [JA 53 14, JO 54 (.bin .neq 52 (.t 53) (JT 0))] (.t 54) (.seq (.reg [JA 55 14, JI 8 0, JB 9 55]) .ret) .skip)) (.seq (.reg [JA 56 10, JA 57 2, JA 58 3, JO 59 (.cl (.f 50) [.t 56, .t 57, .t 58]), JB 8 59, JI 9 0]) .ret)))))))
theorem fi19 : FI Tryz.prog 19 cf19 ac19 [.t 8, .t 9] [0, 1, 2, 3, 4, 8, 9, 10, 11, 13, 14] 60 := FI_of (c := Tryz.f19.body.getD .skip) Tryz.func19 (by kernel_rfl) (by rfl) (by rfl) (by kernel_rfl) (by kernel_rfl) rfl rfl rfl
@[simp] theorem cfP19 : cf19.P = Tryz.prog := (rfl)
noncomputable def cf21 : Cfg := ⟨Tryz.prog, 88, [0, 1, 2, 3, 6, 7, 8, 9, 10, 11, 13, 14, 63, 64], [19, 81, 1000000]⟩
@[simp] theorem cfP21 : cf21.P = Tryz.prog := (rfl)
set_option maxRecDepth 100000
set_option maxHeartbeats 8000000
theorem x4 {P : List Fn} : ∀ (l : List Fn) (k : Nat), fS P l k = [] → ∀ i, (h : i < l.length) → ¬ aP P 0 l[i].name < ((k + i : Nat) : Int)
 | [], k, _, i, h => by simp at h
 | f :: fs, k, hn, i, h => by
  unfold fS at hn
  rw [List.append_eq_nil_iff] at hn
  cases i with
  | zero =>
   intro g
   have h1 := hn.1
   rw [if_pos (by simpa using g)] at h1
   simp at h1
  | succ i =>
   have := x4 fs (k + 1) hn.2 i (by simpa using h)
   rw [show k + (i + 1) = k + 1 + i by omega]
   simpa using this
theorem BO : ∀ (P : List Fn) (k : Nat) (i : Nat) (h : i < P.length), 0 ≤ aP P k P[i].name ∧ aP P k P[i].name ≤ ((k + i : Nat) : Int)
 | [], k, i, h => by simp at h
 | f :: fs, k, i, h => by
  unfold aP
  split
  ·omega
  ·cases i with
   | zero => rename_i g; exact absurd rfl g
   | succ i =>
    have := BO fs (k + 1) i (by simpa using h)
    rw [show k + (i + 1) = k + 1 + i by omega]
    simpa using this
theorem uP : ∀ (P : List Fn) (k : Nat) (n : List UInt8) (i : Nat), aP P k n = ((k + i : Nat) : Int) → ∃ h : i < P.length, P[i].name = n
 | [], k, n, i, h => by unfold aP at h; omega
 | f :: fs, k, n, i, h => by
  unfold aP at h
  split at h
  ·rename_i g
   have : i = 0 := by omega
   subst this
   exact ⟨by simp, g⟩
  ·cases i with
   | zero =>
    have := eT fs (k + 1) n
    omega
   | succ i =>
    obtain ⟨h1, h2⟩ := uP fs (k + 1) n i (by rw [h]; congr 1; omega)
    exact ⟨by simpa using h1, by simpa using h2⟩
theorem DX {P : List Fn} (h : dT P) (h0 : (ckF P).1 = 0) : ∀ i, (hi : i < P.length) → aP P 0 P[i].name = i := by
 obtain ⟨ms, a, b, _, hl, hr, hb, hF, _⟩ := h
 unfold ckF at h0
 rw [uN hr P a b 0 _ hF hb] at h0
 have h1 := uS h0 (fun x hx => (List.mem_append.1 hx).elim (fun hx => (pF P a b 0 hF hb x hx).1) (q9 P a b hF x))
 rw [List.append_eq_nil_iff] at h1
 intro i hi
 have h2 := x4 P 0 h1.1 i hi
 have h3 := BO P 0 i hi
 rw [Nat.zero_add] at h2 h3
 omega
theorem pL {P : List Fn} (h0 : (gW P).1 = 0) : (ckF P).1 = 0 ∧ ∀ f ∈ P, a7 P f.params f.body f.type = [] := by
 unfold gW at h0
 split at h0
 ·rename_i g; exact absurd h0 g
 ·exact (zN P P _).1 h0
def fitT (f : Fn) (x : Tt) : Prop := lW x.ps x.t x.n x.l ∧ x.t = f.type ∧ x.ps = f.params.map Pm.type
def SeeOk (P : List Fn) (T : List Tt) : Prop := (gW P).1 = 0 ∧ T.length = P.length ∧ ∀ i, i < P.length → fitT (P[i]?.getD default) (T[i]?.getD default)
def TW (T : List Tt) : Prop := ∀ x ∈ T, gM x.l ∧ x.ps.length < 2 ^ 44
theorem SeeOk.tabs {P : List Fn} {T : List Tt} (h : SeeOk P T) (hw : TW T) : vN P T := by
 obtain ⟨h1, h2, h3⟩ := h
 refine ⟨h2, fun x hx => ?_, fun i hi => ?_⟩
 ·obtain ⟨i, hi, rfl⟩ := List.mem_iff_getElem.1 hx
  have := h3 i (by omega)
  rw [List.getElem?_eq_getElem hi] at this
  exact ⟨this.1, hw _ hx⟩
 ·have := h3 i hi
  rw [List.getElem?_eq_getElem hi] at this
  exact ⟨this.2.2, this.2.1⟩
theorem imm_Tt (l : List Tt) : D.immss (em fQ l) = true := gQ fun f => by simp [fQ]
attribute [simp] imm_Tt
theorem see_c {mem : Mem} {nx : Nat} {P : List Fn} {T : List Tt} {K : KD} (hk : dT P) (hT : T.length < 2 ^ 44) (hw : TW T)
  (hno : ¬ SeeOk P T → ∀ n', nx ≤ n' → K (.tup [.pl (.pointer none), I 3]) mem n')
  (hyes : SeeOk P T → ∀ hid m n', nx ≤ hid → hid < n' → Sg ((hid, .map (bR m)) :: mem) P hid T → K (.tup [sgD P hid T, I 0]) ((hid, .map (bR m)) :: mem) n') :
  bO Tryz.prog 35 [.agg [.sl (em aY P)], .sl (em fQ T)] mem nx K := by
 obtain ⟨hPT, hPl, hsz⟩ := jT hk
 have htc := K8 (y8 hk).1 hPl hsz
 refine fi35.ct (by simp) fun hfr => ?_
 simp -implicitDefEqProofs [ac35]
 refine aG htc (by simp) ?_
 by_cases h0 : (gW P).1 = 0
 ·by_cases hl : T.length = P.length
  ·have hli : (T.length : Int) = (P.length : Int) := by omega
   obtain ⟨hc0, hwl⟩ := pL h0
   have hhd := DX hk hc0
   simp -implicitDefEqProofs [h0, hli]
   obtain ⟨hid, hq⟩ : ∃ q, nx + 3 + 12 + 1 = q := ⟨_, rfl⟩
   have hq0 : look mem hid = none := hfr hid (by omega)
   rw [hq]
   refine lpG cf35 lb35_1 [4, 5, 7, 8, 9, 10, 11, 32, 68, 69, 70] (α := Nat × Sm) (fun s _ => [(32, I s.1)]) (fun s _ => (hid, .map (bR s.2)) :: mem) (fun s k => hid < k ∧ s.1 ≤ P.length ∧ (∀ j, j < s.1 → fitT (P[j]?.getD default) (T[j]?.getD default)) ∧ ∀ n (j : Nat), aP P 0 n = j → j < s.1 → dB s.2 n = j) (fun s => P.length - s.1) (0, []) ⟨by omega, by omega, fun j h => absurd h (by omega), fun n j _ h => absurd h (by omega)⟩ (by simp) (aK _) ?_
   rintro ⟨i, m⟩ k ⟨hk1, hi, hfit, hget⟩
   simp only at hi hfit hget hk1
   by_cases hlt : i < P.length
   ·have hlti : (i : Int) < (P.length : Int) := by omega
    have w1 := aS (x := (i : Int) + 1) (by omega) (by omega)
    have hT2 : i < T.length := by omega
    have hT2i : (i : Int) < (T.length : Int) := by omega
    obtain ⟨f, hf⟩ : ∃ x, P[i] = x := ⟨_, rfl⟩
    obtain ⟨x, hx⟩ : ∃ x, T[i] = x := ⟨_, rfl⟩
    have hfm : f ∈ P := by rw [← hf]; exact List.getElem_mem hlt
    have hxm : x ∈ T := by rw [← hx]; exact List.getElem_mem hT2
    have hfd : P[i]?.getD default = f := by rw [List.getElem?_eq_getElem hlt, hf]; rfl
    have hxd : T[i]?.getD default = x := by rw [List.getElem?_eq_getElem hT2, hx]; rfl
    obtain ⟨hxw, hxp⟩ := hw x hxm
    have hhi := hhd i hlt
    rw [hf] at hhi
    have z1 : (k + 1 + 3 = hid) = False := eq_false (by omega)
    have z2 : (hid = k + 1 + 3) = False := eq_false (by omega)
    simp -implicitDefEqProofs [lb35_1, hlt, hlti, hf, hx, hT2, hT2i, z1, z2, EF]
    have hv1 : k + 1 + 3 < k + 1 + 6 + 8 + 4 := by omega
    have hv2 : k + 1 + 6 + 8 + 4 < k + 1 + 6 + 8 + 6 + 19 := by omega
    have hv3 : hid < k + 1 + 3 := by omega
    refine aG (HC x.ps x.t x.n x.l hxw hxp) (by simp) ?_
    obtain ⟨b1, hb1⟩ : ∃ q, k + 1 + 3 = q := ⟨_, rfl⟩
    obtain ⟨b2, hb2⟩ : ∃ q, k + 1 + 6 + 8 + 4 = q := ⟨_, rfl⟩
    rw [hb1] at hv1 hv3
    rw [hb2] at hv1 hv2
    rw [hb1, hb2]
    have hm1 : look mem b1 = none := hfr b1 (by omega)
    have hm2 : look mem b2 = none := hfr b2 (by omega)
    have e1 : (b1 = b2) = False := eq_false (by omega)
    have e2 : (b2 = b1) = False := eq_false (by omega)
    by_cases ht0 : lW x.ps x.t x.n x.l
    ·have ht1 : oN x.ps x.t x.n x.l = 0 := if_pos ht0
     by_cases hty : x.t = f.type
     ·rw [hty] at ht1
      by_cases hpl : x.ps.length = f.params.length
      ·have hpli : (x.ps.length : Int) = (f.params.length : Int) := by omega
       simp -implicitDefEqProofs [ht1, hb1, hb2, e1, e2, hty, hpli]
       obtain ⟨nk, hnk⟩ : ∃ q, k + 1 + 6 + 8 + 6 + 19 = q := ⟨_, rfl⟩
       refine lpG cf35 lb35_0 [4, 5, 10, 11, 70] (α := Nat) (fun s _ => [(70, I s)]) (fun s _ => (b2, .box [.sl (em bH x.ps), I f.type, I x.n, .sl (em i8 x.l)]) :: (b1, .box [Tx f.name, .sl (em bG f.params), I f.type, I f.body.op, Tx f.body.name, Tx f.body.tail, I f.body.type, CX f.body.num.re f.body.num.im, .sl (em aQ f.body.args), I f.body.at', I f.at']) :: (hid, .map (bR (fK m f.name i))) :: mem) (fun s k => b2 < k ∧ s ≤ f.params.length ∧ ∀ j (h1 : j < x.ps.length) (h2 : j < f.params.length), j < s → x.ps[j] = (f.params[j]).type) (fun s => f.params.length - s) 0 ⟨by omega, by omega, fun j _ _ h => absurd h (by omega)⟩ (by simp) (aK _) ?_
       rintro c k2 ⟨hk2, hc, heq⟩
       by_cases hcl : c < f.params.length
       ·have hcli : (c : Int) < (f.params.length : Int) := by omega
        have hcx : c < x.ps.length := by omega
        have hcxi : (c : Int) < (x.ps.length : Int) := by omega
        have w2 := aS (x := (c : Int) + 1) (by omega) (by have := (hsz f hfm).2.1; omega)
        obtain ⟨y, hy⟩ : ∃ y, f.params[c] = y := ⟨_, rfl⟩
        obtain ⟨t, ht⟩ : ∃ y, x.ps[c] = y := ⟨_, rfl⟩
        have z3 : (k2 + 1 + 3 = b2) = False := eq_false (by omega)
        have z4 : (b2 = k2 + 1 + 3) = False := eq_false (by omega)
        have z5 : (k2 + 1 + 3 = b1) = False := eq_false (by omega)
        have z6 : (b1 = k2 + 1 + 3) = False := eq_false (by omega)
        by_cases hyt : t = y.type
        ·simp -implicitDefEqProofs [lb35_0, hcl, hcli, hcx, hcxi, hy, ht, w2, z3, z4, z5, z6, e1, e2, hyt]
         refine aI (c + 1) ⟨by omega, hcl, fun j h1 h2 hj => ?_⟩ (by omega) (by simp) (aN (aK _) (by simp only [a8]; rw [if_neg (by omega), if_neg (by omega), if_neg (by omega)]; exact hfr _ (by omega)))
         by_cases e : j = c
         ·subst e; rw [hy, ht]; exact hyt
         ·exact heq j h1 h2 (by omega)
        ·have hn : ¬ SeeOk P T := fun h => by
          have h2 := h.2.2 i hlt
          rw [hfd, hxd] at h2
          refine hyt ?_
          rw [← ht, ← hy]
          have h3 : x.ps[c]? = (f.params.map Pm.type)[c]? := by rw [h2.2.2]
          rw [List.getElem?_eq_getElem hcx, List.getElem?_map, List.getElem?_eq_getElem hcl] at h3
          simpa using h3
         simp -implicitDefEqProofs [lb35_0, hcl, hcli, hcx, hcxi, hy, ht, w2, z3, z4, z5, z6, e1, e2, hyt]
         exact ⟨mem, aE (aE (aE (aE (aF _) hq0) hm1) hm2) (hfr _ (by omega)), hno hn _ (by omega)⟩
       ·have hcp : c = f.params.length := by omega
        subst hcp
        simp -implicitDefEqProofs [lb35_0, w1]
        refine aI (i + 1, fK m f.name i) ⟨by omega, hlt, fun j hj => ?_, fun n j hj hji => ?_⟩ (by simp only; omega) (by simp) (aN (aN (aK _) (by simp only [a8]; rw [if_neg (by omega)]; exact hm1)) (by simp only [a8]; rw [if_neg (by omega)]; exact hm2))
        ·by_cases e : j = i
         ·subst e
          rw [hfd, hxd]
          refine ⟨ht0, hty, List.ext_getElem (by simpa using hpl) fun j h1 h2 => ?_⟩
          rw [List.getElem_map]
          exact heq j h1 (by simpa using h2) (by simpa using h2)
         ·exact hfit j (by simp only at hj; omega)
        ·simp only at hji ⊢
         rw [kZ]
         by_cases e : f.name = n
         ·rw [if_pos e]
          rw [e] at hhi
          omega
         ·rw [if_neg e]
          by_cases e2 : j = i
          ·subst e2
           obtain ⟨h1, h2⟩ := uP P 0 n j (by rw [hj]; simp)
           exact absurd (by rw [← hf]; exact h2) e
          ·exact hget n j hj (by omega)
      ·have hpli : ¬ (x.ps.length : Int) = (f.params.length : Int) := by omega
       have hn : ¬ SeeOk P T := fun h => by
        have h2 := h.2.2 i hlt
        rw [hfd, hxd] at h2
        exact hpl (by rw [h2.2.2]; simp)
       simp -implicitDefEqProofs [ht1, hb1, hb2, e1, e2, hty, hpli]
       exact ⟨mem, aE (aE (aE (aF _) hq0) hm1) hm2, hno hn _ (by omega)⟩
     ·have hn : ¬ SeeOk P T := fun h => by
       have h2 := h.2.2 i hlt
       rw [hfd, hxd] at h2
       exact hty h2.2.1
      simp -implicitDefEqProofs [ht1, hb1, hb2, e1, e2, hty]
      exact ⟨mem, aE (aE (aE (aF _) hq0) hm1) hm2, hno hn _ (by omega)⟩
    ·have ht1 : oN x.ps x.t x.n x.l = 3 := if_neg ht0
     have hn : ¬ SeeOk P T := fun h => by
      have h2 := h.2.2 i hlt
      rw [hfd, hxd] at h2
      exact ht0 h2.1
     simp -implicitDefEqProofs [ht1, hb1, hb2]
     exact ⟨mem, aE (aE (aE (aF _) hq0) hm1) hm2, hno hn _ (by omega)⟩
   ·have hip : i = P.length := by omega
    subst hip
    simp -implicitDefEqProofs [lb35_1]
    have hok : SeeOk P T := ⟨h0, hl, hfit⟩
    exact ⟨_, aF _, hyes hok hid m _ (by omega) (by omega) ⟨⟨m, by rw [a8, if_pos rfl], fun n hn => by
     have hlt := eT P 0 n
     obtain ⟨j, hj⟩ : ∃ j : Nat, aP P 0 n = j := ⟨(aP P 0 n).toNat, by omega⟩
     rw [hj]
     exact hget n j hj (by omega)⟩, hok.tabs hw⟩⟩
  ·have hli : ¬ (T.length : Int) = (P.length : Int) := by omega
   have hn : ¬ SeeOk P T := fun h => hl h.2.1
   simp -implicitDefEqProofs [h0, hli]
   exact ⟨_, aF _, hno hn _ (by omega)⟩
 ·have hn : ¬ SeeOk P T := fun h => h0 h.1
  simp -implicitDefEqProofs [h0]
  exact ⟨_, aF _, hno hn _ (by omega)⟩
set_option maxRecDepth 1000000
set_option maxHeartbeats 0
noncomputable def cf71 : Cfg := ⟨Tryz.prog, 27, [0, 1, 2, 3, 5, 7, 8, 9, 19, 20], []⟩
noncomputable def lb71_0 : AC :=
 .seq (.ifr [JO 10 (.bin .lss 3 (.g 9) (.g 8))] (.t 10) .skip (.exit 0)) (.seq (.block 1 (.seq (.reg [JO 11 (.ia 7 (.g 7) (.g 9)), JE 12 7 11, JP 5 (.al [JV, JU, JU, JV, .complex .f64 0 0, JW, JV]), JQ (.st 7 (.g 5) (.t 12))]) (.reg [JA 13 3, JF 14 7 5, JO 15 (.pc (.f 71) [.t 14]), JO 16 (.bi .max [.t 13, .t 15]), JB 3 16]))) (.reg [JO 17 (.bin .add 3 (.g 9) (JT 1)), JB 9 17]))
noncomputable def ac71 : AC :=
 (.seq (.reg [JN 1 0, JI 2 0]) (.seq (.reg [JI 3 0]) (.seq (.seq (.reg [JG 6 5 1, JP 7 (.ld false 1 (.t 6)), JP 8 (.len false (.g 7)), JI 9 0]) (.block 0 (.loop lb71_0))) (.seq (.seq (.reg [JG 18 0 1, JP 19 (.ld false 1 (.t 18))]) (.block 2 (.seq (.ifr [JO 21 (.bin .eql 40 (.g 19) (JT 21)), JB 20 21] (.g 20) .skip (.ifr [JO 22 (.bin .eql 40 (.g 19) (JT 22)), JB 20 22] (.g 20) .skip (.reg [JO 23 (.bin .eql 40 (.g 19) (JT 20)), JB 20 23]))) (.cond (.g 20) (.reg [JA 24 3, JO 25 (.bin .add 3 (.t 24) (JT 1)), JB 3 25]) .skip)))) (.seq (.reg [JA 26 3, JB 2 26]) .ret)))))
theorem fi71 : FI Tryz.prog 71 cf71 ac71 [.t 2] [0, 1, 2, 3, 5, 7, 8, 9, 19, 20] 27 := FI_of (c := Tryz.f71.body.getD .skip) Tryz.func71 (by kernel_rfl) (by rfl) (by rfl) (by kernel_rfl) (by kernel_rfl) rfl rfl rfl
@[simp] theorem cfP71 : cf71.P = Tryz.prog := (rfl)
noncomputable def cf14 : Cfg := ⟨Tryz.prog, 38, [0, 1, 2, 3, 4, 5], []⟩
noncomputable def lb14_0 : AC :=
 .seq (.ifr [JA 6 4, JG 7 5 1, JD 8 1 7, JO 9 (.len false (.t 8)), JO 10 (.bin .lss 3 (.t 6) (.t 9))] (.t 10) .skip (.exit 0)) (.seq (.block 1 (.seq (.reg [JG 13 5 1, JD 14 1 13, JA 15 4, JL 16 7 14 15, JE 17 7 16, JO 18 (.pc (.f 14) [.t 17]), JB 5 18]) (.reg [JA 19 3, JA 20 5, JO 21 (.bi .max [.t 19, .t 20]), JB 3 21]))) (.reg [JA 11 4, JO 12 (.bin .add 3 (.t 11) (JT 1)), JB 4 12]))
noncomputable def ac14 : AC :=
 (.seq (.reg [JN 1 0, JI 2 0]) (.seq (.reg [JI 3 0]) (.seq (.seq (.reg [JI 4 0]) (.block 0 (.loop lb14_0))) (.seq (.ifr [JG 22 0 1, JD 23 1 22, JO 24 (.bin .eql 40 (.t 23) (JT 21)), JC 25 24, JR 26 25 (.fa 0 (.g 1)), JR 27 25 (.ld false 1 (.t 26)), JR 28 25 (.bin .eql 40 (.t 27) (JT 22)), JO 29 (.pick (.t 25) JX (.t 28)), JC 30 29, JR 31 30 (.fa 0 (.g 1)), JR 32 30 (.ld false 1 (.t 31)), JR 33 30 (.bin .eql 40 (.t 32) (JT 20)), JO 34 (.pick (.t 30) JX (.t 33))] (.t 34) (.reg [JA 35 3, JO 36 (.bin .add 3 (.t 35) (JT 1)), JB 3 36]) .skip) (.seq (.reg [JA 37 3, JB 2 37]) .ret)))))
theorem fi14 : FI Tryz.prog 14 cf14 ac14 [.t 2] [0, 1, 2, 3, 4, 5] 38 := FI_of (c := Tryz.f14.body.getD .skip) Tryz.func14 (by kernel_rfl) (by rfl) (by rfl) (by kernel_rfl) (by kernel_rfl) rfl rfl rfl
@[simp] theorem cfP14 : cf14.P = Tryz.prog := (rfl)
noncomputable def cf38 : Cfg := ⟨Tryz.prog, 6, [0, 1, 2], []⟩
noncomputable def ac38 : AC :=
 (.seq (.reg [JN 1 0, JI 2 0]) (.seq (.ifr [JF 3 7 1, JO 4 (.pc (.f 71) [.t 3]), JO 5 (.bin .gtr 3 (.t 4) (JT 6))] (.t 5) (.seq (.reg [JI 2 23]) .ret) .skip) (.seq (.reg [JI 2 0]) .ret)))
theorem fi38 : FI Tryz.prog 38 cf38 ac38 [.t 2] [0, 1, 2] 6 := FI_of (c := Tryz.f38.body.getD .skip) Tryz.func38 (by kernel_rfl) (by rfl) (by rfl) (by kernel_rfl) (by kernel_rfl) rfl rfl rfl
@[simp] theorem cfP38 : cf38.P = Tryz.prog := (rfl)
set_option maxRecDepth 100000
set_option maxHeartbeats 4000000
mutual
def bI : Ex → Nat
 | .mk op _ _ _ _ args _ => cI args + (if op = 21 ∨ op = 22 ∨ op = 20 then 1 else 0)
def cI : List Ex → Nat
 | [] => 0
 | x :: xs => max (bI x) (cI xs)
end
mutual
theorem G0 : ∀ e : Ex, bI e ≤ size e
 | .mk op n tl ty z args p => by
  have := qA args
  unfold bI size
  split <;> omega
theorem qA : ∀ l : List Ex, cI l ≤ aV l
 | [] => by simp [cI]
 | x :: xs => by
  have h1 := G0 x
  have h2 := qA xs
  unfold cI aV; omega
end
theorem wW : ∀ {l : List Ex} {x : Ex}, x ∈ l → size x ≤ aV l ∧ bI x ≤ cI l
 | y :: ys, x, h => by
  unfold aV cI
  rcases List.mem_cons.1 h with rfl | h
  ·omega
  ·have := wW h; omega
theorem G9 : ∀ (l : List Ex), l.length ≤ aV l
 | [] => by simp [aV]
 | y :: ys => by
  have := G9 ys
  have h : 1 ≤ size y := by cases y; unfold size; omega
  unfold aV; simp only [List.length_cons]; omega
def yL (e : Ex) : Prop := size e ≤ 2 ^ 40 → Pure Tryz.prog 71 [.agg [I e.op, Tx e.name, Tx e.tail, I e.type, CX e.num.re e.num.im, .sl (em aQ e.args), I e.at']] (I (bI e)) ∧ Pure Tryz.prog 14 [.agg [I e.op, Tx e.name, Tx e.tail, I e.type, CX e.num.re e.num.im, .sl (em aQ e.args), I e.at']] (I (bI e))
theorem HN (op : Int) (n tl : List UInt8) (ty : Int) (z : Cx) (args : List Ex) (p : Int) (ih : ∀ x ∈ args, yL x) : yL (.mk op n tl ty z args p) := by
 intro hz
 have hzs : aV args ≤ 2 ^ 40 := by unfold size at hz; omega
 have hlen := G9 args
 have hb := qA args
 have ih1 : ∀ x ∈ args, Pure Tryz.prog 71 [.agg [I x.op, Tx x.name, Tx x.tail, I x.type, CX x.num.re x.num.im, .sl (em aQ x.args), I x.at']] (I (bI x)) ∧ Pure Tryz.prog 14 [.agg [I x.op, Tx x.name, Tx x.tail, I x.type, CX x.num.re x.num.im, .sl (em aQ x.args), I x.at']] (I (bI x)) := fun x hx => ih x hx (Nat.le_trans (wW hx).1 hzs)
 have hop : op = 21 ∨ op = 22 ∨ op = 20 ∨ (op ≠ 21 ∧ op ≠ 22 ∧ op ≠ 20) := by omega
 have w1 : IntKind.i64.wrap ((cI args : Int) + 1) = cI args + 1 := aS (by omega) (by omega)
 show Pure Tryz.prog 71 [.agg [I op, Tx n, Tx tl, I ty, CX z.re z.im, .sl (em aQ args), I p]] (I (bI (.mk op n tl ty z args p))) ∧ Pure Tryz.prog 14 [.agg [I op, Tx n, Tx tl, I ty, CX z.re z.im, .sl (em aQ args), I p]] (I (bI (.mk op n tl ty z args p)))
 generalize hR : cI args = R at *
 refine ⟨?_, ?_⟩
 ·refine fi71.pu (by simp) ?_
  simp -implicitDefEqProofs [ac71]
  refine lpG cf71 lb71_0 [3, 5, 9] (α := Nat × Nat) (fun s _ => [(3, I s.2), (5, .top), (9, I s.1)]) (fun s _ => []) (fun s k => s.1 ≤ args.length ∧ max s.2 (cI (args.drop s.1)) = R) (fun s => args.length - s.1) (0, 0) ⟨by simp, by simp [hR]⟩ (by simp) (by simp) ?_
  rintro ⟨i, m⟩ k ⟨hi, hr⟩
  simp only at hi hr
  by_cases hlt : i < args.length
  ·have wi := aS (x := (i : Int) + 1) (by omega) (by omega)
   rw [List.drop_eq_getElem_cons hlt] at hr
   unfold cI at hr
   have hx := ih1 args[i] (List.getElem_mem hlt)
   obtain ⟨x, hxe⟩ : ∃ x, args[i] = x := ⟨_, rfl⟩
   rw [hxe] at hx hr
   simp -implicitDefEqProofs [lb71_0, hlt, hxe]
   refine aG hx.1 (by simp) ?_
   have hmx : ((max m (bI x) : Nat) : Int) = max (m : Int) (bI x : Int) := by omega
   simp -implicitDefEqProofs [wi]
   exact aI (i + 1, max m (bI x)) ⟨hlt, by simp only; omega⟩ (by simp only; omega) (by simp [hmx]) (by simp)
  ·have hil : i = args.length := by omega
   subst hil
   rw [List.drop_length] at hr
   simp only [cI, Nat.max_zero] at hr
   subst hr
   unfold bI
   rw [hR]
   rcases hop with rfl | rfl | rfl | ⟨o1, o2, o3⟩
   ·simp -implicitDefEqProofs [lb71_0, w1]
   ·simp -implicitDefEqProofs [lb71_0, w1]
   ·simp -implicitDefEqProofs [lb71_0, w1]
   ·simp -implicitDefEqProofs [lb71_0, o1, o2, o3]
 ·refine fi14.pu (by simp) ?_
  simp -implicitDefEqProofs [ac14]
  refine lpG cf14 lb14_0 [3, 4, 5] (α := Nat × Nat) (fun s _ => [(3, I s.2), (4, I s.1), (5, .top)]) (fun s _ => []) (fun s k => s.1 ≤ args.length ∧ max s.2 (cI (args.drop s.1)) = R) (fun s => args.length - s.1) (0, 0) ⟨by simp, by simp [hR]⟩ (by simp) (by simp) ?_
  rintro ⟨i, m⟩ k ⟨hi, hr⟩
  simp only at hi hr
  by_cases hlt : i < args.length
  ·have wi := aS (x := (i : Int) + 1) (by omega) (by omega)
   rw [List.drop_eq_getElem_cons hlt] at hr
   unfold cI at hr
   have hx := ih1 args[i] (List.getElem_mem hlt)
   obtain ⟨x, hxe⟩ : ∃ x, args[i] = x := ⟨_, rfl⟩
   rw [hxe] at hx hr
   simp -implicitDefEqProofs [lb14_0, hlt, hxe]
   refine aG hx.2 (by simp) ?_
   have hmx : ((max m (bI x) : Nat) : Int) = max (m : Int) (bI x : Int) := by omega
   simp -implicitDefEqProofs [wi]
   exact aI (i + 1, max m (bI x)) ⟨hlt, by simp only; omega⟩ (by simp only; omega) (by simp [hmx]) (by simp)
  ·have hil : i = args.length := by omega
   subst hil
   rw [List.drop_length] at hr
   simp only [cI, Nat.max_zero] at hr
   subst hr
   unfold bI
   rw [hR]
   rcases hop with rfl | rfl | rfl | ⟨o1, o2, o3⟩
   ·simp -implicitDefEqProofs [lb14_0, w1]
   ·simp -implicitDefEqProofs [lb14_0, w1]
   ·simp -implicitDefEqProofs [lb14_0, w1]
   ·simp -implicitDefEqProofs [lb14_0, o1, o2, o3]
mutual
theorem AX : ∀ e : Ex, yL e
 | .mk op n tl ty z args p => HN op n tl ty z args p (C1 args)
theorem C1 : ∀ l : List Ex, ∀ x ∈ l, yL x
 | [], x, h => by simp at h
 | y :: ys, x, h => by
  rcases List.mem_cons.1 h with e | h
  ·rw [e]; exact AX y
  ·exact C1 ys x h
end
theorem wQ (e : Ex) (hz : size e ≤ 2 ^ 40) : Pure Tryz.prog 38 [.agg [I e.op, Tx e.name, Tx e.tail, I e.type, CX e.num.re e.num.im, .sl (em aQ e.args), I e.at']] (I (if 6 < bI e then 23 else 0)) := by
 refine fi38.pu (by simp) ?_
 simp -implicitDefEqProofs [ac38]
 refine aG (AX e hz).1 (by simp) ?_
 by_cases h : 6 < bI e
 ·have h2 : (6 : Int) < (bI e : Int) := by omega
  simp -implicitDefEqProofs [h, h2]
 ·have h2 : ¬ (6 : Int) < (bI e : Int) := by omega
  simp -implicitDefEqProofs [h, h2]
set_option maxHeartbeats 8000000
def nmB (l : List Pm) : Nls := (l.map fun b => (b.name, b.at')).reverse
def cJ (l : List Pm) : List Pm := l.map fun b => ⟨b.name, b.type, 0⟩
theorem z8 {t p : Int} : ck t p = 0 ↔ a_ t ∧ Pin t p := by
 unfold ck Pin a_
 constructor
 ·intro h
  split at h
  ·omega
  ·split at h
   ·rename_i h1 h2
    refine ⟨?_, h2⟩
    unfold tp at h1
    split at h1
    ·rename_i e; exact .inl e
    ·split at h1
     ·rename_i e; exact .inr (.inl e)
     ·split at h1
      ·rename_i e; exact .inr (.inr e)
      ·omega
   ·omega
 ·rintro ⟨h1, h2⟩
  have := nW h1
  rw [if_neg (by omega), if_pos h2]
theorem EnvR.binds : ∀ (l : List Pm), (∀ b ∈ l, ck b.type b.at' = 0) → EnvR (cJ l) (nmB l) := by
 have key : ∀ (l env : List Pm) (N : Nls), (∀ b ∈ l, ck b.type b.at' = 0) → EnvR env N → EnvR (env ++ cJ l) (nmB l ++ N) := by
  intro l
  induction l with
  | nil => intro env N _ h; simpa [nmB, cJ] using h
  | cons x l ih =>
   intro env N hl h
   have hx := (z8.1 (hl x (by simp))).2
   have h2 := ih (env ++ [⟨x.name, x.type, 0⟩]) ((x.name, x.at') :: N) (fun b hb => hl b (by simp [hb])) (EnvR.one h hx)
   have e1 : env ++ [⟨x.name, x.type, 0⟩] ++ cJ l = env ++ cJ (x :: l) := by simp [cJ]
   have e2 : nmB l ++ (x.name, x.at') :: N = nmB (x :: l) ++ N := by simp [nmB]
   rw [e1, e2] at h2
   exact h2
 intro l h
 have := key l [] [] h EnvR.nil
 simpa using this
theorem HV (l : List Pm) (i : Nat) (h : i < l.length) : nmB (l.take (i + 1)) = (l[i].name, l[i].at') :: nmB (l.take i) := by
 unfold nmB
 rw [List.take_add_one, List.getElem?_eq_getElem h, List.map_append, List.reverse_append]
 rfl
theorem EW (l : List Pm) (i : Nat) (h : i < l.length) : cJ (l.take (i + 1)) = cJ (l.take i) ++ [⟨l[i].name, l[i].type, 0⟩] := by
 unfold cJ
 rw [List.take_add_one, List.getElem?_eq_getElem h, List.map_append]
 rfl
@[simp] theorem y9 (l : List Pm) : (cJ l).length = l.length := by simp [cJ]
open Classical in
noncomputable def o_ (P : List Fn) (T : List Tt) (l : List Pm) (e : Ex) : Int × Int := if SeeOk P T ∧ (∀ b ∈ l, ck b.type b.at' = 0) ∧ (ofF P (cJ l) e).2 = 0 then (if 6 < bI e then (0, 23) else (ptF (aZ P T) e (nmB l), 0)) else (0, 3)
theorem BL {P : List Fn} {T : List Tt} (hk : dT P) (hT : T.length < 2 ^ 44) (hw : TW T) (l : List Pm) (hl : l.length ≤ 2 ^ 42 + 2 ^ 39) (e : Ex) (hs : Sh e) (hz : size e ≤ 2 ^ 38) :
  Pure Tryz.prog 11 [.agg [.sl (em aY P)], .sl (em fQ T), .sl (em bG l), .agg (aQ e)] (.tup [I (o_ P T l e).1, I (o_ P T l e).2]) := by
 obtain ⟨hPT, hPl, hsz⟩ := jT hk
 refine fi11.pu (by simp) ?_
 simp only [aA]
 simp -implicitDefEqProofs [ac11]
 have hno : ¬ (SeeOk P T ∧ (∀ b ∈ l, ck b.type b.at' = 0) ∧ (ofF P (cJ l) e).2 = 0) → o_ P T l e = (0, 3) := fun h => by unfold o_; exact if_neg h
 have hyes : (SeeOk P T ∧ (∀ b ∈ l, ck b.type b.at' = 0) ∧ (ofF P (cJ l) e).2 = 0) → o_ P T l e = if 6 < bI e then (0, 23) else (ptF (aZ P T) e (nmB l), 0) := fun h => by unfold o_; exact if_pos h
 generalize o_ P T l e = R at *
 refine aD (see_c hk hT hw (fun h n1 hn1 => ?_) (fun hok hid m n1 h0 hn1 hsg => ?_))
 ·rw [hno (fun g => h g.1)]
  simp -implicitDefEqProofs
 ·simp -implicitDefEqProofs []
  obtain ⟨q, hq⟩ : ∃ q, n1 + 2 + 1 + 1 + 3 = q := ⟨_, rfl⟩
  rw [hq]
  refine cW (j := 13) (k := 3) rfl (.inl rfl) ?_
  refine jD ?_
  have hqh : (q = hid) = False := eq_false (by omega)
  have hhq : (hid = q) = False := eq_false (by omega)
  refine lpG cf11 lb11_0 [8, 9, 12, 13, 15, 30] (α := Nat × Nat × List Pm × Nls) (fun s _ => [(12, cP s.2.2.2), (13, .osl q s.2.1 0 s.2.2.1.length), (30, I s.1)]) (fun s _ => [(q, .arr s.2.1 3 (em bG s.2.2.1)), (hid, .map (bR m))]) (fun s k => q < k ∧ s.1 ≤ l.length ∧ (∀ j (h : j < l.length), j < s.1 → ck l[j].type l[j].at' = 0) ∧ s.2.2.1 = cJ (l.take s.1) ∧ s.2.2.2 = nmB (l.take s.1)) (fun s => l.length - s.1) (0, 0, [], []) ⟨by omega, by simp, fun j _ h => absurd h (by omega), by simp [cJ], by simp [nmB]⟩ (by simp [cP, upd]) (by simp) ?_
  rintro ⟨i, v, ev, N⟩ k ⟨hk1, hi, hck, hev, hN⟩
  simp only at hi hck hev hN hk1
  by_cases hlt : i < l.length
  ·have hlti : (i : Int) < (l.length : Int) := by omega
   have w1 := aS (x := (i : Int) + 1) (by omega) (by omega)
   have hnext := HV l i hlt
   rw [← hN] at hnext
   have henv := EW l i hlt
   rw [← hev] at henv
   obtain ⟨x, hx⟩ : ∃ x, l[i] = x := ⟨_, rfl⟩
   have hel : ev.length = i := by rw [hev, y9, List.length_take]; omega
   have b1 : (ev.length + 1) * 32 ≤ 3 * 2 ^ 46 := by omega
   have z1 : (k + 1 + 2 = q) = False := eq_false (by omega)
   have z2 : (q = k + 1 + 2) = False := eq_false (by omega)
   have z3 : (hid = k + 1 + 2) = False := eq_false (by omega)
   rw [hx] at hnext henv
   have hap : em bG ev ++ [[Tx x.name, I x.type, I 0]] = em bG (cJ (l.take (i + 1))) := by rw [henv]; exact o4 _ ⟨x.name, x.type, 0⟩
   by_cases hc : ck x.type x.at' = 0
   ·have hck2 : ∀ j (h : j < l.length), j < i + 1 → ck l[j].type l[j].at' = 0 := fun j h hj => by
     by_cases e : j = i
     ·subst e; rw [hx]; exact hc
     ·exact hck j h (by omega)
    cases N with
    | nil =>
     simp -implicitDefEqProofs [lb11_0, hlt, hlti, hx, w1]
     refine aG (iG x.type x.at') (by simp) ?_
     simp -implicitDefEqProofs
     simp -implicitDefEqProofs [hc, cP, b1, w1, z1, z2, hap]
     exact aI (i + 1, v + 1, cJ (l.take (i + 1)), (x.name, x.at') :: []) ⟨by omega, hlt, hck2, rfl, hnext.symm⟩ (by simp only; omega) (by simp [cP, henv]) (aN (aK _) (by simp [look, z2, z3]))
    | cons y r =>
     simp -implicitDefEqProofs [lb11_0, hlt, hlti, hx, w1]
     refine aG (iG x.type x.at') (by simp) ?_
     simp -implicitDefEqProofs
     simp -implicitDefEqProofs [hc, cP, b1, w1, z1, z2, hap]
     exact aI (i + 1, v + 1, cJ (l.take (i + 1)), (x.name, x.at') :: y :: r) ⟨by omega, hlt, hck2, rfl, hnext.symm⟩ (by simp only; omega) (by simp [cP, henv]) (aN (aK _) (by simp [look, z2, z3]))
   ·have hn : ¬ (SeeOk P T ∧ (∀ b ∈ l, ck b.type b.at' = 0) ∧ (ofF P (cJ l) e).2 = 0) := fun h => hc (by rw [← hx]; exact h.2.1 _ (List.getElem_mem hlt))
    rw [hno hn]
    simp -implicitDefEqProofs [lb11_0, hlt, hlti, hx, w1]
    refine aG (iG x.type x.at') (by simp) ?_
    simp -implicitDefEqProofs
    simp -implicitDefEqProofs [hc]
    refine EM ?_
    simp -implicitDefEqProofs
  ·have hil : i = l.length := by omega
   subst hil
   rw [List.take_length] at hN hev
   subst hN
   subst hev
   have hall : ∀ b ∈ l, ck b.type b.at' = 0 := fun b hb => by
    obtain ⟨j, hj, rfl⟩ := List.mem_iff_getElem.1 hb
    exact hck j hj hj
   simp -implicitDefEqProofs [lb11_0]
   refine mH (j := 13) (d' := .sl (em bG (cJ l))) [(q, .arr v 3 (em bG (cJ l)))] [(hid, .map (bR m))] rfl (by simp [frz, look]; rw [List.take_of_length_le (by simp)]) (fun i b hb => ?_) (fun i b hb => ?_) (fun i => ?_) ?_
   ·rw [a8] at hb ⊢
    split at hb
    ·rename_i e; rw [if_pos e]; exact hb
    ·simp [look] at hb
   ·rw [a8, if_neg (by rintro rfl; simp [look, hhq] at hb)]; exact hb
   ·by_cases e : q = i
    ·subst e; exact .inr (by simp [look, hhq])
    ·left; rw [a8, if_neg e]; rfl
   ·simp -implicitDefEqProofs [upd]
    have hof := Of_c P (cJ l) e hPl (by rw [y9]; omega) hs
    simp only [aA] at hof
    refine aG hof (by simp) ?_
    by_cases ho : (ofF P (cJ l) e).2 = 0
    ·simp -implicitDefEqProofs [ho]
     have hR := hyes ⟨hok, hall, ho⟩
     refine aG (wQ e (by omega)) (by simp) ?_
     by_cases h6 : 6 < bI e
     ·rw [if_pos h6] at hR
      rw [hR]
      simp -implicitDefEqProofs [h6]
     ·rw [if_neg h6] at hR
      rw [hR]
      simp -implicitDefEqProofs [h6]
      rcases M6 P (cJ l) e with ⟨_, ht⟩ | h2
      ·have hwl := (GJ (P := P) (env := cJ l) hs ht).1 (by rw [← ho])
       refine aD (v9 e hsg hPT hs ht hwl (EnvR.binds l hall) (by omega) (fun n2 hn2 => ?_))
       simp -implicitDefEqProofs
      ·rw [h2] at ho; simp at ho
    ·rw [hno (fun g => ho g.2.2)]
     simp -implicitDefEqProofs [ho]
set_option maxHeartbeats 4000000
def dZ : List UInt8 := [122, 122]
abbrev c0 : Cx := ⟨0, 0⟩
def tT : Ex := .mk 2 [] [] 0 c0 [] 0
def noX : Ex := .mk 5 [] [] 2 c0 [] 0
def dG : Ex := .mk 1 [] [] 0 ⟨4607182418800017408, 0⟩ [] 0
def eO : Ex := .mk 4 [] [] 0 c0 [] 0
def zzX : Ex := .mk 6 dZ [] 0 c0 [] 0
def dL (u : Int) : Ex := .mk 5 [] [] u c0 [] 0
def oG : Ex := .mk 18 [] [] 0 c0 [dG, eO] 0
def ifX (a b c : Ex) : Ex := .mk 19 [] [] 0 c0 [a, b, c] 0
def kX (u : Int) (a b : Ex) : Ex := .mk 21 dZ [] u c0 [a, b] 0
def lH (u : Int) (a b : Ex) : Ex := .mk 22 dZ [] u c0 [a, b] 0
def kW (a b c : Ex) : Ex := .mk 20 dZ dZ 0 c0 [a, b, c] 0
def kM (a b : Ex) : Ex := .mk 10 [] [] 0 c0 [a, b] 0
def gE (a b : Ex) : Ex := .mk 18 [] [] 0 c0 [a, b] 0
def lG (a : Ex) : Ex := .mk 14 [] [] 0 c0 [a] 0
structure i9 (P : List Fn) (V : List UInt8 → List Int → Int) (env : List Pm) (N : Nls) (E : Ex) (t p : Int) : Prop where
 sh : Sh E
 ty : a_ t
 want : a7 P env E t = []
 nest : bI E ≤ 6
 pt : ptF V E N = p
theorem EG {own : Int} (h : 0 ≤ own) : jK (fun _ => own) 4 0 = own := by
 unfold jK
 by_cases g : own ≤ 0
 ·rw [if_pos g]; omega
 ·rw [if_neg g]
  unfold jK
  rw [if_pos (Int.le_refl _)]
section
variable {P : List Fn} {V : List UInt8 → List Int → Int} {env : List Pm} {N : Nls} {e : Ex} {u own : Int}
theorem IT (x : Pm) (hx : x.name = dZ) : eQ (env ++ [x]) dZ = x.type := by rw [mP, if_pos hx]
theorem CY (x : Pm) (hx : x.name = dZ) : SameE dZ (env ++ [x]) env := fun n hn => by
 rw [mP, if_neg (fun g => hn (by rw [← g, hx]))]
theorem BS (q : Int) : SameN dZ ((dZ, q) :: N) N := fun n hn => by
 show (if dZ = n then q else h_ N n) = h_ N n
 rw [if_neg (fun g => hn g.symm)]
structure Body17 (P : List Fn) (V : List UInt8 → List Int → Int) (env : List Pm) (N : Nls) (e : Ex) (u own : Int) : Prop where
 sh : Sh e
 ty : a_ u
 want : a7 P env e u = []
 nest : bI e ≤ 5
 pt : ptF V e N = own
 pin : Pin u own
 no : noN dZ e
theorem Body17.env1 (b : Body17 P V env N e u own) (x : Pm) (hx : x.name = dZ) : a7 P (env ++ [x]) e u = [] := by
 rw [nY e _ env u b.no (CY x hx)]; exact b.want
theorem Body17.env2 (b : Body17 P V env N e u own) (x y : Pm) (hx : x.name = dZ) (hy : y.name = dZ) : a7 P (env ++ [x, y]) e u = [] := by
 have : env ++ [x, y] = env ++ [x] ++ [y] := by simp
 rw [this, nY e _ (env ++ [x]) u b.no (CY y hy)]; exact b.env1 x hx
theorem Body17.pt1 (b : Body17 P V env N e u own) (q : Int) : ptF V e ((dZ, q) :: N) = own := by
 rw [v8 e b.no (BS q)]; exact b.pt
theorem Body17.pt2 (b : Body17 P V env N e u own) (q r : Int) : ptF V e ((dZ, q) :: (dZ, r) :: N) = own := by
 rw [v8 e b.no (BS q)]; exact b.pt1 r
theorem B8 (b : Body17 P V env N e u own) : i9 P V env N (ifX tT e (dL u)) u own ∧ i9 P V env N (ifX noX e e) u 0 := by
 have h := b.pin
 have hu := b.ty
 unfold Pin at h
 refine ⟨⟨?_, b.ty, ?_, ?_, ?_⟩, ⟨?_, b.ty, ?_, ?_, ?_⟩⟩
 ·have := b.sh; simp [Sh, Shs, ifX, tT, dL, cG, this]; exact hu
 ·simp [a7, bB, ifX, tT, dL, aL, aM, bL, bX, b.want]
 ·have := b.nest; simp [bI, cI, ifX, tT, dL]; omega
 ·simp [ptF, ptI, ifX, tT, dL, b.pt]; omega
 ·have := b.sh; simp [Sh, Shs, ifX, noX, cG, this, a_]
 ·simp [a7, bB, ifX, noX, aL, aM, bL, bX, b.want]
 ·have := b.nest; simp [bI, cI, ifX, noX]; omega
 ·simp [ptF, ptI, ifX, noX]
theorem z9 (b : Body17 P V env N e u own) : i9 P V env N (kX u e zzX) u own ∧ i9 P V env N (kX u (dL u) e) u own := by
 have h := b.pin
 have hu := b.ty
 have hz := IT (env := env) ⟨dZ, u, 0⟩ rfl
 have e1 := b.env1 ⟨dZ, u, 0⟩ rfl
 have p1 := b.pt1
 unfold Pin at h
 refine ⟨⟨?_, b.ty, ?_, ?_, ?_⟩, ⟨?_, b.ty, ?_, ?_, ?_⟩⟩
 ·have := b.sh; simp [Sh, Shs, kX, zzX, cG, this]; exact hu
 ·simp [a7, bB, kX, zzX, aL, aM, bL, bX, e1, hz]
 ·have := b.nest; simp [bI, cI, kX, zzX]; omega
 ·have hc := EG h.1
  simp [ptF, ptI, kX, zzX, p1, hc, h_]
 ·have := b.sh; simp [Sh, Shs, kX, dL, cG, this]; exact hu
 ·simp [a7, bB, kX, dL, aL, aM, bL, bX, e1]
 ·have := b.nest; simp [bI, cI, kX, dL]; omega
 ·simp [ptF, ptI, kX, dL, p1]
theorem AR (b : Body17 P V env N e u own) : i9 P V env N (lH u e dG) 1 (if 0 < own then 1 else 0) ∧ i9 P V env N (lH u (dL u) e) u 0 := by
 have h := b.pin
 have hu := b.ty
 have e1 := b.env1 ⟨dZ, u, 0⟩ rfl
 refine ⟨⟨?_, .inl rfl, ?_, ?_, ?_⟩, ⟨?_, b.ty, ?_, ?_, ?_⟩⟩
 ·have := b.sh; simp [Sh, Shs, lH, dG, cG, this]; exact hu
 ·simp [a7, bB, lH, dG, aL, aM, bL, bX, b.want]
 ·have := b.nest; simp [bI, cI, lH, dG]; omega
 ·simp [ptF, ptI, lH, dG, b.pt]
 ·have := b.sh; simp [Sh, Shs, lH, dL, cG, this]; exact hu
 ·simp [a7, bB, lH, dL, aL, aM, bL, bX, e1]
 ·have := b.nest; simp [bI, cI, lH, dL]; omega
 ·simp [ptF, ptI, lH, dL]
theorem BK (b : Body17 P V env N e u own) : i9 P V env N (kW oG (dL u) e) u own ∧ i9 P V env N (kW eO e (dL u)) u own := by
 have h := b.pin
 have hu := b.ty
 have e2 := b.env2 ⟨dZ, 1, 0⟩ ⟨dZ, 3, 0⟩ rfl rfl
 have p2 := b.pt2
 unfold Pin at h
 refine ⟨⟨?_, b.ty, ?_, ?_, ?_⟩, ⟨?_, b.ty, ?_, ?_, ?_⟩⟩
 ·have := b.sh; simp [Sh, Shs, kW, oG, dG, eO, dL, cG, this]; exact hu
 ·simp [a7, bB, kW, oG, dG, eO, dL, aL, aM, bL, bX, e2]
 ·have := b.nest; simp [bI, cI, kW, oG, dG, eO, dL]; omega
 ·have hl : ptF V oG N = 3 := by simp [ptF, ptL, oG, dG, eO, hZ, cnF]; decide
  simp [ptF, ptI, kW, hl, dL, casF, csF, p2]; omega
 ·have := b.sh; simp [Sh, Shs, kW, eO, dL, cG, this]; exact hu
 ·simp [a7, bB, kW, eO, dL, aL, aM, bL, bX, b.want]
 ·have := b.nest; simp [bI, cI, kW, eO, dL]; omega
 ·simp [ptF, ptI, kW, eO, dL, casF, csF, b.pt]; omega
theorem uD (b : Body17 P V env N e 1 own) : i9 P V env N (kM dG e) 1 own ∧ i9 P V env N (gE e eO) 3 (2 + own) := by
 have h := b.pin
 unfold Pin at h
 rw [tp_1] at h
 refine ⟨⟨?_, .inl rfl, ?_, ?_, ?_⟩, ⟨?_, .inr (.inr rfl), ?_, ?_, ?_⟩⟩
 ·have := b.sh; simp [Sh, Shs, kM, dG, cG, this]
 ·simp [a7, bB, kM, dG, aL, aM, bL, bX, b.want]
 ·have := b.nest; simp [bI, cI, kM, dG]; omega
 ·simp [ptF, ptL, kM, dG, hZ, b.pt]; omega
 ·have := b.sh; simp [Sh, Shs, gE, eO, cG, this]
 ·simp [a7, bB, gE, eO, aL, aM, bL, bX, b.want]
 ·have := b.nest; simp [bI, cI, gE, eO]; omega
 ·simp [ptF, ptL, gE, eO, hZ, cnF, b.pt]; omega
theorem EX (b : Body17 P V env N e 3 own) : i9 P V env N (gE dG e) 3 (max 1 own) := by
 have h := b.pin
 unfold Pin at h
 rw [tQ] at h
 refine ⟨?_, .inr (.inr rfl), ?_, ?_, ?_⟩
 ·have := b.sh; simp [Sh, Shs, gE, dG, cG, this]
 ·simp [a7, bB, gE, dG, aL, aM, bL, bX, b.want]
 ·have := b.nest; simp [bI, cI, gE, dG]; omega
 ·simp [ptF, ptL, gE, dG, hZ, cnF, b.pt]; omega
theorem FT (b : Body17 P V env N e 2 own) : i9 P V env N (lG e) 2 own := by
 have h := b.pin
 unfold Pin at h
 have : tp 2 = 1 := by decide
 rw [this] at h
 refine ⟨?_, .inr (.inl rfl), ?_, ?_, ?_⟩
 ·have := b.sh; simp [Sh, Shs, lG, cG, this]
 ·simp [a7, bB, lG, aL, aM, bL, bX, b.want]
 ·have := b.nest; simp [bI, cI, lG]; omega
 ·simp [ptF, ptL, lG, hZ, b.pt]; omega
end
set_option maxRecDepth 1000000
set_option maxHeartbeats 0
noncomputable def cf46 : Cfg := ⟨Tryz.prog, 39, [0, 1, 2, 3, 4, 5], [13, 21, 37]⟩
noncomputable def lb46_0 : AC :=
 .seq (.ifr [JA 22 4, JG 23 5 1, JD 24 1 23, JO 25 (.len false (.t 24)), JO 26 (.bin .lss 3 (.t 22) (.t 25))] (.t 26) .skip (.exit 0)) (.seq (.block 1 (.seq (.reg [JG 29 5 1, JD 30 1 29, JA 31 4, JL 32 7 30 31, JE 33 7 32, JO 34 (.pc (.f 46) [.t 33]), JB 5 34]) (.reg [JA 35 3, JA 36 5, JO 37 (.app 1 16 [JU] (.t 35) (.t 36)), JB 3 37]))) (.reg [JA 27 4, JO 28 (.bin .add 3 (.t 27) (JT 1)), JB 4 28]))
noncomputable def ac46 : AC :=
 (.seq (.reg [JN 1 0, JP 2 (.mv (.c (.slice none 0 0)))]) (.seq (.reg [JP 3 (.mv (.c (.slice none 0 0)))]) (.seq (.ifr [JG 6 1 1, JD 7 1 6, JO 8 (.bin .neq 9 (.t 7) (.c (JU)))] (.t 8) (.reg [JA 9 3, JG 10 1 1, JD 11 1 10, JO 12 (.bsl 1 1 [JU] [(0, 1, .t 11)]), JO 13 (.app 1 16 [JU] (.t 9) (.t 12)), JB 3 13]) .skip) (.seq (.ifr [JG 14 2 1, JD 15 1 14, JO 16 (.bin .neq 9 (.t 15) (.c (JU)))] (.t 16) (.reg [JA 17 3, JG 18 2 1, JD 19 1 18, JO 20 (.bsl 1 1 [JU] [(0, 1, .t 19)]), JO 21 (.app 1 16 [JU] (.t 17) (.t 20)), JB 3 21]) .skip) (.seq (.seq (.reg [JI 4 0]) (.block 0 (.loop lb46_0))) (.seq (.reg [JA 38 3, JB 2 38]) .ret))))))
theorem fi46 : FI Tryz.prog 46 cf46 ac46 [.t 2] [0, 1, 2, 3, 4, 5] 39 := FI_of (c := Tryz.f46.body.getD .skip) Tryz.func46 (by kernel_rfl) (by rfl) (by rfl) (by kernel_rfl) (by kernel_rfl) rfl rfl rfl
@[simp] theorem cfP46 : cf46.P = Tryz.prog := (rfl)
noncomputable def cf47 : Cfg := ⟨Tryz.prog, 59, [0, 2, 3, 4, 5], [17, 26]⟩
noncomputable def lb47_0 : AC :=
 .seq (.ifr [JA 27 5, JO 28 (.bin .gtr 3 (.t 27) (JT 0)), JC 29 28, JS 30 29 (.mv (.g 3)), JS 31 29 (.mv (.g 5)), JS 32 29 (.bin .sub 3 (.t 31) (JT 1)), JS 33 29 (.ia 1 (.t 30) (.t 32)), JS 34 29 (.ld false 1 (.t 33)), JS 35 29 (.mv (.g 0)), JS 36 29 (.mv (.g 4)), JS 37 29 (.ia 1 (.t 35) (.t 36)), JS 38 29 (.ld false 1 (.t 37)), JS 39 29 (.bin .gtr 9 (.t 34) (.t 38)), JO 40 (.pick (.t 29) (.t 39) JY)] (.t 40) .skip (.exit 2)) (.block 3 (.seq (.reg [JA 41 3, JA 42 5, JA 43 3, JA 44 5, JO 45 (.bin .sub 3 (.t 44) (JT 1)), JL 46 1 43 45, JD 47 1 46, JL 48 1 41 42, JQ (.st 1 (.t 48) (.t 47))]) (.reg [JA 49 5, JO 50 (.bin .sub 3 (.t 49) (JT 1)), JB 5 50])))
noncomputable def lb47_1 : AC :=
 .seq (.ifr [JA 6 4, JA 7 0, JO 8 (.len false (.t 7)), JO 9 (.bin .lss 3 (.t 6) (.t 8))] (.t 9) .skip (.exit 0)) (.seq (.block 1 (.seq (.ifr [JA 12 3, JA 13 0, JA 14 4, JL 15 1 13 14, JD 16 1 15, JO 17 (.cl (.f 17) [.t 12, .t 16])] (.t 17) (.exit 1) .skip) (.seq (.reg [JA 18 3, JO 19 (.len false (.t 18)), JB 5 19]) (.seq (.reg [JA 20 3, JA 21 0, JA 22 4, JL 23 1 21 22, JD 24 1 23, JO 25 (.bsl 1 1 [JU] [(0, 1, .t 24)]), JO 26 (.app 1 16 [JU] (.t 20) (.t 25)), JB 3 26]) (.seq (.block 2 (.loop lb47_0)) (.reg [JA 51 3, JA 52 5, JA 53 0, JA 54 4, JL 55 1 53 54, JD 56 1 55, JL 57 1 51 52, JQ (.st 1 (.t 57) (.t 56))])))))) (.reg [JA 10 4, JO 11 (.bin .add 3 (.t 10) (JT 1)), JB 4 11]))
noncomputable def ac47 : AC :=
 (.seq (.reg [JP 2 (.mv (.c (.slice none 0 0)))]) (.seq (.reg [JP 3 (.mv (.c (.slice none 0 0)))]) (.seq (.seq (.reg [JI 4 0]) (.block 0 (.loop lb47_1))) (.seq (.reg [JA 58 3, JB 2 58]) .ret))))
theorem fi47 : FI Tryz.prog 47 cf47 ac47 [.t 2] [0, 2, 3, 4, 5] 59 := FI_of (c := Tryz.f47.body.getD .skip) Tryz.func47 (by kernel_rfl) (by rfl) (by rfl) (by kernel_rfl) (by kernel_rfl) rfl rfl rfl
@[simp] theorem cfP47 : cf47.P = Tryz.prog := (rfl)
noncomputable def cf16 : Cfg := ⟨Tryz.prog, 32, [0, 1, 2, 3, 4, 5], [8, 24]⟩
noncomputable def lb16_0 : AC :=
 .seq (.ifr [JA 9 4, JG 10 1 1, JD 11 1 10, JO 12 (.len false (.t 11)), JO 13 (.bin .lss 3 (.t 9) (.t 12))] (.t 13) .skip (.exit 0)) (.seq (.block 1 (.reg [JA 16 3, JG 17 1 1, JD 18 1 17, JA 19 4, JL 20 3 18 19, JH 21 0 20, JD 22 1 21, JO 23 (.bsl 1 1 [JU] [(0, 1, .t 22)]), JO 24 (.app 1 16 [JU] (.t 16) (.t 23)), JB 3 24])) (.reg [JA 14 4, JO 15 (.bin .add 3 (.t 14) (JT 1)), JB 4 15]))
noncomputable def ac16 : AC :=
 (.seq (.reg [JN 1 0, JP 2 (.mv (.c (.slice none 0 0)))]) (.seq (.reg [JG 6 0 1, JD 7 1 6, JO 8 (.bso 1 1 [JU] [(0, 1, .t 7)]), JB 3 8]) (.seq (.seq (.reg [JI 4 0]) (.block 0 (.loop lb16_0))) (.seq (.reg [JG 25 3 1, JE 26 7 25, JO 27 (.pc (.f 46) [.t 26]), JB 5 27]) (.seq (.reg [JA 28 3, JA 29 5, JO 30 (.pc (.f 48) [.t 28, .t 29]), JO 31 (.pc (.f 47) [.t 30]), JB 2 31]) .ret)))))
theorem fi16 : FI Tryz.prog 16 cf16 ac16 [.t 2] [0, 1, 2, 3, 4, 5] 32 := FI_of (c := Tryz.f16.body.getD .skip) Tryz.func16 (by kernel_rfl) (by rfl) (by rfl) (by kernel_rfl) (by kernel_rfl) rfl rfl rfl
@[simp] theorem cfP16 : cf16.P = Tryz.prog := (rfl)
set_option maxRecDepth 100000
set_option maxHeartbeats 4000000
def gtB (a b : ByteArray) : Bool := !(Op.bytesLess a.toList b.toList || a.toList == b.toList)
@[simp] theorem bin_gtrT {ty : TypeId} {a b : ByteArray} : bF Tryz.prog .gtr ty (.pl (.string a)) (.pl (.string b)) = some (.pl (.bool (gtB a b))) := by
 have : Sem.look Tryz.prog (binOp .gtr ty (.string a) (.string b)) = some (.bool (gtB a b)) := by
  simp [binOp, Op.stringOp, Sem.look, Pure.pure, gtB]
 simp only [bF, lit, Bool.and_self, if_true, this, Option.map_some]
def gtT (a b : List UInt8) : Bool := gtB (ByteArray.mk (Array.mk a)) (ByteArray.mk (Array.mk b))
mutual
def bD : Ex → List (List UInt8)
 | .mk _ n tl _ _ args _ => ((if n = [] then [] else [n]) ++ (if tl = [] then [] else [tl])) ++ bZ args
def bZ : List Ex → List (List UInt8)
 | [] => []
 | x :: xs => bD x ++ bZ xs
end
mutual
theorem lO : ∀ e : Ex, (bD e).length ≤ 2 * size e
 | .mk op n tl ty z args p => by
  have := sD args
  unfold bD size
  rw [List.length_append, List.length_append]
  split <;> split <;> simp <;> omega
theorem sD : ∀ l : List Ex, (bZ l).length ≤ 2 * aV l
 | [] => by simp [bZ]
 | x :: xs => by
  have h1 := lO x
  have h2 := sD xs
  unfold bZ aV
  rw [List.length_append]; omega
end
theorem kE : ∀ {l : List Ex} {x : Ex}, x ∈ l → size x ≤ aV l
 | y :: ys, x, h => by
  unfold aV
  rcases List.mem_cons.1 h with rfl | h
  ·omega
  ·have := kE h; omega
theorem uT : ∀ (l : List Ex), l.length ≤ aV l
 | [] => by simp [aV]
 | y :: ys => by
  have := uT ys
  have h : 1 ≤ size y := by cases y; unfold size; omega
  unfold aV; simp only [List.length_cons]; omega
def WiC (e : Ex) : Prop := size e ≤ 2 ^ 40 → Pure Tryz.prog 46 [.agg [I e.op, Tx e.name, Tx e.tail, I e.type, CX e.num.re e.num.im, .sl (em aQ e.args), I e.at']] (.sl (em a9 (bD e)))
theorem B1 (op : Int) (n tl : List UInt8) (ty : Int) (z : Cx) (args : List Ex) (p : Int) (ih : ∀ x ∈ args, WiC x) : WiC (.mk op n tl ty z args p) := by
 intro hz
 show Pure Tryz.prog 46 [.agg [I op, Tx n, Tx tl, I ty, CX z.re z.im, .sl (em aQ args), I p]] (.sl (em a9 (bD (.mk op n tl ty z args p))))
 have hRl : (bD (.mk op n tl ty z args p)).length ≤ 2 ^ 41 := by have := lO (.mk op n tl ty z args p); omega
 generalize hR0 : bD (.mk op n tl ty z args p) = R at *
 refine fi46.pu (by simp) ?_
 simp -implicitDefEqProofs [ac46]
 have hsz : aV args ≤ 2 ^ 40 := by unfold size at hz; omega
 have hal := uT args
 by_cases hn : n = []
 ·by_cases ht : tl = []
  ·simp -implicitDefEqProofs [hn, ht]
   have hR : ([] : List (List UInt8)) ++ bZ args = R := by rw [← hR0]; unfold bD; simp [hn, ht]
   refine cW (j := 3) (k := 1) rfl (.inl rfl) ?_
   refine lpG cf46 lb46_0 [3, 4, 5] (α := Nat × Nat × List (List UInt8)) (fun s _ => [(3, .osl 10 s.2.1 0 s.2.2.length), (4, I s.1), (5, .top)]) (fun s _ => [(10, .arr s.2.1 1 (em a9 s.2.2))]) (fun s k => 10 < k ∧ s.1 ≤ args.length ∧ s.2.2 ++ bZ (args.drop s.1) = R) (fun s => args.length - s.1) (0, 0, []) ⟨by omega, by omega, by simpa using hR⟩ (by simp [upd]) (by simp [em, a9]) ?_
   rintro ⟨i, v, l⟩ k ⟨hk, hi, hr⟩
   simp only at hk hi hr
   by_cases hlt : i < args.length
   ·have hlti : (i : Int) < (args.length : Int) := by omega
    have w1 := aS (x := (i : Int) + 1) (by omega) (by omega)
    rw [List.drop_eq_getElem_cons hlt] at hr
    unfold bZ at hr
    obtain ⟨x, hx⟩ : ∃ x, args[i] = x := ⟨_, rfl⟩
    have hxm : x ∈ args := by rw [← hx]; exact List.getElem_mem hlt
    rw [hx, ← List.append_assoc] at hr
    have hc := ih x hxm (by have := (kE hxm); omega)
    have hrl : (l ++ bD x).length ≤ R.length := by rw [← hr]; simp only [List.length_append]; omega
    have b1 : (l.length + (bD x).length) * 16 ≤ 3 * 2 ^ 46 := by rw [List.length_append] at hrl; omega
    have hap : em a9 l ++ em a9 (bD x) = em a9 (l ++ bD x) := by simp [em]
    simp -implicitDefEqProofs [lb46_0, hlti, hlt, hx]
    refine aG hc (by simp) ?_
    simp -implicitDefEqProofs [-els, t_, b1, hap, w1]
    exact aI (i + 1, v + 1, l ++ bD x) ⟨by omega, hlt, hr⟩ (by simp only; omega) (by simp) (aK _)
   ·have hil : i = args.length := by omega
    subst hil
    rw [List.drop_length] at hr
    unfold bZ at hr
    rw [List.append_nil] at hr
    subst hr
    simp -implicitDefEqProofs [lb46_0, frz, look]
    try rw [List.take_of_length_le (by simp)]
  ·simp -implicitDefEqProofs [hn, ht]
   have hR : [tl] ++ bZ args = R := by rw [← hR0]; unfold bD; simp [hn, ht]
   refine lpG cf46 lb46_0 [3, 4, 5] (α := Nat × Nat × List (List UInt8)) (fun s _ => [(3, .osl 13 s.2.1 0 s.2.2.length), (4, I s.1), (5, .top)]) (fun s _ => [(13, .arr s.2.1 1 (em a9 s.2.2))]) (fun s k => 13 < k ∧ s.1 ≤ args.length ∧ s.2.2 ++ bZ (args.drop s.1) = R) (fun s => args.length - s.1) (0, 0, [tl]) ⟨by omega, by omega, by simpa using hR⟩ (by simp [upd]) (by simp [em, a9]) ?_
   rintro ⟨i, v, l⟩ k ⟨hk, hi, hr⟩
   simp only at hk hi hr
   by_cases hlt : i < args.length
   ·have hlti : (i : Int) < (args.length : Int) := by omega
    have w1 := aS (x := (i : Int) + 1) (by omega) (by omega)
    rw [List.drop_eq_getElem_cons hlt] at hr
    unfold bZ at hr
    obtain ⟨x, hx⟩ : ∃ x, args[i] = x := ⟨_, rfl⟩
    have hxm : x ∈ args := by rw [← hx]; exact List.getElem_mem hlt
    rw [hx, ← List.append_assoc] at hr
    have hc := ih x hxm (by have := (kE hxm); omega)
    have hrl : (l ++ bD x).length ≤ R.length := by rw [← hr]; simp only [List.length_append]; omega
    have b1 : (l.length + (bD x).length) * 16 ≤ 3 * 2 ^ 46 := by rw [List.length_append] at hrl; omega
    have hap : em a9 l ++ em a9 (bD x) = em a9 (l ++ bD x) := by simp [em]
    simp -implicitDefEqProofs [lb46_0, hlti, hlt, hx]
    refine aG hc (by simp) ?_
    simp -implicitDefEqProofs [-els, t_, b1, hap, w1]
    exact aI (i + 1, v + 1, l ++ bD x) ⟨by omega, hlt, hr⟩ (by simp only; omega) (by simp) (aK _)
   ·have hil : i = args.length := by omega
    subst hil
    rw [List.drop_length] at hr
    unfold bZ at hr
    rw [List.append_nil] at hr
    subst hr
    simp -implicitDefEqProofs [lb46_0, frz, look]
    try rw [List.take_of_length_le (by simp)]
 ·by_cases ht : tl = []
  ·simp -implicitDefEqProofs [hn, ht]
   have hR : [n] ++ bZ args = R := by rw [← hR0]; unfold bD; simp [hn, ht]
   refine lpG cf46 lb46_0 [3, 4, 5] (α := Nat × Nat × List (List UInt8)) (fun s _ => [(3, .osl 10 s.2.1 0 s.2.2.length), (4, I s.1), (5, .top)]) (fun s _ => [(10, .arr s.2.1 1 (em a9 s.2.2))]) (fun s k => 10 < k ∧ s.1 ≤ args.length ∧ s.2.2 ++ bZ (args.drop s.1) = R) (fun s => args.length - s.1) (0, 0, [n]) ⟨by omega, by omega, by simpa using hR⟩ (by simp [upd]) (by simp [em, a9]) ?_
   rintro ⟨i, v, l⟩ k ⟨hk, hi, hr⟩
   simp only at hk hi hr
   by_cases hlt : i < args.length
   ·have hlti : (i : Int) < (args.length : Int) := by omega
    have w1 := aS (x := (i : Int) + 1) (by omega) (by omega)
    rw [List.drop_eq_getElem_cons hlt] at hr
    unfold bZ at hr
    obtain ⟨x, hx⟩ : ∃ x, args[i] = x := ⟨_, rfl⟩
    have hxm : x ∈ args := by rw [← hx]; exact List.getElem_mem hlt
    rw [hx, ← List.append_assoc] at hr
    have hc := ih x hxm (by have := (kE hxm); omega)
    have hrl : (l ++ bD x).length ≤ R.length := by rw [← hr]; simp only [List.length_append]; omega
    have b1 : (l.length + (bD x).length) * 16 ≤ 3 * 2 ^ 46 := by rw [List.length_append] at hrl; omega
    have hap : em a9 l ++ em a9 (bD x) = em a9 (l ++ bD x) := by simp [em]
    simp -implicitDefEqProofs [lb46_0, hlti, hlt, hx]
    refine aG hc (by simp) ?_
    simp -implicitDefEqProofs [-els, t_, b1, hap, w1]
    exact aI (i + 1, v + 1, l ++ bD x) ⟨by omega, hlt, hr⟩ (by simp only; omega) (by simp) (aK _)
   ·have hil : i = args.length := by omega
    subst hil
    rw [List.drop_length] at hr
    unfold bZ at hr
    rw [List.append_nil] at hr
    subst hr
    simp -implicitDefEqProofs [lb46_0, frz, look]
    try rw [List.take_of_length_le (by simp)]
  ·simp -implicitDefEqProofs [hn, ht]
   have hR : [n, tl] ++ bZ args = R := by rw [← hR0]; unfold bD; simp [hn, ht]
   refine lpG cf46 lb46_0 [3, 4, 5] (α := Nat × Nat × List (List UInt8)) (fun s _ => [(3, .osl 10 s.2.1 0 s.2.2.length), (4, I s.1), (5, .top)]) (fun s _ => [(10, .arr s.2.1 1 (em a9 s.2.2))]) (fun s k => 10 < k ∧ s.1 ≤ args.length ∧ s.2.2 ++ bZ (args.drop s.1) = R) (fun s => args.length - s.1) (0, 1, [n, tl]) ⟨by omega, by omega, by simpa using hR⟩ (by simp [upd]) (by simp [em, a9]) ?_
   rintro ⟨i, v, l⟩ k ⟨hk, hi, hr⟩
   simp only at hk hi hr
   by_cases hlt : i < args.length
   ·have hlti : (i : Int) < (args.length : Int) := by omega
    have w1 := aS (x := (i : Int) + 1) (by omega) (by omega)
    rw [List.drop_eq_getElem_cons hlt] at hr
    unfold bZ at hr
    obtain ⟨x, hx⟩ : ∃ x, args[i] = x := ⟨_, rfl⟩
    have hxm : x ∈ args := by rw [← hx]; exact List.getElem_mem hlt
    rw [hx, ← List.append_assoc] at hr
    have hc := ih x hxm (by have := (kE hxm); omega)
    have hrl : (l ++ bD x).length ≤ R.length := by rw [← hr]; simp only [List.length_append]; omega
    have b1 : (l.length + (bD x).length) * 16 ≤ 3 * 2 ^ 46 := by rw [List.length_append] at hrl; omega
    have hap : em a9 l ++ em a9 (bD x) = em a9 (l ++ bD x) := by simp [em]
    simp -implicitDefEqProofs [lb46_0, hlti, hlt, hx]
    refine aG hc (by simp) ?_
    simp -implicitDefEqProofs [-els, t_, b1, hap, w1]
    exact aI (i + 1, v + 1, l ++ bD x) ⟨by omega, hlt, hr⟩ (by simp only; omega) (by simp) (aK _)
   ·have hil : i = args.length := by omega
    subst hil
    rw [List.drop_length] at hr
    unfold bZ at hr
    rw [List.append_nil] at hr
    subst hr
    simp -implicitDefEqProofs [lb46_0, frz, look]
    try rw [List.take_of_length_le (by simp)]
mutual
theorem zT : ∀ e : Ex, WiC e
 | .mk op n tl ty z args p => B1 op n tl ty z args p (xM args)
theorem xM : ∀ l : List Ex, ∀ x ∈ l, WiC x
 | [], x, h => by simp at h
 | y :: ys, x, h => by
  rcases List.mem_cons.1 h with e | h
  ·rw [e]; exact zT y
  ·exact xM ys x h
end
def gS (s : List UInt8) : List (List UInt8) → Nat → List (List UInt8)
 | l, 0 => l.set 0 s
 | l, k + 1 => if gtT (l[k]?.getD []) s = true then gS s (l.set (k + 1) (l[k]?.getD [])) k else l.set (k + 1) s
def pW (out : List (List UInt8)) (s : List UInt8) : List (List UInt8) := gS s (out ++ [s]) out.length
def fJ : List (List UInt8) → List (List UInt8) → List (List UInt8)
 | [], out => out
 | x :: xs, out => fJ xs (if dR out x = true then out else pW out x)
theorem wU (s : List UInt8) : ∀ (k : Nat) (l : List (List UInt8)), (gS s l k).length = l.length
 | 0, l => by simp [gS]
 | k + 1, l => by
  unfold gS
  split
  ·rw [wU s k]; simp
  ·simp
theorem CS (out : List (List UInt8)) (s : List UInt8) : (pW out s).length = out.length + 1 := by
 unfold pW; rw [wU]; simp
theorem zH : ∀ (l out : List (List UInt8)), (fJ l out).length ≤ l.length + out.length
 | [], out => by simp [fJ]
 | x :: xs, out => by
  unfold fJ
  have := zH xs (if dR out x = true then out else pW out x)
  have h2 : (if dR out x = true then out else pW out x).length ≤ out.length + 1 := by
   split
   ·omega
   ·rw [CS]; omega
  simp only [List.length_cons]; omega
theorem wJ (s y : List UInt8) : ∀ (k : Nat) (l : List (List UInt8)), k < l.length → (y ∈ gS s l k ↔ y = s ∨ ∃ i, i ≠ k ∧ l[i]? = some y)
 | 0, l, h => by
  unfold gS
  rw [List.mem_iff_getElem?]
  constructor
  ·rintro ⟨i, hi⟩
   rw [List.getElem?_set] at hi
   by_cases e : 0 = i
   ·subst e
    rw [if_pos rfl, if_pos h] at hi
    left; simpa using hi.symm
   ·rw [if_neg e] at hi
    exact .inr ⟨i, by omega, hi⟩
  ·rintro (rfl | ⟨i, hi, h2⟩)
   ·exact ⟨0, by rw [List.getElem?_set, if_pos rfl, if_pos h]⟩
   ·exact ⟨i, by rw [List.getElem?_set, if_neg (by omega)]; exact h2⟩
 | k + 1, l, h => by
  unfold gS
  split
  ·rw [wJ s y k _ (by simp; omega)]
   have hk : l[k]? = some (l[k]?.getD []) := by rw [List.getElem?_eq_getElem (by omega)]; rfl
   constructor
   ·rintro (rfl | ⟨i, hi, h2⟩)
    ·exact .inl rfl
    ·rw [List.getElem?_set] at h2
     by_cases e : k + 1 = i
     ·subst e
      rw [if_pos rfl, if_pos h] at h2
      exact .inr ⟨k, by omega, by rw [hk]; exact h2⟩
     ·rw [if_neg e] at h2
      exact .inr ⟨i, by omega, h2⟩
   ·rintro (rfl | ⟨i, hi, h2⟩)
    ·exact .inl rfl
    ·by_cases e : i = k
     ·subst e
      exact .inr ⟨i + 1, by omega, by rw [List.getElem?_set, if_pos rfl, if_pos h, ← hk]; exact h2⟩
     ·exact .inr ⟨i, e, by rw [List.getElem?_set, if_neg (by omega)]; exact h2⟩
  ·rw [List.mem_iff_getElem?]
   constructor
   ·rintro ⟨i, hi⟩
    rw [List.getElem?_set] at hi
    by_cases e : k + 1 = i
    ·subst e
     rw [if_pos rfl, if_pos h] at hi
     left; simpa using hi.symm
    ·rw [if_neg e] at hi
     exact .inr ⟨i, by omega, hi⟩
   ·rintro (rfl | ⟨i, hi, h2⟩)
    ·exact ⟨k + 1, by rw [List.getElem?_set, if_pos rfl, if_pos h]⟩
    ·exact ⟨i, by rw [List.getElem?_set, if_neg (by omega)]; exact h2⟩
theorem NC (out : List (List UInt8)) (s y : List UInt8) : y ∈ pW out s ↔ y = s ∨ y ∈ out := by
 unfold pW
 rw [wJ s y _ _ (by simp), List.mem_iff_getElem?]
 constructor
 ·rintro (h | ⟨i, hi, h⟩)
  ·exact .inl h
  ·by_cases e : i < out.length
   ·rw [List.getElem?_append_left e] at h; exact .inr ⟨i, h⟩
   ·rw [List.getElem?_eq_none (by simp; omega)] at h; simp at h
 ·rintro (h | ⟨i, h⟩)
  ·exact .inl h
  ·have hi := (List.getElem?_eq_some_iff.1 h).1
   exact .inr ⟨i, by omega, by rw [List.getElem?_append_left hi]; exact h⟩
theorem tY : ∀ (l : List (List UInt8)) (n : List UInt8), dR l n = true ↔ n ∈ l
 | [], n => by simp [dR]
 | x :: xs, n => by
  unfold dR
  split
  ·rename_i e; simp [e]
  ·rename_i e
   rw [tY xs n]
   have e2 : ¬ n = x := fun g => e g.symm
   simp [e2]
theorem AY (y : List UInt8) : ∀ (l out : List (List UInt8)), y ∈ fJ l out ↔ y ∈ l ∨ y ∈ out
 | [], out => by simp [fJ]
 | x :: xs, out => by
  unfold fJ
  rw [AY y xs]
  by_cases h : dR out x = true
  ·rw [if_pos h]
   have := (tY out x).1 h
   constructor
   ·rintro (h | h)
    ·exact .inl (by simp [h])
    ·exact .inr h
   ·rintro (h | h)
    ·rcases List.mem_cons.1 h with rfl | h
     ·exact .inr this
     ·exact .inl h
    ·exact .inr h
  ·rw [if_neg h, NC, List.mem_cons]
   constructor
   ·rintro (h | h | h)
    ·exact .inl (.inr h)
    ·exact .inl (.inl h)
    ·exact .inr h
   ·rintro ((h | h) | h)
    ·exact .inr (.inl h)
    ·exact .inl h
    ·exact .inr (.inr h)
theorem IQ (l : List (List UInt8)) (hl : l.length ≤ 2 ^ 39) : Pure Tryz.prog 47 [.sl (em a9 l)] (.sl (em a9 (fJ l []))) := by
 refine fi47.pu (by simp) ?_
 simp -implicitDefEqProofs [ac47]
 generalize hR : fJ l [] = R
 refine cW (j := 3) (k := 1) rfl (.inl rfl) ?_
 refine lpG cf47 lb47_1 [3, 4, 5] (α := Nat × Nat × List (List UInt8)) (fun z _ => [(3, .osl 3 z.2.1 0 z.2.2.length), (4, I z.1), (5, .top)]) (fun z _ => [(3, .arr z.2.1 1 (em a9 z.2.2))]) (fun z k => 3 < k ∧ z.1 ≤ l.length ∧ z.2.2.length ≤ z.1 ∧ fJ (l.drop z.1) z.2.2 = R) (fun z => l.length - z.1) (0, 0, []) ⟨by omega, by omega, by simp, by simpa using hR⟩ (by simp [upd]) (by simp) ?_
 rintro ⟨i, v, out⟩ k ⟨hk, hi, hol, hr⟩
 simp only at hk hi hol hr
 by_cases hlt : i < l.length
 ·have hlti : (i : Int) < (l.length : Int) := by omega
  have w1 := aS (x := (i : Int) + 1) (by omega) (by omega)
  rw [List.drop_eq_getElem_cons hlt] at hr
  unfold fJ at hr
  obtain ⟨x, hx⟩ : ∃ x, l[i] = x := ⟨_, rfl⟩
  rw [hx] at hr
  have hhas := yK out x (by omega)
  simp -implicitDefEqProofs [lb47_1, hlti, hlt, hx]
  refine aD (EB (d0 := .pl (.bool (dR out x))) (mf := [(3, .arr v 1 (em a9 out))]) (args' := [.sl (em a9 out), Tx x]) rfl (aF _) (by simp [gL, frz, look, List.take_of_length_le]) hhas ?_)
  by_cases hh : dR out x = true
  ·rw [if_pos hh] at hr
   simp -implicitDefEqProofs [hh, w1]
   exact aI (i + 1, v, out) ⟨by omega, hlt, by simp only; omega, hr⟩ (by simp only; omega) (by simp) (aK _)
  ·rw [if_neg hh] at hr
   have b1 : (out.length + 1) * 16 ≤ 3 * 2 ^ 46 := by omega
   have hap : em a9 out ++ [[Tx x]] = em a9 (out ++ [x]) := fP (enc := a9) (x := x)
   simp -implicitDefEqProofs [hh, hlti, hlt, hx, b1, hap]
   have hins : gS x (out ++ [x]) out.length = pW out x := rfl
   generalize hI : pW out x = In at *
   refine lpG cf47 lb47_0 [5] (α := Nat × List (List UInt8)) (fun z _ => [(5, I z.1)]) (fun z _ => [(3, .arr (v + 1) 1 (em a9 z.2))]) (fun z k => 3 < k ∧ z.1 ≤ out.length ∧ z.2.length = out.length + 1 ∧ gS x z.2 z.1 = In) (fun z => z.1) (out.length, out ++ [x]) ⟨by omega, by omega, by simp, hins⟩ (by simp) (by simp) ?_
   rintro ⟨j, c⟩ k2 ⟨hk2, hj, hcl, hs⟩
   simp only at hk2 hj hcl hs
   have hlen : In.length = out.length + 1 := by rw [← hI, CS]
   cases j with
   | zero =>
    unfold gS at hs
    have hc0 : 0 < c.length := by omega
    simp -implicitDefEqProofs [lb47_0, hlti, hlt, hx, hcl, hc0, a9, w1]
    rw [show (em a9 c).set 0 [Tx x] = em a9 (c.set 0 x) from rB (enc := a9) (x := x), hs]
    rw [← hlen]
    exact aI (i + 1, v + 1, In) ⟨by omega, hlt, by simp only; omega, hr⟩ (by simp only; omega) (by simp) (aK _)
   | succ j =>
    unfold gS at hs
    have hjc : j < c.length := by omega
    have hjo : j < out.length + 1 := by omega
    have hjo2 : j + 1 < out.length + 1 := by omega
    have hji : (j : Int) < (out.length : Int) + 1 := by omega
    have hji2 : (j : Int) < (out.length : Int) := by omega
    have w3 : ((j + 1 : Nat) : Int) - 1 = j := by omega
    have w4 := aS (x := (j : Int)) (by omega) (by omega)
    obtain ⟨y, hy⟩ : ∃ y, c[j] = y := ⟨_, rfl⟩
    rw [List.getElem?_eq_getElem hjc, hy] at hs
    simp only [Option.getD_some] at hs
    by_cases hg : gtT y x = true
    ·rw [if_pos hg] at hs
     have hg2 : gtB (ByteArray.mk (Array.mk y)) (ByteArray.mk (Array.mk x)) = true := hg
     simp -implicitDefEqProofs [lb47_0, hlti, hlt, hx, hcl, hjc, hjo, hjo2, hji, hji2, hy, hg2, w1, w3, w4, a9]
     refine ⟨by omega, ?_⟩
     rw [show (em a9 c).set (j + 1) [Tx y] = em a9 (c.set (j + 1) y) from rB (enc := a9) (x := y)]
     exact aI (j, c.set (j + 1) y) ⟨by omega, by simp only; omega, by simp only [List.length_set]; omega, hs⟩ (by simp only; omega) (by simp) (aK _)
    ·rw [if_neg hg] at hs
     have hg2 : gtB (ByteArray.mk (Array.mk y)) (ByteArray.mk (Array.mk x)) = false := by simpa [gtT] using hg
     simp -implicitDefEqProofs [lb47_0, hlti, hlt, hx, hcl, hjc, hjo, hjo2, hji, hji2, hy, hg2, w1, w3, w4, a9]
     refine ⟨by omega, ?_⟩
     rw [show (em a9 c).set (j + 1) [Tx x] = em a9 (c.set (j + 1) x) from rB (enc := a9) (x := x), hs]
     rw [← hlen]
     exact aI (i + 1, v + 1, In) ⟨by omega, hlt, by simp only; omega, hr⟩ (by simp only; omega) (by simp) (aK _)
 ·have hil : i = l.length := by omega
  subst hil
  rw [List.drop_length] at hr
  unfold fJ at hr
  subst hr
  simp -implicitDefEqProofs [lb47_1, frz, look]
  try rw [List.take_of_length_le (by simp)]
def p_ (f : Fn) : List (List UInt8) := (f.name :: f.params.map Pm.name) ++ bD f.body
theorem LB (f : Fn) (hz : size f.body ≤ 2 ^ 37) (hp : f.params.length ≤ 2 ^ 37) : Pure Tryz.prog 16 [.agg [Tx f.name, .sl (em bG f.params), I f.type, I f.body.op, Tx f.body.name, Tx f.body.tail, I f.body.type, CX f.body.num.re f.body.num.im, .sl (em aQ f.body.args), I f.body.at', I f.at']] (.sl (em a9 (fJ (p_ f) []))) := by
 refine fi16.pu (by simp) ?_
 simp -implicitDefEqProofs [ac16]
 refine jD ?_
 refine lpG cf16 lb16_0 [3, 4] (α := Nat × Nat × List (List UInt8)) (fun z _ => [(3, .osl 4 z.2.1 0 z.2.2.length), (4, I z.1)]) (fun z _ => [(4, .arr z.2.1 1 (em a9 z.2.2))]) (fun z k => 4 < k ∧ z.1 ≤ f.params.length ∧ z.2.2 = f.name :: (f.params.map Pm.name).take z.1) (fun z => f.params.length - z.1) (0, 0, [f.name]) ⟨by omega, by omega, by simp⟩ (by simp) (by simp [em, a9]) ?_
 rintro ⟨i, v, l⟩ k ⟨hk, hi, hl⟩
 simp only at hk hi hl
 have hll : l.length = i + 1 := by rw [hl]; simp; omega
 by_cases hlt : i < f.params.length
 ·have hlti : (i : Int) < (f.params.length : Int) := by omega
  have w1 := aS (x := (i : Int) + 1) (by omega) (by omega)
  obtain ⟨x, hx⟩ : ∃ x, f.params[i] = x := ⟨_, rfl⟩
  have hnext : l ++ [x.name] = f.name :: (f.params.map Pm.name).take (i + 1) := by
   rw [List.take_add_one, List.getElem?_map, List.getElem?_eq_getElem hlt, hx, hl]; rfl
  have b1 : (l.length + 1) * 16 ≤ 3 * 2 ^ 46 := by omega
  have hap : em a9 l ++ [[Tx x.name]] = em a9 (l ++ [x.name]) := fP (enc := a9) (x := x.name)
  simp -implicitDefEqProofs [lb16_0, hlti, hlt, hx, b1, hap, w1]
  exact aI (i + 1, v + 1, l ++ [x.name]) ⟨by omega, hlt, hnext⟩ (by simp only; omega) (by simp) (aK _)
 ·have hil : i = f.params.length := by omega
  subst hil
  rw [List.take_of_length_le (by simp)] at hl
  have hwl := lO f.body
  simp -implicitDefEqProofs [lb16_0]
  refine HR (j := 3) (d := .osl 4 v 0 l.length) (d' := .sl (em a9 l)) rfl (by simp [frz, look, List.take_of_length_le]) ?_
  simp -implicitDefEqProofs [upd]
  refine aG (zT f.body (by omega)) (by simp) ?_
  simp -implicitDefEqProofs
  refine aG (GT l (bD f.body) (by omega) (by omega)) (by simp) ?_
  simp -implicitDefEqProofs
  refine aG (IQ (l ++ bD f.body) (by rw [List.length_append]; omega)) (by simp) ?_
  have : l ++ bD f.body = p_ f := by rw [hl]; rfl
  simp -implicitDefEqProofs [this]
set_option maxRecDepth 1000000
set_option maxHeartbeats 0
noncomputable def cf76 : Cfg := ⟨Tryz.prog, 17, [0, 1, 2, 6, 7], [10, 16]⟩
@[simp] theorem cfP76 : cf76.P = Tryz.prog := (rfl)
noncomputable def cf107 : Cfg := ⟨Tryz.prog, 17, [0, 1, 2, 4, 5], []⟩
@[simp] theorem cfP107 : cf107.P = Tryz.prog := (rfl)
noncomputable def cf32 : Cfg := ⟨Tryz.prog, 22, [0, 1, 2, 3, 4], [20]⟩
noncomputable def lb32_0 : AC :=
 .seq (.ifr [JA 5 4, JG 6 1 1, JD 7 1 6, JO 8 (.len false (.t 7)), JO 9 (.bin .lss 3 (.t 5) (.t 8))] (.t 9) .skip (.exit 0)) (.seq (.block 1 (.reg [JA 12 3, JG 13 1 1, JD 14 1 13, JA 15 4, JL 16 3 14 15, JH 17 1 16, JD 18 1 17, JO 19 (.bsl 1 1 [JV] [(0, 1, .t 18)]), JO 20 (.app 1 8 [JV] (.t 12) (.t 19)), JB 3 20])) (.reg [JA 10 4, JO 11 (.bin .add 3 (.t 10) (JT 1)), JB 4 11]))
noncomputable def ac32 : AC :=
 (.seq (.reg [JN 1 0, JP 2 (.mv (.c (.slice none 0 0)))]) (.seq (.reg [JP 3 (.mv (.c (.slice none 0 0)))]) (.seq (.seq (.reg [JI 4 0]) (.block 0 (.loop lb32_0))) (.seq (.reg [JA 21 3, JB 2 21]) .ret))))
theorem fi32 : FI Tryz.prog 32 cf32 ac32 [.t 2] [0, 1, 2, 3, 4] 22 := FI_of (c := Tryz.f32.body.getD .skip) Tryz.func32 (by kernel_rfl) (by rfl) (by rfl) (by kernel_rfl) (by kernel_rfl) rfl rfl rfl
@[simp] theorem cfP32 : cf32.P = Tryz.prog := (rfl)
noncomputable def cf43 : Cfg := ⟨Tryz.prog, 155, [0, 1, 2, 4, 6, 7, 8, 9, 10, 11, 12, 13, 14, 15, 16, 18, 19], [150]⟩
@[simp] theorem cfP43 : cf43.P = Tryz.prog := (rfl)
noncomputable def cf75 : Cfg := ⟨Tryz.prog, 62, [0, 1, 2, 4, 6, 7, 8, 9, 10, 11, 12], []⟩
@[simp] theorem cfP75 : cf75.P = Tryz.prog := (rfl)
noncomputable def cf77 : Cfg := ⟨Tryz.prog, 72, [0, 1, 2, 4, 6, 7, 8, 10, 11, 13], []⟩
@[simp] theorem cfP77 : cf77.P = Tryz.prog := (rfl)
noncomputable def cf40 : Cfg := ⟨Tryz.prog, 96, [0, 1, 2, 4, 5, 6, 7, 8, 9, 10, 11, 12], [27, 92]⟩
@[simp] theorem cfP40 : cf40.P = Tryz.prog := (rfl)
noncomputable def cf12 : Cfg := ⟨Tryz.prog, 74, [0, 1, 2, 3, 4, 7, 8, 9, 10, 11, 12, 13, 14, 15, 17], [49, 57]⟩
@[simp] theorem cfP12 : cf12.P = Tryz.prog := (rfl)
noncomputable def cf20 : Cfg := ⟨Tryz.prog, 57, [0, 1, 2, 3, 4, 8, 9, 10, 11, 13], []⟩
@[simp] theorem cfP20 : cf20.P = Tryz.prog := (rfl)
noncomputable def cf52 : Cfg := ⟨Tryz.prog, 43, [0, 1, 2, 6, 7, 8, 9], [37]⟩
@[simp] theorem cfP52 : cf52.P = Tryz.prog := (rfl)
noncomputable def cf56 : Cfg := ⟨Tryz.prog, 47, [0, 1, 4, 5, 6, 7, 8, 10], [45]⟩
@[simp] theorem cfP56 : cf56.P = Tryz.prog := (rfl)
noncomputable def cf22 : Cfg := ⟨Tryz.prog, 54, [0, 1, 2, 3, 6, 7, 8, 9], []⟩
@[simp] theorem cfP22 : cf22.P = Tryz.prog := (rfl)
noncomputable def cf42 : Cfg := ⟨Tryz.prog, 23, [0, 1, 2, 3, 5, 6, 7, 8, 9], []⟩
@[simp] theorem cfP42 : cf42.P = Tryz.prog := (rfl)
set_option maxRecDepth 100000
set_option maxHeartbeats 4000000
def encX (x : List UInt8 × Int) : List D := [Tx x.1, I x.2]
def fG (f : Fn) : List Int := f.params.map Pm.type
theorem L3 (f : Fn) (hl : f.params.length < 2 ^ 40) : Pure Tryz.prog 32 [.agg (aY f)] (.sl (em bH (fG f))) := by
 refine fi32.pu (by simp [aR]) ?_
 simp -implicitDefEqProofs [ac32, aR]
 refine cW (j := 3) (k := 1) rfl (.inl rfl) ?_
 refine lpG cf32 lb32_0 [3, 4] (α := Nat × Nat) (fun s _ => [(3, .osl 4 s.2 0 s.1), (4, I s.1)]) (fun s _ => [(4, .arr s.2 1 (em bH ((fG f).take s.1)))]) (fun s k => 4 < k ∧ s.1 ≤ f.params.length) (fun s => f.params.length - s.1) (0, 0) ⟨by omega, by simp⟩ (by simp [upd]) (by simp) ?_
 rintro ⟨i, v⟩ k ⟨hk, hi⟩
 simp only at hi hk
 have hle : ((fG f).take i).length = i := by rw [List.length_take]; simp [fG]; omega
 by_cases hlt : i < f.params.length
 ·have w1 := aS (x := (i : Int) + 1) (by omega) (by omega)
  obtain ⟨x, hx⟩ : ∃ x, f.params[i] = x := ⟨_, rfl⟩
  have hnext : (fG f).take i ++ [x.type] = (fG f).take (i + 1) := by
   rw [List.take_add_one, fG, List.getElem?_map, List.getElem?_eq_getElem hlt, hx]; rfl
  have e1 : em bH ((fG f).take i) ++ [[I x.type]] = em bH ((fG f).take (i + 1)) := by rw [← hnext]; exact fP (enc := bH)
  have b1 : (i + 1) * 8 ≤ 3 * 2 ^ 46 := by omega
  have e3 : (em bH ((fG f).take i)).take i = em bH ((fG f).take i) := List.take_of_length_le (by simp [em]; omega)
  simp -implicitDefEqProofs [lb32_0, hlt, hx, w1, hle, b1, e1, e3]
  exact aI (i + 1, v + 1) ⟨by omega, hlt⟩ (by simp only; omega) (by simp) (by simp)
 ·have hil : i = f.params.length := by omega
  subst hil
  have e4 : (fG f).take f.params.length = fG f := List.take_of_length_le (by simp [fG])
  simp -implicitDefEqProofs [lb32_0, hle, e4]
  simp [fG]
def encQ (x : Tt) : List D := [.sl (em bH (cl x.n x.l))]
abbrev rsD (P : List Fn) (T : List Tt) : D := .pt [.sl (em aY P), .sl (em encQ T)]
set_option maxHeartbeats 8000000
abbrev nmD (N : Nls) : D := .sl (em encX N.reverse)
structure RPts (P : List Fn) (T : List Tt) (env : List Pm) (N0 : Nat) (op : Int) (n tl : List UInt8) (ty t : Int) (args : List Ex) : Prop where
 c : ∀ k (hk : k < args.length) ⦃env' : List Pm⦄ ⦃M : Nls⦄, aM env op n tl ty k = env' → EnvR env' M → M.length ≤ N0 + 2 → a_ (aL P op n ty k t) → Pure Tryz.prog 43 [rsD P T, exD args[k], nmD M] (I (ptI (aZ P T) args k M))
 i : ∀ k, k < args.length → ∀ ⦃env' : List Pm⦄ ⦃M : Nls⦄, aM env op n tl ty k = env' → EnvR env' M → a_ (aL P op n ty k t) → Pin (aL P op n ty k t) (ptI (aZ P T) args k M)
abbrev nR (P : List Fn) (i : Int) : Fn := P[i.toNat]?.getD default
abbrev b8 (f : Fn) : List Int := f.params.map Pm.type
def kY (P : List Fn) (T : List Tt) (f : Fn) (tu : List Int) : Int := ptF (aZ P T) f.body (nmF f.params tu)
open Classical in
noncomputable def jY (P : List Fn) (T : List Tt) (i : Int) (tu : List Int) : Int × Int :=
 if SeeOk P T then (if i < 0 ∨ (P.length : Int) ≤ i then (0, 2) else if (fI (b8 (nR P i)) tu).2 ≠ 0 then (0, (fI (b8 (nR P i)) tu).2) else if 6 < bI (nR P i).body then (0, 23) else (kY P T (nR P i) tu, 0)) else (0, 3)
theorem see_fn {P : List Fn} {T : List Tt} (hk : dT P) (hok : SeeOk P T) {i : Int} (h0 : 0 ≤ i) (hlt : i < P.length) : ∃ f, P[i.toNat]? = some f ∧ nR P i = f ∧ f ∈ P ∧ a7 P f.params f.body f.type = [] ∧ size f.body ≤ 2 ^ 37 ∧ f.params.length ≤ 2 ^ 37 ∧ Sh f.body ∧ a_ f.type ∧ okT (b8 f) ∧ (dI (b8 f)).2 = 0 := by
 have hl : i.toNat < P.length := by omega
 obtain ⟨hPT, hPl, hsz⟩ := jT hk
 have hm := List.getElem_mem hl
 have hfit := hok.2.2 i.toNat hl
 have he := List.getElem?_eq_getElem hl
 refine ⟨P[i.toNat], he, by unfold nR; rw [he]; rfl, hm, (pL hok.1).2 _ hm, (hsz _ hm).1, (hsz _ hm).2.1, (hsz _ hm).2.2, (hPT _ hm).1, ?_⟩
 rw [he] at hfit
 obtain ⟨h1, h2, h3⟩ := hfit
 have h4 := h1.1
 rw [h3] at h4
 exact ⟨(kR h4).1, h4⟩
theorem KZ {P : List Fn} {T : List Tt} (hk : dT P) (hT : T.length < 2 ^ 44) (hw : TW T) (i : Int) (tu : List Int) (hu : tu.length < 2 ^ 48) :
  Pure Tryz.prog 19 [.agg [.sl (em aY P)], .sl (em fQ T), I i, .sl (em bH tu)] (.tup [I (jY P T i tu).1, I (jY P T i tu).2]) := by
 obtain ⟨hPT, hPl, hsz⟩ := jT hk
 refine fi19.pu (by simp) ?_
 simp -implicitDefEqProofs [ac19]
 have hno : ¬ SeeOk P T → jY P T i tu = (0, 3) := fun h => by unfold jY; exact if_neg h
 have hyes : SeeOk P T → jY P T i tu = (if i < 0 ∨ (P.length : Int) ≤ i then (0, 2) else if (fI (b8 (nR P i)) tu).2 ≠ 0 then (0, (fI (b8 (nR P i)) tu).2) else if 6 < bI (nR P i).body then (0, 23) else (kY P T (nR P i) tu, 0)) := fun h => by unfold jY; exact if_pos h
 generalize jY P T i tu = R at *
 refine aD (see_c hk hT hw (fun h n1 hn1 => ?_) (fun hok hid m n1 h0 hn1 hsg => ?_))
 ·rw [hno h]
  simp -implicitDefEqProofs
 ·have hR := hyes hok
  clear hyes hno
  by_cases hi0 : i < 0
  ·rw [if_pos (.inl hi0)] at hR
   rw [hR]
   simp -implicitDefEqProofs [hi0]
  ·by_cases hil : (P.length : Int) ≤ i
   ·rw [if_pos (.inr hil)] at hR
    rw [hR]
    simp -implicitDefEqProofs [hi0, hil]
   ·rw [if_neg (by omega)] at hR
    have hi1 : 0 ≤ i := by omega
    have hi2 : i < (P.length : Int) := by omega
    have hi3 : i.toNat < P.length := by omega
    have hi4 : i < (T.length : Int) := by rw [hok.2.1]; exact hi2
    have hi5 : i.toNat < T.length := by omega
    obtain ⟨f, hf, hfa, hfm, hwl, hs1, hs2, hs3, hty, hokT, hcnt⟩ := see_fn hk hok hi1 hi2
    have hf2 : P[i.toNat] = f := by rw [List.getElem?_eq_getElem hi3] at hf; simpa using hf
    obtain ⟨x, hx⟩ : ∃ x, T[i.toNat] = x := ⟨_, rfl⟩
    have hfit := hok.2.2 i.toNat hi3
    rw [hf, List.getElem?_eq_getElem hi5, hx] at hfit
    obtain ⟨_, _, hps⟩ := hfit
    simp only [Option.getD_some] at hps
    rw [hfa] at hR
    simp -implicitDefEqProofs [hi0, hil, hi1, hi2, hi3, hi4, hi5, hf2, hx, EF, hps]
    refine aG (yV (b8 f) tu (by simp; omega) hu) (by simp) ?_
    by_cases hnum : (fI (b8 f) tu).2 = 0
    ·rw [if_neg (by simpa using hnum)] at hR
     simp -implicitDefEqProofs [hnum, hi1, hi2, hi3, hf2]
     refine aG (wQ f.body (by omega)) (by simp) ?_
     by_cases h6 : 6 < bI f.body
     ·rw [if_pos h6] at hR
      rw [hR]
      simp -implicitDefEqProofs [h6]
     ·rw [if_neg h6] at hR
      rw [hR]
      simp -implicitDefEqProofs [h6]
      have hin : inT (b8 f) tu = true := by
       unfold fI at hnum
       rw [if_neg (by simpa using hcnt)] at hnum
       split at hnum
       ·simp at hnum
       ·split at hnum
        ·assumption
        ·simp at hnum
      refine aD (body_c i f tu hsg hPT hi1 hi3 hf2 hs3 hwl (by omega) (by omega) hin (fun n2 hn2 => ?_))
      simp -implicitDefEqProofs [kY]
    ·rw [if_pos (by simpa using hnum)] at hR
     rw [hR]
     simp -implicitDefEqProofs [hnum]
theorem kD {P : List Fn} (h : dT P) : P.length ≤ 2 ^ 21 ∧ ∀ f ∈ P, size f.body ≤ 2 ^ 21 ∧ f.params.length ≤ 2 ^ 21 := by
 obtain ⟨ms, a, b, _, hl, hr, hb, hF, _⟩ := h
 obtain ⟨k1, k2⟩ := mL P a b hF
 exact ⟨by omega, fun f hf => by have := k2 f hf; omega⟩
theorem tys_c {P : List Fn} {f : Fn} (hk : dT P) (hf : f ∈ P) : Pure Tryz.prog 32 [.agg [Tx f.name, .sl (em bG f.params), I f.type, I f.body.op, Tx f.body.name, Tx f.body.tail, I f.body.type, CX f.body.num.re f.body.num.im, .sl (em aQ f.body.args), I f.body.at', I f.at']] (.sl (em bH (b8 f))) := by
 have h := L3 f (by have := ((kD hk).2 f hf).2; omega)
 rw [aR] at h
 exact h
set_option maxRecDepth 1000000
set_option maxHeartbeats 0
noncomputable def cf9 : Cfg := ⟨Tryz.prog, 55, [0, 2, 3, 4, 5, 6, 7, 8], []⟩
noncomputable def lb9_0 : AC :=
 .seq (.ifr [JA 30 6, JG 31 0 4, JD 32 1 31, JO 33 (.len false (.t 32)), JO 34 (.bin .lss 3 (.t 30) (.t 33))] (.t 34) .skip (.exit 0)) (.seq (.block 1 (.seq (.reg [JG 38 0 4, JD 39 1 38, JA 40 6, JL 41 11 39 40, JE 42 11 41, JO 43 (.pc (.f 32) [.t 42]), JO 44 (.pc (.f 31) [.t 43]), JC 37 44, JK 45 0 37, JK 46 1 37, JB 7 45, JB 8 46]) (.ifr [JA 47 8, JO 48 (.bin .neq 3 (.t 47) (JT 0)), JC 49 48, JR 50 49 (.mv (.g 7)), JR 51 49 (.bin .gtr 3 (.t 50) (JT 256)), JO 52 (.pick (.t 49) JX (.t 51))] (.t 52) (.seq (.reg [JF 53 1 4, JQ (.st 1 (.g 2) (.t 53)), JP 3 (.mv JY)]) .ret) .skip))) (.reg [JA 35 6, JO 36 (.bin .add 3 (.t 35) (JT 1)), JB 6 36]))
noncomputable def ac9 : AC :=
 (.seq (.reg [JP 2 (.al [JW]), JP 3 (.mv JY)]) (.seq (.reg [JA 10 0, JO 11 (.pc (.f 30) []), JO 12 (.pc (.f 29) [.t 10, .t 11]), JC 9 12, JK 13 0 9, JK 14 1 9, JP 4 (.al [JW]), JP 5 (.al [JV, JV]), JQ (.st 1 (.g 4) (.t 13)), JQ (.st 2 (.g 5) (.t 14))]) (.seq (.ifr [JG 15 0 5, JD 16 1 15, JO 17 (.bin .neq 52 (.t 16) (JT 0)), JC 18 17, JR 19 18 (.fa 0 (.g 4)), JR 20 18 (.ld false 1 (.t 19)), JR 21 18 (.len false (.t 20)), JR 22 18 (.bin .gtr 3 (.t 21) (JT 40)), JO 23 (.pick (.t 18) JX (.t 22)), JC 24 23, JR 25 24 (.mv (.g 0)), JR 26 24 (.len false (.t 25)), JR 27 24 (.bin .gtr 3 (.t 26) (JT 8192)), JO 28 (.pick (.t 24) JX (.t 27))] (.t 28) (.seq (.reg [JF 29 1 4, JQ (.st 1 (.g 2) (.t 29)), JP 3 (.mv JY)]) .ret) .skip) (.seq (.seq (.reg [JI 6 0]) (.block 0 (.loop lb9_0))) (.seq (.reg [JF 54 1 4, JQ (.st 1 (.g 2) (.t 54)), JP 3 (.mv JX)]) .ret)))))
theorem fi9 : FI Tryz.prog 9 cf9 ac9 [.c 2 true 1, .t 3] [0, 2, 3, 4, 5, 6, 7, 8] 55 := FI_of (c := Tryz.f9.body.getD .skip) Tryz.func9 (by kernel_rfl) (by rfl) (by rfl) (by kernel_rfl) (by kernel_rfl) rfl rfl rfl
@[simp] theorem cfP9 : cf9.P = Tryz.prog := (rfl)
noncomputable def cf10 : Cfg := ⟨Tryz.prog, 78, [0, 1, 2, 4, 5, 6, 7, 8, 9, 11, 12], [32, 74, 76]⟩
noncomputable def lb10_0 : AC :=
 .seq (.ifr [JA 33 12, JA 34 9, JO 35 (.bin .lss 3 (.t 33) (.t 34)), JC 36 35, JS 37 36 (.mv (.g 1)), JS 38 36 (.len false (.t 37)), JS 39 36 (.bin .gtr 3 (.t 38) (JT 0)), JO 40 (.pick (.t 36) (.t 39) JY)] (.t 40) .skip (.exit 2)) (.seq (.block 3 (.seq (.reg [JA 43 11, JA 44 12, JA 45 1, JA 46 6, JA 47 1, JO 48 (.len false (.t 47)), JO 49 (.bin .rem 3 (.t 46) (.t 48)), JL 50 1 45 49, JD 51 1 50, JO 52 (.cv 5 3 (.t 51)), JG 53 0 2, JD 54 1 53, JA 55 7, JL 56 11 54 55, JH 57 2 56, JD 58 1 57, JO 59 (.pc (.f 33) [.t 58]), JO 60 (.bin .add 3 (.t 59) (JT 1)), JO 61 (.bin .rem 3 (.t 52) (.t 60)), JL 62 1 43 44, JQ (.st 1 (.t 62) (.t 61))]) (.reg [JA 63 6, JO 64 (.bin .add 3 (.t 63) (JT 1)), JB 6 64]))) (.reg [JA 41 12, JO 42 (.bin .add 3 (.t 41) (JT 1)), JB 12 42]))
noncomputable def lb10_1 : AC :=
 .seq (.ifr [JA 13 7, JG 14 0 2, JD 15 1 14, JO 16 (.len false (.t 15)), JO 17 (.bin .lss 3 (.t 13) (.t 16))] (.t 17) .skip (.exit 0)) (.seq (.block 1 (.seq (.reg [JG 20 0 2, JD 21 1 20, JA 22 7, JL 23 11 21 22, JE 24 11 23, JO 25 (.pc (.f 32) [.t 24]), JB 8 25]) (.seq (.reg [JA 27 8, JO 28 (.pc (.f 31) [.t 27]), JC 26 28, JK 29 0 26, JK 30 1 26, JB 9 29, JC 10 30]) (.seq (.reg [JA 31 9, JO 32 (.mks 1 8 [JV] (.t 31)), JB 11 32]) (.seq (.seq (.reg [JI 12 0]) (.block 2 (.loop lb10_0))) (.reg [JA 65 5, JA 66 8, JG 67 0 2, JD 68 1 67, JA 69 7, JL 70 11 68 69, JH 71 2 70, JD 72 1 71, JA 73 11, JO 74 (.cl (.f 34) [.t 66, .t 72, .t 73]), JO 75 (.bsl 4 1 [JW, JV, JV, JW] [(0, 4, .t 74)]), JO 76 (.app 4 64 [JW, JV, JV, JW] (.t 65) (.t 75)), JB 5 76])))))) (.reg [JA 18 7, JO 19 (.bin .add 3 (.t 18) (JT 1)), JB 7 19]))
noncomputable def ac10 : AC :=
 (.seq (.reg [JN 2 0, JP 4 (.mv (.c (.slice none 0 0)))]) (.seq (.reg [JP 5 (.mv (.c (.slice none 0 0)))]) (.seq (.reg [JI 6 0]) (.seq (.seq (.reg [JI 7 0]) (.block 0 (.loop lb10_1))) (.seq (.reg [JA 77 5, JB 4 77]) .ret)))))
theorem fi10 : FI Tryz.prog 10 cf10 ac10 [.t 4] [0, 1, 2, 4, 5, 6, 7, 8, 9, 11, 12] 78 := FI_of (c := Tryz.f10.body.getD .skip) Tryz.func10 (by kernel_rfl) (by rfl) (by rfl) (by kernel_rfl) (by kernel_rfl) rfl rfl rfl
@[simp] theorem cfP10 : cf10.P = Tryz.prog := (rfl)
noncomputable def cf8 : Cfg := ⟨Tryz.prog, 62, [0, 1, 3, 4, 5, 6, 7, 8, 9], [11, 12]⟩
noncomputable def ac8 : AC :=
 (.seq (.reg [JP 0 (.mv JY)]) (.seq (.reg [JO 11 (.bso 1 60 [.int .u8 0] [(0, 1, .c (.int .u8 103)), (1, 1, .c (.int .u8 40)), (2, 1, .c (.int .u8 108)), (3, 1, .c (.int .u8 32)), (4, 1, .c (.int .u8 76)), (5, 1, .c (.int .u8 41)), (6, 1, .c (.int .u8 58)), (7, 1, .c (.int .u8 76)), (8, 1, .c (.int .u8 61)), (9, 1, .c (.int .u8 108)), (10, 1, .c (.int .u8 59)), (11, 1, .c (.int .u8 102)), (12, 1, .c (.int .u8 40)), (13, 1, .c (.int .u8 108)), (14, 1, .c (.int .u8 32)), (15, 1, .c (.int .u8 76)), (16, 1, .c (.int .u8 41)), (17, 1, .c (.int .u8 58)), (18, 1, .c (.int .u8 78)), (19, 1, .c (.int .u8 61)), (20, 1, .c (.int .u8 99)), (21, 1, .c (.int .u8 97)), (22, 1, .c (.int .u8 115)), (23, 1, .c (.int .u8 101)), (24, 1, .c (.int .u8 32)), (25, 1, .c (.int .u8 108)), (26, 1, .c (.int .u8 32)), (27, 1, .c (.int .u8 111)), (28, 1, .c (.int .u8 102)), (29, 1, .c (.int .u8 32)), (30, 1, .c (.int .u8 110)), (31, 1, .c (.int .u8 105)), (32, 1, .c (.int .u8 108)), (33, 1, .c (.int .u8 45)), (34, 1, .c (.int .u8 62)), (35, 1, .c (.int .u8 49)), (36, 1, .c (.int .u8 124)), (37, 1, .c (.int .u8 104)), (38, 1, .c (.int .u8 58)), (39, 1, .c (.int .u8 116)), (40, 1, .c (.int .u8 45)), (41, 1, .c (.int .u8 62)), (42, 1, .c (.int .u8 104)), (43, 1, .c (.int .u8 59)), (44, 1, .c (.int .u8 107)), (45, 1, .c (.int .u8 40)), (46, 1, .c (.int .u8 108)), (47, 1, .c (.int .u8 32)), (48, 1, .c (.int .u8 76)), (49, 1, .c (.int .u8 41)), (50, 1, .c (.int .u8 58)), (51, 1, .c (.int .u8 76)), (52, 1, .c (.int .u8 61)), (53, 1, .c (.int .u8 103)), (54, 1, .c (.int .u8 40)), (55, 1, .c (.int .u8 49)), (56, 1, .c (.int .u8 58)), (57, 1, .c (.int .u8 108)), (58, 1, .c (.int .u8 41)), (59, 1, .c (.int .u8 59))]), JO 12 (.cvo (.t 11)), JO 13 (.pc (.f 9) [.t 12]), JC 10 13, JK 14 0 10, JK 15 1 10, JP 1 (.al [JW]), JQ (.st 1 (.g 1) (.t 14)), JC 2 15]) (.seq (.reg [JF 16 1 1, JO 17 (.bsl 1 12 [.int .u8 0] [(0, 1, .c (.int .u8 0)), (1, 1, .c (.int .u8 1)), (2, 1, .c (.int .u8 2)), (3, 1, .c (.int .u8 3)), (4, 1, .c (.int .u8 0)), (5, 1, .c (.int .u8 0)), (6, 1, .c (.int .u8 0)), (7, 1, .c (.int .u8 0)), (8, 1, .c (.int .u8 0)), (9, 1, .c (.int .u8 1)), (10, 1, .c (.int .u8 2)), (11, 1, .c (.int .u8 3))]), JO 18 (.pc (.f 10) [.t 16, .t 17]), JB 3 18]) (.seq (.reg [JF 20 1 1, JA 21 3, JO 22 (.bsl 1 1 [JV] [(0, 1, .c (.int .i64 2))]), JO 23 (.pc (.f 19) [.t 20, .t 21, .c (.int .i64 1), .t 22]), JC 19 23, JK 24 0 19, JK 25 1 19, JB 4 24, JB 5 25]) (.seq (.reg [JF 27 1 1, JA 28 3, JO 29 (.bsl 1 1 [JV] [(0, 1, .c (.int .i64 2))]), JO 30 (.pc (.f 19) [.t 27, .t 28, .c (.int .i64 2), .t 29]), JC 26 30, JK 31 0 26, JK 32 1 26, JB 6 31, JB 7 32]) (.seq (.reg [JF 34 1 1, JA 35 3, JO 36 (.bsl 1 1 [JV] [(0, 1, .c (.int .i64 0))]), JO 37 (.pc (.f 19) [.t 34, .t 35, .c (.int .i64 1), .t 36]), JC 33 37, JK 38 0 33, JK 39 1 33, JB 8 38, JB 9 39]) (.seq (.reg [JA 40 4, JO 41 (.bin .eql 49 (.t 40) (JT 1)), JC 42 41, JS 43 42 (.mv (.g 5)), JS 44 42 (.bin .eql 52 (.t 43) (JT 0)), JO 45 (.pick (.t 42) (.t 44) JY), JC 46 45, JS 47 46 (.mv (.g 6)), JS 48 46 (.bin .eql 49 (.t 47) (JT 2)), JO 49 (.pick (.t 46) (.t 48) JY), JC 50 49, JS 51 50 (.mv (.g 7)), JS 52 50 (.bin .eql 52 (.t 51) (JT 0)), JO 53 (.pick (.t 50) (.t 52) JY), JC 54 53, JS 55 54 (.mv (.g 8)), JS 56 54 (.bin .eql 49 (.t 55) (JT 0)), JO 57 (.pick (.t 54) (.t 56) JY), JC 58 57, JS 59 58 (.mv (.g 9)), JS 60 58 (.bin .eql 52 (.t 59) (JT 0)), JO 61 (.pick (.t 58) (.t 60) JY), JB 0 61]) .ret)))))))
theorem fi8 : FI Tryz.prog 8 cf8 ac8 [.t 0] [0, 1, 3, 4, 5, 6, 7, 8, 9] 62 := FI_of (c := Tryz.f8.body.getD .skip) Tryz.func8 (by kernel_rfl) (by rfl) (by rfl) (by kernel_rfl) (by kernel_rfl) rfl rfl rfl
@[simp] theorem cfP8 : cf8.P = Tryz.prog := (rfl)
noncomputable def cf5 : Cfg := ⟨Tryz.prog, 113, [0, 1, 2, 3, 8, 9, 10, 11, 12, 13, 14, 15, 16, 17, 18, 19, 20, 21, 22, 23, 24], []⟩
@[simp] theorem cfP5 : cf5.P = Tryz.prog := (rfl)
set_option maxRecDepth 100000
set_option maxHeartbeats 8000000
def mW (t : List UInt8) (L : List Fn) (w : Int) : Prop := w = 0 ∧ L.length ≤ 40 ∧ t.length ≤ 8192 ∧ ∀ f ∈ L, (dI (b8 f)).2 = 0 ∧ (dI (b8 f)).1 ≤ 256
open Classical in
noncomputable def jF (t : List UInt8) (L : List Fn) (w : Int) : Bool := decide (mW t L w)
theorem zV {t : List UInt8} {L : List Fn} {w p : Int} (h : vI t L w p) : Pure Tryz.prog 9 [.sl (em dM t)] (.tup [.agg [.sl (em aY L)], B (jF t L w)]) := by
 have hno : ¬ mW t L w → jF t L w = false := fun h => by simp [jF, h]
 have hyes : mW t L w → jF t L w = true := fun h => by simp [jF, h]
 obtain ⟨h1, h2, h3⟩ := h
 refine fi9.pu (by simp) ?_
 generalize jF t L w = R at *
 simp -implicitDefEqProofs [ac9]
 refine aG (wide_c) (by simp) ?_
 simp -implicitDefEqProofs
 refine aG (h1) (by simp) ?_
 simp -implicitDefEqProofs
 by_cases hw : w = 0
 ·have hk := h2 hw
  by_cases hl : L.length ≤ 40
  ·have hli : (L.length : Int) ≤ (40 : Int) := by omega
   by_cases ht : t.length ≤ 8192
   ·have hti : (t.length : Int) ≤ (8192 : Int) := by omega
    simp -implicitDefEqProofs [hw, hli, hti, Int.not_lt.2 hli, Int.not_lt.2 hti]
    refine lpG cf9 lb9_0 [3, 6, 7, 8] (α := Nat) (fun s _ => [(3, .top), (6, I s)]) (fun s _ => [(9, .box [I 0, I p]), (8, .box [.sl (em aY L)]), (0, .box [.pl (.slice none 0 0)])]) (fun s k => s ≤ L.length ∧ ∀ j (h : j < L.length), j < s → (dI (b8 L[j])).2 = 0 ∧ (dI (b8 L[j])).1 ≤ 256) (fun s => L.length - s) 0 ⟨by omega, fun j _ h => absurd h (by omega)⟩ (by simp) (aK _) ?_
    rintro i k ⟨hi, hall⟩
    by_cases hlt : i < L.length
    ·have hlti : (i : Int) < (L.length : Int) := by omega
     have w1 := aS (x := (i : Int) + 1) (by omega) (by omega)
     obtain ⟨f, hf⟩ : ∃ x, L[i] = x := ⟨_, rfl⟩
     have hfm : f ∈ L := by rw [← hf]; exact List.getElem_mem hlt
     have hs := kD hk
     simp -implicitDefEqProofs [lb9_0, hlt, hlti, hf]
     refine aG (tys_c hk hfm) (by simp) ?_
     simp -implicitDefEqProofs
     refine aG (r8 (b8 f) (by have := (hs.2 f hfm).2; simp; omega)) (by simp) ?_
     by_cases h1 : (dI (b8 f)).2 = 0
     ·by_cases h2 : (dI (b8 f)).1 ≤ 256
      ·simp -implicitDefEqProofs [h1, h2, w1, Int.not_lt.2 h2]
       refine aI (i + 1) ⟨hlt, fun j h hj => ?_⟩ (by omega) (by simp) (aK _)
       by_cases e : j = i
       ·subst e; rw [hf]; exact ⟨h1, h2⟩
       ·exact hall j h (by omega)
      ·rw [hno (fun g => h2 (g.2.2.2 f hfm).2)]
       simp -implicitDefEqProofs [h1, h2, Int.not_le.1 h2]
     ·rw [hno (fun g => h1 (g.2.2.2 f hfm).1)]
      simp -implicitDefEqProofs [h1]
    ·have hil : i = L.length := by omega
     subst hil
     rw [hyes ⟨hw, hl, ht, fun f hf => by
      obtain ⟨j, hj, rfl⟩ := List.mem_iff_getElem.1 hf
      exact hall j hj hj⟩]
     simp -implicitDefEqProofs [lb9_0]
   ·have hti : ¬ (t.length : Int) ≤ (8192 : Int) := by omega
    rw [hno (fun g => ht g.2.2.1)]
    simp -implicitDefEqProofs [hw, hli, hti, Int.not_lt.2 hli, Int.not_le.1 hti]
  ·have hli : ¬ (L.length : Int) ≤ (40 : Int) := by omega
   rw [hno (fun g => hl g.2.1)]
   simp -implicitDefEqProofs [hw, hli, Int.not_le.1 hli]
 ·rw [hno (fun g => hw g.1)]
  simp -implicitDefEqProofs [hw]
def fY (s : List UInt8) (t : Int) (k : Nat) : Int := if s = [] then 0 else ((s[k % s.length]?.getD 0).toNat : Int) % (tp t + 1)
def oL (f : Fn) (s : List UInt8) (k : Nat) : Tt := ⟨b8 f, f.type, pr (b8 f), c8 ((List.range (pr (b8 f)).toNat).map fun j => fY s f.type (k + j))⟩
def dK : List Fn → List UInt8 → Nat → List Tt
 | [], _, _ => []
 | f :: fs, s, k => oL f s k :: dK fs s (k + (pr (b8 f)).toNat)
def qQ (P : List Fn) : Prop := P.length ≤ 40 ∧ ∀ f ∈ P, (dI (b8 f)).2 = 0 ∧ (dI (b8 f)).1 ≤ 256
theorem wC {s : List UInt8} {t : Int} (ht : a_ t) (k : Nat) : 0 ≤ fY s t k ∧ fY s t k ≤ tp t := by
 have := nW ht
 unfold fY
 split
 ·omega
 ·have h1 := Int.emod_nonneg ((s[k % s.length]?.getD 0).toNat : Int) (by omega : tp t + 1 ≠ 0)
  have h2 := Int.emod_lt_of_pos ((s[k % s.length]?.getD 0).toNat : Int) (by omega : 0 < tp t + 1)
  omega
theorem HT (t : Int) : tp t ≤ 3 := by have := iY t; omega
theorem GB (l : List Tt) (x : Tt) : em fQ l ++ [[.sl (em bH x.ps), I x.t, I x.n, .sl (em i8 x.l)]] = em fQ (l ++ [x]) := fP (enc := fQ) (x := x)
theorem IA {P : List Fn} (hk : dT P) (hs : qQ P) (s : List UInt8) (hsl : s.length < 2 ^ 48) {mem : Mem} {nx : Nat} {K : KD} (hy : ∀ id ver nx', nx ≤ id → id < nx' → K (.osl id ver 0 P.length) ((id, .arr ver 4 (em fQ (dK P s 0))) :: mem) nx') : bO Tryz.prog 10 [.agg [.sl (em aY P)], .sl (em dM s)] mem nx K := by
 obtain ⟨hPT, hPl, hsz⟩ := jT hk
 obtain ⟨hPs, hfs⟩ := kD hk
 refine fi10.ct (by simp) fun hfr => ?_
 simp -implicitDefEqProofs [ac10]
 generalize hR : dK P s 0 = R at hy
 obtain ⟨q0, hq0⟩ : ∃ q, nx + 5 = q := ⟨_, rfl⟩
 have hm0 : look mem q0 = none := hfr q0 (by omega)
 rw [hq0]
 refine cW (j := 5) (k := 4) rfl (.inl rfl) ?_
 refine lpG cf10 lb10_1 [5, 6, 7, 8, 9, 11, 12] (α := Nat × Nat × Nat × List Tt) (fun z _ => [(5, .osl q0 z.2.1 0 z.2.2.2.length), (6, I (if s = [] then 0 else (z.2.2.1 : Int))), (7, I z.1)]) (fun z _ => (q0, .arr z.2.1 4 (em fQ z.2.2.2)) :: mem) (fun z k => q0 < k ∧ z.1 ≤ P.length ∧ z.2.2.2.length = z.1 ∧ z.2.2.1 ≤ z.1 * 256 ∧ z.2.2.2 ++ dK (P.drop z.1) s z.2.2.1 = R) (fun z => P.length - z.1) (0, 0, 0, []) ⟨by omega, by omega, rfl, by simp, hR⟩ (by simp [upd]) (by simp) ?_
 rintro ⟨i, v, pos, acc⟩ k ⟨hk1, hi, hal, hpos, hr⟩
 simp only at hi hal hpos hr hk1
 by_cases hlt : i < P.length
 ·have hlti : (i : Int) < (P.length : Int) := by omega
  have w1 := aS (x := (i : Int) + 1) (by omega) (by omega)
  rw [List.drop_eq_getElem_cons hlt] at hr
  obtain ⟨f, hf⟩ : ∃ x, P[i] = x := ⟨_, rfl⟩
  have hfm : f ∈ P := by rw [← hf]; exact List.getElem_mem hlt
  rw [hf] at hr
  unfold dK at hr
  obtain ⟨hc1, hc2⟩ := hs.2 f hfm
  obtain ⟨ho, hp96, hp1⟩ := kR hc1
  have hprp := o5 ho
  have hpl := (hfs f hfm).2
  obtain ⟨n, hn⟩ : ∃ n : Nat, pr (b8 f) = n := ⟨(pr (b8 f)).toNat, by omega⟩
  simp -implicitDefEqProofs [lb10_1, hlt, hlti, hf]
  refine aG (tys_c hk hfm) (by simp) ?_
  simp -implicitDefEqProofs
  refine aG (r8 (b8 f) (by simp; omega)) (by simp) ?_
  have hb : (n : Int) * 8 ≤ 140737488355328 := by omega
  simp -implicitDefEqProofs [hp1, hn, hb]
  obtain ⟨q, hq⟩ : ∃ q, k + 5 + 7 + 7 + 1 = q := ⟨_, rfl⟩
  rw [hq]
  have hty := (hPT f hfm).1
  have htp := nW hty
  have ht3 := HT f.type
  have hqm : look mem q = none := hfr q (by omega)
  have hz1 : (q = q0) = False := eq_false (by omega)
  have hz2 : (q0 = q) = False := eq_false (by omega)
  refine lpG cf10 lb10_0 [6, 12] (α := Nat) (fun j _ => [(6, I (if s = [] then 0 else ((pos + j : Nat) : Int))), (12, I j)]) (fun j _ => (q, .arr 0 1 (em bH ((List.range j).map (fun j => fY s f.type (pos + j)) ++ List.replicate (n - j) 0))) :: (q0, .arr v 4 (em fQ acc)) :: mem) (fun j k => q < k ∧ j ≤ n ∧ (s = [] → j = 0)) (fun j => n - j) 0 ⟨by omega, by omega, fun _ => rfl⟩ (by simp) (by simp) ?_
  rintro j k2 ⟨hk2, hj, hj0⟩
  by_cases hs0 : s = []
  ·have := hj0 hs0
   subst this
   subst hs0
   have hn0 : 0 < n := by omega
   have hmap : (List.range n).map (fun j => fY [] f.type (pos + j)) = List.replicate n 0 := by
    rw [List.eq_replicate_iff]
    exact ⟨by simp, fun b hb => by
     obtain ⟨j, _, rfl⟩ := List.mem_map.1 hb
     rfl⟩
   simp -implicitDefEqProofs [lb10_0, hn0, hlt, hlti, hf]
   have hcs : ∀ c ∈ (List.range n).map (fun j => fY [] f.type (pos + j)), jJ c := fun c hc => by
    obtain ⟨j, _, rfl⟩ := List.mem_map.1 hc
    have := wC (s := []) hty (pos + j)
    exact ⟨this.1, by omega⟩
   have hcl : ((List.range n).map (fun j => fY [] f.type (pos + j))).length = n := by simp
   have htab : oL f [] pos = ⟨b8 f, f.type, n, c8 ((List.range n).map (fun j => fY [] f.type (pos + j)))⟩ := by unfold oL; rw [hn]; rfl
   have hOf := E9 (b8 f) f.type _ hcs (by rw [hcl]; omega) (by simp; omega)
   rw [hcl] at hOf
   have hb64 : (acc.length + 1) * 64 ≤ 3 * 2 ^ 46 := by omega
   have hsn := GB acc (oL f [] pos)
   rw [htab] at hsn hr
   simp only at hsn
   rw [← hmap]
   generalize (List.range n).map (fun j => fY [] f.type (pos + j)) = cs at *
   refine aD (xF (mf := [(q, .arr 0 1 (em bH cs))]) (mk := (q0, .arr v 4 (em fQ acc)) :: mem) (lL (iO _)) (aE (aF _) (by rw [a8, if_neg (by omega)]; exact hqm)) (fun j => by
    by_cases e : q = j
    ·subst e; right; rw [a8, if_neg (by omega)]; exact hqm
    ·left; rw [a8, if_neg e]; rfl) (args' := [.sl (em bH (b8 f)), I f.type, .sl (em bH cs)]) (by simp [List.take_of_length_le, hcl]) hOf ?_)
   simp -implicitDefEqProofs [hb64, hsn, w1]
   exact aI (i + 1, v + 1, pos + n, acc ++ [⟨b8 f, f.type, n, c8 cs⟩]) ⟨by omega, hlt, by simp [hal], by simp only; omega, by rw [List.append_assoc]; rw [hn] at hr; exact hr⟩ (by simp only; omega) (by simp) (aK _)
  ·have hsl0 : 0 < s.length := by cases s with
    | nil => exact absurd rfl hs0
    | cons a b => simp
   have hsli : 0 < (s.length : Int) := by omega
   by_cases hjn : j < n
   ·have hjni : (j : Int) < (n : Int) := by omega
    have w2 := aS (x := (j : Int) + 1) (by omega) (by omega)
    have hPl := hs.1
    have w3 := aS (x := (pos : Int) + (j : Int) + 1) (by omega) (by omega)
    obtain ⟨m, hm⟩ : ∃ m, (pos + j) % s.length = m := ⟨_, rfl⟩
    have hml : m < s.length := by rw [← hm]; exact Nat.mod_lt _ hsl0
    have hmli : (m : Int) < (s.length : Int) := by omega
    have e1 : ((pos : Int) + (j : Int)).tmod (s.length : Int) = (m : Int) := by rw [Int.tmod_eq_emod_of_nonneg (by omega), ← hm]; rfl
    have hsn : ¬ (s.length : Int) = 0 := by omega
    obtain ⟨b, hbb⟩ : ∃ b, s[m] = b := ⟨_, rfl⟩
    have hcel : fY s f.type (pos + j) = (b.toNat : Int) % (tp f.type + 1) := by
     unfold fY
     rw [if_neg hs0, hm, List.getElem?_eq_getElem hml, hbb]; rfl
    have e2 : (b.toNat : Int).tmod (tp f.type + 1) = (b.toNat : Int) % (tp f.type + 1) := Int.tmod_eq_emod_of_nonneg (by omega)
    have htn : ¬ tp f.type + 1 = 0 := by omega
    have w4 := aS (x := tp f.type + 1) (by omega) (by omega)
    have hbl := b.toNat_lt
    have w5 := aS (x := (b.toNat : Int)) (by omega) (by omega)
    have hlen : ((List.range j).map (fun j => fY s f.type (pos + j)) ++ List.replicate (n - j) 0).length = n := by simp; omega
    have hset : ((List.range j).map (fun j => fY s f.type (pos + j)) ++ List.replicate (n - j) 0).set j ((b.toNat : Int) % (tp f.type + 1)) = (List.range (j + 1)).map (fun j => fY s f.type (pos + j)) ++ List.replicate (n - (j + 1)) 0 := by
     rw [List.set_append_right _ _ (by simp), List.range_succ, List.map_append, ← hcel, show n - j = (n - (j + 1)) + 1 by omega, List.replicate_succ]
     simp
    generalize (List.range j).map (fun j => fY s f.type (pos + j)) ++ List.replicate (n - j) 0 = old at *
    simp -implicitDefEqProofs [lb10_0, hs0, hsl0, hsli, hjni, e1, hsn, hml, hmli, hbb, hlti, hlt, hf]
    refine aG (qH f.type) (by simp) ?_
    have hb8 : bt8 s m = (b.toNat : Int) := by unfold bt8; rw [List.getElem?_eq_getElem hml, hbb]; rfl
    simp -implicitDefEqProofs [w2, w3, w4, w5, e2, htn, hlen, hjn, hb8]
    rw [hset]
    exact aI (j + 1) ⟨by omega, hjn⟩ (by omega) (by simp [hs0, Int.add_assoc]) (aK _)
   ·have hjn2 : n = j := by omega
    subst hjn2
    simp -implicitDefEqProofs [lb10_0, hs0, hlt, hlti, hf]
    have hcs : ∀ c ∈ (List.range n).map (fun j => fY s f.type (pos + j)), jJ c := fun c hc => by
     obtain ⟨j, _, rfl⟩ := List.mem_map.1 hc
     have := wC (s := s) hty (pos + j)
     exact ⟨this.1, by omega⟩
    have hcl : ((List.range n).map (fun j => fY s f.type (pos + j))).length = n := by simp
    have htab : oL f s pos = ⟨b8 f, f.type, n, c8 ((List.range n).map (fun j => fY s f.type (pos + j)))⟩ := by unfold oL; rw [hn]; rfl
    have hOf := E9 (b8 f) f.type _ hcs (by rw [hcl]; omega) (by simp; omega)
    rw [hcl] at hOf
    have hb64 : (acc.length + 1) * 64 ≤ 3 * 2 ^ 46 := by omega
    have hsn := GB acc (oL f s pos)
    rw [htab] at hsn hr
    simp only at hsn
    generalize (List.range n).map (fun j => fY s f.type (pos + j)) = cs at *
    refine aD (xF (mf := [(q, .arr 0 1 (em bH cs))]) (mk := (q0, .arr v 4 (em fQ acc)) :: mem) (lL (iO _)) (aE (aF _) (by rw [a8, if_neg (by omega)]; exact hqm)) (fun j => by
     by_cases e : q = j
     ·subst e; right; rw [a8, if_neg (by omega)]; exact hqm
     ·left; rw [a8, if_neg e]; rfl) (args' := [.sl (em bH (b8 f)), I f.type, .sl (em bH cs)]) (by simp [List.take_of_length_le, hcl]) hOf ?_)
    simp -implicitDefEqProofs [hb64, hsn, w1]
    exact aI (i + 1, v + 1, pos + n, acc ++ [⟨b8 f, f.type, n, c8 cs⟩]) ⟨by omega, hlt, by simp [hal], by simp only; omega, by rw [List.append_assoc]; rw [hn] at hr; exact hr⟩ (by simp only; omega) (by simp) (aK _)
 ·have hil : i = P.length := by omega
  subst hil
  rw [List.drop_length] at hr
  unfold dK at hr
  rw [List.append_nil] at hr
  subst hr
  simp -implicitDefEqProofs [lb10_1]
  rw [hal]
  exact ⟨_, aF _, hy q0 v _ (by omega) (by omega)⟩
theorem BB {P : List Fn} (hk : dT P) (hs : qQ P) (s : List UInt8) (hsl : s.length < 2 ^ 48) : Pure Tryz.prog 10 [.agg [.sl (em aY P)], .sl (em dM s)] (.sl (em fQ (dK P s 0))) := by
 refine yE (by simp) (IA hk hs s hsl fun id ver nx' _ _ => ?_)
 have hl : (dK P s 0).length = P.length := by
  have : ∀ (P : List Fn) (k : Nat), (dK P s k).length = P.length := by
   intro P
   induction P with
   | nil => intro k; rfl
   | cons f fs ih => intro k; simp [dK, ih]
  exact this P 0
 simp [look, ← hl]
theorem A0 (cs : List Int) (h4 : ∀ c ∈ cs, jJ c) (hl : cs.length ≤ 4096) : ∃ l, gM l ∧ dQ cs.length l ∧ cl cs.length l = cs := by
 have key : ∀ k, k ≤ cs.length → ∃ l, gM l ∧ dQ cs.length l ∧ ∀ j, j < cs.length → cR l j = if j < k then cs[j]?.getD 0 else 0 := by
  intro k
  induction k with
  | zero => exact fun _ => ⟨List.replicate (((cs.length : Int) + 31) / 32).toNat 0, zero_W _, F1 (by omega) (by omega), fun j hj => by rw [GL, if_neg (by omega)]⟩
  | succ k ih =>
   intro hk
   obtain ⟨l, hw, hg, hc⟩ := ih (by omega)
   have hkl : k < cs.length := by omega
   have hv := h4 _ (List.getElem_mem hkl)
   have hln : cs.length ≤ 32 * l.length := by have := pC hg; simpa using this
   unfold jJ at hv
   refine ⟨pT l k cs[k], FM hw, by simpa using FW hw hg hv.1 (by omega) (by simpa using hkl), fun j hj => ?_⟩
   rw [wP hw hv.1 (by omega) (by omega) (by omega), hc j hj]
   by_cases e : j = k
   ·subst e
    rw [if_pos rfl, if_pos (by omega), List.getElem?_eq_getElem hkl]; rfl
   ·rw [if_neg e]
    by_cases e2 : j < k
    ·rw [if_pos e2, if_pos (by omega)]
    ·rw [if_neg e2, if_neg (by omega)]
 obtain ⟨l, hw, hg, hc⟩ := key _ (Nat.le_refl _)
 refine ⟨l, hw, hg, (cl_ext (by simp) fun i hi => ?_).symm⟩
 have hi2 : i < cs.length := by simpa using hi
 rw [hc i hi2, if_pos hi2]
theorem MS {cs : List Int} (h4 : ∀ c ∈ cs, jJ c) (hl : cs.length ≤ 4096) : gM (c8 cs) ∧ dQ cs.length (c8 cs) ∧ cl cs.length (c8 cs) = cs := by
 obtain ⟨l, hw, hg, hc⟩ := A0 cs h4 hl
 have h := ME hg hw
 rw [hc] at h
 rw [h]
 exact ⟨hw, hg, hc⟩
theorem tab_ok {f : Fn} {cs : List Int} (hty : a_ f.type) (hc : (dI (b8 f)).2 = 0) (hl : (cs.length : Int) = pr (b8 f)) (hin : ∀ c ∈ cs, 0 ≤ c ∧ c ≤ tp f.type) : fitT f ⟨b8 f, f.type, pr (b8 f), c8 cs⟩ ∧ gM (c8 cs) ∧ cl (pr (b8 f)) (c8 cs) = cs := by
 obtain ⟨ho, hp96, hp1⟩ := kR hc
 have htp := nW hty
 have ht3 := HT f.type
 obtain ⟨h1, h2, h3⟩ := MS (cs := cs) (fun c hm => by have := hin c hm; exact ⟨this.1, by omega⟩) (by omega)
 rw [hl] at h2 h3
 refine ⟨⟨⟨hc, (by show 0 ≤ tp f.type; omega), rfl, h2, fun i hi => ?_⟩, rfl, rfl⟩, h1, h3⟩
 have hi2 : i < cs.length := by simp only at hi; omega
 have := L1 (l := c8 cs) hi
 simp only at this ⊢
 rw [h3] at this
 rw [← this, List.getElem?_eq_getElem hi2]
 exact (hin _ (List.getElem_mem hi2)).2
theorem NR {f : Fn} (s : List UInt8) (k : Nat) (hty : a_ f.type) (hc : (dI (b8 f)).2 = 0) : fitT f (oL f s k) ∧ gM (oL f s k).l := by
 obtain ⟨ho, hp96, hp1⟩ := kR hc
 have hpos := o5 ho
 have h := tab_ok (cs := (List.range (pr (b8 f)).toNat).map fun j => fY s f.type (k + j)) hty hc (by simp; omega) (fun c hm => by
  obtain ⟨j, _, rfl⟩ := List.mem_map.1 hm
  exact wC hty _)
 exact ⟨h.1, h.2.1⟩
theorem nB : ∀ (P : List Fn) (s : List UInt8) (k : Nat), (dK P s k).length = P.length
 | [], _, _ => rfl
 | f :: fs, s, k => by simp [dK, nB fs]
theorem AM : ∀ (P : List Fn) (s : List UInt8) (k i : Nat), (h : i < P.length) → ∃ k', (dK P s k)[i]?.getD default = oL (P[i]?.getD default) s k'
 | [], _, _, i, h => by simp at h
 | f :: fs, s, k, 0, _ => ⟨k, rfl⟩
 | f :: fs, s, k, i + 1, h => by
  obtain ⟨k', e⟩ := AM fs s (k + (pr (b8 f)).toNat) i (by simpa using h)
  exact ⟨k', by simpa [dK] using e⟩
theorem AT {P : List Fn} (hk : dT P) (hs : qQ P) (s : List UInt8) : ∀ i, i < P.length → fitT (P[i]?.getD default) ((dK P s 0)[i]?.getD default) ∧ gM ((dK P s 0)[i]?.getD default).l := by
 intro i hi
 obtain ⟨k', e⟩ := AM P s 0 i hi
 have hm := List.getElem_mem hi
 rw [e, List.getElem?_eq_getElem hi]
 exact NR s k' ((jT hk).1 _ hm).1 (hs.2 _ hm).1
theorem CP {P : List Fn} (hk : dT P) (hs : qQ P) (s : List UInt8) : TW (dK P s 0) := by
 intro x hx
 obtain ⟨i, hi, rfl⟩ := List.mem_iff_getElem.1 hx
 have hi2 : i < P.length := by rw [nB] at hi; exact hi
 obtain ⟨h1, h2⟩ := AT hk hs s i hi2
 rw [List.getElem?_eq_getElem hi, List.getElem?_eq_getElem hi2] at h1
 rw [List.getElem?_eq_getElem hi] at h2
 refine ⟨h2, ?_⟩
 have h3 := h1.2.2
 simp only [Option.getD_some] at h3
 rw [h3]
 have := ((kD hk).2 _ (List.getElem_mem hi2)).2
 simp; omega
theorem zP {P : List Fn} (hk : dT P) (hs : qQ P) (s : List UInt8) (h0 : (gW P).1 = 0) : SeeOk P (dK P s 0) :=
 ⟨h0, nB P s 0, fun i hi => (AT hk hs s i hi).1⟩
end Go.Fx.YtlhdpfaohphbaaaGreat

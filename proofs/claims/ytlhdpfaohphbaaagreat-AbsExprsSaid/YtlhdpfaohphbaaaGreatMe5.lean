/- Joined texts of this claim. No condition. -/
import Derived.Test.YtlhdpfaohphbaaaGreatMe4
set_option linter.all false
set_option maxRecDepth 1000000
set_option maxHeartbeats 0
namespace Go.Fx.YtlhdpfaohphbaaaGreat
open Go Go.Fx Go.Proofs
noncomputable def cf83 : Cfg := ⟨Tryz.prog, 14, [0, 2, 3, 4, 5], []⟩
noncomputable def ac83 : AC :=
 (.seq (.reg [JI 2 0, JI 3 0]) (.seq (.reg [JA 7 0, JO 8 (.pc (.f 67) [.t 7]), JC 6 8, JK 9 0 6, JK 10 1 6, JB 4 9, JB 5 10]) (.seq (.reg [JA 11 4, JO 12 (.bin .add 3 (.t 11) (JT 1)), JA 13 5, JB 2 12, JB 3 13]) .ret)))
theorem fi83 : FI Tryz.prog 83 cf83 ac83 [.t 2, .t 3] [0, 2, 3, 4, 5] 14 := FI_of (c := Tryz.f83.body.getD .skip) Tryz.func83 (by kernel_rfl) (by rfl) (by rfl) (by kernel_rfl) (by kernel_rfl) rfl rfl rfl
@[simp] theorem cfP83 : cf83.P = Tryz.prog := (rfl)
noncomputable def cf82 : Cfg := ⟨Tryz.prog, 31, [0, 2, 3, 4, 6, 7, 8, 9, 10, 11], []⟩
noncomputable def lb82_0 : AC :=
 .seq (.ifr [JO 12 (.bin .lss 3 (.g 11) (.g 10))] (.t 12) .skip (.exit 0)) (.seq (.block 1 (.seq (.reg [JO 13 (.ia 1 (.g 9) (.g 11)), JD 14 1 13, JB 6 14]) (.seq (.reg [JA 16 6, JO 17 (.pc (.f 83) [.t 16]), JC 15 17, JK 18 0 15, JK 19 1 15, JB 7 18, JB 8 19]) (.seq (.ifr [JA 20 8, JO 21 (.bin .neq 52 (.t 20) (JT 0))] (.t 21) (.seq (.reg [JA 22 8, JI 2 0, JB 3 22]) .ret) .skip) (.reg [JA 23 4, JA 24 7, JO 25 (.bin .mul 3 (.t 23) (.t 24)), JO 26 (.bi .min [.t 25, .c (.int .i64 4097)]), JB 4 26]))))) (.reg [JO 27 (.bin .add 3 (.g 11) (JT 1)), JB 11 27]))
noncomputable def ac82 : AC :=
 (.seq (.reg [JI 2 0, JI 3 0]) (.seq (.reg [JI 4 1]) (.seq (.seq (.reg [JP 9 (.mv (.g 0)), JP 10 (.len false (.g 9)), JI 11 0]) (.block 0 (.loop lb82_0))) (.seq (.ifr [JA 28 4, JO 29 (.bin .gtr 3 (.t 28) (JT 4096))] (.t 29) (.seq (.reg [JI 2 0, JI 3 22]) .ret) .skip) (.seq (.reg [JA 30 4, JB 2 30, JI 3 0]) .ret)))))
theorem fi82 : FI Tryz.prog 82 cf82 ac82 [.t 2, .t 3] [0, 2, 3, 4, 6, 7, 8, 9, 10, 11] 31 := FI_of (c := Tryz.f82.body.getD .skip) Tryz.func82 (by kernel_rfl) (by rfl) (by rfl) (by kernel_rfl) (by kernel_rfl) rfl rfl rfl
@[simp] theorem cfP82 : cf82.P = Tryz.prog := (rfl)
noncomputable def cf49 : Cfg := ⟨Tryz.prog, 58, [0, 1, 4, 5, 7, 8, 9, 10, 11, 12, 27, 28, 29], []⟩
noncomputable def lb49_0 : AC :=
 .seq (.ifr [JO 30 (.bin .lss 3 (.g 29) (.g 28))] (.t 30) .skip (.exit 0)) (.seq (.block 1 (.seq (.reg [JA 31 29, JO 32 (.ia 1 (.g 27) (.g 29)), JD 33 1 32, JB 9 31, JB 10 33]) (.seq (.seq (.reg [JA 34 0, JA 35 9, JL 36 1 34 35, JD 37 1 36, JA 38 10, JO 39 (.pc (.f 36) [.t 37, .t 38]), JB 11 39]) (.ifr [JA 40 11, JO 41 (.bin .neq 52 (.t 40) (JT 0))] (.t 41) (.seq (.reg [JA 42 11, JI 4 0, JB 5 42]) .ret) .skip)) (.seq (.reg [JA 44 0, JA 45 9, JL 46 1 44 45, JD 47 1 46, JO 48 (.pc (.f 83) [.t 47]), JC 43 48, JK 49 0 43, JK 50 1 43, JB 12 49, JC 13 50]) (.reg [JA 51 8, JA 52 12, JO 53 (.bin .mul 3 (.t 51) (.t 52)), JA 54 10, JO 55 (.bin .add 3 (.t 53) (.t 54)), JB 8 55]))))) (.reg [JO 56 (.bin .add 3 (.g 29) (JT 1)), JB 29 56]))
noncomputable def ac49 : AC :=
 (.seq (.reg [JI 4 0, JI 5 0]) (.seq (.seq (.reg [JA 15 0, JO 16 (.pc (.f 82) [.t 15]), JC 14 16, JK 17 0 14, JK 18 1 14, JC 6 17, JB 7 18]) (.ifr [JA 19 7, JO 20 (.bin .neq 52 (.t 19) (JT 0))] (.t 20) (.seq (.reg [JA 21 7, JI 4 0, JB 5 21]) .ret) .skip)) (.seq (.ifr [JA 22 1, JO 23 (.len false (.t 22)), JA 24 0, JO 25 (.len false (.t 24)), JO 26 (.bin .neq 3 (.t 23) (.t 25))] (.t 26) (.seq (.reg [JI 4 0, JI 5 3]) .ret) .skip) (.seq (.reg [JI 8 0]) (.seq (.seq (.reg [JP 27 (.mv (.g 1)), JP 28 (.len false (.g 27)), JI 29 0]) (.block 0 (.loop lb49_0))) (.seq (.reg [JA 57 8, JB 4 57, JI 5 0]) .ret))))))
theorem fi49 : FI Tryz.prog 49 cf49 ac49 [.t 4, .t 5] [0, 1, 4, 5, 7, 8, 9, 10, 11, 12, 27, 28, 29] 58 := FI_of (c := Tryz.f49.body.getD .skip) Tryz.func49 (by kernel_rfl) (by rfl) (by rfl) (by kernel_rfl) (by kernel_rfl) rfl rfl rfl
@[simp] theorem cfP49 : cf49.P = Tryz.prog := (rfl)
noncomputable def cf54 : Cfg := ⟨Tryz.prog, 50, [0, 1, 3, 4, 5, 6, 7, 8, 9, 10, 11, 32, 33, 34], [3, 30]⟩
@[simp] theorem cfP54 : cf54.P = Tryz.prog := (rfl)
noncomputable def cf53 : Cfg := ⟨Tryz.prog, 40, [0, 1, 4, 5, 6, 7, 9, 10], []⟩
noncomputable def ac53 : AC :=
 (.seq (.reg [JP 4 (.al [JW, JV, JV, JW]), JI 5 0]) (.seq (.reg [JA 12 0, JO 13 (.pc (.f 82) [.t 12]), JC 11 13, JK 14 0 11, JK 15 1 11, JB 6 14, JB 7 15]) (.seq (.ifr [JA 16 7, JO 17 (.bin .neq 52 (.t 16) (JT 0))] (.t 17) (.seq (.reg [JO 18 (.bld [JW, JV, JV, JW] []), JA 19 7, JQ (.st 4 (.g 4) (.t 18)), JB 5 19]) .ret) .skip) (.seq (.seq (.reg [JA 21 1, JO 22 (.pc (.f 83) [.t 21]), JC 20 22, JK 23 0 20, JK 24 1 20, JC 8 23, JB 9 24]) (.ifr [JA 25 9, JO 26 (.bin .neq 52 (.t 25) (JT 0))] (.t 26) (.seq (.reg [JO 27 (.bld [JW, JV, JV, JW] []), JA 28 9, JQ (.st 4 (.g 4) (.t 27)), JB 5 28]) .ret) .skip)) (.seq (.reg [JA 30 6, JO 31 (.pc (.f 84) [.t 30]), JC 29 31, JK 32 0 29, JK 33 1 29, JP 10 (.al [JV, JW]), JQ (.st 2 (.g 10) (.t 32)), JB 7 33]) (.seq (.reg [JA 34 0, JO 35 (.pc (.f 85) [.t 34]), JA 36 1, JF 37 2 10, JO 38 (.bld [JW, JV, JV, JW] [(0, 1, .t 35), (1, 1, .t 36), (2, 2, .t 37)]), JA 39 7, JQ (.st 4 (.g 4) (.t 38)), JB 5 39]) .ret))))))
theorem fi53 : FI Tryz.prog 53 cf53 ac53 [.c 4 true 4, .t 5] [0, 1, 4, 5, 6, 7, 9, 10] 40 := FI_of (c := Tryz.f53.body.getD .skip) Tryz.func53 (by kernel_rfl) (by rfl) (by rfl) (by kernel_rfl) (by kernel_rfl) rfl rfl rfl
@[simp] theorem cfP53 : cf53.P = Tryz.prog := (rfl)
noncomputable def cf66 : Cfg := ⟨Tryz.prog, 55, [0, 1, 2, 3, 4, 5, 6, 7, 8], []⟩
noncomputable def lb66_0 : AC :=
 .seq (.ifr [JA 42 7, JO 43 (.bin .lss 3 (.t 42) (JT 4))] (.t 43) .skip (.exit 0)) (.seq (.block 1 (.seq (.reg [JG 47 2 1, JE 48 2 47, JA 49 7, JO 50 (.pc (.f 95) [.t 48, .t 49]), JC 46 50, JK 51 0 46, JK 52 1 46, JB 8 51, JC 9 52]) (.ifr [JA 53 8, JO 54 (.bin .gtr 3 (.t 53) (JT 0))] (.t 54) (.seq (.reg [JI 2 3]) .ret) .skip))) (.reg [JA 44 7, JO 45 (.bin .add 3 (.t 44) (JT 1)), JB 7 45]))
noncomputable def ac66 : AC :=
 (.seq (.reg [JN 1 0, JI 2 0]) (.seq (.reg [JG 11 0 1, JD 12 1 11, JO 13 (.pc (.f 82) [.t 12]), JC 10 13, JK 14 0 10, JK 15 1 10, JB 3 14, JB 4 15]) (.seq (.reg [JG 17 1 1, JD 18 1 17, JO 19 (.pc (.f 83) [.t 18]), JC 16 19, JK 20 0 16, JK 21 1 16, JB 5 20, JB 6 21]) (.seq (.ifr [JA 22 4, JO 23 (.bin .neq 52 (.t 22) (JT 0)), JC 24 23, JR 25 24 (.mv (.g 6)), JR 26 24 (.bin .neq 52 (.t 25) (JT 0)), JO 27 (.pick (.t 24) JX (.t 26)), JC 28 27, JR 29 28 (.fa 2 (.g 1)), JR 30 28 (.fa 0 (.t 29)), JR 31 28 (.ld false 1 (.t 30)), JR 32 28 (.mv (.g 3)), JR 33 28 (.bin .neq 3 (.t 31) (.t 32)), JO 34 (.pick (.t 28) JX (.t 33)), JC 35 34, JR 36 35 (.fa 2 (.g 1)), JR 37 35 (.ld true 2 (.t 36)), JR 38 35 (.pc (.f 87) [.t 37]), JR 39 35 (.bin .neq 52 (.t 38) (JT 0)), JO 40 (.pick (.t 35) JX (.t 39))] (.t 40) (.seq (.reg [JI 2 3]) .ret) .skip) (.seq (.seq (.reg [JA 41 5, JB 7 41]) (.block 0 (.loop lb66_0))) (.seq (.reg [JI 2 0]) .ret))))))
theorem fi66 : FI Tryz.prog 66 cf66 ac66 [.t 2] [0, 1, 2, 3, 4, 5, 6, 7, 8] 55 := FI_of (c := Tryz.f66.body.getD .skip) Tryz.func66 (by kernel_rfl) (by rfl) (by rfl) (by kernel_rfl) (by kernel_rfl) rfl rfl rfl
@[simp] theorem cfP66 : cf66.P = Tryz.prog := (rfl)
noncomputable def cf85 : Cfg := ⟨Tryz.prog, 8, [0, 2], [7]⟩
noncomputable def ac85 : AC :=
 (.seq (.reg [JP 2 (.mv (.c (.slice none 0 0)))]) (.seq (.ifr [JA 3 0, JO 4 (.bin .eql 24 (.t 3) (.c (.slice none 0 0)))] (.t 4) (.seq (.reg [JP 2 (.mv (.c (.slice none 0 0)))]) .ret) .skip) (.seq (.reg [.mk (.t 5) none .z0, JA 6 0, JO 7 (.app 1 8 [JV] (.t 5) (.t 6)), JB 2 7]) .ret)))
theorem fi85 : FI Tryz.prog 85 cf85 ac85 [.t 2] [0, 2] 8 := FI_of (c := Tryz.f85.body.getD .skip) Tryz.func85 (by kernel_rfl) (by rfl) (by rfl) (by kernel_rfl) (by kernel_rfl) rfl rfl rfl
@[simp] theorem cfP85 : cf85.P = Tryz.prog := (rfl)
noncomputable def cf31 : Cfg := ⟨Tryz.prog, 36, [0, 2, 3, 4, 5, 6], []⟩
noncomputable def lb31_0 : AC :=
 .seq (.ifr [JA 19 6, JA 20 0, JO 21 (.len false (.t 20)), JO 22 (.bin .lss 3 (.t 19) (.t 21))] (.t 22) .skip (.exit 2)) (.seq (.block 3 (.seq (.reg [JA 25 5, JA 26 0, JA 27 6, JL 28 1 26 27, JD 29 1 28, JO 30 (.pc (.f 33) [.t 29]), JO 31 (.bin .add 3 (.t 30) (JT 1)), JO 32 (.bin .mul 3 (.t 25) (.t 31)), JB 5 32]) (.ifr [JA 33 5, JO 34 (.bin .gtr 3 (.t 33) (JT 4096))] (.t 34) (.seq (.reg [JI 2 0, JI 3 22]) .ret) .skip))) (.reg [JA 23 6, JO 24 (.bin .add 3 (.t 23) (JT 1)), JB 6 24]))
noncomputable def lb31_1 : AC :=
 .seq (.ifr [JA 7 4, JA 8 0, JO 9 (.len false (.t 8)), JO 10 (.bin .lss 3 (.t 7) (.t 9))] (.t 10) .skip (.exit 0)) (.seq (.block 1 (.ifr [JA 13 0, JA 14 4, JL 15 1 13 14, JD 16 1 15, JO 17 (.pc (.f 33) [.t 16]), JO 18 (.bin .lss 3 (.t 17) (JT 0))] (.t 18) (.seq (.reg [JI 2 0, JI 3 3]) .ret) .skip)) (.reg [JA 11 4, JO 12 (.bin .add 3 (.t 11) (JT 1)), JB 4 12]))
noncomputable def ac31 : AC :=
 (.seq (.reg [JI 2 0, JI 3 0]) (.seq (.seq (.reg [JI 4 0]) (.block 0 (.loop lb31_1))) (.seq (.reg [JI 5 1]) (.seq (.seq (.reg [JI 6 0]) (.block 2 (.loop lb31_0))) (.seq (.reg [JA 35 5, JB 2 35, JI 3 0]) .ret)))))
theorem fi31 : FI Tryz.prog 31 cf31 ac31 [.t 2, .t 3] [0, 2, 3, 4, 5, 6] 36 := FI_of (c := Tryz.f31.body.getD .skip) Tryz.func31 (by kernel_rfl) (by rfl) (by rfl) (by kernel_rfl) (by kernel_rfl) rfl rfl rfl
@[simp] theorem cfP31 : cf31.P = Tryz.prog := (rfl)
noncomputable def cf51 : Cfg := ⟨Tryz.prog, 53, [0, 1, 4, 5, 7, 8, 9], []⟩
noncomputable def lb51_0 : AC :=
 .seq (.ifr [JA 23 9, JA 24 0, JO 25 (.len false (.t 24)), JO 26 (.bin .lss 3 (.t 23) (.t 25))] (.t 26) .skip (.exit 0)) (.seq (.block 1 (.seq (.ifr [JA 29 0, JA 30 9, JL 31 1 29 30, JD 32 1 31, JA 33 1, JA 34 9, JL 35 1 33 34, JD 36 1 35, JO 37 (.pc (.f 15) [.t 32, .t 36]), JO 38 (.un .not (.t 37))] (.t 38) (.seq (.reg [JI 4 0, JI 5 2]) .ret) .skip) (.reg [JA 39 8, JA 40 0, JA 41 9, JL 42 1 40 41, JD 43 1 42, JO 44 (.pc (.f 33) [.t 43]), JO 45 (.bin .add 3 (.t 44) (JT 1)), JO 46 (.bin .mul 3 (.t 39) (.t 45)), JA 47 1, JA 48 9, JL 49 1 47 48, JD 50 1 49, JO 51 (.bin .add 3 (.t 46) (.t 50)), JB 8 51]))) (.reg [JA 27 9, JO 28 (.bin .add 3 (.t 27) (JT 1)), JB 9 28]))
noncomputable def ac51 : AC :=
 (.seq (.reg [JI 4 0, JI 5 0]) (.seq (.reg [JA 11 0, JO 12 (.pc (.f 31) [.t 11]), JC 10 12, JK 13 0 10, JK 14 1 10, JC 6 13, JB 7 14]) (.seq (.ifr [JA 15 7, JO 16 (.bin .neq 3 (.t 15) (JT 0))] (.t 16) (.seq (.reg [JA 17 7, JI 4 0, JB 5 17]) .ret) .skip) (.seq (.ifr [JA 18 1, JO 19 (.len false (.t 18)), JA 20 0, JO 21 (.len false (.t 20)), JO 22 (.bin .neq 3 (.t 19) (.t 21))] (.t 22) (.seq (.reg [JI 4 0, JI 5 3]) .ret) .skip) (.seq (.reg [JI 8 0]) (.seq (.seq (.reg [JI 9 0]) (.block 0 (.loop lb51_0))) (.seq (.reg [JA 52 8, JB 4 52, JI 5 0]) .ret)))))))
theorem fi51 : FI Tryz.prog 51 cf51 ac51 [.t 4, .t 5] [0, 1, 4, 5, 7, 8, 9] 53 := FI_of (c := Tryz.f51.body.getD .skip) Tryz.func51 (by kernel_rfl) (by rfl) (by rfl) (by kernel_rfl) (by kernel_rfl) rfl rfl rfl
@[simp] theorem cfP51 : cf51.P = Tryz.prog := (rfl)
noncomputable def cf58 : Cfg := ⟨Tryz.prog, 52, [0, 1, 4, 5, 6, 7, 8, 9, 10], [28]⟩
@[simp] theorem cfP58 : cf58.P = Tryz.prog := (rfl)
noncomputable def cf63 : Cfg := ⟨Tryz.prog, 7, [0, 2, 3], [6]⟩
noncomputable def ac63 : AC :=
 (.seq (.reg [JP 2 (.mv (.c (.slice none 0 0)))]) (.seq (.reg [JP 3 (.mv (.c (.slice none 0 0)))]) (.seq (.reg [JA 4 3, JA 5 0, JO 6 (.app 1 8 [JV] (.t 4) (.t 5)), JB 2 6]) .ret)))
theorem fi63 : FI Tryz.prog 63 cf63 ac63 [.t 2] [0, 2, 3] 7 := FI_of (c := Tryz.f63.body.getD .skip) Tryz.func63 (by kernel_rfl) (by rfl) (by rfl) (by kernel_rfl) (by kernel_rfl) rfl rfl rfl
@[simp] theorem cfP63 : cf63.P = Tryz.prog := (rfl)
noncomputable def cf26 : Cfg := ⟨Tryz.prog, 53, [0, 1, 2, 3, 4, 5, 6, 7, 8], [18]⟩
noncomputable def lb26_0 : AC :=
 .seq (.ifr [JA 39 8, JA 40 4, JO 41 (.bin .lss 3 (.t 39) (.t 40))] (.t 41) .skip (.exit 0)) (.seq (.block 1 (.ifr [JA 44 6, JA 45 8, JL 46 1 44 45, JD 47 1 46, JG 48 1 1, JD 49 1 48, JO 50 (.pc (.f 33) [.t 49]), JO 51 (.bin .gtr 3 (.t 47) (.t 50))] (.t 51) (.seq (.reg [JP 2 (.mv (.c (.slice none 0 0))), JP 3 (.mv JY)]) .ret) .skip)) (.reg [JA 42 8, JO 43 (.bin .add 3 (.t 42) (JT 1)), JB 8 43]))
noncomputable def ac26 : AC :=
 (.seq (.reg [JN 1 0, JP 2 (.mv (.c (.slice none 0 0))), JP 3 (.mv JY)]) (.seq (.reg [JG 10 0 1, JD 11 1 10, JO 12 (.pc (.f 31) [.t 11]), JC 9 12, JK 13 0 9, JK 14 1 9, JB 4 13, JB 5 14]) (.seq (.reg [JG 16 2 1, JE 17 2 16, JO 18 (.cl (.f 59) [.t 17]), JC 15 18, JK 19 0 15, JK 20 1 15, JB 6 19, JB 7 20]) (.seq (.ifr [JA 21 5, JO 22 (.bin .neq 3 (.t 21) (JT 0)), JC 23 22, JR 24 23 (.mv (.g 7)), JR 25 23 (.un .not (.t 24)), JO 26 (.pick (.t 23) JX (.t 25)), JC 27 26, JR 28 27 (.mv (.g 6)), JR 29 27 (.len false (.t 28)), JR 30 27 (.mv (.g 4)), JR 31 27 (.bin .neq 3 (.t 29) (.t 30)), JO 32 (.pick (.t 27) JX (.t 31)), JC 33 32, JR 34 33 (.fa 1 (.g 1)), JR 35 33 (.ld false 1 (.t 34)), JR 36 33 (.pc (.f 33) [.t 35]), JR 37 33 (.bin .lss 3 (.t 36) (JT 0)), JO 38 (.pick (.t 33) JX (.t 37))] (.t 38) (.seq (.reg [JP 2 (.mv (.c (.slice none 0 0))), JP 3 (.mv JY)]) .ret) .skip) (.seq (.seq (.reg [JI 8 0]) (.block 0 (.loop lb26_0))) (.seq (.reg [JA 52 6, JB 2 52, JP 3 (.mv JX)]) .ret))))))
theorem fi26 : FI Tryz.prog 26 cf26 ac26 [.t 2, .t 3] [0, 1, 2, 3, 4, 5, 6, 7, 8] 53 := FI_of (c := Tryz.f26.body.getD .skip) Tryz.func26 (by kernel_rfl) (by rfl) (by rfl) (by kernel_rfl) (by kernel_rfl) rfl rfl rfl
@[simp] theorem cfP26 : cf26.P = Tryz.prog := (rfl)
noncomputable def cf34 : Cfg := ⟨Tryz.prog, 13, [0, 1, 2, 6], []⟩
noncomputable def ac34 : AC :=
 (.seq (.reg [JP 6 (.al [JW, JV, JV, JW])]) (.seq (.reg [JA 7 0, JO 8 (.pc (.f 63) [.t 7]), JA 9 1, JA 10 2, JO 11 (.pc (.f 64) [.t 10]), JO 12 (.bld [JW, JV, JV, JW] [(0, 1, .t 8), (1, 1, .t 9), (2, 2, .t 11)]), JQ (.st 4 (.g 6) (.t 12))]) .ret))
theorem fi34 : FI Tryz.prog 34 cf34 ac34 [.c 6 true 4] [0, 1, 2, 6] 13 := FI_of (c := Tryz.f34.body.getD .skip) Tryz.func34 (by kernel_rfl) (by rfl) (by rfl) (by kernel_rfl) (by kernel_rfl) rfl rfl rfl
@[simp] theorem cfP34 : cf34.P = Tryz.prog := (rfl)
noncomputable def cf27 : Cfg := ⟨Tryz.prog, 78, [0, 1, 2, 3, 4, 5, 6, 7, 9, 10], [29, 60]⟩
@[simp] theorem cfP27 : cf27.P = Tryz.prog := (rfl)
noncomputable def cf23 : Cfg := ⟨Tryz.prog, 46, [0, 1, 2, 3, 4, 5], []⟩
@[simp] theorem cfP23 : cf23.P = Tryz.prog := (rfl)
noncomputable def cf67 : Cfg := ⟨Tryz.prog, 10, [0, 2, 3, 4, 5], []⟩
noncomputable def ac67 : AC :=
 (.seq (.reg [JI 2 0, JI 3 0]) (.seq (.seq (.reg [JP 4 (.mv (.g 0))]) (.block 0 (.seq (.ifr [JO 6 (.bin .eql 25 (.g 4) (JT 1)), JB 5 6] (.g 5) .skip (.reg [JO 7 (.bin .eql 25 (.g 4) (JT 2)), JB 5 7])) (.cond (.g 5) (.seq (.reg [JI 2 1, JI 3 0]) .ret) (.ifr [JO 9 (.bin .eql 25 (.g 4) (JT 3)), JC 8 9] (.t 8) (.seq (.reg [JI 2 3, JI 3 0]) .ret) .skip))))) (.seq (.reg [JI 2 0, JI 3 3]) .ret)))
theorem fi67 : FI Tryz.prog 67 cf67 ac67 [.t 2, .t 3] [0, 2, 3, 4, 5] 10 := FI_of (c := Tryz.f67.body.getD .skip) Tryz.func67 (by kernel_rfl) (by rfl) (by rfl) (by kernel_rfl) (by kernel_rfl) rfl rfl rfl
@[simp] theorem cfP67 : cf67.P = Tryz.prog := (rfl)
noncomputable def cf36 : Cfg := ⟨Tryz.prog, 24, [0, 1, 4, 5, 6], []⟩
noncomputable def ac36 : AC :=
 (.seq (.reg [JI 4 0]) (.seq (.reg [JA 8 0, JO 9 (.pc (.f 67) [.t 8]), JC 7 9, JK 10 0 7, JK 11 1 7, JB 5 10, JB 6 11]) (.seq (.ifr [JA 12 6, JO 13 (.bin .eql 52 (.t 12) (JT 0)), JC 14 13, JS 15 14 (.mv (.g 1)), JS 16 14 (.bin .lss 49 (.t 15) (JT 0)), JS 17 14 (.mv (.t 16)), JR 18 17 (.mv (.g 1)), JR 19 17 (.mv (.g 5)), JR 20 17 (.bin .gtr 49 (.t 18) (.t 19)), JS 21 14 (.pick (.t 17) JX (.t 20)), JO 22 (.pick (.t 14) (.t 21) JY)] (.t 22) (.seq (.reg [JI 4 2]) .ret) .skip) (.seq (.reg [JA 23 6, JB 4 23]) .ret))))
theorem fi36 : FI Tryz.prog 36 cf36 ac36 [.t 4] [0, 1, 4, 5, 6] 24 := FI_of (c := Tryz.f36.body.getD .skip) Tryz.func36 (by kernel_rfl) (by rfl) (by rfl) (by kernel_rfl) (by kernel_rfl) rfl rfl rfl
@[simp] theorem cfP36 : cf36.P = Tryz.prog := (rfl)
noncomputable def cf103 : Cfg := ⟨Tryz.prog, 19, [0, 1, 4, 5], []⟩
noncomputable def ac103 : AC :=
 (.seq (.reg [JI 4 0, JI 5 0]) (.seq (.ifr [JA 6 0, JO 7 (.pc (.f 36) [.c (.int .i64 1), .t 6]), JO 8 (.bin .neq 52 (.t 7) (JT 0)), JC 9 8, JR 10 9 (.mv (.g 1)), JR 11 9 (.pc (.f 36) [.c (.int .i64 3), .t 10]), JR 12 9 (.bin .neq 52 (.t 11) (JT 0)), JO 13 (.pick (.t 9) JX (.t 12))] (.t 13) (.seq (.reg [JI 4 0, JI 5 2]) .ret) .skip) (.seq (.reg [JA 14 1, JA 15 0, JO 16 (.bin .add 49 (JT 2) (.t 15)), JO 17 (.bi .min [.t 14, .t 16]), JO 18 (.bi .max [.c (.int .i64 1), .t 17]), JB 4 18, JI 5 0]) .ret)))
theorem fi103 : FI Tryz.prog 103 cf103 ac103 [.t 4, .t 5] [0, 1, 4, 5] 19 := FI_of (c := Tryz.f103.body.getD .skip) Tryz.func103 (by kernel_rfl) (by rfl) (by rfl) (by kernel_rfl) (by kernel_rfl) rfl rfl rfl
@[simp] theorem cfP103 : cf103.P = Tryz.prog := (rfl)
noncomputable def cf102 : Cfg := ⟨Tryz.prog, 22, [0, 2, 3, 7], []⟩
noncomputable def ac102 : AC :=
 (.seq (.reg [JP 2 (.mv (.c (.slice none 0 0))), JI 3 0]) (.seq (.ifr [JA 4 0, JO 5 (.pc (.f 36) [.c (.int .i64 3), .t 4]), JO 6 (.bin .neq 52 (.t 5) (JT 0))] (.t 6) (.seq (.reg [JP 2 (.mv (.c (.slice none 0 0))), JI 3 2]) .ret) .skip) (.seq (.seq (.reg [JP 7 (.mv (.g 0))]) (.block 0 (.ifr [JO 9 (.bin .eql 49 (.g 7) (JT 0)), JC 8 9] (.t 8) (.seq (.reg [JP 2 (.mv (.c (.slice none 0 0))), JI 3 0]) .ret) (.ifr [JO 11 (.bin .eql 49 (.g 7) (JT 2)), JC 10 11] (.t 10) (.seq (.reg [JO 12 (.bld [.bool false, JV, JV] [(2, 1, .c (.int .i64 3))]), JO 13 (.bld [.bool false, JV, JV] [(1, 1, .c (.int .i64 1)), (2, 1, .c (.int .i64 2))]), JO 14 (.bsl 3 2 [.bool false, JV, JV] [(0, 3, .t 12), (3, 3, .t 13)]), JB 2 14, JI 3 0]) .ret) (.ifr [JO 16 (.bin .eql 49 (.g 7) (JT 3)), JC 15 16] (.t 15) (.seq (.reg [JO 17 (.bld [.bool false, JV, JV] [(0, 1, .c (.bool true))]), JO 18 (.bld [.bool false, JV, JV] [(1, 1, .c (.int .i64 1)), (2, 1, .c (.int .i64 3))]), JO 19 (.bsl 3 2 [.bool false, JV, JV] [(0, 3, .t 17), (3, 3, .t 18)]), JB 2 19, JI 3 0]) .ret) .skip))))) (.seq (.reg [JO 20 (.bld [.bool false, JV, JV] [(1, 1, .c (.int .i64 1)), (2, 1, .c (.int .i64 1))]), JO 21 (.bsl 3 1 [.bool false, JV, JV] [(0, 3, .t 20)]), JB 2 21, JI 3 0]) .ret))))
theorem fi102 : FI Tryz.prog 102 cf102 ac102 [.t 2, .t 3] [0, 2, 3, 7] 22 := FI_of (c := Tryz.f102.body.getD .skip) Tryz.func102 (by kernel_rfl) (by rfl) (by rfl) (by kernel_rfl) (by kernel_rfl) rfl rfl rfl
@[simp] theorem cfP102 : cf102.P = Tryz.prog := (rfl)
noncomputable def cf33 : Cfg := ⟨Tryz.prog, 9, [0, 2, 3, 4], []⟩
noncomputable def ac33 : AC :=
 (.seq (.reg [JI 2 0]) (.seq (.seq (.reg [JP 3 (.mv (.g 0))]) (.block 0 (.seq (.ifr [JO 5 (.bin .eql 25 (.g 3) (JT 1)), JB 4 5] (.g 4) .skip (.reg [JO 6 (.bin .eql 25 (.g 3) (JT 2)), JB 4 6])) (.cond (.g 4) (.seq (.reg [JI 2 1]) .ret) (.ifr [JO 8 (.bin .eql 25 (.g 3) (JT 3)), JC 7 8] (.t 7) (.seq (.reg [JI 2 3]) .ret) .skip))))) (.seq (.reg [JI 2 (-1)]) .ret)))
theorem fi33 : FI Tryz.prog 33 cf33 ac33 [.t 2] [0, 2, 3, 4] 9 := FI_of (c := Tryz.f33.body.getD .skip) Tryz.func33 (by kernel_rfl) (by rfl) (by rfl) (by kernel_rfl) (by kernel_rfl) rfl rfl rfl
@[simp] theorem cfP33 : cf33.P = Tryz.prog := (rfl)
noncomputable def cf41 : Cfg := ⟨Tryz.prog, 12, [0, 1, 4], []⟩
noncomputable def ac41 : AC :=
 (.seq (.reg [JI 4 0]) (.seq (.ifr [JA 5 0, JO 6 (.pc (.f 33) [.t 5]), JO 7 (.bin .lss 3 (.t 6) (JT 0))] (.t 7) (.seq (.reg [JI 4 3]) .ret) .skip) (.seq (.ifr [JA 8 0, JA 9 1, JO 10 (.pc (.f 15) [.t 8, .t 9]), JO 11 (.un .not (.t 10))] (.t 11) (.seq (.reg [JI 4 2]) .ret) .skip) (.seq (.reg [JI 4 0]) .ret))))
theorem fi41 : FI Tryz.prog 41 cf41 ac41 [.t 4] [0, 1, 4] 12 := FI_of (c := Tryz.f41.body.getD .skip) Tryz.func41 (by kernel_rfl) (by rfl) (by rfl) (by kernel_rfl) (by kernel_rfl) rfl rfl rfl
@[simp] theorem cfP41 : cf41.P = Tryz.prog := (rfl)
noncomputable def cf15 : Cfg := ⟨Tryz.prog, 13, [0, 1, 4], []⟩
noncomputable def ac15 : AC :=
 (.seq (.reg [JP 4 (.mv JY)]) (.seq (.reg [JA 5 1, JO 6 (.bin .geq 49 (.t 5) (JT 0)), JC 7 6, JS 8 7 (.mv (.g 1)), JS 9 7 (.mv (.g 0)), JS 10 7 (.pc (.f 33) [.t 9]), JS 11 7 (.bin .leq 3 (.t 8) (.t 10)), JO 12 (.pick (.t 7) (.t 11) JY), JB 4 12]) .ret))
theorem fi15 : FI Tryz.prog 15 cf15 ac15 [.t 4] [0, 1, 4] 13 := FI_of (c := Tryz.f15.body.getD .skip) Tryz.func15 (by kernel_rfl) (by rfl) (by rfl) (by kernel_rfl) (by kernel_rfl) rfl rfl rfl
@[simp] theorem cfP15 : cf15.P = Tryz.prog := (rfl)
noncomputable def cf106 : Cfg := ⟨Tryz.prog, 14, [0, 1, 4], []⟩
noncomputable def ac106 : AC :=
 (.seq (.reg [JI 4 0]) (.seq (.ifr [JA 5 1, JO 6 (.bin .eql 49 (.t 5) (JT 0))] (.t 6) (.seq (.reg [JI 4 1]) .ret) .skip) (.seq (.ifr [JA 7 1, JO 8 (.bin .eql 49 (.t 7) (JT 3)), JC 9 8, JS 10 9 (.mv (.g 0)), JS 11 9 (.bin .eql 49 (.t 10) (JT 0)), JO 12 (.pick (.t 9) (.t 11) JY)] (.t 12) (.seq (.reg [JI 4 2]) .ret) .skip) (.seq (.reg [JA 13 1, JB 4 13]) .ret))))
theorem fi106 : FI Tryz.prog 106 cf106 ac106 [.t 4] [0, 1, 4] 14 := FI_of (c := Tryz.f106.body.getD .skip) Tryz.func106 (by kernel_rfl) (by rfl) (by rfl) (by kernel_rfl) (by kernel_rfl) rfl rfl rfl
@[simp] theorem cfP106 : cf106.P = Tryz.prog := (rfl)
noncomputable def cf105 : Cfg := ⟨Tryz.prog, 18, [0, 2, 3], []⟩
noncomputable def ac105 : AC :=
 (.seq (.reg [JP 2 (.mv (.c (.slice none 0 0)))]) (.seq (.seq (.reg [JP 3 (.mv (.g 0))]) (.block 0 (.ifr [JO 5 (.bin .eql 49 (.g 3) (JT 1)), JC 4 5] (.t 4) (.seq (.reg [JO 6 (.bld [.bool false, JV, JV] [(1, 1, .c (.int .i64 1)), (2, 1, .c (.int .i64 1))]), JO 7 (.bsl 3 1 [.bool false, JV, JV] [(0, 3, .t 6)]), JB 2 7]) .ret) (.ifr [JO 9 (.bin .eql 49 (.g 3) (JT 2)), JC 8 9] (.t 8) (.seq (.reg [JO 10 (.bld [.bool false, JV, JV] [(2, 1, .c (.int .i64 3))]), JO 11 (.bld [.bool false, JV, JV] [(1, 1, .c (.int .i64 1)), (2, 1, .c (.int .i64 2))]), JO 12 (.bsl 3 2 [.bool false, JV, JV] [(0, 3, .t 10), (3, 3, .t 11)]), JB 2 12]) .ret) (.ifr [JO 14 (.bin .eql 49 (.g 3) (JT 3)), JC 13 14] (.t 13) (.seq (.reg [JO 15 (.bld [.bool false, JV, JV] [(0, 1, .c (.bool true))]), JO 16 (.bld [.bool false, JV, JV] [(1, 1, .c (.int .i64 1)), (2, 1, .c (.int .i64 3))]), JO 17 (.bsl 3 2 [.bool false, JV, JV] [(0, 3, .t 15), (3, 3, .t 16)]), JB 2 17]) .ret) .skip))))) (.seq (.reg [JP 2 (.mv (.c (.slice none 0 0)))]) .ret)))
theorem fi105 : FI Tryz.prog 105 cf105 ac105 [.t 2] [0, 2, 3] 18 := FI_of (c := Tryz.f105.body.getD .skip) Tryz.func105 (by kernel_rfl) (by rfl) (by rfl) (by kernel_rfl) (by kernel_rfl) rfl rfl rfl
@[simp] theorem cfP105 : cf105.P = Tryz.prog := (rfl)
def tp (t : Int) : Int := if t = 1 then 1 else if t = 2 then 1 else if t = 3 then 3 else -1
theorem tp_1 : tp 1 = 1 := rfl
theorem qQ : tp 3 = 3 := rfl
theorem tK (t : Int) : (t = 1 ∧ tp t = 1) ∨ (t = 2 ∧ tp t = 1) ∨ (t = 3 ∧ tp t = 3) ∨ (t ≠ 1 ∧ t ≠ 2 ∧ t ≠ 3 ∧ tp t = -1) := by
 unfold tp
 by_cases h1 : t = 1
 ·simp [h1]
 ·by_cases h2 : t = 2
  ·simp [h2]
  ·by_cases h3 : t = 3
   ·simp [h3]
   ·simp [h1, h2, h3]
def nL (t : Int) : D := if tp t < 0 then .tup [I 0, I 3] else .tup [I (tp t), I 0]
theorem Top_c (t : Int) : Pure Tryz.prog 67 [I t] (nL t) := by
 refine fi67.pu (by simp) ?_
 rcases tK t with ⟨rfl, h⟩ | ⟨rfl, h⟩ | ⟨rfl, h⟩ | ⟨h1, h2, h3, h⟩
 ·simp -implicitDefEqProofs [ac67, nL, h]
 ·simp -implicitDefEqProofs [ac67, nL, h]
 ·simp -implicitDefEqProofs [ac67, nL, h]
 ·simp -implicitDefEqProofs [ac67, nL, h, h1, h2, h3]
theorem iA (t : Int) : Pure Tryz.prog 33 [I t] (I (tp t)) := by
 refine fi33.pu (by simp) ?_
 rcases tK t with ⟨rfl, h⟩ | ⟨rfl, h⟩ | ⟨rfl, h⟩ | ⟨h1, h2, h3, h⟩
 ·simp -implicitDefEqProofs [ac33, h]
 ·simp -implicitDefEqProofs [ac33, h]
 ·simp -implicitDefEqProofs [ac33, h]
 ·simp -implicitDefEqProofs [ac33, h, h1, h2, h3]
def ck (t p : Int) : Int := if tp t < 0 then 3 else if 0 ≤ p ∧ p ≤ tp t then 0 else 2
theorem x5 {t p : Int} : ck t p = 0 ↔ 0 ≤ p ∧ p ≤ tp t := by
 unfold ck
 by_cases h : tp t < 0
 ·rw [if_pos h]; simp; omega
 ·rw [if_neg h]
  by_cases h2 : 0 ≤ p ∧ p ≤ tp t <;> simp [h2]
theorem iG (t p : Int) : Pure Tryz.prog 36 [I t, I p] (I (ck t p)) := by
 refine fi36.pu (by simp) ?_
 simp -implicitDefEqProofs [ac36]
 refine aG (Top_c t) (by simp) ?_
 simp -implicitDefEqProofs
 by_cases h : tp t < 0
 ·simp -implicitDefEqProofs [nL, h, ck]
 ·by_cases h1 : p < 0
  ·have : ¬ 0 ≤ p := by omega
   simp -implicitDefEqProofs [nL, h, ck, h1, this]
  ·have h0 : 0 ≤ p := by omega
   by_cases h2 : p ≤ tp t
   ·have : ¬ tp t < p := by omega
    simp -implicitDefEqProofs [nL, h, ck, h1, h0, h2, this]
   ·have : tp t < p := by omega
    simp -implicitDefEqProofs [nL, h, ck, h1, h0, h2, this]
theorem Is_c (t p : Int) : Pure Tryz.prog 15 [I t, I p] (B (decide (0 ≤ p ∧ p ≤ tp t))) := by
 refine fi15.pu (by simp) ?_
 by_cases h : 0 ≤ p
 ·simp -implicitDefEqProofs [ac15, h]
  refine aG (iA t) (by simp) ?_
  simp -implicitDefEqProofs
 ·simp -implicitDefEqProofs [ac15, h]
theorem uU (t p : Int) : Pure Tryz.prog 41 [I t, I p] (I (ck t p)) := by
 refine fi41.pu (by simp) ?_
 simp -implicitDefEqProofs [ac41]
 refine aG (iA t) (by simp) ?_
 simp -implicitDefEqProofs
 by_cases h : tp t < 0
 ·have h' : ¬ 0 ≤ tp t := by omega
  simp -implicitDefEqProofs [h, ck, h']
 ·have h' : 0 ≤ tp t := by omega
  simp -implicitDefEqProofs [h, h']
  refine aG (Is_c t p) (by simp) ?_
  simp -implicitDefEqProofs
  by_cases h1 : 0 ≤ p ∧ p ≤ tp t
  ·simp -implicitDefEqProofs [h1, ck, h]
  ·simp -implicitDefEqProofs [h1, ck, h]
   omega
def cnF (h t : Int) : Int := max 1 (min t (2 + h))
theorem GO {h t : Int} (h1 : 0 ≤ h ∧ h ≤ 1) (h2 : 0 ≤ t ∧ t ≤ 3) : Pure Tryz.prog 103 [I h, I t] (.tup [I (cnF h t), I 0]) := by
 have e1 : ck 1 h = 0 := x5.2 h1
 have e2 : ck 3 t = 0 := x5.2 h2
 refine fi103.pu (by simp) ?_
 simp -implicitDefEqProofs [ac103]
 refine aG (iG 1 h) (by simp) ?_
 simp -implicitDefEqProofs [e1]
 refine aG (iG 3 t) (by simp) ?_
 simp -implicitDefEqProofs [e2, cnF]
 rw [aT (by omega) (by omega)]
theorem DN {h t : Int} (h1 : 0 ≤ h ∧ h ≤ 1) (h2 : 0 ≤ t ∧ t ≤ 3) : Pure Tryz.prog 106 [I h, I t] (I (cnF h t)) := by
 refine fi106.pu (by simp) ?_
 have : h = 0 ∨ h = 1 := by omega
 have : t = 0 ∨ t = 1 ∨ t = 2 ∨ t = 3 := by omega
 rcases ‹h = 0 ∨ h = 1› with rfl | rfl <;> rcases ‹t = 0 ∨ t = 1 ∨ t = 2 ∨ t = 3› with rfl | rfl | rfl | rfl <;> simp -implicitDefEqProofs [ac106] <;> rfl
structure Br where
 nl : Bool
 hd : Int
 tl : Int
deriving Inhabited, DecidableEq
def u_ (b : Br) : List D := [B b.nl, I b.hd, I b.tl]
def csF (p : Int) : List Br := if p = 0 then [] else if p = 1 then [⟨false, 1, 1⟩] else if p = 2 then [⟨false, 0, 3⟩, ⟨false, 1, 2⟩] else [⟨true, 0, 0⟩, ⟨false, 1, 3⟩]
theorem wL {p : Int} (h : 0 ≤ p ∧ p ≤ 3) : Pure Tryz.prog 102 [I p] (.tup [.sl (em u_ (csF p)), I 0]) ∧ Pure Tryz.prog 105 [I p] (.sl (em u_ (csF p))) := by
 have e1 : ck 3 p = 0 := x5.2 h
 have hp : p = 0 ∨ p = 1 ∨ p = 2 ∨ p = 3 := by omega
 refine ⟨?_, ?_⟩
 ·refine fi102.pu (by simp) ?_
  simp -implicitDefEqProofs [ac102]
  refine aG (iG 3 p) (by simp) ?_
  simp -implicitDefEqProofs
  rcases hp with rfl | rfl | rfl | rfl <;> simp -implicitDefEqProofs [e1, csF, u_, em]
 ·refine fi105.pu (by simp) ?_
  rcases hp with rfl | rfl | rfl | rfl <;> simp -implicitDefEqProofs [ac105, csF, u_, em]
noncomputable def cf86 : Cfg := ⟨Tryz.prog, 4, [0, 1, 2], []⟩
@[simp] theorem cfP86 : cf86.P = Tryz.prog := (rfl)
noncomputable def cf113 : Cfg := ⟨Tryz.prog, 19, [0, 1, 3], []⟩
@[simp] theorem cfP113 : cf113.P = Tryz.prog := (rfl)
end Go.Fx.YtlhdpfaohphbaaaGreat
namespace Go.Fx
open Go
inductive rLc : List D → List D → Prop where
 | nil : rLc [] []
 | cons {d d' : D} {ds ds' : List D} (h : rLe d d') (k : rLc ds ds') : rLc (d :: ds) (d' :: ds')
inductive rLe2 : List (List D) → List (List D) → Prop where
 | nil : rLe2 [] []
 | cons {d d' : List D} {ds ds' : List (List D)} (h : rLc d d') (k : rLe2 ds ds') : rLe2 (d :: ds) (d' :: ds')
theorem rLc.refl : ∀ {ds : List D}, rLc ds ds
 | [] => .nil
 | _ :: _ => .cons rLe.refl rLc.refl
theorem rLe2.refl : ∀ {ds : List (List D)}, rLe2 ds ds
 | [] => .nil
 | _ :: _ => .cons rLc.refl rLe2.refl
theorem rLc.len {ds ds' : List D} (h : rLc ds ds') : ds'.length = ds.length := by
 induction h with
 | nil => rfl
 | cons _ _ ih => simp [ih]
theorem rLe2.len {ds ds' : List (List D)} (h : rLe2 ds ds') : ds'.length = ds.length := by
 induction h with
 | nil => rfl
 | cons _ _ ih => simp [ih]
mutual
def D.flat : D → Bool
 | .pl _ => true
 | .agg cs => D.flats cs
 | .tup cs => D.flats cs
 | _ => false
def D.flats : List D → Bool
 | [] => true
 | d :: ds => d.flat && D.flats ds
end
mutual
theorem AM {w w' : World} {S S' : Nat → Prop} {φ φ' : a_} : ∀ (d : D) (x : Value), d.flat = true → Rep w S φ d x → Rep w' S' φ' d x
 | .pl v, x, _, h => by simpa [Rep] using h
 | .agg cs, x, hf, h => by
  simp only [D.flat] at hf
  simp only [Rep] at h ⊢
  obtain ⟨vs, h1, h2⟩ := h
  exact ⟨vs, h1, rV cs _ hf h2⟩
 | .tup cs, x, hf, h => by
  simp only [D.flat] at hf
  simp only [Rep] at h ⊢
  obtain ⟨vs, h1, h2⟩ := h
  exact ⟨vs, h1, rV cs _ hf h2⟩
 | .top, x, hf, _ => by simp [D.flat] at hf
 | .zs, x, hf, _ => by simp [D.flat] at hf
 | .sl _, x, hf, _ => by simp [D.flat] at hf
 | .pt _, x, hf, _ => by simp [D.flat] at hf
 | .opt _ _, x, hf, _ => by simp [D.flat] at hf
 | .osl _ _ _ _, x, hf, _ => by simp [D.flat] at hf
 | .oel _ _ _ _, x, hf, _ => by simp [D.flat] at hf
 | .omap _, x, hf, _ => by simp [D.flat] at hf
 | .fn _ _, x, hf, _ => by simp [D.flat] at hf
theorem rV {w w' : World} {S S' : Nat → Prop} {φ φ' : a_} : ∀ (ds : List D) (xs : List Value), D.flats ds = true → RepVs w S φ ds xs → RepVs w' S' φ' ds xs
 | [], xs, _, h => by simpa [RepVs] using h
 | d :: ds, xs, hf, h => by
  simp only [D.flats, Bool.and_eq_true] at hf
  simp only [RepVs] at h ⊢
  obtain ⟨x, r, h1, h2, h3⟩ := h
  exact ⟨x, r, h1, AM d x hf.1 h2, rV ds r hf.2 h3⟩
end
section
variable {P : Program} {f : FuncId} {args args' : List D} {mem mf : Mem} {nx : Nat} {K : KD}
theorem jJ {d0 : D} (hf : d0.flat = true) (h1 : bY mem mf) (hfr : eG mf 100 args = some args') (hp : Pure P f args' d0) (hk : K d0 mem nx) : bH P f args mem nx K := by
 refine ⟨hp.1, fun S φ w xs hm hx => ?_⟩
 have hmf : MSim S φ mf nx w := f_ hm (gB h1) (Nat.le_refl _)
 have hargs := iU hmf 100 args args' xs hfr hx
 have hS2 : ∀ b, SF S φ mf b → b < w.heap.size := by
  rintro b (h | ⟨i, blk, l, _, g2, g3, rfl⟩)
  ·exact hm.sub b h
  ·exact hm.lt i l g2 g3
 refine (hp.2 (SF S φ mf) w xs hS2 hargs).mono ?_
 rintro e w' ⟨v, S', rfl, hr, hx', hS'⟩
 have hsame : ∀ b, b < w.heap.size → w'.heap[b]? = w.heap[b]? := fun b hb => hx'.keep b hb (by rintro ⟨i, blk, l, h1, _⟩; simp [look] at h1)
 have hst : Stays w S φ w' S φ := Stays.of_heap (fun _ h => h) (fun b hb => hsame b (hm.sub b hb)) (fun _ _ h => h)
 refine ⟨v, d0, mem, nx, S, φ, rfl, hk, Nat.le_refl _, ⟨?_, hm.inj, ?_, hm.fresh, fun b hb => Nat.lt_of_lt_of_le (hm.sub b hb) hx'.size⟩, AM d0 v hf hr, hst,
  ⟨fun b hb => hb, fun b hb _ => hsame b hb, hx'.size, fun b _ h => h, fun b hb => .inl hb, hx'.os, hx'.output, hx'.tape⟩, fun _ _ h => h⟩
 ·intro i blk hi
  obtain ⟨l, g1, g2, g3⟩ := hm.mem i blk hi
  exact ⟨l, g1, g2, g3.mono hst fun hr => hsame _ (hm.lt i l g1 hr)⟩
 ·intro i l g1 g2
  exact Nat.lt_of_lt_of_le (hm.lt i l g1 g2) hx'.size
end
set_option maxRecDepth 100000
section
variable {C : Cfg} {w w' W W' : World} {S S' : Nat → Prop} {φ φ' : a_} {a : Act} {env tl : Env} {mem mem' : Mem} {nx nx' : Nat} {x : Rx} {s : St}
structure Grown (w w' : World) : Prop where
 size : w.heap.size ≤ w'.heap.size
 same : ∀ b, b < w.heap.size → w'.heap[b]? = w.heap[b]?
 os : w'.os = w.os
 output : w'.output = w.output
 tape : w'.tape = w.tape
theorem Grown.ext (h : Grown w w') : Ext S φ mem w S φ mem w' := ⟨fun _ h => h, fun b hb _ => h.same b hb, h.size, fun _ _ h => h, fun _ h => .inl h, h.os, h.output, h.tape⟩
end
section
variable {C : Cfg} {Q : Exit → St → Prop} {env : Env} {mem : Mem} {nx : Nat}
end
section
variable {C : Cfg} {w : World} {S : Nat → Prop} {φ : a_} {a : Act} {env tl : Env} {mem : Mem} {nx : Nat}
end
section
variable {P : Program} {ty e : TypeId} {f : FuncId} {r : D} {es : List (List D)}
theorem KV (hu : P.underlying ty = some (.slice e)) (h : es ≠ []) : bE P .eql ty (.sl es) (.pl (.slice none 0 0)) = some (.pl (.bool false)) := by
 cases es with
 | nil => exact absurd rfl h
 | cons a l => simp [bE, nilS, hu]
theorem IX (hu : P.underlying ty = some (.slice e)) {p : Addr} {n c : Nat} : bE P .eql ty (.pl (.slice (some p) n c)) (.pl (.slice none 0 0)) = some (.pl (.bool false)) := by
 simp [bE, nilS, hu, lit]
theorem HG (hu : P.underlying ty = some (.slice e)) : Sem.look P (Op.equal ty (.slice none 0 0) (.slice none 0 0)) = some true := by
 unfold Op.equal Op.maxDepth Op.equalIn
 simp [nJ, underlying, program, Bind.bind, Sem.bind, Sem.look, hu, Pure.pure]
theorem KO (hu : P.underlying ty = some (.slice e)) : bE P .eql ty (.pl (.slice none 0 0)) (.pl (.slice none 0 0)) = some (.pl (.bool true)) := by
 simp only [bE, lit, Bool.and_self, if_true]
 rw [show binOp .eql ty (.slice none 0 0) (.slice none 0 0) = (Op.equal ty (.slice none 0 0) (.slice none 0 0) >>= fun b => pure (.bool b)) from rfl, nJ, HG hu]
 rfl
theorem CG (h1 : Pure P f [.pl (.slice none 0 0)] r) (h2 : ∀ p c, Pure P f [.pl (.slice (some p) 0 c)] r) (h3 : es ≠ [] → Pure P f [.sl es] r) : Pure P f [.sl es] r := by
 by_cases he : es = []
 ·subst he
  refine ⟨h1.1, fun S w xs hS hx => ?_⟩
  simp only [RepVs] at hx
  obtain ⟨x, rest, rfl, hx, rfl⟩ := hx
  simp only [Rep] at hx
  have hz : x = .slice none 0 0 ∨ ∃ p c, x = .slice (some p) 0 c := by
   rcases hx with ⟨_, hz | ⟨p, hz⟩⟩ | ⟨b, o, cap, k, hz, _⟩
   ·exact .inl hz
   ·exact .inr ⟨p, 0, hz⟩
   ·exact .inr ⟨_, cap, hz⟩
  rcases hz with rfl | ⟨p, c, rfl⟩
  ·exact h1.2 S w _ hS (by simp [RepVs, Rep])
  ·exact (h2 p c).2 S w _ hS (by simp [RepVs, Rep])
 ·exact h3 he
end
end Go.Fx
set_option maxHeartbeats 4000000
namespace Go.Fx.YtlhdpfaohphbaaaGreat
open Go Go.Fx Go.Proofs
def okT (ts : List Int) : Prop := ∀ t ∈ ts, 0 ≤ tp t
instance (ts : List Int) : Decidable (okT ts) := by unfold okT; infer_instance
def pr : List Int → Int
 | [] => 1
 | t :: ts => (tp t + 1) * pr ts
def cR (ts : List Int) : Int × Int := if okT ts then (if 4096 < pr ts then (0, 22) else (pr ts, 0)) else (0, 3)
theorem sG (t : Int) (ts : List Int) : pr (t :: ts) = (tp t + 1) * pr ts := rfl
theorem gI (t : Int) : tp t = -1 ∨ tp t = 1 ∨ tp t = 3 := by
 rcases tK t with ⟨_, h⟩ | ⟨_, h⟩ | ⟨_, h⟩ | ⟨_, _, _, h⟩ <;> simp [h]
theorem CU : ∀ (ts : List Int), 0 ≤ pr ts
 | [] => by simp [pr]
 | t :: ts => by
  unfold pr
  rcases gI t with h | h | h <;> rw [h] <;> have := CU ts <;> omega
theorem okT_tl {t : Int} {ts : List Int} (h : okT (t :: ts)) : 0 ≤ tp t ∧ okT ts := ⟨h t (by simp), fun u hu => h u (by simp [hu])⟩
theorem tH {ts : List Int} (h : okT ts) (i : Nat) : okT (ts.drop i) := fun t ht => h t (List.mem_of_mem_drop ht)
theorem nE : ∀ {ts : List Int}, okT ts → 1 ≤ pr ts
 | [], _ => by simp [pr]
 | t :: ts, h => by
  unfold pr
  obtain ⟨h1, h2⟩ := okT_tl h
  have := nE h2
  rcases gI t with h | h | h <;> rw [h] <;> omega
theorem L1 {a P : Int} (hP : 0 ≤ P) : min (min a 4097 * P) 4097 = min (a * P) 4097 := by
 by_cases h : a ≤ 4097
 ·have e : min a 4097 = a := Int.min_eq_left h
  rw [e]
 ·have e : min a 4097 = 4097 := Int.min_eq_right (by omega)
  rw [e]
  by_cases h0 : P = 0
  ·subst h0; simp
  ·have h1 : 4097 * 1 ≤ 4097 * P := Int.mul_le_mul_of_nonneg_left (by omega) (by omega)
   have h2 : 4097 * P ≤ a * P := Int.mul_le_mul_of_nonneg_right (by omega) hP
   omega
theorem rZ {l : List Int} {i : Nat} (h : i < l.length) : l.drop i = l[i] :: l.drop (i + 1) := List.drop_eq_getElem_cons h
theorem wrS {x : Int} (h1 : -100000 ≤ x) (h2 : x ≤ 100000) : IntKind.i64.wrap x = x := aT (by omega) (by omega)
theorem tY (t : Int) : Pure Tryz.prog 83 [I t] (.tup [I (if tp t < 0 then 1 else tp t + 1), I (if tp t < 0 then 3 else 0)]) := by
 refine fi83.pu (by simp) ?_
 simp -implicitDefEqProofs [ac83]
 refine aG (Top_c t) (by simp) ?_
 simp -implicitDefEqProofs
 have w := wrS (x := tp t + 1) (by have := gI t; omega) (by have := gI t; omega)
 by_cases h : tp t < 0
 ·simp -implicitDefEqProofs [nL, h]
  decide
 ·simp -implicitDefEqProofs [nL, h, w]
theorem qJ (ts : List Int) (hl : ts.length < 2 ^ 48) : Pure Tryz.prog 82 [.sl (em a9 ts)] (.tup [I (cR ts).1, I (cR ts).2]) := by
 refine fi82.pu (by simp) ?_
 simp -implicitDefEqProofs [ac82]
 refine lpG cf82 lb82_0 [2, 3, 4, 6, 7, 8, 11] (α := Nat × Int) (fun s _ => [(2, .top), (3, .top), (4, I s.2), (6, .top), (7, .top), (8, .top), (11, I s.1)]) (fun s _ => []) (fun s k => s.1 ≤ ts.length ∧ okT (ts.take s.1) ∧ 1 ≤ s.2 ∧ s.2 ≤ 4097 ∧ min (s.2 * pr (ts.drop s.1)) 4097 = min (pr ts) 4097) (fun s => ts.length - s.1) (0, 1) ⟨by simp, by simp [okT], by simp, by simp, by simp⟩ (by simp) (by simp) ?_
 rintro ⟨i, n⟩ k ⟨hi, ho, hn1, hn2, hp⟩
 simp only at hi ho hn1 hn2 hp
 by_cases hlt : i < ts.length
 ·obtain ⟨t, ht⟩ : ∃ t, ts[i] = t := ⟨_, rfl⟩
  rw [rZ hlt, ht] at hp
  rw [sG] at hp
  have w1 := aT (x := (i : Int) + 1) (by omega) (by omega)
  simp -implicitDefEqProofs [lb82_0, hlt, ht]
  refine aG (tY t) (by simp) ?_
  simp -implicitDefEqProofs
  by_cases hb : tp t < 0
  ·have hno : ¬ okT ts := fun h => by have := h t (ht ▸ List.getElem_mem hlt); omega
   have hb1 : ¬ 0 ≤ tp t := by omega
   simp -implicitDefEqProofs [hb, hb1, cR, hno]
  ·have hb1 : 0 ≤ tp t := by omega
   have hk : 2 ≤ tp t + 1 ∧ tp t + 1 ≤ 4 := by have := gI t; omega
   have hm : 0 ≤ n * (tp t + 1) ∧ n * (tp t + 1) ≤ 20000 ∧ 1 ≤ n * (tp t + 1) := by
    obtain ⟨h1, h2⟩ := hk
    rcases gI t with h | h | h <;> rw [h] <;> omega
   have w2 := wrS (x := n * (tp t + 1)) (by omega) (by omega)
   simp -implicitDefEqProofs [hb, hb1, w1, w2]
   refine aI (i + 1, min (n * (tp t + 1)) 4097) ⟨hlt, ?_, by simp only; omega, by simp only; omega, ?_⟩ (by simp only; omega) (by simp) (by simp)
   ·simp only
    rw [List.take_succ_eq_append_getElem hlt, ht]
    intro u hu
    rcases List.mem_append.1 hu with h | h
    ·exact ho u h
    ·simp only [List.mem_singleton] at h; subst h; omega
   ·simp only
    rw [L1 (CU _), Int.mul_assoc]
    exact hp
 ·have hil : i = ts.length := by omega
  subst hil
  rw [List.take_length] at ho
  rw [List.drop_length] at hp
  simp only [pr, Int.mul_one] at hp
  have hnl : ¬ (ts.length < ts.length) := by omega
  by_cases hbig : 4096 < n
  ·have : 4096 < pr ts := by omega
   simp -implicitDefEqProofs [lb82_0, hbig, cR, ho, this]
  ·have h1 : ¬ 4096 < pr ts := by omega
   have h2 : n = pr ts := by omega
   subst h2
   simp -implicitDefEqProofs [lb82_0, cR, ho, h1]
theorem kC (ts : List Int) (hl : ts.length < 2 ^ 48) : Pure Tryz.prog 31 [.sl (em a9 ts)] (.tup [I (cR ts).1, I (cR ts).2]) := by
 refine fi31.pu (by simp) ?_
 simp -implicitDefEqProofs [ac31]
 refine lpG cf31 lb31_1 [2, 3, 4] (α := Nat) (fun s _ => [(2, .top), (3, .top), (4, I s)]) (fun s _ => []) (fun s k => s ≤ ts.length ∧ okT (ts.take s)) (fun s => ts.length - s) 0 ⟨by simp, by simp [okT]⟩ (by simp) (by simp) ?_
 rintro i k ⟨hi, ho⟩
 by_cases hlt : i < ts.length
 ·obtain ⟨t, ht⟩ : ∃ t, ts[i] = t := ⟨_, rfl⟩
  have w1 := aT (x := (i : Int) + 1) (by omega) (by omega)
  simp -implicitDefEqProofs [lb31_1, hlt, ht]
  refine aG (iA t) (by simp) ?_
  simp -implicitDefEqProofs
  by_cases hb : tp t < 0
  ·have hno : ¬ okT ts := fun h => by have := h t (ht ▸ List.getElem_mem hlt); omega
   have hb1 : ¬ 0 ≤ tp t := by omega
   simp -implicitDefEqProofs [hb, hb1, cR, hno]
  ·have hb1 : 0 ≤ tp t := by omega
   simp -implicitDefEqProofs [hb, hb1, w1]
   refine aI (i + 1) ⟨hlt, ?_⟩ (by omega) (by simp) (by simp)
   rw [List.take_succ_eq_append_getElem hlt, ht]
   intro u hu
   rcases List.mem_append.1 hu with h | h
   ·exact ho u h
   ·simp only [List.mem_singleton] at h; subst h; omega
 ·have hil : i = ts.length := by omega
  subst hil
  rw [List.take_length] at ho
  simp -implicitDefEqProofs [lb31_1]
  refine lpG cf31 lb31_0 [2, 3, 5, 6] (α := Nat × Int) (fun s _ => [(2, .top), (3, .top), (5, I s.2), (6, I s.1)]) (fun s _ => []) (fun s k => s.1 ≤ ts.length ∧ 1 ≤ s.2 ∧ s.2 ≤ 4096 ∧ s.2 * pr (ts.drop s.1) = pr ts) (fun s => ts.length - s.1) (0, 1) ⟨by simp, by simp, by simp, by simp⟩ (by simp) (by simp) ?_
  rintro ⟨i, n⟩ k ⟨hi, hn1, hn2, hp⟩
  simp only at hi hn1 hn2 hp
  by_cases hlt : i < ts.length
  ·obtain ⟨t, ht⟩ : ∃ t, ts[i] = t := ⟨_, rfl⟩
   have hto : 0 ≤ tp t := ho t (ht ▸ List.getElem_mem hlt)
   rw [rZ hlt, ht] at hp
   rw [sG] at hp
   have hP := nE (tH ho (i + 1))
   have w1 := aT (x := (i : Int) + 1) (by omega) (by omega)
   have w0 := wrS (x := tp t + 1) (by omega) (by have := gI t; omega)
   have hm : 1 ≤ n * (tp t + 1) ∧ n * (tp t + 1) ≤ 20000 := by
    rcases gI t with h | h | h <;> rw [h] <;> omega
   have w2 := wrS (x := n * (tp t + 1)) (by omega) (by omega)
   simp -implicitDefEqProofs [lb31_0, hlt, ht]
   refine aG (iA t) (by simp) ?_
   simp -implicitDefEqProofs
   rw [← Int.mul_assoc] at hp
   by_cases hbig : 4096 < n * (tp t + 1)
   ·have : 4096 < pr ts := by
     have : n * (tp t + 1) * 1 ≤ n * (tp t + 1) * pr (ts.drop (i + 1)) := Int.mul_le_mul_of_nonneg_left hP (by omega)
     omega
    simp -implicitDefEqProofs [w0, w2, hbig, Int.not_le.2 hbig, cR, ho, this]
   ·simp -implicitDefEqProofs [w0, w1, w2, hbig, Int.not_lt.1 hbig]
    exact aI (i + 1, n * (tp t + 1)) ⟨hlt, hm.1, by simp only; omega, hp⟩ (by simp only; omega) (by simp) (by simp)
  ·rw [List.drop_eq_nil_of_le (by omega)] at hp
   simp only [pr, Int.mul_one] at hp
   subst hp
   have h1 : ¬ 4096 < pr ts := by omega
   simp -implicitDefEqProofs [lb31_0, hlt, cR, ho, h1]
theorem gQ {ts : List Int} (h : (cR ts).2 = 0) : okT ts ∧ pr ts ≤ 4096 ∧ (cR ts).1 = pr ts := by
 unfold cR at h ⊢
 by_cases h1 : okT ts
 ·rw [if_pos h1] at h ⊢
  by_cases h2 : 4096 < pr ts
  ·rw [if_pos h2] at h; simp at h
  ·rw [if_neg h2]; exact ⟨h1, by omega, rfl⟩
 ·rw [if_neg h1] at h; simp at h
def vl : List Int → List Int → Int → Int
 | t :: ts, p :: ps, a => vl ts ps (a * (tp t + 1) + p)
 | _, _, a => a
def inT : List Int → List Int → Bool
 | t :: ts, p :: ps => decide (0 ≤ p ∧ p ≤ tp t) && inT ts ps
 | [], [] => true
 | _, _ => false
theorem nI (t p : Int) (ts ps : List Int) : inT (t :: ts) (p :: ps) = (decide (0 ≤ p ∧ p ≤ tp t) && inT ts ps) := rfl
theorem BP (t p a : Int) (ts ps : List Int) : vl (t :: ts) (p :: ps) a = vl ts ps (a * (tp t + 1) + p) := rfl
theorem BK : inT [] [] = true := rfl
theorem F8 (a : Int) : vl [] [] a = a := rfl
def c9 (ts ps : List Int) : Int × Int := if (cR ts).2 ≠ 0 then (0, (cR ts).2) else if ps.length ≠ ts.length then (0, 3) else if inT ts ps then (vl ts ps 0, 0) else (0, 2)
theorem yJ {a k p P N : Int} (ha : 0 ≤ a) (h : (a + 1) * (k * P) ≤ N) (hp : 0 ≤ p) (hk : p < k) (hP : 1 ≤ P) : 0 ≤ a * k + p ∧ (a * k + p + 1) * P ≤ N ∧ a * k + p < N + 1 := by
 have h0 : 0 ≤ a * k := Int.mul_nonneg ha (by omega)
 have e : (a + 1) * k = a * k + k := by rw [Int.add_mul, Int.one_mul]
 have h1 : (a * k + p + 1) * P ≤ ((a + 1) * k) * P := Int.mul_le_mul_of_nonneg_right (by omega) (by omega)
 rw [Int.mul_assoc] at h1
 have h2 : (a * k + p + 1) * 1 ≤ (a * k + p + 1) * P := Int.mul_le_mul_of_nonneg_left hP (by omega)
 omega
theorem AB (ts ps : List Int) (hl : ts.length < 2 ^ 48) (hl2 : ps.length < 2 ^ 48) : Pure Tryz.prog 49 [.sl (em a9 ts), .sl (em a9 ps)] (.tup [I (c9 ts ps).1, I (c9 ts ps).2]) := by
 refine fi49.pu (by simp) ?_
 simp -implicitDefEqProofs [ac49]
 refine aG (qJ ts hl) (by simp) ?_
 simp -implicitDefEqProofs
 by_cases he : (cR ts).2 = 0
 ·obtain ⟨ho, hp96, _⟩ := gQ he
  by_cases hlen : ps.length = ts.length
  ·have hlen2 : (ps.length : Int) = (ts.length : Int) := by omega
   simp -implicitDefEqProofs [he, hlen2]
   refine lpG cf49 lb49_0 [4, 5, 8, 9, 10, 11, 12, 29] (α := Nat × Int) (fun s _ => [(4, .top), (5, .top), (8, I s.2), (9, .top), (10, .top), (11, .top), (12, .top), (29, I s.1)]) (fun s _ => []) (fun s k => s.1 ≤ ps.length ∧ 0 ≤ s.2 ∧ (s.2 + 1) * pr (ts.drop s.1) ≤ pr ts ∧ inT (ts.drop s.1) (ps.drop s.1) = inT ts ps ∧ vl (ts.drop s.1) (ps.drop s.1) s.2 = vl ts ps 0) (fun s => ps.length - s.1) (0, 0) ⟨by simp, by simp, by simp, by simp, by simp⟩ (by simp) (by simp) ?_
   rintro ⟨i, a⟩ k ⟨hi, ha, hb, hin, hv⟩
   simp only at hi ha hb hin hv
   by_cases hlt : i < ps.length
   ·have hlt2 : i < ts.length := by omega
    obtain ⟨t, ht⟩ : ∃ t, ts[i] = t := ⟨_, rfl⟩
    obtain ⟨p, hp⟩ : ∃ p, ps[i] = p := ⟨_, rfl⟩
    have hto : 0 ≤ tp t := ho t (ht ▸ List.getElem_mem hlt2)
    rw [rZ hlt2, ht] at hb hin hv
    rw [rZ hlt, hp] at hin hv
    rw [sG] at hb
    rw [nI] at hin
    rw [BP] at hv
    have hP := nE (tH ho (i + 1))
    have w1 := aT (x := (i : Int) + 1) (by omega) (by omega)
    have hltn : (i : Int) < (ts.length : Int) := by omega
    simp -implicitDefEqProofs [lb49_0, hlt, hlt2, ht, hp, hltn]
    refine aG (iG t p) (by simp) ?_
    simp -implicitDefEqProofs
    by_cases hc : 0 ≤ p ∧ p ≤ tp t
    ·have hck : ck t p = 0 := x5.2 hc
     obtain ⟨s1, s2, s3⟩ := yJ ha hb hc.1 (by omega) hP
     have hak : 0 ≤ a * (tp t + 1) := Int.mul_nonneg ha (by omega)
     have w2 := wrS (x := a * (tp t + 1)) (by omega) (by omega)
     have w3 := wrS (x := a * (tp t + 1) + p) (by omega) (by omega)
     have hnb : ¬ tp t < 0 := by omega
     simp -implicitDefEqProofs [hck, hlt2, ht, hltn]
     refine aG (tY t) (by simp) ?_
     simp -implicitDefEqProofs [hnb, w1, w2, w3]
     exact aI (i + 1, a * (tp t + 1) + p) ⟨hlt, s1, s2, by simpa [hc] using hin, hv⟩ (by simp only; omega) (by simp) (by simp)
    ·have hck : ck t p = 2 := by unfold ck; rw [if_neg (by omega), if_neg hc]
     have hno : inT ts ps = false := by rw [← hin]; simp [hc]
     simp -implicitDefEqProofs [hck, c9, he, hlen, hno]
   ·rw [List.drop_eq_nil_of_le (by omega), List.drop_eq_nil_of_le (by omega)] at hin hv
    rw [BK] at hin
    rw [F8] at hv
    have hlt2 : ¬ i < ts.length := by omega
    simp -implicitDefEqProofs [lb49_0, hlt2, c9, he, hlen, hin.symm, hv.symm]
  ·have hlen2 : ¬ (ps.length : Int) = (ts.length : Int) := by omega
   simp -implicitDefEqProofs [he, hlen2, c9, hlen]
 ·simp -implicitDefEqProofs [he, c9]
theorem AV (ts ps : List Int) (hl : ts.length < 2 ^ 48) (hl2 : ps.length < 2 ^ 48) : Pure Tryz.prog 51 [.sl (em a9 ts), .sl (em a9 ps)] (.tup [I (c9 ts ps).1, I (c9 ts ps).2]) := by
 refine fi51.pu (by simp) ?_
 simp -implicitDefEqProofs [ac51]
 refine aG (kC ts hl) (by simp) ?_
 simp -implicitDefEqProofs
 by_cases he : (cR ts).2 = 0
 ·obtain ⟨ho, hp96, _⟩ := gQ he
  by_cases hlen : ps.length = ts.length
  ·have hlen2 : (ps.length : Int) = (ts.length : Int) := by omega
   simp -implicitDefEqProofs [he, hlen2]
   refine lpG cf51 lb51_0 [4, 5, 8, 9] (α := Nat × Int) (fun s _ => [(4, .top), (5, .top), (8, I s.2), (9, I s.1)]) (fun s _ => []) (fun s k => s.1 ≤ ts.length ∧ 0 ≤ s.2 ∧ (s.2 + 1) * pr (ts.drop s.1) ≤ pr ts ∧ inT (ts.drop s.1) (ps.drop s.1) = inT ts ps ∧ vl (ts.drop s.1) (ps.drop s.1) s.2 = vl ts ps 0) (fun s => ts.length - s.1) (0, 0) ⟨by simp, by simp, by simp, by simp, by simp⟩ (by simp) (by simp) ?_
   rintro ⟨i, a⟩ k ⟨hi, ha, hb, hin, hv⟩
   simp only at hi ha hb hin hv
   by_cases hlt2 : i < ts.length
   ·have hlt : i < ps.length := by omega
    obtain ⟨t, ht⟩ : ∃ t, ts[i] = t := ⟨_, rfl⟩
    obtain ⟨p, hp⟩ : ∃ p, ps[i] = p := ⟨_, rfl⟩
    have hto : 0 ≤ tp t := ho t (ht ▸ List.getElem_mem hlt2)
    rw [rZ hlt2, ht] at hb hin hv
    rw [rZ hlt, hp] at hin hv
    rw [sG] at hb
    rw [nI] at hin
    rw [BP] at hv
    have hP := nE (tH ho (i + 1))
    have w1 := aT (x := (i : Int) + 1) (by omega) (by omega)
    have hltn : (i : Int) < (ps.length : Int) := by omega
    simp -implicitDefEqProofs [lb51_0, hlt, hlt2, ht, hp, hltn]
    by_cases hc : 0 ≤ p ∧ p ≤ tp t
    ·refine aG (Is_c t p) (by simp) ?_
     simp -implicitDefEqProofs [hc.1, hc.2]
     obtain ⟨s1, s2, s3⟩ := yJ ha hb hc.1 (by omega) hP
     have hak : 0 ≤ a * (tp t + 1) := Int.mul_nonneg ha (by omega)
     have w0 := wrS (x := tp t + 1) (by omega) (by have := gI t; omega)
     have w2 := wrS (x := a * (tp t + 1)) (by omega) (by omega)
     have w3 := wrS (x := a * (tp t + 1) + p) (by omega) (by omega)
     simp -implicitDefEqProofs [hc, hlt2, ht]
     refine aG (iA t) (by simp) ?_
     simp -implicitDefEqProofs [w0, w1, w2, w3, hlt, hp, hltn]
     exact aI (i + 1, a * (tp t + 1) + p) ⟨by simp only; omega, s1, s2, by simpa [hc] using hin, hv⟩ (by simp only; omega) (by simp) (by simp)
    ·have hno : inT ts ps = false := by rw [← hin]; simp [hc]
     refine aG (Is_c t p) (by simp) ?_
     rw [show decide (0 ≤ p ∧ p ≤ tp t) = false by simpa using hc]
     simp -implicitDefEqProofs [c9, he, hlen, hno]
   ·rw [List.drop_eq_nil_of_le (by omega), List.drop_eq_nil_of_le (by omega)] at hin hv
    rw [BK] at hin
    rw [F8] at hv
    simp -implicitDefEqProofs [lb51_0, hlt2, c9, he, hlen, hin.symm, hv.symm]
  ·have hlen2 : ¬ (ps.length : Int) = (ts.length : Int) := by omega
   simp -implicitDefEqProofs [he, hlen2, c9, hlen]
 ·simp -implicitDefEqProofs [he, c9]
set_option maxRecDepth 1000000
set_option maxHeartbeats 0
noncomputable def cf112 : Cfg := ⟨Tryz.prog, 6, [0, 2], []⟩
noncomputable def ac112 : AC :=
 (.seq (.reg [JI 2 0]) (.seq (.reg [JA 3 0, JO 4 (.bin .add 3 (.t 3) (JT 31)), JO 5 (.bin .quo 3 (.t 4) (JT 32)), JB 2 5]) .ret))
theorem fi112 : FI Tryz.prog 112 cf112 ac112 [.t 2] [0, 2] 6 := FI_of (c := Tryz.f112.body.getD .skip) Tryz.func112 (by kernel_rfl) (by rfl) (by rfl) (by kernel_rfl) (by kernel_rfl) rfl rfl rfl
@[simp] theorem cfP112 : cf112.P = Tryz.prog := (rfl)
noncomputable def cf84 : Cfg := ⟨Tryz.prog, 16, [0, 2, 3], []⟩
noncomputable def ac84 : AC :=
 (.seq (.reg [JP 2 (.al [JV, JW]), JI 3 0]) (.seq (.ifr [JA 4 0, JO 5 (.bin .lss 3 (.t 4) (JT 0)), JC 6 5, JR 7 6 (.mv (.g 0)), JR 8 6 (.bin .gtr 3 (.t 7) (JT 4096)), JO 9 (.pick (.t 6) JX (.t 8))] (.t 9) (.seq (.reg [JO 10 (.bld [JV, JW] []), JQ (.st 2 (.g 2) (.t 10)), JI 3 2]) .ret) .skip) (.seq (.reg [JA 11 0, JA 12 0, JO 13 (.pc (.f 112) [.t 12]), JO 14 (.mki 1 8 [.int .u64 0] (.t 13)), JO 15 (.bld [JV, JW] [(0, 1, .t 11), (1, 1, .t 14)]), JQ (.st 2 (.g 2) (.t 15)), JI 3 0]) .ret)))
theorem fi84 : FI Tryz.prog 84 cf84 ac84 [.c 2 true 2, .t 3] [0, 2, 3] 16 := FI_of (c := Tryz.f84.body.getD .skip) Tryz.func84 (by kernel_rfl) (by rfl) (by rfl) (by kernel_rfl) (by kernel_rfl) rfl rfl rfl
@[simp] theorem cfP84 : cf84.P = Tryz.prog := (rfl)
noncomputable def cf87 : Cfg := ⟨Tryz.prog, 40, [0, 1, 2, 3], []⟩
noncomputable def ac87 : AC :=
 (.seq (.reg [JN 1 0, JI 2 0]) (.seq (.ifr [JG 4 0 1, JD 5 1 4, JO 6 (.bin .lss 3 (.t 5) (JT 0)), JC 7 6, JR 8 7 (.fa 0 (.g 1)), JR 9 7 (.ld false 1 (.t 8)), JR 10 7 (.bin .gtr 3 (.t 9) (JT 4096)), JO 11 (.pick (.t 7) JX (.t 10)), JC 12 11, JR 13 12 (.fa 1 (.g 1)), JR 14 12 (.ld false 1 (.t 13)), JR 15 12 (.len false (.t 14)), JR 16 12 (.fa 0 (.g 1)), JR 17 12 (.ld false 1 (.t 16)), JR 18 12 (.pc (.f 112) [.t 17]), JR 19 12 (.bin .neq 3 (.t 15) (.t 18)), JO 20 (.pick (.t 12) JX (.t 19))] (.t 20) (.seq (.reg [JI 2 3]) .ret) .skip) (.seq (.seq (.reg [JG 21 0 1, JD 22 1 21, JO 23 (.bin .rem 3 (.t 22) (JT 32)), JB 3 23]) (.ifr [JA 24 3, JO 25 (.bin .gtr 3 (.t 24) (JT 0)), JC 26 25, JS 27 26 (.fa 1 (.g 1)), JS 28 26 (.ld false 1 (.t 27)), JS 29 26 (.fa 1 (.g 1)), JS 30 26 (.ld false 1 (.t 29)), JS 31 26 (.len false (.t 30)), JS 32 26 (.bin .sub 3 (.t 31) (JT 1)), JS 33 26 (.ia 1 (.t 28) (.t 32)), JS 34 26 (.ld false 1 (.t 33)), JS 35 26 (.mv (.g 3)), JS 36 26 (.bin .mul 3 (JT 2) (.t 35)), JS 37 26 (.bin .shr 85 (.t 34) (.t 36)), JS 38 26 (.bin .neq 85 (.t 37) (.c (.int .u64 0))), JO 39 (.pick (.t 26) (.t 38) JY)] (.t 39) (.seq (.reg [JI 2 3]) .ret) .skip)) (.seq (.reg [JI 2 0]) .ret))))
theorem fi87 : FI Tryz.prog 87 cf87 ac87 [.t 2] [0, 1, 2, 3] 40 := FI_of (c := Tryz.f87.body.getD .skip) Tryz.func87 (by kernel_rfl) (by rfl) (by rfl) (by kernel_rfl) (by kernel_rfl) rfl rfl rfl
@[simp] theorem cfP87 : cf87.P = Tryz.prog := (rfl)
noncomputable def cf55 : Cfg := ⟨Tryz.prog, 63, [0, 1, 2, 3, 6, 7, 8, 9, 10], []⟩
@[simp] theorem cfP55 : cf55.P = Tryz.prog := (rfl)
noncomputable def cf104 : Cfg := ⟨Tryz.prog, 32, [0, 1, 2, 4, 5, 6], []⟩
noncomputable def ac104 : AC :=
 (.seq (.reg [JN 2 0, JI 4 0, JI 5 0]) (.seq (.seq (.reg [JF 7 2 2, JO 8 (.pc (.f 87) [.t 7]), JB 6 8]) (.ifr [JA 9 6, JO 10 (.bin .neq 52 (.t 9) (JT 0))] (.t 10) (.seq (.reg [JA 11 6, JI 4 0, JB 5 11]) .ret) .skip)) (.seq (.ifr [JA 12 1, JO 13 (.bin .lss 3 (.t 12) (JT 0)), JC 14 13, JR 15 14 (.mv (.g 1)), JR 16 14 (.fa 0 (.g 2)), JR 17 14 (.ld false 1 (.t 16)), JR 18 14 (.bin .geq 3 (.t 15) (.t 17)), JO 19 (.pick (.t 14) JX (.t 18))] (.t 19) (.seq (.reg [JI 4 0, JI 5 2]) .ret) .skip) (.seq (.reg [JG 20 1 2, JD 21 1 20, JA 22 1, JO 23 (.bin .quo 3 (.t 22) (JT 32)), JL 24 1 21 23, JD 25 1 24, JA 26 1, JO 27 (.bin .rem 3 (.t 26) (JT 32)), JO 28 (.bin .mul 3 (JT 2) (.t 27)), JO 29 (.bin .shr 85 (.t 25) (.t 28)), JO 30 (.bin .and 85 (.t 29) (.c (.int .u64 3))), JO 31 (.cv 85 3 (.t 30)), JB 4 31, JI 5 0]) .ret))))
theorem fi104 : FI Tryz.prog 104 cf104 ac104 [.t 4, .t 5] [0, 1, 2, 4, 5, 6] 32 := FI_of (c := Tryz.f104.body.getD .skip) Tryz.func104 (by kernel_rfl) (by rfl) (by rfl) (by kernel_rfl) (by kernel_rfl) rfl rfl rfl
@[simp] theorem cfP104 : cf104.P = Tryz.prog := (rfl)
noncomputable def cf95 : Cfg := ⟨Tryz.prog, 58, [0, 1, 2, 4, 5, 6, 7, 8, 10, 11, 27, 28, 29], []⟩
noncomputable def lb95_0 : AC :=
 .seq (.ifr [JO 30 (.bin .lss 3 (.g 29) (.g 28))] (.t 30) .skip (.exit 0)) (.seq (.block 1 (.seq (.reg [JO 31 (.ia 1 (.g 27) (.g 29)), JD 32 1 31, JB 10 32]) (.seq (.reg [JA 33 10, JA 34 7, JO 35 (.bin .xor 85 (.t 33) (.t 34)), JB 11 35]) (.reg [JA 36 8, JA 37 11, JA 38 11, JO 39 (.bin .shr 85 (.t 38) (.c (.int .u64 1))), JO 40 (.bin .or 85 (.t 37) (.t 39)), JO 41 (.un .xor (.t 40)), JO 42 (.bin .and 85 (.t 41) (.c (.int .u64 6148914691236517205))), JO 43 (.pc (.f 129) [.t 42]), JO 44 (.bin .add 3 (.t 36) (.t 43)), JB 8 44])))) (.reg [JO 45 (.bin .add 3 (.g 29) (JT 1)), JB 29 45]))
noncomputable def ac95 : AC :=
 (.seq (.reg [JN 2 0, JI 4 0, JI 5 0]) (.seq (.seq (.reg [JF 12 2 2, JO 13 (.pc (.f 87) [.t 12]), JB 6 13]) (.ifr [JA 14 6, JO 15 (.bin .neq 52 (.t 14) (JT 0))] (.t 15) (.seq (.reg [JA 16 6, JI 4 0, JB 5 16]) .ret) .skip)) (.seq (.ifr [JA 17 1, JO 18 (.bin .lss 3 (.t 17) (JT 0)), JC 19 18, JR 20 19 (.mv (.g 1)), JR 21 19 (.bin .gtr 3 (.t 20) (JT 3)), JO 22 (.pick (.t 19) JX (.t 21))] (.t 22) (.seq (.reg [JI 4 0, JI 5 2]) .ret) .skip) (.seq (.reg [JA 23 1, JO 24 (.cv 3 85 (.t 23)), JO 25 (.bin .mul 85 (.t 24) (.c (.int .u64 6148914691236517205))), JB 7 25]) (.seq (.reg [JI 8 0]) (.seq (.seq (.reg [JG 26 1 2, JP 27 (.ld false 1 (.t 26)), JP 28 (.len false (.g 27)), JI 29 0]) (.block 0 (.loop lb95_0))) (.seq (.ifr [JA 46 1, JO 47 (.bin .eql 3 (.t 46) (JT 0))] (.t 47) (.reg [JA 48 8, JG 49 1 2, JD 50 1 49, JO 51 (.len false (.t 50)), JO 52 (.bin .mul 3 (JT 32) (.t 51)), JG 53 0 2, JD 54 1 53, JO 55 (.bin .sub 3 (.t 52) (.t 54)), JO 56 (.bin .sub 3 (.t 48) (.t 55)), JB 8 56]) .skip) (.seq (.reg [JA 57 8, JB 4 57, JI 5 0]) .ret))))))))
theorem fi95 : FI Tryz.prog 95 cf95 ac95 [.t 4, .t 5] [0, 1, 2, 4, 5, 6, 7, 8, 10, 11, 27, 28, 29] 58 := FI_of (c := Tryz.f95.body.getD .skip) Tryz.func95 (by kernel_rfl) (by rfl) (by rfl) (by kernel_rfl) (by kernel_rfl) rfl rfl rfl
@[simp] theorem cfP95 : cf95.P = Tryz.prog := (rfl)
noncomputable def cf57 : Cfg := ⟨Tryz.prog, 38, [0, 1, 2, 3, 4, 5], []⟩
@[simp] theorem cfP57 : cf57.P = Tryz.prog := (rfl)
noncomputable def cf59 : Cfg := ⟨Tryz.prog, 57, [0, 1, 2, 3, 4, 5, 6], [53]⟩
noncomputable def lb59_0 : AC :=
 .seq (.ifr [JA 25 5, JG 26 1 1, JD 27 1 26, JO 28 (.len false (.t 27)), JO 29 (.bin .mul 3 (JT 32) (.t 28)), JO 30 (.bin .lss 3 (.t 25) (.t 29))] (.t 30) .skip (.exit 0)) (.seq (.block 1 (.seq (.reg [JG 33 1 1, JD 34 1 33, JA 35 5, JO 36 (.bin .quo 3 (.t 35) (JT 32)), JL 37 1 34 36, JD 38 1 37, JA 39 5, JO 40 (.bin .rem 3 (.t 39) (JT 32)), JO 41 (.bin .mul 3 (JT 2) (.t 40)), JO 42 (.cv 3 176 (.t 41)), JO 43 (.bin .shr 85 (.t 38) (.t 42)), JO 44 (.bin .and 85 (.t 43) (.c (.int .u64 3))), JO 45 (.cv 85 3 (.t 44)), JB 6 45]) (.ifr [JA 46 5, JG 47 0 1, JD 48 1 47, JO 49 (.bin .lss 3 (.t 46) (.t 48))] (.t 49) (.reg [JA 50 4, JA 51 6, JO 52 (.bsl 1 1 [JV] [(0, 1, .t 51)]), JO 53 (.app 1 8 [JV] (.t 50) (.t 52)), JB 4 53]) (.ifr [JA 54 6, JO 55 (.bin .neq 3 (.t 54) (JT 0))] (.t 55) (.seq (.reg [JP 2 (.mv (.c (.slice none 0 0))), JP 3 (.mv JY)]) .ret) .skip)))) (.reg [JA 31 5, JO 32 (.bin .add 3 (.t 31) (JT 1)), JB 5 32]))
noncomputable def ac59 : AC :=
 (.seq (.reg [JN 1 0, JP 2 (.mv (.c (.slice none 0 0))), JP 3 (.mv JY)]) (.seq (.ifr [JG 7 0 1, JD 8 1 7, JO 9 (.bin .lss 3 (.t 8) (JT 0)), JC 10 9, JR 11 10 (.fa 0 (.g 1)), JR 12 10 (.ld false 1 (.t 11)), JR 13 10 (.bin .gtr 3 (.t 12) (JT 4096)), JO 14 (.pick (.t 10) JX (.t 13)), JC 15 14, JR 16 15 (.fa 1 (.g 1)), JR 17 15 (.ld false 1 (.t 16)), JR 18 15 (.len false (.t 17)), JR 19 15 (.fa 0 (.g 1)), JR 20 15 (.ld false 1 (.t 19)), JR 21 15 (.bin .add 3 (.t 20) (JT 31)), JR 22 15 (.bin .quo 3 (.t 21) (JT 32)), JR 23 15 (.bin .neq 3 (.t 18) (.t 22)), JO 24 (.pick (.t 15) JX (.t 23))] (.t 24) (.seq (.reg [JP 2 (.mv (.c (.slice none 0 0))), JP 3 (.mv JY)]) .ret) .skip) (.seq (.reg [JP 4 (.mv (.c (.slice none 0 0)))]) (.seq (.seq (.reg [JI 5 0]) (.block 0 (.loop lb59_0))) (.seq (.reg [JA 56 4, JB 2 56, JP 3 (.mv JX)]) .ret)))))
theorem fi59 : FI Tryz.prog 59 cf59 ac59 [.t 2, .t 3] [0, 1, 2, 3, 4, 5, 6] 57 := FI_of (c := Tryz.f59.body.getD .skip) Tryz.func59 (by kernel_rfl) (by rfl) (by rfl) (by kernel_rfl) (by kernel_rfl) rfl rfl rfl
@[simp] theorem cfP59 : cf59.P = Tryz.prog := (rfl)
noncomputable def cf64 : Cfg := ⟨Tryz.prog, 45, [0, 2, 3, 4], [20]⟩
noncomputable def lb64_0 : AC :=
 .seq (.ifr [JA 8 4, JA 9 0, JO 10 (.len false (.t 9)), JO 11 (.bin .lss 3 (.t 8) (.t 10))] (.t 11) .skip (.exit 0)) (.seq (.block 1 (.seq (.ifr [JA 14 4, JO 15 (.bin .rem 3 (.t 14) (JT 32)), JO 16 (.bin .eql 3 (.t 15) (JT 0))] (.t 16) (.reg [JG 17 1 3, JD 18 1 17, JO 19 (.bsl 1 1 [.int .u64 0] [(0, 1, .c (.int .u64 0))]), JO 20 (.app 1 8 [.int .u64 0] (.t 18) (.t 19)), JG 21 1 3, JQ (.st 1 (.t 21) (.t 20))]) .skip) (.reg [JG 22 1 3, JD 23 1 22, JA 24 4, JO 25 (.bin .quo 3 (.t 24) (JT 32)), JG 26 1 3, JD 27 1 26, JA 28 4, JO 29 (.bin .quo 3 (.t 28) (JT 32)), JL 30 1 27 29, JD 31 1 30, JA 32 0, JA 33 4, JL 34 1 32 33, JD 35 1 34, JO 36 (.cv 3 85 (.t 35)), JA 37 4, JO 38 (.bin .rem 3 (.t 37) (JT 32)), JO 39 (.bin .mul 3 (JT 2) (.t 38)), JO 40 (.cv 3 176 (.t 39)), JO 41 (.bin .shl 85 (.t 36) (.t 40)), JO 42 (.bin .or 85 (.t 31) (.t 41)), JL 43 1 23 25, JQ (.st 1 (.t 43) (.t 42))]))) (.reg [JA 12 4, JO 13 (.bin .add 3 (.t 12) (JT 1)), JB 4 13]))
noncomputable def ac64 : AC :=
 (.seq (.reg [JP 2 (.al [JV, JW])]) (.seq (.reg [JA 5 0, JO 6 (.len false (.t 5)), JO 7 (.bld [JV, JW] [(0, 1, .t 6)]), JP 3 (.al [JV, JW]), JQ (.st 2 (.g 3) (.t 7))]) (.seq (.seq (.reg [JI 4 0]) (.block 0 (.loop lb64_0))) (.seq (.reg [JF 44 2 3, JQ (.st 2 (.g 2) (.t 44))]) .ret))))
theorem fi64 : FI Tryz.prog 64 cf64 ac64 [.c 2 true 2] [0, 2, 3, 4] 45 := FI_of (c := Tryz.f64.body.getD .skip) Tryz.func64 (by kernel_rfl) (by rfl) (by rfl) (by kernel_rfl) (by kernel_rfl) rfl rfl rfl
@[simp] theorem cfP64 : cf64.P = Tryz.prog := (rfl)
noncomputable def cf129 : Cfg := ⟨Tryz.prog, 35, [0, 2], []⟩
noncomputable def ac129 : AC :=
 (.seq (.reg [JI 2 0]) (.seq (.reg [JA 3 0, JO 4 (.bin .shr 85 (.t 3) (.c (.int .u64 1))), JO 5 (.bin .and 85 (.t 4) (.c (.int .u64 6148914691236517205))), JA 6 0, JO 7 (.bin .and 85 (.t 6) (.c (.int .u64 6148914691236517205))), JO 8 (.bin .add 85 (.t 5) (.t 7)), JB 0 8]) (.seq (.reg [JA 9 0, JO 10 (.bin .shr 85 (.t 9) (.c (.int .u64 2))), JO 11 (.bin .and 85 (.t 10) (.c (.int .u64 3689348814741910323))), JA 12 0, JO 13 (.bin .and 85 (.t 12) (.c (.int .u64 3689348814741910323))), JO 14 (.bin .add 85 (.t 11) (.t 13)), JB 0 14]) (.seq (.reg [JA 15 0, JO 16 (.bin .shr 85 (.t 15) (.c (.int .u64 4))), JA 17 0, JO 18 (.bin .add 85 (.t 16) (.t 17)), JO 19 (.bin .and 85 (.t 18) (.c (.int .u64 1085102592571150095))), JB 0 19]) (.seq (.reg [JA 20 0, JA 21 0, JO 22 (.bin .shr 85 (.t 21) (.c (.int .u64 8))), JO 23 (.bin .add 85 (.t 20) (.t 22)), JB 0 23]) (.seq (.reg [JA 24 0, JA 25 0, JO 26 (.bin .shr 85 (.t 25) (.c (.int .u64 16))), JO 27 (.bin .add 85 (.t 24) (.t 26)), JB 0 27]) (.seq (.reg [JA 28 0, JA 29 0, JO 30 (.bin .shr 85 (.t 29) (.c (.int .u64 32))), JO 31 (.bin .add 85 (.t 28) (.t 30)), JB 0 31]) (.seq (.reg [JA 32 0, JO 33 (.cv 85 3 (.t 32)), JO 34 (.bin .and 3 (.t 33) (JT 127)), JB 2 34]) .ret))))))))
theorem fi129 : FI Tryz.prog 129 cf129 ac129 [.t 2] [0, 2] 35 := FI_of (c := Tryz.f129.body.getD .skip) Tryz.func129 (by kernel_rfl) (by rfl) (by rfl) (by kernel_rfl) (by kernel_rfl) rfl rfl rfl
@[simp] theorem cfP129 : cf129.P = Tryz.prog := (rfl)
@[simp] theorem MN {n : Int} : cvD Tryz.prog 3 85 (.pl (.int .i64 n)) = some (.pl (.int .u64 (IntKind.u64.wrap n))) := lO Tryz.underlying3 Tryz.underlying85
@[simp] theorem MI {n : Int} : cvD Tryz.prog 3 176 (.pl (.int .i64 n)) = some (.pl (.int .u64 (IntKind.u64.wrap n))) := lO Tryz.underlying3 Tryz.underlying176
@[simp] theorem ML {n : Int} : cvD Tryz.prog 85 3 (.pl (.int .u64 n)) = some (.pl (.int .i64 (IntKind.i64.wrap n))) := lO Tryz.underlying85 Tryz.underlying3
set_option maxRecDepth 100000
abbrev row (n : Int) (l : List Int) : D := .agg [I n, .sl (em eY l)]
theorem wt_u64 {n : Nat} {ds : List D} (h : Wt Tryz.prog n 85 ds) : ∃ z, ds = eY z ∧ (Lit.int .u64 z).wf = true := by
 cases n with
 | zero => exact h.elim
 | succ n => simpa only [Wt, Tryz.underlying85, eY] using h
theorem LR {n : Nat} {ds : List D} (h : Wt Tryz.prog n 26 ds) : ∃ l : List Int, ds = [.sl (em eY l)] ∧ l.length * 8 ≤ reachBytes ∧ ∀ u ∈ l, (Lit.int .u64 u).wf = true := by
 cases n with
 | zero => exact h.elim
 | succ n =>
  simp only [Wt, Tryz.underlying26] at h
  obtain ⟨es, rfl, hl, he⟩ := h
  obtain ⟨l, rfl, hl2⟩ := oS (enc := eY) (p := fun z => (Lit.int .u64 z).wf = true) fun c hc => wt_u64 (he c hc)
  refine ⟨l, rfl, ?_, hl2⟩
  have hb : Tryz.prog.bytesOf 85 = 8 := by kernel_rfl
  rw [hb] at hl
  simpa using hl
theorem B6 {n : Int} (h0 : 0 ≤ n) (h1 : n ≤ 4096) : Pure Tryz.prog 112 [I n] (I ((n + 31) / 32)) := by
 refine fi112.pu (by simp) ?_
 simp -implicitDefEqProofs [ac112]
 rw [aT (x := n + 31) (by omega) (by omega), Int.tdiv_eq_ediv_of_nonneg (by omega), aT (by omega) (by omega)]
def cQ (n : Int) (l : List Int) : Prop := 0 ≤ n ∧ n ≤ 4096 ∧ (l.length : Int) = (n + 31) / 32 ∧ (0 < n % 32 → l[l.length - 1]?.getD 0 / 4 ^ (n % 32).toNat = 0)
instance (n : Int) (l : List Int) : Decidable (cQ n l) := by unfold cQ; infer_instance
def d8 (n : Int) (l : List Int) : Int := if cQ n l then 0 else 3
theorem shr4 (x : Int) {p : Int} (h0 : 0 ≤ p) (h1 : p < 32) : gJ .u64 x (IntKind.i64.wrap (2 * p)) = x / 4 ^ p.toNat := by
 unfold gJ
 rw [aT (by omega) (by omega)]
 have : min (2 * p).toNat IntKind.u64.bits = 2 * p.toNat := by simp only [IntKind.bits]; omega
 rw [this, Int.pow_mul]
 exact Int.fdiv_eq_ediv_of_nonneg _ (Int.pow_nonneg (by decide))
theorem sA (n : Int) (l : List Int) : Pure Tryz.prog 87 [row n l] (I (d8 n l)) := by
 refine fi87.pu (by simp) ?_
 simp -implicitDefEqProofs [ac87, row]
 refine ⟨fun h0 => ⟨fun h1 => ?_, fun h1 => ?_⟩, fun h0 => ?_⟩
 ·refine aG (B6 h0 h1) (by simp) ?_
  simp -implicitDefEqProofs
  refine ⟨fun hne => ?_, fun heq => ?_⟩
  ·simp [d8, cQ, hne]
  ·rw [Int.tmod_eq_emod_of_nonneg h0]
   refine ⟨fun hp => ?_, fun hp => ?_⟩
   ·have e1 : IntKind.i64.wrap (↑l.length - 1) = ↑l.length - 1 := aT (by omega) (by omega)
    have e2 : ((l.length : Int) - 1).toNat = l.length - 1 := by omega
    rw [shr4 _ (by omega) (by omega), e1, e2, aT (by omega) (by omega)]
    refine ⟨by omega, by omega, fun h => ?_, fun h => ?_⟩
    ·simp [d8, cQ, hp, h]
    ·simp [d8, cQ, h0, h1, heq, h]
   ·have : ¬ 0 < n % 32 := by omega
    simp [d8, cQ, h0, h1, heq, this]
 ·simp [d8, cQ]; omega
 ·simp [d8, cQ]; omega
def tup2 (n : Int) (l : List Int) (e : Int) : D := .tup [row n l, I e]
def newF (n : Int) : D := if 0 ≤ n ∧ n ≤ 4096 then tup2 n (List.replicate ((n + 31) / 32).toNat 0) 0 else tup2 0 [] 2
theorem New_c (n : Int) : Pure Tryz.prog 84 [I n] (newF n) := by
 refine fi84.pu (by simp) ?_
 simp -implicitDefEqProofs [ac84, row]
 refine ⟨fun h0 => ⟨fun h1 => ?_, fun h1 => ?_⟩, fun h0 => ?_⟩
 ·have : ¬ n ≤ 4096 := by omega
  simp [newF, tup2, this]
 ·refine aG (B6 h0 h1) (by simp) ?_
  simp -implicitDefEqProofs [newF, tup2, h0, h1]
  omega
 ·have : ¬ 0 ≤ n := by omega
  simp [newF, tup2, this]
def bI (l : List Int) (i : Nat) : Int := (l[i / 32]?.getD 0 / 4 ^ (i % 32)) % 4
def mN (n : Int) (l : List Int) : Prop := 0 ≤ n ∧ n ≤ 4096 ∧ (l.length : Int) = (n + 31) / 32 ∧ (∀ i : Nat, n ≤ i → i < 32 * l.length → bI l i = 0)
theorem vS (l : List Int) (j : Nat) : 0 ≤ bI l j ∧ bI l j < 4 := ⟨Int.emod_nonneg _ (by decide), Int.emod_lt_of_pos _ (by decide)⟩
theorem G7 (l : List Int) (i : Nat) (h : i < 32 * l.length) (hl : l.length ≤ 128) : jZ .u64 (gJ .u64 (l[i / 32]?.getD 0) (IntKind.u64.wrap (IntKind.i64.wrap (2 * (i : Int).tmod 32)))) 3 = bI l i := by
 have e2 : (2 : Int) * (i : Int).tmod 32 = ((2 * (i % 32) : Nat) : Int) := by rw [Int.tmod_eq_emod_of_nonneg (by omega)]; omega
 rw [bAnd3, e2, aT (by omega) (by omega), l8 (by omega) (by omega), lZ _ _ rfl (by simp only [IntKind.bits]; omega), Int.pow_mul]
 rfl
def cl (n : Int) (l : List Int) : List Int := (List.range n.toNat).map (bI l)
@[simp] theorem q8 {n : Int} {l : List Int} : (cl n l).length = n.toNat := by simp [cl]
theorem LY (n : Int) (l : List Int) {mem : Mem} {nx : Nat} {K : KD} (hy : mN n l → ∀ id ver nx', nx ≤ id → id < nx' → K (.tup [.osl id ver 0 n.toNat, B true]) ((id, .arr ver 1 (em a9 (cl n l))) :: mem) nx')
  (hn : ¬ mN n l → ∀ nx', nx ≤ nx' → K (.tup [.pl (.slice none 0 0), B false]) mem nx') : bH Tryz.prog 59 [row n l] mem nx K := by
 refine fi59.ct (by simp) fun hfr => ?_
 simp -implicitDefEqProofs [ac59, row]
 refine ⟨fun h0 => ⟨fun h1 => ?_, fun h1 => ?_⟩, fun h0 => ?_⟩
 ·rw [aT (x := n + 31) (by omega) (by omega), Int.tdiv_eq_ediv_of_nonneg (by omega), aT (by omega) (by omega)]
  refine ⟨fun h2 => ⟨mem, aE _, hn (fun h => h2 h.2.2.1) _ (by omega)⟩, fun h2 => ?_⟩
  have hlen : l.length ≤ 128 := by omega
  refine cA (j := 4) (k := 1) rfl (.inl rfl) ?_
  generalize hN : nx + 20 + 1 + 1 + 1 = N
  have hNn : nx < N := by omega
  clear hN
  refine lpG cf59 lb59_0 [2, 3, 4, 5, 6] (α := Nat) (fun i _ => [(3, B false), (4, .osl N (min i n.toNat) 0 (min i n.toNat)), (5, I i)]) (fun i _ => (N, .arr (min i n.toNat) 1 (em a9 ((List.range (min i n.toNat)).map (bI l)))) :: mem)
   (fun i m => N < m ∧ i ≤ 32 * l.length ∧ ∀ j : Nat, n ≤ j → j < i → bI l j = 0) (fun i => 32 * l.length - i) 0 ⟨by omega, by omega, by omega⟩ (by simp) (by simp) ?_
  rintro i m ⟨hm, hi, hz⟩
  simp -implicitDefEqProofs [lb59_0]
  have hcb := vS l i
  have e32 : IntKind.i64.wrap (32 * (l.length : Int)) = 32 * l.length := aT (by omega) (by omega)
  have e3 : IntKind.i64.wrap ((i : Int) / 32) = i / 32 := aT (by omega) (by omega)
  have e4 : IntKind.i64.wrap ((i : Int) + 1) = ((i + 1 : Nat) : Int) := by rw [aT (by omega) (by omega)]; omega
  have e5 : 0 ≤ IntKind.u64.wrap (IntKind.i64.wrap (2 * (i : Int).tmod 32)) := by
   rw [Int.tmod_eq_emod_of_nonneg (by omega), aT (by omega) (by omega), l8 (by omega) (by omega)]; omega
  have e6 : ((i : Int) / 32).toNat = i / 32 := by omega
  rw [e32]
  refine ⟨fun hlt => ?_, fun hge => ?_⟩
  ·rw [e3, e6, G7 l i (by omega) hlen, aT (x := bI l i) (by omega) (by omega), e4]
   refine ⟨by omega, e5, fun hin => ⟨by omega, ?_⟩, fun hin => ⟨fun hne => ?_, fun heq => ?_⟩⟩
   ·have hem : min i n.toNat = i := by omega
    have hem' : min (i + 1) n.toNat = i + 1 := by omega
    refine aI (i + 1) ⟨by omega, by omega, fun j h1 h2 => hz j h1 (by omega)⟩ (by omega) (by simp [hem, hem']) ?_
    simp [hem, hem', List.take_of_length_le, List.range_succ]
   ·exact ⟨mem, aF (aE _) (hfr N (by omega)), hn (fun h => hne (h.2.2.2 i hin (by omega))) _ (by omega)⟩
   ·have hem : min (i + 1) n.toNat = min i n.toNat := by omega
    refine aI (i + 1) ⟨by omega, by omega, fun j h1 h2 => ?_⟩ (by omega) (by simp [hem]) (by simp [hem])
    by_cases e : j = i
    ·rw [e]; exact heq
    ·exact hz j h1 (by omega)
  ·have hok : mN n l := ⟨h0, h1, h2, fun j h3 h4 => hz j h3 (by omega)⟩
   have hem : min i n.toNat = n.toNat := by omega
   rw [hem]
   have hy := hy hok
   unfold cl at hy
   exact ⟨_, aE _, hy _ _ _ (by omega) (by omega)⟩
 ·exact ⟨mem, aE _, hn (fun h => by have := h.2.1; omega) _ (by omega)⟩
 ·exact ⟨mem, aE _, hn (fun h => by have := h.1; omega) _ (by omega)⟩
end Go.Fx.YtlhdpfaohphbaaaGreat
namespace Go.Fx.Rows
open Go
def wd : List Int → Int
 | [] => 0
 | c :: cs => c + 4 * wd cs
def j6 (c : Int) : Prop := 0 ≤ c ∧ c ≤ 3
theorem DX : ∀ (xs : List Int) (c : Int), wd (xs ++ [c]) = wd xs + c * 4 ^ xs.length
 | [], c => by simp [wd]
 | x :: xs, c => by
  simp only [List.cons_append, wd, DX xs c, List.length_cons, Int.pow_succ]
  rw [Int.mul_add, Int.add_assoc, Int.mul_comm (4 ^ xs.length) 4, ← Int.mul_assoc c, Int.mul_comm c 4, Int.mul_assoc 4 c]
theorem wW : ∀ (xs : List Int), (∀ x ∈ xs, j6 x) → 0 ≤ wd xs ∧ wd xs < 4 ^ xs.length
 | [], _ => by simp [wd]
 | x :: xs, h => by
  have h0 := h x (by simp)
  have ih := wW xs fun y hy => h y (by simp [hy])
  simp only [wd, List.length_cons, Int.pow_succ, j6] at h0 ⊢
  omega
theorem rM : ∀ (k : Nat) (u : Int), 0 ≤ u → u < 4 ^ k → wd ((List.range k).map fun j => u / 4 ^ j % 4) = u
 | 0, u, h0, h1 => by simp at h1; simp [wd]; omega
 | k + 1, u, h0, h1 => by
  have ih := rM k (u / 4) (by omega) (by rw [Int.pow_succ] at h1; omega)
  rw [List.range_succ_eq_map, List.map_cons, List.map_map]
  simp only [wd, Function.comp_def]
  have : (fun j : Nat => u / 4 ^ (j + 1) % 4) = fun j => u / 4 / 4 ^ j % 4 := by
   funext j
   rw [Int.pow_succ, Int.mul_comm (4 ^ j) 4, ← Int.ediv_ediv_of_nonneg (by decide)]
  simp only [Nat.succ_eq_add_one, this, ih, Int.pow_zero, Int.ediv_one]
  omega
def cS (cs : List Int) : List Int := (List.range ((cs.length + 31) / 32)).map fun q => wd ((cs.drop (32 * q)).take 32)
theorem dY (cs : List Int) : (cS cs).length = (cs.length + 31) / 32 := by simp [cS]
theorem iE (cs : List Int) (q : Nat) (hq : q < (cs.length + 31) / 32) : (cS cs)[q]? = some (wd ((cs.drop (32 * q)).take 32)) := by
 simp [cS, hq]
theorem E2 {cs : List Int} {c : Int} (h : cs.length % 32 = 0) : cS (cs ++ [c]) = cS cs ++ [c] := by
 apply List.ext_getElem?
 intro q
 by_cases hq : q < (cs.length + 31) / 32
 ·rw [iE _ _ (by simp; omega), List.getElem?_append_left (by rw [dY]; exact hq), iE _ _ hq]
  congr 2
  rw [List.drop_append_of_le_length (by omega), List.take_append_of_le_length (by simp; omega)]
 ·by_cases hq' : q = cs.length / 32
  ·subst hq'
   rw [iE _ _ (by simp; omega), List.getElem?_append_right (by rw [dY]; omega), dY]
   have e : 32 * (cs.length / 32) = cs.length := by omega
   rw [e, List.drop_append_of_le_length (by omega), List.drop_length]
   have : cs.length / 32 - (cs.length + 31) / 32 = 0 := by omega
   simp [this, wd]
  ·rw [List.getElem?_eq_none (by simp [dY]; omega), List.getElem?_eq_none (by simp [dY]; omega)]
theorem C5 {cs : List Int} {c : Int} (h : cs.length % 32 ≠ 0) :
  cS (cs ++ [c]) = (cS cs).set (cs.length / 32) (wd (cs.drop (32 * (cs.length / 32))) + c * 4 ^ (cs.length % 32)) := by
 apply List.ext_getElem?
 intro q
 by_cases hq : q < (cs.length + 31) / 32
 ·rw [iE _ _ (by simp; omega)]
  by_cases hq' : q = cs.length / 32
  ·subst hq'
   rw [List.getElem?_set_self (by rw [dY]; exact hq), List.drop_append_of_le_length (by omega), List.take_of_length_le (by simp; omega), DX]
   simp only [List.length_drop]
   rw [show cs.length - 32 * (cs.length / 32) = cs.length % 32 by omega]
  ·rw [List.getElem?_set_ne (fun e => hq' e.symm), iE _ _ hq, List.drop_append_of_le_length (by omega), List.take_append_of_le_length (by simp; omega)]
 ·rw [List.getElem?_eq_none (by simp [dY]; omega), List.getElem?_eq_none (by simp [dY]; omega)]
end Go.Fx.Rows
namespace Go.Fx.YtlhdpfaohphbaaaGreat
open Go Go.Fx Go.Proofs Go.Fx.Rows
attribute [local simp] lb64_0
theorem Pack_c (cs : List Int) (h4 : ∀ c ∈ cs, j6 c) (hl : cs.length ≤ 4096) : Pure Tryz.prog 64 [.sl (em a9 cs)] (row cs.length (cS cs)) := by
 refine fi64.pu (by simp) ?_
 simp -implicitDefEqProofs [ac64]
 refine xM (α := Nat) (fun i _ => [(0, D.sl (em a9 cs)), (2, D.opt 0 0), (3, D.opt 4 0), (4, I i)])
  (fun i _ => [(7, .arr ((i + 31) / 32) 1 (em eY (cS (cs.take i)))), (4, .box [I cs.length, .osl 7 ((i + 31) / 32) 0 ((i + 31) / 32)]), (0, .box [I 0, .pl (.slice none 0 0)])])
  (fun i _ => i ≤ cs.length) (fun i => cs.length - i) ⟨0, 8, by simp, by simpa [cS, upd] using B8 (C := cf64) (env := [(0, D.sl (em a9 cs)), (2, D.opt 0 0), (3, D.opt 4 0), (4, I 0)]) (tl := []) (mem := [(4, .box [I cs.length, .pl (.slice none 0 0)]), (0, .box [I 0, .pl (.slice none 0 0)])]) (nx := 7) (id := 4) (off := 1) (k := 1) rfl rfl (.inl rfl)⟩ ?_
 rintro i nx hi
 have hpl : (cS (cs.take i)).length = (i + 31) / 32 := by rw [dY]; simp; omega
 simp -implicitDefEqProofs [lO Tryz.underlying3 Tryz.underlying176, lO Tryz.underlying3 Tryz.underlying85, hpl]
 refine ⟨fun hlt => ?_, fun hge => ?_⟩
 ·have hc4 : j6 (cs[i]?.getD 0) := by
   rw [List.getElem?_eq_getElem hlt]; exact h4 _ (List.getElem_mem hlt)
  have hc1 := hc4.1
  have hc2 := hc4.2
  have e1 : IntKind.i64.wrap ((i : Int) / 32) = i / 32 := aT (by omega) (by omega)
  have e1' : ((i : Int) / 32).toNat = i / 32 := by omega
  have e2 : IntKind.u64.wrap (IntKind.i64.wrap (2 * (i : Int).tmod 32)) = ((2 * (i % 32) : Nat) : Int) := by
   rw [Int.tmod_eq_emod_of_nonneg (by omega), aT (by omega) (by omega), l8 (by omega) (by omega)]; omega
  have e3 : IntKind.u64.wrap (cs[i]?.getD 0) = cs[i]?.getD 0 := l8 hc1 (by omega)
  have e4 : IntKind.i64.wrap ((i : Int) + 1) = ((i + 1 : Nat) : Int) := by rw [aT (by omega) (by omega)]; omega
  have e5 : (i : Int).tmod 32 = ((i % 32 : Nat) : Int) := by rw [Int.tmod_eq_emod_of_nonneg (by omega)]; omega
  have e6 : cs.take (i + 1) = cs.take i ++ [cs[i]?.getD 0] := by rw [List.take_succ, List.getElem?_eq_getElem hlt]; rfl
  have e7 : (cs.take i).length = i := by simp; omega
  have e8 : lV .u64 (cs[i]?.getD 0) ((2 * (i % 32) : Nat) : Int) = cs[i]?.getD 0 * 4 ^ (i % 32) := by
   have hp : (4 : Int) ^ (i % 32) ≤ 4 ^ 31 := by
    have : (4 : Nat) ^ (i % 32) ≤ 4 ^ 31 := Nat.pow_le_pow_right (by decide) (by omega)
    exact_mod_cast this
   have hb : cs[i]?.getD 0 * 4 ^ (i % 32) < 2 ^ 64 := by
    have h0 : (0 : Int) ≤ 4 ^ (i % 32) := Int.pow_nonneg (by decide)
    have : cs[i]?.getD 0 * 4 ^ (i % 32) ≤ 3 * 4 ^ 31 := Int.mul_le_mul hc2 hp h0 (by decide)
    have : (3 : Int) * 4 ^ 31 < 2 ^ 64 := by decide
    omega
   rw [CM rfl (by omega) hc1 (by rw [Int.pow_mul]; exact hb), Int.pow_mul]
   rfl
  rw [e1, e2, e3, e4, e5, e1']
  refine ⟨fun h0 => ⟨by omega, ⟨by omega, by omega⟩, by omega, hlt, by omega, ⟨by omega, by omega⟩, by omega, ?_⟩, fun h0 => ⟨⟨by omega, by omega⟩, by omega, hlt, by omega, ⟨by omega, by omega⟩, by omega, ?_⟩⟩
  ·refine aI (i + 1) (by omega) (by omega) (pO _) ?_
   have hv : (i + 1 + 31) / 32 = (i + 31) / 32 + 1 := by omega
   have hk : i / 32 = (cS (cs.take i)).length := by rw [hpl]; omega
   rw [e8, hv, e6, E2 (by rw [e7]; omega), List.take_of_length_le (by omega), hk]
   have h00 : i % 32 = 0 := by omega
   have hor : bOr .u64 0 (cs[i]?.getD 0 * 4 ^ 0) = cs[i]?.getD 0 := by
    have := A7 (a := 0) (c := cs[i]?.getD 0) (j := 0) (by decide) (by decide) hc1 (by omega)
    simpa using this
   simp only [h00, List.getElem?_append_right (Nat.le_refl _), Nat.sub_self, List.getElem?_cons_zero, Option.getD_some, hor, List.set_append_right _ _ (Nat.le_refl _), List.set_cons_zero]
   exact aL _
  ·refine aI (i + 1) (by omega) (by omega) (pO _) ?_
   have hv : (i + 1 + 31) / 32 = (i + 31) / 32 := by omega
   have hsub : ∀ x ∈ (cs.take i).drop (32 * (i / 32)), j6 x := fun x hx => h4 x (List.mem_of_mem_take (List.mem_of_mem_drop hx))
   have hwb := wW _ hsub
   have hdl : ((cs.take i).drop (32 * (i / 32))).length = i % 32 := by simp; omega
   rw [hdl] at hwb
   have hget : (cS (cs.take i))[i / 32]?.getD 0 = wd ((cs.take i).drop (32 * (i / 32))) := by
    rw [iE _ _ (by rw [e7]; omega), List.take_of_length_le (by rw [hdl]; omega)]; rfl
   have hor : bOr .u64 (wd ((cs.take i).drop (32 * (i / 32)))) (cs[i]?.getD 0 * 4 ^ (i % 32)) = wd ((cs.take i).drop (32 * (i / 32))) + cs[i]?.getD 0 * 4 ^ (i % 32) := by
    have h4p : (4 : Int) ^ (i % 32) = 2 ^ (2 * (i % 32)) := by rw [Int.pow_mul]; rfl
    rw [h4p] at hwb ⊢
    refine A7 hwb.1 hwb.2 hc1 ?_
    have : (2 : Int) ^ (2 * (i % 32)) ≤ 2 ^ 62 := by
     have : (2 : Nat) ^ (2 * (i % 32)) ≤ 2 ^ 62 := Nat.pow_le_pow_right (by decide) (by omega)
     exact_mod_cast this
    have hm : cs[i]?.getD 0 * 2 ^ (2 * (i % 32)) ≤ 3 * 2 ^ (2 * (i % 32)) := Int.mul_le_mul_of_nonneg_right hc2 (Int.pow_nonneg (by decide))
    omega
   rw [e8, hv, e6, C5 (by rw [e7]; omega), e7, hget, hor]
   exact aL _
 ·have e : i = cs.length := by omega
  subst e
  rw [List.take_length, List.take_of_length_le (by rw [dY]; exact Nat.le_refl _)]
def getF (n : Int) (l : List Int) (i : Int) : D := if cQ n l then (if 0 ≤ i ∧ i < n then .tup [I (bI l i.toNat), I 0] else .tup [I 0, I 2]) else .tup [I 0, I 3]
theorem wA {n : Int} {l : List Int} : d8 n l = 0 ↔ cQ n l := by unfold d8; split <;> simp [*]
theorem Get_c (n i : Int) (l : List Int) : Pure Tryz.prog 104 [row n l, I i] (getF n l i) := by
 refine fi104.pu (by simp) ?_
 simp -implicitDefEqProofs [ac104, row]
 refine aG (sA n l) (by simp) ?_
 simp -implicitDefEqProofs [lO Tryz.underlying85 Tryz.underlying3, wA]
 refine ⟨fun hg => ?_, fun hg => ⟨fun h0 => ⟨fun h1 => ?_, fun h1 => ?_⟩, fun h0 => ?_⟩⟩
 ·simp [getF, hg, d8]
 ·simp [getF, hg, h0]; omega
 ·have hg' := hg
  obtain ⟨g1, g2, g3, _⟩ := hg'
  have e1 : i.tdiv 32 = i / 32 := Int.tdiv_eq_ediv_of_nonneg h0
  have e2 : i.tmod 32 = i % 32 := Int.tmod_eq_emod_of_nonneg h0
  have e3 : (i / 32).toNat = i.toNat / 32 := by omega
  have e4 : (2 : Int) * (i % 32) = ((2 * (i.toNat % 32) : Nat) : Int) := by omega
  have hb : ∀ j, 0 ≤ bI l j ∧ bI l j < 4 := fun j => ⟨Int.emod_nonneg _ (by decide), Int.emod_lt_of_pos _ (by decide)⟩
  have hb' := hb i.toNat
  have e5 : jZ .u64 (gJ .u64 (l[i.toNat / 32]?.getD 0) ((2 * (i.toNat % 32) : Nat) : Int)) 3 = bI l i.toNat := by
   rw [bAnd3, lZ _ _ rfl (by simp only [IntKind.bits]; omega), Int.pow_mul]; rfl
  rw [e1, e2, aT (x := i / 32) (by omega) (by omega), aT (x := 2 * (i % 32)) (by omega) (by omega), e3, e4, e5, aT (by omega) (by omega)]
  refine ⟨⟨by omega, by omega⟩, by omega, ?_⟩
  simp [getF, hg, h0, h1]
 ·have : ¬ 0 ≤ i := by omega
  simp [getF, hg, this]
def putW (u : Int) (j : Nat) (v : Int) : Int := bOr .u64 (bClr .u64 u (lV .u64 3 ((2 * j : Nat) : Int))) (lV .u64 v ((2 * j : Nat) : Int))
def pU (l : List Int) (i : Nat) (v : Int) : List Int := l.set (i / 32) (putW (l[i / 32]?.getD 0) (i % 32) v)
theorem LN (k : Nat) : wd (List.replicate k 0) = 0 := by
 induction k with
 | zero => rfl
 | succ k ih => simp [List.replicate_succ, wd, ih]
theorem mH {n : Int} {l : List Int} (hw : ∀ u ∈ l, (Lit.int .u64 u).wf = true) : cQ n l ↔ mN n l := by
 unfold cQ mN
 refine ⟨fun ⟨h0, h1, h2, h3⟩ => ⟨h0, h1, h2, fun i hi hlt => ?_⟩, fun ⟨h0, h1, h2, h3⟩ => ⟨h0, h1, h2, fun hp => ?_⟩⟩
 ·have hp : 0 < n % 32 := by omega
  have h4 := h3 hp
  have e : i / 32 = l.length - 1 := by omega
  unfold bI
  rw [e]
  have e2 : i % 32 = (n % 32).toNat + (i % 32 - (n % 32).toNat) := by omega
  rw [e2, Int.pow_add, ← Int.ediv_ediv_of_nonneg (Int.pow_nonneg (by decide)), h4]
  simp
 ·have hl : l.length - 1 < l.length := by omega
  have hb := uX (hw _ (List.getElem_mem hl))
  rw [List.getElem?_eq_getElem hl] at *
  simp only [Option.getD_some]
  have hp2 : (n % 32).toNat < 32 := by omega
  have e4 : (4 : Int) ^ 32 = 4 ^ (n % 32).toNat * 4 ^ (32 - (n % 32).toNat) := by rw [← Int.pow_add]; congr 1; omega
  have hpos : (0 : Int) < 4 ^ (n % 32).toNat := Int.pow_pos (by decide)
  have hlt : l[l.length - 1] / 4 ^ (n % 32).toNat < 4 ^ (32 - (n % 32).toNat) := by
   apply Int.ediv_lt_of_lt_mul hpos
   rw [Int.mul_comm, ← e4]
   have : (4 : Int) ^ 32 = 18446744073709551616 := by decide
   omega
  have hnn : 0 ≤ l[l.length - 1] / 4 ^ (n % 32).toNat := Int.ediv_nonneg hb.1 (by omega)
  rw [← rM (32 - (n % 32).toNat) _ hnn hlt]
  have : (List.range (32 - (n % 32).toNat)).map (fun j => l[l.length - 1] / 4 ^ (n % 32).toNat / 4 ^ j % 4) = List.replicate (32 - (n % 32).toNat) 0 := by
   apply List.ext_getElem
   ·simp
   ·intro j hj1 hj2
    simp at hj1
    have h5 := h3 (32 * (l.length - 1) + (n % 32).toNat + j) (by omega) (by omega)
    unfold bI at h5
    rw [show (32 * (l.length - 1) + (n % 32).toNat + j) / 32 = l.length - 1 by omega, show (32 * (l.length - 1) + (n % 32).toNat + j) % 32 = (n % 32).toNat + j by omega, List.getElem?_eq_getElem hl, Option.getD_some, Int.pow_add, ← Int.ediv_ediv_of_nonneg (by omega)] at h5
    simpa using h5
  rw [this, LN]
def low : Int := 6148914691236517205
def Two (n : Int) (l : List Int) (m : Int) (k : List Int) : Prop := cQ n l ∧ cQ m k ∧ n = m
instance (n : Int) (l : List Int) (m : Int) (k : List Int) : Decidable (Two n l m k) := by unfold Two; infer_instance
theorem W_low : W64 low := by unfold W64 low; decide
theorem bt_low : ∀ j, j < 32 → bt low (2 * j) = true ∧ bt low (2 * j + 1) = false := by decide
def gt (x y : Int) (j : Nat) : Bool := (bt x (2 * j + 1) && !bt y (2 * j + 1)) || ((bt x (2 * j + 1) == bt y (2 * j + 1)) && (bt x (2 * j) && !bt y (2 * j)))
section
variable {x y z : Int} (hx : W64 x) (hy : W64 y)
include hx hy
end
theorem W_zero : W64 0 := by unfold W64; decide
section
variable {x y z : Int} (hx : W64 x) (hy : W64 y)
include hx hy
end
def eK (l : List Int) : Prop := ∀ u ∈ l, W64 u
theorem wfW {u : Int} (h : (Lit.int .u64 u).wf = true) : W64 u := by
 have := uX h
 exact ⟨this.1, by omega⟩
theorem Wwf {u : Int} (h : W64 u) : (Lit.int .u64 u).wf = true := by
 unfold W64 at h
 simp [Lit.wf, IntKind.min, IntKind.max, IntKind.signed, IntKind.bits]; omega
section
variable {n m : Int} {l k : List Int}
end
theorem HW {n : Int} {l : List Int} (h : cQ n l) : l.length ≤ 128 := by have := h.2.1; have := h.2.2.1; omega
section
variable {n m : Int} {l k : List Int}
theorem qM {i : Nat} (h : i < n.toNat) : (cl n l)[i]? = some (bI l i) := by simp [cl, h]
theorem B4 {i : Nat} (h : i < n.toNat) : (cl n l)[i]?.getD 0 = bI l i := by rw [qM h]; rfl
theorem cl_ext {cs : List Int} (hl : cs.length = n.toNat) (h : ∀ i, i < n.toNat → cs[i]?.getD 0 = bI l i) : cs = cl n l := by
 apply List.ext_getElem?
 intro i
 by_cases hi : i < n.toNat
 ·rw [qM hi, ← h i hi, List.getElem?_eq_getElem (by omega)]; rfl
 ·rw [List.getElem?_eq_none (by omega), List.getElem?_eq_none (by rw [q8]; omega)]
theorem o_ (h : cQ n l) : n.toNat ≤ 32 * l.length := by have := h.1; have := h.2.2.1; omega
theorem KE (g : cQ n l) (w : eK l) : cS (cl n l) = l := by
 have hc := (mH (n := n) fun u hu => Wwf (w u hu)).1 g
 apply List.ext_getElem?
 intro q
 have h0 := g.1
 have h2 := g.2.2.1
 by_cases hq : q < l.length
 ·rw [iE _ _ (by rw [q8]; omega), List.getElem?_eq_getElem hq]
  congr 1
  have hw := w _ (List.getElem_mem hq)
  have e : ((cl n l).drop (32 * q)).take 32 = (List.range (min 32 (n.toNat - 32 * q))).map (fun j => l[q] / 4 ^ j % 4) := by
   apply List.ext_getElem?
   intro j
   by_cases hj : j < min 32 (n.toNat - 32 * q)
   ·rw [List.getElem?_take, if_pos (by omega), List.getElem?_drop, qM (by omega)]
    simp only [List.getElem?_map, List.getElem?_range hj, Option.map_some]
    unfold bI
    rw [show (32 * q + j) / 32 = q by omega, show (32 * q + j) % 32 = j by omega, List.getElem?_eq_getElem hq]
    rfl
   ·rw [List.getElem?_eq_none (by simp [q8]; omega), List.getElem?_eq_none (by simp; omega)]
  rw [e]
  refine rM _ _ hw.1 ?_
  by_cases h32 : 32 ≤ n.toNat - 32 * q
  ·rw [Nat.min_eq_left h32]
   have : (4 : Int) ^ 32 = 18446744073709551616 := by decide
   rw [this]; exact hw.2
  ·have hq1 : q = l.length - 1 := by omega
   have hp : 0 < n % 32 := by omega
   have h3 := g.2.2.2 hp
   rw [← hq1, List.getElem?_eq_getElem hq] at h3
   simp only [Option.getD_some] at h3
   rw [Nat.min_eq_right (by omega), show n.toNat - 32 * q = (n % 32).toNat by omega]
   have hpos : (0 : Int) < 4 ^ (n % 32).toNat := Int.pow_pos (by decide)
   apply Classical.byContradiction
   intro hlt
   have : 1 ≤ l[q] / 4 ^ (n % 32).toNat := by
    rw [Int.le_ediv_iff_mul_le hpos]; omega
   omega
 ·rw [List.getElem?_eq_none (by rw [dY, q8]; omega), List.getElem?_eq_none (by omega)]
theorem pV {i : Nat} (h : i < 32 * l.length) : ∃ hq : i / 32 < l.length, bI l i = l[i / 32] / 4 ^ (i % 32) % 4 := by
 refine ⟨by omega, ?_⟩
 unfold bI
 rw [List.getElem?_eq_getElem (by omega : i / 32 < l.length)]; rfl
theorem FT {u v : Int} {j : Nat} : W64 (putW u j v) := W_or
theorem pK {v : Int} (h0 : 0 ≤ v) (h3 : v ≤ 3) {t : Nat} (ht : 2 ≤ t) : bt v t = false := by
 unfold bt
 apply Nat.testBit_lt_two_pow
 have : 2 ^ 2 ≤ 2 ^ t := Nat.pow_le_pow_right (by decide) ht
 omega
theorem GP {u v : Int} (hu : W64 u) (h0 : 0 ≤ v) (h3 : v ≤ 3) {j i : Nat} (hj : j < 32) (hi : i < 32) : putW u j v / 4 ^ i % 4 = if i = j then v else u / 4 ^ i % 4 := by
 have hv : W64 v := ⟨h0, by omega⟩
 have h33 : W64 3 := ⟨by decide, by decide⟩
 have key : ∀ t, t < 64 → bt (putW u j v) t = ((bt u t && !(!decide (t < 2 * j) && bt 3 (t - 2 * j))) || (!decide (t < 2 * j) && bt v (t - 2 * j))) := by
  intro t ht
  unfold putW
  have w1 := W_shl h33 (k := 2 * j) (by omega)
  have w2 := W_shl hv (k := 2 * j) (by omega)
  rw [bt_or W_clr w2, bt_clr hu w1 ht, DZ h33 (by omega), DZ hv (by omega)]
  simp [ht]
 have k1 := key (2 * i) (by omega)
 have k2 := key (2 * i + 1) (by omega)
 rw [lK FT.1, k1, k2]
 by_cases hij : i = j
 ·subst hij
  have e : v = (if bt v 1 then 2 else 0) + (if bt v 0 then 1 else 0) := by
   have := lK h0 0
   simp at this
   omega
  have b0 : bt 3 0 = true := by decide
  have b1 : bt 3 1 = true := by decide
  simp only [if_true]
  rw [show 2 * i + 1 - 2 * i = 1 by omega, Nat.sub_self, b0, b1]
  conv => rhs; rw [e]
  have hn : ¬ 2 * i + 1 < 2 * i := by omega
  simp [hn]
 ·rw [if_neg hij, lK hu.1]
  by_cases hlt : i < j
  ·have d1 : 2 * i < 2 * j := by omega
   have d2 : 2 * i + 1 < 2 * j := by omega
   simp [d1, d2]
  ·have d1 : ¬ 2 * i < 2 * j := by omega
   have d2 : ¬ 2 * i + 1 < 2 * j := by omega
   rw [pK (v := 3) (by decide) (by decide) (by omega), pK (v := 3) (by decide) (by decide) (by omega), pK h0 h3 (by omega), pK h0 h3 (by omega)]
   simp
theorem FS {v : Int} {i : Nat} (h : eK l) : eK (pU l i v) := by
 intro u hu
 rcases List.mem_or_eq_of_mem_set hu with h1 | rfl
 ·exact h u h1
 ·exact FT
theorem wF {v : Int} (h : eK l) (h0 : 0 ≤ v) (h3 : v ≤ 3) {i j : Nat} (hi : i < 32 * l.length) (hj : j < 32 * l.length) : bI (pU l j v) i = if i = j then v else bI l i := by
 obtain ⟨a1, a2⟩ := pV hi
 obtain ⟨b1, b2⟩ := pV (l := pU l j v) (i := i) (by simpa [pU] using hi)
 rw [a2, b2]
 simp only [pU, List.getElem_set]
 have hj2 : j / 32 < l.length := by omega
 by_cases hq : j / 32 = i / 32
 ·rw [if_pos hq]
  have e : l[j / 32]?.getD 0 = l[i / 32] := by rw [hq, List.getElem?_eq_getElem a1]; rfl
  rw [e, GP (h _ (List.getElem_mem _)) h0 h3 (by omega) (by omega)]
  by_cases hij : i = j
  ·subst hij; simp
  ·rw [if_neg hij, if_neg (by omega)]
 ·rw [if_neg hq, if_neg (by rintro rfl; exact hq rfl)]
theorem EO {v : Int} (w : eK l) (g : cQ n l) (h0 : 0 ≤ v) (h3 : v ≤ 3) {i : Nat} (hi : i < n.toNat) : cQ n (pU l i v) := by
 have hc := (mH (n := n) fun u hu => Wwf (w u hu)).1 g
 refine (mH (n := n) fun u hu => Wwf (FS w u hu)).2 ⟨hc.1, hc.2.1, by simpa [pU] using hc.2.2.1, fun j hj hlt => ?_⟩
 have hlt' : j < 32 * l.length := by simpa [pU] using hlt
 rw [wF w h0 h3 hlt' (by have := o_ g; omega), if_neg (by omega)]
 exact hc.2.2.2 j hj hlt'
theorem F1 {n : Int} (h0 : 0 ≤ n) (h1 : n ≤ 4096) : cQ n (List.replicate ((n + 31) / 32).toNat 0) := by
 refine ⟨h0, h1, by simp; omega, fun hp => ?_⟩
 rw [List.getElem?_replicate]
 split <;> simp
theorem zero_W (q : Nat) : eK (List.replicate q 0) := by
 intro u hu; rw [List.mem_replicate] at hu; rw [hu.2]; exact W_zero
theorem F7 {q i : Nat} : bI (List.replicate q 0) i = 0 := by
 unfold bI
 rw [List.getElem?_replicate]
 split <;> simp
end
theorem uZ {a : Nat} (ha : a < 2 ^ 64) (m : Nat) (hm : m < 2 ^ 64) : jZ .u64 (a : Int) (m : Int) = ((a &&& m : Nat) : Int) := LV ha hm
theorem sD {a b : Nat} (h : a + b < 2 ^ 64) : IntKind.u64.wrap ((a : Int) + (b : Int)) = ((a + b : Nat) : Int) := by
 rw [l8 (by omega) (by omega)]; omega
theorem HY (x : Int) : IntKind.i64.wrap x % 128 = x % 128 := by
 have key : ∀ (b : Bool) (m : Int), (if b = true then m - 18446744073709551616 else m) % 128 = m % 128 := by
  intro b m; cases b <;> simp; omega
 have e : IntKind.i64.wrap x % 128 = x % 18446744073709551616 % 128 := key _ (x % 18446744073709551616)
 rw [e]; omega
theorem and127 (x : Int) : jZ .i64 x 127 = x % 128 := by
 show IntKind.i64.wrap (((BitVec.ofInt 64 x &&& BitVec.ofInt 64 127).toNat : Nat) : Int) = _
 rw [BitVec.toNat_and, BitVec.toNat_ofInt, BitVec.toNat_ofInt]
 have e2 : ((127 : Int) % ((2 ^ 64 : Nat) : Int)).toNat = 2 ^ 7 - 1 := by decide
 rw [e2, Nat.and_two_pow_sub_one_eq_mod, aT (by omega) (by omega)]
 omega
theorem ones_c (x : Nat) (h : x < 2 ^ 64) : Pure Tryz.prog 129 [U x] (I ((bits x 64).sum : Nat)) := by
 refine fi129.pu (by simp) ?_
 simp -implicitDefEqProofs [ac129]
 obtain ⟨p1, p2, p3, p4, p5, p6, p7, p8⟩ := pop_ok x h
 have lt_and : ∀ a m : Nat, m < 2 ^ 64 → (a &&& m) < 2 ^ 64 := fun a m hm => Nat.lt_of_le_of_lt Nat.and_le_right hm
 have m0 : (6148914691236517205 : Int) = ((6148914691236517205 : Nat) : Int) := rfl
 have m1 : (3689348814741910323 : Int) = ((3689348814741910323 : Nat) : Int) := rfl
 have m2 : (1085102592571150095 : Int) = ((1085102592571150095 : Nat) : Int) := rfl
 have sh : ∀ (a k : Nat), k ≤ 64 → gJ .u64 (a : Int) ((k : Nat) : Int) = ((a / 2 ^ k : Nat) : Int) := fun a k hk => LK hk
 have dv : ∀ (a k : Nat), a < 2 ^ 64 → a / 2 ^ k < 2 ^ 64 := fun a k ha => Nat.lt_of_le_of_lt (Nat.div_le_self _ _) ha
 rw [show (1 : Int) = ((1 : Nat) : Int) from rfl, show (2 : Int) = ((2 : Nat) : Int) from rfl, show (4 : Int) = ((4 : Nat) : Int) from rfl, show (8 : Int) = ((8 : Nat) : Int) from rfl, show (16 : Int) = ((16 : Nat) : Int) from rfl, show (32 : Int) = ((32 : Nat) : Int) from rfl, m0, m1, m2,
  sh x 1 (by decide), uZ (dv x 1 h) _ (by decide), uZ h _ (by decide), sD p2]
 generalize ha1 : (x / 2 ^ 1 &&& 6148914691236517205) + (x &&& 6148914691236517205) = a1 at *
 rw [sh a1 2 (by decide), uZ (dv a1 2 p2) _ (by decide), uZ p2 _ (by decide), sD p3]
 generalize ha2 : (a1 / 2 ^ 2 &&& 3689348814741910323) + (a1 &&& 3689348814741910323) = a2 at *
 rw [sh a2 4 (by decide), sD p4, uZ p4 _ (by decide)]
 generalize ha3 : (a2 / 2 ^ 4 + a2 &&& 1085102592571150095) = a3 at *
 rw [sh a3 8 (by decide), sD p5]
 generalize ha4 : a3 + a3 / 2 ^ 8 = a4 at *
 rw [sh a4 16 (by decide), sD p6]
 generalize ha5 : a4 + a4 / 2 ^ 16 = a5 at *
 rw [sh a5 32 (by decide), sD p7]
 rw [and127, HY]
 omega
section
variable {n m : Int} {l k : List Int}
theorem vI (w : eK l) : cQ n l ↔ mN n l := mH (n := n) fun u hu => Wwf (w u hu)
end
section
variable {n m : Int} {l k : List Int}
def eL (l : List Int) (v : Int) (t : Nat) : Nat := (List.range t).countP fun i => decide (bI l i = v)
theorem tF {v : Int} {t : Nat} : eL l v t ≤ t := by
 unfold eL
 have := List.countP_le_length (p := fun i => decide (bI l i = v)) (l := List.range t)
 simpa using this
theorem vZ {v : Int} {a b : Nat} : eL l v (a + b) = eL l v a + ((List.range b).countP fun j => decide (bI l (a + j) = v)) := by
 unfold eL
 rw [List.range_add, List.countP_append, List.countP_map]
 rfl
def mS (n : Int) (l : List Int) (v : Int) : D := if cQ n l then (if 0 ≤ v ∧ v ≤ 3 then .tup [I (eL l v n.toNat : Nat), I 0] else .tup [I 0, I 2]) else .tup [I 0, I 3]
theorem yR (f : Nat → Nat) : ∀ k, ((List.range (2 * k)).map f).sum = ((List.range k).map fun j => f (2 * j) + f (2 * j + 1)).sum
 | 0 => rfl
 | k + 1 => by
  rw [show 2 * (k + 1) = 2 * k + 1 + 1 by omega, List.range_succ, List.range_succ, List.range_succ (n := k)]
  simp only [List.map_append, List.sum_append, List.map_cons, List.map_nil, List.sum_cons, List.sum_nil, yR f k]
  omega
theorem uH (p : Nat → Bool) : ∀ k, ((List.range k).map fun j => if p j then 1 else 0).sum = (List.range k).countP p
 | 0 => rfl
 | k + 1 => by
  rw [List.range_succ, List.map_append, List.sum_append, uH p k, List.countP_append]
  by_cases h : p k = true <;> simp [h]
def unl (v : Int) : Int := IntKind.u64.wrap (IntKind.u64.wrap v * 6148914691236517205)
def j_ (x v : Int) : Int := jZ .u64 (rG .u64 (bOr .u64 (mY .u64 x (unl v)) (gJ .u64 (mY .u64 x (unl v)) 1))) low
theorem HS : ∀ v : Fin 4, (0 ≤ unl (v.val : Int) ∧ unl (v.val : Int) < 18446744073709551616) ∧ ∀ j, j < 32 → bt (unl (v.val : Int)) (2 * j) = bt (v.val : Int) 0 ∧ bt (unl (v.val : Int)) (2 * j + 1) = bt (v.val : Int) 1 := by decide
theorem unl_ok {v : Int} (h0 : 0 ≤ v) (h3 : v ≤ 3) : W64 (unl v) ∧ ∀ j, j < 32 → bt (unl v) (2 * j) = bt v 0 ∧ bt (unl v) (2 * j + 1) = bt v 1 := by
 have := HS ⟨v.toNat, by omega⟩
 rw [show (((⟨v.toNat, by omega⟩ : Fin 4).val : Nat) : Int) = v by simp; omega] at this
 exact this
theorem DQ {x v : Int} (hx : W64 x) (h0 : 0 ≤ v) (h3 : v ≤ 3) {j : Nat} (hj : j < 32) : bt (j_ x v) (2 * j) = decide (x / 4 ^ j % 4 = v) ∧ bt (j_ x v) (2 * j + 1) = false := by
 obtain ⟨u1, u2⟩ := unl_ok h0 h3
 obtain ⟨u3, u4⟩ := u2 j hj
 obtain ⟨l1, l2⟩ := bt_low j hj
 have wd : W64 (mY .u64 x (unl v)) := W_xor
 have ws : W64 (gJ .u64 (mY .u64 x (unl v)) ((1 : Nat) : Int)) := W_shr wd (by decide)
 have e1 : (1 : Int) = ((1 : Nat) : Int) := rfl
 have hv : v = (if bt v 1 then 2 else 0) + (if bt v 0 then 1 else 0) := by
  have := lK h0 0
  simp at this
  omega
 unfold j_
 rw [e1, E1 W_not W_low, E1 W_not W_low, l1, l2, bt_not W_or (by omega), bt_or wd ws, bt_shr wd (by decide), EF hx u1, show 1 + 2 * j = 2 * j + 1 by omega, EF hx u1, u3, u4, lK hx.1]
 refine ⟨?_, by simp⟩
 conv => rhs; rw [hv]
 cases bt x (2 * j) <;> cases bt x (2 * j + 1) <;> cases bt v 0 <;> cases bt v 1 <;> decide
theorem GQ {x v : Int} (hx : W64 x) (h0 : 0 ≤ v) (h3 : v ≤ 3) : (bits (j_ x v).toNat 64).sum = (List.range 32).countP fun j => decide (x / 4 ^ j % 4 = v) := by
 have e : ∀ i, (j_ x v).toNat / 2 ^ i % 2 = if bt (j_ x v) i then 1 else 0 := by
  intro i
  unfold bt
  rw [Nat.testBit_eq_decide_div_mod_eq]
  have := Nat.mod_two_eq_zero_or_one ((j_ x v).toNat / 2 ^ i)
  rcases this with h | h <;> simp [h]
 unfold bits
 rw [show (64 : Nat) = 2 * 32 from rfl, yR, ← uH]
 congr 1
 apply List.map_congr_left
 intro j hj
 rw [List.mem_range] at hj
 obtain ⟨b1, b2⟩ := DQ hx h0 h3 hj
 rw [e, e, b1, b2]
 simp
theorem CL {v : Int} (w : eK l) (h0 : 0 ≤ v) (h3 : v ≤ 3) {q : Nat} (hq : q < l.length) : eL l v (32 * (q + 1)) = eL l v (32 * q) + (bits (j_ l[q] v).toNat 64).sum := by
 rw [show 32 * (q + 1) = 32 * q + 32 by omega, vZ, GQ (w _ (List.getElem_mem hq)) h0 h3]
 congr 1
 apply List.countP_congr
 intro j hj
 rw [List.mem_range] at hj
 obtain ⟨a1, a2⟩ := pV (l := l) (i := 32 * q + j) (by omega)
 have b1 : (32 * q + j) / 32 = q := by omega
 have b2 : (32 * q + j) % 32 = j := by omega
 simp only [b1, b2] at a2
 rw [a2]
theorem C2 {v : Int} (g : cQ n l) (w : eK l) : eL l v (32 * l.length) = eL l v n.toNat + (if v = 0 then 32 * l.length - n.toNat else 0) := by
 have hp := o_ g
 have hok := (vI w).1 g
 rw [show 32 * l.length = n.toNat + (32 * l.length - n.toNat) by omega, vZ]
 congr 1
 have hz : ∀ j, j < 32 * l.length - n.toNat → bI l (n.toNat + j) = 0 := fun j hj => hok.2.2.2 _ (by have := g.1; omega) (by omega)
 split
 ·rename_i hv
  rw [List.countP_eq_length.2]
  ·simp
  ·intro j hj
   rw [List.mem_range] at hj
   simp [hz j hj, hv]
 ·rename_i hv
  rw [List.countP_eq_zero.2]
  intro j hj
  rw [List.mem_range] at hj
  simp [hz j hj]
  exact fun h => hv h.symm
theorem ME (w : eK l) (v : Int) : Pure Tryz.prog 95 [row n l, I v] (mS n l v) := by
 refine fi95.pu (by simp) ?_
 simp -implicitDefEqProofs [ac95, row]
 refine aG (sA n l) (by simp) ?_
 simp -implicitDefEqProofs
 by_cases g : cQ n l
 ·have h0 := g.1
  have h4 := g.2.1
  have h5 := g.2.2.1
  have hlen := HW g
  by_cases h1 : 0 ≤ v
  ·by_cases h2 : v ≤ 3
   ·have e : ¬ v < 0 := by omega
    have e2 : ¬ 3 < v := by omega
    simp -implicitDefEqProofs [e, e2, h1, h2, d8, g]
    rw [show IntKind.u64.wrap (IntKind.u64.wrap v * 6148914691236517205) = unl v from rfl]
    refine lpG cf95 lb95_0 [8, 10, 11, 29] (α := Nat) (fun i _ => [(8, I (eL l v (32 * i) : Nat)), (29, I i)]) (fun _ _ => []) (fun i _ => i ≤ l.length) (fun i => l.length - i) 0 (by omega) (by simp [eL]) (by simp) ?_
    rintro i nx hi
    have hc := tF (l := l) (v := v) (t := 32 * i)
    simp -implicitDefEqProofs [lb95_0]
    refine ⟨fun hlt => ⟨hlt, ?_⟩, fun hge => ?_⟩
    ·have hg : l[i]?.getD 0 = l[i] := by rw [List.getElem?_eq_getElem hlt]; rfl
     rw [hg, show jZ .u64 (rG .u64 (bOr .u64 (mY .u64 l[i] (unl v)) (gJ .u64 (mY .u64 l[i] (unl v)) 1))) 6148914691236517205 = j_ l[i] v from rfl]
     have hW : W64 (j_ l[i] v) := W_and
     have hn : j_ l[i] v = (((j_ l[i] v).toNat : Nat) : Int) := by have := hW.1; omega
     have hs := CL w h1 h2 hlt
     have hc2 := tF (l := l) (v := v) (t := 32 * (i + 1))
     have hb : (j_ l[i] v).toNat < 2 ^ 64 := by have := hW.2; have := hW.1; omega
     have ho := ones_c (j_ l[i] v).toNat hb
     rw [← hn] at ho
     refine aG (ho) (by simp) ?_
     simp -implicitDefEqProofs
     rw [aT (x := (i : Int) + 1) (by omega) (by omega), aT (by omega) (by omega)]
     exact aI (i + 1) (by omega) (by omega) (by simp [hs]) (by simp)
    ·have e3 : i = l.length := by omega
     subst e3
     have ht := C2 (v := v) g w
     have hc3 := tF (l := l) (v := v) (t := n.toNat)
     have hp := o_ g
     rw [aT (x := 32 * (l.length : Int)) (by omega) (by omega), aT (x := 32 * (l.length : Int) - n) (by omega) (by omega), aT (by omega) (by omega)]
     refine ⟨fun hv => ?_, fun hv => ?_⟩
     ·rw [if_pos hv] at ht
      simp only [mS, g, h1, h2, if_true, and_self]
      congr 4
      omega
     ·rw [if_neg hv] at ht
      simp only [mS, g, h1, h2, if_true, and_self]
      congr 4
      omega
   ·have e : ¬ v < 0 := by omega
    have e2 : 3 < v := by omega
    simp -implicitDefEqProofs [e, e2, d8, mS, g, h2]
  ·have e : v < 0 := by omega
   simp -implicitDefEqProofs [e, d8, mS, g, h1]
 ·simp -implicitDefEqProofs [mS, g, d8]
end
set_option maxHeartbeats 4000000
theorem IP {α : Type} {enc : α → List D} {k : Nat} {l : List α} {mem : Mem} (h : ∀ x, (enc x).all D.cell = true) (hk : ∀ x, (enc x).length = k) : els mem k (.sl (em enc l)) = some (em enc l) := by
 show (if ((em enc l).all fun e => e.length == k && e.all D.cell) = true then some (em enc l) else none) = _
 rw [if_pos (FV h hk)]
theorem GI {l : List Int} {mem : Mem} : els mem 1 (.sl (em a9 l)) = some (em a9 l) := IP (fun x => rfl) (fun x => rfl)
abbrev tbC (ps : List Int) (t n : Int) (l : List Int) : List D := [.sl (em a9 ps), I t, I n, .sl (em eY l)]
abbrev tb (ps : List Int) (t n : Int) (l : List Int) : D := .agg (tbC ps t n l)
theorem C1 (l : List Int) (hl : l.length < 2 ^ 44) : Pure Tryz.prog 63 [.sl (em a9 l)] (.sl (em a9 l)) := by
 refine fi63.pu (by simp) ?_
 have b1 : l.length * 8 ≤ 3 * 2 ^ 46 := by omega
 simp -implicitDefEqProofs [-els, GI, ac63, b1]
theorem KI (l : List Int) (hl : l.length < 2 ^ 44) : Pure Tryz.prog 85 [.sl (em a9 l)] (.sl (em a9 l)) := by
 by_cases he : l = []
 ·subst he
  refine CG ?_ (fun p c => ?_) (fun h => absurd rfl h)
  ·refine fi85.pu (by simp) ?_
   simp -implicitDefEqProofs [ac85, KO Tryz.underlying24]
  ·refine fi85.pu (by simp) ?_
   simp -implicitDefEqProofs [ac85, IX Tryz.underlying24]
 ·have hne : em a9 l ≠ [] := by cases l with
   | nil => exact absurd rfl he
   | cons a l => simp [em]
  have b1 : l.length * 8 ≤ 3 * 2 ^ 46 := by omega
  refine fi85.pu (by simp) ?_
  simp -implicitDefEqProofs [-els, GI, ac85, KV Tryz.underlying24 hne, b1]
def newT (ps : List Int) (t : Int) : D × Int := if (cR ps).2 ≠ 0 then (tb [] 0 0 [], (cR ps).2) else if tp t < 0 then (tb [] 0 0 [], 3) else (tb ps t (pr ps) (List.replicate ((pr ps + 31) / 32).toNat 0), 0)
theorem New_c16 (ps : List Int) (t : Int) (hl : ps.length < 2 ^ 44) : Pure Tryz.prog 53 [.sl (em a9 ps), I t] (.tup [(newT ps t).1, I (newT ps t).2]) := by
 refine fi53.pu (by simp) ?_
 simp -implicitDefEqProofs [ac53]
 refine aG (qJ ps (by omega)) (by simp) ?_
 simp -implicitDefEqProofs
 unfold newT
 by_cases he : (cR ps).2 = 0
 ·obtain ⟨ho, hp96, hp1⟩ := gQ he
  have hpos := nE ho
  simp -implicitDefEqProofs [he, hp1]
  refine aG (tY t) (by simp) ?_
  simp -implicitDefEqProofs
  by_cases hb : tp t < 0
  ·have hb1 : ¬ 0 ≤ tp t := by omega
   simp -implicitDefEqProofs [hb, hb1]
  ·have hb1 : 0 ≤ tp t := by omega
   have hN : 0 ≤ pr ps ∧ pr ps ≤ 4096 := by omega
   simp -implicitDefEqProofs [hb, hb1]
   refine aG (New_c (pr ps)) (by simp) ?_
   simp -implicitDefEqProofs [newF, hN.1, hN.2, tup2]
   refine aG (KI ps hl) (by simp) ?_
   simp -implicitDefEqProofs
 ·simp -implicitDefEqProofs [he]
def fT (ps : List Int) (t n : Int) (l : List Int) : Prop := (cR ps).2 = 0 ∧ 0 ≤ tp t ∧ n = pr ps ∧ cQ n l ∧ ∀ i, i < n.toNat → bI l i ≤ tp t
open Classical in
noncomputable def oH (ps : List Int) (t n : Int) (l : List Int) : Int := if fT ps t n l then 0 else 3
theorem EP {l : List Int} {n t : Int} (ht : 0 ≤ tp t) (hc : ∀ v : Int, tp t + 1 ≤ v → v < 4 → eL l v n.toNat = 0) : ∀ i, i < n.toNat → bI l i ≤ tp t := by
 intro i hi
 have hb := vS l i
 apply Classical.byContradiction
 intro h
 have := hc (bI l i) (by omega) hb.2
 unfold eL at this
 rw [List.countP_eq_zero] at this
 have := this i (by simpa using hi)
 simp at this
theorem cells_top' {l : List Int} {n t v : Int} (h : ∀ i, i < n.toNat → bI l i ≤ tp t) (hv : tp t < v) : eL l v n.toNat = 0 := by
 unfold eL
 rw [List.countP_eq_zero]
 intro i hi
 have := h i (by simpa using hi)
 simp
 omega
theorem D6 (ps : List Int) (t n : Int) (l : List Int) (w : eK l) (hl : ps.length < 2 ^ 44) : Pure Tryz.prog 66 [tb ps t n l] (I (oH ps t n l)) := by
 refine fi66.pu (by simp) ?_
 simp -implicitDefEqProofs [ac66]
 refine aG (qJ ps (by omega)) (by simp) ?_
 simp -implicitDefEqProofs
 refine aG (tY t) (by simp) ?_
 simp -implicitDefEqProofs
 by_cases he : (cR ps).2 = 0
 ·obtain ⟨ho, hp96, hp1⟩ := gQ he
  by_cases hb : tp t < 0
  ·have hno : ¬ fT ps t n l := fun h => by have := h.2.1; omega
   have hb1 : ¬ 0 ≤ tp t := by omega
   simp -implicitDefEqProofs [he, hb, hb1, hp1, oH, hno]
  ·have hb1 : 0 ≤ tp t := by omega
   by_cases hn : n = pr ps
   ·by_cases hg : cQ n l
    ·have hck : d8 n l = 0 := wA.2 hg
     simp -implicitDefEqProofs [he, hb, hb1, hp1, hn]
     rw [← hn]
     refine aG (sA n l) (by simp) ?_
     simp -implicitDefEqProofs [hck]
     generalize hR : oH ps t n l = R
     refine lpG cf66 lb66_0 [2, 7, 8] (α := Nat) (fun s _ => [(2, .top), (7, I (tp t + 1 + s)), (8, .top)]) (fun s _ => []) (fun s k => tp t + 1 + s ≤ 4 ∧ ∀ v : Int, tp t + 1 ≤ v → v < tp t + 1 + s → eL l v n.toNat = 0) (fun s => 4 - s) 0 ⟨by have := gI t; omega, fun v h1 h2 => by omega⟩ (by simp) (by simp) ?_
     rintro s k ⟨hs, hc⟩
     have hti := gI t
     by_cases hlt : tp t + 1 + (s : Int) < 4
     ·have w1 := wrS (x := tp t + 1 + (s : Int) + 1) (by omega) (by omega)
      have hv : 0 ≤ tp t + 1 + (s : Int) ∧ tp t + 1 + (s : Int) ≤ 3 := by omega
      simp -implicitDefEqProofs [lb66_0, hlt, Int.not_le.2 hlt]
      refine aG (ME w (tp t + 1 + s)) (by simp) ?_
      simp -implicitDefEqProofs [mS, hg, hv.1, hv.2]
      by_cases hz : eL l (tp t + 1 + s) n.toNat = 0
      ·simp -implicitDefEqProofs [hz, w1]
       refine aI (s + 1) ⟨by omega, fun v h1 h2 => ?_⟩ (by omega) (by simp; exact .inl (by rw [Int.add_assoc _ (s : Int) 1])) (by simp)
       by_cases e : v = tp t + 1 + s
       ·rw [e]; exact hz
       ·exact hc v h1 (by omega)
      ·have hno : ¬ fT ps t n l := fun h => hz (cells_top' h.2.2.2.2 (by omega))
       have hpos : 0 < eL l (tp t + 1 + s) n.toNat := by omega
       rw [oH, if_neg hno] at hR
       subst hR
       simp -implicitDefEqProofs [hpos, hz]
     ·have hyes : fT ps t n l := ⟨he, by omega, hn, hg, EP (by omega) fun v h1 h2 => hc v h1 (by omega)⟩
      rw [oH, if_pos hyes] at hR
      subst hR
      simp -implicitDefEqProofs [lb66_0, hlt, Int.not_lt.1 hlt]
    ·have hck : d8 n l = 3 := by unfold d8; rw [if_neg hg]
     have hno : ¬ fT ps t n l := fun h => hg h.2.2.2.1
     simp -implicitDefEqProofs [he, hb, hb1, hp1, hn]
     rw [← hn]
     refine aG (sA n l) (by simp) ?_
     simp -implicitDefEqProofs [hck, oH, hno]
   ·have hno : ¬ fT ps t n l := fun h => hn h.2.2.1
    simp -implicitDefEqProofs [he, hb, hb1, hp1, hn, oH, hno]
 ·have hno : ¬ fT ps t n l := fun h => he h.1
  simp -implicitDefEqProofs [he, oH, hno]
theorem uE : ∀ (ts ps : List Int) (a : Int), inT ts ps = true → 0 ≤ a → a * pr ts ≤ vl ts ps a ∧ vl ts ps a < (a + 1) * pr ts
 | [], ps, a, h, ha => by
  cases ps with
  | nil => simp [vl, pr]; omega
  | cons p ps => simp [inT] at h
 | t :: ts, [], a, h, ha => by simp [inT] at h
 | t :: ts, p :: ps, a, h, ha => by
  unfold inT at h
  simp only [Bool.and_eq_true, decide_eq_true_eq] at h
  obtain ⟨⟨h0, h1⟩, h2⟩ := h
  have hk : 0 ≤ a * (tp t + 1) := Int.mul_nonneg ha (by omega)
  obtain ⟨g1, g2⟩ := uE ts ps (a * (tp t + 1) + p) h2 (by omega)
  unfold vl pr
  have hP := CU ts
  have e1 : (a + 1) * ((tp t + 1) * pr ts) = (a * (tp t + 1) + (tp t + 1)) * pr ts := by rw [← Int.mul_assoc, Int.add_mul a 1, Int.one_mul]
  have e2 : a * ((tp t + 1) * pr ts) = (a * (tp t + 1)) * pr ts := by rw [Int.mul_assoc]
  have m1 : (a * (tp t + 1)) * pr ts ≤ (a * (tp t + 1) + p) * pr ts := Int.mul_le_mul_of_nonneg_right (by omega) hP
  have m2 : (a * (tp t + 1) + p + 1) * pr ts ≤ (a * (tp t + 1) + (tp t + 1)) * pr ts := Int.mul_le_mul_of_nonneg_right (by omega) hP
  omega
theorem LZ {ps : List Int} {t n : Int} {l : List Int} : fT ps t n l ↔ (cR ps).2 = 0 ∧ cQ n l ∧ n = (cR ps).1 ∧ 0 ≤ tp t ∧ ∀ i, i < n.toNat → bI l i ≤ tp t := by
 constructor
 ·rintro ⟨h1, h2, h3, h4, h5⟩
  exact ⟨h1, h4, by rw [(gQ h1).2.2]; exact h3, h2, h5⟩
 ·rintro ⟨h1, h2, h3, h4, h5⟩
  exact ⟨h1, h4, by rw [(gQ h1).2.2] at h3; exact h3, h2, h5⟩
theorem AO (ps : List Int) (t n : Int) (l : List Int) (w : eK l) (hl : ps.length < 2 ^ 44) {mem : Mem} {nx : Nat} {K : KD}
  (hy : fT ps t n l → ∀ id ver nx', nx ≤ id → id < nx' → K (.tup [.osl id ver 0 n.toNat, B true]) ((id, .arr ver 1 (em a9 (cl n l))) :: mem) nx')
  (hn : ¬ fT ps t n l → ∀ nx', nx ≤ nx' → K (.tup [.pl (.slice none 0 0), B false]) mem nx') :
  bH Tryz.prog 26 [tb ps t n l] mem nx K := by
 refine fi26.ct (by simp) fun hfr => ?_
 rw [LZ] at hy hn
 simp -implicitDefEqProofs [ac26]
 refine aG (kC ps (by omega)) (by simp) ?_
 simp -implicitDefEqProofs
 generalize cR ps = C at *
 refine aD (LY n l (fun hok id ver nx' h1 h2 => ?_) fun hno nx' h1 => ?_)
 ·have g := (vI w).2 hok
  have h0 := g.1
  have h96 := g.2.1
  have hN := Int.max_eq_left h0
  simp -implicitDefEqProofs
  by_cases he : C.2 = 0
  ·by_cases hnc : n = C.1
   ·simp -implicitDefEqProofs [he, ← hnc, hN]
    refine aG (iA t) (by simp) ?_
    simp -implicitDefEqProofs
    by_cases hb : tp t < 0
    ·have hno : ¬ (C.2 = 0 ∧ cQ n l ∧ n = C.1 ∧ 0 ≤ tp t ∧ ∀ i, i < n.toNat → bI l i ≤ tp t) := fun h => by omega
     have hb1 : ¬ 0 ≤ tp t := by omega
     simp -implicitDefEqProofs [hb, hb1]
     exact ⟨mem, aF (aE _) (hfr id (by omega)), hn hno _ (by omega)⟩
    ·have hb1 : 0 ≤ tp t := by omega
     simp -implicitDefEqProofs [hb, hb1]
     refine lpG cf26 lb26_0 [2, 3, 8] (α := Nat) (fun s _ => [(2, .top), (3, .top), (8, I s)]) (fun s _ => (id, .arr ver 1 (em a9 (cl n l))) :: mem) (fun s k => id < k ∧ (s : Int) ≤ n ∧ ∀ i, i < s → bI l i ≤ tp t) (fun s => n.toNat - s) 0 ⟨by omega, by omega, by simp⟩ (by simp) (aL _) ?_
     rintro s k ⟨hk, hs, hc⟩
     by_cases hlt : (s : Int) < n
     ·have hsn : s < n.toNat := by omega
      have w1 := aT (x := (s : Int) + 1) (by omega) (by omega)
      have hget := B4 (l := l) hsn
      have hget2 : (cl n l)[s]? = some (bI l s) := qM hsn
      have hget3 : ∀ h, (cl n l)[s]'h = bI l s := fun h => by
       have := hget2
       rw [List.getElem?_eq_getElem h] at this
       exact Option.some.inj this
      simp -implicitDefEqProofs [lb26_0, hlt, hsn, hN, hget, hget2, hget3, Int.not_le.2 hlt]
      refine aG (iA t) (by simp) ?_
      simp -implicitDefEqProofs
      by_cases hbig : tp t < bI l s
      ·have hno : ¬ (C.2 = 0 ∧ cQ n l ∧ n = C.1 ∧ 0 ≤ tp t ∧ ∀ i, i < n.toNat → bI l i ≤ tp t) := fun h => by have := h.2.2.2.2 s hsn; omega
       simp -implicitDefEqProofs [hbig, Int.not_le.2 hbig]
       exact ⟨mem, aF (aE _) (hfr id (by omega)), hn hno _ (by omega)⟩
      ·simp -implicitDefEqProofs [hbig, Int.not_lt.1 hbig, w1]
       refine aI (s + 1) ⟨by omega, by omega, fun i hi => ?_⟩ (by omega) (by simp) (aL _)
       by_cases e : i = s
       ·subst e; omega
       ·exact hc i (by omega)
     ·simp -implicitDefEqProofs [lb26_0, hlt, Int.not_lt.1 hlt]
      exact ⟨_, aE _, hy ⟨he, g, hnc, hb1, fun i hi => hc i (by omega)⟩ id ver _ (by omega) (by omega)⟩
   ·have hno : ¬ (C.2 = 0 ∧ cQ n l ∧ n = C.1 ∧ 0 ≤ tp t ∧ ∀ i, i < n.toNat → bI l i ≤ tp t) := fun h => hnc h.2.2.1
    simp -implicitDefEqProofs [he, hnc, hN]
    exact ⟨mem, aF (aE _) (hfr id (by omega)), hn hno _ (by omega)⟩
  ·have hno : ¬ (C.2 = 0 ∧ cQ n l ∧ n = C.1 ∧ 0 ≤ tp t ∧ ∀ i, i < n.toNat → bI l i ≤ tp t) := fun h => he h.1
   simp -implicitDefEqProofs [he]
   exact ⟨mem, aF (aE _) (hfr id (by omega)), hn hno _ (by omega)⟩
 ·have hno2 : ¬ (C.2 = 0 ∧ cQ n l ∧ n = C.1 ∧ 0 ≤ tp t ∧ ∀ i, i < n.toNat → bI l i ≤ tp t) := fun h => hno ((vI w).1 h.2.1)
  by_cases he : C.2 = 0
  ·simp -implicitDefEqProofs [he]
   exact ⟨mem, aE _, hn hno2 _ (by omega)⟩
  ·simp -implicitDefEqProofs [he]
   exact ⟨mem, aE _, hn hno2 _ (by omega)⟩
open Rows
theorem GN {ps : List Int} {t n : Int} {l : List Int} (w : eK l) (hl : ps.length < 2 ^ 44) (h : fT ps t n l) : Pure Tryz.prog 26 [tb ps t n l] (.tup [.sl (em a9 (cl n l)), B true]) := by
 refine lX (by simp) (AO ps t n l w hl (fun _ id ver nx' _ _ => ?_) (fun h2 nx' _ => absurd h h2))
 simp [look, List.take_of_length_le, cl]
theorem IS {ps : List Int} {t n : Int} {l : List Int} (w : eK l) (hl : ps.length < 2 ^ 44) (h : ¬ fT ps t n l) : Pure Tryz.prog 26 [tb ps t n l] (.tup [.sl [], B false]) := by
 refine lX (by simp) (AO ps t n l w hl (fun h2 id ver nx' _ _ => absurd h2 h) (fun _ nx' _ => ?_))
 simp
theorem ED (ps : List Int) (t : Int) (cs : List Int) (h4 : ∀ c ∈ cs, j6 c) (hc : cs.length ≤ 4096) (hl : ps.length < 2 ^ 44) : Pure Tryz.prog 34 [.sl (em a9 ps), I t, .sl (em a9 cs)] (tb ps t cs.length (cS cs)) := by
 refine fi34.pu (by simp) ?_
 simp -implicitDefEqProofs [ac34]
 refine aG (C1 ps hl) (by simp) ?_
 simp -implicitDefEqProofs
 refine aG (Pack_c cs h4 hc) (by simp) ?_
 simp -implicitDefEqProofs
def F4 (a b : List Int) : Prop := a.length = b.length ∧ ∀ i, i < a.length → a[i]?.getD 0 ≤ b[i]?.getD 0
instance (a b : List Int) : Decidable (F4 a b) := by unfold F4; infer_instance
theorem oL : ∀ {ts ds : List Int}, inT ts ds = true → ds.length = ts.length
 | [], [], _ => rfl
 | [], d :: ds, h => by simp [inT] at h
 | t :: ts, [], h => by simp [inT] at h
 | t :: ts, d :: ds, h => by
  rw [nI] at h
  simp only [Bool.and_eq_true] at h
  simp [oL h.2]
open Go.Fx.Flt
abbrev Nls := List (List UInt8 × Int)
def kV : Nls → List UInt8 → Int
 | [], _ => 0
 | x :: xs, n => if x.1 = n then x.2 else kV xs n
def iX (g : Int → Int) : Nat → Int → Int
 | 0, p => p
 | k + 1, p => if g p ≤ p then p else iX g k (g p)
def casF (g : Br → Int) (l : List Br) : Int := l.foldl (fun m b => max m (g b)) 0
def fR (V : List UInt8 → List Int → Int) (op : Int) (n : List UInt8) (l : List Int) : Int :=
 if op = 18 then cnF (l[0]?.getD 0) (l[1]?.getD 0) else if op = 7 then V n l else l.foldl min 1
mutual
def ptF (V : List UInt8 → List Int → Int) : Ex → Nls → Int
 | .mk op n tl ty z args p, N =>
  if op = 1 ∨ op = 2 ∨ op = 3 then 1 else if op = 4 then 3 else if op = 5 then 0 else if op = 6 then kV N n else
  if op = 19 then (if ptI V args 0 N = 0 then 0 else max (ptI V args 1 N) (ptI V args 2 N)) else
  if op = 20 then casF (fun b => if b.nl then ptI V args 1 N else ptI V args 2 ((tl, b.tl) :: (n, b.hd) :: N)) (csF (ptI V args 0 N)) else
  if op = 21 then ptI V args 1 ((n, iX (fun q => ptI V args 0 ((n, q) :: N)) 4 0) :: N) else
  if op = 22 then (if 0 < ptI V args 0 N then ptI V args 1 ((n, ptI V args 0 N) :: N) else 0) else
  fR V op n (ptL V args N)
def ptI (V : List UInt8 → List Int → Int) : List Ex → Nat → Nls → Int
 | [], _, _ => 0
 | x :: xs, 0, N => ptF V x N
 | x :: xs, i + 1, N => ptI V xs i N
def ptL (V : List UInt8 → List Int → Int) : List Ex → Nls → List Int
 | [], _ => []
 | x :: xs, N => ptF V x N :: ptL V xs N
end
def Pin (t p : Int) : Prop := 0 ≤ p ∧ p ≤ tp t
inductive EnvR : List Pm → Nls → Prop where
 | nil : EnvR [] []
 | snoc {env : List Pm} {N : Nls} {x : Pm} {p : Int} (h : EnvR env N) (hp : Pin x.type p) : EnvR (env ++ [x]) ((x.name, p) :: N)
theorem EnvR.look {env : List Pm} {N : Nls} (h : EnvR env N) {n : List UInt8} {t : Int} (ht : aZ t) (hl : mG env n = t) : Pin t (kV N n) := by
 induction h with
 | nil => unfold mG fS at hl; simp at hl; unfold aZ at ht; omega
 | snoc h hp ih =>
  rename_i env N x p
  unfold mG at hl ih
  rw [List.reverse_append] at hl
  simp only [List.reverse_cons, List.reverse_nil, List.nil_append, List.singleton_append, fS] at hl
  unfold kV
  split
  ·rename_i e; rw [if_pos e] at hl; subst hl; exact hp
  ·rename_i e; rw [if_neg e] at hl; exact ih hl
def VOk (P : List Fn) (V : List UInt8 → List Int → Int) : Prop := ∀ n l, ¬ cF P n l.length → inT ((hdF P n).params.map Pm.type) l = true → Pin (hdF P n).type (V n l)
def PIn (P : List Fn) (V : List UInt8 → List Int → Int) (e : Ex) : Prop := ∀ ⦃env : List Pm⦄ ⦃N : Nls⦄ ⦃t : Int⦄, Sh e → aZ t → bD P env e t = [] → EnvR env N → Pin t (ptF V e N)
theorem nX {t : Int} (h : aZ t) : 1 ≤ tp t := by rcases h with rfl | rfl | rfl <;> decide
theorem o4 {P : List Fn} {env : List Pm} {op ty t : Int} {n tl : List UInt8} : ∀ (l : List Ex) (i k : Nat) (x : Ex), bM P env op n tl ty t i l = [] → l[k]? = some x → bD P (aM env op n tl ty (i + k)) x (aK P op n ty (i + k) t) = []
 | [], i, k, x, h, hx => by simp at hx
 | y :: ys, i, 0, x, h, hx => by
  simp only [List.getElem?_cons_zero, Option.some.injEq] at hx
  subst hx
  simp only [bM, List.append_eq_nil_iff] at h
  exact h.1
 | y :: ys, i, k + 1, x, h, hx => by
  simp only [List.getElem?_cons_succ] at hx
  simp only [bM, List.append_eq_nil_iff] at h
  have := o4 ys (i + 1) k x h.2 hx
  rw [show i + (k + 1) = i + 1 + k by omega]; exact this
theorem fU {V : List UInt8 → List Int → Int} {N : Nls} : ∀ (l : List Ex) (k : Nat) (x : Ex), l[k]? = some x → ptI V l k N = ptF V x N
 | [], k, x, h => by simp at h
 | y :: ys, 0, x, h => by simp only [List.getElem?_cons_zero, Option.some.injEq] at h; subst h; rfl
 | y :: ys, k + 1, x, h => by simp only [List.getElem?_cons_succ] at h; exact fU ys k x h
theorem mM {V : List UInt8 → List Int → Int} {N : Nls} : ∀ (l : List Ex), (ptL V l N).length = l.length
 | [] => rfl
 | y :: ys => by simp [ptL, mM ys]
theorem lL {V : List UInt8 → List Int → Int} {N : Nls} : ∀ (l : List Ex) (k : Nat) (x : Ex), l[k]? = some x → (ptL V l N)[k]? = some (ptF V x N)
 | [], k, x, h => by simp at h
 | y :: ys, 0, x, h => by simp only [List.getElem?_cons_zero, Option.some.injEq] at h; subst h; rfl
 | y :: ys, k + 1, x, h => by simp only [List.getElem?_cons_succ] at h; simp only [ptL, List.getElem?_cons_succ]; exact lL ys k x h
theorem BW {g : Int → Int} {t : Int} (hg : ∀ q, Pin t q → Pin t (g q)) : ∀ k p, Pin t p → Pin t (iX g k p)
 | 0, p, h => h
 | k + 1, p, h => by
  unfold iX
  split
  ·exact h
  ·exact BW hg k _ (hg p h)
theorem BV {g : Br → Int} {t : Int} : ∀ (l : List Br) (m : Int), Pin t m → (∀ b ∈ l, Pin t (g b)) → Pin t (l.foldl (fun m b => max m (g b)) m)
 | [], m, h, _ => h
 | b :: l, m, h, hl => by
  refine BV l _ ?_ (fun c hc => hl c (by simp [hc]))
  have h1 := hl b (by simp)
  show Pin t (max m (g b))
  unfold Pin at *
  constructor <;> omega
theorem zV {p : Int} : ∀ b ∈ csF p, (b.nl = false → Pin 1 b.hd ∧ Pin 3 b.tl) := by
 intro b hb
 unfold csF at hb
 unfold Pin
 rw [tp_1, qQ]
 split at hb
 ·simp at hb
 ·split at hb
  ·simp only [List.mem_singleton] at hb; subst hb; simp
  ·split at hb
   ·simp only [List.mem_cons, List.not_mem_nil, or_false] at hb
    rcases hb with rfl | rfl <;> simp
   ·simp only [List.mem_cons, List.not_mem_nil, or_false] at hb
    rcases hb with rfl | rfl <;> simp
theorem GM : ∀ (l : List Int) (m : Int), (0 ≤ m ∧ m ≤ 1) → (∀ x ∈ l, 0 ≤ x) → 0 ≤ l.foldl min m ∧ l.foldl min m ≤ 1
 | [], m, h, _ => h
 | b :: l, m, h, hl => by
  refine GM l _ ?_ (fun c hc => hl c (by simp [hc]))
  have h1 := hl b (by simp)
  show 0 ≤ min m b ∧ min m b ≤ 1
  constructor <;> omega
theorem u7 : ∀ (ts l : List Int), l.length = ts.length → (∀ (k : Nat) (t : Int), ts[k]? = some t → Pin t (l[k]?.getD 0)) → inT ts l = true
 | [], [], _, _ => rfl
 | [], _ :: _, h, _ => by simp at h
 | _ :: _, [], h, _ => by simp at h
 | t :: ts, p :: ps, h, hk => by
  rw [nI, u7 ts ps (by simpa using h) (fun k t ht => by have := hk (k + 1) t (by simpa using ht); simpa using this)]
  have := hk 0 t (by simp)
  simp only [List.getElem?_cons_zero, Option.getD_some] at this
  simp [this.1, this.2]
theorem tS {α : Type} {f : α → Int} {l : List α} {k : Nat} {t : Int} (h : (l.map f)[k]? = some t) : ∃ x, l[k]? = some x ∧ f x = t := by
 rw [List.getElem?_map] at h
 cases hx : l[k]? with
 | none => rw [hx] at h; simp at h
 | some x => rw [hx] at h; exact ⟨x, rfl, by simpa using h⟩
theorem EnvR.one {env : List Pm} {N : Nls} (h : EnvR env N) {n : List UInt8} {t p a : Int} (hp : Pin t p) : EnvR (env ++ [⟨n, t, a⟩]) ((n, p) :: N) := EnvR.snoc (x := ⟨n, t, a⟩) h hp
theorem I4 {P : List Fn} {V : List UInt8 → List Int → Int} (hP : PT P) (hV : VOk P V) (op : Int) (n tl : List UInt8) (ty : Int) (z : Cx) (args : List Ex) (p : Int) (ih : ∀ x ∈ args, PIn P V x) : PIn P V (.mk op n tl ty z args p) := by
 intro env N t hs ht hw he
 unfold Sh at hs
 obtain ⟨hsh, hss⟩ := hs
 unfold bD at hw
 rw [List.append_eq_nil_iff] at hw
 obtain ⟨hw, hown⟩ := hw
 have h1 := nX ht
 have hown' : cH op ∨ bT P env op n ty args.length = t := by
  apply Classical.byContradiction
  intro g
  rw [if_neg g] at hown; simp at hown
 have hbad : op = 7 → ¬ cF P n args.length := by
  intro h7 hb
  subst h7
  rcases hown' with h | h
  ·unfold cH at h; omega
  ·unfold bT at h
   rw [if_neg (by omega), if_neg (by omega), if_neg (by omega), if_neg (by omega), if_pos rfl, if_pos hb] at h
   unfold aZ at ht; omega
 have hws : bM P env op n tl ty t 0 args = [] := by
  by_cases h7 : op = 7 ∧ cF P n args.length
  ·exact absurd h7.2 (hbad h7.1)
  ·rw [if_neg h7] at hw; exact hw
 have harg : ∀ k x, args[k]? = some x → bD P (aM env op n tl ty k) x (aK P op n ty k t) = [] := fun k x hx => by
  have := o4 args 0 k x hws hx
  rwa [Nat.zero_add] at this
 have hin : ∀ k, k < args.length → ∀ {env' : List Pm} {M : Nls}, aM env op n tl ty k = env' → EnvR env' M → aZ (aK P op n ty k t) → Pin (aK P op n ty k t) (ptI V args k M) := fun k hk env' M hen hM htw => by
  have hx := List.getElem?_eq_getElem hk
  rw [fU args k _ hx]
  refine ih _ (List.getElem_mem hk) (jK hss (List.getElem_mem hk)) htw ?_ hM
  rw [← hen]; exact harg k _ hx
 unfold ptF
 unfold dH at hsh
 by_cases c1 : op = 1 ∨ op = 2 ∨ op = 3
 ·rw [if_pos c1]; unfold Pin; omega
 rw [if_neg c1]
 have own_of : ¬ cH op → bT P env op n ty args.length = t := fun h => hown'.resolve_left h
 by_cases c4 : op = 4
 ·rw [if_pos c4]
  have h := own_of (by unfold cH; omega)
  unfold bT at h
  rw [if_neg (by omega), if_pos c4] at h
  subst h; unfold Pin; rw [qQ]; omega
 rw [if_neg c4]
 by_cases c5 : op = 5
 ·rw [if_pos c5]; unfold Pin; omega
 rw [if_neg c5]
 by_cases c6 : op = 6
 ·rw [if_pos c6]
  have h := own_of (by unfold cH; omega)
  unfold bT at h
  rw [if_neg (by omega), if_neg c4, if_neg c5, if_pos c6] at h
  exact he.look ht h
 rw [if_neg c6]
 by_cases c19 : op = 19
 ·rw [if_pos c19]
  subst c19
  have hl : args.length = 3 := by omega
  have w1 : aK P 19 n ty 1 t = t := by simp [aK]
  have w2 : aK P 19 n ty 2 t = t := by simp [aK]
  have a1 := hin 1 (by omega) (env' := env) (by simp [aM]) he (by rw [w1]; exact ht)
  have a2 := hin 2 (by omega) (env' := env) (by simp [aM]) he (by rw [w2]; exact ht)
  rw [w1] at a1
  rw [w2] at a2
  unfold Pin at *
  split <;> constructor <;> omega
 rw [if_neg c19]
 by_cases c20 : op = 20
 ·rw [if_pos c20]
  subst c20
  have hl : args.length = 3 := by omega
  have w1 : aK P 20 n ty 1 t = t := by simp [aK]
  have w2 : aK P 20 n ty 2 t = t := by simp [aK]
  refine BV _ 0 (by unfold Pin; omega) fun b hb => ?_
  show Pin t (if b.nl = true then ptI V args 1 N else ptI V args 2 ((tl, b.tl) :: (n, b.hd) :: N))
  split
  ·have a1 := hin 1 (by omega) (env' := env) (by simp [aM]) he (by rw [w1]; exact ht)
   rw [w1] at a1; exact a1
  ·rename_i hb0
   obtain ⟨q1, q2⟩ := zV b hb (by simpa using hb0)
   have a2 := hin 2 (by omega) (env' := (env ++ [⟨n, 1, 0⟩]) ++ [⟨tl, 3, 0⟩]) (by simp [aM]) ((he.one q1).one q2) (by rw [w2]; exact ht)
   rw [w2] at a2; exact a2
 rw [if_neg c20]
 by_cases c21 : op = 21
 ·rw [if_pos c21]
  subst c21
  have hl : args.length = 2 ∧ aZ ty := by
   unfold aZ at *; omega
  have w0 : aK P 21 n ty 0 t = ty := by simp [aK]
  have w1 : aK P 21 n ty 1 t = t := by simp [aK]
  have hty := nX hl.2
  have hp := BW (g := fun q => ptI V args 0 ((n, q) :: N)) (t := ty) (fun q hq => by
   have a0 := hin 0 (by omega) (env' := env ++ [⟨n, ty, 0⟩]) (by simp [aM]) (he.one hq) (by rw [w0]; exact hl.2)
   rw [w0] at a0; exact a0) 4 0 (by unfold Pin; omega)
  have a1 := hin 1 (by omega) (env' := env ++ [⟨n, ty, 0⟩]) (by simp [aM]) (he.one hp) (by rw [w1]; exact ht)
  rw [w1] at a1; exact a1
 rw [if_neg c21]
 by_cases c22 : op = 22
 ·rw [if_pos c22]
  subst c22
  have hl : args.length = 2 ∧ aZ ty := by
   unfold aZ at *; omega
  have w0 : aK P 22 n ty 0 t = ty := by simp [aK]
  have w1 : aK P 22 n ty 1 t = t := by simp [aK]
  have a0 := hin 0 (by omega) (env' := env) (by simp [aM]) he (by rw [w0]; exact hl.2)
  rw [w0] at a0
  split
  ·have a1 := hin 1 (by omega) (env' := env ++ [⟨n, ty, 0⟩]) (by simp [aM]) (he.one a0) (by rw [w1]; exact ht)
   rw [w1] at a1; exact a1
  ·unfold Pin; omega
 rw [if_neg c22]
 have h := own_of (by unfold cH; omega)
 unfold bT at h
 rw [if_neg (by omega), if_neg c4, if_neg c5, if_neg c6] at h
 unfold fR
 by_cases c18 : op = 18
 ·rw [if_pos c18]
  subst c18
  rw [if_neg (by omega), if_neg (by omega), if_pos rfl] at h
  subst h
  have hl : args.length = 2 := by omega
  have w1 : aK P 18 n ty 1 3 = 3 := by simp [aK]
  have a1 := hin 1 (by omega) (env' := env) (by simp [aM]) he (by rw [w1]; exact ht)
  have hy := List.getElem?_eq_getElem (l := args) (i := 1) (by omega)
  rw [w1, fU args 1 _ hy] at a1
  rw [lL args 1 _ hy, Option.getD_some]
  unfold Pin at a1
  rw [qQ] at a1
  unfold cnF Pin; rw [qQ]
  constructor <;> omega
 rw [if_neg c18]
 by_cases c7 : op = 7
 ·rw [if_pos c7]
  subst c7
  have hb := hbad rfl
  rw [if_pos rfl, if_neg hb] at h
  subst h
  have hb' := hb
  unfold cF at hb'
  have hlen : (hdF P n).params.length = args.length := by omega
  refine hV n _ (by rw [mM]; exact hb) (u7 _ _ (by rw [mM, List.length_map, hlen]) fun k u hu => ?_)
  obtain ⟨x, hx, rfl⟩ := tS hu
  have hk : k < args.length := by rw [← hlen]; exact (List.getElem?_eq_some_iff.1 hx).1
  have hy := List.getElem?_eq_getElem hk
  rw [lL args k _ hy, Option.getD_some, ← fU args k _ hy]
  have w : aK P 7 n ty k (hdF P n).type = x.type := by simp [aK, hx]
  have htx : aZ x.type := by
   have hf : hdF P n ∈ P := by
    unfold hdF
    have : ¬ aN P 0 n < 0 := by omega
    have hlt : (aN P 0 n).toNat < P.length := by have := dA P 0 n; omega
    rw [List.getElem?_eq_getElem hlt]; exact List.getElem_mem hlt
   exact (hP _ hf).2 x (List.mem_of_getElem? hx)
  have a := hin k hk (env' := env) (by simp [aM]) he (by rw [w]; exact htx)
  rw [w] at a; exact a
 rw [if_neg c7]
 rw [if_neg c7] at h
 have ht1 : tp t = 1 := by
  subst h
  split
  ·rfl
  ·first
   | (split <;> rfl)
   | (rw [if_neg c18]; split <;> rfl)
 have hm := GM (ptL V args N) 1 (by omega) fun x hx => by
  obtain ⟨k, hk⟩ := List.getElem?_of_mem hx
  have hkl : k < args.length := by rw [← mM (V := V) (N := N) args]; exact (List.getElem?_eq_some_iff.1 hk).1
  have hy := List.getElem?_eq_getElem hkl
  rw [lL args k _ hy, ← fU args k _ hy] at hk
  have hw : aZ (aK P op n ty k t) := by
   have c2 : ¬ (op = 21 ∨ op = 22) := by omega
   unfold aK aZ
   rw [if_neg c18, if_neg c7, if_neg c19, if_neg c20, if_neg c2]
   by_cases c14 : op = 14 <;> simp [c14]
  have a := hin k hkl (env' := env) (by unfold aM; rw [if_neg (by omega), if_neg (by omega)]) he hw
  simp only [Option.some.injEq] at hk
  rw [hk] at a; exact a.1
 unfold Pin; rw [ht1]; exact hm
mutual
theorem C6 {P : List Fn} {V : List UInt8 → List Int → Int} (hP : PT P) (hV : VOk P V) : ∀ e : Ex, PIn P V e
 | .mk op n tl ty z args p => I4 hP hV op n tl ty z args p (D0 hP hV args)
theorem D0 {P : List Fn} {V : List UInt8 → List Int → Int} (hP : PT P) (hV : VOk P V) : ∀ l : List Ex, ∀ x ∈ l, PIn P V x
 | [], x, h => by simp at h
 | y :: ys, x, h => by
  rcases List.mem_cons.1 h with e | h
  ·rw [e]; exact C6 hP hV y
  ·exact D0 hP hV ys x h
end
set_option maxRecDepth 1000000
set_option maxHeartbeats 0
noncomputable def cf72 : Cfg := ⟨Tryz.prog, 19, [0, 1, 4], []⟩
noncomputable def lb72_0 : AC :=
 .seq (.ifr [JA 5 0, JM 6 5, JH 7 0 6, JD 8 1 7, JA 9 1, JO 10 (.bin .neq 9 (.t 8) (.t 9))] (.t 10) .skip (.exit 0)) (.block 1 (.reg [JA 11 0, JM 12 11, JH 13 2 12, JD 14 1 13, JB 0 14]))
noncomputable def ac72 : AC :=
 (.seq (.reg [JI 4 0]) (.seq (.block 0 (.loop lb72_0)) (.seq (.reg [JA 15 0, JM 16 15, JH 17 1 16, JD 18 1 17, JB 4 18]) .ret)))
theorem fi72 : FI Tryz.prog 72 cf72 ac72 [.t 4] [0, 1, 4] 19 := FI_of (c := Tryz.f72.body.getD .skip) Tryz.func72 (by kernel_rfl) (by rfl) (by rfl) (by kernel_rfl) (by kernel_rfl) rfl rfl rfl
@[simp] theorem cfP72 : cf72.P = Tryz.prog := (rfl)
noncomputable def cf74 : Cfg := ⟨Tryz.prog, 73, [0, 1, 2, 4, 6, 7, 9, 10, 12, 14, 16, 18, 62, 63, 64], []⟩
noncomputable def lb74_0 : AC :=
 .seq (.ifr [JO 65 (.bin .lss 3 (.g 64) (.g 63))] (.t 65) .skip (.exit 1)) (.seq (.block 2 (.seq (.reg [JO 66 (.ia 1 (.g 62) (.g 64)), JD 67 1 66, JB 16 67]) (.reg [JA 68 14, JA 69 16, JO 70 (.bi .min [.t 68, .t 69]), JB 14 70]))) (.reg [JO 71 (.bin .add 3 (.g 64) (JT 1)), JB 64 71]))
noncomputable def ac74 : AC :=
 (.seq (.reg [JN 4 1, JI 6 0]) (.seq (.seq (.reg [JG 17 0 4, JP 18 (.ld false 1 (.t 17))]) (.block 0 (.ifr [JO 20 (.bin .eql 40 (.g 18) (JT 18)), JC 19 20] (.t 19) (.seq (.reg [JA 22 2, JO 23 (.ia 1 (.t 22) (JT 0)), JD 24 1 23, JA 25 2, JO 26 (.ia 1 (.t 25) (JT 1)), JD 27 1 26, JO 28 (.pc (.f 103) [.t 24, .t 27]), JC 21 28, JK 29 0 21, JK 30 1 21, JB 7 29, JC 8 30]) (.seq (.reg [JA 31 7, JB 6 31]) .ret)) (.ifr [JO 33 (.bin .eql 40 (.g 18) (JT 7)), JC 32 33] (.t 32) (.seq (.reg [JA 34 0, JM 35 34, JH 36 2 35, JD 37 1 36, JA 38 0, JM 39 38, JH 40 1 39, JD 41 1 40, JG 42 1 4, JD 43 1 42, JO 44 (.lk none (.int .i64 0) false (.t 41) (.t 43)), JL 45 4 37 44, JE 46 4 45, JP 9 (.al [JW, JV, JV, JW]), JQ (.st 4 (.g 9) (.t 46))]) (.seq (.reg [JG 48 0 9, JD 49 1 48, JA 50 2, JO 51 (.pc (.f 49) [.t 49, .t 50]), JC 47 51, JK 52 0 47, JK 53 1 47, JB 10 52, JC 11 53]) (.seq (.reg [JG 55 2 9, JE 56 2 55, JA 57 10, JO 58 (.pc (.f 104) [.t 56, .t 57]), JC 54 58, JK 59 0 54, JK 60 1 54, JB 12 59, JC 13 60]) (.seq (.reg [JA 61 12, JB 6 61]) .ret)))) .skip)))) (.seq (.reg [JI 14 1]) (.seq (.seq (.reg [JP 62 (.mv (.g 2)), JP 63 (.len false (.g 62)), JI 64 0]) (.block 1 (.loop lb74_0))) (.seq (.reg [JA 72 14, JB 6 72]) .ret)))))
theorem fi74 : FI Tryz.prog 74 cf74 ac74 [.t 6] [0, 1, 2, 4, 6, 7, 9, 10, 12, 14, 16, 18, 62, 63, 64] 73 := FI_of (c := Tryz.f74.body.getD .skip) Tryz.func74 (by kernel_rfl) (by rfl) (by rfl) (by kernel_rfl) (by kernel_rfl) rfl rfl rfl
@[simp] theorem cfP74 : cf74.P = Tryz.prog := (rfl)
noncomputable def cf73 : Cfg := ⟨Tryz.prog, 65, [0, 1, 2, 4, 6, 7, 8, 11, 12, 24, 25, 26], [20, 39, 61]⟩
noncomputable def lb73_0 : AC :=
 .seq (.ifr [JO 27 (.bin .lss 3 (.g 26) (.g 25))] (.t 27) .skip (.exit 0)) (.seq (.block 1 (.seq (.reg [JO 28 (.ia 3 (.g 24) (.g 26)), JE 29 3 28, JP 11 (.al [.bool false, JV, JV]), JQ (.st 3 (.g 11) (.t 29))]) (.seq (.ifr [JG 30 0 11, JD 31 1 30] (.t 31) (.seq (.reg [JA 32 7, JA 33 0, JG 34 5 4, JD 35 1 34, JO 36 (.ia 7 (.t 35) (JT 1)), JE 37 7 36, JA 38 2, JO 39 (.cl (.f 39) [.t 33, .t 37, .t 38]), JO 40 (.bi .max [.t 32, .t 39]), JB 7 40]) (.exit 1)) .skip) (.seq (.reg [JG 41 1 4, JD 42 1 41, JG 43 1 11, JD 44 1 43, JA 45 2, JO 46 (.bld [JU, JV, .pointer none] [(0, 1, .t 42), (1, 1, .t 44), (2, 1, .t 45)]), JO 47 (.bxi (.t 46)), JB 12 47]) (.reg [JA 48 7, JA 49 0, JG 50 5 4, JD 51 1 50, JO 52 (.ia 7 (.t 51) (JT 2)), JE 53 7 52, JG 54 2 4, JD 55 1 54, JG 56 2 11, JD 57 1 56, JA 58 12, JO 59 (.bld [JU, JV, .pointer none] [(0, 1, .t 55), (1, 1, .t 57), (2, 1, .t 58)]), JO 60 (.bxi (.t 59)), JO 61 (.cl (.f 39) [.t 49, .t 53, .t 60]), JO 62 (.bi .max [.t 48, .t 61]), JB 7 62]))))) (.reg [JO 63 (.bin .add 3 (.g 26) (JT 1)), JB 26 63]))
noncomputable def ac73 : AC :=
 (.seq (.reg [JN 4 1, JI 6 0]) (.seq (.reg [JI 7 0]) (.seq (.reg [JA 14 0, JG 15 5 4, JD 16 1 15, JO 17 (.ia 7 (.t 16) (JT 0)), JE 18 7 17, JA 19 2, JO 20 (.cl (.f 39) [.t 14, .t 18, .t 19]), JO 21 (.pc (.f 102) [.t 20]), JC 13 21, JK 22 0 13, JK 23 1 13, JB 8 22, JC 9 23]) (.seq (.seq (.reg [JP 24 (.mv (.g 8)), JP 25 (.len false (.g 24)), JI 26 0]) (.block 0 (.loop lb73_0))) (.seq (.reg [JA 64 7, JB 6 64]) .ret)))))
theorem fi73 : FI Tryz.prog 73 cf73 ac73 [.t 6] [0, 1, 2, 4, 6, 7, 8, 11, 12, 24, 25, 26] 65 := FI_of (c := Tryz.f73.body.getD .skip) Tryz.func73 (by kernel_rfl) (by rfl) (by rfl) (by kernel_rfl) (by kernel_rfl) rfl rfl rfl
@[simp] theorem cfP73 : cf73.P = Tryz.prog := (rfl)
noncomputable def cf39 : Cfg := ⟨Tryz.prog, 142, [0, 1, 2, 4, 6, 7, 8, 9, 10, 12, 14, 15, 124, 125, 126], [37, 45, 52, 59, 73, 86, 99, 108, 122, 134, 136, 141, 1000000]⟩
noncomputable def lb39_0 : AC :=
 .seq (.ifr [JO 127 (.bin .lss 3 (.g 126) (.g 125))] (.t 127) .skip (.exit 3)) (.seq (.block 4 (.seq (.reg [JO 128 (.ia 7 (.g 124) (.g 126)), JE 129 7 128, JP 12 (.al [JV, JU, JU, JV, .complex .f64 0 0, JW, JV]), JQ (.st 7 (.g 12) (.t 129))]) (.reg [JA 130 10, JA 131 0, JF 132 7 12, JA 133 2, JO 134 (.cl (.f 39) [.t 131, .t 132, .t 133]), JO 135 (.bsl 1 1 [JV] [(0, 1, .t 134)]), JO 136 (.app 1 8 [JV] (.t 130) (.t 135)), JB 10 136]))) (.reg [JO 137 (.bin .add 3 (.g 126) (JT 1)), JB 126 137]))
noncomputable def lb39_1 : AC :=
 .seq (.ifr [JA 74 8, JA 75 7, JM 76 75, JH 77 1 76, JD 78 1 77, JO 79 (.bin .gtr 49 (.t 74) (.t 78))] (.t 79) .skip (.exit 1)) (.seq (.block 2 (.reg [JG 87 1 4, JD 88 1 87, JA 89 8, JA 90 2, JO 91 (.bld [JU, JV, .pointer none] [(0, 1, .t 88), (1, 1, .t 89), (2, 1, .t 90)]), JO 92 (.bxi (.t 91)), JB 7 92])) (.reg [JA 80 0, JG 81 5 4, JD 82 1 81, JO 83 (.ia 7 (.t 82) (JT 0)), JE 84 7 83, JA 85 7, JO 86 (.cl (.f 39) [.t 80, .t 84, .t 85]), JB 8 86]))
noncomputable def ac39 : AC :=
 (.seq (.reg [JN 4 1, JI 6 0]) (.seq (.seq (.reg [JG 13 0 4, JP 14 (.ld false 1 (.t 13))]) (.block 0 (.seq (.ifr [JO 16 (.bin .eql 40 (.g 14) (JT 1)), JB 15 16] (.g 15) .skip (.ifr [JO 17 (.bin .eql 40 (.g 14) (JT 2)), JB 15 17] (.g 15) .skip (.reg [JO 18 (.bin .eql 40 (.g 14) (JT 3)), JB 15 18]))) (.cond (.g 15) (.seq (.reg [JI 6 1]) .ret) (.ifr [JO 20 (.bin .eql 40 (.g 14) (JT 4)), JC 19 20] (.t 19) (.seq (.reg [JI 6 3]) .ret) (.ifr [JO 22 (.bin .eql 40 (.g 14) (JT 5)), JC 21 22] (.t 21) (.seq (.reg [JI 6 0]) .ret) (.ifr [JO 24 (.bin .eql 40 (.g 14) (JT 6)), JC 23 24] (.t 23) (.seq (.reg [JA 25 2, JG 26 1 4, JD 27 1 26, JO 28 (.pc (.f 72) [.t 25, .t 27]), JB 6 28]) .ret) (.ifr [JO 30 (.bin .eql 40 (.g 14) (JT 19)), JC 29 30] (.t 29) (.seq (.ifr [JA 31 0, JG 32 5 4, JD 33 1 32, JO 34 (.ia 7 (.t 33) (JT 0)), JE 35 7 34, JA 36 2, JO 37 (.cl (.f 39) [.t 31, .t 35, .t 36]), JO 38 (.bin .eql 49 (.t 37) (JT 0))] (.t 38) (.seq (.reg [JI 6 0]) .ret) .skip) (.seq (.reg [JA 39 0, JG 40 5 4, JD 41 1 40, JO 42 (.ia 7 (.t 41) (JT 1)), JE 43 7 42, JA 44 2, JA 46 0, JG 47 5 4, JD 48 1 47, JO 49 (.ia 7 (.t 48) (JT 2)), JE 50 7 49, JA 51 2, JO 45 (.cln (.f 39) [.t 39, .t 43, .t 44]), JO 52 (.cln (.f 39) [.t 46, .t 50, .t 51]), JO 53 (.bi .max [.t 45, .t 52]), JB 6 53]) .ret)) (.ifr [JO 55 (.bin .eql 40 (.g 14) (JT 20)), JC 54 55] (.t 54) (.seq (.reg [JA 56 0, JF 57 7 4, JA 58 2, JO 59 (.cl (.f 73) [.t 56, .t 57, .t 58]), JB 6 59]) .ret) (.ifr [JO 61 (.bin .eql 40 (.g 14) (JT 21)), JC 60 61] (.t 60) (.seq (.reg [JG 62 1 4, JD 63 1 62, JA 64 2, JO 65 (.bld [JU, JV, .pointer none] [(0, 1, .t 63), (2, 1, .t 64)]), JO 66 (.bxi (.t 65)), JB 7 66]) (.seq (.seq (.reg [JA 67 0, JG 68 5 4, JD 69 1 68, JO 70 (.ia 7 (.t 69) (JT 0)), JE 71 7 70, JA 72 7, JO 73 (.cl (.f 39) [.t 67, .t 71, .t 72]), JB 8 73]) (.block 1 (.loop lb39_1))) (.seq (.reg [JA 93 0, JG 94 5 4, JD 95 1 94, JO 96 (.ia 7 (.t 95) (JT 1)), JE 97 7 96, JA 98 7, JO 99 (.cl (.f 39) [.t 93, .t 97, .t 98]), JB 6 99]) .ret))) (.ifr [JO 101 (.bin .eql 40 (.g 14) (JT 22)), JC 100 101] (.t 100) (.seq (.seq (.reg [JA 102 0, JG 103 5 4, JD 104 1 103, JO 105 (.ia 7 (.t 104) (JT 0)), JE 106 7 105, JA 107 2, JO 108 (.cl (.f 39) [.t 102, .t 106, .t 107]), JB 9 108]) (.ifr [JA 109 9, JO 110 (.bin .gtr 49 (.t 109) (JT 0))] (.t 110) (.seq (.reg [JA 111 0, JG 112 5 4, JD 113 1 112, JO 114 (.ia 7 (.t 113) (JT 1)), JE 115 7 114, JG 116 1 4, JD 117 1 116, JA 118 9, JA 119 2, JO 120 (.bld [JU, JV, .pointer none] [(0, 1, .t 117), (1, 1, .t 118), (2, 1, .t 119)]), JO 121 (.bxi (.t 120)), JO 122 (.cl (.f 39) [.t 111, .t 115, .t 121]), JB 6 122]) .ret) .skip)) (.seq (.reg [JI 6 0]) .ret)) .skip))))))))))) (.seq (.reg [JP 10 (.mv (.c (.slice none 0 0)))]) (.seq (.seq (.reg [JG 123 5 4, JP 124 (.ld false 1 (.t 123)), JP 125 (.len false (.g 124)), JI 126 0]) (.block 3 (.loop lb39_0))) (.seq (.reg [JA 138 0, JF 139 7 4, JA 140 10, JO 141 (.cl (.f 74) [.t 138, .t 139, .t 140]), JB 6 141]) .ret)))))
theorem fi39 : FI Tryz.prog 39 cf39 ac39 [.t 6] [0, 1, 2, 4, 6, 7, 8, 9, 10, 12, 14, 15, 124, 125, 126] 142 := FI_of (c := Tryz.f39.body.getD .skip) Tryz.func39 (by kernel_rfl) (by rfl) (by rfl) (by kernel_rfl) (by kernel_rfl) rfl rfl rfl
@[simp] theorem cfP39 : cf39.P = Tryz.prog := (rfl)
noncomputable def cf50 : Cfg := ⟨Tryz.prog, 47, [0, 1, 2, 6, 7, 8, 9, 18, 19, 20], [46]⟩
noncomputable def lb50_0 : AC :=
 .seq (.ifr [JO 21 (.bin .lss 3 (.g 20) (.g 19))] (.t 21) .skip (.exit 0)) (.seq (.block 1 (.seq (.reg [JA 22 20, JO 23 (.ia 3 (.g 18) (.g 20)), JE 24 3 23, JP 9 (.al [JU, JV, JV]), JB 8 22, JQ (.st 3 (.g 9) (.t 24))]) (.reg [JG 25 0 9, JD 26 1 25, JA 27 2, JA 28 8, JL 29 1 27 28, JD 30 1 29, JA 31 7, JO 32 (.bld [JU, JV, .pointer none] [(0, 1, .t 26), (1, 1, .t 30), (2, 1, .t 31)]), JO 33 (.bxi (.t 32)), JB 7 33]))) (.reg [JO 34 (.bin .add 3 (.g 20) (JT 1)), JB 20 34]))
noncomputable def ac50 : AC :=
 (.seq (.reg [JI 6 0]) (.seq (.reg [JP 7 (.mv (.c (.pointer none)))]) (.seq (.seq (.reg [JA 10 0, JM 11 10, JH 12 0 11, JH 13 0 12, JD 14 1 13, JA 15 1, JL 16 11 14 15, JH 17 1 16, JP 18 (.ld false 1 (.t 17)), JP 19 (.len false (.g 18)), JI 20 0]) (.block 0 (.loop lb50_0))) (.seq (.reg [JA 35 0, JA 36 0, JM 37 36, JH 38 0 37, JH 39 0 38, JD 40 1 39, JA 41 1, JL 42 11 40 41, JH 43 3 42, JE 44 7 43, JA 45 7, JO 46 (.cl (.f 39) [.t 35, .t 44, .t 45]), JB 6 46]) .ret))))
theorem fi50 : FI Tryz.prog 50 cf50 ac50 [.t 6] [0, 1, 2, 6, 7, 8, 9, 18, 19, 20] 47 := FI_of (c := Tryz.f50.body.getD .skip) Tryz.func50 (by kernel_rfl) (by rfl) (by rfl) (by kernel_rfl) (by kernel_rfl) rfl rfl rfl
@[simp] theorem cfP50 : cf50.P = Tryz.prog := (rfl)
set_option maxRecDepth 100000
set_option maxHeartbeats 4000000
def cG : Nls → D
 | [] => .pl (.pointer none)
 | x :: r => .pt [Tx x.1, I x.2, cG r]
theorem imm_N : ∀ (N : Nls), (cG N).imm = true
 | [] => rfl
 | x :: r => by simp [cG, D.imm, D.imms, imm_N r]
attribute [simp] imm_N
def hasN (N : Nls) (n : List UInt8) : Prop := ∃ x ∈ N, x.1 = n
theorem EnvR.has {env : List Pm} {N : Nls} (h : EnvR env N) {n : List UInt8} {t : Int} (ht : aZ t) (hl : mG env n = t) : hasN N n := by
 induction h with
 | nil => unfold mG fS at hl; simp at hl; unfold aZ at ht; omega
 | snoc h hp ih =>
  rename_i env N x p
  unfold mG at hl ih
  rw [List.reverse_append] at hl
  simp only [List.reverse_cons, List.reverse_nil, List.nil_append, List.singleton_append, fS] at hl
  by_cases e : x.name = n
  ·exact ⟨_, List.mem_cons_self, e⟩
  ·rw [if_neg e] at hl
   obtain ⟨y, h1, h2⟩ := ih hl
   exact ⟨y, List.mem_cons_of_mem _ h1, h2⟩
theorem find_c (N : Nls) (n : List UInt8) (h : hasN N n) : Pure Tryz.prog 72 [cG N, Tx n] (I (kV N n)) := by
 refine fi72.pu (by simp) ?_
 simp -implicitDefEqProofs [ac72]
 generalize hR : kV N n = R
 refine lpG cf72 lb72_0 [0] (α := Nls) (fun s _ => [(0, cG s)]) (fun s _ => []) (fun s k => hasN s n ∧ kV s n = R) (fun s => s.length) N ⟨h, hR⟩ (by simp) (by simp) ?_
 rintro s k ⟨hs, hr⟩
 cases s with
 | nil => obtain ⟨x, hx, _⟩ := hs; simp at hx
 | cons x r =>
  unfold kV at hr
  by_cases e : x.1 = n
  ·rw [if_pos e] at hr
   subst hr
   simp -implicitDefEqProofs [lb72_0, cG, e]
  ·rw [if_neg e] at hr
   have e2 : ¬ n = x.1 := fun g => e g.symm
   simp -implicitDefEqProofs [lb72_0, cG, e, e2]
   refine aI r ⟨?_, hr⟩ (by simp) (by simp) (by simp)
   obtain ⟨y, h1, h2⟩ := hs
   rcases List.mem_cons.1 h1 with rfl | h1
   ·exact absurd h2 e
   ·exact ⟨y, h1, h2⟩
structure Tt where
 ps : List Int
 t : Int
 n : Int
 l : List Int
instance : Inhabited Tt := ⟨⟨[], 0, 0, []⟩⟩
def b8 (x : Tt) : List D := tbC x.ps x.t x.n x.l
def aS (P : List Fn) (T : List Tt) (n : List UInt8) (l : List Int) : Int := bI (T[(aN P 0 n).toNat]?.getD default).l (c9 (T[(aN P 0 n).toNat]?.getD default).ps l).1.toNat
structure nK (P : List Fn) (T : List Tt) : Prop where
 len : T.length = P.length
 ok : ∀ x ∈ T, fT x.ps x.t x.n x.l ∧ eK x.l ∧ x.ps.length < 2 ^ 44
 fit : ∀ i, (h : i < P.length) → (T[i]?.getD default).ps = P[i].params.map Pm.type ∧ (T[i]?.getD default).t = P[i].type
theorem yI {P : List Fn} {T : List Tt} (h : nK P T) : VOk P (aS P T) := by
 intro n l hb hin
 unfold cF at hb
 have hh := dA P 0 n
 have hlt : (aN P 0 n).toNat < P.length := by omega
 obtain ⟨f1, f2⟩ := h.fit _ hlt
 have hd : hdF P n = P[(aN P 0 n).toNat] := by unfold hdF; rw [List.getElem?_eq_getElem hlt]; rfl
 have hT : (aN P 0 n).toNat < T.length := by rw [h.len]; exact hlt
 have hx := h.ok (T[(aN P 0 n).toNat]?.getD default) (by rw [List.getElem?_eq_getElem hT]; exact List.getElem_mem hT)
 unfold aS
 rw [hd] at hin ⊢
 rw [← f1] at hin
 rw [← f2]
 obtain ⟨⟨k1, k2, k3, k4, k5⟩, _⟩ := hx
 have hlen := oL hin
 have hv := uE _ _ 0 hin (Int.le_refl 0)
 have hnum : c9 (T[(aN P 0 n).toNat]?.getD default).ps l = (vl (T[(aN P 0 n).toNat]?.getD default).ps l 0, 0) := by
  unfold c9
  rw [if_neg (by rw [k1]; simp), if_neg (by rw [hlen]; simp), if_pos hin]
 rw [hnum]
 have := k5 (vl (T[(aN P 0 n).toNat]?.getD default).ps l 0).toNat (by omega)
 have h0 := vS (T[(aN P 0 n).toNat]?.getD default).l (vl (T[(aN P 0 n).toNat]?.getD default).ps l 0).toNat
 exact ⟨h0.1, this⟩
theorem x3 {l : List Tt} {mem : Mem} {j : IntKind} {i : Int} : iaD mem 4 (.sl (em b8 l)) (.pl (.int j i)) = if 0 ≤ i ∧ i < l.length then some (.pt [.sl (em a9 (l[i.toNat]?.getD default).ps), I (l[i.toNat]?.getD default).t, I (l[i.toNat]?.getD default).n, .sl (em eY (l[i.toNat]?.getD default).l)]) else none := gF fun x => rfl
abbrev sgD (P : List Fn) (hid : Nat) (T : List Tt) : D := .pt [.sl (em aV P), .omap hid, .sl (em b8 T)]
structure Sg (mem : Mem) (P : List Fn) (hid : Nat) (T : List Tt) : Prop where
 at' : ∃ m, look mem hid = some (.map (bN m)) ∧ ∀ n, 0 ≤ aN P 0 n → cV m n = aN P 0 n
 tabs : nK P T
theorem oV (l : List Int) (i : Nat) (h : i < l.length) (m : Int) : (l.drop i).foldl min m = (l.drop (i + 1)).foldl min (min m l[i]) := by
 rw [List.drop_eq_getElem_cons h]; rfl
theorem join_c {mem : Mem} {nx hid : Nat} {P : List Fn} {T : List Tt} {K : KD} (op : Int) (n tl : List UInt8) (ty : Int) (z : Cx) (args : List Ex) (p : Int) (l : List Int) (hs : Sg mem P hid T) (hl : l.length < 2 ^ 40)
  (h18 : op = 18 → l.length = 2 ∧ Pin 1 (l[0]?.getD 0) ∧ Pin 3 (l[1]?.getD 0)) (h7 : op = 7 → ¬ cF P n l.length ∧ inT ((hdF P n).params.map Pm.type) l = true)
  (hk : ∀ n', nx ≤ n' → K (I (fR (aS P T) op n l)) mem n') :
  bH Tryz.prog 74 [sgD P hid T, .agg [I op, Tx n, Tx tl, I ty, CX z.re z.im, .sl (em aQ args), I p], .sl (em a9 l)] mem nx K := by
 obtain ⟨⟨m, hm, hat⟩, ht⟩ := hs
 refine fi74.ct (by simp) fun hfr => ?_
 have hne : ∀ i, nx ≤ i → (hid = i) = False := fun i hi => eq_false fun e => by rw [e, hfr i hi] at hm; simp at hm
 have hne2 : ∀ i, nx ≤ i → (i = hid) = False := fun i hi => eq_false fun e => by rw [← e, hfr i hi] at hm; simp at hm
 simp -implicitDefEqProofs [ac74]
 by_cases c18 : op = 18
 ·obtain ⟨hl2, p1, p2⟩ := h18 c18
  have e : fR (aS P T) op n l = cnF (l[0]?.getD 0) (l[1]?.getD 0) := by unfold fR; rw [if_pos c18]
  rw [e] at hk
  have q0 : 0 < l.length := by omega
  have q1 : 1 < l.length := by omega
  unfold Pin at p1 p2
  rw [tp_1] at p1
  rw [qQ] at p2
  have r0 : l[0]?.getD 0 = l[0] := by rw [List.getElem?_eq_getElem q0]; rfl
  have r1 : l[1]?.getD 0 = l[1] := by rw [List.getElem?_eq_getElem q1]; rfl
  rw [r0] at p1 hk
  rw [r1] at p2 hk
  obtain ⟨a, ha⟩ : ∃ a, l[0] = a := ⟨_, rfl⟩
  obtain ⟨b, hb⟩ : ∃ b, l[1] = b := ⟨_, rfl⟩
  rw [ha] at p1 hk
  rw [hb] at p2 hk
  have q1i : (1 : Int) < (l.length : Int) := by omega
  simp -implicitDefEqProofs [c18, q0, q1, q1i, ha, hb]
  refine aG (GO p1 p2) (by simp) ?_
  simp -implicitDefEqProofs
  exact ⟨_, aE _, hk _ (by omega)⟩
 ·by_cases c7 : op = 7
  ·obtain ⟨hb, hin⟩ := h7 c7
   have hbi := hb
   unfold cF at hbi
   have hh := dA P 0 n
   have hat' := hat n (by omega)
   have hlt : (aN P 0 n).toNat < P.length := by omega
   have hT : (aN P 0 n).toNat < T.length := by rw [ht.len]; exact hlt
   have hTi : aN P 0 n < (T.length : Int) := by omega
   have h0 : 0 ≤ aN P 0 n := by omega
   obtain ⟨f1, f2⟩ := ht.fit _ hlt
   have hd : hdF P n = P[(aN P 0 n).toNat] := by unfold hdF; rw [List.getElem?_eq_getElem hlt]; rfl
   obtain ⟨x, hxe⟩ : ∃ x, T[(aN P 0 n).toNat]?.getD default = x := ⟨_, rfl⟩
   have hx := ht.ok x (by rw [← hxe, List.getElem?_eq_getElem hT]; exact List.getElem_mem hT)
   have e : fR (aS P T) op n l = bI x.l (c9 x.ps l).1.toNat := by unfold fR aS; rw [if_neg c18, if_pos c7, hxe]
   rw [e] at hk
   rw [hd, ← f1, hxe] at hin
   obtain ⟨⟨k1, k2, k3, k4, k5⟩, kw, kl⟩ := hx
   have hlen := oL hin
   have hv := uE _ _ 0 hin (Int.le_refl 0)
   have hnum : c9 x.ps l = (vl x.ps l 0, 0) := by
    unfold c9
    rw [if_neg (by rw [k1]; simp), if_neg (by rw [hlen]; simp), if_pos hin]
   rw [hnum] at hk
   simp only at hk
   have hv0 : 0 ≤ vl x.ps l 0 := by omega
   have hv1 : vl x.ps l 0 < x.n := by omega
   have hxe2 : T[(aN P 0 n).toNat] = x := by rw [← hxe, List.getElem?_eq_getElem hT]; rfl
   simp -implicitDefEqProofs [c18, c7, hm, hat', x3, h0, hTi, hT, hxe2]
   refine aG (AB x.ps l (by omega) (by omega)) (by simp) ?_
   simp -implicitDefEqProofs [hnum]
   refine aG (Get_c x.n (vl x.ps l 0) x.l) (by simp) ?_
   simp -implicitDefEqProofs [getF, k4, hv0, hv1]
   exact ⟨mem, fun i b hb => by rw [a8, if_neg (by rintro rfl; rw [hfr _ (by omega)] at hb; simp at hb)]; exact hb, hk _ (by omega)⟩
  ·have e : fR (aS P T) op n l = l.foldl min 1 := by unfold fR; rw [if_neg c18, if_neg c7]
   rw [e] at hk
   generalize hR : l.foldl min 1 = R at hk
   simp -implicitDefEqProofs [c18, c7]
   refine lpG cf74 lb74_0 [14, 16, 64] (α := Nat × Int) (fun s _ => [(14, I s.2), (16, .top), (64, I s.1)]) (fun s _ => mem) (fun s k => nx ≤ k ∧ s.1 ≤ l.length ∧ (l.drop s.1).foldl min s.2 = R) (fun s => l.length - s.1) (0, 1) ⟨by omega, by simp, hR⟩ (by simp) (aL _) ?_
   rintro ⟨i, b⟩ k ⟨hk1, hi, hr⟩
   simp only at hi hr hk1
   by_cases hlt : i < l.length
   ·have w1 := aT (x := (i : Int) + 1) (by omega) (by omega)
    rw [oV l i hlt] at hr
    obtain ⟨x, hxe⟩ : ∃ x, l[i] = x := ⟨_, rfl⟩
    rw [hxe] at hr
    simp -implicitDefEqProofs [lb74_0, hlt, hxe, w1]
    exact aI (i + 1, min b x) ⟨by omega, hlt, hr⟩ (by simp only; omega) (by simp) (aL _)
   ·have hil : i = l.length := by omega
    subst hil
    rw [List.drop_length] at hr
    simp only [List.foldl_nil] at hr
    subst hr
    simp -implicitDefEqProofs [lb74_0]
    exact ⟨_, aE _, hk _ (by omega)⟩
set_option maxRecDepth 1000000
set_option maxHeartbeats 0
noncomputable def cf76 : Cfg := ⟨Tryz.prog, 17, [0, 1, 2, 6, 7], [10, 16]⟩
noncomputable def ac76 : AC :=
 (.seq (.reg [JP 6 (.mv (.c (.slice none 0 0)))]) (.seq (.reg [JP 7 (.mv (.c (.slice none 0 0)))]) (.seq (.reg [JA 8 7, JA 9 0, JO 10 (.app 2 24 [JU, JV] (.t 8) (.t 9)), JB 7 10]) (.seq (.reg [JA 11 7, JA 12 1, JA 13 2, JO 14 (.bld [JU, JV] [(0, 1, .t 12), (1, 1, .t 13)]), JO 15 (.bsl 2 1 [JU, JV] [(0, 2, .t 14)]), JO 16 (.app 2 24 [JU, JV] (.t 11) (.t 15)), JB 6 16]) .ret))))
theorem fi76 : FI Tryz.prog 76 cf76 ac76 [.t 6] [0, 1, 2, 6, 7] 17 := FI_of (c := Tryz.f76.body.getD .skip) Tryz.func76 (by kernel_rfl) (by rfl) (by rfl) (by kernel_rfl) (by kernel_rfl) rfl rfl rfl
@[simp] theorem cfP76 : cf76.P = Tryz.prog := (rfl)
noncomputable def cf107 : Cfg := ⟨Tryz.prog, 17, [0, 1, 2, 4, 5], []⟩
noncomputable def lb107_0 : AC :=
 .seq (.ifr [JG 6 0 2, JD 7 1 6, JA 8 5, JL 9 11 7 8, JH 10 0 9, JD 11 1 10, JA 12 1, JO 13 (.bin .neq 9 (.t 11) (.t 12))] (.t 13) .skip (.exit 0)) (.block 1 (.reg [JA 14 5, JO 15 (.bin .add 3 (.t 14) (JT 1)), JB 5 15]))
noncomputable def ac107 : AC :=
 (.seq (.reg [JN 2 0, JI 4 0]) (.seq (.reg [JI 5 0]) (.seq (.block 0 (.loop lb107_0)) (.seq (.reg [JA 16 5, JB 4 16]) .ret))))
theorem fi107 : FI Tryz.prog 107 cf107 ac107 [.t 4] [0, 1, 2, 4, 5] 17 := FI_of (c := Tryz.f107.body.getD .skip) Tryz.func107 (by kernel_rfl) (by rfl) (by rfl) (by kernel_rfl) (by kernel_rfl) rfl rfl rfl
@[simp] theorem cfP107 : cf107.P = Tryz.prog := (rfl)
noncomputable def cf32 : Cfg := ⟨Tryz.prog, 22, [0, 1, 2, 3, 4], [20]⟩
noncomputable def lb32_0 : AC :=
 .seq (.ifr [JA 5 4, JG 6 1 1, JD 7 1 6, JO 8 (.len false (.t 7)), JO 9 (.bin .lss 3 (.t 5) (.t 8))] (.t 9) .skip (.exit 0)) (.seq (.block 1 (.reg [JA 12 3, JG 13 1 1, JD 14 1 13, JA 15 4, JL 16 3 14 15, JH 17 1 16, JD 18 1 17, JO 19 (.bsl 1 1 [JV] [(0, 1, .t 18)]), JO 20 (.app 1 8 [JV] (.t 12) (.t 19)), JB 3 20])) (.reg [JA 10 4, JO 11 (.bin .add 3 (.t 10) (JT 1)), JB 4 11]))
noncomputable def ac32 : AC :=
 (.seq (.reg [JN 1 0, JP 2 (.mv (.c (.slice none 0 0)))]) (.seq (.reg [JP 3 (.mv (.c (.slice none 0 0)))]) (.seq (.seq (.reg [JI 4 0]) (.block 0 (.loop lb32_0))) (.seq (.reg [JA 21 3, JB 2 21]) .ret))))
theorem fi32 : FI Tryz.prog 32 cf32 ac32 [.t 2] [0, 1, 2, 3, 4] 22 := FI_of (c := Tryz.f32.body.getD .skip) Tryz.func32 (by kernel_rfl) (by rfl) (by rfl) (by kernel_rfl) (by kernel_rfl) rfl rfl rfl
@[simp] theorem cfP32 : cf32.P = Tryz.prog := (rfl)
noncomputable def cf43 : Cfg := ⟨Tryz.prog, 155, [0, 1, 2, 4, 6, 7, 8, 9, 10, 11, 12, 13, 14, 15, 16, 18, 19], [150]⟩
noncomputable def lb43_0 : AC :=
 .seq (.ifr [JA 132 15, JG 133 5 4, JD 134 1 133, JO 135 (.len false (.t 134)), JO 136 (.bin .lss 3 (.t 132) (.t 135))] (.t 136) .skip (.exit 5)) (.seq (.block 6 (.seq (.reg [JA 139 0, JG 140 5 4, JD 141 1 140, JA 142 15, JL 143 7 141 142, JE 144 7 143, JA 145 2, JO 146 (.pc (.f 43) [.t 139, .t 144, .t 145]), JB 16 146]) (.reg [JA 147 14, JA 148 16, JO 149 (.bsl 1 1 [JV] [(0, 1, .t 148)]), JO 150 (.app 1 8 [JV] (.t 147) (.t 149)), JB 14 150]))) (.reg [JA 137 15, JO 138 (.bin .add 3 (.t 137) (JT 1)), JB 15 138]))
noncomputable def lb43_1 : AC :=
 .block 4 (.seq (.reg [JA 84 0, JG 85 5 4, JD 86 1 85, JO 87 (.ia 7 (.t 86) (JT 0)), JE 88 7 87, JA 89 2, JG 90 1 4, JD 91 1 90, JA 92 11, JO 93 (.pc (.f 76) [.t 89, .t 91, .t 92]), JO 94 (.pc (.f 43) [.t 84, .t 88, .t 93]), JB 12 94]) (.seq (.ifr [JA 95 12, JA 96 11, JO 97 (.bin .leq 49 (.t 95) (.t 96))] (.t 97) (.seq (.reg [JA 98 0, JG 99 5 4, JD 100 1 99, JO 101 (.ia 7 (.t 100) (JT 1)), JE 102 7 101, JA 103 2, JG 104 1 4, JD 105 1 104, JA 106 11, JO 107 (.pc (.f 76) [.t 103, .t 105, .t 106]), JO 108 (.pc (.f 43) [.t 98, .t 102, .t 107]), JB 6 108]) .ret) .skip) (.reg [JA 109 12, JB 11 109])))
noncomputable def lb43_2 : AC :=
 .seq (.ifr [JA 29 8, JA 30 2, JO 31 (.len false (.t 30)), JO 32 (.bin .lss 3 (.t 29) (.t 31))] (.t 32) .skip (.exit 1)) (.seq (.block 2 (.ifr [JA 35 2, JA 36 8, JL 37 2 35 36, JH 38 0 37, JD 39 1 38, JG 40 1 4, JD 41 1 40, JO 42 (.bin .eql 9 (.t 39) (.t 41))] (.t 42) (.reg [JA 43 2, JA 44 8, JL 45 2 43 44, JH 46 1 45, JD 47 1 46, JB 7 47]) .skip)) (.reg [JA 33 8, JO 34 (.bin .add 3 (.t 33) (JT 1)), JB 8 34]))
noncomputable def ac43 : AC :=
 (.seq (.reg [JN 4 1, JI 6 0]) (.seq (.seq (.reg [JG 17 0 4, JP 18 (.ld false 1 (.t 17))]) (.block 0 (.seq (.ifr [JO 20 (.bin .eql 40 (.g 18) (JT 1)), JB 19 20] (.g 19) .skip (.ifr [JO 21 (.bin .eql 40 (.g 18) (JT 2)), JB 19 21] (.g 19) .skip (.reg [JO 22 (.bin .eql 40 (.g 18) (JT 3)), JB 19 22]))) (.cond (.g 19) (.seq (.reg [JI 6 1]) .ret) (.ifr [JO 24 (.bin .eql 40 (.g 18) (JT 4)), JC 23 24] (.t 23) (.seq (.reg [JI 6 3]) .ret) (.ifr [JO 26 (.bin .eql 40 (.g 18) (JT 5)), JC 25 26] (.t 25) (.seq (.reg [JI 6 0]) .ret) (.ifr [JO 28 (.bin .eql 40 (.g 18) (JT 6)), JC 27 28] (.t 27) (.seq (.reg [JI 7 0]) (.seq (.seq (.reg [JI 8 0]) (.block 1 (.loop lb43_2))) (.seq (.reg [JA 48 7, JB 6 48]) .ret))) (.ifr [JO 50 (.bin .eql 40 (.g 18) (JT 19)), JC 49 50] (.t 49) (.seq (.ifr [JA 51 0, JG 52 5 4, JD 53 1 52, JO 54 (.ia 7 (.t 53) (JT 0)), JE 55 7 54, JA 56 2, JO 57 (.pc (.f 43) [.t 51, .t 55, .t 56]), JO 58 (.bin .eql 49 (.t 57) (JT 0))] (.t 58) (.seq (.reg [JI 6 0]) .ret) .skip) (.seq (.reg [JA 59 0, JG 60 5 4, JD 61 1 60, JO 62 (.ia 7 (.t 61) (JT 1)), JE 63 7 62, JA 64 2, JO 65 (.pc (.f 43) [.t 59, .t 63, .t 64]), JB 9 65]) (.seq (.reg [JA 66 0, JG 67 5 4, JD 68 1 67, JO 69 (.ia 7 (.t 68) (JT 2)), JE 70 7 69, JA 71 2, JO 72 (.pc (.f 43) [.t 66, .t 70, .t 71]), JB 10 72]) (.seq (.reg [JA 73 9, JA 74 10, JO 75 (.bi .max [.t 73, .t 74]), JB 6 75]) .ret)))) (.ifr [JO 77 (.bin .eql 40 (.g 18) (JT 20)), JC 76 77] (.t 76) (.seq (.reg [JA 78 0, JF 79 7 4, JA 80 2, JO 81 (.pc (.f 75) [.t 78, .t 79, .t 80]), JB 6 81]) .ret) (.ifr [JO 83 (.bin .eql 40 (.g 18) (JT 21)), JC 82 83] (.t 82) (.seq (.reg [JI 11 0]) (.block 3 (.loop lb43_1))) (.ifr [JO 111 (.bin .eql 40 (.g 18) (JT 22)), JC 110 111] (.t 110) (.seq (.reg [JA 112 0, JG 113 5 4, JD 114 1 113, JO 115 (.ia 7 (.t 114) (JT 0)), JE 116 7 115, JA 117 2, JO 118 (.pc (.f 43) [.t 112, .t 116, .t 117]), JB 13 118]) (.seq (.ifr [JA 119 13, JO 120 (.bin .eql 49 (.t 119) (JT 0))] (.t 120) (.seq (.reg [JI 6 0]) .ret) .skip) (.seq (.reg [JA 121 0, JG 122 5 4, JD 123 1 122, JO 124 (.ia 7 (.t 123) (JT 1)), JE 125 7 124, JA 126 2, JG 127 1 4, JD 128 1 127, JA 129 13, JO 130 (.pc (.f 76) [.t 126, .t 128, .t 129]), JO 131 (.pc (.f 43) [.t 121, .t 125, .t 130]), JB 6 131]) .ret))) .skip))))))))))) (.seq (.reg [JP 14 (.mv (.c (.slice none 0 0)))]) (.seq (.seq (.reg [JI 15 0]) (.block 5 (.loop lb43_0))) (.seq (.reg [JA 151 0, JF 152 7 4, JA 153 14, JO 154 (.pc (.f 77) [.t 151, .t 152, .t 153]), JB 6 154]) .ret)))))
theorem fi43 : FI Tryz.prog 43 cf43 ac43 [.t 6] [0, 1, 2, 4, 6, 7, 8, 9, 10, 11, 12, 13, 14, 15, 16, 18, 19] 155 := FI_of (c := Tryz.f43.body.getD .skip) Tryz.func43 (by kernel_rfl) (by rfl) (by rfl) (by kernel_rfl) (by kernel_rfl) rfl rfl rfl
@[simp] theorem cfP43 : cf43.P = Tryz.prog := (rfl)
noncomputable def cf75 : Cfg := ⟨Tryz.prog, 62, [0, 1, 2, 4, 6, 7, 8, 9, 10, 11, 12], []⟩
noncomputable def lb75_0 : AC :=
 .seq (.ifr [JA 21 9, JA 22 8, JO 23 (.len false (.t 22)), JO 24 (.bin .lss 3 (.t 21) (.t 23))] (.t 24) .skip (.exit 0)) (.seq (.block 1 (.seq (.reg [JA 27 8, JA 28 9, JL 29 3 27 28, JE 30 3 29, JP 10 (.al [.bool false, JV, JV]), JQ (.st 3 (.g 10) (.t 30))]) (.seq (.reg [JI 11 0]) (.seq (.ifr [JG 31 0 10, JD 32 1 31] (.t 32) (.reg [JA 33 0, JG 34 5 4, JD 35 1 34, JO 36 (.ia 7 (.t 35) (JT 1)), JE 37 7 36, JA 38 2, JO 39 (.pc (.f 43) [.t 33, .t 37, .t 38]), JB 11 39]) (.seq (.reg [JA 40 2, JG 41 1 4, JD 42 1 41, JG 43 1 10, JD 44 1 43, JO 45 (.pc (.f 76) [.t 40, .t 42, .t 44]), JB 12 45]) (.reg [JA 46 0, JG 47 5 4, JD 48 1 47, JO 49 (.ia 7 (.t 48) (JT 2)), JE 50 7 49, JA 51 12, JG 52 2 4, JD 53 1 52, JG 54 2 10, JD 55 1 54, JO 56 (.pc (.f 76) [.t 51, .t 53, .t 55]), JO 57 (.pc (.f 43) [.t 46, .t 50, .t 56]), JB 11 57]))) (.reg [JA 58 7, JA 59 11, JO 60 (.bi .max [.t 58, .t 59]), JB 7 60]))))) (.reg [JA 25 9, JO 26 (.bin .add 3 (.t 25) (JT 1)), JB 9 26]))
noncomputable def ac75 : AC :=
 (.seq (.reg [JN 4 1, JI 6 0]) (.seq (.reg [JI 7 0]) (.seq (.reg [JA 13 0, JG 14 5 4, JD 15 1 14, JO 16 (.ia 7 (.t 15) (JT 0)), JE 17 7 16, JA 18 2, JO 19 (.pc (.f 43) [.t 13, .t 17, .t 18]), JO 20 (.pc (.f 105) [.t 19]), JB 8 20]) (.seq (.seq (.reg [JI 9 0]) (.block 0 (.loop lb75_0))) (.seq (.reg [JA 61 7, JB 6 61]) .ret)))))
theorem fi75 : FI Tryz.prog 75 cf75 ac75 [.t 6] [0, 1, 2, 4, 6, 7, 8, 9, 10, 11, 12] 62 := FI_of (c := Tryz.f75.body.getD .skip) Tryz.func75 (by kernel_rfl) (by rfl) (by rfl) (by kernel_rfl) (by kernel_rfl) rfl rfl rfl
@[simp] theorem cfP75 : cf75.P = Tryz.prog := (rfl)
noncomputable def cf77 : Cfg := ⟨Tryz.prog, 72, [0, 1, 2, 4, 6, 7, 8, 10, 11, 13], []⟩
noncomputable def lb77_0 : AC :=
 .seq (.ifr [JA 59 11, JA 60 2, JO 61 (.len false (.t 60)), JO 62 (.bin .lss 3 (.t 59) (.t 61))] (.t 62) .skip (.exit 1)) (.seq (.block 2 (.reg [JA 65 10, JA 66 2, JA 67 11, JL 68 1 66 67, JD 69 1 68, JO 70 (.bi .min [.t 65, .t 69]), JB 10 70])) (.reg [JA 63 11, JO 64 (.bin .add 3 (.t 63) (JT 1)), JB 11 64]))
noncomputable def ac77 : AC :=
 (.seq (.reg [JN 4 1, JI 6 0]) (.seq (.seq (.reg [JG 12 0 4, JP 13 (.ld false 1 (.t 12))]) (.block 0 (.ifr [JO 15 (.bin .eql 40 (.g 13) (JT 18)), JC 14 15] (.t 14) (.seq (.reg [JA 16 2, JO 17 (.ia 1 (.t 16) (JT 0)), JD 18 1 17, JA 19 2, JO 20 (.ia 1 (.t 19) (JT 1)), JD 21 1 20, JO 22 (.pc (.f 106) [.t 18, .t 21]), JB 6 22]) .ret) (.ifr [JO 24 (.bin .eql 40 (.g 13) (JT 7)), JC 23 24] (.t 23) (.seq (.reg [JA 25 0, JM 26 25, JH 27 0 26, JE 28 1 27, JG 29 1 4, JD 30 1 29, JO 31 (.pc (.f 107) [.t 28, .t 30]), JB 7 31]) (.seq (.reg [JA 33 0, JM 34 33, JH 35 0 34, JH 36 0 35, JD 37 1 36, JA 38 7, JL 39 11 37 38, JE 40 11 39, JO 41 (.pc (.f 32) [.t 40]), JA 42 2, JO 43 (.pc (.f 51) [.t 41, .t 42]), JC 32 43, JK 44 0 32, JK 45 1 32, JB 8 44, JC 9 45]) (.seq (.reg [JA 46 0, JM 47 46, JH 48 1 47, JD 49 1 48, JA 50 7, JL 51 1 49 50, JD 52 1 51, JA 53 8, JL 54 1 52 53, JD 55 1 54, JB 6 55]) .ret))) .skip)))) (.seq (.reg [JA 56 2, JO 57 (.ia 1 (.t 56) (JT 0)), JD 58 1 57, JB 10 58]) (.seq (.seq (.reg [JI 11 0]) (.block 1 (.loop lb77_0))) (.seq (.reg [JA 71 10, JB 6 71]) .ret)))))
theorem fi77 : FI Tryz.prog 77 cf77 ac77 [.t 6] [0, 1, 2, 4, 6, 7, 8, 10, 11, 13] 72 := FI_of (c := Tryz.f77.body.getD .skip) Tryz.func77 (by kernel_rfl) (by rfl) (by rfl) (by kernel_rfl) (by kernel_rfl) rfl rfl rfl
@[simp] theorem cfP77 : cf77.P = Tryz.prog := (rfl)
noncomputable def cf40 : Cfg := ⟨Tryz.prog, 96, [0, 1, 2, 4, 5, 6, 7, 8, 9, 10, 11, 12], [27, 92]⟩
noncomputable def lb40_0 : AC :=
 .seq (.ifr [JA 66 12, JG 67 0 9, JD 68 1 67, JO 69 (.len false (.t 68)), JO 70 (.bin .lss 3 (.t 66) (.t 69))] (.t 70) .skip (.exit 2)) (.seq (.block 3 (.ifr [JG 73 0 9, JD 74 1 73, JA 75 12, JL 76 1 74 75, JD 77 1 76, JG 78 1 8, JD 79 1 78, JA 80 12, JL 81 3 79 80, JH 82 1 81, JD 83 1 82, JO 84 (.bin .neq 25 (.t 77) (.t 83))] (.t 84) (.seq (.reg [JP 4 (.mv (.c (.pointer none))), JP 5 (.mv JY)]) .ret) .skip)) (.reg [JA 71 12, JO 72 (.bin .add 3 (.t 71) (JT 1)), JB 12 72]))
noncomputable def lb40_1 : AC :=
 .seq (.ifr [JA 28 7, JA 29 1, JO 30 (.len false (.t 29)), JO 31 (.bin .lss 3 (.t 28) (.t 30))] (.t 31) .skip (.exit 0)) (.seq (.block 1 (.seq (.reg [JG 34 0 2, JD 35 1 34, JA 36 7, JL 37 11 35 36, JE 38 11 37, JP 8 (.al [JU, JW, JV, JV, JU, JU, JV, .complex .f64 0 0, JW, JV, JV]), JQ (.st 11 (.g 8) (.t 38))]) (.seq (.reg [JA 39 1, JA 40 7, JL 41 4 39 40, JE 42 4 41, JP 9 (.al [JW, JV, JV, JW]), JQ (.st 4 (.g 9) (.t 42))]) (.seq (.reg [JF 44 4 9, JO 45 (.pc (.f 26) [.t 44]), JC 43 45, JK 46 0 43, JK 47 1 43, JB 10 46, JB 11 47]) (.seq (.ifr [JA 48 11, JO 49 (.un .not (.t 48)), JC 50 49, JR 51 50 (.fa 1 (.g 9)), JR 52 50 (.ld false 1 (.t 51)), JR 53 50 (.fa 2 (.g 8)), JR 54 50 (.ld false 1 (.t 53)), JR 55 50 (.bin .neq 25 (.t 52) (.t 54)), JO 56 (.pick (.t 50) JX (.t 55)), JC 57 56, JR 58 57 (.fa 0 (.g 9)), JR 59 57 (.ld false 1 (.t 58)), JR 60 57 (.len false (.t 59)), JR 61 57 (.fa 1 (.g 8)), JR 62 57 (.ld false 1 (.t 61)), JR 63 57 (.len false (.t 62)), JR 64 57 (.bin .neq 3 (.t 60) (.t 63)), JO 65 (.pick (.t 57) JX (.t 64))] (.t 65) (.seq (.reg [JP 4 (.mv (.c (.pointer none))), JP 5 (.mv JY)]) .ret) .skip) (.seq (.seq (.reg [JI 12 0]) (.block 2 (.loop lb40_0))) (.reg [JA 85 6, JA 86 6, JM 87 86, JH 88 1 87, JD 89 1 88, JA 90 10, JO 91 (.bsl 1 1 [JW] [(0, 1, .t 90)]), JO 92 (.app 1 24 [JW] (.t 89) (.t 91)), JM 93 85, JH 94 1 93, JQ (.st 1 (.t 94) (.t 92))]))))))) (.reg [JA 32 7, JO 33 (.bin .add 3 (.t 32) (JT 1)), JB 7 33]))
noncomputable def ac40 : AC :=
 (.seq (.reg [JN 2 0, JP 4 (.mv (.c (.pointer none))), JP 5 (.mv JY)]) (.seq (.ifr [JF 13 1 2, JO 14 (.pc (.f 13) [.t 13]), JO 15 (.fld false 1 0 (.t 14)), JO 16 (.bin .neq 52 (.t 15) (JT 0)), JC 17 16, JR 18 17 (.mv (.g 1)), JR 19 17 (.len false (.t 18)), JR 20 17 (.fa 0 (.g 2)), JR 21 17 (.ld false 1 (.t 20)), JR 22 17 (.len false (.t 21)), JR 23 17 (.bin .neq 3 (.t 19) (.t 22)), JO 24 (.pick (.t 17) JX (.t 23))] (.t 24) (.seq (.reg [JP 4 (.mv (.c (.pointer none))), JP 5 (.mv JY)]) .ret) .skip) (.seq (.reg [JF 25 1 2, JO 26 (.bld [JW, JW] [(0, 1, .t 25)]), JO 27 (.bx (.t 26)), JB 6 27]) (.seq (.seq (.reg [JI 7 0]) (.block 0 (.loop lb40_1))) (.seq (.reg [JA 95 6, JB 4 95, JP 5 (.mv JX)]) .ret)))))
theorem fi40 : FI Tryz.prog 40 cf40 ac40 [.t 4, .t 5] [0, 1, 2, 4, 5, 6, 7, 8, 9, 10, 11, 12] 96 := FI_of (c := Tryz.f40.body.getD .skip) Tryz.func40 (by kernel_rfl) (by rfl) (by rfl) (by kernel_rfl) (by kernel_rfl) rfl rfl rfl
@[simp] theorem cfP40 : cf40.P = Tryz.prog := (rfl)
noncomputable def cf12 : Cfg := ⟨Tryz.prog, 74, [0, 1, 2, 3, 4, 7, 8, 9, 10, 11, 12, 13, 14, 15, 17], [49, 57]⟩
noncomputable def lb12_0 : AC :=
 .seq (.ifr [JA 26 14, JA 27 2, JO 28 (.len false (.t 27)), JO 29 (.bin .lss 3 (.t 26) (.t 28))] (.t 29) .skip (.exit 0)) (.seq (.block 1 (.seq (.reg [JA 32 2, JA 33 14, JL 34 3 32 33, JE 35 3 34, JP 15 (.al [JU, JV, JV]), JQ (.st 3 (.g 15) (.t 35))]) (.seq (.ifr [JG 36 1 15, JD 37 1 36, JG 38 2 15, JD 39 1 38, JO 40 (.pc (.f 41) [.t 37, .t 39]), JO 41 (.bin .neq 3 (.t 40) (JT 0))] (.t 41) (.seq (.reg [JI 8 0, JI 9 3]) .ret) .skip) (.seq (.reg [JA 42 12, JG 43 0 15, JD 44 1 43, JG 45 1 15, JD 46 1 45, JO 47 (.bld [JU, JV, JV] [(0, 1, .t 44), (1, 1, .t 46)]), JO 48 (.bsl 3 1 [JU, JV, JV] [(0, 3, .t 47)]), JO 49 (.app 3 32 [JU, JV, JV] (.t 42) (.t 48)), JB 12 49]) (.reg [JA 50 13, JG 51 0 15, JD 52 1 51, JG 53 2 15, JD 54 1 53, JO 55 (.bld [JU, JV] [(0, 1, .t 52), (1, 1, .t 54)]), JO 56 (.bsl 2 1 [JU, JV] [(0, 2, .t 55)]), JO 57 (.app 2 24 [JU, JV] (.t 50) (.t 56)), JB 13 57]))))) (.reg [JA 30 14, JO 31 (.bin .add 3 (.t 30) (JT 1)), JB 14 31]))
noncomputable def ac12 : AC :=
 (.seq (.reg [JN 4 0, JN 7 3, JI 8 0, JI 9 0]) (.seq (.reg [JF 19 1 4, JA 20 1, JO 21 (.pc (.f 40) [.t 19, .t 20]), JC 18 21, JK 22 0 18, JK 23 1 18, JB 10 22, JB 11 23]) (.seq (.ifr [JA 24 11, JO 25 (.un .not (.t 24))] (.t 25) (.seq (.reg [JI 8 0, JI 9 3]) .ret) .skip) (.seq (.reg [JP 12 (.mv (.c (.slice none 0 0)))]) (.seq (.reg [JP 13 (.mv (.c (.slice none 0 0)))]) (.seq (.seq (.reg [JI 14 0]) (.block 0 (.loop lb12_0))) (.seq (.reg [JF 59 1 4, JA 60 12, JF 61 7 7, JO 62 (.pc (.f 42) [.t 59, .t 60, .t 61]), JC 58 62, JK 63 0 58, JK 64 1 58, JC 16 63, JB 17 64]) (.seq (.ifr [JA 65 17, JO 66 (.bin .neq 3 (.t 65) (JT 0))] (.t 66) (.seq (.reg [JI 8 0, JI 9 3]) .ret) .skip) (.seq (.ifr [JF 67 7 7, JO 68 (.pc (.f 14) [.t 67]), JO 69 (.bin .gtr 3 (.t 68) (JT 6))] (.t 69) (.seq (.reg [JI 8 0, JI 9 23]) .ret) .skip) (.seq (.reg [JA 70 10, JF 71 7 7, JA 72 13, JO 73 (.pc (.f 43) [.t 70, .t 71, .t 72]), JB 8 73, JI 9 0]) .ret))))))))))
theorem fi12 : FI Tryz.prog 12 cf12 ac12 [.t 8, .t 9] [0, 1, 2, 3, 4, 7, 8, 9, 10, 11, 12, 13, 14, 15, 17] 74 := FI_of (c := Tryz.f12.body.getD .skip) Tryz.func12 (by kernel_rfl) (by rfl) (by rfl) (by kernel_rfl) (by kernel_rfl) rfl rfl rfl
@[simp] theorem cfP12 : cf12.P = Tryz.prog := (rfl)
noncomputable def cf20 : Cfg := ⟨Tryz.prog, 57, [0, 1, 2, 3, 4, 8, 9, 10, 11, 13], []⟩
@[simp] theorem cfP20 : cf20.P = Tryz.prog := (rfl)
noncomputable def cf52 : Cfg := ⟨Tryz.prog, 43, [0, 1, 2, 6, 7, 8, 9], [37]⟩
@[simp] theorem cfP52 : cf52.P = Tryz.prog := (rfl)
noncomputable def cf56 : Cfg := ⟨Tryz.prog, 47, [0, 1, 4, 5, 6, 7, 8, 10], [45]⟩
@[simp] theorem cfP56 : cf56.P = Tryz.prog := (rfl)
noncomputable def cf22 : Cfg := ⟨Tryz.prog, 54, [0, 1, 2, 3, 6, 7, 8, 9], []⟩
@[simp] theorem cfP22 : cf22.P = Tryz.prog := (rfl)
noncomputable def cf42 : Cfg := ⟨Tryz.prog, 23, [0, 1, 2, 3, 5, 6, 7, 8, 9], []⟩
noncomputable def lb42_0 : AC :=
 .seq (.ifr [JA 10 8, JO 11 (.bin .leq 25 (.t 10) (JT 3))] (.t 11) .skip (.exit 0)) (.seq (.block 1 (.seq (.reg [JF 14 1 3, JA 15 1, JF 16 7 5, JA 17 8, JO 18 (.pc (.f 45) [.t 14, .t 15, .t 16, .t 17]), JB 9 18]) (.ifr [JA 19 9, JO 20 (.len false (.t 19)), JO 21 (.bin .eql 3 (.t 20) (JT 0))] (.t 21) (.seq (.reg [JA 22 8, JB 6 22, JI 7 0]) .ret) .skip))) (.reg [JA 12 8, JO 13 (.bin .add 25 (.t 12) (JT 1)), JB 8 13]))
noncomputable def ac42 : AC :=
 (.seq (.reg [JN 3 0, JN 5 2, JI 6 0, JI 7 0]) (.seq (.seq (.reg [JI 8 1]) (.block 0 (.loop lb42_0))) (.seq (.reg [JI 6 0, JI 7 34]) .ret)))
theorem fi42 : FI Tryz.prog 42 cf42 ac42 [.t 6, .t 7] [0, 1, 2, 3, 5, 6, 7, 8, 9] 23 := FI_of (c := Tryz.f42.body.getD .skip) Tryz.func42 (by kernel_rfl) (by rfl) (by rfl) (by kernel_rfl) (by kernel_rfl) rfl rfl rfl
@[simp] theorem cfP42 : cf42.P = Tryz.prog := (rfl)
set_option maxRecDepth 100000
set_option maxHeartbeats 4000000
def fO (x : List UInt8 × Int) : List D := [Tx x.1, I x.2]
theorem els_X {l : List (List UInt8 × Int)} {mem : Mem} : els mem 2 (.sl (em fO l)) = some (em fO l) := oU (fun x => rfl) (fun x => rfl)
theorem KK (l : List (List UInt8 × Int)) (n : List UInt8) (p : Int) (hl : l.length ≤ 5 * 2 ^ 40) : Pure Tryz.prog 76 [.sl (em fO l), Tx n, I p] (.sl (em fO (l ++ [(n, p)]))) := by
 refine fi76.pu (by simp) ?_
 have b1 : l.length * 24 ≤ 3 * 2 ^ 46 := by omega
 have b2 : (l.length + 1) * 24 ≤ 3 * 2 ^ 46 := by omega
 have e1 : em fO l ++ [[Tx n, I p]] = em fO (l ++ [(n, p)]) := (rfl : em fO l ++ [fO (n, p)] = em fO l ++ [fO (n, p)]).trans (eA (enc := fO))
 have e2 : ∀ m : Mem, els m 2 (.sl [[Tx n, I p]]) = some [[Tx n, I p]] := fun m => rfl
 simp -implicitDefEqProofs [-els, els_X, e2, ac76, b1, b2, e1]
 exact ⟨eZ fun x => rfl, by rw [List.take_of_length_le (by simp)]⟩
theorem HX (P : List Fn) (n : List UInt8) (h : 0 ≤ aN P 0 n) (hl : P.length < 2 ^ 40) : Pure Tryz.prog 107 [.agg [.sl (em aV P)], Tx n] (I (aN P 0 n)) := by
 refine fi107.pu (by simp) ?_
 simp -implicitDefEqProofs [ac107]
 have hh := dA P 0 n
 generalize hR : aN P 0 n = R at *
 refine lpG cf107 lb107_0 [5] (α := Nat) (fun s _ => [(5, I s)]) (fun s _ => []) (fun s k => s < P.length ∧ aN (P.drop s) s n = R) (fun s => P.length - s) 0 ⟨by omega, hR⟩ (by simp) (by simp) ?_
 rintro i k ⟨hi, hr⟩
 have hd : P.drop i = P[i] :: P.drop (i + 1) := List.drop_eq_getElem_cons hi
 rw [hd] at hr
 unfold aN at hr
 obtain ⟨x, hxe⟩ : ∃ x, P[i] = x := ⟨_, rfl⟩
 rw [hxe] at hr
 have w1 := aT (x := (i : Int) + 1) (by omega) (by omega)
 by_cases hn : x.name = n
 ·rw [if_pos hn] at hr
  subst hr
  simp -implicitDefEqProofs [lb107_0, hi, hxe, hn]
 ·rw [if_neg hn] at hr
  have hi2 : i + 1 < P.length := by
   apply Classical.byContradiction
   intro g
   rw [List.drop_eq_nil_of_le (by omega)] at hr
   simp only [aN] at hr; omega
  simp -implicitDefEqProofs [lb107_0, hi, hxe, hn, w1]
  exact aI (i + 1) ⟨hi2, hr⟩ (by omega) (by simp) (by simp)
def eH (f : Fn) : List Int := f.params.map Pm.type
theorem BB (f : Fn) (hl : f.params.length < 2 ^ 40) : Pure Tryz.prog 32 [.agg (aV f)] (.sl (em a9 (eH f))) := by
 refine fi32.pu (by simp [aR]) ?_
 simp -implicitDefEqProofs [ac32, aR]
 refine cA (j := 3) (k := 1) rfl (.inl rfl) ?_
 refine lpG cf32 lb32_0 [3, 4] (α := Nat × Nat) (fun s _ => [(3, .osl 4 s.2 0 s.1), (4, I s.1)]) (fun s _ => [(4, .arr s.2 1 (em a9 ((eH f).take s.1)))]) (fun s k => 4 < k ∧ s.1 ≤ f.params.length) (fun s => f.params.length - s.1) (0, 0) ⟨by omega, by simp⟩ (by simp [upd]) (by simp) ?_
 rintro ⟨i, v⟩ k ⟨hk, hi⟩
 simp only at hi hk
 have hle : ((eH f).take i).length = i := by rw [List.length_take]; simp [eH]; omega
 by_cases hlt : i < f.params.length
 ·have w1 := aT (x := (i : Int) + 1) (by omega) (by omega)
  obtain ⟨x, hx⟩ : ∃ x, f.params[i] = x := ⟨_, rfl⟩
  have hnext : (eH f).take i ++ [x.type] = (eH f).take (i + 1) := by
   rw [List.take_add_one, eH, List.getElem?_map, List.getElem?_eq_getElem hlt, hx]; rfl
  have e1 : em a9 ((eH f).take i) ++ [[I x.type]] = em a9 ((eH f).take (i + 1)) := by rw [← hnext]; exact eA (enc := a9)
  have b1 : (i + 1) * 8 ≤ 3 * 2 ^ 46 := by omega
  have e3 : (em a9 ((eH f).take i)).take i = em a9 ((eH f).take i) := List.take_of_length_le (by simp [em]; omega)
  simp -implicitDefEqProofs [lb32_0, hlt, hx, w1, hle, b1, e1, e3]
  exact aI (i + 1, v + 1) ⟨by omega, hlt⟩ (by simp only; omega) (by simp) (by simp)
 ·have hil : i = f.params.length := by omega
  subst hil
  have e4 : (eH f).take f.params.length = eH f := List.take_of_length_le (by simp [eH])
  simp -implicitDefEqProofs [lb32_0, hle, e4]
  simp [eH]
def mW (x : Tt) : List D := [.sl (em a9 (cl x.n x.l))]
theorem ia_Q {l : List Tt} {mem : Mem} {j : IntKind} {i : Int} : iaD mem 1 (.sl (em mW l)) (.pl (.int j i)) = if 0 ≤ i ∧ i < l.length then some (.pt [.sl (em a9 (cl (l[i.toNat]?.getD default).n (l[i.toNat]?.getD default).l))]) else none := gF fun x => rfl
theorem imm_Q (l : List Tt) : D.immss (em mW l) = true := eZ fun x => by simp [mW, D.imms, D.imm]
attribute [simp] imm_Q
abbrev rsD (P : List Fn) (T : List Tt) : D := .pt [.sl (em aV P), .sl (em mW T)]
theorem KC {P : List Fn} {T : List Tt} (op : Int) (n tl : List UInt8) (ty : Int) (z : Cx) (args : List Ex) (p : Int) (l : List Int) (ht : nK P T) (hP : P.length < 2 ^ 40) (hl : l.length < 2 ^ 40) (hpar : ∀ f ∈ P, f.params.length < 2 ^ 40)
  (h0 : op = 18 ∨ op = 7 ∨ (0 < l.length ∧ ∀ x ∈ l, x ≤ 1)) (h18 : op = 18 → l.length = 2 ∧ Pin 1 (l[0]?.getD 0) ∧ Pin 3 (l[1]?.getD 0)) (h7 : op = 7 → ¬ cF P n l.length ∧ inT ((hdF P n).params.map Pm.type) l = true) :
  Pure Tryz.prog 77 [rsD P T, .agg [I op, Tx n, Tx tl, I ty, CX z.re z.im, .sl (em aQ args), I p], .sl (em a9 l)] (I (fR (aS P T) op n l)) := by
 refine fi77.pu (by simp) ?_
 simp -implicitDefEqProofs [ac77]
 by_cases c18 : op = 18
 ·obtain ⟨hl2, p1, p2⟩ := h18 c18
  have e : fR (aS P T) op n l = cnF (l[0]?.getD 0) (l[1]?.getD 0) := by unfold fR; rw [if_pos c18]
  rw [e]
  have q0 : 0 < l.length := by omega
  have q1 : 1 < l.length := by omega
  unfold Pin at p1 p2
  rw [tp_1] at p1
  rw [qQ] at p2
  have r0 : l[0]?.getD 0 = l[0] := by rw [List.getElem?_eq_getElem q0]; rfl
  have r1 : l[1]?.getD 0 = l[1] := by rw [List.getElem?_eq_getElem q1]; rfl
  rw [r0] at p1 ⊢
  rw [r1] at p2 ⊢
  obtain ⟨a, ha⟩ : ∃ a, l[0] = a := ⟨_, rfl⟩
  obtain ⟨b, hb⟩ : ∃ b, l[1] = b := ⟨_, rfl⟩
  rw [ha] at p1 ⊢
  rw [hb] at p2 ⊢
  have q1i : (1 : Int) < (l.length : Int) := by omega
  simp -implicitDefEqProofs [c18, q0, q1, q1i, ha, hb]
  refine aG (DN p1 p2) (by simp) ?_
  simp -implicitDefEqProofs
 ·by_cases c7 : op = 7
  ·obtain ⟨hb, hin⟩ := h7 c7
   have hbi := hb
   unfold cF at hbi
   have hh := dA P 0 n
   have hlt : (aN P 0 n).toNat < P.length := by omega
   have hT : (aN P 0 n).toNat < T.length := by rw [ht.len]; exact hlt
   have hTi : aN P 0 n < (T.length : Int) := by omega
   have hPi : aN P 0 n < (P.length : Int) := by omega
   have h0i : 0 ≤ aN P 0 n := by omega
   obtain ⟨f1, f2⟩ := ht.fit _ hlt
   have hd : hdF P n = P[(aN P 0 n).toNat] := by unfold hdF; rw [List.getElem?_eq_getElem hlt]; rfl
   obtain ⟨x, hxe⟩ : ∃ x, T[(aN P 0 n).toNat]?.getD default = x := ⟨_, rfl⟩
   have hxe2 : T[(aN P 0 n).toNat] = x := by rw [← hxe, List.getElem?_eq_getElem hT]; rfl
   have hx := ht.ok x (by rw [← hxe2]; exact List.getElem_mem hT)
   have e : fR (aS P T) op n l = bI x.l (c9 x.ps l).1.toNat := by unfold fR aS; rw [if_neg c18, if_pos c7, hxe]
   rw [e]
   obtain ⟨f, hfe⟩ : ∃ f, P[(aN P 0 n).toNat] = f := ⟨_, rfl⟩
   have hfm : f ∈ P := by rw [← hfe]; exact List.getElem_mem hlt
   rw [hd, ← f1, hxe] at hin
   rw [hxe, hfe] at f1
   have hty : eH f = x.ps := f1.symm
   obtain ⟨⟨k1, k2, k3, k4, k5⟩, kw, kl⟩ := hx
   have hlen := oL hin
   have hv := uE _ _ 0 hin (Int.le_refl 0)
   have hnum : c9 x.ps l = (vl x.ps l 0, 0) := by
    unfold c9
    rw [if_neg (by rw [k1]; simp), if_neg (by rw [hlen]; simp), if_pos hin]
   rw [hnum]
   simp only
   have hv0 : 0 ≤ vl x.ps l 0 := by omega
   have hv1 : vl x.ps l 0 < x.n := by omega
   have htc := BB f (hpar f hfm)
   simp only [aR] at htc
   rw [hty] at htc
   simp -implicitDefEqProofs [c7]
   refine aG (HX P n h0i hP) (by simp) ?_
   simp -implicitDefEqProofs [h0i, hPi, hlt, hfe]
   refine aG htc (by simp) ?_
   simp -implicitDefEqProofs
   have hvn : (vl x.ps l 0).toNat < x.n.toNat := by omega
   have hg := qM (l := x.l) hvn
   have hgl : (cl x.n x.l).length = x.n.toNat := q8
   have hvi : vl x.ps l 0 < (x.n.toNat : Int) := by omega
   refine aG (AV x.ps l (by omega) (by omega)) (by simp) ?_
   simp -implicitDefEqProofs [hnum, ia_Q, h0i, hTi, hT, hxe2, hv0, hvi, hvn, hg, hgl]
   refine ⟨by omega, ?_⟩
   rw [List.getElem?_eq_getElem (by rw [hgl]; exact hvn)] at hg
   exact Option.some.inj hg
  ·have e : fR (aS P T) op n l = l.foldl min 1 := by unfold fR; rw [if_neg c18, if_neg c7]
   rw [e]
   obtain ⟨q0, hle⟩ := (h0.resolve_left c18).resolve_left c7
   have q0i : (0 : Int) < (l.length : Int) := by omega
   generalize hR : l.foldl min 1 = R
   have h1 : l[0] ≤ 1 := hle _ (List.getElem_mem q0)
   obtain ⟨y, hy⟩ : ∃ y, l[0] = y := ⟨_, rfl⟩
   have hR2 : l.foldl min y = R := by
    rw [← hR]
    cases l with
    | nil => simp at q0
    | cons a r =>
     simp only [List.getElem_cons_zero] at hy h1
     subst hy
     simp only [List.foldl_cons]
     rw [Int.min_self, Int.min_eq_right h1]
   simp -implicitDefEqProofs [c18, c7, q0, q0i, hy]
   refine lpG cf77 lb77_0 [10, 11] (α := Nat × Int) (fun s _ => [(10, I s.2), (11, I s.1)]) (fun s _ => []) (fun s k => s.1 ≤ l.length ∧ (l.drop s.1).foldl min s.2 = R) (fun s => l.length - s.1) (0, y) ⟨by simp, hR2⟩ (by simp) (by simp) ?_
   rintro ⟨i, b⟩ k ⟨hi, hr⟩
   simp only at hi hr
   by_cases hlt : i < l.length
   ·have w1 := aT (x := (i : Int) + 1) (by omega) (by omega)
    rw [oV l i hlt] at hr
    obtain ⟨x, hxe⟩ : ∃ x, l[i] = x := ⟨_, rfl⟩
    rw [hxe] at hr
    simp -implicitDefEqProofs [lb77_0, hlt, hxe, w1]
    exact aI (i + 1, min b x) ⟨hlt, hr⟩ (by simp only; omega) (by simp) (by simp)
   ·have hil : i = l.length := by omega
    subst hil
    rw [List.drop_length] at hr
    simp only [List.foldl_nil] at hr
    subst hr
    simp -implicitDefEqProofs [lb77_0]
theorem Sg.skip {mem : Mem} {P : List Fn} {hid : Nat} {T : List Tt} (h : Sg mem P hid T) {i : Nat} {b : Blk} (hi : look mem i = none) : Sg ((i, b) :: mem) P hid T := by
 obtain ⟨⟨m, h1, h2⟩, h3⟩ := h
 refine ⟨⟨m, ?_, h2⟩, h3⟩
 rw [a8]
 split
 ·rename_i e; subst e; rw [hi] at h1; simp at h1
 ·exact h1
abbrev exD (a : Ex) : D := .agg [I a.op, Tx a.name, Tx a.tail, I a.type, CX a.num.re a.num.im, .sl (em aQ a.args), I a.at']
def PtC (e : Ex) : Prop := ∀ ⦃mem : Mem⦄ ⦃nx hid : Nat⦄ ⦃P : List Fn⦄ ⦃T : List Tt⦄ ⦃N : Nls⦄ ⦃env : List Pm⦄ ⦃t : Int⦄ ⦃K : KD⦄, Sg mem P hid T → PT P → Sh e → aZ t → bD P env e t = [] → EnvR env N → size e ≤ 2 ^ 39 →
 (∀ n', nx ≤ n' → K (I (ptF (aS P T) e N)) mem n') → bH Tryz.prog 39 [sgD P hid T, exD e, cG N] mem nx K
structure Pts (P : List Fn) (T : List Tt) (env : List Pm) (op : Int) (n tl : List UInt8) (ty t : Int) (args : List Ex) : Prop where
 c : ∀ k (hk : k < args.length) ⦃mem : Mem⦄ ⦃nx hid : Nat⦄ ⦃env' : List Pm⦄ ⦃M : Nls⦄ ⦃K : KD⦄, Sg mem P hid T → aM env op n tl ty k = env' → EnvR env' M → aZ (aK P op n ty k t) → (∀ n', nx ≤ n' → K (I (ptI (aS P T) args k M)) mem n') → bH Tryz.prog 39 [sgD P hid T, exD args[k], cG M] mem nx K
 i : ∀ k, k < args.length → ∀ ⦃env' : List Pm⦄ ⦃M : Nls⦄, aM env op n tl ty k = env' → EnvR env' M → aZ (aK P op n ty k t) → Pin (aK P op n ty k t) (ptI (aS P T) args k M)
theorem uS {l : List Br} {mem : Mem} {j : IntKind} {i : Int} : iaD mem 3 (.sl (em u_ l)) (.pl (.int j i)) = if 0 ≤ i ∧ i < l.length then some (.pt [B (l[i.toNat]?.getD default).nl, I (l[i.toNat]?.getD default).hd, I (l[i.toNat]?.getD default).tl]) else none := gF fun x => rfl
theorem K3 {mem : Mem} {nx hid : Nat} {P : List Fn} {T : List Tt} {N : Nls} {env : List Pm} {t : Int} {K : KD} (n tl : List UInt8) (ty : Int) (z : Cx) (args : List Ex) (p : Int) (hl : args.length = 3) (ht : aZ t) (hs : Sg mem P hid T) (he : EnvR env N) (pts : Pts P T env 20 n tl ty t args)
  (hk : ∀ n', nx ≤ n' → K (I (ptF (aS P T) (.mk 20 n tl ty z args p) N)) mem n') :
  bH Tryz.prog 73 [sgD P hid T, .agg [I 20, Tx n, Tx tl, I ty, CX z.re z.im, .sl (em aQ args), I p], cG N] mem nx K := by
 have w0 : aK P 20 n ty 0 t = 3 := by simp [aK]
 have w1 : aK P 20 n ty 1 t = t := by simp [aK]
 have w2 : aK P 20 n ty 2 t = t := by simp [aK]
 have e0 : aM env 20 n tl ty 0 = env := by simp [aM]
 have e1 : aM env 20 n tl ty 1 = env := by simp [aM]
 have e2 : aM env 20 n tl ty 2 = (env ++ [⟨n, 1, 0⟩]) ++ [⟨tl, 3, 0⟩] := by simp [aM]
 have i0 := pts.i 0 (by omega) e0 he (by rw [w0]; exact .inr (.inr rfl))
 rw [w0] at i0
 have q0 : 0 < args.length := by omega
 have q1 : 1 < args.length := by omega
 have q2 : 2 < args.length := by omega
 have q0i : (0 : Int) < (args.length : Int) := by omega
 have q1i : (1 : Int) < (args.length : Int) := by omega
 have q2i : (2 : Int) < (args.length : Int) := by omega
 have c0 := pts.c 0 q0
 have c1 := pts.c 1 q1
 have c2 := pts.c 2 q2
 obtain ⟨a0, ha0⟩ : ∃ a, args[0] = a := ⟨_, rfl⟩
 obtain ⟨a1, ha1⟩ : ∃ a, args[1] = a := ⟨_, rfl⟩
 obtain ⟨a2, ha2⟩ : ∃ a, args[2] = a := ⟨_, rfl⟩
 rw [ha0] at c0
 rw [ha1] at c1
 rw [ha2] at c2
 have hpt : ptF (aS P T) (.mk 20 n tl ty z args p) N = casF (fun b => if b.nl = true then ptI (aS P T) args 1 N else ptI (aS P T) args 2 ((tl, b.tl) :: (n, b.hd) :: N)) (csF (ptI (aS P T) args 0 N)) := by
  conv => lhs; unfold ptF
  simp
 rw [hpt] at hk
 clear hpt
 generalize hv0 : ptI (aS P T) args 0 N = v0 at *
 refine fi73.ct (by simp) fun hfr => ?_
 simp -implicitDefEqProofs [ac73, ha0, q0, q0i]
 refine aD (c0 hs e0 he (by rw [w0]; exact .inr (.inr rfl)) (fun n1 hn1 => ?_))
 rw [hv0]
 unfold Pin at i0
 rw [qQ] at i0
 simp -implicitDefEqProofs
 refine aG (wL i0).1 (by simp) ?_
 simp -implicitDefEqProofs
 generalize hL : csF v0 = L at hk
 have hLin : ∀ b ∈ L, b.nl = false → Pin 1 b.hd ∧ Pin 3 b.tl := by rw [← hL]; exact zV
 unfold casF at hk
 generalize hR : L.foldl (fun m b => max m ((fun b : Br => if b.nl = true then ptI (aS P T) args 1 N else ptI (aS P T) args 2 ((tl, b.tl) :: (n, b.hd) :: N)) b)) 0 = R at hk
 refine lpG cf73 lb73_0 [7, 11, 12, 26] (α := Nat × Int) (fun s _ => [(7, I s.2), (11, .top), (12, .top), (26, I s.1)]) (fun s _ => mem) (fun s k => n1 ≤ k ∧ s.1 ≤ L.length ∧ (L.drop s.1).foldl (fun m b => max m ((fun b : Br => if b.nl = true then ptI (aS P T) args 1 N else ptI (aS P T) args 2 ((tl, b.tl) :: (n, b.hd) :: N)) b)) s.2 = R) (fun s => L.length - s.1) (0, 0) ⟨by omega, by simp, hR⟩ (by simp) (aL _) ?_
 have hLl : L.length ≤ 2 := by
  rw [← hL]; unfold csF
  split
  ·simp
  ·split
   ·simp
   ·split <;> simp
 clear hR
 rintro ⟨i, m⟩ k ⟨hk1, hi, hr⟩
 simp only at hi hr hk1
 by_cases hlt : i < L.length
 ·have wi := aT (x := (i : Int) + 1) (by omega) (by omega)
  rw [List.drop_eq_getElem_cons hlt, List.foldl_cons] at hr
  obtain ⟨b, hb⟩ : ∃ b, L[i] = b := ⟨_, rfl⟩
  have hbL : b ∈ L := by rw [← hb]; exact List.getElem_mem hlt
  rw [hb] at hr
  by_cases hnl : b.nl = true
  ·rw [if_pos hnl] at hr
   simp -implicitDefEqProofs [lb73_0, uS, hlt, hb, hnl, ha1, q1, q1i]
   refine aD (c1 (hs.skip (hfr (k + 1 + 2) (by omega))) e1 he (by rw [w1]; exact ht) (fun n2 hn2 => ?_))
   simp -implicitDefEqProofs [wi]
   exact aI (i + 1, max m (ptI (aS P T) args 1 N)) ⟨by omega, hlt, hr⟩ (by simp only; omega) (by simp) (aO (aL _) (hfr (k + 1 + 2) (by omega)))
  ·rw [if_neg hnl] at hr
   have hnl2 : b.nl = false := by simpa using hnl
   obtain ⟨p1, p2⟩ := hLin b hbL hnl2
   cases N with
   | nil =>
    simp -implicitDefEqProofs [lb73_0, uS, hlt, hb, hnl2, ha2, q2, q2i, cG]
    refine aD (c2 (M := (tl, b.tl) :: (n, b.hd) :: []) (hs.skip (hfr (k + 1 + 2) (by omega))) e2 ((he.one p1).one p2) (by rw [w2]; exact ht) (fun n2 hn2 => ?_))
    simp -implicitDefEqProofs [wi]
    exact aI (i + 1, max m (ptI (aS P T) args 2 ((tl, b.tl) :: (n, b.hd) :: []))) ⟨by omega, hlt, hr⟩ (by simp only; omega) (by simp) (aO (aL _) (hfr (k + 1 + 2) (by omega)))
   | cons y r =>
    simp -implicitDefEqProofs [lb73_0, uS, hlt, hb, hnl2, ha2, q2, q2i, cG]
    refine aD (c2 (M := (tl, b.tl) :: (n, b.hd) :: y :: r) (hs.skip (hfr (k + 1 + 2) (by omega))) e2 ((he.one p1).one p2) (by rw [w2]; exact ht) (fun n2 hn2 => ?_))
    simp -implicitDefEqProofs [wi]
    exact aI (i + 1, max m (ptI (aS P T) args 2 ((tl, b.tl) :: (n, b.hd) :: y :: r))) ⟨by omega, hlt, hr⟩ (by simp only; omega) (by simp) (aO (aL _) (hfr (k + 1 + 2) (by omega)))
 ·have hil : i = L.length := by omega
  subst hil
  rw [List.drop_length] at hr
  simp only [List.foldl_nil] at hr
  subst hr
  simp -implicitDefEqProofs [lb73_0]
  exact ⟨_, aE _, hk _ (by omega)⟩
set_option maxHeartbeats 8000000
theorem rC : ∀ (l : List Ex), l.length ≤ bA l
 | [] => by simp [bA]
 | y :: ys => by
  have := rC ys
  have h : 1 ≤ size y := by cases y; unfold size; omega
  unfold bA; simp only [List.length_cons]; omega
theorem pts_of {P : List Fn} {T : List Tt} {env : List Pm} {op : Int} {n tl : List UInt8} {ty t : Int} {args : List Ex} (hP : PT P) (hT : nK P T) (hss : Shs args) (hws : bM P env op n tl ty t 0 args = []) (hz : bA args ≤ 2 ^ 39) (ih : ∀ x ∈ args, PtC x) : Pts P T env op n tl ty t args := by
 have harg : ∀ k x, args[k]? = some x → bD P (aM env op n tl ty k) x (aK P op n ty k t) = [] := fun k x hx => by
  have := o4 args 0 k x hws hx
  rwa [Nat.zero_add] at this
 refine ⟨fun k hk mem nx hid env' M K hs he hM ht hK => ?_, fun k hk env' M he hM ht => ?_⟩
 ·have hx := List.getElem?_eq_getElem hk
  have hm := List.getElem_mem hk
  refine ih _ hm hs hP (jK hss hm) ht (by rw [← he]; exact harg k _ hx) hM (Nat.le_trans (i_ hm) hz) (fun n' hn => ?_)
  rw [← fU (N := M) args k _ hx]; exact hK n' hn
 ·have hx := List.getElem?_eq_getElem hk
  have hm := List.getElem_mem hk
  rw [fU args k _ hx]
  exact C6 hP (yI hT) _ (jK hss hm) ht (by rw [← he]; exact harg k _ hx) hM
theorem CT (op : Int) (n tl : List UInt8) (ty : Int) (z : Cx) (args : List Ex) (p : Int) (ih : ∀ x ∈ args, PtC x) : PtC (.mk op n tl ty z args p) := by
 intro mem nx hid P T N env t K hs hP hsh ht hw he hz hk
 have hw0 := hw
 have hsh0 := hsh
 unfold Sh at hsh
 obtain ⟨hsp, hss⟩ := hsh
 unfold bD at hw
 rw [List.append_eq_nil_iff] at hw
 obtain ⟨hw, hown⟩ := hw
 have hown' : cH op ∨ bT P env op n ty args.length = t := by
  apply Classical.byContradiction
  intro g
  rw [if_neg g] at hown; simp at hown
 have hbad : op = 7 → ¬ cF P n args.length := by
  intro h7 hb
  subst h7
  rcases hown' with h | h
  ·unfold cH at h; omega
  ·unfold bT at h
   rw [if_neg (by omega), if_neg (by omega), if_neg (by omega), if_neg (by omega), if_pos rfl, if_pos hb] at h
   unfold aZ at ht; omega
 have hws : bM P env op n tl ty t 0 args = [] := by
  by_cases h7 : op = 7 ∧ cF P n args.length
  ·exact absurd h7.2 (hbad h7.1)
  ·rw [if_neg h7] at hw; exact hw
 have hz' : bA args ≤ 2 ^ 39 := by unfold size at hz; omega
 have pts := pts_of (T := T) hP hs.tabs hss hws hz' ih
 have hk0 := hk
 have hpt : ptF (aS P T) (.mk op n tl ty z args p) N = ptF (aS P T) (.mk op n tl ty z args p) N := rfl
 conv at hpt => rhs; unfold ptF
 rw [hpt] at hk
 clear hpt
 unfold dH at hsp
 show bH Tryz.prog 39 [sgD P hid T, .agg [I op, Tx n, Tx tl, I ty, CX z.re z.im, .sl (em aQ args), I p], cG N] mem nx K
 refine fi39.ct (by simp) fun hfr => ?_
 simp -implicitDefEqProofs [ac39]
 by_cases c1 : op = 1
 ·subst c1
  simp -implicitDefEqProofs []
  exact ⟨_, aE _, by simpa using hk _ (by omega)⟩
 by_cases c2 : op = 2
 ·subst c2
  simp -implicitDefEqProofs []
  exact ⟨_, aE _, by simpa using hk _ (by omega)⟩
 by_cases c3 : op = 3
 ·subst c3
  simp -implicitDefEqProofs []
  exact ⟨_, aE _, by simpa using hk _ (by omega)⟩
 by_cases c4 : op = 4
 ·subst c4
  simp -implicitDefEqProofs []
  exact ⟨_, aE _, by simpa using hk _ (by omega)⟩
 by_cases c5 : op = 5
 ·subst c5
  simp -implicitDefEqProofs []
  exact ⟨_, aE _, by simpa using hk _ (by omega)⟩
 have own_of : ¬ cH op → bT P env op n ty args.length = t := fun h => hown'.resolve_left h
 by_cases c6 : op = 6
 ·have h := own_of (by unfold cH; omega)
  unfold bT at h
  rw [if_neg (by omega), if_neg c4, if_neg c5, if_pos c6] at h
  subst c6
  simp -implicitDefEqProofs []
  refine aG (find_c N n (he.has ht h)) (by simp) ?_
  simp -implicitDefEqProofs
  exact ⟨_, aE _, by simpa using hk _ (by omega)⟩
 by_cases c19 : op = 19
 ·subst c19
  have hl : args.length = 3 := by omega
  have w0 : aK P 19 n ty 0 t = 2 := by simp [aK]
  have w1 : aK P 19 n ty 1 t = t := by simp [aK]
  have w2 : aK P 19 n ty 2 t = t := by simp [aK]
  have e0 : aM env 19 n tl ty 0 = env := by simp [aM]
  have e1 : aM env 19 n tl ty 1 = env := by simp [aM]
  have e2 : aM env 19 n tl ty 2 = env := by simp [aM]
  have q0 : 0 < args.length := by omega
  have q1 : 1 < args.length := by omega
  have q2 : 2 < args.length := by omega
  have q0i : (0 : Int) < (args.length : Int) := by omega
  have q1i : (1 : Int) < (args.length : Int) := by omega
  have q2i : (2 : Int) < (args.length : Int) := by omega
  have a0 := pts.c 0 q0
  have a1 := pts.c 1 q1
  have a2 := pts.c 2 q2
  obtain ⟨x0, hx0⟩ : ∃ a, args[0] = a := ⟨_, rfl⟩
  obtain ⟨x1, hx1⟩ : ∃ a, args[1] = a := ⟨_, rfl⟩
  obtain ⟨x2, hx2⟩ : ∃ a, args[2] = a := ⟨_, rfl⟩
  rw [hx0] at a0
  rw [hx1] at a1
  rw [hx2] at a2
  simp only [Int.reduceEq, if_true, if_false, or_self] at hk
  simp -implicitDefEqProofs [hx0, q0, q0i]
  refine aD (a0 hs e0 he (by rw [w0]; exact .inr (.inl rfl)) (fun n1 hn1 => ?_))
  by_cases hv : ptI (aS P T) args 0 N = 0
  ·simp -implicitDefEqProofs [hv]
   exact ⟨_, aE _, by simpa [hv] using hk _ (by omega)⟩
  ·simp -implicitDefEqProofs [hv, hx1, hx2, q1, q2, q1i, q2i]
   refine aD (a1 hs e1 he (by rw [w1]; exact ht) (fun n2 hn2 => ?_))
   refine ⟨fun _ _ h => h, ?_⟩
   refine aD (a2 hs e2 he (by rw [w2]; exact ht) (fun n3 hn3 => ?_))
   refine ⟨fun _ _ h => h, ?_⟩
   simp -implicitDefEqProofs
   exact ⟨_, aE _, by simpa [hv] using hk _ (by omega)⟩
 by_cases c20 : op = 20
 ·subst c20
  have hl : args.length = 3 := by omega
  simp -implicitDefEqProofs []
  refine aD (K3 n tl ty z args p hl ht hs he pts (fun n1 hn1 => ?_))
  simp -implicitDefEqProofs
  exact ⟨_, aE _, hk0 _ (by omega)⟩
 by_cases c21 : op = 21
 ·subst c21
  have hl : args.length = 2 ∧ aZ ty := by unfold aZ at *; omega
  have w0 : aK P 21 n ty 0 t = ty := by simp [aK]
  have w1 : aK P 21 n ty 1 t = t := by simp [aK]
  have e0 : aM env 21 n tl ty 0 = env ++ [⟨n, ty, 0⟩] := by simp [aM]
  have e1 : aM env 21 n tl ty 1 = env ++ [⟨n, ty, 0⟩] := by simp [aM]
  have q0 : 0 < args.length := by omega
  have q1 : 1 < args.length := by omega
  have q0i : (0 : Int) < (args.length : Int) := by omega
  have q1i : (1 : Int) < (args.length : Int) := by omega
  have a0 := pts.c 0 q0
  have a1 := pts.c 1 q1
  have p0 : Pin ty 0 := by have := nX hl.2; unfold Pin; omega
  have i0 : ∀ q, Pin ty q → Pin ty (ptI (aS P T) args 0 ((n, q) :: N)) := fun q hq => by
   have := pts.i 0 q0 (M := (n, q) :: N) e0 (he.one hq) (by rw [w0]; exact hl.2)
   rwa [w0] at this
  obtain ⟨x0, hx0⟩ : ∃ a, args[0] = a := ⟨_, rfl⟩
  obtain ⟨x1, hx1⟩ : ∃ a, args[1] = a := ⟨_, rfl⟩
  rw [hx0] at a0
  rw [hx1] at a1
  simp only [Int.reduceEq, if_true, if_false, or_self] at hk
  cases N with
  | nil =>
   simp -implicitDefEqProofs [cG, hx0, q0, q0i]
   refine aD (a0 (M := (n, 0) :: []) hs e0 (he.one p0) (by rw [w0]; exact hl.2) (fun n1 hn1 => ?_))
   simp -implicitDefEqProofs
   generalize hR : iX (fun q => ptI (aS P T) args 0 ((n, q) :: [])) 4 0 = R at hk
   refine lpG cf39 lb39_1 [7, 8] (α := Nat × Int) (fun s _ => [(7, cG ((n, s.2) :: [])), (8, I (ptI (aS P T) args 0 ((n, s.2) :: [])))]) (fun s _ => mem) (fun s k => n1 ≤ k ∧ iX (fun q => ptI (aS P T) args 0 ((n, q) :: [])) s.1 s.2 = R ∧ Pin ty s.2 ∧ tp ty < s.2 + s.1 + 1) (fun s => s.1) (4, 0) ⟨by omega, hR, p0, by have := gI ty; simp only; omega⟩ (by simp [cG]) (aL _) ?_
   clear hR
   rintro ⟨j, q⟩ k ⟨hk1, hr, hp, hj⟩
   simp only at hk1 hr hp hj
   have g1 := i0 q hp
   by_cases hgq : q < ptI (aS P T) args 0 ((n, q) :: [])
   ·have hj1 : ∃ j', j = j' + 1 := by
     cases j with
     | zero => unfold Pin at g1 hp; simp only [Int.natCast_zero] at hj; omega
     | succ j => exact ⟨j, rfl⟩
    obtain ⟨j', rfl⟩ := hj1
    unfold iX at hr
    rw [if_neg (by omega)] at hr
    simp -implicitDefEqProofs [lb39_1, cG, hgq, hx0, q0, q0i]
    refine aD (a0 (M := (n, ptI (aS P T) args 0 ((n, q) :: [])) :: []) hs e0 (he.one g1) (by rw [w0]; exact hl.2) (fun n2 hn2 => ?_))
    simp -implicitDefEqProofs
    exact aI (j', ptI (aS P T) args 0 ((n, q) :: [])) ⟨by omega, hr, g1, by simp only; push_cast at hj; omega⟩ (by simp) (by simp [cG]) (aL _)
   ·have hRq : R = q := by
     rw [← hr]
     cases j with
     | zero => rfl
     | succ j => unfold iX; rw [if_pos (by omega)]
    subst hRq
    simp -implicitDefEqProofs [lb39_1, cG, hgq, hx1, q1, q1i]
    refine aD (a1 (M := (n, R) :: []) hs e1 (he.one hp) (by rw [w1]; exact ht) (fun n2 hn2 => ?_))
    simp -implicitDefEqProofs
    exact ⟨_, aE _, hk _ (by omega)⟩
  | cons y r =>
   simp -implicitDefEqProofs [cG, hx0, q0, q0i]
   refine aD (a0 (M := (n, 0) :: y :: r) hs e0 (he.one p0) (by rw [w0]; exact hl.2) (fun n1 hn1 => ?_))
   simp -implicitDefEqProofs
   generalize hR : iX (fun q => ptI (aS P T) args 0 ((n, q) :: y :: r)) 4 0 = R at hk
   refine lpG cf39 lb39_1 [7, 8] (α := Nat × Int) (fun s _ => [(7, cG ((n, s.2) :: y :: r)), (8, I (ptI (aS P T) args 0 ((n, s.2) :: y :: r)))]) (fun s _ => mem) (fun s k => n1 ≤ k ∧ iX (fun q => ptI (aS P T) args 0 ((n, q) :: y :: r)) s.1 s.2 = R ∧ Pin ty s.2 ∧ tp ty < s.2 + s.1 + 1) (fun s => s.1) (4, 0) ⟨by omega, hR, p0, by have := gI ty; simp only; omega⟩ (by simp [cG]) (aL _) ?_
   clear hR
   rintro ⟨j, q⟩ k ⟨hk1, hr, hp, hj⟩
   simp only at hk1 hr hp hj
   have g1 := i0 q hp
   by_cases hgq : q < ptI (aS P T) args 0 ((n, q) :: y :: r)
   ·have hj1 : ∃ j', j = j' + 1 := by
     cases j with
     | zero => unfold Pin at g1 hp; simp only [Int.natCast_zero] at hj; omega
     | succ j => exact ⟨j, rfl⟩
    obtain ⟨j', rfl⟩ := hj1
    unfold iX at hr
    rw [if_neg (by omega)] at hr
    simp -implicitDefEqProofs [lb39_1, cG, hgq, hx0, q0, q0i]
    refine aD (a0 (M := (n, ptI (aS P T) args 0 ((n, q) :: y :: r)) :: y :: r) hs e0 (he.one g1) (by rw [w0]; exact hl.2) (fun n2 hn2 => ?_))
    simp -implicitDefEqProofs
    exact aI (j', ptI (aS P T) args 0 ((n, q) :: y :: r)) ⟨by omega, hr, g1, by simp only; push_cast at hj; omega⟩ (by simp) (by simp [cG]) (aL _)
   ·have hRq : R = q := by
     rw [← hr]
     cases j with
     | zero => rfl
     | succ j => unfold iX; rw [if_pos (by omega)]
    subst hRq
    simp -implicitDefEqProofs [lb39_1, cG, hgq, hx1, q1, q1i]
    refine aD (a1 (M := (n, R) :: y :: r) hs e1 (he.one hp) (by rw [w1]; exact ht) (fun n2 hn2 => ?_))
    simp -implicitDefEqProofs
    exact ⟨_, aE _, hk _ (by omega)⟩
 by_cases c22 : op = 22
 ·subst c22
  have hl : args.length = 2 ∧ aZ ty := by unfold aZ at *; omega
  have w0 : aK P 22 n ty 0 t = ty := by simp [aK]
  have w1 : aK P 22 n ty 1 t = t := by simp [aK]
  have e0 : aM env 22 n tl ty 0 = env := by simp [aM]
  have e1 : aM env 22 n tl ty 1 = env ++ [⟨n, ty, 0⟩] := by simp [aM]
  have q0 : 0 < args.length := by omega
  have q1 : 1 < args.length := by omega
  have q0i : (0 : Int) < (args.length : Int) := by omega
  have q1i : (1 : Int) < (args.length : Int) := by omega
  have a0 := pts.c 0 q0
  have a1 := pts.c 1 q1
  have i0 := pts.i 0 q0 (M := N) e0 he (by rw [w0]; exact hl.2)
  rw [w0] at i0
  obtain ⟨x0, hx0⟩ : ∃ a, args[0] = a := ⟨_, rfl⟩
  obtain ⟨x1, hx1⟩ : ∃ a, args[1] = a := ⟨_, rfl⟩
  rw [hx0] at a0
  rw [hx1] at a1
  simp only [Int.reduceEq, if_true, if_false, or_self] at hk
  simp -implicitDefEqProofs [hx0, q0, q0i]
  refine aD (a0 hs e0 he (by rw [w0]; exact hl.2) (fun n1 hn1 => ?_))
  by_cases hv : 0 < ptI (aS P T) args 0 N
  ·rw [if_pos hv] at hk
   cases N with
   | nil =>
    simp -implicitDefEqProofs [cG, hv, hx1, q1, q1i]
    refine aD (a1 (M := (n, ptI (aS P T) args 0 []) :: []) hs e1 (he.one i0) (by rw [w1]; exact ht) (fun n2 hn2 => ?_))
    simp -implicitDefEqProofs
    exact ⟨_, aE _, hk _ (by omega)⟩
   | cons y r =>
    simp -implicitDefEqProofs [cG, hv, hx1, q1, q1i]
    refine aD (a1 (M := (n, ptI (aS P T) args 0 (y :: r)) :: y :: r) hs e1 (he.one i0) (by rw [w1]; exact ht) (fun n2 hn2 => ?_))
    simp -implicitDefEqProofs
    exact ⟨_, aE _, hk _ (by omega)⟩
  ·rw [if_neg hv] at hk
   simp -implicitDefEqProofs [hv]
   exact ⟨_, aE _, hk _ (by omega)⟩
 have c1' : ¬ (op = 1 ∨ op = 2 ∨ op = 3) := by omega
 rw [if_neg c1', if_neg c4, if_neg c5, if_neg c6, if_neg c19, if_neg c20, if_neg c21, if_neg c22] at hk
 simp -implicitDefEqProofs [c1, c2, c3, c4, c5, c6, c19, c20, c21, c22]
 generalize hq0 : nx + 2 + 2 + 2 + 2 + 2 + 2 + 2 + 2 + 2 + 2 + 2 + 2 + 1 + 4 = q
 have hqn : nx ≤ q := by omega
 refine cA (j := 10) (k := 1) rfl (.inl rfl) ?_
 refine gP ?_
 have hll : args.length ≤ 2 ^ 39 := Nat.le_trans (rC args) hz'
 have hpar : op = 7 → ∀ k, k < args.length → ∃ x, (hdF P n).params[k]? = some x ∧ aZ x.type := by
  intro c7 k hk
  have hb := hbad c7
  unfold cF at hb
  have hlen : (hdF P n).params.length = args.length := by omega
  have hkp : k < (hdF P n).params.length := by omega
  have hf : hdF P n ∈ P := by
   unfold hdF
   have hlt : (aN P 0 n).toNat < P.length := by have := dA P 0 n; omega
   rw [List.getElem?_eq_getElem hlt]; exact List.getElem_mem hlt
  exact ⟨_, List.getElem?_eq_getElem hkp, (hP _ hf).2 _ (List.getElem_mem hkp)⟩
 have hjn : ∀ k, k < args.length → aZ (aK P op n ty k t) ∧ aM env op n tl ty k = env := by
  intro k hk
  have d1 : ¬ (op = 21 ∨ op = 22 ∧ k = 1) := by omega
  have d2 : ¬ (op = 20 ∧ k = 2) := by omega
  refine ⟨?_, by unfold aM; rw [if_neg d1, if_neg d2]⟩
  by_cases c7 : op = 7
  ·obtain ⟨x, hx, htx⟩ := hpar c7 k hk
   have w : aK P op n ty k t = x.type := by subst c7; simp [aK, hx]
   rw [w]; exact htx
  ·have d3 : ¬ (op = 21 ∨ op = 22) := by omega
   unfold aK aZ
   by_cases c14 : op = 14
   ·simp [c14]
   ·by_cases c18 : op = 18
    ·by_cases hk1 : k = 1 <;> simp [c18, hk1]
    ·rw [if_neg c14, if_neg c18, if_neg c7, if_neg c19, if_neg c20, if_neg d3]; simp
 refine lpG cf39 lb39_0 [10, 12, 126] (α := Nat × Nat × List Int) (fun s _ => [(10, .osl q s.2.1 0 s.2.2.length), (12, .top), (126, I s.1)]) (fun s _ => (q, .arr s.2.1 1 (em a9 s.2.2)) :: mem) (fun s k => q < k ∧ s.1 ≤ args.length ∧ s.2.2 = (ptL (aS P T) args N).take s.1) (fun s => args.length - s.1) (0, 0, []) ⟨by omega, by simp, by simp⟩ (by simp [upd]) (by simp) ?_
 rintro ⟨i, v, l⟩ k ⟨hk1, hi, hl⟩
 simp only at hi hl hk1
 have hplen := mM (V := aS P T) (N := N) args
 have hle : l.length = i := by rw [hl, List.length_take]; omega
 have hq2 : look mem q = none := hfr q hqn
 by_cases hlt : i < args.length
 ·have w1 := aT (x := (i : Int) + 1) (by omega) (by omega)
  have a := pts.c i hlt
  obtain ⟨ht1, ht2⟩ := hjn i hlt
  obtain ⟨x, hx⟩ : ∃ x, args[i] = x := ⟨_, rfl⟩
  rw [hx] at a
  have hnext : l ++ [ptI (aS P T) args i N] = (ptL (aS P T) args N).take (i + 1) := by
   rw [hl, List.take_add_one, lL args i _ (List.getElem?_eq_getElem hlt), fU args i _ (List.getElem?_eq_getElem hlt)]; rfl
  have b1 : (l.length + 1) * 8 ≤ 3 * 2 ^ 46 := by omega
  have z1 : (k + 1 + 2 = q) = False := eq_false (by omega)
  have z2 : (q = k + 1 + 2) = False := eq_false (by omega)
  simp -implicitDefEqProofs [lb39_0, hlt, hx, w1, z1, z2]
  refine aD (a ((hs.skip hq2).skip (by rw [a8, if_neg (by omega)]; exact hfr (k + 1 + 2) (by omega))) ht2 he ht1 (fun n2 hn2 => ?_))
  have e1 : em a9 l ++ [[I (ptI (aS P T) args i N)]] = em a9 (l ++ [ptI (aS P T) args i N]) := eA
  simp -implicitDefEqProofs [b1, z1, z2, w1, e1]
  exact aI (i + 1, v + 1, l ++ [ptI (aS P T) args i N]) ⟨by omega, hlt, hnext⟩ (by simp only; omega) (by simp) (aO (by simp) (by rw [a8, if_neg (by omega)]; exact hfr (k + 1 + 2) (by omega)))
 ·have hil : i = args.length := by omega
  subst hil
  rw [List.take_of_length_le (by omega)] at hl
  subst hl
  simp -implicitDefEqProofs [lb39_0]
  have hpi : ∀ k, k < args.length → (ptL (aS P T) args N)[k]?.getD 0 = ptI (aS P T) args k N ∧ Pin (aK P op n ty k t) (ptI (aS P T) args k N) := fun k hk => by
   have hy := List.getElem?_eq_getElem hk
   obtain ⟨ht1, ht2⟩ := hjn k hk
   exact ⟨by rw [lL args k _ hy, fU args k _ hy]; rfl, pts.i k hk ht2 he ht1⟩
  refine jW (j := 10) (d' := .sl (em a9 (ptL (aS P T) args N))) [(q, .arr v 1 (em a9 (ptL (aS P T) args N)))] mem rfl (by simp [frz, look]) (fun i b hb => ?_) (fun i b hb => ?_) (fun i => ?_) ?_
  ·rw [a8] at hb ⊢
   split at hb
   ·rename_i e; rw [if_pos e]; exact hb
   ·simp [look] at hb
  ·rw [a8, if_neg (by rintro rfl; rw [hq2] at hb; simp at hb)]; exact hb
  ·by_cases e : q = i
   ·subst e; exact .inr hq2
   ·left; rw [a8, if_neg e]; rfl
  ·simp -implicitDefEqProofs [upd]
   refine aD (join_c op n tl ty z args p (ptL (aS P T) args N) hs (by omega) (fun c18 => ?_) (fun c7 => ?_) (fun n' hn' => ?_))
   ·have hl2 : args.length = 2 := by omega
    obtain ⟨h1, h2⟩ := hpi 0 (by omega)
    obtain ⟨h3, h4⟩ := hpi 1 (by omega)
    subst c18
    have w0 : aK P 18 n ty 0 t = 1 := by simp [aK]
    have w1 : aK P 18 n ty 1 t = 3 := by simp [aK]
    rw [w0] at h2
    rw [w1] at h4
    rw [h1, h3]
    exact ⟨by omega, h2, h4⟩
   ·have hb := hbad c7
    have hbb := hb
    unfold cF at hbb
    have hlen : (hdF P n).params.length = args.length := by omega
    refine ⟨by rw [hplen]; exact hb, u7 _ _ (by rw [hplen, List.length_map, hlen]) fun k u hu => ?_⟩
    obtain ⟨x, hx, rfl⟩ := tS hu
    have hk : k < args.length := by rw [← hlen]; exact (List.getElem?_eq_some_iff.1 hx).1
    obtain ⟨h1, h2⟩ := hpi k hk
    subst c7
    have w : aK P 7 n ty k t = x.type := by simp [aK, hx]
    rw [w] at h2
    rw [h1]; exact h2
   ·simp -implicitDefEqProofs
    exact ⟨_, aE _, hk _ (by omega)⟩
mutual
theorem vX : ∀ e : Ex, PtC e
 | .mk op n tl ty z args p => CT op n tl ty z args p (yE args)
theorem yE : ∀ l : List Ex, ∀ x ∈ l, PtC x
 | [], x, h => by simp at h
 | y :: ys, x, h => by
  rcases List.mem_cons.1 h with e | h
  ·rw [e]; exact vX y
  ·exact yE ys x h
end
theorem imm_X (l : List (List UInt8 × Int)) : D.immss (em fO l) = true := eZ fun x => rfl
attribute [simp] imm_X
abbrev nmD (N : Nls) : D := .sl (em fO N.reverse)
def RPtC (e : Ex) : Prop := ∀ ⦃P : List Fn⦄ ⦃T : List Tt⦄ ⦃N : Nls⦄ ⦃env : List Pm⦄ ⦃t : Int⦄, nK P T → P.length < 2 ^ 39 → (∀ f ∈ P, f.params.length < 2 ^ 39) → PT P → Sh e → aZ t → bD P env e t = [] → EnvR env N → (N.length + 2 * size e ≤ 5 * 2 ^ 40 ∧ size e ≤ 2 ^ 38) →
 Pure Tryz.prog 43 [rsD P T, exD e, nmD N] (I (ptF (aS P T) e N))
structure RPts (P : List Fn) (T : List Tt) (env : List Pm) (N0 : Nat) (op : Int) (n tl : List UInt8) (ty t : Int) (args : List Ex) : Prop where
 c : ∀ k (hk : k < args.length) ⦃env' : List Pm⦄ ⦃M : Nls⦄, aM env op n tl ty k = env' → EnvR env' M → M.length ≤ N0 + 2 → aZ (aK P op n ty k t) → Pure Tryz.prog 43 [rsD P T, exD args[k], nmD M] (I (ptI (aS P T) args k M))
 i : ∀ k, k < args.length → ∀ ⦃env' : List Pm⦄ ⦃M : Nls⦄, aM env op n tl ty k = env' → EnvR env' M → aZ (aK P op n ty k t) → Pin (aK P op n ty k t) (ptI (aS P T) args k M)
theorem oN (N : Nls) (n : List UInt8) (p : Int) (hl : N.length ≤ 5 * 2 ^ 40) : Pure Tryz.prog 76 [nmD N, Tx n, I p] (nmD ((n, p) :: N)) := by
 have h := KK N.reverse n p (by simpa using hl)
 rw [← List.reverse_cons] at h
 exact h
theorem G_ {P : List Fn} {T : List Tt} {N : Nls} {env : List Pm} {t : Int} (n tl : List UInt8) (ty : Int) (z : Cx) (args : List Ex) (p : Int) (hl : args.length = 3) (ht : aZ t) (he : EnvR env N) (hN : N.length < 5 * 2 ^ 40) (pts : RPts P T env N.length 20 n tl ty t args) :
  Pure Tryz.prog 75 [rsD P T, .agg [I 20, Tx n, Tx tl, I ty, CX z.re z.im, .sl (em aQ args), I p], nmD N] (I (ptF (aS P T) (.mk 20 n tl ty z args p) N)) := by
 have w0 : aK P 20 n ty 0 t = 3 := by simp [aK]
 have w1 : aK P 20 n ty 1 t = t := by simp [aK]
 have w2 : aK P 20 n ty 2 t = t := by simp [aK]
 have e0 : aM env 20 n tl ty 0 = env := by simp [aM]
 have e1 : aM env 20 n tl ty 1 = env := by simp [aM]
 have e2 : aM env 20 n tl ty 2 = (env ++ [⟨n, 1, 0⟩]) ++ [⟨tl, 3, 0⟩] := by simp [aM]
 have i0 := pts.i 0 (by omega) e0 he (by rw [w0]; exact .inr (.inr rfl))
 rw [w0] at i0
 have q0 : 0 < args.length := by omega
 have q1 : 1 < args.length := by omega
 have q2 : 2 < args.length := by omega
 have q0i : (0 : Int) < (args.length : Int) := by omega
 have q1i : (1 : Int) < (args.length : Int) := by omega
 have q2i : (2 : Int) < (args.length : Int) := by omega
 have c0 := pts.c 0 q0 e0 he (by omega) (by rw [w0]; exact .inr (.inr rfl))
 have c1 := pts.c 1 q1 e1 he (by omega) (by rw [w1]; exact ht)
 have c2 := pts.c 2 q2
 obtain ⟨a0, ha0⟩ : ∃ a, args[0] = a := ⟨_, rfl⟩
 obtain ⟨a1, ha1⟩ : ∃ a, args[1] = a := ⟨_, rfl⟩
 obtain ⟨a2, ha2⟩ : ∃ a, args[2] = a := ⟨_, rfl⟩
 rw [ha0] at c0
 rw [ha1] at c1
 rw [ha2] at c2
 have hpt : ptF (aS P T) (.mk 20 n tl ty z args p) N = casF (fun b => if b.nl = true then ptI (aS P T) args 1 N else ptI (aS P T) args 2 ((tl, b.tl) :: (n, b.hd) :: N)) (csF (ptI (aS P T) args 0 N)) := by
  conv => lhs; unfold ptF
  simp
 rw [hpt]
 clear hpt
 generalize hv0 : ptI (aS P T) args 0 N = v0 at *
 refine fi75.pu (by simp) ?_
 simp -implicitDefEqProofs [ac75, ha0, q0, q0i]
 refine aG c0 (by simp) ?_
 unfold Pin at i0
 rw [qQ] at i0
 simp -implicitDefEqProofs
 refine aG (wL i0).2 (by simp) ?_
 simp -implicitDefEqProofs
 generalize hL : csF v0 = L
 have hLin : ∀ b ∈ L, b.nl = false → Pin 1 b.hd ∧ Pin 3 b.tl := by rw [← hL]; exact zV
 unfold casF
 generalize hR : L.foldl (fun m b => max m ((fun b : Br => if b.nl = true then ptI (aS P T) args 1 N else ptI (aS P T) args 2 ((tl, b.tl) :: (n, b.hd) :: N)) b)) 0 = R
 refine lpG cf75 lb75_0 [7, 9, 10, 11, 12] (α := Nat × Int) (fun s _ => [(7, I s.2), (9, I s.1), (10, .top), (11, .top), (12, .top)]) (fun s _ => []) (fun s k => s.1 ≤ L.length ∧ (L.drop s.1).foldl (fun m b => max m ((fun b : Br => if b.nl = true then ptI (aS P T) args 1 N else ptI (aS P T) args 2 ((tl, b.tl) :: (n, b.hd) :: N)) b)) s.2 = R) (fun s => L.length - s.1) (0, 0) ⟨by simp, hR⟩ (by simp) (by simp) ?_
 have hLl : L.length ≤ 2 := by
  rw [← hL]; unfold csF
  split
  ·simp
  ·split
   ·simp
   ·split <;> simp
 clear hR
 rintro ⟨i, m⟩ k ⟨hi, hr⟩
 simp only at hi hr
 by_cases hlt : i < L.length
 ·have wi := aT (x := (i : Int) + 1) (by omega) (by omega)
  rw [List.drop_eq_getElem_cons hlt, List.foldl_cons] at hr
  obtain ⟨b, hb⟩ : ∃ b, L[i] = b := ⟨_, rfl⟩
  have hbL : b ∈ L := by rw [← hb]; exact List.getElem_mem hlt
  rw [hb] at hr
  by_cases hnl : b.nl = true
  ·rw [if_pos hnl] at hr
   simp -implicitDefEqProofs [lb75_0, uS, hlt, hb, hnl, ha1, q1, q1i]
   refine aG c1 (by simp) ?_
   simp -implicitDefEqProofs [wi]
   exact aI (i + 1, max m (ptI (aS P T) args 1 N)) ⟨hlt, hr⟩ (by simp only; omega) (by simp) (by simp)
  ·rw [if_neg hnl] at hr
   have hnl2 : b.nl = false := by simpa using hnl
   obtain ⟨p1, p2⟩ := hLin b hbL hnl2
   have hc2 := c2 (M := (tl, b.tl) :: (n, b.hd) :: N) e2 ((he.one p1).one p2) (by simp) (by rw [w2]; exact ht)
   simp -implicitDefEqProofs [lb75_0, uS, hlt, hb, hnl2, ha2, q2, q2i]
   refine aG (oN N n b.hd (by omega)) (by simp) ?_
   simp -implicitDefEqProofs [ha2, q2, q2i]
   refine aG (oN ((n, b.hd) :: N) tl b.tl (by simp; omega)) (by simp) ?_
   simp -implicitDefEqProofs
   refine aG hc2 (by simp) ?_
   simp -implicitDefEqProofs [wi]
   exact aI (i + 1, max m (ptI (aS P T) args 2 ((tl, b.tl) :: (n, b.hd) :: N))) ⟨hlt, hr⟩ (by simp only; omega) (by simp) (by simp)
 ·have hil : i = L.length := by omega
  subst hil
  rw [List.drop_length] at hr
  simp only [List.foldl_nil] at hr
  subst hr
  simp -implicitDefEqProofs [lb75_0]
def l7 : List (List UInt8 × Int) → List UInt8 → Int → Int
 | [], _, d => d
 | x :: xs, n, d => l7 xs n (if x.1 = n then x.2 else d)
theorem ia_X {l : List (List UInt8 × Int)} {mem : Mem} {j : IntKind} {i : Int} : iaD mem 2 (.sl (em fO l)) (.pl (.int j i)) = if 0 ≤ i ∧ i < l.length then some (.pt [Tx (l[i.toNat]?.getD default).1, I (l[i.toNat]?.getD default).2]) else none := gF fun x => rfl
theorem wM (n : List UInt8) (x : List UInt8 × Int) : ∀ (l : List (List UInt8 × Int)) (d : Int), l7 (l ++ [x]) n d = if x.1 = n then x.2 else l7 l n d
 | [], d => rfl
 | y :: ys, d => by simp only [List.cons_append, l7]; exact wM n x ys _
theorem xO (n : List UInt8) : ∀ N : Nls, l7 N.reverse n 0 = kV N n
 | [] => rfl
 | x :: r => by rw [List.reverse_cons, wM, xO n r]; rfl
theorem IW {P : List Fn} {T : List Tt} {env : List Pm} {N0 : Nat} {op : Int} {n tl : List UInt8} {ty t : Int} {args : List Ex} (hT : nK P T) (hPl : P.length < 2 ^ 39) (hpr : ∀ f ∈ P, f.params.length < 2 ^ 39) (hP : PT P) (hss : Shs args) (hws : bM P env op n tl ty t 0 args = []) (hz : N0 + 2 + 2 * bA args ≤ 5 * 2 ^ 40 ∧ bA args ≤ 2 ^ 38) (ih : ∀ x ∈ args, RPtC x) : RPts P T env N0 op n tl ty t args := by
 have harg : ∀ k x, args[k]? = some x → bD P (aM env op n tl ty k) x (aK P op n ty k t) = [] := fun k x hx => by
  have := o4 args 0 k x hws hx
  rwa [Nat.zero_add] at this
 refine ⟨fun k hk env' M he hM hMl ht => ?_, fun k hk env' M he hM ht => ?_⟩
 ·have hx := List.getElem?_eq_getElem hk
  have hm := List.getElem_mem hk
  rw [fU (N := M) args k _ hx]
  have hsz := i_ hm
  exact ih _ hm hT hPl hpr hP (jK hss hm) ht (by rw [← he]; exact harg k _ hx) hM (by omega)
 ·have hx := List.getElem?_eq_getElem hk
  have hm := List.getElem_mem hk
  rw [fU args k _ hx]
  exact C6 hP (yI hT) _ (jK hss hm) ht (by rw [← he]; exact harg k _ hx) hM
theorem AX (op : Int) (n tl : List UInt8) (ty : Int) (z : Cx) (args : List Ex) (p : Int) (ih : ∀ x ∈ args, RPtC x) : RPtC (.mk op n tl ty z args p) := by
 intro P T N env t hT hPl hpr hP hsh ht hw he hz
 have hw0 := hw
 have hsh0 := hsh
 unfold Sh at hsh
 obtain ⟨hsp, hss⟩ := hsh
 unfold bD at hw
 rw [List.append_eq_nil_iff] at hw
 obtain ⟨hw, hown⟩ := hw
 have hown' : cH op ∨ bT P env op n ty args.length = t := by
  apply Classical.byContradiction
  intro g
  rw [if_neg g] at hown; simp at hown
 have hbad : op = 7 → ¬ cF P n args.length := by
  intro h7 hb
  subst h7
  rcases hown' with h | h
  ·unfold cH at h; omega
  ·unfold bT at h
   rw [if_neg (by omega), if_neg (by omega), if_neg (by omega), if_neg (by omega), if_pos rfl, if_pos hb] at h
   unfold aZ at ht; omega
 have hws : bM P env op n tl ty t 0 args = [] := by
  by_cases h7 : op = 7 ∧ cF P n args.length
  ·exact absurd h7.2 (hbad h7.1)
  ·rw [if_neg h7] at hw; exact hw
 have hz' : N.length + 2 + 2 * bA args ≤ 5 * 2 ^ 40 ∧ bA args ≤ 2 ^ 38 := by unfold size at hz; omega
 have pts := IW (T := T) (N0 := N.length) hT hPl hpr hP hss hws hz' ih
 generalize hR : ptF (aS P T) (.mk op n tl ty z args p) N = R
 have hR0 := hR
 unfold ptF at hR
 unfold dH at hsp
 show Pure Tryz.prog 43 [rsD P T, .agg [I op, Tx n, Tx tl, I ty, CX z.re z.im, .sl (em aQ args), I p], nmD N] (I R)
 refine fi43.pu (by simp) ?_
 simp -implicitDefEqProofs [ac43]
 by_cases c1 : op = 1
 ·subst c1
  simp at hR
  subst hR
  simp -implicitDefEqProofs []
 by_cases c2 : op = 2
 ·subst c2
  simp at hR
  subst hR
  simp -implicitDefEqProofs []
 by_cases c3 : op = 3
 ·subst c3
  simp at hR
  subst hR
  simp -implicitDefEqProofs []
 by_cases c4 : op = 4
 ·subst c4
  simp at hR
  subst hR
  simp -implicitDefEqProofs []
 by_cases c5 : op = 5
 ·subst c5
  simp at hR
  subst hR
  simp -implicitDefEqProofs []
 have own_of : ¬ cH op → bT P env op n ty args.length = t := fun h => hown'.resolve_left h
 by_cases c6 : op = 6
 ·subst c6
  simp at hR
  subst hR
  simp -implicitDefEqProofs []
  generalize hG : kV N n = G
  obtain ⟨M, hM⟩ : ∃ M, N.reverse = M := ⟨_, rfl⟩
  have hMl : M.length = N.length := by rw [← hM]; simp
  have hMg : nmD N = .sl (em fO M) := by rw [← hM]
  rw [hMg]
  have hst : l7 M n 0 = G := by rw [← hG, ← hM]; exact xO n N
  refine lpG cf43 lb43_2 [7, 8] (α := Nat × Int) (fun s _ => [(7, I s.2), (8, I s.1)]) (fun s _ => []) (fun s k => s.1 ≤ M.length ∧ l7 (M.drop s.1) n s.2 = G) (fun s => M.length - s.1) (0, 0) ⟨by simp, hst⟩ (by simp) (by simp) ?_
  rintro ⟨i, d⟩ k ⟨hi, hr⟩
  simp only at hi hr
  by_cases hlt : i < M.length
  ·have w1 := aT (x := (i : Int) + 1) (by omega) (by omega)
   rw [List.drop_eq_getElem_cons hlt] at hr
   unfold l7 at hr
   obtain ⟨x, hx⟩ : ∃ x, M[i] = x := ⟨_, rfl⟩
   rw [hx] at hr
   by_cases hn : x.1 = n
   ·rw [if_pos hn] at hr
    simp -implicitDefEqProofs [lb43_2, ia_X, hlt, hx, hn, w1]
    exact aI (i + 1, x.2) ⟨hlt, hr⟩ (by simp only; omega) (by simp) (by simp)
   ·rw [if_neg hn] at hr
    simp -implicitDefEqProofs [lb43_2, ia_X, hlt, hx, hn, w1]
    exact aI (i + 1, d) ⟨hlt, hr⟩ (by simp only; omega) (by simp) (by simp)
  ·have hil : i = M.length := by omega
   subst hil
   rw [List.drop_length] at hr
   simp only [l7] at hr
   subst hr
   simp -implicitDefEqProofs [lb43_2]
 by_cases c19 : op = 19
 ·subst c19
  have hl : args.length = 3 := by omega
  have w0 : aK P 19 n ty 0 t = 2 := by simp [aK]
  have w1 : aK P 19 n ty 1 t = t := by simp [aK]
  have w2 : aK P 19 n ty 2 t = t := by simp [aK]
  have q0 : 0 < args.length := by omega
  have q1 : 1 < args.length := by omega
  have q2 : 2 < args.length := by omega
  have q0i : (0 : Int) < (args.length : Int) := by omega
  have q1i : (1 : Int) < (args.length : Int) := by omega
  have q2i : (2 : Int) < (args.length : Int) := by omega
  have a0 := pts.c 0 q0 (env' := env) (by simp [aM]) he (by omega) (by rw [w0]; exact .inr (.inl rfl))
  have a1 := pts.c 1 q1 (env' := env) (by simp [aM]) he (by omega) (by rw [w1]; exact ht)
  have a2 := pts.c 2 q2 (env' := env) (by simp [aM]) he (by omega) (by rw [w2]; exact ht)
  obtain ⟨x0, hx0⟩ : ∃ a, args[0] = a := ⟨_, rfl⟩
  obtain ⟨x1, hx1⟩ : ∃ a, args[1] = a := ⟨_, rfl⟩
  obtain ⟨x2, hx2⟩ : ∃ a, args[2] = a := ⟨_, rfl⟩
  rw [hx0] at a0
  rw [hx1] at a1
  rw [hx2] at a2
  simp only [Int.reduceEq, if_true, if_false, or_self] at hR
  simp -implicitDefEqProofs [hx0, q0, q0i]
  refine aG a0 (by simp) ?_
  by_cases hv : ptI (aS P T) args 0 N = 0
  ·rw [if_pos hv] at hR
   subst hR
   simp -implicitDefEqProofs [hv]
  ·rw [if_neg hv] at hR
   subst hR
   simp -implicitDefEqProofs [hv, hx1, hx2, q1, q2, q1i, q2i]
   refine aG a1 (by simp) ?_
   simp -implicitDefEqProofs [hx1, hx2, q1, q2, q1i, q2i]
   refine aG a2 (by simp) ?_
   simp -implicitDefEqProofs
 by_cases c20 : op = 20
 ·subst c20
  have hl : args.length = 3 := by omega
  simp -implicitDefEqProofs []
  refine aG (G_ n tl ty z args p hl ht he (by omega) pts) (by simp) ?_
  rw [hR0]
  simp -implicitDefEqProofs
 by_cases c21 : op = 21
 ·subst c21
  have hl : args.length = 2 ∧ aZ ty := by unfold aZ at *; omega
  have w0 : aK P 21 n ty 0 t = ty := by simp [aK]
  have w1 : aK P 21 n ty 1 t = t := by simp [aK]
  have e0 : aM env 21 n tl ty 0 = env ++ [⟨n, ty, 0⟩] := by simp [aM]
  have e1 : aM env 21 n tl ty 1 = env ++ [⟨n, ty, 0⟩] := by simp [aM]
  have q0 : 0 < args.length := by omega
  have q1 : 1 < args.length := by omega
  have q0i : (0 : Int) < (args.length : Int) := by omega
  have q1i : (1 : Int) < (args.length : Int) := by omega
  have a0 := pts.c 0 q0
  have a1 := pts.c 1 q1
  have p0 : Pin ty 0 := by have := nX hl.2; unfold Pin; omega
  have i0 : ∀ q, Pin ty q → Pin ty (ptI (aS P T) args 0 ((n, q) :: N)) := fun q hq => by
   have := pts.i 0 q0 (M := (n, q) :: N) e0 (he.one hq) (by rw [w0]; exact hl.2)
   rwa [w0] at this
  obtain ⟨x0, hx0⟩ : ∃ a, args[0] = a := ⟨_, rfl⟩
  obtain ⟨x1, hx1⟩ : ∃ a, args[1] = a := ⟨_, rfl⟩
  rw [hx0] at a0
  rw [hx1] at a1
  simp only [Int.reduceEq, if_true, if_false, or_self] at hR
  generalize hG : iX (fun q => ptI (aS P T) args 0 ((n, q) :: N)) 4 0 = G at hR
  simp -implicitDefEqProofs []
  refine lpG cf43 lb43_1 [6, 11, 12] (α := Nat × Int) (fun s _ => [(6, .top), (11, I s.2), (12, .top)]) (fun s _ => []) (fun s k => iX (fun q => ptI (aS P T) args 0 ((n, q) :: N)) s.1 s.2 = G ∧ Pin ty s.2 ∧ tp ty < s.2 + s.1 + 1) (fun s => s.1) (4, 0) ⟨hG, p0, by have := gI ty; simp only; omega⟩ (by simp) (by simp) ?_
  rintro ⟨j, q⟩ k ⟨hr, hp, hj⟩
  simp only at hr hp hj
  have g1 := i0 q hp
  have hc0 := a0 (M := (n, q) :: N) e0 (he.one hp) (by simp) (by rw [w0]; exact hl.2)
  simp -implicitDefEqProofs [lb43_1, hx0, q0, q0i]
  refine aG (oN N n q (by omega)) (by simp) ?_
  simp -implicitDefEqProofs
  refine aG hc0 (by simp) ?_
  by_cases hgq : ptI (aS P T) args 0 ((n, q) :: N) ≤ q
  ·have hRq : G = q := by
    rw [← hr]
    cases j with
    | zero => rfl
    | succ j => unfold iX; rw [if_pos hgq]
   subst hRq
   have hc1 := a1 (M := (n, G) :: N) e1 (he.one hp) (by simp) (by rw [w1]; exact ht)
   rw [hR] at hc1
   simp -implicitDefEqProofs [hgq, hx1, q1, q1i]
   refine aG (oN N n G (by omega)) (by simp) ?_
   simp -implicitDefEqProofs
   refine aG hc1 (by simp) ?_
   simp -implicitDefEqProofs
  ·have hj1 : ∃ j', j = j' + 1 := by
    cases j with
    | zero => unfold Pin at g1 hp; simp only [Int.natCast_zero] at hj; omega
    | succ j => exact ⟨j, rfl⟩
   obtain ⟨j', rfl⟩ := hj1
   unfold iX at hr
   rw [if_neg hgq] at hr
   simp -implicitDefEqProofs [hgq]
   exact aI (j', ptI (aS P T) args 0 ((n, q) :: N)) ⟨hr, g1, by simp only; push_cast at hj; omega⟩ (by simp) (by simp) (by simp)
 by_cases c22 : op = 22
 ·subst c22
  have hl : args.length = 2 ∧ aZ ty := by unfold aZ at *; omega
  have w0 : aK P 22 n ty 0 t = ty := by simp [aK]
  have w1 : aK P 22 n ty 1 t = t := by simp [aK]
  have e1 : aM env 22 n tl ty 1 = env ++ [⟨n, ty, 0⟩] := by simp [aM]
  have q0 : 0 < args.length := by omega
  have q1 : 1 < args.length := by omega
  have q0i : (0 : Int) < (args.length : Int) := by omega
  have q1i : (1 : Int) < (args.length : Int) := by omega
  have a0 := pts.c 0 q0 (env' := env) (by simp [aM]) he (by omega) (by rw [w0]; exact hl.2)
  have a1 := pts.c 1 q1
  have i0 := pts.i 0 q0 (M := N) (env' := env) (by simp [aM]) he (by rw [w0]; exact hl.2)
  rw [w0] at i0
  obtain ⟨x0, hx0⟩ : ∃ a, args[0] = a := ⟨_, rfl⟩
  obtain ⟨x1, hx1⟩ : ∃ a, args[1] = a := ⟨_, rfl⟩
  rw [hx0] at a0
  rw [hx1] at a1
  simp only [Int.reduceEq, if_true, if_false, or_self] at hR
  simp -implicitDefEqProofs [hx0, q0, q0i]
  refine aG a0 (by simp) ?_
  by_cases hv : ptI (aS P T) args 0 N = 0
  ·rw [if_neg (by omega)] at hR
   subst hR
   simp -implicitDefEqProofs [hv]
  ·rw [if_pos (by unfold Pin at i0; omega)] at hR
   have hc1 := a1 (M := (n, ptI (aS P T) args 0 N) :: N) e1 (he.one i0) (by simp) (by rw [w1]; exact ht)
   rw [hR] at hc1
   simp -implicitDefEqProofs [hv, hx1, q1, q1i]
   refine aG (oN N n _ (by omega)) (by simp) ?_
   simp -implicitDefEqProofs
   refine aG hc1 (by simp) ?_
   simp -implicitDefEqProofs
 have c1' : ¬ (op = 1 ∨ op = 2 ∨ op = 3) := by omega
 rw [if_neg c1', if_neg c4, if_neg c5, if_neg c6, if_neg c19, if_neg c20, if_neg c21, if_neg c22] at hR
 simp -implicitDefEqProofs [c1, c2, c3, c4, c5, c6, c19, c20, c21, c22]
 refine cA (j := 14) (k := 1) rfl (.inl rfl) ?_
 refine gP ?_
 have hll : args.length ≤ 2 ^ 39 := by have := rC args; omega
 have hpar : op = 7 → ∀ k, k < args.length → ∃ x, (hdF P n).params[k]? = some x ∧ aZ x.type := by
  intro c7 k hk
  have hb := hbad c7
  unfold cF at hb
  have hlen : (hdF P n).params.length = args.length := by omega
  have hkp : k < (hdF P n).params.length := by omega
  have hf : hdF P n ∈ P := by
   unfold hdF
   have hlt : (aN P 0 n).toNat < P.length := by have := dA P 0 n; omega
   rw [List.getElem?_eq_getElem hlt]; exact List.getElem_mem hlt
  exact ⟨_, List.getElem?_eq_getElem hkp, (hP _ hf).2 _ (List.getElem_mem hkp)⟩
 have hjn : ∀ k, k < args.length → aZ (aK P op n ty k t) ∧ aM env op n tl ty k = env := by
  intro k hk
  have d1 : ¬ (op = 21 ∨ op = 22 ∧ k = 1) := by omega
  have d2 : ¬ (op = 20 ∧ k = 2) := by omega
  refine ⟨?_, by unfold aM; rw [if_neg d1, if_neg d2]⟩
  by_cases c7 : op = 7
  ·obtain ⟨x, hx, htx⟩ := hpar c7 k hk
   have w : aK P op n ty k t = x.type := by subst c7; simp [aK, hx]
   rw [w]; exact htx
  ·have d3 : ¬ (op = 21 ∨ op = 22) := by omega
   unfold aK aZ
   by_cases c14 : op = 14
   ·simp [c14]
   ·by_cases c18 : op = 18
    ·by_cases hk1 : k = 1 <;> simp [c18, hk1]
    ·rw [if_neg c14, if_neg c18, if_neg c7, if_neg c19, if_neg c20, if_neg d3]; simp
 refine lpG cf43 lb43_0 [14, 15, 16] (α := Nat × Nat × List Int) (fun s _ => [(14, .osl 26 s.2.1 0 s.2.2.length), (15, I s.1), (16, .top)]) (fun s _ => [(26, .arr s.2.1 1 (em a9 s.2.2))]) (fun s k => 26 < k ∧ s.1 ≤ args.length ∧ s.2.2 = (ptL (aS P T) args N).take s.1) (fun s => args.length - s.1) (0, 0, []) ⟨by omega, by simp, by simp⟩ (by simp [upd]) (by simp) ?_
 rintro ⟨i, v, l⟩ k ⟨hk1, hi, hl⟩
 simp only at hi hl hk1
 have hplen := mM (V := aS P T) (N := N) args
 have hle : l.length = i := by rw [hl, List.length_take]; omega
 by_cases hlt : i < args.length
 ·have w1 := aT (x := (i : Int) + 1) (by omega) (by omega)
  obtain ⟨ht1, ht2⟩ := hjn i hlt
  have a := pts.c i hlt ht2 he (by omega) ht1
  obtain ⟨x, hx⟩ : ∃ x, args[i] = x := ⟨_, rfl⟩
  rw [hx] at a
  have hnext : l ++ [ptI (aS P T) args i N] = (ptL (aS P T) args N).take (i + 1) := by
   rw [hl, List.take_add_one, lL args i _ (List.getElem?_eq_getElem hlt), fU args i _ (List.getElem?_eq_getElem hlt)]; rfl
  have b1 : (l.length + 1) * 8 ≤ 3 * 2 ^ 46 := by omega
  have e1 : em a9 l ++ [[I (ptI (aS P T) args i N)]] = em a9 (l ++ [ptI (aS P T) args i N]) := eA
  simp -implicitDefEqProofs [lb43_0, hlt, hx, w1]
  refine aG a (by simp) ?_
  simp -implicitDefEqProofs [b1, w1, e1]
  exact aI (i + 1, v + 1, l ++ [ptI (aS P T) args i N]) ⟨by omega, hlt, hnext⟩ (by simp only; omega) (by simp) (by simp)
 ·have hil : i = args.length := by omega
  subst hil
  rw [List.take_of_length_le (by omega)] at hl
  subst hl
  simp -implicitDefEqProofs [lb43_0]
  refine DP (j := 14) (d' := .sl (em a9 (ptL (aS P T) args N))) rfl (by simp [frz, look]) ?_
  have hpi : ∀ k, k < args.length → (ptL (aS P T) args N)[k]? = some (ptI (aS P T) args k N) ∧ Pin (aK P op n ty k t) (ptI (aS P T) args k N) := fun k hk => by
   have hy := List.getElem?_eq_getElem hk
   obtain ⟨ht1, ht2⟩ := hjn k hk
   exact ⟨by rw [lL args k _ hy, fU args k _ hy], pts.i k hk ht2 he ht1⟩
  have hparts := KC (P := P) (T := T) op n tl ty z args p (ptL (aS P T) args N) hT (by omega) (by omega) (fun f hf => by have := hpr f hf; omega) (by
    by_cases c18 : op = 18
    ·exact .inl c18
    by_cases c7 : op = 7
    ·exact .inr (.inl c7)
    refine .inr (.inr ⟨by omega, fun x hx => ?_⟩)
    obtain ⟨k, hk⟩ := List.getElem?_of_mem hx
    have hkl : k < args.length := by rw [← hplen]; exact (List.getElem?_eq_some_iff.1 hk).1
    obtain ⟨h1, h2⟩ := hpi k hkl
    rw [h1] at hk
    cases hk
    have d3 : ¬ (op = 21 ∨ op = 22) := by omega
    have hw1 : tp (aK P op n ty k t) = 1 := by
     unfold aK
     by_cases c14 : op = 14
     ·rw [if_pos c14]; rfl
     ·rw [if_neg c14, if_neg c18, if_neg c7, if_neg c19, if_neg c20, if_neg d3]; rfl
    unfold Pin at h2; omega) (fun c18 => by
    have hl2 : args.length = 2 := by omega
    obtain ⟨h1, h2⟩ := hpi 0 (by omega)
    obtain ⟨h3, h4⟩ := hpi 1 (by omega)
    subst c18
    have w0 : aK P 18 n ty 0 t = 1 := by simp [aK]
    have w1 : aK P 18 n ty 1 t = 3 := by simp [aK]
    rw [w0] at h2
    rw [w1] at h4
    rw [h1, h3]
    exact ⟨by omega, h2, h4⟩) (fun c7 => by
    have hb := hbad c7
    have hbb := hb
    unfold cF at hbb
    have hlen : (hdF P n).params.length = args.length := by omega
    refine ⟨by rw [hplen]; exact hb, u7 _ _ (by rw [hplen, List.length_map, hlen]) fun k u hu => ?_⟩
    obtain ⟨x, hx, rfl⟩ := tS hu
    have hk : k < args.length := by rw [← hlen]; exact (List.getElem?_eq_some_iff.1 hx).1
    obtain ⟨h1, h2⟩ := hpi k hk
    subst c7
    have w : aK P 7 n ty k t = x.type := by simp [aK, hx]
    rw [w] at h2
    rw [h1]; exact h2)
  rw [hR] at hparts
  simp -implicitDefEqProofs [upd]
  refine aG hparts (by simp) ?_
  simp -implicitDefEqProofs
mutual
theorem yW : ∀ e : Ex, RPtC e
 | .mk op n tl ty z args p => AX op n tl ty z args p (wZ args)
theorem wZ : ∀ l : List Ex, ∀ x ∈ l, RPtC x
 | [], x, h => by simp at h
 | y :: ys, x, h => by
  rcases List.mem_cons.1 h with e | h
  ·rw [e]; exact yW y
  ·exact wZ ys x h
end
def nmF (ps : List Pm) (tu : List Int) : Nls := ((ps.map Pm.name).zip tu).reverse
theorem EnvR.pre : ∀ (ps : List Pm) (tu : List Int), inT (ps.map Pm.type) tu = true → EnvR ps (nmF ps tu) := by
 have key : ∀ (ps : List Pm) (tu : List Int) (env : List Pm) (N : Nls), inT (ps.map Pm.type) tu = true → EnvR env N → EnvR (env ++ ps) (nmF ps tu ++ N) := by
  intro ps
  induction ps with
  | nil => intro tu env N _ h; simpa [nmF] using h
  | cons x ps ih =>
   intro tu env N hin h
   cases tu with
   | nil => simp [inT] at hin
   | cons p tu =>
    rw [List.map_cons, nI] at hin
    simp only [Bool.and_eq_true, decide_eq_true_eq] at hin
    have h2 := ih tu (env ++ [x]) ((x.name, p) :: N) hin.2 (EnvR.snoc h hin.1)
    have e1 : env ++ [x] ++ ps = env ++ x :: ps := by simp
    have e2 : nmF ps tu ++ (x.name, p) :: N = nmF (x :: ps) (p :: tu) ++ N := by simp [nmF]
    rw [e1, e2] at h2
    exact h2
 intro ps tu h
 have := key ps tu [] [] h EnvR.nil
 simpa using this
theorem IR (ps : List Pm) (tu : List Int) (i : Nat) (h : i < ps.length) (h2 : i < tu.length) : (((ps.map Pm.name).zip tu).take (i + 1)).reverse = (ps[i].name, tu[i]) :: (((ps.map Pm.name).zip tu).take i).reverse := by
 have hz : i < ((ps.map Pm.name).zip tu).length := by simp; omega
 rw [List.take_add_one, List.getElem?_eq_getElem hz]
 simp
theorem body_c {mem : Mem} {nx hid : Nat} {P : List Fn} {T : List Tt} {K : KD} (i : Int) (f : Fn) (tu : List Int) (hs : Sg mem P hid T) (hP : PT P) (h0 : 0 ≤ i) (hlt : i.toNat < P.length) (hf : P[i.toNat] = f) (hsh : Sh f.body) (hw : bD P f.params f.body f.type = []) (hz : size f.body ≤ 2 ^ 39) (hpl : f.params.length < 2 ^ 40) (hin : inT (f.params.map Pm.type) tu = true)
  (hk : ∀ n', nx ≤ n' → K (I (ptF (aS P T) f.body (nmF f.params tu))) mem n') :
  bH Tryz.prog 50 [sgD P hid T, I i, .sl (em a9 tu)] mem nx K := by
 have hti : i < (P.length : Int) := by omega
 have hln : tu.length = f.params.length := by simpa using oL hin
 have ht : aZ f.type := (hP f (hf ▸ List.getElem_mem hlt)).1
 refine fi50.ct (by simp) fun hfr => ?_
 simp -implicitDefEqProofs [ac50, h0, hti, hlt, hf]
 refine lpG cf50 lb50_0 [7, 8, 9, 20] (α := Nat × Nls) (fun s _ => [(7, cG s.2), (20, I s.1)]) (fun s _ => mem) (fun s k => nx ≤ k ∧ s.1 ≤ tu.length ∧ s.2 = (((f.params.map Pm.name).zip tu).take s.1).reverse) (fun s => tu.length - s.1) (0, []) ⟨by omega, by simp, by simp⟩ (by simp [cG]) (aL _) ?_
 rintro ⟨j, N⟩ k ⟨hk1, hj, hN⟩
 simp only at hj hN hk1
 by_cases hjl : j < tu.length
 ·have w1 := aT (x := (j : Int) + 1) (by omega) (by omega)
  have hjp : j < f.params.length := by omega
  have hjpi : (j : Int) < (f.params.length : Int) := by omega
  have hjli : (j : Int) < (tu.length : Int) := by omega
  have hnext := IR f.params tu j hjp hjl
  rw [← hN] at hnext
  obtain ⟨x, hx⟩ : ∃ x, f.params[j] = x := ⟨_, rfl⟩
  obtain ⟨p, hp⟩ : ∃ x, tu[j] = x := ⟨_, rfl⟩
  rw [hx, hp] at hnext
  cases N with
  | nil =>
   simp -implicitDefEqProofs [lb50_0, hjp, hjpi, hjl, hjli, hx, hp, w1, cG]
   exact aI (j + 1, [(x.name, p)]) ⟨by omega, hjl, hnext.symm⟩ (by simp only; omega) (by simp [cG]) (aO (aL _) (hfr _ (by omega)))
  | cons y r =>
   simp -implicitDefEqProofs [lb50_0, hjp, hjpi, hjl, hjli, hx, hp, w1, cG]
   exact aI (j + 1, (x.name, p) :: y :: r) ⟨by omega, hjl, hnext.symm⟩ (by simp only; omega) (by simp [cG]) (aO (aL _) (hfr _ (by omega)))
 ·have hjt : j = f.params.length := by omega
  subst hjt
  have hN2 : N = nmF f.params tu := by rw [hN, List.take_of_length_le (by simp; omega)]; rfl
  subst hN2
  simp -implicitDefEqProofs [lb50_0, h0, hti, hlt, hf]
  have a := vX f.body
  refine aD (a hs hP hsh ht hw (EnvR.pre _ _ hin) hz (fun n1 hn1 => ?_))
  simp -implicitDefEqProofs
  exact ⟨_, aE _, hk _ (by omega)⟩
set_option maxHeartbeats 4000000
theorem LW (t : List UInt8) (ht : t.length ≤ 32768) (hm : (dB t).2 < 0) {n : Nat} (hN : n ≤ 2 ^ 40) {L : List Fn} {q : Rd} (hp : eF n [] (rd0 t 32768 32768 32768 32768) = some (L, q)) (hw : q.why = 0) (hlt : q.at' < (dB t).1.length) : uB t L 0 0 := by
 have hk := z_ (t := t) (lt := 32768) (lF := 32768) (lA := 32768) (lN := 32768) (by omega) hm (by decide)
 have hc := zJ t ht hm hN hp
 rw [if_pos hw] at hc
 obtain ⟨g1, g2, k, g3, g4, g5⟩ := v7 _ _ _ L q hp hw
 simp only [List.nil_append] at g3
 subst g3
 refine ⟨hc, fun _ => ⟨(dB t).1, 0, q.at', hk.ms, hk.len, ?_, hlt, g4, g5 rfl⟩, fun h => absurd rfl h⟩
 exact gN _ t 0 [] (by omega) (fun i j _ h => by simp at h) (fun i h => by simp at h) hm
theorem wt_u8 {n : Nat} {ds : List D} (h : Wt Tryz.prog n 5 ds) : ∃ b : UInt8, ds = c_ b ∧ True := by
 cases n with
 | zero => exact h.elim
 | succ n =>
  simp only [Wt, Tryz.underlying5] at h
  obtain ⟨z, rfl, hz⟩ := h
  simp [Lit.wf, IntKind.min, IntKind.max, IntKind.signed, IntKind.bits] at hz
  refine ⟨UInt8.ofNat z.toNat, ?_, trivial⟩
  unfold c_
  have : (((UInt8.ofNat z.toNat).toNat : Nat) : Int) = z := by
   rw [UInt8.toNat_ofNat']
   omega
  rw [this]
theorem HU {n : Nat} {ds : List D} (h : Wt Tryz.prog n 22 ds) : ∃ l : List UInt8, ds = [.sl (em c_ l)] ∧ l.length < 2 ^ 48 := by
 cases n with
 | zero => exact h.elim
 | succ n =>
  simp only [Wt, Tryz.underlying22] at h
  obtain ⟨es, rfl, hl, he⟩ := h
  obtain ⟨l, rfl, _⟩ := oS (enc := c_) (p := fun _ => True) fun c hc => wt_u8 (he c hc)
  refine ⟨l, rfl, ?_⟩
  have hb : Tryz.prog.bytesOf 5 = 1 := by kernel_rfl
  rw [hb, u0] at hl
  unfold reachBytes at hl
  omega
theorem wB {x : D} (h : Arg Tryz.prog 22 x) : ∃ l : List UInt8, x = .sl (em c_ l) ∧ l.length < 2 ^ 48 := by
 obtain ⟨n, ds, h, k⟩ := h
 simp only [Tryz.underlying22] at k
 obtain ⟨l, rfl, h1⟩ := HU h
 simp only [List.cons.injEq, and_true] at k
 exact ⟨l, k.symm, h1⟩
mutual
theorem yP (P : List Fn) : ∀ (e : Ex) (env : List Pm) (t u : Int), Sh e → bD P env e t = [] → bD P env e u = [] → t = u
 | .mk op n tl ty z args p, env, t, u, hs, h1, h2 => by
  unfold bD at h1 h2
  unfold Sh at hs
  rw [List.append_eq_nil_iff] at h1 h2
  by_cases hc : cH op
  ·have h7 : ¬ op = 7 := by unfold cH at hc; omega
   rw [if_neg (fun g => h7 g.1)] at h1 h2
   have hl : 2 ≤ args.length := by
    have := hs.1
    unfold dH at this
    unfold cH at hc
    omega
   exact HJ P args env op n tl ty t u hc hl hs.2 h1.1 h2.1
  ·have a1 := h1.2
   have a2 := h2.2
   by_cases e1 : bT P env op n ty args.length = t
   ·by_cases e2 : bT P env op n ty args.length = u
    ·rw [← e1, ← e2]
    ·rw [if_neg (fun g => g.elim hc e2)] at a2; simp at a2
   ·rw [if_neg (fun g => g.elim hc e1)] at a1; simp at a1
theorem HJ (P : List Fn) : ∀ (l : List Ex) (env : List Pm) (op : Int) (n tl : List UInt8) (ty t u : Int), cH op → 2 ≤ l.length → Shs l → bM P env op n tl ty t 0 l = [] → bM P env op n tl ty u 0 l = [] → t = u
 | [], env, op, n, tl, ty, t, u, hc, hl, hs, h1, h2 => by simp at hl
 | [a], env, op, n, tl, ty, t, u, hc, hl, hs, h1, h2 => by simp at hl
 | a :: b :: r, env, op, n, tl, ty, t, u, hc, hl, hs, h1, h2 => by
  simp only [bM, List.append_eq_nil_iff, Nat.zero_add] at h1 h2
  unfold Shs at hs
  have hs2 := hs.2
  unfold Shs at hs2
  have hw : ∀ t, aK P op n ty 1 t = t := fun t => by
   unfold cH at hc
   unfold aK
   rcases hc with rfl | rfl | rfl | rfl <;> simp
  rw [hw] at h1 h2
  exact yP P b _ t u hs2.1 h1.2.1 h2.2.1
end
theorem F2 {P : List Fn} {env : List Pm} {e : Ex} {u : Int} (hs : Sh e) (hu : aZ u) : ofF P env e = (u, 0) ↔ bD P env e u = [] := by
 have h := fun t => yP P e env t u hs
 unfold ofF ofL ofL ofL ofL
 constructor
 ·intro g
  split at g
  ·rename_i k; simp only [Prod.mk.injEq, and_true] at g; rw [← g]; exact k
  ·split at g
   ·rename_i k; simp only [Prod.mk.injEq, and_true] at g; rw [← g]; exact k
   ·split at g
    ·rename_i k; simp only [Prod.mk.injEq, and_true] at g; rw [← g]; exact k
    ·simp at g
 ·intro g
  by_cases k1 : bD P env e 1 = []
  ·rw [if_pos k1, h 1 k1 g]
  ·rw [if_neg k1]
   by_cases k2 : bD P env e 2 = []
   ·rw [if_pos k2, h 2 k2 g]
   ·rw [if_neg k2]
    by_cases k3 : bD P env e 3 = []
    ·rw [if_pos k3, h 3 k3 g]
    ·rcases hu with rfl | rfl | rfl <;> contradiction
theorem BO (P : List Fn) (env : List Pm) (e : Ex) : ((ofF P env e).2 = 0 ∧ aZ (ofF P env e).1) ∨ ofF P env e = (0, 34) := by
 unfold ofF ofL ofL ofL ofL
 split
 ·exact .inl ⟨rfl, .inl rfl⟩
 ·split
  ·exact .inl ⟨rfl, .inr (.inl rfl)⟩
  ·split
   ·exact .inl ⟨rfl, .inr (.inr rfl)⟩
   ·exact .inr rfl
theorem yH (P : List Fn) : ∀ (l : List Fn) (s : Ft), (tcF P l s).1 = 0 ↔ s.1 = 0 ∧ ∀ f ∈ l, bD P f.params f.body f.type = []
 | [], s => by simp [tcF]
 | f :: fs, s => by
  unfold tcF
  rw [yH P fs]
  have hk : ∀ (l : List Int) (s : Ft), (l.foldl dP s).1 = 0 ↔ s.1 = 0 ∧ l = [] := by
   intro l
   induction l with
   | nil => intro s; simp
   | cons x xs ih =>
    intro s
    rw [List.foldl_cons, ih]
    have : (dP s x).1 ≠ 0 := by
     unfold dP cE
     split
     ·show (34 : Int) ≠ 0
      decide
     ·omega
    simp [this]
  rw [hk]
  simp only [List.mem_cons, forall_eq_or_imp]
  exact ⟨fun ⟨⟨a, b⟩, c⟩ => ⟨a, b, c⟩, fun ⟨a, b, c⟩ => ⟨⟨a, b⟩, c⟩⟩
section
variable {P : List Fn} {env : List Pm} {x y z : Ex}
end
set_option maxRecDepth 1000000
set_option maxHeartbeats 0
noncomputable def cf35 : Cfg := ⟨Tryz.prog, 86, [0, 1, 2, 4, 5, 6, 7, 8, 9, 10, 11, 30, 31, 32, 68, 69, 70], []⟩
noncomputable def lb35_0 : AC :=
 .seq (.ifr [JO 71 (.bin .lss 3 (.g 70) (.g 69))] (.t 71) .skip (.exit 2)) (.seq (.block 3 (.seq (.reg [JA 72 70, JO 73 (.ia 3 (.g 68) (.g 70)), JE 74 3 73, JP 11 (.al [JU, JV, JV]), JB 10 72, JQ (.st 3 (.g 11) (.t 74))]) (.ifr [JG 75 0 9, JD 76 1 75, JA 77 10, JL 78 1 76 77, JD 79 1 78, JG 80 1 11, JD 81 1 80, JO 82 (.bin .neq 25 (.t 79) (.t 81))] (.t 82) (.seq (.reg [JP 4 (.mv (.c (.pointer none))), JI 5 3]) .ret) .skip))) (.reg [JO 83 (.bin .add 3 (.g 70) (JT 1)), JB 70 83]))
noncomputable def lb35_1 : AC :=
 .seq (.ifr [JO 33 (.bin .lss 3 (.g 32) (.g 31))] (.t 33) .skip (.exit 0)) (.seq (.block 1 (.seq (.reg [JA 34 32, JO 35 (.ia 11 (.g 30) (.g 32)), JE 36 11 35, JP 8 (.al [JU, JW, JV, JV, JU, JU, JV, .complex .f64 0 0, JW, JV, JV]), JB 7 34, JQ (.st 11 (.g 8) (.t 36))]) (.seq (.reg [JA 37 6, JM 38 37, JH 39 1 38, JD 40 1 39, JG 41 0 8, JD 42 1 41, JA 43 7, JQ (.mup none (.t 40) (.t 42) (.t 43))]) (.seq (.reg [JA 44 1, JA 45 7, JL 46 4 44 45, JE 47 4 46, JP 9 (.al [JW, JV, JV, JW]), JQ (.st 4 (.g 9) (.t 47))]) (.seq (.ifr [JF 48 4 9, JO 49 (.pc (.f 66) [.t 48]), JO 50 (.bin .neq 52 (.t 49) (JT 0)), JC 51 50, JR 52 51 (.fa 1 (.g 9)), JR 53 51 (.ld false 1 (.t 52)), JR 54 51 (.fa 2 (.g 8)), JR 55 51 (.ld false 1 (.t 54)), JR 56 51 (.bin .neq 25 (.t 53) (.t 55)), JO 57 (.pick (.t 51) JX (.t 56)), JC 58 57, JR 59 58 (.fa 0 (.g 9)), JR 60 58 (.ld false 1 (.t 59)), JR 61 58 (.len false (.t 60)), JR 62 58 (.fa 1 (.g 8)), JR 63 58 (.ld false 1 (.t 62)), JR 64 58 (.len false (.t 63)), JR 65 58 (.bin .neq 3 (.t 61) (.t 64)), JO 66 (.pick (.t 58) JX (.t 65))] (.t 66) (.seq (.reg [JP 4 (.mv (.c (.pointer none))), JI 5 3]) .ret) .skip) (.seq (.reg [JG 67 1 8, JP 68 (.ld false 1 (.t 67)), JP 69 (.len false (.g 68)), JI 70 0]) (.block 2 (.loop lb35_0)))))))) (.reg [JO 84 (.bin .add 3 (.g 32) (JT 1)), JB 32 84]))
noncomputable def ac35 : AC :=
 (.seq (.reg [JN 2 0, JP 4 (.mv (.c (.pointer none))), JI 5 0]) (.seq (.ifr [JF 12 1 2, JO 13 (.pc (.f 65) [.t 12]), JO 14 (.fld false 1 0 (.t 13)), JO 15 (.bin .neq 52 (.t 14) (JT 0)), JC 16 15, JR 17 16 (.mv (.g 1)), JR 18 16 (.len false (.t 17)), JR 19 16 (.fa 0 (.g 2)), JR 20 16 (.ld false 1 (.t 19)), JR 21 16 (.len false (.t 20)), JR 22 16 (.bin .neq 3 (.t 18) (.t 21)), JO 23 (.pick (.t 16) JX (.t 22))] (.t 23) (.seq (.reg [JP 4 (.mv (.c (.pointer none))), JI 5 3]) .ret) .skip) (.seq (.reg [JF 24 1 2, .mk (.t 25) none .mkm, JA 26 1, JO 27 (.bld [JW, .map none, JW] [(0, 1, .t 24), (1, 1, .t 25), (2, 1, .t 26)]), JO 28 (.bxi (.t 27)), JB 6 28]) (.seq (.seq (.reg [JG 29 0 2, JP 30 (.ld false 1 (.t 29)), JP 31 (.len false (.g 30)), JI 32 0]) (.block 0 (.loop lb35_1))) (.seq (.reg [JA 85 6, JB 4 85, JI 5 0]) .ret)))))
theorem fi35 : FI Tryz.prog 35 cf35 ac35 [.t 4, .t 5] [0, 1, 2, 4, 5, 6, 7, 8, 9, 10, 11, 30, 31, 32, 68, 69, 70] 86 := FI_of (c := Tryz.f35.body.getD .skip) Tryz.func35 (by kernel_rfl) (by rfl) (by rfl) (by kernel_rfl) (by kernel_rfl) rfl rfl rfl
@[simp] theorem cfP35 : cf35.P = Tryz.prog := (rfl)
noncomputable def cf11 : Cfg := ⟨Tryz.prog, 74, [0, 1, 2, 3, 4, 7, 8, 9, 10, 11, 12, 13, 15, 17, 18, 28, 29, 30], [22, 54, 73]⟩
noncomputable def lb11_0 : AC :=
 .seq (.ifr [JO 31 (.bin .lss 3 (.g 30) (.g 29))] (.t 31) .skip (.exit 0)) (.seq (.block 1 (.seq (.reg [JO 32 (.ia 3 (.g 28) (.g 30)), JE 33 3 32, JP 15 (.al [JU, JV, JV]), JQ (.st 3 (.g 15) (.t 33))]) (.seq (.ifr [JG 34 1 15, JD 35 1 34, JG 36 2 15, JD 37 1 36, JO 38 (.pc (.f 36) [.t 35, .t 37]), JO 39 (.bin .neq 52 (.t 38) (JT 0))] (.t 39) (.seq (.reg [JI 8 0, JI 9 3]) .ret) .skip) (.seq (.reg [JG 40 0 15, JD 41 1 40, JG 42 2 15, JD 43 1 42, JA 44 12, JO 45 (.bld [JU, JV, .pointer none] [(0, 1, .t 41), (1, 1, .t 43), (2, 1, .t 44)]), JO 46 (.bxi (.t 45)), JB 12 46]) (.reg [JA 47 13, JG 48 0 15, JD 49 1 48, JG 50 1 15, JD 51 1 50, JO 52 (.bld [JU, JV, JV] [(0, 1, .t 49), (1, 1, .t 51)]), JO 53 (.bsl 3 1 [JU, JV, JV] [(0, 3, .t 52)]), JO 54 (.app 3 32 [JU, JV, JV] (.t 47) (.t 53)), JB 13 54]))))) (.reg [JO 55 (.bin .add 3 (.g 30) (JT 1)), JB 30 55]))
noncomputable def ac11 : AC :=
 (.seq (.reg [JN 4 0, JN 7 3, JI 8 0, JI 9 0]) (.seq (.reg [JF 20 1 4, JA 21 1, JO 22 (.cl (.f 35) [.t 20, .t 21]), JC 19 22, JK 23 0 19, JK 24 1 19, JB 10 23, JB 11 24]) (.seq (.ifr [JA 25 11, JO 26 (.bin .neq 52 (.t 25) (JT 0))] (.t 26) (.seq (.reg [JA 27 11, JI 8 0, JB 9 27]) .ret) .skip) (.seq (.reg [JP 12 (.mv (.c (.pointer none)))]) (.seq (.reg [JP 13 (.mv (.c (.slice none 0 0)))]) (.seq (.seq (.reg [JP 28 (.mv (.g 2)), JP 29 (.len false (.g 28)), JI 30 0]) (.block 0 (.loop lb11_0))) (.seq (.seq (.reg [JF 57 1 4, JA 58 13, JF 59 7 7, JO 60 (.pc (.f 37) [.t 57, .t 58, .t 59]), JC 56 60, JK 61 0 56, JK 62 1 56, JC 16 61, JB 17 62]) (.ifr [JA 63 17, JO 64 (.bin .neq 52 (.t 63) (JT 0))] (.t 64) (.seq (.reg [JI 8 0, JI 9 3]) .ret) .skip)) (.seq (.seq (.reg [JF 65 7 7, JO 66 (.pc (.f 38) [.t 65]), JB 18 66]) (.ifr [JA 67 18, JO 68 (.bin .neq 52 (.t 67) (JT 0))] (.t 68) (.seq (.reg [JA 69 18, JI 8 0, JB 9 69]) .ret) .skip)) (.seq (.reg [JA 70 10, JF 71 7 7, JA 72 12, JO 73 (.cl (.f 39) [.t 70, .t 71, .t 72]), JB 8 73, JI 9 0]) .ret)))))))))
theorem fi11 : FI Tryz.prog 11 cf11 ac11 [.t 8, .t 9] [0, 1, 2, 3, 4, 7, 8, 9, 10, 11, 12, 13, 15, 17, 18, 28, 29, 30] 74 := FI_of (c := Tryz.f11.body.getD .skip) Tryz.func11 (by kernel_rfl) (by rfl) (by rfl) (by kernel_rfl) (by kernel_rfl) rfl rfl rfl
@[simp] theorem cfP11 : cf11.P = Tryz.prog := (rfl)
noncomputable def cf19 : Cfg := ⟨Tryz.prog, 60, [0, 1, 2, 3, 4, 8, 9, 10, 11, 13, 14], [18, 59]⟩
noncomputable def ac19 : AC :=
 (.seq (.reg [JN 4 0, JI 8 0, JI 9 0]) (.seq (.reg [JF 16 1 4, JA 17 1, JO 18 (.cl (.f 35) [.t 16, .t 17]), JC 15 18, JK 19 0 15, JK 20 1 15, JB 10 19, JB 11 20]) (.seq (.ifr [JA 21 11, JO 22 (.bin .neq 52 (.t 21) (JT 0))] (.t 22) (.seq (.reg [JA 23 11, JI 8 0, JB 9 23]) .ret) .skip) (.seq (.ifr [JA 24 2, JO 25 (.bin .lss 3 (.t 24) (JT 0)), JC 26 25, JR 27 26 (.mv (.g 2)), JR 28 26 (.fa 0 (.g 4)), JR 29 26 (.ld false 1 (.t 28)), JR 30 26 (.len false (.t 29)), JR 31 26 (.bin .geq 3 (.t 27) (.t 30)), JO 32 (.pick (.t 26) JX (.t 31))] (.t 32) (.seq (.reg [JI 8 0, JI 9 2]) .ret) .skip) (.seq (.seq (.reg [JA 34 1, JA 35 2, JL 36 4 34 35, JH 37 0 36, JD 38 1 37, JA 39 3, JO 40 (.pc (.f 49) [.t 38, .t 39]), JC 33 40, JK 41 0 33, JK 42 1 33, JC 12 41, JB 13 42]) (.ifr [JA 43 13, JO 44 (.bin .neq 52 (.t 43) (JT 0))] (.t 44) (.seq (.reg [JA 45 13, JI 8 0, JB 9 45]) .ret) .skip)) (.seq (.seq (.reg [JG 46 0 4, JD 47 1 46, JA 48 2, JL 49 11 47 48, JH 50 3 49, JE 51 7 50, JO 52 (.pc (.f 38) [.t 51]), JB 14 52]) (.ifr [JA 53 14, JO 54 (.bin .neq 52 (.t 53) (JT 0))] (.t 54) (.seq (.reg [JA 55 14, JI 8 0, JB 9 55]) .ret) .skip)) (.seq (.reg [JA 56 10, JA 57 2, JA 58 3, JO 59 (.cl (.f 50) [.t 56, .t 57, .t 58]), JB 8 59, JI 9 0]) .ret)))))))
theorem fi19 : FI Tryz.prog 19 cf19 ac19 [.t 8, .t 9] [0, 1, 2, 3, 4, 8, 9, 10, 11, 13, 14] 60 := FI_of (c := Tryz.f19.body.getD .skip) Tryz.func19 (by kernel_rfl) (by rfl) (by rfl) (by kernel_rfl) (by kernel_rfl) rfl rfl rfl
@[simp] theorem cfP19 : cf19.P = Tryz.prog := (rfl)
noncomputable def cf21 : Cfg := ⟨Tryz.prog, 88, [0, 1, 2, 3, 6, 7, 8, 9, 10, 11, 13, 14, 63, 64], [19, 81, 1000000]⟩
@[simp] theorem cfP21 : cf21.P = Tryz.prog := (rfl)
set_option maxRecDepth 100000
set_option maxHeartbeats 8000000
theorem w_ {P : List Fn} : ∀ (l : List Fn) (k : Nat), fE P l k = [] → ∀ i, (h : i < l.length) → ¬ aN P 0 l[i].name < ((k + i : Nat) : Int)
 | [], k, _, i, h => by simp at h
 | f :: fs, k, hn, i, h => by
  unfold fE at hn
  rw [List.append_eq_nil_iff] at hn
  cases i with
  | zero =>
   intro g
   have h1 := hn.1
   rw [if_pos (by simpa using g)] at h1
   simp at h1
  | succ i =>
   have := w_ fs (k + 1) hn.2 i (by simpa using h)
   rw [show k + (i + 1) = k + 1 + i by omega]
   simpa using this
theorem y7 : ∀ (P : List Fn) (k : Nat) (i : Nat) (h : i < P.length), 0 ≤ aN P k P[i].name ∧ aN P k P[i].name ≤ ((k + i : Nat) : Int)
 | [], k, i, h => by simp at h
 | f :: fs, k, i, h => by
  unfold aN
  split
  ·omega
  ·cases i with
   | zero => rename_i g; exact absurd rfl g
   | succ i =>
    have := y7 fs (k + 1) i (by simpa using h)
    rw [show k + (i + 1) = k + 1 + i by omega]
    simpa using this
theorem uQ : ∀ (P : List Fn) (k : Nat) (n : List UInt8) (i : Nat), aN P k n = ((k + i : Nat) : Int) → ∃ h : i < P.length, P[i].name = n
 | [], k, n, i, h => by unfold aN at h; omega
 | f :: fs, k, n, i, h => by
  unfold aN at h
  split at h
  ·rename_i g
   have : i = 0 := by omega
   subst this
   exact ⟨by simp, g⟩
  ·cases i with
   | zero =>
    have := dA fs (k + 1) n
    omega
   | succ i =>
    obtain ⟨h1, h2⟩ := uQ fs (k + 1) n i (by rw [h]; congr 1; omega)
    exact ⟨by simpa using h1, by simpa using h2⟩
theorem CC {P : List Fn} (h : dC P) (h0 : (ckF P).1 = 0) : ∀ i, (hi : i < P.length) → aN P 0 P[i].name = i := by
 obtain ⟨ms, a, b, _, hl, hr, hb, hF, _⟩ := h
 unfold ckF at h0
 rw [uM hr P a b 0 _ hF hb] at h0
 have h1 := uG h0 (fun x hx => (List.mem_append.1 hx).elim (fun hx => (pN P a b 0 hF hb x hx).1) (qY P a b hF x))
 rw [List.append_eq_nil_iff] at h1
 intro i hi
 have h2 := w_ P 0 h1.1 i hi
 have h3 := y7 P 0 i hi
 rw [Nat.zero_add] at h2 h3
 omega
theorem o7 {P : List Fn} (h0 : (fK P).1 = 0) : (ckF P).1 = 0 ∧ ∀ f ∈ P, bD P f.params f.body f.type = [] := by
 unfold fK at h0
 split at h0
 ·rename_i g; exact absurd h0 g
 ·exact (yH P P _).1 h0
def fitT (f : Fn) (x : Tt) : Prop := fT x.ps x.t x.n x.l ∧ x.t = f.type ∧ x.ps = f.params.map Pm.type
def SeeOk (P : List Fn) (T : List Tt) : Prop := (fK P).1 = 0 ∧ T.length = P.length ∧ ∀ i, i < P.length → fitT (P[i]?.getD default) (T[i]?.getD default)
def TW (T : List Tt) : Prop := ∀ x ∈ T, eK x.l ∧ x.ps.length < 2 ^ 44
theorem SeeOk.tabs {P : List Fn} {T : List Tt} (h : SeeOk P T) (hw : TW T) : nK P T := by
 obtain ⟨h1, h2, h3⟩ := h
 refine ⟨h2, fun x hx => ?_, fun i hi => ?_⟩
 ·obtain ⟨i, hi, rfl⟩ := List.mem_iff_getElem.1 hx
  have := h3 i (by omega)
  rw [List.getElem?_eq_getElem hi] at this
  exact ⟨this.1, hw _ hx⟩
 ·have := h3 i hi
  rw [List.getElem?_eq_getElem hi] at this
  exact ⟨this.2.2, this.2.1⟩
theorem imm_Tt (l : List Tt) : D.immss (em b8 l) = true := eZ fun f => by simp [b8]
attribute [simp] imm_Tt
theorem see_c {mem : Mem} {nx : Nat} {P : List Fn} {T : List Tt} {K : KD} (hk : dC P) (hT : T.length < 2 ^ 44) (hw : TW T)
  (hno : ¬ SeeOk P T → ∀ n', nx ≤ n' → K (.tup [.pl (.pointer none), I 3]) mem n')
  (hyes : SeeOk P T → ∀ hid m n', nx ≤ hid → hid < n' → Sg ((hid, .map (bN m)) :: mem) P hid T → K (.tup [sgD P hid T, I 0]) ((hid, .map (bN m)) :: mem) n') :
  bH Tryz.prog 35 [.agg [.sl (em aV P)], .sl (em b8 T)] mem nx K := by
 obtain ⟨hPT, hPl, hsz⟩ := gR hk
 have htc := MG (yB hk).1 hPl hsz
 refine fi35.ct (by simp) fun hfr => ?_
 simp -implicitDefEqProofs [ac35]
 refine aG htc (by simp) ?_
 by_cases h0 : (fK P).1 = 0
 ·by_cases hl : T.length = P.length
  ·have hli : (T.length : Int) = (P.length : Int) := by omega
   obtain ⟨hc0, hwl⟩ := o7 h0
   have hhd := CC hk hc0
   simp -implicitDefEqProofs [h0, hli]
   obtain ⟨hid, hq⟩ : ∃ q, nx + 3 + 12 + 1 = q := ⟨_, rfl⟩
   have hq0 : look mem hid = none := hfr hid (by omega)
   rw [hq]
   refine lpG cf35 lb35_1 [4, 5, 7, 8, 9, 10, 11, 32, 68, 69, 70] (α := Nat × Sm) (fun s _ => [(32, I s.1)]) (fun s _ => (hid, .map (bN s.2)) :: mem) (fun s k => hid < k ∧ s.1 ≤ P.length ∧ (∀ j, j < s.1 → fitT (P[j]?.getD default) (T[j]?.getD default)) ∧ ∀ n (j : Nat), aN P 0 n = j → j < s.1 → cV s.2 n = j) (fun s => P.length - s.1) (0, []) ⟨by omega, by omega, fun j h => absurd h (by omega), fun n j _ h => absurd h (by omega)⟩ (by simp) (aL _) ?_
   rintro ⟨i, m⟩ k ⟨hk1, hi, hfit, hget⟩
   simp only at hi hfit hget hk1
   by_cases hlt : i < P.length
   ·have hlti : (i : Int) < (P.length : Int) := by omega
    have w1 := aT (x := (i : Int) + 1) (by omega) (by omega)
    have hT2 : i < T.length := by omega
    have hT2i : (i : Int) < (T.length : Int) := by omega
    obtain ⟨f, hf⟩ : ∃ x, P[i] = x := ⟨_, rfl⟩
    obtain ⟨x, hx⟩ : ∃ x, T[i] = x := ⟨_, rfl⟩
    have hfm : f ∈ P := by rw [← hf]; exact List.getElem_mem hlt
    have hxm : x ∈ T := by rw [← hx]; exact List.getElem_mem hT2
    have hfd : P[i]?.getD default = f := by rw [List.getElem?_eq_getElem hlt, hf]; rfl
    have hxd : T[i]?.getD default = x := by rw [List.getElem?_eq_getElem hT2, hx]; rfl
    obtain ⟨hxw, hxp⟩ := hw x hxm
    have hhi := hhd i hlt
    rw [hf] at hhi
    have z1 : (k + 1 + 3 = hid) = False := eq_false (by omega)
    have z2 : (hid = k + 1 + 3) = False := eq_false (by omega)
    simp -implicitDefEqProofs [lb35_1, hlt, hlti, hf, hx, hT2, hT2i, z1, z2, x3]
    have hv1 : k + 1 + 3 < k + 1 + 6 + 8 + 4 := by omega
    have hv2 : k + 1 + 6 + 8 + 4 < k + 1 + 6 + 8 + 6 + 19 := by omega
    have hv3 : hid < k + 1 + 3 := by omega
    refine aG (D6 x.ps x.t x.n x.l hxw hxp) (by simp) ?_
    obtain ⟨b1, hb1⟩ : ∃ q, k + 1 + 3 = q := ⟨_, rfl⟩
    obtain ⟨b2, hb2⟩ : ∃ q, k + 1 + 6 + 8 + 4 = q := ⟨_, rfl⟩
    rw [hb1] at hv1 hv3
    rw [hb2] at hv1 hv2
    rw [hb1, hb2]
    have hm1 : look mem b1 = none := hfr b1 (by omega)
    have hm2 : look mem b2 = none := hfr b2 (by omega)
    have e1 : (b1 = b2) = False := eq_false (by omega)
    have e2 : (b2 = b1) = False := eq_false (by omega)
    by_cases ht0 : fT x.ps x.t x.n x.l
    ·have ht1 : oH x.ps x.t x.n x.l = 0 := if_pos ht0
     by_cases hty : x.t = f.type
     ·rw [hty] at ht1
      by_cases hpl : x.ps.length = f.params.length
      ·have hpli : (x.ps.length : Int) = (f.params.length : Int) := by omega
       simp -implicitDefEqProofs [ht1, hb1, hb2, e1, e2, hty, hpli]
       obtain ⟨nk, hnk⟩ : ∃ q, k + 1 + 6 + 8 + 6 + 19 = q := ⟨_, rfl⟩
       refine lpG cf35 lb35_0 [4, 5, 10, 11, 70] (α := Nat) (fun s _ => [(70, I s)]) (fun s _ => (b2, .box [.sl (em a9 x.ps), I f.type, I x.n, .sl (em eY x.l)]) :: (b1, .box [Tx f.name, .sl (em a7 f.params), I f.type, I f.body.op, Tx f.body.name, Tx f.body.tail, I f.body.type, CX f.body.num.re f.body.num.im, .sl (em aQ f.body.args), I f.body.at', I f.at']) :: (hid, .map (bN (fA m f.name i))) :: mem) (fun s k => b2 < k ∧ s ≤ f.params.length ∧ ∀ j (h1 : j < x.ps.length) (h2 : j < f.params.length), j < s → x.ps[j] = (f.params[j]).type) (fun s => f.params.length - s) 0 ⟨by omega, by omega, fun j _ _ h => absurd h (by omega)⟩ (by simp) (aL _) ?_
       rintro c k2 ⟨hk2, hc, heq⟩
       by_cases hcl : c < f.params.length
       ·have hcli : (c : Int) < (f.params.length : Int) := by omega
        have hcx : c < x.ps.length := by omega
        have hcxi : (c : Int) < (x.ps.length : Int) := by omega
        have w2 := aT (x := (c : Int) + 1) (by omega) (by have := (hsz f hfm).2.1; omega)
        obtain ⟨y, hy⟩ : ∃ y, f.params[c] = y := ⟨_, rfl⟩
        obtain ⟨t, ht⟩ : ∃ y, x.ps[c] = y := ⟨_, rfl⟩
        have z3 : (k2 + 1 + 3 = b2) = False := eq_false (by omega)
        have z4 : (b2 = k2 + 1 + 3) = False := eq_false (by omega)
        have z5 : (k2 + 1 + 3 = b1) = False := eq_false (by omega)
        have z6 : (b1 = k2 + 1 + 3) = False := eq_false (by omega)
        by_cases hyt : t = y.type
        ·simp -implicitDefEqProofs [lb35_0, hcl, hcli, hcx, hcxi, hy, ht, w2, z3, z4, z5, z6, e1, e2, hyt]
         refine aI (c + 1) ⟨by omega, hcl, fun j h1 h2 hj => ?_⟩ (by omega) (by simp) (aO (aL _) (by simp only [a8]; rw [if_neg (by omega), if_neg (by omega), if_neg (by omega)]; exact hfr _ (by omega)))
         by_cases e : j = c
         ·subst e; rw [hy, ht]; exact hyt
         ·exact heq j h1 h2 (by omega)
        ·have hn : ¬ SeeOk P T := fun h => by
          have h2 := h.2.2 i hlt
          rw [hfd, hxd] at h2
          refine hyt ?_
          rw [← ht, ← hy]
          have h3 : x.ps[c]? = (f.params.map Pm.type)[c]? := by rw [h2.2.2]
          rw [List.getElem?_eq_getElem hcx, List.getElem?_map, List.getElem?_eq_getElem hcl] at h3
          simpa using h3
         simp -implicitDefEqProofs [lb35_0, hcl, hcli, hcx, hcxi, hy, ht, w2, z3, z4, z5, z6, e1, e2, hyt]
         exact ⟨mem, aF (aF (aF (aF (aE _) hq0) hm1) hm2) (hfr _ (by omega)), hno hn _ (by omega)⟩
       ·have hcp : c = f.params.length := by omega
        subst hcp
        simp -implicitDefEqProofs [lb35_0, w1]
        refine aI (i + 1, fA m f.name i) ⟨by omega, hlt, fun j hj => ?_, fun n j hj hji => ?_⟩ (by simp only; omega) (by simp) (aO (aO (aL _) (by simp only [a8]; rw [if_neg (by omega)]; exact hm1)) (by simp only [a8]; rw [if_neg (by omega)]; exact hm2))
        ·by_cases e : j = i
         ·subst e
          rw [hfd, hxd]
          refine ⟨ht0, hty, List.ext_getElem (by simpa using hpl) fun j h1 h2 => ?_⟩
          rw [List.getElem_map]
          exact heq j h1 (by simpa using h2) (by simpa using h2)
         ·exact hfit j (by simp only at hj; omega)
        ·simp only at hji ⊢
         rw [kS]
         by_cases e : f.name = n
         ·rw [if_pos e]
          rw [e] at hhi
          omega
         ·rw [if_neg e]
          by_cases e2 : j = i
          ·subst e2
           obtain ⟨h1, h2⟩ := uQ P 0 n j (by rw [hj]; simp)
           exact absurd (by rw [← hf]; exact h2) e
          ·exact hget n j hj (by omega)
      ·have hpli : ¬ (x.ps.length : Int) = (f.params.length : Int) := by omega
       have hn : ¬ SeeOk P T := fun h => by
        have h2 := h.2.2 i hlt
        rw [hfd, hxd] at h2
        exact hpl (by rw [h2.2.2]; simp)
       simp -implicitDefEqProofs [ht1, hb1, hb2, e1, e2, hty, hpli]
       exact ⟨mem, aF (aF (aF (aE _) hq0) hm1) hm2, hno hn _ (by omega)⟩
     ·have hn : ¬ SeeOk P T := fun h => by
       have h2 := h.2.2 i hlt
       rw [hfd, hxd] at h2
       exact hty h2.2.1
      simp -implicitDefEqProofs [ht1, hb1, hb2, e1, e2, hty]
      exact ⟨mem, aF (aF (aF (aE _) hq0) hm1) hm2, hno hn _ (by omega)⟩
    ·have ht1 : oH x.ps x.t x.n x.l = 3 := if_neg ht0
     have hn : ¬ SeeOk P T := fun h => by
      have h2 := h.2.2 i hlt
      rw [hfd, hxd] at h2
      exact ht0 h2.1
     simp -implicitDefEqProofs [ht1, hb1, hb2]
     exact ⟨mem, aF (aF (aF (aE _) hq0) hm1) hm2, hno hn _ (by omega)⟩
   ·have hip : i = P.length := by omega
    subst hip
    simp -implicitDefEqProofs [lb35_1]
    have hok : SeeOk P T := ⟨h0, hl, hfit⟩
    exact ⟨_, aE _, hyes hok hid m _ (by omega) (by omega) ⟨⟨m, by rw [a8, if_pos rfl], fun n hn => by
     have hlt := dA P 0 n
     obtain ⟨j, hj⟩ : ∃ j : Nat, aN P 0 n = j := ⟨(aN P 0 n).toNat, by omega⟩
     rw [hj]
     exact hget n j hj (by omega)⟩, hok.tabs hw⟩⟩
  ·have hli : ¬ (T.length : Int) = (P.length : Int) := by omega
   have hn : ¬ SeeOk P T := fun h => hl h.2.1
   simp -implicitDefEqProofs [h0, hli]
   exact ⟨_, aE _, hno hn _ (by omega)⟩
 ·have hn : ¬ SeeOk P T := fun h => h0 h.1
  simp -implicitDefEqProofs [h0]
  exact ⟨_, aE _, hno hn _ (by omega)⟩
theorem snocQ (l : List Tt) (x : Tt) : em mW l ++ [[.sl (em a9 (cl x.n x.l))]] = em mW (l ++ [x]) := eA (enc := mW) (x := x)
open Classical in
noncomputable def sC (P : List Fn) (T : List Tt) : D := if SeeOk P T then .tup [rsD P T, B true] else .tup [.pl (.pointer none), B false]
theorem rsee_c {P : List Fn} {T : List Tt} (hk : dC P) (hT : T.length < 2 ^ 44) (hw : TW T) : Pure Tryz.prog 40 [.agg [.sl (em aV P)], .sl (em b8 T)] (sC P T) := by
 obtain ⟨hPT, hPl, hsz⟩ := gR hk
 have htc := G5 (yB hk).2 hPl hsz
 rw [← G3 hk] at htc
 have hno : ¬ SeeOk P T → sC P T = .tup [.pl (.pointer none), B false] := fun h => if_neg h
 have hyes : SeeOk P T → sC P T = .tup [rsD P T, B true] := fun h => if_pos h
 generalize sC P T = R at *
 refine fi40.pu (by simp) ?_
 simp -implicitDefEqProofs [ac40]
 refine aG htc (by simp) ?_
 by_cases h0 : (fK P).1 = 0
 ·by_cases hl : T.length = P.length
  ·have hli : (T.length : Int) = (P.length : Int) := by omega
   simp -implicitDefEqProofs [h0, hli]
   refine kZ (id := 17) (off := 1) (k := 1) (by rw [a8, if_pos rfl]) rfl (.inl rfl) ?_
   refine lpG cf40 lb40_1 [4, 5, 7, 8, 9, 10, 11, 12] (α := Nat × Nat) (fun s _ => [(7, I s.1)]) (fun s _ => [(20, .arr s.2 1 (em mW (T.take s.1))), (17, .box [.sl (em aV P), .osl 20 s.2 0 s.1])]) (fun s k => 20 < k ∧ s.1 ≤ P.length ∧ (∀ j, j < s.1 → fitT (P[j]?.getD default) (T[j]?.getD default))) (fun s => P.length - s.1) (0, 0) ⟨by omega, by omega, fun j h => absurd h (by omega)⟩ (by simp) (by simp [upd]) ?_
   rintro ⟨i, v⟩ k ⟨hk1, hi, hfit⟩
   simp only at hi hfit hk1
   by_cases hlt : i < P.length
   ·have hlti : (i : Int) < (P.length : Int) := by omega
    have w1 := aT (x := (i : Int) + 1) (by omega) (by omega)
    have hT2 : i < T.length := by omega
    have hT2i : (i : Int) < (T.length : Int) := by omega
    obtain ⟨f, hf⟩ : ∃ x, P[i] = x := ⟨_, rfl⟩
    obtain ⟨x, hx⟩ : ∃ x, T[i] = x := ⟨_, rfl⟩
    have hfm : f ∈ P := by rw [← hf]; exact List.getElem_mem hlt
    have hxm : x ∈ T := by rw [← hx]; exact List.getElem_mem hT2
    have hfd : P[i]?.getD default = f := by rw [List.getElem?_eq_getElem hlt, hf]; rfl
    have hxd : T[i]?.getD default = x := by rw [List.getElem?_eq_getElem hT2, hx]; rfl
    obtain ⟨hxw, hxp⟩ := hw x hxm
    simp -implicitDefEqProofs [lb40_1, hlt, hlti, hf, hx, hT2, hT2i, x3, hl]
    have hv1 : k + 4 + 5 < k + 4 + 7 + 4 := by omega
    have hv2 : k + 4 + 7 + 4 < k + 4 + 7 + 6 + 7 := by omega
    have hv3 : 20 < k + 4 + 5 := by omega
    by_cases ht0 : fT x.ps x.t x.n x.l
    ·refine aG (GN hxw hxp ht0) (by simp) ?_
     obtain ⟨b1, hb1⟩ : ∃ q, k + 4 + 5 = q := ⟨_, rfl⟩
     obtain ⟨b2, hb2⟩ : ∃ q, k + 4 + 7 + 4 = q := ⟨_, rfl⟩
     rw [hb1] at hv1 hv3
     rw [hb2] at hv1 hv2
     rw [hb1, hb2]
     have e1 : (b1 = b2) = False := eq_false (by omega)
     have e2 : (b2 = b1) = False := eq_false (by omega)
     have e3 : (b1 = 17) = False := eq_false (by omega)
     have e4 : (b2 = 17) = False := eq_false (by omega)
     have e5 : (b1 = 20) = False := eq_false (by omega)
     have e6 : (b2 = 20) = False := eq_false (by omega)
     have e7 : (17 = b1) = False := eq_false (by omega)
     have e8 : (17 = b2) = False := eq_false (by omega)
     have e9 : (20 = b1) = False := eq_false (by omega)
     have e10 : (20 = b2) = False := eq_false (by omega)
     by_cases hty : x.t = f.type
     ·by_cases hpl : x.ps.length = f.params.length
      ·have hpli : (x.ps.length : Int) = (f.params.length : Int) := by omega
       simp -implicitDefEqProofs [hb1, hb2, e1, e2, e3, e4, e5, e6, e7, e8, e9, e10, hty, hpli]
       refine lpG cf40 lb40_0 [4, 5, 12] (α := Nat) (fun s _ => [(12, I s)]) (fun s _ => [(b2, .box [.sl (em a9 x.ps), I f.type, I x.n, .sl (em eY x.l)]), (b1, .box [Tx f.name, .sl (em a7 f.params), I f.type, I f.body.op, Tx f.body.name, Tx f.body.tail, I f.body.type, CX f.body.num.re f.body.num.im, .sl (em aQ f.body.args), I f.body.at', I f.at']), (20, .arr v 1 (em mW (T.take i))), (17, .box [.sl (em aV P), .osl 20 v 0 i])]) (fun s k => b2 < k ∧ s ≤ f.params.length ∧ ∀ j (h1 : j < x.ps.length) (h2 : j < f.params.length), j < s → x.ps[j] = (f.params[j]).type) (fun s => f.params.length - s) 0 ⟨by omega, by omega, fun j _ _ h => absurd h (by omega)⟩ (by simp) (aL _) ?_
       rintro c k2 ⟨hk2, hc, heq⟩
       by_cases hcl : c < f.params.length
       ·have hcli : (c : Int) < (f.params.length : Int) := by omega
        have hcx : c < x.ps.length := by omega
        have hcxi : (c : Int) < (x.ps.length : Int) := by omega
        have w2 := aT (x := (c : Int) + 1) (by omega) (by have := (hsz f hfm).2.1; omega)
        obtain ⟨y, hy⟩ : ∃ y, f.params[c] = y := ⟨_, rfl⟩
        obtain ⟨t, ht⟩ : ∃ y, x.ps[c] = y := ⟨_, rfl⟩
        by_cases hyt : t = y.type
        ·simp -implicitDefEqProofs [lb40_0, hcl, hcli, hcx, hcxi, hy, ht, w2, e1, e2, hyt]
         refine aI (c + 1) ⟨by omega, hcl, fun j h1 h2 hj => ?_⟩ (by omega) (by simp) (aL _)
         by_cases e : j = c
         ·subst e; rw [hy, ht]; exact hyt
         ·exact heq j h1 h2 (by omega)
        ·have hn : ¬ SeeOk P T := fun h => by
          have h2 := h.2.2 i hlt
          rw [hfd, hxd] at h2
          refine hyt ?_
          rw [← ht, ← hy]
          have h3 : x.ps[c]? = (f.params.map Pm.type)[c]? := by rw [h2.2.2]
          rw [List.getElem?_eq_getElem hcx, List.getElem?_map, List.getElem?_eq_getElem hcl] at h3
          simpa using h3
         rw [hno hn]
         simp -implicitDefEqProofs [lb40_0, hcl, hcli, hcx, hcxi, hy, ht, w2, e1, e2, hyt]
       ·have hcp : c = f.params.length := by omega
        subst hcp
        have hsn : em mW (T.take i) ++ [[.sl (em a9 (cl x.n x.l))]] = em mW (T.take (i + 1)) := by
         rw [snocQ, List.take_add_one, List.getElem?_eq_getElem hT2, hx]; rfl
        have hng : ¬ f.params.length < x.ps.length := by omega
        have bl : (i + 1) * 24 ≤ 3 * 2 ^ 46 := by omega
        have hi1 : min i T.length = i := by omega
        simp -implicitDefEqProofs [lb40_0, w1, e1, e2, e3, e4, e5, e6, e7, e8, e9, e10, bl, hi1, hsn, hng]
        rw [List.take_take, Nat.min_self, hsn]
        refine aI (i + 1, v + 1) ⟨by omega, hlt, fun j hj => ?_⟩ (by simp only; omega) (by simp) (aO (aO (aL _) (by simp [look, e3, e4, e5, e6, e7, e8, e9, e10])) (by simp [look, e1, e2, e3, e4, e5, e6, e7, e8, e9, e10]))
        by_cases e : j = i
        ·subst e
         rw [hfd, hxd]
         refine ⟨ht0, hty, List.ext_getElem (by simpa using hpl) fun j h1 h2 => ?_⟩
         rw [List.getElem_map]
         exact heq j h1 (by simpa using h2) (by simpa using h2)
        ·exact hfit j (by simp only at hj; omega)
      ·have hpli : ¬ (x.ps.length : Int) = (f.params.length : Int) := by omega
       have hn : ¬ SeeOk P T := fun h => by
        have h2 := h.2.2 i hlt
        rw [hfd, hxd] at h2
        exact hpl (by rw [h2.2.2]; simp)
       rw [hno hn]
       simp -implicitDefEqProofs [hb1, hb2, e1, e2, hty, hpli]
     ·have hn : ¬ SeeOk P T := fun h => by
       have h2 := h.2.2 i hlt
       rw [hfd, hxd] at h2
       exact hty h2.2.1
      rw [hno hn]
      simp -implicitDefEqProofs [hb1, hb2, e1, e2, hty]
    ·have hn : ¬ SeeOk P T := fun h => by
      have h2 := h.2.2 i hlt
      rw [hfd, hxd] at h2
      exact ht0 h2.1
     rw [hno hn]
     refine aG (IS hxw hxp ht0) (by simp) ?_
     simp -implicitDefEqProofs
   ·have hip : i = P.length := by omega
    subst hip
    have hok : SeeOk P T := ⟨h0, hl, hfit⟩
    rw [hyes hok]
    simp -implicitDefEqProofs [lb40_1, hl, frz, eG, look]
    simp [List.take_take, ← hl]
  ·have hli : ¬ (T.length : Int) = (P.length : Int) := by omega
   have hn : ¬ SeeOk P T := fun h => hl h.2.1
   rw [hno hn]
   simp -implicitDefEqProofs [h0, hli]
 ·have hn : ¬ SeeOk P T := fun h => h0 h.1
  rw [hno hn]
  simp -implicitDefEqProofs [h0]
set_option maxRecDepth 1000000
set_option maxHeartbeats 0
noncomputable def cf71 : Cfg := ⟨Tryz.prog, 27, [0, 1, 2, 3, 5, 7, 8, 9, 19, 20], []⟩
noncomputable def lb71_0 : AC :=
 .seq (.ifr [JO 10 (.bin .lss 3 (.g 9) (.g 8))] (.t 10) .skip (.exit 0)) (.seq (.block 1 (.seq (.reg [JO 11 (.ia 7 (.g 7) (.g 9)), JE 12 7 11, JP 5 (.al [JV, JU, JU, JV, .complex .f64 0 0, JW, JV]), JQ (.st 7 (.g 5) (.t 12))]) (.reg [JA 13 3, JF 14 7 5, JO 15 (.pc (.f 71) [.t 14]), JO 16 (.bi .max [.t 13, .t 15]), JB 3 16]))) (.reg [JO 17 (.bin .add 3 (.g 9) (JT 1)), JB 9 17]))
noncomputable def ac71 : AC :=
 (.seq (.reg [JN 1 0, JI 2 0]) (.seq (.reg [JI 3 0]) (.seq (.seq (.reg [JG 6 5 1, JP 7 (.ld false 1 (.t 6)), JP 8 (.len false (.g 7)), JI 9 0]) (.block 0 (.loop lb71_0))) (.seq (.seq (.reg [JG 18 0 1, JP 19 (.ld false 1 (.t 18))]) (.block 2 (.seq (.ifr [JO 21 (.bin .eql 40 (.g 19) (JT 21)), JB 20 21] (.g 20) .skip (.ifr [JO 22 (.bin .eql 40 (.g 19) (JT 22)), JB 20 22] (.g 20) .skip (.reg [JO 23 (.bin .eql 40 (.g 19) (JT 20)), JB 20 23]))) (.cond (.g 20) (.reg [JA 24 3, JO 25 (.bin .add 3 (.t 24) (JT 1)), JB 3 25]) .skip)))) (.seq (.reg [JA 26 3, JB 2 26]) .ret)))))
theorem fi71 : FI Tryz.prog 71 cf71 ac71 [.t 2] [0, 1, 2, 3, 5, 7, 8, 9, 19, 20] 27 := FI_of (c := Tryz.f71.body.getD .skip) Tryz.func71 (by kernel_rfl) (by rfl) (by rfl) (by kernel_rfl) (by kernel_rfl) rfl rfl rfl
@[simp] theorem cfP71 : cf71.P = Tryz.prog := (rfl)
noncomputable def cf14 : Cfg := ⟨Tryz.prog, 38, [0, 1, 2, 3, 4, 5], []⟩
noncomputable def lb14_0 : AC :=
 .seq (.ifr [JA 6 4, JG 7 5 1, JD 8 1 7, JO 9 (.len false (.t 8)), JO 10 (.bin .lss 3 (.t 6) (.t 9))] (.t 10) .skip (.exit 0)) (.seq (.block 1 (.seq (.reg [JG 13 5 1, JD 14 1 13, JA 15 4, JL 16 7 14 15, JE 17 7 16, JO 18 (.pc (.f 14) [.t 17]), JB 5 18]) (.reg [JA 19 3, JA 20 5, JO 21 (.bi .max [.t 19, .t 20]), JB 3 21]))) (.reg [JA 11 4, JO 12 (.bin .add 3 (.t 11) (JT 1)), JB 4 12]))
noncomputable def ac14 : AC :=
 (.seq (.reg [JN 1 0, JI 2 0]) (.seq (.reg [JI 3 0]) (.seq (.seq (.reg [JI 4 0]) (.block 0 (.loop lb14_0))) (.seq (.ifr [JG 22 0 1, JD 23 1 22, JO 24 (.bin .eql 40 (.t 23) (JT 21)), JC 25 24, JR 26 25 (.fa 0 (.g 1)), JR 27 25 (.ld false 1 (.t 26)), JR 28 25 (.bin .eql 40 (.t 27) (JT 22)), JO 29 (.pick (.t 25) JX (.t 28)), JC 30 29, JR 31 30 (.fa 0 (.g 1)), JR 32 30 (.ld false 1 (.t 31)), JR 33 30 (.bin .eql 40 (.t 32) (JT 20)), JO 34 (.pick (.t 30) JX (.t 33))] (.t 34) (.reg [JA 35 3, JO 36 (.bin .add 3 (.t 35) (JT 1)), JB 3 36]) .skip) (.seq (.reg [JA 37 3, JB 2 37]) .ret)))))
theorem fi14 : FI Tryz.prog 14 cf14 ac14 [.t 2] [0, 1, 2, 3, 4, 5] 38 := FI_of (c := Tryz.f14.body.getD .skip) Tryz.func14 (by kernel_rfl) (by rfl) (by rfl) (by kernel_rfl) (by kernel_rfl) rfl rfl rfl
@[simp] theorem cfP14 : cf14.P = Tryz.prog := (rfl)
noncomputable def cf38 : Cfg := ⟨Tryz.prog, 6, [0, 1, 2], []⟩
noncomputable def ac38 : AC :=
 (.seq (.reg [JN 1 0, JI 2 0]) (.seq (.ifr [JF 3 7 1, JO 4 (.pc (.f 71) [.t 3]), JO 5 (.bin .gtr 3 (.t 4) (JT 6))] (.t 5) (.seq (.reg [JI 2 23]) .ret) .skip) (.seq (.reg [JI 2 0]) .ret)))
theorem fi38 : FI Tryz.prog 38 cf38 ac38 [.t 2] [0, 1, 2] 6 := FI_of (c := Tryz.f38.body.getD .skip) Tryz.func38 (by kernel_rfl) (by rfl) (by rfl) (by kernel_rfl) (by kernel_rfl) rfl rfl rfl
@[simp] theorem cfP38 : cf38.P = Tryz.prog := (rfl)
set_option maxRecDepth 100000
set_option maxHeartbeats 4000000
mutual
def bX : Ex → Nat
 | .mk op _ _ _ _ args _ => eI args + (if op = 21 ∨ op = 22 ∨ op = 20 then 1 else 0)
def eI : List Ex → Nat
 | [] => 0
 | x :: xs => max (bX x) (eI xs)
end
mutual
theorem D9 : ∀ e : Ex, bX e ≤ size e
 | .mk op n tl ty z args p => by
  have := pX args
  unfold bX size
  split <;> omega
theorem pX : ∀ l : List Ex, eI l ≤ bA l
 | [] => by simp [eI]
 | x :: xs => by
  have h1 := D9 x
  have h2 := pX xs
  unfold eI bA; omega
end
theorem wH : ∀ {l : List Ex} {x : Ex}, x ∈ l → size x ≤ bA l ∧ bX x ≤ eI l
 | y :: ys, x, h => by
  unfold bA eI
  rcases List.mem_cons.1 h with rfl | h
  ·omega
  ·have := wH h; omega
theorem GC : ∀ (l : List Ex), l.length ≤ bA l
 | [] => by simp [bA]
 | y :: ys => by
  have := GC ys
  have h : 1 ≤ size y := by cases y; unfold size; omega
  unfold bA; simp only [List.length_cons]; omega
def x7 (e : Ex) : Prop := size e ≤ 2 ^ 40 → Pure Tryz.prog 71 [.agg [I e.op, Tx e.name, Tx e.tail, I e.type, CX e.num.re e.num.im, .sl (em aQ e.args), I e.at']] (I (bX e)) ∧ Pure Tryz.prog 14 [.agg [I e.op, Tx e.name, Tx e.tail, I e.type, CX e.num.re e.num.im, .sl (em aQ e.args), I e.at']] (I (bX e))
theorem GA (op : Int) (n tl : List UInt8) (ty : Int) (z : Cx) (args : List Ex) (p : Int) (ih : ∀ x ∈ args, x7 x) : x7 (.mk op n tl ty z args p) := by
 intro hz
 have hzs : bA args ≤ 2 ^ 40 := by unfold size at hz; omega
 have hlen := GC args
 have hb := pX args
 have ih1 : ∀ x ∈ args, Pure Tryz.prog 71 [.agg [I x.op, Tx x.name, Tx x.tail, I x.type, CX x.num.re x.num.im, .sl (em aQ x.args), I x.at']] (I (bX x)) ∧ Pure Tryz.prog 14 [.agg [I x.op, Tx x.name, Tx x.tail, I x.type, CX x.num.re x.num.im, .sl (em aQ x.args), I x.at']] (I (bX x)) := fun x hx => ih x hx (Nat.le_trans (wH hx).1 hzs)
 have hop : op = 21 ∨ op = 22 ∨ op = 20 ∨ (op ≠ 21 ∧ op ≠ 22 ∧ op ≠ 20) := by omega
 have w1 : IntKind.i64.wrap ((eI args : Int) + 1) = eI args + 1 := aT (by omega) (by omega)
 show Pure Tryz.prog 71 [.agg [I op, Tx n, Tx tl, I ty, CX z.re z.im, .sl (em aQ args), I p]] (I (bX (.mk op n tl ty z args p))) ∧ Pure Tryz.prog 14 [.agg [I op, Tx n, Tx tl, I ty, CX z.re z.im, .sl (em aQ args), I p]] (I (bX (.mk op n tl ty z args p)))
 generalize hR : eI args = R at *
 refine ⟨?_, ?_⟩
 ·refine fi71.pu (by simp) ?_
  simp -implicitDefEqProofs [ac71]
  refine lpG cf71 lb71_0 [3, 5, 9] (α := Nat × Nat) (fun s _ => [(3, I s.2), (5, .top), (9, I s.1)]) (fun s _ => []) (fun s k => s.1 ≤ args.length ∧ max s.2 (eI (args.drop s.1)) = R) (fun s => args.length - s.1) (0, 0) ⟨by simp, by simp [hR]⟩ (by simp) (by simp) ?_
  rintro ⟨i, m⟩ k ⟨hi, hr⟩
  simp only at hi hr
  by_cases hlt : i < args.length
  ·have wi := aT (x := (i : Int) + 1) (by omega) (by omega)
   rw [List.drop_eq_getElem_cons hlt] at hr
   unfold eI at hr
   have hx := ih1 args[i] (List.getElem_mem hlt)
   obtain ⟨x, hxe⟩ : ∃ x, args[i] = x := ⟨_, rfl⟩
   rw [hxe] at hx hr
   simp -implicitDefEqProofs [lb71_0, hlt, hxe]
   refine aG hx.1 (by simp) ?_
   have hmx : ((max m (bX x) : Nat) : Int) = max (m : Int) (bX x : Int) := by omega
   simp -implicitDefEqProofs [wi]
   exact aI (i + 1, max m (bX x)) ⟨hlt, by simp only; omega⟩ (by simp only; omega) (by simp [hmx]) (by simp)
  ·have hil : i = args.length := by omega
   subst hil
   rw [List.drop_length] at hr
   simp only [eI, Nat.max_zero] at hr
   subst hr
   unfold bX
   rw [hR]
   rcases hop with rfl | rfl | rfl | ⟨o1, o2, o3⟩
   ·simp -implicitDefEqProofs [lb71_0, w1]
   ·simp -implicitDefEqProofs [lb71_0, w1]
   ·simp -implicitDefEqProofs [lb71_0, w1]
   ·simp -implicitDefEqProofs [lb71_0, o1, o2, o3]
 ·refine fi14.pu (by simp) ?_
  simp -implicitDefEqProofs [ac14]
  refine lpG cf14 lb14_0 [3, 4, 5] (α := Nat × Nat) (fun s _ => [(3, I s.2), (4, I s.1), (5, .top)]) (fun s _ => []) (fun s k => s.1 ≤ args.length ∧ max s.2 (eI (args.drop s.1)) = R) (fun s => args.length - s.1) (0, 0) ⟨by simp, by simp [hR]⟩ (by simp) (by simp) ?_
  rintro ⟨i, m⟩ k ⟨hi, hr⟩
  simp only at hi hr
  by_cases hlt : i < args.length
  ·have wi := aT (x := (i : Int) + 1) (by omega) (by omega)
   rw [List.drop_eq_getElem_cons hlt] at hr
   unfold eI at hr
   have hx := ih1 args[i] (List.getElem_mem hlt)
   obtain ⟨x, hxe⟩ : ∃ x, args[i] = x := ⟨_, rfl⟩
   rw [hxe] at hx hr
   simp -implicitDefEqProofs [lb14_0, hlt, hxe]
   refine aG hx.2 (by simp) ?_
   have hmx : ((max m (bX x) : Nat) : Int) = max (m : Int) (bX x : Int) := by omega
   simp -implicitDefEqProofs [wi]
   exact aI (i + 1, max m (bX x)) ⟨hlt, by simp only; omega⟩ (by simp only; omega) (by simp [hmx]) (by simp)
  ·have hil : i = args.length := by omega
   subst hil
   rw [List.drop_length] at hr
   simp only [eI, Nat.max_zero] at hr
   subst hr
   unfold bX
   rw [hR]
   rcases hop with rfl | rfl | rfl | ⟨o1, o2, o3⟩
   ·simp -implicitDefEqProofs [lb14_0, w1]
   ·simp -implicitDefEqProofs [lb14_0, w1]
   ·simp -implicitDefEqProofs [lb14_0, w1]
   ·simp -implicitDefEqProofs [lb14_0, o1, o2, o3]
mutual
theorem zW : ∀ e : Ex, x7 e
 | .mk op n tl ty z args p => GA op n tl ty z args p (BG args)
theorem BG : ∀ l : List Ex, ∀ x ∈ l, x7 x
 | [], x, h => by simp at h
 | y :: ys, x, h => by
  rcases List.mem_cons.1 h with e | h
  ·rw [e]; exact zW y
  ·exact BG ys x h
end
theorem wJ (e : Ex) (hz : size e ≤ 2 ^ 40) : Pure Tryz.prog 38 [.agg [I e.op, Tx e.name, Tx e.tail, I e.type, CX e.num.re e.num.im, .sl (em aQ e.args), I e.at']] (I (if 6 < bX e then 23 else 0)) := by
 refine fi38.pu (by simp) ?_
 simp -implicitDefEqProofs [ac38]
 refine aG (zW e hz).1 (by simp) ?_
 by_cases h : 6 < bX e
 ·have h2 : (6 : Int) < (bX e : Int) := by omega
  simp -implicitDefEqProofs [h, h2]
 ·have h2 : ¬ (6 : Int) < (bX e : Int) := by omega
  simp -implicitDefEqProofs [h, h2]
end Go.Fx.YtlhdpfaohphbaaaGreat

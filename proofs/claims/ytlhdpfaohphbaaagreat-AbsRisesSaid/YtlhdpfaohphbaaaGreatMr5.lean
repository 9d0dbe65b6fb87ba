/- Joined texts of this claim. No condition. -/
import Derived.Test.YtlhdpfaohphbaaaGreatMr4
set_option linter.all false
set_option maxRecDepth 1000000
set_option maxHeartbeats 0
namespace Go.Fx.YtlhdpfaohphbaaaGreat
open Go Go.Fx Go.Proofs
noncomputable def cf83 : Cfg := ⟨Tryz.prog, 14, [0, 2, 3, 4, 5], []⟩
noncomputable def ac83 : AC :=
 (.seq (.reg [JI 2 0, JI 3 0]) (.seq (.reg [JA 7 0, JO 8 (.pc (.f 67) [.t 7]), JC 6 8, JK 9 0 6, JK 10 1 6, JB 4 9, JB 5 10]) (.seq (.reg [JA 11 4, JO 12 (.bin .add 3 (.t 11) (JT 1)), JA 13 5, JB 2 12, JB 3 13]) .ret)))
theorem fi83 : FI Tryz.prog 83 cf83 ac83 [.t 2, .t 3] [0, 2, 3, 4, 5] 14 := FI_of (c := Tryz.f83.body.getD .skip) Tryz.func83 (by kernel_rfl) (by rfl) (by rfl) (by kernel_rfl) (by kernel_rfl) rfl rfl rfl
@[simp] theorem cfP83 : cf83.P = Tryz.prog := (rfl)
noncomputable def cf82 : Cfg := ⟨Tryz.prog, 31, [0, 2, 3, 4, 6, 7, 8, 9, 10, 11], []⟩
noncomputable def lb82_0 : AC :=
 .seq (.ifr [JO 12 (.bin .lss 3 (.g 11) (.g 10))] (.t 12) .skip (.exit 0)) (.seq (.block 1 (.seq (.reg [JO 13 (.ia 1 (.g 9) (.g 11)), JD 14 1 13, JB 6 14]) (.seq (.reg [JA 16 6, JO 17 (.pc (.f 83) [.t 16]), JC 15 17, JK 18 0 15, JK 19 1 15, JB 7 18, JB 8 19]) (.seq (.ifr [JA 20 8, JO 21 (.bin .neq 52 (.t 20) (JT 0))] (.t 21) (.seq (.reg [JA 22 8, JI 2 0, JB 3 22]) .ret) .skip) (.reg [JA 23 4, JA 24 7, JO 25 (.bin .mul 3 (.t 23) (.t 24)), JO 26 (.bi .min [.t 25, .c (.int .i64 4097)]), JB 4 26]))))) (.reg [JO 27 (.bin .add 3 (.g 11) (JT 1)), JB 11 27]))
noncomputable def ac82 : AC :=
 (.seq (.reg [JI 2 0, JI 3 0]) (.seq (.reg [JI 4 1]) (.seq (.seq (.reg [JP 9 (.mv (.g 0)), JP 10 (.len false (.g 9)), JI 11 0]) (.block 0 (.loop lb82_0))) (.seq (.ifr [JA 28 4, JO 29 (.bin .gtr 3 (.t 28) (JT 4096))] (.t 29) (.seq (.reg [JI 2 0, JI 3 22]) .ret) .skip) (.seq (.reg [JA 30 4, JB 2 30, JI 3 0]) .ret)))))
theorem fi82 : FI Tryz.prog 82 cf82 ac82 [.t 2, .t 3] [0, 2, 3, 4, 6, 7, 8, 9, 10, 11] 31 := FI_of (c := Tryz.f82.body.getD .skip) Tryz.func82 (by kernel_rfl) (by rfl) (by rfl) (by kernel_rfl) (by kernel_rfl) rfl rfl rfl
@[simp] theorem cfP82 : cf82.P = Tryz.prog := (rfl)
noncomputable def cf49 : Cfg := ⟨Tryz.prog, 58, [0, 1, 4, 5, 7, 8, 9, 10, 11, 12, 27, 28, 29], []⟩
noncomputable def lb49_0 : AC :=
 .seq (.ifr [JO 30 (.bin .lss 3 (.g 29) (.g 28))] (.t 30) .skip (.exit 0)) (.seq (.block 1 (.seq (.reg [JA 31 29, JO 32 (.ia 1 (.g 27) (.g 29)), JD 33 1 32, JB 9 31, JB 10 33]) (.seq (.seq (.reg [JA 34 0, JA 35 9, JL 36 1 34 35, JD 37 1 36, JA 38 10, JO 39 (.pc (.f 36) [.t 37, .t 38]), JB 11 39]) (.ifr [JA 40 11, JO 41 (.bin .neq 52 (.t 40) (JT 0))] (.t 41) (.seq (.reg [JA 42 11, JI 4 0, JB 5 42]) .ret) .skip)) (.seq (.reg [JA 44 0, JA 45 9, JL 46 1 44 45, JD 47 1 46, JO 48 (.pc (.f 83) [.t 47]), JC 43 48, JK 49 0 43, JK 50 1 43, JB 12 49, JC 13 50]) (.reg [JA 51 8, JA 52 12, JO 53 (.bin .mul 3 (.t 51) (.t 52)), JA 54 10, JO 55 (.bin .add 3 (.t 53) (.t 54)), JB 8 55]))))) (.reg [JO 56 (.bin .add 3 (.g 29) (JT 1)), JB 29 56]))
noncomputable def ac49 : AC :=
 (.seq (.reg [JI 4 0, JI 5 0]) (.seq (.seq (.reg [JA 15 0, JO 16 (.pc (.f 82) [.t 15]), JC 14 16, JK 17 0 14, JK 18 1 14, JC 6 17, JB 7 18]) (.ifr [JA 19 7, JO 20 (.bin .neq 52 (.t 19) (JT 0))] (.t 20) (.seq (.reg [JA 21 7, JI 4 0, JB 5 21]) .ret) .skip)) (.seq (.ifr [JA 22 1, JO 23 (.len false (.t 22)), JA 24 0, JO 25 (.len false (.t 24)), JO 26 (.bin .neq 3 (.t 23) (.t 25))] (.t 26) (.seq (.reg [JI 4 0, JI 5 3]) .ret) .skip) (.seq (.reg [JI 8 0]) (.seq (.seq (.reg [JP 27 (.mv (.g 1)), JP 28 (.len false (.g 27)), JI 29 0]) (.block 0 (.loop lb49_0))) (.seq (.reg [JA 57 8, JB 4 57, JI 5 0]) .ret))))))
theorem fi49 : FI Tryz.prog 49 cf49 ac49 [.t 4, .t 5] [0, 1, 4, 5, 7, 8, 9, 10, 11, 12, 27, 28, 29] 58 := FI_of (c := Tryz.f49.body.getD .skip) Tryz.func49 (by kernel_rfl) (by rfl) (by rfl) (by kernel_rfl) (by kernel_rfl) rfl rfl rfl
@[simp] theorem cfP49 : cf49.P = Tryz.prog := (rfl)
noncomputable def cf54 : Cfg := ⟨Tryz.prog, 50, [0, 1, 3, 4, 5, 6, 7, 8, 9, 10, 11, 32, 33, 34], [3, 30]⟩
noncomputable def ac54 : AC :=
 (.seq (.reg [JP 3 (.bx (.g 1)), JP 4 (.mv (.c (.slice none 0 0))), JI 5 0]) (.seq (.reg [JA 14 0, JO 15 (.pc (.f 82) [.t 14]), JC 13 15, JK 16 0 13, JK 17 1 13, JB 6 16, JB 7 17]) (.seq (.ifr [JA 18 7, JO 19 (.bin .neq 52 (.t 18) (JT 0))] (.t 19) (.seq (.reg [JA 20 7, JP 4 (.mv (.c (.slice none 0 0))), JB 5 20]) .ret) .skip) (.seq (.ifr [JO 21 (.ld false 1 (.g 3)), JO 22 (.bin .lss 3 (.t 21) (JT 0)), JC 23 22, JR 24 23 (.ld false 1 (.g 3)), JR 25 23 (.mv (.g 6)), JR 26 23 (.bin .geq 3 (.t 24) (.t 25)), JO 27 (.pick (.t 23) JX (.t 26))] (.t 27) (.seq (.reg [JP 4 (.mv (.c (.slice none 0 0))), JI 5 2]) .ret) .skip) (.seq (.reg [JA 28 0, JO 29 (.len false (.t 28)), JO 30 (.mks 1 8 [JV] (.t 29)), JP 8 (.al [JW]), JQ (.st 1 (.g 8) (.t 30))]) (.seq (.seq (.reg [JA 31 0, JP 32 (.pc (.f 86) [.t 31])]) (.block 0 (.rfn (.g 32) [33, 34] (.seq (.reg [JP 9 (.mv (.g 33))]) (.reg [JP 10 (.mv (.g 34))])) (.block 1 (.seq (.reg [JA 36 10, JO 37 (.pc (.f 83) [.t 36]), JC 35 37, JK 38 0 35, JK 39 1 35, JB 11 38, JC 12 39]) (.seq (.reg [JO 40 (.ld false 1 (.g 8)), JA 41 9, JO 42 (.ld false 1 (.g 3)), JA 43 11, JO 44 (.bin .rem 3 (.t 42) (.t 43)), JL 45 1 40 41, JQ (.st 1 (.t 45) (.t 44))]) (.reg [JO 46 (.ld false 1 (.g 3)), JA 47 11, JO 48 (.bin .quo 3 (.t 46) (.t 47)), JQ (.st 1 (.g 3) (.t 48))]))))))) (.seq (.reg [JO 49 (.ld false 1 (.g 8)), JB 4 49, JI 5 0]) .ret)))))))
theorem fi54 : FI Tryz.prog 54 cf54 ac54 [.t 4, .t 5] [0, 1, 3, 4, 5, 6, 7, 8, 9, 10, 11, 32, 33, 34] 50 := FI_of (c := Tryz.f54.body.getD .skip) Tryz.func54 (by kernel_rfl) (by rfl) (by rfl) (by kernel_rfl) (by kernel_rfl) rfl rfl rfl
@[simp] theorem cfP54 : cf54.P = Tryz.prog := (rfl)
noncomputable def cf53 : Cfg := ⟨Tryz.prog, 40, [0, 1, 4, 5, 6, 7, 9, 10], []⟩
noncomputable def ac53 : AC :=
 (.seq (.reg [JP 4 (.al [JW, JV, JV, JW]), JI 5 0]) (.seq (.reg [JA 12 0, JO 13 (.pc (.f 82) [.t 12]), JC 11 13, JK 14 0 11, JK 15 1 11, JB 6 14, JB 7 15]) (.seq (.ifr [JA 16 7, JO 17 (.bin .neq 52 (.t 16) (JT 0))] (.t 17) (.seq (.reg [JO 18 (.bld [JW, JV, JV, JW] []), JA 19 7, JQ (.st 4 (.g 4) (.t 18)), JB 5 19]) .ret) .skip) (.seq (.seq (.reg [JA 21 1, JO 22 (.pc (.f 83) [.t 21]), JC 20 22, JK 23 0 20, JK 24 1 20, JC 8 23, JB 9 24]) (.ifr [JA 25 9, JO 26 (.bin .neq 52 (.t 25) (JT 0))] (.t 26) (.seq (.reg [JO 27 (.bld [JW, JV, JV, JW] []), JA 28 9, JQ (.st 4 (.g 4) (.t 27)), JB 5 28]) .ret) .skip)) (.seq (.reg [JA 30 6, JO 31 (.pc (.f 84) [.t 30]), JC 29 31, JK 32 0 29, JK 33 1 29, JP 10 (.al [JV, JW]), JQ (.st 2 (.g 10) (.t 32)), JB 7 33]) (.seq (.reg [JA 34 0, JO 35 (.pc (.f 85) [.t 34]), JA 36 1, JF 37 2 10, JO 38 (.bld [JW, JV, JV, JW] [(0, 1, .t 35), (1, 1, .t 36), (2, 2, .t 37)]), JA 39 7, JQ (.st 4 (.g 4) (.t 38)), JB 5 39]) .ret))))))
theorem fi53 : FI Tryz.prog 53 cf53 ac53 [.c 4 true 4, .t 5] [0, 1, 4, 5, 6, 7, 9, 10] 40 := FI_of (c := Tryz.f53.body.getD .skip) Tryz.func53 (by kernel_rfl) (by rfl) (by rfl) (by kernel_rfl) (by kernel_rfl) rfl rfl rfl
@[simp] theorem cfP53 : cf53.P = Tryz.prog := (rfl)
noncomputable def cf66 : Cfg := ⟨Tryz.prog, 55, [0, 1, 2, 3, 4, 5, 6, 7, 8], []⟩
noncomputable def lb66_0 : AC :=
 .seq (.ifr [JA 42 7, JO 43 (.bin .lss 3 (.t 42) (JT 4))] (.t 43) .skip (.exit 0)) (.seq (.block 1 (.seq (.reg [JG 47 2 1, JE 48 2 47, JA 49 7, JO 50 (.pc (.f 95) [.t 48, .t 49]), JC 46 50, JK 51 0 46, JK 52 1 46, JB 8 51, JC 9 52]) (.ifr [JA 53 8, JO 54 (.bin .gtr 3 (.t 53) (JT 0))] (.t 54) (.seq (.reg [JI 2 3]) .ret) .skip))) (.reg [JA 44 7, JO 45 (.bin .add 3 (.t 44) (JT 1)), JB 7 45]))
noncomputable def ac66 : AC :=
 (.seq (.reg [JN 1 0, JI 2 0]) (.seq (.reg [JG 11 0 1, JD 12 1 11, JO 13 (.pc (.f 82) [.t 12]), JC 10 13, JK 14 0 10, JK 15 1 10, JB 3 14, JB 4 15]) (.seq (.reg [JG 17 1 1, JD 18 1 17, JO 19 (.pc (.f 83) [.t 18]), JC 16 19, JK 20 0 16, JK 21 1 16, JB 5 20, JB 6 21]) (.seq (.ifr [JA 22 4, JO 23 (.bin .neq 52 (.t 22) (JT 0)), JC 24 23, JR 25 24 (.mv (.g 6)), JR 26 24 (.bin .neq 52 (.t 25) (JT 0)), JO 27 (.pick (.t 24) JX (.t 26)), JC 28 27, JR 29 28 (.fa 2 (.g 1)), JR 30 28 (.fa 0 (.t 29)), JR 31 28 (.ld false 1 (.t 30)), JR 32 28 (.mv (.g 3)), JR 33 28 (.bin .neq 3 (.t 31) (.t 32)), JO 34 (.pick (.t 28) JX (.t 33)), JC 35 34, JR 36 35 (.fa 2 (.g 1)), JR 37 35 (.ld true 2 (.t 36)), JR 38 35 (.pc (.f 87) [.t 37]), JR 39 35 (.bin .neq 52 (.t 38) (JT 0)), JO 40 (.pick (.t 35) JX (.t 39))] (.t 40) (.seq (.reg [JI 2 3]) .ret) .skip) (.seq (.seq (.reg [JA 41 5, JB 7 41]) (.block 0 (.loop lb66_0))) (.seq (.reg [JI 2 0]) .ret))))))
theorem fi66 : FI Tryz.prog 66 cf66 ac66 [.t 2] [0, 1, 2, 3, 4, 5, 6, 7, 8] 55 := FI_of (c := Tryz.f66.body.getD .skip) Tryz.func66 (by kernel_rfl) (by rfl) (by rfl) (by kernel_rfl) (by kernel_rfl) rfl rfl rfl
@[simp] theorem cfP66 : cf66.P = Tryz.prog := (rfl)
noncomputable def cf85 : Cfg := ⟨Tryz.prog, 8, [0, 2], [7]⟩
noncomputable def ac85 : AC :=
 (.seq (.reg [JP 2 (.mv (.c (.slice none 0 0)))]) (.seq (.ifr [JA 3 0, JO 4 (.bin .eql 24 (.t 3) (.c (.slice none 0 0)))] (.t 4) (.seq (.reg [JP 2 (.mv (.c (.slice none 0 0)))]) .ret) .skip) (.seq (.reg [.mk (.t 5) none .z0, JA 6 0, JO 7 (.app 1 8 [JV] (.t 5) (.t 6)), JB 2 7]) .ret)))
theorem fi85 : FI Tryz.prog 85 cf85 ac85 [.t 2] [0, 2] 8 := FI_of (c := Tryz.f85.body.getD .skip) Tryz.func85 (by kernel_rfl) (by rfl) (by rfl) (by kernel_rfl) (by kernel_rfl) rfl rfl rfl
@[simp] theorem cfP85 : cf85.P = Tryz.prog := (rfl)
noncomputable def cf31 : Cfg := ⟨Tryz.prog, 36, [0, 2, 3, 4, 5, 6], []⟩
noncomputable def lb31_0 : AC :=
 .seq (.ifr [JA 19 6, JA 20 0, JO 21 (.len false (.t 20)), JO 22 (.bin .lss 3 (.t 19) (.t 21))] (.t 22) .skip (.exit 2)) (.seq (.block 3 (.seq (.reg [JA 25 5, JA 26 0, JA 27 6, JL 28 1 26 27, JD 29 1 28, JO 30 (.pc (.f 33) [.t 29]), JO 31 (.bin .add 3 (.t 30) (JT 1)), JO 32 (.bin .mul 3 (.t 25) (.t 31)), JB 5 32]) (.ifr [JA 33 5, JO 34 (.bin .gtr 3 (.t 33) (JT 4096))] (.t 34) (.seq (.reg [JI 2 0, JI 3 22]) .ret) .skip))) (.reg [JA 23 6, JO 24 (.bin .add 3 (.t 23) (JT 1)), JB 6 24]))
noncomputable def lb31_1 : AC :=
 .seq (.ifr [JA 7 4, JA 8 0, JO 9 (.len false (.t 8)), JO 10 (.bin .lss 3 (.t 7) (.t 9))] (.t 10) .skip (.exit 0)) (.seq (.block 1 (.ifr [JA 13 0, JA 14 4, JL 15 1 13 14, JD 16 1 15, JO 17 (.pc (.f 33) [.t 16]), JO 18 (.bin .lss 3 (.t 17) (JT 0))] (.t 18) (.seq (.reg [JI 2 0, JI 3 3]) .ret) .skip)) (.reg [JA 11 4, JO 12 (.bin .add 3 (.t 11) (JT 1)), JB 4 12]))
noncomputable def ac31 : AC :=
 (.seq (.reg [JI 2 0, JI 3 0]) (.seq (.seq (.reg [JI 4 0]) (.block 0 (.loop lb31_1))) (.seq (.reg [JI 5 1]) (.seq (.seq (.reg [JI 6 0]) (.block 2 (.loop lb31_0))) (.seq (.reg [JA 35 5, JB 2 35, JI 3 0]) .ret)))))
theorem fi31 : FI Tryz.prog 31 cf31 ac31 [.t 2, .t 3] [0, 2, 3, 4, 5, 6] 36 := FI_of (c := Tryz.f31.body.getD .skip) Tryz.func31 (by kernel_rfl) (by rfl) (by rfl) (by kernel_rfl) (by kernel_rfl) rfl rfl rfl
@[simp] theorem cfP31 : cf31.P = Tryz.prog := (rfl)
noncomputable def cf51 : Cfg := ⟨Tryz.prog, 53, [0, 1, 4, 5, 7, 8, 9], []⟩
noncomputable def lb51_0 : AC :=
 .seq (.ifr [JA 23 9, JA 24 0, JO 25 (.len false (.t 24)), JO 26 (.bin .lss 3 (.t 23) (.t 25))] (.t 26) .skip (.exit 0)) (.seq (.block 1 (.seq (.ifr [JA 29 0, JA 30 9, JL 31 1 29 30, JD 32 1 31, JA 33 1, JA 34 9, JL 35 1 33 34, JD 36 1 35, JO 37 (.pc (.f 15) [.t 32, .t 36]), JO 38 (.un .not (.t 37))] (.t 38) (.seq (.reg [JI 4 0, JI 5 2]) .ret) .skip) (.reg [JA 39 8, JA 40 0, JA 41 9, JL 42 1 40 41, JD 43 1 42, JO 44 (.pc (.f 33) [.t 43]), JO 45 (.bin .add 3 (.t 44) (JT 1)), JO 46 (.bin .mul 3 (.t 39) (.t 45)), JA 47 1, JA 48 9, JL 49 1 47 48, JD 50 1 49, JO 51 (.bin .add 3 (.t 46) (.t 50)), JB 8 51]))) (.reg [JA 27 9, JO 28 (.bin .add 3 (.t 27) (JT 1)), JB 9 28]))
noncomputable def ac51 : AC :=
 (.seq (.reg [JI 4 0, JI 5 0]) (.seq (.reg [JA 11 0, JO 12 (.pc (.f 31) [.t 11]), JC 10 12, JK 13 0 10, JK 14 1 10, JC 6 13, JB 7 14]) (.seq (.ifr [JA 15 7, JO 16 (.bin .neq 3 (.t 15) (JT 0))] (.t 16) (.seq (.reg [JA 17 7, JI 4 0, JB 5 17]) .ret) .skip) (.seq (.ifr [JA 18 1, JO 19 (.len false (.t 18)), JA 20 0, JO 21 (.len false (.t 20)), JO 22 (.bin .neq 3 (.t 19) (.t 21))] (.t 22) (.seq (.reg [JI 4 0, JI 5 3]) .ret) .skip) (.seq (.reg [JI 8 0]) (.seq (.seq (.reg [JI 9 0]) (.block 0 (.loop lb51_0))) (.seq (.reg [JA 52 8, JB 4 52, JI 5 0]) .ret)))))))
theorem fi51 : FI Tryz.prog 51 cf51 ac51 [.t 4, .t 5] [0, 1, 4, 5, 7, 8, 9] 53 := FI_of (c := Tryz.f51.body.getD .skip) Tryz.func51 (by kernel_rfl) (by rfl) (by rfl) (by kernel_rfl) (by kernel_rfl) rfl rfl rfl
@[simp] theorem cfP51 : cf51.P = Tryz.prog := (rfl)
noncomputable def cf58 : Cfg := ⟨Tryz.prog, 52, [0, 1, 4, 5, 6, 7, 8, 9, 10], [28]⟩
noncomputable def lb58_0 : AC :=
 .seq (.ifr [JA 32 9, JO 33 (.bin .geq 3 (.t 32) (JT 0))] (.t 33) .skip (.exit 0)) (.seq (.block 1 (.seq (.reg [JA 36 0, JA 37 9, JL 38 1 36 37, JD 39 1 38, JO 40 (.pc (.f 33) [.t 39]), JO 41 (.bin .add 3 (.t 40) (JT 1)), JB 10 41]) (.seq (.reg [JA 42 8, JA 43 9, JA 44 1, JA 45 10, JO 46 (.bin .rem 3 (.t 44) (.t 45)), JL 47 1 42 43, JQ (.st 1 (.t 47) (.t 46))]) (.reg [JA 48 1, JA 49 10, JO 50 (.bin .quo 3 (.t 48) (.t 49)), JB 1 50])))) (.reg [JA 34 9, JO 35 (.bin .sub 3 (.t 34) (JT 1)), JB 9 35]))
noncomputable def ac58 : AC :=
 (.seq (.reg [JP 4 (.mv (.c (.slice none 0 0))), JI 5 0]) (.seq (.reg [JA 12 0, JO 13 (.pc (.f 31) [.t 12]), JC 11 13, JK 14 0 11, JK 15 1 11, JB 6 14, JB 7 15]) (.seq (.ifr [JA 16 7, JO 17 (.bin .neq 3 (.t 16) (JT 0))] (.t 17) (.seq (.reg [JA 18 7, JP 4 (.mv (.c (.slice none 0 0))), JB 5 18]) .ret) .skip) (.seq (.ifr [JA 19 1, JO 20 (.bin .lss 3 (.t 19) (JT 0)), JC 21 20, JR 22 21 (.mv (.g 1)), JR 23 21 (.mv (.g 6)), JR 24 21 (.bin .geq 3 (.t 22) (.t 23)), JO 25 (.pick (.t 21) JX (.t 24))] (.t 25) (.seq (.reg [JP 4 (.mv (.c (.slice none 0 0))), JI 5 2]) .ret) .skip) (.seq (.reg [JA 26 0, JO 27 (.len false (.t 26)), JO 28 (.mks 1 8 [JV] (.t 27)), JB 8 28]) (.seq (.seq (.reg [JA 29 0, JO 30 (.len false (.t 29)), JO 31 (.bin .sub 3 (.t 30) (JT 1)), JB 9 31]) (.block 0 (.loop lb58_0))) (.seq (.reg [JA 51 8, JB 4 51, JI 5 0]) .ret)))))))
theorem fi58 : FI Tryz.prog 58 cf58 ac58 [.t 4, .t 5] [0, 1, 4, 5, 6, 7, 8, 9, 10] 52 := FI_of (c := Tryz.f58.body.getD .skip) Tryz.func58 (by kernel_rfl) (by rfl) (by rfl) (by kernel_rfl) (by kernel_rfl) rfl rfl rfl
@[simp] theorem cfP58 : cf58.P = Tryz.prog := (rfl)
noncomputable def cf63 : Cfg := ⟨Tryz.prog, 7, [0, 2, 3], [6]⟩
noncomputable def ac63 : AC :=
 (.seq (.reg [JP 2 (.mv (.c (.slice none 0 0)))]) (.seq (.reg [JP 3 (.mv (.c (.slice none 0 0)))]) (.seq (.reg [JA 4 3, JA 5 0, JO 6 (.app 1 8 [JV] (.t 4) (.t 5)), JB 2 6]) .ret)))
theorem fi63 : FI Tryz.prog 63 cf63 ac63 [.t 2] [0, 2, 3] 7 := FI_of (c := Tryz.f63.body.getD .skip) Tryz.func63 (by kernel_rfl) (by rfl) (by rfl) (by kernel_rfl) (by kernel_rfl) rfl rfl rfl
@[simp] theorem cfP63 : cf63.P = Tryz.prog := (rfl)
noncomputable def cf26 : Cfg := ⟨Tryz.prog, 53, [0, 1, 2, 3, 4, 5, 6, 7, 8], [18]⟩
noncomputable def lb26_0 : AC :=
 .seq (.ifr [JA 39 8, JA 40 4, JO 41 (.bin .lss 3 (.t 39) (.t 40))] (.t 41) .skip (.exit 0)) (.seq (.block 1 (.ifr [JA 44 6, JA 45 8, JL 46 1 44 45, JD 47 1 46, JG 48 1 1, JD 49 1 48, JO 50 (.pc (.f 33) [.t 49]), JO 51 (.bin .gtr 3 (.t 47) (.t 50))] (.t 51) (.seq (.reg [JP 2 (.mv (.c (.slice none 0 0))), JP 3 (.mv JY)]) .ret) .skip)) (.reg [JA 42 8, JO 43 (.bin .add 3 (.t 42) (JT 1)), JB 8 43]))
noncomputable def ac26 : AC :=
 (.seq (.reg [JN 1 0, JP 2 (.mv (.c (.slice none 0 0))), JP 3 (.mv JY)]) (.seq (.reg [JG 10 0 1, JD 11 1 10, JO 12 (.pc (.f 31) [.t 11]), JC 9 12, JK 13 0 9, JK 14 1 9, JB 4 13, JB 5 14]) (.seq (.reg [JG 16 2 1, JE 17 2 16, JO 18 (.cl (.f 59) [.t 17]), JC 15 18, JK 19 0 15, JK 20 1 15, JB 6 19, JB 7 20]) (.seq (.ifr [JA 21 5, JO 22 (.bin .neq 3 (.t 21) (JT 0)), JC 23 22, JR 24 23 (.mv (.g 7)), JR 25 23 (.un .not (.t 24)), JO 26 (.pick (.t 23) JX (.t 25)), JC 27 26, JR 28 27 (.mv (.g 6)), JR 29 27 (.len false (.t 28)), JR 30 27 (.mv (.g 4)), JR 31 27 (.bin .neq 3 (.t 29) (.t 30)), JO 32 (.pick (.t 27) JX (.t 31)), JC 33 32, JR 34 33 (.fa 1 (.g 1)), JR 35 33 (.ld false 1 (.t 34)), JR 36 33 (.pc (.f 33) [.t 35]), JR 37 33 (.bin .lss 3 (.t 36) (JT 0)), JO 38 (.pick (.t 33) JX (.t 37))] (.t 38) (.seq (.reg [JP 2 (.mv (.c (.slice none 0 0))), JP 3 (.mv JY)]) .ret) .skip) (.seq (.seq (.reg [JI 8 0]) (.block 0 (.loop lb26_0))) (.seq (.reg [JA 52 6, JB 2 52, JP 3 (.mv JX)]) .ret))))))
theorem fi26 : FI Tryz.prog 26 cf26 ac26 [.t 2, .t 3] [0, 1, 2, 3, 4, 5, 6, 7, 8] 53 := FI_of (c := Tryz.f26.body.getD .skip) Tryz.func26 (by kernel_rfl) (by rfl) (by rfl) (by kernel_rfl) (by kernel_rfl) rfl rfl rfl
@[simp] theorem cfP26 : cf26.P = Tryz.prog := (rfl)
noncomputable def cf34 : Cfg := ⟨Tryz.prog, 13, [0, 1, 2, 6], []⟩
noncomputable def ac34 : AC :=
 (.seq (.reg [JP 6 (.al [JW, JV, JV, JW])]) (.seq (.reg [JA 7 0, JO 8 (.pc (.f 63) [.t 7]), JA 9 1, JA 10 2, JO 11 (.pc (.f 64) [.t 10]), JO 12 (.bld [JW, JV, JV, JW] [(0, 1, .t 8), (1, 1, .t 9), (2, 2, .t 11)]), JQ (.st 4 (.g 6) (.t 12))]) .ret))
theorem fi34 : FI Tryz.prog 34 cf34 ac34 [.c 6 true 4] [0, 1, 2, 6] 13 := FI_of (c := Tryz.f34.body.getD .skip) Tryz.func34 (by kernel_rfl) (by rfl) (by rfl) (by kernel_rfl) (by kernel_rfl) rfl rfl rfl
@[simp] theorem cfP34 : cf34.P = Tryz.prog := (rfl)
noncomputable def cf27 : Cfg := ⟨Tryz.prog, 78, [0, 1, 2, 3, 4, 5, 6, 7, 9, 10], [29, 60]⟩
noncomputable def lb27_0 : AC :=
 .seq (.ifr [JA 32 9, JA 33 7, JO 34 (.len false (.t 33)), JO 35 (.bin .lss 3 (.t 32) (.t 34))] (.t 35) .skip (.exit 2)) (.seq (.block 3 (.seq (.ifr [JG 38 0 1, JD 39 1 38, JA 40 9, JL 41 1 39 40, JD 42 1 41, JA 43 7, JA 44 9, JL 45 1 43 44, JD 46 1 45, JO 47 (.bin .add 49 (.t 46) (JT 1)), JO 48 (.pc (.f 15) [.t 42, .t 47]), JO 49 (.un .not (.t 48))] (.t 49) (.exit 3) .skip) (.seq (.reg [JA 50 7, JA 51 9, JL 52 1 50 51, JD 53 1 52, JO 54 (.bin .add 49 (.t 53) (JT 1)), JL 55 1 50 51, JQ (.st 1 (.t 55) (.t 54))]) (.seq (.reg [JG 57 0 1, JD 58 1 57, JA 59 7, JO 60 (.cl (.f 51) [.t 58, .t 59]), JC 56 60, JK 61 0 56, JK 62 1 56, JB 10 61, JC 11 62]) (.seq (.reg [JA 63 7, JA 64 9, JL 65 1 63 64, JD 66 1 65, JO 67 (.bin .sub 49 (.t 66) (JT 1)), JL 68 1 63 64, JQ (.st 1 (.t 68) (.t 67))]) (.ifr [JA 69 4, JA 70 6, JL 71 1 69 70, JD 72 1 71, JA 73 4, JA 74 10, JL 75 1 73 74, JD 76 1 75, JO 77 (.bin .gtr 3 (.t 72) (.t 76))] (.t 77) (.seq (.reg [JP 2 (.mv JY), JI 3 0]) .ret) .skip)))))) (.reg [JA 36 9, JO 37 (.bin .add 3 (.t 36) (JT 1)), JB 9 37]))
noncomputable def lb27_1 : AC :=
 .seq (.ifr [JA 19 6, JA 20 4, JO 21 (.len false (.t 20)), JO 22 (.bin .lss 3 (.t 19) (.t 21))] (.t 22) .skip (.exit 0)) (.seq (.block 1 (.seq (.reg [JG 26 0 1, JD 27 1 26, JA 28 6, JO 29 (.cl (.f 58) [.t 27, .t 28]), JC 25 29, JK 30 0 25, JK 31 1 25, JB 7 30, JC 8 31]) (.seq (.reg [JI 9 0]) (.block 2 (.loop lb27_0))))) (.reg [JA 23 6, JO 24 (.bin .add 3 (.t 23) (JT 1)), JB 6 24]))
noncomputable def ac27 : AC :=
 (.seq (.reg [JN 1 0, JP 2 (.mv JY), JI 3 0]) (.seq (.reg [JF 13 4 1, JO 14 (.pc (.f 26) [.t 13]), JC 12 14, JK 15 0 12, JK 16 1 12, JB 4 15, JB 5 16]) (.seq (.ifr [JA 17 5, JO 18 (.un .not (.t 17))] (.t 18) (.seq (.reg [JP 2 (.mv JY), JI 3 3]) .ret) .skip) (.seq (.seq (.reg [JI 6 0]) (.block 0 (.loop lb27_1))) (.seq (.reg [JP 2 (.mv JX), JI 3 0]) .ret)))))
theorem fi27 : FI Tryz.prog 27 cf27 ac27 [.t 2, .t 3] [0, 1, 2, 3, 4, 5, 6, 7, 9, 10] 78 := FI_of (c := Tryz.f27.body.getD .skip) Tryz.func27 (by kernel_rfl) (by rfl) (by rfl) (by kernel_rfl) (by kernel_rfl) rfl rfl rfl
@[simp] theorem cfP27 : cf27.P = Tryz.prog := (rfl)
noncomputable def cf23 : Cfg := ⟨Tryz.prog, 46, [0, 1, 2, 3, 4, 5], []⟩
@[simp] theorem cfP23 : cf23.P = Tryz.prog := (rfl)
noncomputable def cf67 : Cfg := ⟨Tryz.prog, 10, [0, 2, 3, 4, 5], []⟩
noncomputable def ac67 : AC :=
 (.seq (.reg [JI 2 0, JI 3 0]) (.seq (.seq (.reg [JP 4 (.mv (.g 0))]) (.block 0 (.seq (.ifr [JO 6 (.bin .eql 25 (.g 4) (JT 1)), JB 5 6] (.g 5) .skip (.reg [JO 7 (.bin .eql 25 (.g 4) (JT 2)), JB 5 7])) (.cond (.g 5) (.seq (.reg [JI 2 1, JI 3 0]) .ret) (.ifr [JO 9 (.bin .eql 25 (.g 4) (JT 3)), JC 8 9] (.t 8) (.seq (.reg [JI 2 3, JI 3 0]) .ret) .skip))))) (.seq (.reg [JI 2 0, JI 3 3]) .ret)))
theorem fi67 : FI Tryz.prog 67 cf67 ac67 [.t 2, .t 3] [0, 2, 3, 4, 5] 10 := FI_of (c := Tryz.f67.body.getD .skip) Tryz.func67 (by kernel_rfl) (by rfl) (by rfl) (by kernel_rfl) (by kernel_rfl) rfl rfl rfl
@[simp] theorem cfP67 : cf67.P = Tryz.prog := (rfl)
noncomputable def cf36 : Cfg := ⟨Tryz.prog, 24, [0, 1, 4, 5, 6], []⟩
noncomputable def ac36 : AC :=
 (.seq (.reg [JI 4 0]) (.seq (.reg [JA 8 0, JO 9 (.pc (.f 67) [.t 8]), JC 7 9, JK 10 0 7, JK 11 1 7, JB 5 10, JB 6 11]) (.seq (.ifr [JA 12 6, JO 13 (.bin .eql 52 (.t 12) (JT 0)), JC 14 13, JS 15 14 (.mv (.g 1)), JS 16 14 (.bin .lss 49 (.t 15) (JT 0)), JS 17 14 (.mv (.t 16)), JR 18 17 (.mv (.g 1)), JR 19 17 (.mv (.g 5)), JR 20 17 (.bin .gtr 49 (.t 18) (.t 19)), JS 21 14 (.pick (.t 17) JX (.t 20)), JO 22 (.pick (.t 14) (.t 21) JY)] (.t 22) (.seq (.reg [JI 4 2]) .ret) .skip) (.seq (.reg [JA 23 6, JB 4 23]) .ret))))
theorem fi36 : FI Tryz.prog 36 cf36 ac36 [.t 4] [0, 1, 4, 5, 6] 24 := FI_of (c := Tryz.f36.body.getD .skip) Tryz.func36 (by kernel_rfl) (by rfl) (by rfl) (by kernel_rfl) (by kernel_rfl) rfl rfl rfl
@[simp] theorem cfP36 : cf36.P = Tryz.prog := (rfl)
noncomputable def cf103 : Cfg := ⟨Tryz.prog, 19, [0, 1, 4, 5], []⟩
noncomputable def ac103 : AC :=
 (.seq (.reg [JI 4 0, JI 5 0]) (.seq (.ifr [JA 6 0, JO 7 (.pc (.f 36) [.c (.int .i64 1), .t 6]), JO 8 (.bin .neq 52 (.t 7) (JT 0)), JC 9 8, JR 10 9 (.mv (.g 1)), JR 11 9 (.pc (.f 36) [.c (.int .i64 3), .t 10]), JR 12 9 (.bin .neq 52 (.t 11) (JT 0)), JO 13 (.pick (.t 9) JX (.t 12))] (.t 13) (.seq (.reg [JI 4 0, JI 5 2]) .ret) .skip) (.seq (.reg [JA 14 1, JA 15 0, JO 16 (.bin .add 49 (JT 2) (.t 15)), JO 17 (.bi .min [.t 14, .t 16]), JO 18 (.bi .max [.c (.int .i64 1), .t 17]), JB 4 18, JI 5 0]) .ret)))
theorem fi103 : FI Tryz.prog 103 cf103 ac103 [.t 4, .t 5] [0, 1, 4, 5] 19 := FI_of (c := Tryz.f103.body.getD .skip) Tryz.func103 (by kernel_rfl) (by rfl) (by rfl) (by kernel_rfl) (by kernel_rfl) rfl rfl rfl
@[simp] theorem cfP103 : cf103.P = Tryz.prog := (rfl)
noncomputable def cf102 : Cfg := ⟨Tryz.prog, 22, [0, 2, 3, 7], []⟩
noncomputable def ac102 : AC :=
 (.seq (.reg [JP 2 (.mv (.c (.slice none 0 0))), JI 3 0]) (.seq (.ifr [JA 4 0, JO 5 (.pc (.f 36) [.c (.int .i64 3), .t 4]), JO 6 (.bin .neq 52 (.t 5) (JT 0))] (.t 6) (.seq (.reg [JP 2 (.mv (.c (.slice none 0 0))), JI 3 2]) .ret) .skip) (.seq (.seq (.reg [JP 7 (.mv (.g 0))]) (.block 0 (.ifr [JO 9 (.bin .eql 49 (.g 7) (JT 0)), JC 8 9] (.t 8) (.seq (.reg [JP 2 (.mv (.c (.slice none 0 0))), JI 3 0]) .ret) (.ifr [JO 11 (.bin .eql 49 (.g 7) (JT 2)), JC 10 11] (.t 10) (.seq (.reg [JO 12 (.bld [.bool false, JV, JV] [(2, 1, .c (.int .i64 3))]), JO 13 (.bld [.bool false, JV, JV] [(1, 1, .c (.int .i64 1)), (2, 1, .c (.int .i64 2))]), JO 14 (.bsl 3 2 [.bool false, JV, JV] [(0, 3, .t 12), (3, 3, .t 13)]), JB 2 14, JI 3 0]) .ret) (.ifr [JO 16 (.bin .eql 49 (.g 7) (JT 3)), JC 15 16] (.t 15) (.seq (.reg [JO 17 (.bld [.bool false, JV, JV] [(0, 1, .c (.bool true))]), JO 18 (.bld [.bool false, JV, JV] [(1, 1, .c (.int .i64 1)), (2, 1, .c (.int .i64 3))]), JO 19 (.bsl 3 2 [.bool false, JV, JV] [(0, 3, .t 17), (3, 3, .t 18)]), JB 2 19, JI 3 0]) .ret) .skip))))) (.seq (.reg [JO 20 (.bld [.bool false, JV, JV] [(1, 1, .c (.int .i64 1)), (2, 1, .c (.int .i64 1))]), JO 21 (.bsl 3 1 [.bool false, JV, JV] [(0, 3, .t 20)]), JB 2 21, JI 3 0]) .ret))))
theorem fi102 : FI Tryz.prog 102 cf102 ac102 [.t 2, .t 3] [0, 2, 3, 7] 22 := FI_of (c := Tryz.f102.body.getD .skip) Tryz.func102 (by kernel_rfl) (by rfl) (by rfl) (by kernel_rfl) (by kernel_rfl) rfl rfl rfl
@[simp] theorem cfP102 : cf102.P = Tryz.prog := (rfl)
noncomputable def cf33 : Cfg := ⟨Tryz.prog, 9, [0, 2, 3, 4], []⟩
noncomputable def ac33 : AC :=
 (.seq (.reg [JI 2 0]) (.seq (.seq (.reg [JP 3 (.mv (.g 0))]) (.block 0 (.seq (.ifr [JO 5 (.bin .eql 25 (.g 3) (JT 1)), JB 4 5] (.g 4) .skip (.reg [JO 6 (.bin .eql 25 (.g 3) (JT 2)), JB 4 6])) (.cond (.g 4) (.seq (.reg [JI 2 1]) .ret) (.ifr [JO 8 (.bin .eql 25 (.g 3) (JT 3)), JC 7 8] (.t 7) (.seq (.reg [JI 2 3]) .ret) .skip))))) (.seq (.reg [JI 2 (-1)]) .ret)))
theorem fi33 : FI Tryz.prog 33 cf33 ac33 [.t 2] [0, 2, 3, 4] 9 := FI_of (c := Tryz.f33.body.getD .skip) Tryz.func33 (by kernel_rfl) (by rfl) (by rfl) (by kernel_rfl) (by kernel_rfl) rfl rfl rfl
@[simp] theorem cfP33 : cf33.P = Tryz.prog := (rfl)
noncomputable def cf41 : Cfg := ⟨Tryz.prog, 12, [0, 1, 4], []⟩
@[simp] theorem cfP41 : cf41.P = Tryz.prog := (rfl)
noncomputable def cf15 : Cfg := ⟨Tryz.prog, 13, [0, 1, 4], []⟩
noncomputable def ac15 : AC :=
 (.seq (.reg [JP 4 (.mv JY)]) (.seq (.reg [JA 5 1, JO 6 (.bin .geq 49 (.t 5) (JT 0)), JC 7 6, JS 8 7 (.mv (.g 1)), JS 9 7 (.mv (.g 0)), JS 10 7 (.pc (.f 33) [.t 9]), JS 11 7 (.bin .leq 3 (.t 8) (.t 10)), JO 12 (.pick (.t 7) (.t 11) JY), JB 4 12]) .ret))
theorem fi15 : FI Tryz.prog 15 cf15 ac15 [.t 4] [0, 1, 4] 13 := FI_of (c := Tryz.f15.body.getD .skip) Tryz.func15 (by kernel_rfl) (by rfl) (by rfl) (by kernel_rfl) (by kernel_rfl) rfl rfl rfl
@[simp] theorem cfP15 : cf15.P = Tryz.prog := (rfl)
noncomputable def cf106 : Cfg := ⟨Tryz.prog, 14, [0, 1, 4], []⟩
@[simp] theorem cfP106 : cf106.P = Tryz.prog := (rfl)
noncomputable def cf105 : Cfg := ⟨Tryz.prog, 18, [0, 2, 3], []⟩
noncomputable def ac105 : AC :=
 (.seq (.reg [JP 2 (.mv (.c (.slice none 0 0)))]) (.seq (.seq (.reg [JP 3 (.mv (.g 0))]) (.block 0 (.ifr [JO 5 (.bin .eql 49 (.g 3) (JT 1)), JC 4 5] (.t 4) (.seq (.reg [JO 6 (.bld [.bool false, JV, JV] [(1, 1, .c (.int .i64 1)), (2, 1, .c (.int .i64 1))]), JO 7 (.bsl 3 1 [.bool false, JV, JV] [(0, 3, .t 6)]), JB 2 7]) .ret) (.ifr [JO 9 (.bin .eql 49 (.g 3) (JT 2)), JC 8 9] (.t 8) (.seq (.reg [JO 10 (.bld [.bool false, JV, JV] [(2, 1, .c (.int .i64 3))]), JO 11 (.bld [.bool false, JV, JV] [(1, 1, .c (.int .i64 1)), (2, 1, .c (.int .i64 2))]), JO 12 (.bsl 3 2 [.bool false, JV, JV] [(0, 3, .t 10), (3, 3, .t 11)]), JB 2 12]) .ret) (.ifr [JO 14 (.bin .eql 49 (.g 3) (JT 3)), JC 13 14] (.t 13) (.seq (.reg [JO 15 (.bld [.bool false, JV, JV] [(0, 1, .c (.bool true))]), JO 16 (.bld [.bool false, JV, JV] [(1, 1, .c (.int .i64 1)), (2, 1, .c (.int .i64 3))]), JO 17 (.bsl 3 2 [.bool false, JV, JV] [(0, 3, .t 15), (3, 3, .t 16)]), JB 2 17]) .ret) .skip))))) (.seq (.reg [JP 2 (.mv (.c (.slice none 0 0)))]) .ret)))
theorem fi105 : FI Tryz.prog 105 cf105 ac105 [.t 2] [0, 2, 3] 18 := FI_of (c := Tryz.f105.body.getD .skip) Tryz.func105 (by kernel_rfl) (by rfl) (by rfl) (by kernel_rfl) (by kernel_rfl) rfl rfl rfl
@[simp] theorem cfP105 : cf105.P = Tryz.prog := (rfl)
def tp (t : Int) : Int := if t = 1 then 1 else if t = 2 then 1 else if t = 3 then 3 else -1
theorem tp_1 : tp 1 = 1 := rfl
theorem sF : tp 3 = 3 := rfl
theorem u7 (t : Int) : (t = 1 ∧ tp t = 1) ∨ (t = 2 ∧ tp t = 1) ∨ (t = 3 ∧ tp t = 3) ∨ (t ≠ 1 ∧ t ≠ 2 ∧ t ≠ 3 ∧ tp t = -1) := by
 unfold tp
 by_cases h1 : t = 1
 ·simp [h1]
 ·by_cases h2 : t = 2
  ·simp [h2]
  ·by_cases h3 : t = 3
   ·simp [h3]
   ·simp [h1, h2, h3]
def nY (t : Int) : D := if tp t < 0 then .tup [I 0, I 3] else .tup [I (tp t), I 0]
theorem Top_c (t : Int) : Pure Tryz.prog 67 [I t] (nY t) := by
 refine fi67.pu (by simp) ?_
 rcases u7 t with ⟨rfl, h⟩ | ⟨rfl, h⟩ | ⟨rfl, h⟩ | ⟨h1, h2, h3, h⟩
 ·simp -implicitDefEqProofs [ac67, nY, h]
 ·simp -implicitDefEqProofs [ac67, nY, h]
 ·simp -implicitDefEqProofs [ac67, nY, h]
 ·simp -implicitDefEqProofs [ac67, nY, h, h1, h2, h3]
theorem iQ (t : Int) : Pure Tryz.prog 33 [I t] (I (tp t)) := by
 refine fi33.pu (by simp) ?_
 rcases u7 t with ⟨rfl, h⟩ | ⟨rfl, h⟩ | ⟨rfl, h⟩ | ⟨h1, h2, h3, h⟩
 ·simp -implicitDefEqProofs [ac33, h]
 ·simp -implicitDefEqProofs [ac33, h]
 ·simp -implicitDefEqProofs [ac33, h]
 ·simp -implicitDefEqProofs [ac33, h, h1, h2, h3]
def ck (t p : Int) : Int := if tp t < 0 then 3 else if 0 ≤ p ∧ p ≤ tp t then 0 else 2
theorem zV {t p : Int} : ck t p = 0 ↔ 0 ≤ p ∧ p ≤ tp t := by
 unfold ck
 by_cases h : tp t < 0
 ·rw [if_pos h]; simp; omega
 ·rw [if_neg h]
  by_cases h2 : 0 ≤ p ∧ p ≤ tp t <;> simp [h2]
theorem pF (t p : Int) : Pure Tryz.prog 36 [I t, I p] (I (ck t p)) := by
 refine fi36.pu (by simp) ?_
 simp -implicitDefEqProofs [ac36]
 refine aG (Top_c t) (by simp) ?_
 simp -implicitDefEqProofs
 by_cases h : tp t < 0
 ·simp -implicitDefEqProofs [nY, h, ck]
 ·by_cases h1 : p < 0
  ·have : ¬ 0 ≤ p := by omega
   simp -implicitDefEqProofs [nY, h, ck, h1, this]
  ·have h0 : 0 ≤ p := by omega
   by_cases h2 : p ≤ tp t
   ·have : ¬ tp t < p := by omega
    simp -implicitDefEqProofs [nY, h, ck, h1, h0, h2, this]
   ·have : tp t < p := by omega
    simp -implicitDefEqProofs [nY, h, ck, h1, h0, h2, this]
theorem Is_c (t p : Int) : Pure Tryz.prog 15 [I t, I p] (B (decide (0 ≤ p ∧ p ≤ tp t))) := by
 refine fi15.pu (by simp) ?_
 by_cases h : 0 ≤ p
 ·simp -implicitDefEqProofs [ac15, h]
  refine aG (iQ t) (by simp) ?_
  simp -implicitDefEqProofs
 ·simp -implicitDefEqProofs [ac15, h]
def cnF (h t : Int) : Int := max 1 (min t (2 + h))
theorem KO {h t : Int} (h1 : 0 ≤ h ∧ h ≤ 1) (h2 : 0 ≤ t ∧ t ≤ 3) : Pure Tryz.prog 103 [I h, I t] (.tup [I (cnF h t), I 0]) := by
 have e1 : ck 1 h = 0 := zV.2 h1
 have e2 : ck 3 t = 0 := zV.2 h2
 refine fi103.pu (by simp) ?_
 simp -implicitDefEqProofs [ac103]
 refine aG (pF 1 h) (by simp) ?_
 simp -implicitDefEqProofs [e1]
 refine aG (pF 3 t) (by simp) ?_
 simp -implicitDefEqProofs [e2, cnF]
 rw [aR (by omega) (by omega)]
structure Br where
 nl : Bool
 hd : Int
 tl : Int
deriving Inhabited, DecidableEq
def wA (b : Br) : List D := [B b.nl, I b.hd, I b.tl]
def csF (p : Int) : List Br := if p = 0 then [] else if p = 1 then [⟨false, 1, 1⟩] else if p = 2 then [⟨false, 0, 3⟩, ⟨false, 1, 2⟩] else [⟨true, 0, 0⟩, ⟨false, 1, 3⟩]
theorem HB {p : Int} (h : 0 ≤ p ∧ p ≤ 3) : Pure Tryz.prog 102 [I p] (.tup [.sl (em wA (csF p)), I 0]) ∧ Pure Tryz.prog 105 [I p] (.sl (em wA (csF p))) := by
 have e1 : ck 3 p = 0 := zV.2 h
 have hp : p = 0 ∨ p = 1 ∨ p = 2 ∨ p = 3 := by omega
 refine ⟨?_, ?_⟩
 ·refine fi102.pu (by simp) ?_
  simp -implicitDefEqProofs [ac102]
  refine aG (pF 3 p) (by simp) ?_
  simp -implicitDefEqProofs
  rcases hp with rfl | rfl | rfl | rfl <;> simp -implicitDefEqProofs [e1, csF, wA, em]
 ·refine fi105.pu (by simp) ?_
  rcases hp with rfl | rfl | rfl | rfl <;> simp -implicitDefEqProofs [ac105, csF, wA, em]
noncomputable def cf86 : Cfg := ⟨Tryz.prog, 4, [0, 1, 2], []⟩
noncomputable def ac86 : AC :=
 (.seq (.reg [JN 1 0, JP 2 (.mv (.c .nilFunc))]) (.seq (.reg [JO 3 (.mkf 113 [.g 1]), JB 2 3]) .ret))
theorem fi86 : FI Tryz.prog 86 cf86 ac86 [.t 2] [0, 1, 2] 4 := FI_of (c := Tryz.f86.body.getD .skip) Tryz.func86 (by kernel_rfl) (by rfl) (by rfl) (by kernel_rfl) (by kernel_rfl) rfl rfl rfl
@[simp] theorem cfP86 : cf86.P = Tryz.prog := (rfl)
noncomputable def cf113 : Cfg := ⟨Tryz.prog, 19, [0, 1, 3], []⟩
@[simp] theorem cfP113 : cf113.P = Tryz.prog := (rfl)
end Go.Fx.YtlhdpfaohphbaaaGreat
namespace Go.Fx
open Go
inductive rLc : List D → List D → Prop where
 | nil : rLc [] []
 | cons {d d' : D} {ds ds' : List D} (h : rLe d d') (k : rLc ds ds') : rLc (d :: ds) (d' :: ds')
inductive rLe2 : List (List D) → List (List D) → Prop where
 | nil : rLe2 [] []
 | cons {d d' : List D} {ds ds' : List (List D)} (h : rLc d d') (k : rLe2 ds ds') : rLe2 (d :: ds) (d' :: ds')
theorem rLc.refl : ∀ {ds : List D}, rLc ds ds
 | [] => .nil
 | _ :: _ => .cons rLe.refl rLc.refl
theorem rLe2.refl : ∀ {ds : List (List D)}, rLe2 ds ds
 | [] => .nil
 | _ :: _ => .cons rLc.refl rLe2.refl
theorem rLc.len {ds ds' : List D} (h : rLc ds ds') : ds'.length = ds.length := by
 induction h with
 | nil => rfl
 | cons _ _ ih => simp [ih]
theorem rLe2.len {ds ds' : List (List D)} (h : rLe2 ds ds') : ds'.length = ds.length := by
 induction h with
 | nil => rfl
 | cons _ _ ih => simp [ih]
mutual
def D.flat : D → Bool
 | .pl _ => true
 | .agg cs => D.flats cs
 | .tup cs => D.flats cs
 | _ => false
def D.flats : List D → Bool
 | [] => true
 | d :: ds => d.flat && D.flats ds
end
mutual
theorem AD {w w' : World} {S S' : Nat → Prop} {φ φ' : bC} : ∀ (d : D) (x : Value), d.flat = true → Rep w S φ d x → Rep w' S' φ' d x
 | .pl v, x, _, h => by simpa [Rep] using h
 | .agg cs, x, hf, h => by
  simp only [D.flat] at hf
  simp only [Rep] at h ⊢
  obtain ⟨vs, h1, h2⟩ := h
  exact ⟨vs, h1, sA cs _ hf h2⟩
 | .tup cs, x, hf, h => by
  simp only [D.flat] at hf
  simp only [Rep] at h ⊢
  obtain ⟨vs, h1, h2⟩ := h
  exact ⟨vs, h1, sA cs _ hf h2⟩
 | .top, x, hf, _ => by simp [D.flat] at hf
 | .zs, x, hf, _ => by simp [D.flat] at hf
 | .sl _, x, hf, _ => by simp [D.flat] at hf
 | .pt _, x, hf, _ => by simp [D.flat] at hf
 | .opt _ _, x, hf, _ => by simp [D.flat] at hf
 | .osl _ _ _ _, x, hf, _ => by simp [D.flat] at hf
 | .oel _ _ _ _, x, hf, _ => by simp [D.flat] at hf
 | .omap _, x, hf, _ => by simp [D.flat] at hf
 | .fn _ _, x, hf, _ => by simp [D.flat] at hf
theorem sA {w w' : World} {S S' : Nat → Prop} {φ φ' : bC} : ∀ (ds : List D) (xs : List Value), D.flats ds = true → RepVs w S φ ds xs → RepVs w' S' φ' ds xs
 | [], xs, _, h => by simpa [RepVs] using h
 | d :: ds, xs, hf, h => by
  simp only [D.flats, Bool.and_eq_true] at hf
  simp only [RepVs] at h ⊢
  obtain ⟨x, r, h1, h2, h3⟩ := h
  exact ⟨x, r, h1, AD d x hf.1 h2, sA ds r hf.2 h3⟩
end
section
variable {P : Program} {f : FuncId} {args args' : List D} {mem mf : Mem} {nx : Nat} {K : KD}
theorem vO {d0 : D} (hf : d0.flat = true) (h1 : cA mem mf) (hfr : g9 mf 100 args = some args') (hp : Pure P f args' d0) (hk : K d0 mem nx) : bI P f args mem nx K := by
 refine ⟨hp.1, fun S φ w xs hm hx => ?_⟩
 have hmf : MSim S φ mf nx w := fR hm (gV h1) (Nat.le_refl _)
 have hargs := jL hmf 100 args args' xs hfr hx
 have hS2 : ∀ b, SF S φ mf b → b < w.heap.size := by
  rintro b (h | ⟨i, blk, l, _, g2, g3, rfl⟩)
  ·exact hm.sub b h
  ·exact hm.lt i l g2 g3
 refine (hp.2 (SF S φ mf) w xs hS2 hargs).mono ?_
 rintro e w' ⟨v, S', rfl, hr, hx', hS'⟩
 have hsame : ∀ b, b < w.heap.size → w'.heap[b]? = w.heap[b]? := fun b hb => hx'.keep b hb (by rintro ⟨i, blk, l, h1, _⟩; simp [look] at h1)
 have hst : Stays w S φ w' S φ := Stays.of_heap (fun _ h => h) (fun b hb => hsame b (hm.sub b hb)) (fun _ _ h => h)
 refine ⟨v, d0, mem, nx, S, φ, rfl, hk, Nat.le_refl _, ⟨?_, hm.inj, ?_, hm.fresh, fun b hb => Nat.lt_of_lt_of_le (hm.sub b hb) hx'.size⟩, AD d0 v hf hr, hst,
  ⟨fun b hb => hb, fun b hb _ => hsame b hb, hx'.size, fun b _ h => h, fun b hb => .inl hb, hx'.os, hx'.output, hx'.tape⟩, fun _ _ h => h⟩
 ·intro i blk hi
  obtain ⟨l, g1, g2, g3⟩ := hm.mem i blk hi
  exact ⟨l, g1, g2, g3.mono hst fun hr => hsame _ (hm.lt i l g1 hr)⟩
 ·intro i l g1 g2
  exact Nat.lt_of_lt_of_le (hm.lt i l g1 g2) hx'.size
end
set_option maxRecDepth 100000
section
variable {C : Cfg} {w w' W W' : World} {S S' : Nat → Prop} {φ φ' : bC} {a : Act} {env tl : Env} {mem mem' : Mem} {nx nx' : Nat} {x : Rx} {s : St}
theorem xY (hb : ∀ b, S b ∨ Own φ mem b → w'.heap[b]? = w.heap[b]?) (hn : w.heap.size ≤ w'.heap.size) (hm : MSim S φ mem nx w) : MSim S φ mem nx w' ∧ Stays w S φ w' S φ := by
 have hst : Stays w S φ w' S φ := Stays.of_heap (fun _ h => h) (fun b h => hb b (.inl h)) (fun _ _ h => h)
 refine ⟨⟨fun i blk hi => ?_, hm.inj, fun i l h1 h2 => Nat.lt_of_lt_of_le (hm.lt i l h1 h2) hn, hm.fresh, fun b h => Nat.lt_of_lt_of_le (hm.sub b h) hn⟩, hst⟩
 obtain ⟨l, g1, g2, g3⟩ := hm.mem i blk hi
 exact ⟨l, g1, g2, g3.mono hst fun hr => hb _ (.inr ⟨i, blk, l, hi, g1, hr, rfl⟩)⟩
theorem BU (hm : MSim S φ mem nx w) {b : Nat} (hs : S b) : ¬ Own φ mem b := by
 rintro ⟨i, blk, l, h1, h2, h3, rfl⟩
 obtain ⟨l', g1, g2, _⟩ := hm.mem i blk h1
 rw [h2] at g1; simp only [Option.some.injEq] at g1; subst g1
 exact g2 h3 hs
theorem sE {N : Nat} (hm : MSim S φ mem nx w) (hx : Ext S φ mem w S' φ' mem' w') (hg : Grow N φ φ' nx') : Stays w S φ w' S' φ' :=
 ⟨hx.sub, fun b hb o => gR (hx.keep b (hm.sub b hb) (BU hm hb)) o, hg.loc⟩
structure Grown (w w' : World) : Prop where
 size : w.heap.size ≤ w'.heap.size
 same : ∀ b, b < w.heap.size → w'.heap[b]? = w.heap[b]?
 os : w'.os = w.os
 output : w'.output = w.output
 tape : w'.tape = w.tape
theorem GS (hm : MSim S φ mem nx w) {b : Nat} (h : S b ∨ Own φ mem b) : b < w.heap.size := by
 rcases h with h | ⟨i, blk, l, _, h2, h3, rfl⟩
 ·exact hm.sub b h
 ·exact hm.lt i l h2 h3
theorem Grown.ext (h : Grown w w') : Ext S φ mem w S φ mem w' := ⟨fun _ h => h, fun b hb _ => h.same b hb, h.size, fun _ _ h => h, fun _ h => .inl h, h.os, h.output, h.tape⟩
theorem sH (h : Grown w w') (hs : Sim C x S φ s a w) : Sim C x S φ s a w' := by
 obtain ⟨h1, h2⟩ := xY (fun b hb => h.same b (GS hs.m hb)) h.size hs.m
 exact ⟨hs.size, hs.defers.ext hs.m h.ext, fun j d hj hl => Rep.mono h2 _ _ (hs.env j d hj hl), fun j d hj hl => Rep.mono h2 _ _ (hs.tl j d hj hl), h1⟩
theorem l9 {l : Nat} {o : Obj} {b : Nat} (h : b ≠ l) : (w.putObj l o).heap[b]? = w.heap[b]? := World.putObj_heap_other h
theorem rE {l : Nat} {r : Loop} {o : Obj} (hm : MSim S φ mem nx w) (hl : w.heap[l]? = some (.loop r)) (hS : ¬ S l) : MSim S φ mem nx (w.putObj l o) ∧ Stays w S φ (w.putObj l o) S φ :=
 xY (fun b hb => l9 (by
  rintro rfl
  rcases hb with h | h
  ·exact hS h
  ·exact gS hm hl h)) (by simp) hm
theorem qA {l : Nat} {r r' : Loop} {ds : List Deferred} (h : Dfr x S w ds) (hl : w.heap[l]? = some (.loop r)) : Dfr x S (w.putObj l (.loop r')) ds :=
 ⟨h.nd, fun d hd => by
  obtain ⟨D, h1, h2, h3, h4⟩ := h.marks d hd
  exact ⟨D, h1, h2, (l9 (by rintro rfl; rw [hl] at h3; simp at h3)).trans h3, h4⟩, fun j hj => by
  obtain ⟨q, hq⟩ := h.rd j hj
  by_cases e : j = l
  ·subst e; exact ⟨r', World.putObj_heap_same (Array.getElem?_eq_some_iff.1 hl).1⟩
  ·exact ⟨q, (l9 e).trans hq⟩⟩
theorem tX {l : Nat} {o : Obj} (hx : Ext S φ mem w S' φ' mem' w') (hl : w.heap.size ≤ l) : Ext S φ mem w S' φ' mem' (w'.putObj l o) :=
 ⟨hx.sub, fun b hb ho => (l9 (by omega)).trans (hx.keep b hb ho), by simpa using hx.size, hx.own, hx.news, hx.os, hx.output, hx.tape⟩
theorem o4 (w : World) (o : Obj) {k : Nat} (h : k < w.heap.size) : (w.alloc o).heap[k]? = w.heap[k]? := by
 show (w.heap.push o)[k]? = w.heap[k]?
 rw [Array.getElem?_push, if_neg (by omega)]
theorem Grow.weaken {N M : Nat} (h : Grow M φ φ' nx') (hn : N ≤ M) : Grow N φ φ' nx' := ⟨Nat.le_trans hn h.le, fun i hi => h.low i (Nat.lt_of_lt_of_le hi hn), h.loc⟩
theorem ext_le {mem2 : Mem} (hm : fM mem' mem2) (hx : Ext S φ mem w S' φ' mem' w') : Ext S φ mem w S' φ' mem2 w' :=
 ⟨hx.sub, hx.keep, hx.size, fun b hb ⟨i, blk, l, h1, h2⟩ => by
  obtain ⟨b1, g1, _⟩ := hm i blk h1
  exact hx.own b hb ⟨i, b1, l, g1, h2⟩, hx.news, hx.os, hx.output, hx.tape⟩
end
def Iter (P : Program) (f : FuncId) (caps : List D) (xs : List (List D)) : Prop :=
 zX P f ∧ ∀ (w : World) (S : Nat → Prop) (φ : bC) (vs : List Value), RepVs w S φ caps vs → (∀ b, S b → b < w.heap.size) →
  ∃ vals : List (List Value), vals.length = xs.length ∧ (∀ (i : Nat) (y : List D) (v : List Value), xs[i]? = some y → vals[i]? = some v → RepVs w S φ y v) ∧
  ∀ (l : Nat) (J : Nat → (Nat → Prop) → World → Prop) (Jx : World → Prop),
   (∀ i Z W W', J i Z W → Grown W W' → J i Z W') → (∀ W W', Jx W → Grown W W' → Jx W') →
   (∀ i Z W, J i Z W → ∀ b, Z b → b < W.heap.size ∧ ¬ S b) →
   (∀ (i : Nat) (v : List Value) (Z : Nat → Prop) (W : World), vals[i]? = some v → J i Z W → YieldAt Fence.wide 0 P l v.toArray W (fun e W' =>
    (e = .returned (.bool true) ∧ W.heap.size ≤ W'.heap.size ∧ (∀ b, b < W.heap.size → ¬ Z b → W'.heap[b]? = W.heap[b]?) ∧ ∃ Z', J (i + 1) Z' W' ∧ ∀ b, Z' b → Z b ∨ W.heap.size ≤ b) ∨ (e = .returned (.bool false) ∧ Jx W'))) →
   ∀ Z W, J 0 Z W → w.heap.size ≤ W.heap.size → (∀ b, S b → W.heap[b]? = w.heap[b]?) → CallsIn Fence.wide 0 P f (#[.func (.yield l) #[] #[]] ++ vs.toArray) W fun e W' => (∃ v, e = .returned v) ∧ ((∃ Z', J xs.length Z' W') ∨ Jx W')
def asgQ (next : Env → Mem → Nat → Prop) : Exit → St → Prop := fun e s => e = .normal ∧ next s.env s.mem s.nx
def rndQ (next : Mem → Nat → Prop) (Q : Exit → St → Prop) (env : Env) : Exit → St → Prop
 | .normal, s => next s.mem s.nx
 | .exit id, s => Q (.exit id) ⟨env, [], s.mem, s.nx⟩
 | .goto l, s => Q (.goto l) ⟨env, [], s.mem, s.nx⟩
 | .ret, s => Q .ret ⟨env, [], s.mem, s.nx⟩
 | _, _ => False
def tJ : Env → List Nat → List D → Env
 | e, p :: ps, d :: ds => tJ (upd e p d) ps ds
 | e, _, _ => e
theorem yM {C : Cfg} {w : World} {S : Nat → Prop} {φ : bC} : ∀ (ps : List Nat) (ds : List D) (vs : List Value) (env : Env) (tm : Array Value), tm.size = C.n → (∀ p ∈ ps, p ∈ C.gs ∧ p < C.n) → RepVs w S φ ds vs → ds.length = ps.length → (∀ j d, j ∈ C.gs → look env j = some d → Rep w S φ d (tm.getD j undef)) →
  ((ps.zip vs).foldl (fun t (p, v) => t.setIfInBounds p v) tm).size = C.n ∧ ∀ j d, j ∈ C.gs → look (tJ env ps ds) j = some d → Rep w S φ d (((ps.zip vs).foldl (fun t (p, v) => t.setIfInBounds p v) tm).getD j undef)
 | [], ds, vs, env, tm, hs, hp, hr, hl, he => by
  have : ds = [] := List.eq_nil_of_length_eq_zero (by simpa using hl)
  subst this
  exact ⟨hs, he⟩
 | p :: ps, ds, vs, env, tm, hs, hp, hr, hl, he => by
  cases ds with
  | nil => simp at hl
  | cons d ds =>
   simp only [RepVs] at hr
   obtain ⟨v, vs', rfl, h1, h2⟩ := hr
   simp only [List.length_cons, Nat.add_right_cancel_iff] at hl
   obtain ⟨hp1, hp2⟩ := hp p (by simp)
   simp only [List.zip_cons_cons, List.foldl_cons, tJ]
   refine yM ps ds vs' (upd env p d) _ (by simpa using hs) (fun q hq => hp q (by simp [hq])) h2 hl (fun j e hj hl2 => ?_)
   rcases dK p d env j e hl2 with ⟨rfl, rfl⟩ | ⟨hne, hl3⟩
   ·rw [mC (a := ⟨tm, []⟩) v (by simp only; omega)]; exact h1
   ·rw [iG (a := ⟨tm, []⟩) v hne]; exact he j e hj hl3
theorem IG (ps : Array Nat) (vs : List Value) (tm : Array Value) : (ps.zip vs.toArray).foldl (fun t (p, v) => t.setIfInBounds p v) tm = (ps.toList.zip vs).foldl (fun t (p, v) => t.setIfInBounds p v) tm := by
 rw [← Array.foldl_toList, Array.toList_zip]
section
variable {C : Cfg} {Q : Exit → St → Prop} {env : Env} {mem : Mem} {nx : Nat}
def contQ (Q : Exit → St → Prop) : Code → St → Prop
 | .ret, s => Q .ret s
 | .exit id, s => Q (.exit id) s
 | .goto l, s => Q (.goto l) s
 | _, _ => False
theorem T_rfn {g : Operand} {gs : Opd} {ps : Array Nat} {asg body : Code} {ca cb : AC} {f : FuncId} {caps : List D} {xs : List (List D)} (inv : Nat → Mem → Nat → Prop) (hgo : C.opd g = some gs) (hg : ro [] env gs = some (.fn f caps)) (hit : Iter C.P f caps xs)
  (hps : ∀ p ∈ ps.toList, p ∈ C.gs ∧ p < C.n) (hxs : ∀ y ∈ xs, y.length = ps.toList.length) (hca : C.comp asg = some ca) (hcb : C.comp body = some cb) (h0 : inv 0 mem nx)
  (hround : ∀ (i : Nat) (y : List D) mem' nx', xs[i]? = some y → inv i mem' nx' → nx ≤ nx' → A C ca (asgQ fun env2 mem2 nx2 => A C cb (rndQ (fun mem3 nx3 => ∃ mem4 nx4, fM mem3 mem4 ∧ nx3 ≤ nx4 ∧ inv (i + 1) mem4 nx4) Q env) env2 mem2 nx2) (tJ env ps.toList y) mem' nx')
  (hend : ∀ mem' nx', inv xs.length mem' nx' → nx ≤ nx' → Q .normal ⟨env, [], mem', nx'⟩) :
  T C (.rangeFunc g ps asg body) Q ⟨env, [], mem, nx⟩ := by
 intro x N S φ a w hn hB hs
 have hrep := aX ⟨hs.env, hs.tl⟩ hgo hg
 simp only [Rep] at hrep
 obtain ⟨cv, hev, hcv⟩ := hrep
 obtain ⟨⟨fn0, e1, e2, e3⟩, hit⟩ := hit
 obtain ⟨vals, hv1, hv2, hit⟩ := hit w S φ cv.toList hcv hs.m.sub
 refine wpIn_rangeFunc (fun fn _ => ?_)
 obtain ⟨rec, hrec⟩ : ∃ rec : Nat → LoopState → Option Code → Loop, rec = fun D st pe => { state := st, pending := pe, fn, tmps := a.tmps, params := ps, assign := asg, body, defers := D } := ⟨_, rfl⟩
 have enter : ∃ l mark W1 D, (Instr.enterLoop fn a.tmps ps asg body x.rd).run C.P w = .ok (l, mark) W1 ∧ W1.heap[l]? = some (.loop (rec D .ready none)) ∧ w.heap.size ≤ l ∧ Grown w W1 ∧ Dfr x S W1 (mark ++ a.defers) := by
  have grown1 : ∀ (w : World) (o : Obj), Grown w (w.alloc o) := fun w o => ⟨by simp, fun b hb => o4 _ _ hb, rfl, rfl, rfl⟩
  cases hrd : x.rd with
  | none =>
   have hsz : ∀ (w : World) (o : Obj), (w.alloc o).heap.size = w.heap.size + 1 := fun w o => by simp
   refine ⟨w.heap.size + 1, _, _, w.heap.size, run_enterLoop_outer _ _ _ _ _, ?_, by omega, ?_, ?_⟩
   ·have := World.alloc_heap_new (w.alloc (.deferred (some []))) (.loop { state := .ready, pending := none, fn, tmps := a.tmps, params := ps, assign := asg, body, defers := w.heap.size })
    rw [hsz] at this
    rw [this, hrec]
   ·have g1 := grown1 w (.deferred (some []))
    have g2 := grown1 (w.alloc (.deferred (some []))) (.loop { state := .ready, pending := none, fn, tmps := a.tmps, params := ps, assign := asg, body, defers := w.heap.size })
    exact ⟨Nat.le_trans g1.size g2.size, fun b hb => (g2.same b (Nat.lt_of_lt_of_le hb g1.size)).trans (g1.same b hb), rfl, rfl, rfl⟩
   ·have hD : ((w.alloc (.deferred (some []))).alloc (.loop { state := .ready, pending := none, fn, tmps := a.tmps, params := ps, assign := asg, body, defers := w.heap.size })).heap[w.heap.size]? = some (.deferred (some [])) :=
     (o4 _ _ (by rw [hsz]; omega)).trans (World.alloc_heap_new w _)
    have hlow : ∀ b, b < w.heap.size → ((w.alloc (.deferred (some []))).alloc (.loop { state := .ready, pending := none, fn, tmps := a.tmps, params := ps, assign := asg, body, defers := w.heap.size })).heap[b]? = w.heap[b]? := fun b hb =>
     (o4 _ _ (by rw [hsz]; omega)).trans (o4 _ _ hb)
    refine ⟨?_, fun d hd => ?_, fun l hl => ?_⟩
    ·simp only [List.cons_append, List.nil_append, List.map_cons, List.nodup_cons]
     refine ⟨fun hm => ?_, hs.defers.nd⟩
     obtain ⟨d, hd, ht⟩ := List.mem_map.1 hm
     obtain ⟨D, _, g2, g3, _⟩ := hs.defers.marks d hd
     rw [g2] at ht
     simp only [Target.collected.injEq] at ht
     subst ht
     have := (Array.getElem?_eq_some_iff.1 g3).1
     omega
    ·simp only [List.cons_append, List.nil_append, List.mem_cons] at hd
     rcases hd with rfl | hd
     ·exact ⟨w.heap.size, hB, rfl, hD, fun h => by have := hs.m.sub _ h; omega⟩
     ·obtain ⟨D, g1, g2, g3, g4⟩ := hs.defers.marks d hd
      exact ⟨D, g1, g2, (hlow D (Array.getElem?_eq_some_iff.1 g3).1).trans g3, g4⟩
    ·rw [hrd] at hl; simp at hl
  | some l0 =>
   obtain ⟨r0, hr0⟩ := hs.defers.rd l0 hrd
   refine ⟨w.heap.size, _, _, r0.defers, run_enterLoop_inner hr0 _ _ _ _ _, ?_, Nat.le_refl _, grown1 _ _, ?_⟩
   ·rw [World.alloc_heap_new, hrec]
   ·exact hs.defers.ext hs.m (grown1 _ _).ext
 obtain ⟨l, mark, W1, D, hen, hl1, hlw, hgr1, hdf1⟩ := enter
 have hF : (FrR x.rd).round = x.rd := rfl
 refine ⟨l, mark, W1, { target := .fn (.func f) cv, args := #[.func (.yield l) #[] #[]] }, W1, f, #[.func (.yield l) #[] #[]] ++ cv, W1, hen, ?_, fun _ _ => trivial, ?_, fun h => by simp [FrR] at h, ?_⟩
 ·simp only [resolve, hev]
  simp [go_sem]
 ·simp only [invoke, callFunc, Sem.run_bind, run_program, Result.andThen_ok, e1, e2, e3, Bool.false_eq_true, if_false]
  simp [go_sem]
 -- between two rounds
 obtain ⟨a', ha'⟩ : ∃ a' : Act, a' = { a with defers := mark ++ a.defers } := ⟨_, rfl⟩
 rw [← ha']
 have hs1 : Sim C x S φ ⟨env, [], mem, nx⟩ a' W1 := by
  have := sH hgr1 hs
  exact ⟨by rw [ha']; exact this.size, by rw [ha']; exact hdf1, by rw [ha']; exact this.env, by rw [ha']; exact this.tl, this.m⟩
 let J : Nat → (Nat → Prop) → World → Prop := fun i Z W => ∃ mem' nx' S' φ', (∀ b, Z b ↔ Own φ' mem' b ∨ b = l) ∧ inv i mem' nx' ∧ nx ≤ nx' ∧ Sim C x S' φ' ⟨env, [], mem', nx'⟩ a' W ∧ Ext S φ mem w S' φ' mem' W ∧ Grow N φ φ' nx' ∧ W.heap[l]? = some (.loop (rec D .ready none)) ∧ ¬ S' l
 let Jx : World → Prop := fun W => ∃ c s' S' φ', contQ Q c s' ∧ Sim C x S' φ' s' a' W ∧ Ext S φ mem w S' φ' s'.mem W ∧ Grow N φ φ' s'.nx ∧ W.heap[l]? = some (.loop (rec D .done (some c))) ∧ ¬ S' l
 have hnl : ¬ S l := fun h => by have := hs.m.sub l h; omega
 have hlt : ∀ {W : World} {r : Loop}, W.heap[l]? = some (.loop r) → l < W.heap.size := fun h => (Array.getElem?_eq_some_iff.1 h).1
 have key := hit l J Jx ?_ ?_ ?_ ?_ (fun b => Own φ mem b ∨ b = l) W1 ⟨mem, nx, S, φ, fun _ => Iff.rfl, h0, Nat.le_refl _, hs1, hgr1.ext, Grow.refl hn, hl1, hnl⟩ hgr1.size (fun b hb => hgr1.same b (hs.m.sub b hb))
 ·-- behind the rounds
  have hFeq : ∀ {R R' : Ending → World → Prop}, CallsIn Fence.wide 0 C.P f (#[.func (.yield l) #[] #[]] ++ cv) W1 R → (∀ e W, R e W → R' e W) → CallsIn (FrR x.rd) (0 - 1) C.P f (#[.func (.yield l) #[] #[]] ++ cv) W1 R' := fun h hr =>
   ⟨trivial, fun cs _ => by
    obtain ⟨e, w', fr, k1, k2, k3⟩ := h.2 cs (room_wide _)
    exact ⟨e, w', fr, hr _ _ k1, k2, k3⟩⟩
  refine hFeq (by simpa using key) ?_
  have hend1 : ∀ (st : LoopState) (pe : Option Code) (W : World), st ≠ .busy → W.heap[l]? = some (.loop (rec D st pe)) → (Instr.endLoop l).run C.P W = .ok pe (W.putObj l (.loop (rec D .exhausted pe))) := fun st pe W hst h => by
   have := run_endLoop (P := C.P) h (by simpa [hrec] using hst)
   simpa [hrec] using this
  rintro e W3 ⟨⟨v, rfl⟩, hJ⟩
  rcases hJ with ⟨_, mem', nx', S', φ', _, hi, hnn, hsm, hx, hg, hl3, hS3⟩ | ⟨c, s', S', φ', hc, hsm, hx, hg, hl3, hS3⟩
  ·refine ⟨none, _, hend1 _ _ _ (by simp) hl3, ?_⟩
   obtain ⟨p1, p2⟩ := rE (o := .loop (rec D .exhausted none)) hsm.m hl3 hS3
   exact ⟨_, S', φ', hend mem' nx' hi hnn, ⟨hsm.size, qA hsm.defers hl3, fun j d hj hl => Rep.mono p2 _ _ (hsm.env j d hj hl), fun j d hj hl => Rep.mono p2 _ _ (hsm.tl j d hj hl), p1⟩, tX hx hlw, hg⟩
  ·refine ⟨some c, _, hend1 _ _ _ (by simp) hl3, ?_⟩
   obtain ⟨p1, p2⟩ := rE (o := .loop (rec D .exhausted (some c))) hsm.m hl3 hS3
   have hpost : ∀ e, Q e s' → Post C x N S φ mem w Q e a' (W3.putObj l (.loop (rec D .exhausted (some c)))) := fun e he =>
    ⟨s', S', φ', he, ⟨hsm.size, qA hsm.defers hl3, fun j d hj hl => Rep.mono p2 _ _ (hsm.env j d hj hl), fun j d hj hl => Rep.mono p2 _ _ (hsm.tl j d hj hl), p1⟩, tX hx hlw, hg⟩
   cases c with
   | ret => exact wpIn_ret (hpost _ hc)
   | exit id => exact wpIn_exit (hpost _ hc)
   | goto t => exact wpIn_goto (hpost _ hc)
   | _ => exact hc.elim
 ·rintro i Z W W' ⟨mem', nx', S', φ', hZ, hi, hnn, hsm, hx, hg, hl3, hS3⟩ hgw
  exact ⟨mem', nx', S', φ', hZ, hi, hnn, sH hgw hsm, hx.trans hgw.ext, hg, (hgw.same l (hlt hl3)).trans hl3, hS3⟩
 ·rintro W W' ⟨c, s', S', φ', hc, hsm, hx, hg, hl3, hS3⟩ hgw
  exact ⟨c, s', S', φ', hc, sH hgw hsm, hx.trans hgw.ext, hg, (hgw.same l (hlt hl3)).trans hl3, hS3⟩
 ·rintro i Z W ⟨mem', nx', S', φ', hZ, hi, hnn, hsm, hx, hg, hl3, hS3⟩ b hb
  rcases (hZ b).1 hb with h | rfl
  ·exact ⟨GS hsm.m (.inr h), fun hS => BU hsm.m (hx.sub b hS) h⟩
  ·exact ⟨hlt hl3, hnl⟩
 ·-- one round
  rintro i v Z W hv ⟨mem', nx', S', φ', hZ, hi, hnn, hsm, hx, hg, hl3, hS3⟩
  have hil : i < xs.length := by
   rw [← hv1]
   exact (List.getElem?_eq_some_iff.1 hv).1
  have hy : xs[i]? = some xs[i] := List.getElem?_eq_getElem hil
  generalize xs[i] = y at hy
  have hylen : y.length = ps.toList.length := hxs y (List.mem_of_getElem? hy)
  have hrv := RepVs.mono (sE hs.m hx hg) y v (hv2 i y v hy hv)
  have hvlen : v.length = ps.size := by
   have := bR _ _ hrv
   have e : ps.toList.length = ps.size := by simp
   omega
  have hyield := run_yield (P := C.P) (args := v.toArray) hl3 (by simp [hrec]; omega)
  have hA := hround i y mem' nx' hy hi hnn
  obtain ⟨tm, htm⟩ : ∃ tm, tm = (ps.zip v.toArray).foldl (fun t (p, v) => t.setIfInBounds p v) a.tmps := ⟨_, rfl⟩
  have hput := yM (C := C) ps.toList y v env a.tmps hs.size hps hrv hylen (fun j d hj hl => by
   have := hsm.env j d hj hl
   rw [ha'] at this; exact this)
  rw [← IG, ← htm] at hput
  simp only [hrec] at hyield
  rw [← htm] at hyield
  refine ⟨fn, tm, asg, body, hyield, roundIn_of_wpIn trivial ?_⟩
  have hT := pW hca hA ⟨some l, x.B⟩ nx' S' φ' { tmps := tm, defers := [] } W (Nat.le_refl _) (Nat.le_trans hB hx.size) ⟨hput.1, ⟨by simp, fun d hd => by simp at hd, fun j hj => by simp only [Option.some.injEq] at hj; subst hj; exact ⟨_, hl3⟩⟩, hput.2, fun j d _ hl => by simp [look] at hl, hsm.m⟩
  refine wpIn_mono hT ?_
  rintro e a1 W2 ⟨s1, S1, φ1, ⟨rfl, hA2⟩, hs2, hx2, hg2⟩
  have hl4 : W2.heap[l]? = some (.loop (rec D .ready none)) := (hx2.keep l (hlt hl3) (gS hsm.m hl3)).trans hl3
  have hS4 : ¬ S1 l := fun h => by
   rcases hx2.news l h with g | g | g
   ·exact hS3 g
   ·have := hlt hl3; omega
   ·exact gS hsm.m hl3 g
  refine ⟨_, run_beginRound hl4 (by simp [hrec]), ?_⟩
  obtain ⟨p1, p2⟩ := rE (o := .loop { rec D .ready none with state := .busy }) hs2.m hl4 hS4
  have hl5 : (W2.putObj l (.loop { rec D .ready none with state := .busy })).heap[l]? = some (.loop { rec D .ready none with state := .busy }) := World.putObj_heap_same (hlt hl4)
  have hst2 := sE hsm.m hx2 hg2
  have hso : Sim C x S1 φ1 ⟨env, [], s1.mem, s1.nx⟩ a' (W2.putObj l (.loop { rec D .ready none with state := .busy })) :=
   ⟨hsm.size, qA (hsm.defers.ext hsm.m hx2) hl4, fun j d hj hl => Rep.mono p2 _ _ (Rep.mono hst2 _ _ (hsm.env j d hj hl)), fun j d hj hl => by simp [look] at hl, p1⟩
  have hsi : Sim C ⟨some l, x.B⟩ S1 φ1 ⟨s1.env, [], s1.mem, s1.nx⟩ a1 (W2.putObj l (.loop { rec D .ready none with state := .busy })) :=
   ⟨hs2.size, qA hs2.defers hl4, fun j d hj hl => Rep.mono p2 _ _ (hs2.env j d hj hl), fun j d hj hl => by simp [look] at hl, p1⟩
  have hx3 : Ext S φ mem w S1 φ1 s1.mem (W2.putObj l (.loop { rec D .ready none with state := .busy })) := tX (hx.trans hx2) hlw
  have hg3 := hg.trans (hg2.weaken (Nat.le_trans hn hnn))
  have hn1 : nx ≤ s1.nx := Nat.le_trans hnn hg2.le
  have hk3 : ∀ b, b < W.heap.size → ¬ Z b → (W2.putObj l (.loop { rec D .ready none with state := .busy })).heap[b]? = W.heap[b]? := fun b hb hz => by
   have hz' := fun h => hz ((hZ b).2 h)
   exact (l9 fun e => hz' (.inr e)).trans (hx2.keep b hb fun e => hz' (.inl e))
  have ho3 : ∀ b, b < W.heap.size → Own φ1 s1.mem b → Own φ' mem' b := fun b hb h => hx2.own b hb h
  have hz3 : W.heap.size ≤ (W2.putObj l (.loop { rec D .ready none with state := .busy })).heap.size := by simpa using hx2.size
  generalize W2.putObj l (.loop { rec D .ready none with state := .busy }) = W3 at *
  refine wpIn_mono (pW hcb hA2 ⟨some l, x.B⟩ s1.nx S1 φ1 a1 W3 (Nat.le_refl _) (Nat.le_trans hB hx3.size) hsi) ?_
  rintro e a3 W4 ⟨s3, S3, φ3, hq, hs3, hx4, hg4⟩
  have hl6 : W4.heap[l]? = some (.loop { rec D .ready none with state := .busy }) := (hx4.keep l (hlt hl5) (gS hsi.m hl5)).trans hl5
  have hS6 : ¬ S3 l := fun h => by
   rcases hx4.news l h with g | g | g
   ·exact hS4 g
   ·have := hlt hl5; omega
   ·exact gS hsi.m hl5 g
  have hst4 := sE hso.m hx4 hg4
  have hn3 : nx ≤ s3.nx := Nat.le_trans hn1 hg4.le
  have hg4' := hg4.weaken (Nat.le_trans hn hn1)
  have hfin : ∀ (j : Option Code) (st : LoopState), st = (if j.isNone then .ready else .done) → ∀ mem4 nx4, fM s3.mem mem4 → s3.nx ≤ nx4 →
    Sim C x S3 φ3 ⟨env, [], mem4, nx4⟩ a' (W4.putObj l (.loop { ({ rec D .ready none with state := .busy } : Loop) with state := if j.isNone then .ready else .done, pending := j })) ∧ Ext S φ mem w S3 φ3 mem4 (W4.putObj l (.loop { ({ rec D .ready none with state := .busy } : Loop) with state := if j.isNone then .ready else .done, pending := j })) ∧ Grow N φ φ3 nx4 ∧
    (W4.putObj l (.loop { ({ rec D .ready none with state := .busy } : Loop) with state := if j.isNone then .ready else .done, pending := j })).heap[l]? = some (.loop (rec D st j)) := by
   intro j st hst mem4 nx4 hle hnx
   obtain ⟨q1, q2⟩ := rE (o := .loop { ({ rec D .ready none with state := .busy } : Loop) with state := if j.isNone then .ready else .done, pending := j }) hs3.m hl6 hS6
   refine ⟨⟨hso.size, qA (hso.defers.ext hso.m hx4) hl6, fun k d hj hl => Rep.mono q2 _ _ (Rep.mono hst4 _ _ (hso.env k d hj hl)), fun k d hj hl => by simp [look] at hl, fR q1 hle hnx⟩, ext_le hle (tX (hx3.trans hx4) hlw), ⟨Nat.le_trans (hg3.trans hg4').le hnx, (hg3.trans hg4').low, (hg3.trans hg4').loc⟩, ?_⟩
   rw [World.putObj_heap_same (hlt hl6), hst]
   simp [hrec]
  cases e with
  | normal =>
   obtain ⟨mem4, nx4, hle, hnx, hinv⟩ := hq
   refine ⟨_, _, run_endRound none hl6, .inl ⟨rfl, by simpa using Nat.le_trans hz3 hx4.size, fun b hb hz => ?_, fun b => Own φ3 mem4 b ∨ b = l, ⟨mem4, nx4, S3, φ3, fun _ => Iff.rfl, hinv, ?_, ?_⟩, fun b hb => ?_⟩⟩
   ·have hz' := fun h => hz ((hZ b).2 h)
    exact (l9 fun e => hz' (.inr e)).trans ((hx4.keep b (Nat.lt_of_lt_of_le hb hz3) fun e => hz' (.inl (ho3 b hb e))).trans (hk3 b hb hz))
   ·exact Nat.le_trans hn3 hnx
   rotate_left
   ·by_cases hlw2 : b < W.heap.size
    ·left
     rw [hZ b]
     rcases hb with ⟨j, blk, lc, h1, h2⟩ | h
     ·obtain ⟨b1, g1, _⟩ := hle j blk h1
      exact .inl (ho3 b hlw2 (hx4.own b (Nat.lt_of_lt_of_le hlw2 hz3) ⟨j, b1, lc, g1, h2⟩))
     ·exact .inr h
    ·right; omega
   ·obtain ⟨g1, g2, g3, g4⟩ := hfin none .ready rfl mem4 nx4 hle hnx
    exact ⟨g1, g2, g3, g4, hS6⟩
  | ret =>
   refine ⟨_, _, run_endRound (some .ret) hl6, .inr ⟨rfl, .ret, ⟨env, [], s3.mem, s3.nx⟩, S3, φ3, hq, ?_⟩⟩
   obtain ⟨g1, g2, g3, g4⟩ := hfin (some .ret) .done rfl s3.mem s3.nx (aI _) (Nat.le_refl _)
   exact ⟨g1, g2, g3, g4, hS6⟩
  | exit id =>
   refine ⟨_, _, run_endRound (some (.exit id)) hl6, .inr ⟨rfl, .exit id, ⟨env, [], s3.mem, s3.nx⟩, S3, φ3, hq, ?_⟩⟩
   obtain ⟨g1, g2, g3, g4⟩ := hfin (some (.exit id)) .done rfl s3.mem s3.nx (aI _) (Nat.le_refl _)
   exact ⟨g1, g2, g3, g4, hS6⟩
  | goto t =>
   refine ⟨_, _, run_endRound (some (.goto t)) hl6, .inr ⟨rfl, .goto t, ⟨env, [], s3.mem, s3.nx⟩, S3, φ3, hq, ?_⟩⟩
   obtain ⟨g1, g2, g3, g4⟩ := hfin (some (.goto t)) .done rfl s3.mem s3.nx (aI _) (Nat.le_refl _)
   exact ⟨g1, g2, g3, g4, hS6⟩
  | panic ch => exact hq.elim
  | outgrown => exact hq.elim
theorem I4 {g : Opd} {ps : List Nat} {ca cb : AC} {f : FuncId} {caps : List D} {xs : List (List D)} (inv : Nat → Mem → Nat → Prop) (hg : ro [] env g = some (.fn f caps)) (hit : Iter C.P f caps xs) (hall : ps.all (fun p => C.gs.contains p && decide (p < C.n)) = true)
  (hxs : ∀ y ∈ xs, y.length = ps.length) (h0 : inv 0 mem nx)
  (hround : ∀ (i : Nat) (y : List D) mem' nx', xs[i]? = some y → inv i mem' nx' → nx ≤ nx' → A C ca (dP C (asgQ fun env2 mem2 nx2 => A C cb (dP C (rndQ (fun mem3 nx3 => ∃ mem4 nx4, fM mem3 mem4 ∧ nx3 ≤ nx4 ∧ inv (i + 1) mem4 nx4) Q env) []) env2 mem2 nx2) []) (tJ env ps y) mem' nx')
  (hend : ∀ mem' nx', inv xs.length mem' nx' → nx ≤ nx' → Q .normal ⟨env, [], mem', nx'⟩) :
  A C (.rfn g ps ca cb) Q env mem nx := by
 rw [A_rfn]
 intro c hc
 cases c with
 | rangeFunc g0 ps0 x y =>
  simp only [Cfg.comp, Option.bind_eq_bind, Option.bind_eq_some_iff] at hc
  obtain ⟨g1, hg1, a1, h1, a2, h2, hc⟩ := hc
  simp only [Option.some.injEq, AC.rfn.injEq] at hc
  obtain ⟨rfl, rfl, rfl, rfl⟩ := hc
  simp only [List.all_eq_true, Bool.and_eq_true, decide_eq_true_eq, List.contains_iff_mem] at hall
  exact T_rfn inv hg1 hg hit (fun p hp => by simpa using hall p hp) hxs h1 h2 h0 hround hend
 | seq p q =>
  obtain ⟨a, b, _, _, h | h | h⟩ := xI hc
  ·obtain ⟨is, c, p, q, _, _, e⟩ := h; simp at e
  ·obtain ⟨is, c, p, q, z, _, _, e⟩ := h; simp at e
  ·simp at h
 | region id ops draw =>
  simp only [Cfg.comp, Option.bind_eq_bind, Option.bind_eq_some_iff] at hc
  obtain ⟨is, _, h⟩ := hc
  split at h
  ·split at h <;> simp at h
  ·simp at h
 | _ => simp [Cfg.comp, Option.bind_eq_some_iff] at hc
end
section
variable {C : Cfg} {w : World} {S : Nat → Prop} {φ : bC} {a : Act} {env tl : Env} {mem : Mem} {nx : Nat}
theorem kQ {x : Rx} {rd : Option Nat} {ops : Array Oper} {base : Nat} {K : Env → Env → Mem → Nat → Prop} {Q : Exit → Act → World → Prop} {rest : List Nat} (hd : tQ ops) (hq : ∀ a w, ¬ Q .outgrown a w) :
  ∀ (is : List Ins) (j : Nat) (env tl : Env) (mem : Mem) (nx : Nat) (S : Nat → Prop) (φ : bC) (a : Act) (w : World),
  (∀ i y, is[i]? = some y → ∃ o, ops[j + i]? = some o ∧ C.ins ops o = some y) → run C base K is j env tl mem nx → lY C x S φ env tl mem nx a w → (∀ i, j ≤ i → i < j + is.length → φ (base + i) = none) → base + j + is.length ≤ nx →
  (∀ env' tl' mem' nx' S' φ' a' w', K env' tl' mem' nx' → lY C x S' φ' env' tl' mem' nx' a' w' → Ext S φ mem w S' φ' mem' w' → a'.defers = a.defers → wpOpsIn (FrR rd) 0 C.P ops Q rest a' w') →
  wpOpsIn (FrR rd) 0 C.P ops Q (List.range' j is.length ++ rest) a w
 | [], j, env, tl, mem, nx, S, φ, a, w, hm, hr, hh, hf, hn, hk => hk env tl mem nx S φ a w hr hh (Ext.refl ..) rfl
 | y :: is, j, env, tl, mem, nx, S, φ, a, w, hm, hr, hh, hf, hn, hk => by
  obtain ⟨o, ho, hi⟩ := hm 0 y rfl
  rw [tU] at hr
  simp only [List.length_cons] at hf hn ⊢
  rw [List.range'_succ, List.cons_append, wpOpsIn_cons]
  refine uU hd hq ?_ (sR (k := j) ho hi hr hh (hf j (Nat.le_refl _) (by omega)) (by omega))
  rintro a' w' ⟨S', φ', env', tl', mem', nx', h1, h2, h3, h4, h5, h6, h7⟩
  refine kQ hd hq is (j + 1) env' tl' mem' nx' S' φ' a' w' (fun i z hz => ?_) h1 h2 (fun i hi hi2 => h6 _ (by omega) (by omega) (hf i (by omega) (by omega))) (by omega) (fun e t m n S2 φ2 a2 w2 k1 k2 k3 k4 => hk e t m n S2 φ2 a2 w2 k1 k2 (h4.trans k3) (k4.trans h7))
  obtain ⟨o2, g1, g2⟩ := hm (i + 1) z hz
  exact ⟨o2, by rw [show j + 1 + i = j + (i + 1) by omega]; exact g1, g2⟩
theorem sB {x : Rx} {rd : Option Nat} {id : Nat} {ops : Array Oper} {is : List Ins} {K : Env → Env → Mem → Nat → Prop} {Q : Exit → Act → World → Prop} (hq : ∀ a w, ¬ Q .outgrown a w) (hc : C.comp (.region id ops false) = some (.reg is)) (hs : Sim C x S φ ⟨env, tl, mem, nx⟩ a w)
  (hr : run C nx K is 0 env [] mem (nx + is.length))
  (hk : ∀ env' tl' mem' nx' S' φ' a' w', K env' tl' mem' nx' → lY C x S' φ' env' tl' mem' nx' a' w' → Ext S φ mem w S' φ' mem' w' → a'.defers = a.defers → Q .normal a' w') : (Code.region id ops false).wpIn (FrR rd) 0 C.P Q a w := by
 simp only [Cfg.comp, Option.bind_eq_bind, Option.bind_eq_some_iff, Bool.false_eq_true, if_false, Option.some.injEq, AC.reg.injEq] at hc
 obtain ⟨is', his, rfl⟩ := hc
 have hlen : is'.length = ops.size := by rw [← eY his]; simp
 refine wpIn_region ?_
 have e : List.range ops.size = List.range' 0 is'.length ++ [] := by rw [hlen, List.append_nil, List.range_eq_range']
 rw [e]
 refine kQ (x := x) (base := nx) (lP his) hq is' 0 env [] mem (nx + is'.length) S φ a w (fun i y hy => ?_) hr ⟨⟨hs.env, fun j d _ h => by simp [look] at h⟩, hs.size, hs.defers, ⟨hs.m.mem, hs.m.inj, hs.m.lt, fun i hi => hs.m.fresh i (Nat.le_trans (Nat.le_add_right _ _) hi), hs.m.sub⟩⟩ (fun i _ _ => hs.m.fresh _ (Nat.le_add_right _ _)) (by omega) hk
 obtain ⟨o, ho, hi⟩ := iW his i y hy
 exact ⟨o, by simpa using ho, hi⟩
theorem LR {rd : Option Nat} {P : Program} {ops : Array Oper} {Q : Exit → Act → World → Prop} {i : Nat} {o : Oper} {c : Call} {X : Operand} {l : Nat} {K : Act → World → Prop} {R : Ending → World → Prop} (ho : ops[i]? = some o) (hg : o.guard = none) (hop : o.op = .call c) (hc : c.callee = .value X) (hX : a.eval X = .func (.yield l) #[] #[])
  (hy : YieldAt Fence.wide 0 P l (c.args.map a.eval) w R) (hR : ∀ e w', R e w' → ∃ v, e = .returned v ∧ K (a.put o.dst v) w') : wpOpIn (FrR rd) 0 P ops Q i K a w := by
 unfold wpOpIn
 simp only [ho]
 have hw : Region.wanted o (yielded ops a.tmps) = true := by simp [Region.wanted, hg]
 rw [if_pos hw]
 refine ⟨fun _ _ => trivial, ?_⟩
 rw [Oper.semAt_eq _ _ _ (fun d hd => by rw [hop] at hd; simp at hd)]
 obtain ⟨fn, tm, asg, body, h1, h2⟩ := hy
 have he : (execOp a.eval o).run P w = .ok (.round l fn tm asg body) w := by
  unfold execOp
  rw [hop]
  simp only [resolve, hc, Sem.run_bind, hX, Deferred.ofValue, Sem.run_pure, Result.andThen_ok, invoke]
  simpa using h1
 rw [he]
 refine ⟨fun h => by simp [FrR] at h, trivial, fun c cs _ => ?_⟩
 obtain ⟨e, w', k1, k2⟩ := h2.2 c cs (room_wide _)
 obtain ⟨v, rfl, hk⟩ := hR e w' k1
 exact ⟨.returned v, w', hk, k2⟩
theorem GL {B n : Nat} {args : List D} {xs : List Value} (hn : n = C.n) (hl : args.length ≤ C.n) (hx : RepVs w S φ args xs) (hm : MSim S φ mem nx w) : Sim C ⟨none, B⟩ S φ ⟨pT C.gs args, [], mem, nx⟩ { tmps := xs.toArray ++ Array.replicate (n - xs.toArray.size) undef, defers := [] } w := by
 have hlen := bR _ _ hx
 exact ⟨by simp; omega, Dfr.nil, fun j d _ hd => by
   have := oU args _ _ _ hd
   subst this
   cases ha : args[j]? with
   | none =>
    have hj : args.length ≤ j := List.getElem?_eq_none_iff.1 ha
    simp only [Option.getD_none, Rep]
    rw [Array.getD_eq_getD_getElem?, Array.getElem?_append_right (by simp; omega)]
    simp only [Array.getElem?_replicate]
    split <;> rfl
   | some d =>
    obtain ⟨x, hx1, hr⟩ := kA _ _ _ _ hx ha
    have hj : j < xs.length := (List.getElem?_eq_some_iff.1 hx1).1
    simp only [Option.getD_some]
    rw [Array.getD_eq_getD_getElem?, Array.getElem?_append_left (by simpa using hj)]
    simpa [hx1] using hr, fun j d _ h => by simp [look] at h, hm⟩
end
section
variable {P : Program} {ty e : TypeId} {f : FuncId} {r : D} {es : List (List D)}
theorem NU (hu : P.underlying ty = some (.slice e)) (h : es ≠ []) : bG P .eql ty (.sl es) (.pl (.slice none 0 0)) = some (.pl (.bool false)) := by
 cases es with
 | nil => exact absurd rfl h
 | cons a l => simp [bG, nilS, hu]
theorem OI (hu : P.underlying ty = some (.slice e)) {p : Addr} {n c : Nat} : bG P .eql ty (.pl (.slice (some p) n c)) (.pl (.slice none 0 0)) = some (.pl (.bool false)) := by
 simp [bG, nilS, hu, lit]
theorem LV (hu : P.underlying ty = some (.slice e)) : Sem.look P (Op.equal ty (.slice none 0 0) (.slice none 0 0)) = some true := by
 unfold Op.equal Op.maxDepth Op.equalIn
 simp [oT, underlying, program, Bind.bind, Sem.bind, Sem.look, hu, Pure.pure]
theorem M5 (hu : P.underlying ty = some (.slice e)) : bG P .eql ty (.pl (.slice none 0 0)) (.pl (.slice none 0 0)) = some (.pl (.bool true)) := by
 simp only [bG, lit, Bool.and_self, if_true]
 rw [show binOp .eql ty (.slice none 0 0) (.slice none 0 0) = (Op.equal ty (.slice none 0 0) (.slice none 0 0) >>= fun b => pure (.bool b)) from rfl, oT, LV hu]
 rfl
theorem EZ (h1 : Pure P f [.pl (.slice none 0 0)] r) (h2 : ∀ p c, Pure P f [.pl (.slice (some p) 0 c)] r) (h3 : es ≠ [] → Pure P f [.sl es] r) : Pure P f [.sl es] r := by
 by_cases he : es = []
 ·subst he
  refine ⟨h1.1, fun S w xs hS hx => ?_⟩
  simp only [RepVs] at hx
  obtain ⟨x, rest, rfl, hx, rfl⟩ := hx
  simp only [Rep] at hx
  have hz : x = .slice none 0 0 ∨ ∃ p c, x = .slice (some p) 0 c := by
   rcases hx with ⟨_, hz | ⟨p, hz⟩⟩ | ⟨b, o, cap, k, hz, _⟩
   ·exact .inl hz
   ·exact .inr ⟨p, 0, hz⟩
   ·exact .inr ⟨_, cap, hz⟩
  rcases hz with rfl | ⟨p, c, rfl⟩
  ·exact h1.2 S w _ hS (by simp [RepVs, Rep])
  ·exact (h2 p c).2 S w _ hS (by simp [RepVs, Rep])
 ·exact h3 he
end
end Go.Fx
set_option maxRecDepth 1000000
set_option maxHeartbeats 4000000
namespace Go.Fx.YtlhdpfaohphbaaaGreat
open Go Go.Fx Go.Proofs
theorem back_c (l : List Int) : Pure Tryz.prog 86 [.sl (em aT l)] (.fn 113 [.pt [.sl (em aT l)]]) := by
 refine fi86.pu (by simp) ?_
 simp -implicitDefEqProofs [ac86]
noncomputable def HG : Code := Tryz.f113.body.getD .skip
noncomputable def bkO0 : Array Oper := match HG with | .seq (.region _ o _) _ => o | _ => #[]
noncomputable def bkL : Code := match HG with | .seq _ (.block _ (.loop x)) => x | _ => .skip
noncomputable def bkO1 : Array Oper := match bkL with | .seq (.seq (.region _ o _) _) _ => o | _ => #[]
noncomputable def bkO3 : Array Oper := match bkL with | .seq _ (.seq (.block _ (.seq (.region _ o _) _)) _) => o | _ => #[]
noncomputable def bkO2 : Array Oper := match bkL with | .seq _ (.seq _ (.region _ o _)) => o | _ => #[]
theorem bk_eq : Tryz.f113.body = some (.seq (.region 0 bkO0 false) (.block 0 (.loop (.seq (.seq (.region 1 bkO1 false) (.cond (.tmp 8) .skip (.exit 0))) (.seq (.block 1 (.seq (.region 3 bkO3 false) (.cond (.tmp 18) .ret .skip))) (.region 2 bkO2 false)))))) := by kernel_rfl
theorem bk_c0 : cf113.comp (.region 0 bkO0 false) = some (.reg [.mk (.t 4) none (.ld false 1 (.g 1)), .mk (.t 5) none (.len false (.t 4)), .mk (.t 6) none (.bin .sub 3 (.t 5) (.c (.int .i64 1))), .mk (.g 3) none (.mv (.t 6))]) := by kernel_rfl
theorem bk_c1 : cf113.comp (.region 1 bkO1 false) = some (.reg [.mk (.t 7) none (.mv (.g 3)), .mk (.t 8) none (.bin .geq 3 (.t 7) (.c (.int .i64 0)))]) := by kernel_rfl
theorem bk_c2 : cf113.comp (.region 2 bkO2 false) = some (.reg [.mk (.t 9) none (.mv (.g 3)), .mk (.t 10) none (.bin .sub 3 (.t 9) (.c (.int .i64 1))), .mk (.g 3) none (.mv (.t 10))]) := by kernel_rfl
theorem zS : bkO3.toList.mapM (cf113.ins bkO3) = some [.mk (.t 11) none (.mv (.g 0)), .mk (.t 12) none (.mv (.g 3)), .mk (.t 13) none (.ld false 1 (.g 1)), .mk (.t 14) none (.mv (.g 3)), .mk (.t 15) none (.ia 1 (.t 13) (.t 14)), .mk (.t 16) none (.ld false 1 (.t 15)), .mk (.t 17) none (.pc (.t 11) [.t 12, .t 16]), .mk (.t 18) none (.un .not (.t 17))] := by kernel_rfl
theorem bk_y : ∃ o c, bkO3[6]? = some o ∧ o.guard = none ∧ o.op = .call c ∧ c.callee = .value (.tmp 11) ∧ c.args = #[.tmp 12, .tmp 16] ∧ o.dst = some 17 := ⟨_, _, rfl, rfl, rfl, rfl, rfl, rfl⟩
theorem bk_n3 : bkO3.size = 8 := by kernel_rfl
def kX (l : List Int) : List (List D) := (List.range l.length).reverse.map fun (i : Nat) => [I i, I (l[i]?.getD 0)]
theorem oS (l : List Int) : (kX l).length = l.length := by simp [kX]
theorem LH (l : List Int) {i : Nat} (h : i < l.length) : (kX l)[i]? = some [I ((l.length - 1 - i : Nat) : Int), I (l[l.length - 1 - i]?.getD 0)] := by
 unfold kX
 have e : (List.range l.length).reverse[i]? = some (l.length - 1 - i) := by
  rw [List.getElem?_reverse (by simpa using h), List.length_range, List.getElem?_range (by omega)]
 rw [List.getElem?_map, e]
 rfl
abbrev yv (l : Nat) : Value := .func (.yield l) #[] #[]
def bkE (y : Nat) (l : List Int) (z : Int) : Env := [(0, .pl (yv y)), (1, .pt [.sl (em aT l)]), (3, I z)]
def bkMu (a : Act) (_ : World) : Nat := match a.tmps.getD 3 undef with | .int _ z => (z + 1).toNat | _ => 0
theorem GU (l : List Int) (hl : l.length < 2 ^ 48) : Iter Tryz.prog 113 [.pt [.sl (em aT l)]] (kX l) := by
 refine ⟨⟨Tryz.f113, Tryz.func113, by kernel_rfl, by rw [bk_eq]; rfl⟩, ?_⟩
 intro w S φ vs hvs hS
 simp only [RepVs] at hvs
 obtain ⟨p, r, rfl, hp, rfl⟩ := hvs
 refine ⟨(List.range l.length).reverse.map fun (i : Nat) => [.int .i64 i, .int .i64 (l[i]?.getD 0)], by simp [kX], fun i y v hy hv => ?_, ?_⟩
 ·unfold kX at hy
  rw [List.getElem?_map, Option.map_eq_some_iff] at hy hv
  obtain ⟨j, h1, rfl⟩ := hy
  obtain ⟨k, h2, rfl⟩ := hv
  rw [h1] at h2
  simp only [Option.some.injEq] at h2
  subst h2
  simp [RepVs, Rep]
 intro y J Jx hJ hJx hZ hy Z W hJ0 hWs hWS
 obtain ⟨S1, hS1⟩ : ∃ S1, S1 = SF S φ [] := ⟨_, rfl⟩
 have hSS : ∀ b, S1 b → S b := fun b hb => by
  rw [hS1] at hb
  rcases hb with h | ⟨i, blk, lc, h, _⟩
  ·exact h
  ·simp [look] at h
 have hSS2 : ∀ b, S b → S1 b := fun b hb => by rw [hS1]; exact .inl hb
 have hp1 : Rep w S1 bN (.pt [.sl (em aT l)]) p := by rw [hS1]; exact wE (by simp [D.imm, D.imms]) hp
 have hp2 : Rep W S1 bN (.pt [.sl (em aT l)]) p := Rep.mono (Stays.of_heap (fun _ h => h) (fun b hb => hWS b (hSS b hb)) (fun _ _ h => h)) _ _ hp1
 have hm0 : MSim S1 bN [] 0 W := ⟨fun i blk h => by simp [look] at h, fun i j l m h => by simp [bN] at h, fun i l h => by simp [bN] at h, fun _ _ => rfl, fun b hb => Nat.lt_of_lt_of_le (hS b (hSS b hb)) hWs⟩
 have hfn := Tryz.func113
 refine callsIn_of_wp (F := FrR none) hfn bk_eq trivial ?_
 obtain ⟨R, hR⟩ : ∃ R : Ending → World → Prop, R = fun e W' => (∃ v, e = .returned v) ∧ ((∃ Z', J (kX l).length Z' W') ∨ Jx W') := ⟨_, rfl⟩
 rw [← hR]
 have hRo : ∀ w, ¬ R .outgrown w := fun w h => by
  rw [hR] at h
  obtain ⟨⟨v, hv⟩, _⟩ := h
  cases hv
 obtain ⟨x, hx⟩ : ∃ x : Rx, x = ⟨none, W.heap.size⟩ := ⟨_, rfl⟩
 have hs0 := GL (C := cf113) (B := W.heap.size) (n := Tryz.f113.ntmps) (args := [.pl (yv y), .pt [.sl (em aT l)]]) (xs := [yv y, p]) (by rfl) (by show 2 ≤ 19; decide) (by simp only [RepVs]; exact ⟨_, _, rfl, by simp [Rep], _, _, rfl, hp2, rfl⟩) hm0
 rw [← hx] at hs0
 have e0 : pT cf113.gs [.pl (yv y), .pt [.sl (em aT l)]] = [(0, .pl (yv y)), (1, .pt [.sl (em aT l)]), (3, .pl undef)] := rfl
 rw [e0] at hs0
 show Code.wpIn (FrR none) 0 Tryz.prog _ _ { tmps := [yv y, p].toArray ++ Array.replicate (Tryz.f113.ntmps - [yv y, p].toArray.size) undef, defers := [] } W
 have hd0 : ({ tmps := [yv y, p].toArray ++ Array.replicate (Tryz.f113.ntmps - [yv y, p].toArray.size) undef, defers := [] } : Act).defers = [] := rfl
 generalize ({ tmps := [yv y, p].toArray ++ Array.replicate (Tryz.f113.ntmps - [yv y, p].toArray.size) undef, defers := [] } : Act) = a0 at *
 have grown : ∀ {S2 S3 : Nat → Prop} {φ2 φ3 : bC} {W2 W3 : World}, Ext S2 φ2 [] W2 S3 φ3 [] W3 → Grown W2 W3 := fun h => ⟨h.size, fun b hb => h.keep b hb (by rintro ⟨i, blk, lc, h1, _⟩; simp [look] at h1), h.os, h.output, h.tape⟩
 have news : ∀ {S2 S3 : Nat → Prop} {φ2 φ3 : bC} {W2 W3 : World}, Ext S2 φ2 [] W2 S3 φ3 [] W3 → ∀ b, S3 b → S2 b ∨ W2.heap.size ≤ b := fun h b hb => by
  rcases h.news b hb with g | g | ⟨i, blk, lc, h1, _⟩
  ·exact .inl g
  ·exact .inr g
  ·simp [look] at h1
 have hnb : l.length < 2 ^ 48 := hl
 -- what holds at the loop's head
 let Inv : Act → World → Prop := fun a W2 => ∃ (i : Nat) (Z2 : Nat → Prop) (S2 : Nat → Prop) (φ2 : bC) (nx2 : Nat), i ≤ l.length ∧ J i Z2 W2 ∧ Sim cf113 x S2 φ2 ⟨bkE y l ((l.length : Int) - 1 - i), [], [], nx2⟩ a W2 ∧ a.defers = [] ∧ (∀ b, Z2 b → ¬ S2 b) ∧ W.heap.size ≤ W2.heap.size
 have w0 := aR (x := (l.length : Int) - 1) (by omega) (by omega)
 refine wpIn_seq (sB (C := cf113) (is := _) (K := fun e t m n => e = bkE y l ((l.length : Int) - 1) ∧ m = []) (fun a w h => hRo w h) bk_c0 hs0 ?_ ?_)
 ·simp -implicitDefEqProofs [w0, bkE]
 rintro env1 tl1 mem1 nx1 S2 φ2 a1 W1 ⟨rfl, rfl⟩ hh1 hx1 hd1
 refine wpIn_block (wpIn_loop Inv bkMu ⟨0, Z, S2, φ2, nx1, by omega, hJ 0 Z W W1 hJ0 (grown hx1), ⟨hh1.size, hh1.defers, by simpa using hh1.known.env, fun j d _ h => by simp [look] at h, hh1.m⟩, hd1.trans hd0, fun b hb hS => ?_, hx1.size⟩ ?_)
 ·obtain ⟨g1, g2⟩ := hZ 0 Z W hJ0 b hb
  rcases news hx1 b hS with h | h
  ·exact g2 (hSS b h)
  ·omega
 -- one round
 rintro a2 W2 ⟨i, Z2, S3, φ3, nx3, hi, hJ2, hs2, hd2, hZ2, hW2⟩
 have hmu : bkMu a2 W2 = l.length - i := by
  have := hs2.env 3 (I ((l.length : Int) - 1 - i)) (by show 3 ∈ [0, 1, 3]; decide) rfl
  simp only [Rep] at this
  unfold bkMu
  rw [this]
  simp only
  omega
 have w1 := aR (x := (l.length : Int) - 1 - i - 1) (by omega) (by omega)
 refine wpIn_seq (wpIn_seq (sB (C := cf113) (is := _) (K := fun e t m n => e = bkE y l ((l.length : Int) - 1 - i) ∧ m = [] ∧ look t 8 = some (B (decide (0 ≤ (l.length : Int) - 1 - i)))) (fun a w h => hRo w h) bk_c1 hs2 ?_ ?_))
 ·simp -implicitDefEqProofs [bkE]
 rintro env4 tl4 mem4 nx4 S4 φ4 a4 W4 ⟨rfl, rfl, ht4⟩ hh4 hx4 hd4
 have hc8 := hh4.known.tl 8 _ (by show 8 ∉ [0, 1, 3]; decide) ht4
 simp only [Rep] at hc8
 have hZ4 : ∀ b, Z2 b → ¬ S4 b := fun b hb hS => by
  rcases news hx4 b hS with h | h
  ·exact hZ2 b hb h
  ·have := (hZ i Z2 W2 hJ2 b hb).1
   omega
 have hJ4 := hJ i Z2 W2 W4 hJ2 (grown hx4)
 have hW4 := Nat.le_trans hW2 hx4.size
 refine wpIn_cond (t := decide (0 ≤ (l.length : Int) - 1 - i)) hc8 ?_
 by_cases hlt : i < l.length
 ·rw [if_pos (by simp; omega)]
  refine wpIn_skip ?_
  obtain ⟨o6, c6, ho6, hg6, hop6, hcv6, hca6, hdst6⟩ := bk_y
  have hx0 : i < (kX l).length := by rw [oS]; exact hlt
  have hzi : (l.length : Int) - 1 - i = ((l.length - 1 - i : Nat) : Int) := by omega
  have hj : l.length - 1 - i < l.length := by omega
  have hval : ((List.range l.length).reverse.map fun (i : Nat) => [Value.int .i64 i, .int .i64 (l[i]?.getD 0)])[i]? = some [.int .i64 ((l.length - 1 - i : Nat) : Int), .int .i64 (l[l.length - 1 - i]?.getD 0)] := by
   have e : (List.range l.length).reverse[i]? = some (l.length - 1 - i) := by
    rw [List.getElem?_reverse (by simpa using hlt), List.length_range, List.getElem?_range (by omega)]
   rw [List.getElem?_map, e]
   rfl
  refine wpIn_seq (wpIn_block (wpIn_seq (wpIn_region ?_)))
  have hr8 : List.range bkO3.size = List.range' 0 6 ++ [6, 7] := by rw [bk_n3]; rfl
  rw [hr8]
  have hins : ∀ (k : Nat) (z : Ins), [Ins.mk (.t 11) none (.mv (.g 0)), .mk (.t 12) none (.mv (.g 3)), .mk (.t 13) none (.ld false 1 (.g 1)), .mk (.t 14) none (.mv (.g 3)), .mk (.t 15) none (.ia 1 (.t 13) (.t 14)), .mk (.t 16) none (.ld false 1 (.t 15)), .mk (.t 17) none (.pc (.t 11) [.t 12, .t 16]), .mk (.t 18) none (.un .not (.t 17))][k]? = some z → ∃ o, bkO3[k]? = some o ∧ cf113.ins bkO3 o = some z := fun k z hz => by
   obtain ⟨o, h1, h2⟩ := iW zS k z hz
   exact ⟨o, by simpa using h1, h2⟩
  refine kQ (C := cf113) (x := x) (rd := none) (base := nx4) (K := fun e t m n => e = bkE y l ((l.length : Int) - 1 - i) ∧ m = [] ∧ look t 11 = some (.pl (yv y)) ∧ look t 12 = some (I ((l.length : Int) - 1 - i)) ∧ look t 16 = some (I (l[l.length - 1 - i]?.getD 0))) (lP zS) ?_
   [Ins.mk (.t 11) none (.mv (.g 0)), .mk (.t 12) none (.mv (.g 3)), .mk (.t 13) none (.ld false 1 (.g 1)), .mk (.t 14) none (.mv (.g 3)), .mk (.t 15) none (.ia 1 (.t 13) (.t 14)), .mk (.t 16) none (.ld false 1 (.t 15))] 0 (bkE y l ((l.length : Int) - 1 - i)) [] [] (nx4 + 6) S4 φ4 a4 W4 (fun k z hz => ?_) ?_ ?_ (fun k _ _ => hh4.m.fresh _ (by omega)) (by simp) ?_
  ·intro a w h; exact hRo w h
  ·rw [Nat.zero_add]
   refine hins k z ?_
   match k, hz with
   | 0, hz => exact hz
   | 1, hz => exact hz
   | 2, hz => exact hz
   | 3, hz => exact hz
   | 4, hz => exact hz
   | 5, hz => exact hz
   | k + 6, hz => simp at hz
  ·rw [hzi]
   simp -implicitDefEqProofs [bkE, hj]
  ·exact ⟨⟨hh4.known.env, fun j d _ h => by simp [look] at h⟩, hh4.size, hh4.defers, ⟨hh4.m.mem, hh4.m.inj, hh4.m.lt, fun k hk => hh4.m.fresh k (by omega), hh4.m.sub⟩⟩
  rintro env5 tl5 mem5 nx5 S5 φ5 a5 W5 ⟨rfl, rfl, t11, t12, t16⟩ hh5 hx5 hd5
  have q11 := hh5.known.tl 11 _ (by show 11 ∉ [0, 1, 3]; decide) t11
  have q12 := hh5.known.tl 12 _ (by show 12 ∉ [0, 1, 3]; decide) t12
  have q16 := hh5.known.tl 16 _ (by show 16 ∉ [0, 1, 3]; decide) t16
  simp only [Rep] at q11 q12 q16
  have hJ5 := hJ i Z2 W4 W5 hJ4 (grown hx5)
  have hW5 := Nat.le_trans hW4 hx5.size
  have hd5' : a5.defers = [] := hd5.trans (hd4.trans hd2)
  have hZ5 : ∀ b, Z2 b → ¬ S5 b := fun b hb hS => by
   rcases news hx5 b hS with h | h
   ·exact hZ4 b hb h
   ·have := (hZ i Z2 W4 hJ4 b hb).1
    omega
  rw [wpOpsIn_cons]
  have hargs : c6.args.map a5.eval = [Value.int .i64 ((l.length - 1 - i : Nat) : Int), .int .i64 (l[l.length - 1 - i]?.getD 0)].toArray := by
   rw [hca6]
   simp only [List.map_toArray, List.map_cons, List.map_nil, Act.eval, q12, q16, hzi]
  refine LR ho6 hg6 hop6 hcv6 (by simpa only [Act.eval] using q11) (by rw [hargs]; exact hy i _ Z2 W5 hval hJ5) ?_
  rw [hdst6]
  have h7 : ∃ o, bkO3[7]? = some o ∧ cf113.ins bkO3 o = some (.mk (.t 18) none (.un .not (.t 17))) := hins 7 _ rfl
  have hsz5 : ∀ bv : Bool, (a5.put (some 17) (.bool bv)).tmps.size = cf113.n := fun bv => by simpa [Act.put] using hh5.size
  have hsz6 : 17 < a5.tmps.size := by rw [hh5.size]; show 17 < 19; decide
  have h17 : ∀ bv : Bool, (a5.put (some 17) (.bool bv)).tmps.getD 17 undef = .bool bv := fun bv => by simp only [Act.put]; exact mC _ hsz6
  have hne : ∀ (bv : Bool) (j : Nat), j ≠ 17 → (a5.put (some 17) (.bool bv)).tmps.getD j undef = a5.tmps.getD j undef := fun bv j hj => by simp only [Act.put]; exact iG _ hj
  rintro e W6 (⟨rfl, hz6, hk6, Z6, hJ6, hZ6⟩ | ⟨rfl, hJ6⟩)
  ·refine ⟨.bool true, rfl, ?_⟩
   have hS6 : ∀ b, S5 b → W6.heap[b]? = W5.heap[b]? := fun b hb => hk6 b (hh5.m.sub b hb) fun hz => hZ5 b hz hb
   have hst6 : Stays W5 S5 φ5 W6 S5 φ5 := Stays.of_heap (fun _ h => h) hS6 (fun _ _ h => h)
   have hh6 : lY cf113 x S5 φ5 (bkE y l ((l.length : Int) - 1 - i)) [(17, B true)] [] (nx5 + 8) (a5.put (some 17) (.bool true)) W6 := by
    refine ⟨⟨fun j d hj hl => ?_, fun j d hj hl => ?_⟩, hsz5 true, by show Dfr x _ W6 a5.defers; rw [hd5', hx]; exact Dfr.nil, ⟨fun k blk h => by simp [look] at h, hh5.m.inj, fun k lc h1 h2 => Nat.lt_of_lt_of_le (hh5.m.lt k lc h1 h2) hz6, fun k hk => hh5.m.fresh k (by omega), fun b hb => Nat.lt_of_lt_of_le (hh5.m.sub b hb) hz6⟩⟩
    ·have hj17 : j ≠ 17 := by
      rintro rfl
      have : (17 : Nat) ∈ [0, 1, 3] := hj
      simp at this
     rw [hne true j hj17]
     exact Rep.mono hst6 _ _ (hh5.known.env j d hj hl)
    ·simp only [look] at hl
     split at hl
     ·rename_i e; subst e
      simp only [Option.some.injEq] at hl
      subst hl
      rw [h17 true]
      simp [Rep]
     ·simp at hl
   have e7 : ([7] : List Nat) = List.range' 7 [Ins.mk (.t 18) none (.un .not (.t 17))].length ++ [] := rfl
   rw [e7]
   refine kQ (C := cf113) (x := x) (rd := none) (base := nx5) (K := fun e t m n => e = bkE y l ((l.length : Int) - 1 - i) ∧ m = [] ∧ look t 18 = some (B false)) (lP zS) ?_ _ 7 _ _ _ _ S5 φ5 _ W6 (fun k z hz => ?_) ?_ hh6 (fun k _ _ => hh5.m.fresh _ (by omega)) (by simp) ?_
   ·intro a w h; exact hRo w h
   ·match k, hz with
    | 0, hz => simp only [List.getElem?_cons_zero, Option.some.injEq] at hz; subst hz; exact h7
    | k + 1, hz => simp at hz
   ·simp -implicitDefEqProofs
   rintro env7 tl7 bT nx7 S7 φ7 a7 W7 ⟨rfl, rfl, t18⟩ hh7 hx7 hd7
   have q18 := hh7.known.tl 18 _ (by show 18 ∉ [0, 1, 3]; decide) t18
   simp only [Rep] at q18
   show Code.wpIn _ _ _ _ _ _ _
   refine wpIn_cond_false (by simpa only [Act.eval] using q18) (wpIn_skip ?_)
   have hd7' : a7.defers = [] := hd7.trans hd5'
   have hJ7 := hJ (i + 1) Z6 W6 W7 hJ6 (grown hx7)
   have hW7 := Nat.le_trans hW5 (Nat.le_trans hz6 hx7.size)
   have hZ7 : ∀ b, Z6 b → ¬ S7 b := fun b hb hS => by
    rcases news hx7 b hS with h | h
    ·rcases hZ6 b hb with g | g
     ·exact hZ5 b g h
     ·have := hh5.m.sub b h
      omega
    ·have := (hZ (i + 1) Z6 W6 hJ6 b hb).1
     omega
   refine sB (C := cf113) (x := x) (env := bkE y l ((l.length : Int) - 1 - i)) (tl := []) (mem := []) (nx := nx7) (is := _) (K := fun e t m n => e = bkE y l ((l.length : Int) - 1 - (i + 1 : Nat)) ∧ m = []) (fun a w h => hRo w h) bk_c2 ⟨hh7.size, hh7.defers, hh7.known.env, fun j d _ h => by simp [look] at h, hh7.m⟩ ?_ ?_
   ·simp -implicitDefEqProofs [bkE, w1]
    omega
   rintro env8 tl8 mem8 nx8 S8 φ8 a8 W8 ⟨rfl, rfl⟩ hh8 hx8 hd8
   have hJ8 := hJ (i + 1) Z6 W7 W8 hJ7 (grown hx8)
   have hs8 : Sim cf113 x S8 φ8 ⟨bkE y l ((l.length : Int) - 1 - (i + 1 : Nat)), [], [], nx8⟩ a8 W8 := ⟨hh8.size, hh8.defers, hh8.known.env, fun j d _ h => by simp [look] at h, hh8.m⟩
   refine ⟨⟨i + 1, Z6, S8, φ8, nx8, by omega, hJ8, hs8, hd8.trans hd7', fun b hb hS => ?_, Nat.le_trans hW7 hx8.size⟩, ?_⟩
   ·rcases news hx8 b hS with h | h
    ·exact hZ7 b hb h
    ·have := (hZ (i + 1) Z6 W7 hJ7 b hb).1
     omega
   ·rw [hmu]
    have := hs8.env 3 (I ((l.length : Int) - 1 - (i + 1 : Nat))) (by show 3 ∈ [0, 1, 3]; decide) rfl
    simp only [Rep] at this
    unfold bkMu
    rw [this]
    simp only
    omega
  ·refine ⟨.bool false, rfl, ?_⟩
   have hh6 : lY cf113 x (fun _ => False) bN [] [(17, B false)] [] 1 (a5.put (some 17) (.bool false)) W6 := by
    refine ⟨⟨fun j d hj hl => by simp [look] at hl, fun j d hj hl => ?_⟩, hsz5 false, by show Dfr x _ W6 a5.defers; rw [hd5', hx]; exact Dfr.nil, ⟨fun k blk h => by simp [look] at h, fun i j l m h => by simp [bN] at h, fun i l h => by simp [bN] at h, fun _ _ => rfl, fun b hb => hb.elim⟩⟩
    simp only [look] at hl
    split at hl
    ·rename_i e; subst e
     simp only [Option.some.injEq] at hl
     subst hl
     rw [h17 false]
     simp [Rep]
    ·simp at hl
   have e7 : ([7] : List Nat) = List.range' 7 [Ins.mk (.t 18) none (.un .not (.t 17))].length ++ [] := rfl
   rw [e7]
   refine kQ (C := cf113) (x := x) (rd := none) (base := 0) (K := fun e t m n => m = [] ∧ look t 18 = some (B true)) (lP zS) ?_ _ 7 _ _ _ 8 (fun _ => False) bN _ W6 (fun k z hz => ?_) ?_ ⟨hh6.known, hh6.size, hh6.defers, ⟨hh6.m.mem, hh6.m.inj, hh6.m.lt, fun _ _ => rfl, hh6.m.sub⟩⟩ (fun k _ _ => rfl) (by simp) ?_
   ·intro a w h; exact hRo w h
   ·match k, hz with
    | 0, hz => simp only [List.getElem?_cons_zero, Option.some.injEq] at hz; subst hz; exact h7
    | k + 1, hz => simp at hz
   ·simp -implicitDefEqProofs
   rintro env7 tl7 bT nx7 S7 φ7 a7 W7 ⟨rfl, t18⟩ hh7 hx7 hd7
   have q18 := hh7.known.tl 18 _ (by show 18 ∉ [0, 1, 3]; decide) t18
   simp only [Rep] at q18
   show Code.wpIn _ _ _ _ _ _ _
   refine wpIn_cond_true (by simpa only [Act.eval] using q18) (wpIn_ret ?_)
   show a7.defers = [] ∧ _
   refine ⟨hd7.trans hd5', ?_⟩
   obtain ⟨v, hv, hrun⟩ := mE (C := cf113) (fn := Tryz.f113) (xs := []) (ds := []) hh7.known hh7.m (by kernel_rfl) rfl
   refine ⟨v, hrun, ?_⟩
   rw [hR]
   exact ⟨⟨v, rfl⟩, .inr (hJx W6 W7 hJ6 (grown hx7))⟩
 ·rw [if_neg (by simp; omega)]
  refine wpIn_exit ?_
  have hil : i = l.length := by omega
  subst hil
  show a4.defers = [] ∧ _
  refine ⟨hd4.trans hd2, ?_⟩
  obtain ⟨v, hv, hrun⟩ := mE (C := cf113) (fn := Tryz.f113) (xs := []) (ds := []) hh4.known hh4.m (by kernel_rfl) rfl
  refine ⟨v, hrun, ?_⟩
  rw [hR]
  exact ⟨⟨v, rfl⟩, .inl ⟨Z2, by rw [oS]; exact hJ4⟩⟩
set_option maxRecDepth 100000
def okT (ts : List Int) : Prop := ∀ t ∈ ts, 0 ≤ tp t
instance (ts : List Int) : Decidable (okT ts) := by unfold okT; infer_instance
def pr : List Int → Int
 | [] => 1
 | t :: ts => (tp t + 1) * pr ts
def bX (ts : List Int) : Int × Int := if okT ts then (if 4096 < pr ts then (0, 22) else (pr ts, 0)) else (0, 3)
theorem kE (t : Int) (ts : List Int) : pr (t :: ts) = (tp t + 1) * pr ts := rfl
theorem fK (t : Int) : tp t = -1 ∨ tp t = 1 ∨ tp t = 3 := by
 rcases u7 t with ⟨_, h⟩ | ⟨_, h⟩ | ⟨_, h⟩ | ⟨_, _, _, h⟩ <;> simp [h]
theorem zT : ∀ (ts : List Int), 0 ≤ pr ts
 | [] => by simp [pr]
 | t :: ts => by
  unfold pr
  rcases fK t with h | h | h <;> rw [h] <;> have := zT ts <;> omega
theorem sW {t : Int} {ts : List Int} (h : okT (t :: ts)) : 0 ≤ tp t ∧ okT ts := ⟨h t (by simp), fun u hu => h u (by simp [hu])⟩
theorem fF {ts : List Int} (h : okT ts) (i : Nat) : okT (ts.drop i) := fun t ht => h t (List.mem_of_mem_drop ht)
theorem cZ : ∀ {ts : List Int}, okT ts → 1 ≤ pr ts
 | [], _ => by simp [pr]
 | t :: ts, h => by
  unfold pr
  obtain ⟨h1, h2⟩ := sW h
  have := cZ h2
  rcases fK t with h | h | h <;> rw [h] <;> omega
theorem OG {a P : Int} (hP : 0 ≤ P) : min (min a 4097 * P) 4097 = min (a * P) 4097 := by
 by_cases h : a ≤ 4097
 ·have e : min a 4097 = a := Int.min_eq_left h
  rw [e]
 ·have e : min a 4097 = 4097 := Int.min_eq_right (by omega)
  rw [e]
  by_cases h0 : P = 0
  ·subst h0; simp
  ·have h1 : 4097 * 1 ≤ 4097 * P := Int.mul_le_mul_of_nonneg_left (by omega) (by omega)
   have h2 : 4097 * P ≤ a * P := Int.mul_le_mul_of_nonneg_right (by omega) hP
   omega
theorem pC {l : List Int} {i : Nat} (h : i < l.length) : l.drop i = l[i] :: l.drop (i + 1) := List.drop_eq_getElem_cons h
theorem wrS {x : Int} (h1 : -100000 ≤ x) (h2 : x ≤ 100000) : IntKind.i64.wrap x = x := aR (by omega) (by omega)
theorem sO (t : Int) : Pure Tryz.prog 83 [I t] (.tup [I (if tp t < 0 then 1 else tp t + 1), I (if tp t < 0 then 3 else 0)]) := by
 refine fi83.pu (by simp) ?_
 simp -implicitDefEqProofs [ac83]
 refine aG (Top_c t) (by simp) ?_
 simp -implicitDefEqProofs
 have w := wrS (x := tp t + 1) (by have := fK t; omega) (by have := fK t; omega)
 by_cases h : tp t < 0
 ·simp -implicitDefEqProofs [nY, h]
  decide
 ·simp -implicitDefEqProofs [nY, h, w]
theorem oJ (ts : List Int) (hl : ts.length < 2 ^ 48) : Pure Tryz.prog 82 [.sl (em aT ts)] (.tup [I (bX ts).1, I (bX ts).2]) := by
 refine fi82.pu (by simp) ?_
 simp -implicitDefEqProofs [ac82]
 refine lpG cf82 lb82_0 [2, 3, 4, 6, 7, 8, 11] (α := Nat × Int) (fun s _ => [(2, .top), (3, .top), (4, I s.2), (6, .top), (7, .top), (8, .top), (11, I s.1)]) (fun s _ => []) (fun s k => s.1 ≤ ts.length ∧ okT (ts.take s.1) ∧ 1 ≤ s.2 ∧ s.2 ≤ 4097 ∧ min (s.2 * pr (ts.drop s.1)) 4097 = min (pr ts) 4097) (fun s => ts.length - s.1) (0, 1) ⟨by simp, by simp [okT], by simp, by simp, by simp⟩ (by simp) (by simp) ?_
 rintro ⟨i, n⟩ k ⟨hi, ho, hn1, hn2, hp⟩
 simp only at hi ho hn1 hn2 hp
 by_cases hlt : i < ts.length
 ·obtain ⟨t, ht⟩ : ∃ t, ts[i] = t := ⟨_, rfl⟩
  rw [pC hlt, ht] at hp
  rw [kE] at hp
  have w1 := aR (x := (i : Int) + 1) (by omega) (by omega)
  simp -implicitDefEqProofs [lb82_0, hlt, ht]
  refine aG (sO t) (by simp) ?_
  simp -implicitDefEqProofs
  by_cases hb : tp t < 0
  ·have hno : ¬ okT ts := fun h => by have := h t (ht ▸ List.getElem_mem hlt); omega
   have hb1 : ¬ 0 ≤ tp t := by omega
   simp -implicitDefEqProofs [hb, hb1, bX, hno]
  ·have hb1 : 0 ≤ tp t := by omega
   have hk : 2 ≤ tp t + 1 ∧ tp t + 1 ≤ 4 := by have := fK t; omega
   have hm : 0 ≤ n * (tp t + 1) ∧ n * (tp t + 1) ≤ 20000 ∧ 1 ≤ n * (tp t + 1) := by
    obtain ⟨h1, h2⟩ := hk
    rcases fK t with h | h | h <;> rw [h] <;> omega
   have w2 := wrS (x := n * (tp t + 1)) (by omega) (by omega)
   simp -implicitDefEqProofs [hb, hb1, w1, w2]
   refine aK (i + 1, min (n * (tp t + 1)) 4097) ⟨hlt, ?_, by simp only; omega, by simp only; omega, ?_⟩ (by simp only; omega) (by simp) (by simp)
   ·simp only
    rw [List.take_succ_eq_append_getElem hlt, ht]
    intro u hu
    rcases List.mem_append.1 hu with h | h
    ·exact ho u h
    ·simp only [List.mem_singleton] at h; subst h; omega
   ·simp only
    rw [OG (zT _), Int.mul_assoc]
    exact hp
 ·have hil : i = ts.length := by omega
  subst hil
  rw [List.take_length] at ho
  rw [List.drop_length] at hp
  simp only [pr, Int.mul_one] at hp
  have hnl : ¬ (ts.length < ts.length) := by omega
  by_cases hbig : 4096 < n
  ·have : 4096 < pr ts := by omega
   simp -implicitDefEqProofs [lb82_0, hbig, bX, ho, this]
  ·have h1 : ¬ 4096 < pr ts := by omega
   have h2 : n = pr ts := by omega
   subst h2
   simp -implicitDefEqProofs [lb82_0, bX, ho, h1]
theorem iV (ts : List Int) (hl : ts.length < 2 ^ 48) : Pure Tryz.prog 31 [.sl (em aT ts)] (.tup [I (bX ts).1, I (bX ts).2]) := by
 refine fi31.pu (by simp) ?_
 simp -implicitDefEqProofs [ac31]
 refine lpG cf31 lb31_1 [2, 3, 4] (α := Nat) (fun s _ => [(2, .top), (3, .top), (4, I s)]) (fun s _ => []) (fun s k => s ≤ ts.length ∧ okT (ts.take s)) (fun s => ts.length - s) 0 ⟨by simp, by simp [okT]⟩ (by simp) (by simp) ?_
 rintro i k ⟨hi, ho⟩
 by_cases hlt : i < ts.length
 ·obtain ⟨t, ht⟩ : ∃ t, ts[i] = t := ⟨_, rfl⟩
  have w1 := aR (x := (i : Int) + 1) (by omega) (by omega)
  simp -implicitDefEqProofs [lb31_1, hlt, ht]
  refine aG (iQ t) (by simp) ?_
  simp -implicitDefEqProofs
  by_cases hb : tp t < 0
  ·have hno : ¬ okT ts := fun h => by have := h t (ht ▸ List.getElem_mem hlt); omega
   have hb1 : ¬ 0 ≤ tp t := by omega
   simp -implicitDefEqProofs [hb, hb1, bX, hno]
  ·have hb1 : 0 ≤ tp t := by omega
   simp -implicitDefEqProofs [hb, hb1, w1]
   refine aK (i + 1) ⟨hlt, ?_⟩ (by omega) (by simp) (by simp)
   rw [List.take_succ_eq_append_getElem hlt, ht]
   intro u hu
   rcases List.mem_append.1 hu with h | h
   ·exact ho u h
   ·simp only [List.mem_singleton] at h; subst h; omega
 ·have hil : i = ts.length := by omega
  subst hil
  rw [List.take_length] at ho
  simp -implicitDefEqProofs [lb31_1]
  refine lpG cf31 lb31_0 [2, 3, 5, 6] (α := Nat × Int) (fun s _ => [(2, .top), (3, .top), (5, I s.2), (6, I s.1)]) (fun s _ => []) (fun s k => s.1 ≤ ts.length ∧ 1 ≤ s.2 ∧ s.2 ≤ 4096 ∧ s.2 * pr (ts.drop s.1) = pr ts) (fun s => ts.length - s.1) (0, 1) ⟨by simp, by simp, by simp, by simp⟩ (by simp) (by simp) ?_
  rintro ⟨i, n⟩ k ⟨hi, hn1, hn2, hp⟩
  simp only at hi hn1 hn2 hp
  by_cases hlt : i < ts.length
  ·obtain ⟨t, ht⟩ : ∃ t, ts[i] = t := ⟨_, rfl⟩
   have hto : 0 ≤ tp t := ho t (ht ▸ List.getElem_mem hlt)
   rw [pC hlt, ht] at hp
   rw [kE] at hp
   have hP := cZ (fF ho (i + 1))
   have w1 := aR (x := (i : Int) + 1) (by omega) (by omega)
   have w0 := wrS (x := tp t + 1) (by omega) (by have := fK t; omega)
   have hm : 1 ≤ n * (tp t + 1) ∧ n * (tp t + 1) ≤ 20000 := by
    rcases fK t with h | h | h <;> rw [h] <;> omega
   have w2 := wrS (x := n * (tp t + 1)) (by omega) (by omega)
   simp -implicitDefEqProofs [lb31_0, hlt, ht]
   refine aG (iQ t) (by simp) ?_
   simp -implicitDefEqProofs
   rw [← Int.mul_assoc] at hp
   by_cases hbig : 4096 < n * (tp t + 1)
   ·have : 4096 < pr ts := by
     have : n * (tp t + 1) * 1 ≤ n * (tp t + 1) * pr (ts.drop (i + 1)) := Int.mul_le_mul_of_nonneg_left hP (by omega)
     omega
    simp -implicitDefEqProofs [w0, w2, hbig, Int.not_le.2 hbig, bX, ho, this]
   ·simp -implicitDefEqProofs [w0, w1, w2, hbig, Int.not_lt.1 hbig]
    exact aK (i + 1, n * (tp t + 1)) ⟨hlt, hm.1, by simp only; omega, hp⟩ (by simp only; omega) (by simp) (by simp)
  ·rw [List.drop_eq_nil_of_le (by omega)] at hp
   simp only [pr, Int.mul_one] at hp
   subst hp
   have h1 : ¬ 4096 < pr ts := by omega
   simp -implicitDefEqProofs [lb31_0, hlt, bX, ho, h1]
theorem cX {ts : List Int} (h : (bX ts).2 = 0) : okT ts ∧ pr ts ≤ 4096 ∧ (bX ts).1 = pr ts := by
 unfold bX at h ⊢
 by_cases h1 : okT ts
 ·rw [if_pos h1] at h ⊢
  by_cases h2 : 4096 < pr ts
  ·rw [if_pos h2] at h; simp at h
  ·rw [if_neg h2]; exact ⟨h1, by omega, rfl⟩
 ·rw [if_neg h1] at h; simp at h
def vl : List Int → List Int → Int → Int
 | t :: ts, p :: ps, a => vl ts ps (a * (tp t + 1) + p)
 | _, _, a => a
def inT : List Int → List Int → Bool
 | t :: ts, p :: ps => decide (0 ≤ p ∧ p ≤ tp t) && inT ts ps
 | [], [] => true
 | _, _ => false
theorem dL (t p : Int) (ts ps : List Int) : inT (t :: ts) (p :: ps) = (decide (0 ≤ p ∧ p ≤ tp t) && inT ts ps) := rfl
theorem fT (t p a : Int) (ts ps : List Int) : vl (t :: ts) (p :: ps) a = vl ts ps (a * (tp t + 1) + p) := rfl
theorem D3 : inT [] [] = true := rfl
theorem GY (a : Int) : vl [] [] a = a := rfl
def dC (ts ps : List Int) : Int × Int := if (bX ts).2 ≠ 0 then (0, (bX ts).2) else if ps.length ≠ ts.length then (0, 3) else if inT ts ps then (vl ts ps 0, 0) else (0, 2)
theorem BH {a k p P N : Int} (ha : 0 ≤ a) (h : (a + 1) * (k * P) ≤ N) (hp : 0 ≤ p) (hk : p < k) (hP : 1 ≤ P) : 0 ≤ a * k + p ∧ (a * k + p + 1) * P ≤ N ∧ a * k + p < N + 1 := by
 have h0 : 0 ≤ a * k := Int.mul_nonneg ha (by omega)
 have e : (a + 1) * k = a * k + k := by rw [Int.add_mul, Int.one_mul]
 have h1 : (a * k + p + 1) * P ≤ ((a + 1) * k) * P := Int.mul_le_mul_of_nonneg_right (by omega) (by omega)
 rw [Int.mul_assoc] at h1
 have h2 : (a * k + p + 1) * 1 ≤ (a * k + p + 1) * P := Int.mul_le_mul_of_nonneg_left hP (by omega)
 omega
theorem BE (ts ps : List Int) (hl : ts.length < 2 ^ 48) (hl2 : ps.length < 2 ^ 48) : Pure Tryz.prog 49 [.sl (em aT ts), .sl (em aT ps)] (.tup [I (dC ts ps).1, I (dC ts ps).2]) := by
 refine fi49.pu (by simp) ?_
 simp -implicitDefEqProofs [ac49]
 refine aG (oJ ts hl) (by simp) ?_
 simp -implicitDefEqProofs
 by_cases he : (bX ts).2 = 0
 ·obtain ⟨ho, hp96, _⟩ := cX he
  by_cases hlen : ps.length = ts.length
  ·have hlen2 : (ps.length : Int) = (ts.length : Int) := by omega
   simp -implicitDefEqProofs [he, hlen2]
   refine lpG cf49 lb49_0 [4, 5, 8, 9, 10, 11, 12, 29] (α := Nat × Int) (fun s _ => [(4, .top), (5, .top), (8, I s.2), (9, .top), (10, .top), (11, .top), (12, .top), (29, I s.1)]) (fun s _ => []) (fun s k => s.1 ≤ ps.length ∧ 0 ≤ s.2 ∧ (s.2 + 1) * pr (ts.drop s.1) ≤ pr ts ∧ inT (ts.drop s.1) (ps.drop s.1) = inT ts ps ∧ vl (ts.drop s.1) (ps.drop s.1) s.2 = vl ts ps 0) (fun s => ps.length - s.1) (0, 0) ⟨by simp, by simp, by simp, by simp, by simp⟩ (by simp) (by simp) ?_
   rintro ⟨i, a⟩ k ⟨hi, ha, hb, hin, hv⟩
   simp only at hi ha hb hin hv
   by_cases hlt : i < ps.length
   ·have hlt2 : i < ts.length := by omega
    obtain ⟨t, ht⟩ : ∃ t, ts[i] = t := ⟨_, rfl⟩
    obtain ⟨p, hp⟩ : ∃ p, ps[i] = p := ⟨_, rfl⟩
    have hto : 0 ≤ tp t := ho t (ht ▸ List.getElem_mem hlt2)
    rw [pC hlt2, ht] at hb hin hv
    rw [pC hlt, hp] at hin hv
    rw [kE] at hb
    rw [dL] at hin
    rw [fT] at hv
    have hP := cZ (fF ho (i + 1))
    have w1 := aR (x := (i : Int) + 1) (by omega) (by omega)
    have hltn : (i : Int) < (ts.length : Int) := by omega
    simp -implicitDefEqProofs [lb49_0, hlt, hlt2, ht, hp, hltn]
    refine aG (pF t p) (by simp) ?_
    simp -implicitDefEqProofs
    by_cases hc : 0 ≤ p ∧ p ≤ tp t
    ·have hck : ck t p = 0 := zV.2 hc
     obtain ⟨s1, s2, s3⟩ := BH ha hb hc.1 (by omega) hP
     have hak : 0 ≤ a * (tp t + 1) := Int.mul_nonneg ha (by omega)
     have w2 := wrS (x := a * (tp t + 1)) (by omega) (by omega)
     have w3 := wrS (x := a * (tp t + 1) + p) (by omega) (by omega)
     have hnb : ¬ tp t < 0 := by omega
     simp -implicitDefEqProofs [hck, hlt2, ht, hltn]
     refine aG (sO t) (by simp) ?_
     simp -implicitDefEqProofs [hnb, w1, w2, w3]
     exact aK (i + 1, a * (tp t + 1) + p) ⟨hlt, s1, s2, by simpa [hc] using hin, hv⟩ (by simp only; omega) (by simp) (by simp)
    ·have hck : ck t p = 2 := by unfold ck; rw [if_neg (by omega), if_neg hc]
     have hno : inT ts ps = false := by rw [← hin]; simp [hc]
     simp -implicitDefEqProofs [hck, dC, he, hlen, hno]
   ·rw [List.drop_eq_nil_of_le (by omega), List.drop_eq_nil_of_le (by omega)] at hin hv
    rw [D3] at hin
    rw [GY] at hv
    have hlt2 : ¬ i < ts.length := by omega
    simp -implicitDefEqProofs [lb49_0, hlt2, dC, he, hlen, hin.symm, hv.symm]
  ·have hlen2 : ¬ (ps.length : Int) = (ts.length : Int) := by omega
   simp -implicitDefEqProofs [he, hlen2, dC, hlen]
 ·simp -implicitDefEqProofs [he, dC]
theorem t7 (ts ps : List Int) (hl : ts.length < 2 ^ 48) (hl2 : ps.length < 2 ^ 48) : Pure Tryz.prog 51 [.sl (em aT ts), .sl (em aT ps)] (.tup [I (dC ts ps).1, I (dC ts ps).2]) := by
 refine fi51.pu (by simp) ?_
 simp -implicitDefEqProofs [ac51]
 refine aG (iV ts hl) (by simp) ?_
 simp -implicitDefEqProofs
 by_cases he : (bX ts).2 = 0
 ·obtain ⟨ho, hp96, _⟩ := cX he
  by_cases hlen : ps.length = ts.length
  ·have hlen2 : (ps.length : Int) = (ts.length : Int) := by omega
   simp -implicitDefEqProofs [he, hlen2]
   refine lpG cf51 lb51_0 [4, 5, 8, 9] (α := Nat × Int) (fun s _ => [(4, .top), (5, .top), (8, I s.2), (9, I s.1)]) (fun s _ => []) (fun s k => s.1 ≤ ts.length ∧ 0 ≤ s.2 ∧ (s.2 + 1) * pr (ts.drop s.1) ≤ pr ts ∧ inT (ts.drop s.1) (ps.drop s.1) = inT ts ps ∧ vl (ts.drop s.1) (ps.drop s.1) s.2 = vl ts ps 0) (fun s => ts.length - s.1) (0, 0) ⟨by simp, by simp, by simp, by simp, by simp⟩ (by simp) (by simp) ?_
   rintro ⟨i, a⟩ k ⟨hi, ha, hb, hin, hv⟩
   simp only at hi ha hb hin hv
   by_cases hlt2 : i < ts.length
   ·have hlt : i < ps.length := by omega
    obtain ⟨t, ht⟩ : ∃ t, ts[i] = t := ⟨_, rfl⟩
    obtain ⟨p, hp⟩ : ∃ p, ps[i] = p := ⟨_, rfl⟩
    have hto : 0 ≤ tp t := ho t (ht ▸ List.getElem_mem hlt2)
    rw [pC hlt2, ht] at hb hin hv
    rw [pC hlt, hp] at hin hv
    rw [kE] at hb
    rw [dL] at hin
    rw [fT] at hv
    have hP := cZ (fF ho (i + 1))
    have w1 := aR (x := (i : Int) + 1) (by omega) (by omega)
    have hltn : (i : Int) < (ps.length : Int) := by omega
    simp -implicitDefEqProofs [lb51_0, hlt, hlt2, ht, hp, hltn]
    by_cases hc : 0 ≤ p ∧ p ≤ tp t
    ·refine aG (Is_c t p) (by simp) ?_
     simp -implicitDefEqProofs [hc.1, hc.2]
     obtain ⟨s1, s2, s3⟩ := BH ha hb hc.1 (by omega) hP
     have hak : 0 ≤ a * (tp t + 1) := Int.mul_nonneg ha (by omega)
     have w0 := wrS (x := tp t + 1) (by omega) (by have := fK t; omega)
     have w2 := wrS (x := a * (tp t + 1)) (by omega) (by omega)
     have w3 := wrS (x := a * (tp t + 1) + p) (by omega) (by omega)
     simp -implicitDefEqProofs [hc, hlt2, ht]
     refine aG (iQ t) (by simp) ?_
     simp -implicitDefEqProofs [w0, w1, w2, w3, hlt, hp, hltn]
     exact aK (i + 1, a * (tp t + 1) + p) ⟨by simp only; omega, s1, s2, by simpa [hc] using hin, hv⟩ (by simp only; omega) (by simp) (by simp)
    ·have hno : inT ts ps = false := by rw [← hin]; simp [hc]
     refine aG (Is_c t p) (by simp) ?_
     rw [show decide (0 ≤ p ∧ p ≤ tp t) = false by simpa using hc]
     simp -implicitDefEqProofs [dC, he, hlen, hno]
   ·rw [List.drop_eq_nil_of_le (by omega), List.drop_eq_nil_of_le (by omega)] at hin hv
    rw [D3] at hin
    rw [GY] at hv
    simp -implicitDefEqProofs [lb51_0, hlt2, dC, he, hlen, hin.symm, hv.symm]
  ·have hlen2 : ¬ (ps.length : Int) = (ts.length : Int) := by omega
   simp -implicitDefEqProofs [he, hlen2, dC, hlen]
 ·simp -implicitDefEqProofs [he, dC]
def dg : List Int → Int → List Int
 | [], _ => []
 | t :: ts, n => (n / pr ts % (tp t + 1)) :: dg ts n
theorem iT (n : Int) : ∀ (ts : List Int), (dg ts n).length = ts.length
 | [] => rfl
 | t :: ts => by simp [dg, iT n ts]
def fN (ts : List Int) (n : Int) : List Int × Int := if (bX ts).2 ≠ 0 then ([], (bX ts).2) else if n < 0 ∨ pr ts ≤ n then ([], 2) else (dg ts n, 0)
theorem DP {ts : List Int} {i : Nat} {t n : Int} (hlt : i < ts.length) (ht : ts[i] = t) : (List.replicate (i + 1) (0 : Int) ++ dg (ts.drop (i + 1)) n).set i (n / pr (ts.drop (i + 1)) % (tp t + 1)) = List.replicate i 0 ++ dg (ts.drop i) n := by
 rw [pC hlt, ht, List.replicate_succ', List.append_assoc, List.set_append_right (h := by simp)]
 simp [dg]
theorem C4 {ts : List Int} {i : Nat} {t : Int} (hlt : i < ts.length) (ht : ts[i] = t) : pr (ts.drop i) = (tp t + 1) * pr (ts.drop (i + 1)) := by
 rw [pC hlt, ht]; rfl
theorem u5 {n P k : Int} (hP : 0 ≤ P) : n / P / k = n / (k * P) := by rw [Int.ediv_ediv_of_nonneg hP, Int.mul_comm]
theorem HV {n P N : Int} (h0 : 0 ≤ n) (h1 : n ≤ 4096) (hP : 1 ≤ P) : 0 ≤ n / P ∧ n / P ≤ 4096 := by
 have a := Int.ediv_nonneg h0 (by omega : 0 ≤ P)
 have b := Int.ediv_le_self P h0
 omega
theorem MU (ts : List Int) (n : Int) (hl : ts.length < 2 ^ 44) {mem : Mem} {nx : Nat} {K : KD}
  (hy : (fN ts n).2 = 0 → ∀ id ver nx', nx ≤ id → id < nx' → K (.tup [.osl id ver 0 ts.length, I 0]) ((id, .arr ver 1 (em aT (dg ts n))) :: mem) nx')
  (hn : (fN ts n).2 ≠ 0 → ∀ nx', nx ≤ nx' → K (.tup [.pl (.slice none 0 0), I (fN ts n).2]) mem nx') :
  bI Tryz.prog 54 [.sl (em aT ts), I n] mem nx K := by
 refine fi54.ct (by simp) fun hfr => ?_
 simp -implicitDefEqProofs [ac54]
 refine aG (oJ ts (by omega)) (by simp) ?_
 simp -implicitDefEqProofs
 unfold fN at hy hn
 by_cases he : (bX ts).2 = 0
 ·obtain ⟨ho, hp96, hp1⟩ := cX he
  have e0 : ¬ (bX ts).2 ≠ 0 := fun g => g he
  rw [if_neg e0] at hy hn
  by_cases hn0 : n < 0
  ·rw [if_pos (.inl hn0)] at hn
   have hn0' : ¬ 0 ≤ n := by omega
   simp -implicitDefEqProofs [he, hp1, hn0, hn0']
   exact ⟨_, aF (aE _) (hfr nx (by omega)), hn (by simp) _ (by omega)⟩
  ·have hn0' : 0 ≤ n := by omega
   by_cases hn1 : pr ts ≤ n
   ·rw [if_pos (.inr hn1)] at hn
    have hn1' : ¬ n < pr ts := by omega
    simp -implicitDefEqProofs [he, hp1, hn0, hn0', hn1, hn1']
    exact ⟨_, aF (aE _) (hfr nx (by omega)), hn (by simp) _ (by omega)⟩
   ·rw [if_neg (by omega)] at hy
    have hn1' : n < pr ts := by omega
    have hb : (ts.length : Int) * 8 ≤ 140737488355328 := by omega
    simp -implicitDefEqProofs [he, hp1, hn0, hn0', hn1, hn1', hb]
    refine aG (back_c ts) (by simp) ?_
    simp -implicitDefEqProofs
    obtain ⟨qb, hqb⟩ : ∃ qb, qb = nx + 3 + 7 + 2 + 7 + 3 := ⟨_, rfl⟩
    obtain ⟨qa, hqa⟩ : ∃ qa, qa = nx + 3 + 7 + 2 + 7 + 2 := ⟨_, rfl⟩
    rw [← hqb, ← hqa]
    have f1 : (qb = qa) = False := eq_false (by omega)
    have f2 : (qb = nx) = False := eq_false (by omega)
    have f3 : (qa = nx) = False := eq_false (by omega)
    have f4 : (nx = qb) = False := eq_false (by omega)
    have f5 : (nx = qa) = False := eq_false (by omega)
    have f6 : (qa = qb) = False := eq_false (by omega)
    refine I4 (f := 113) (caps := [.pt [.sl (em aT ts)]]) (xs := kX ts) (fun i m k => qb < k ∧ m = (qb, .box [.osl qa 0 0 ts.length]) :: (qa, .arr 0 1 (em aT (List.replicate (ts.length - i) 0 ++ dg (ts.drop (ts.length - i)) n))) :: (nx, .box [I (n / pr (ts.drop (ts.length - i)))]) :: mem) rfl (GU ts (by omega)) (by decide) (fun y hy => ?_) ⟨by omega, ?_⟩ ?_ ?_
    ·unfold kX at hy
     obtain ⟨j, _, rfl⟩ := List.mem_map.1 hy
     rfl
    ·simp [pr, dg]
    ·rintro i y mem' nx' hy ⟨hk, rfl⟩ hnx
     have hi : i < ts.length := by
      have := (List.getElem?_eq_some_iff.1 hy).1
      rwa [oS] at this
     rw [LH ts hi, Option.some.injEq] at hy
     subst hy
     obtain ⟨j, hj⟩ : ∃ j, j = ts.length - 1 - i := ⟨_, rfl⟩
     have hjm : ts.length - i = j + 1 := by omega
     have hjl : j < ts.length := by omega
     have hji : ts.length - (i + 1) = j := by omega
     rw [← hj, hjm]
     obtain ⟨t, ht⟩ : ∃ t, ts[j] = t := ⟨_, rfl⟩
     have ht2 : ts[j]?.getD 0 = t := by rw [List.getElem?_eq_getElem hjl]; exact ht
     have hto : 0 ≤ tp t := ho t (ht ▸ List.getElem_mem hjl)
     have hP := cZ (fF ho (j + 1))
     obtain ⟨d1, d2⟩ := HV (N := 0) hn0' (by omega) hP
     have hstep := DP (n := n) hjl ht
     have hpr := C4 hjl ht
     have hdiv : n / pr (ts.drop (j + 1)) / (tp t + 1) = n / pr (ts.drop j) := by rw [hpr, u5 (by omega)]
     have hlen : (List.replicate (j + 1) (0 : Int) ++ dg (ts.drop (j + 1)) n).length = ts.length := by simp [iT]; omega
     generalize List.replicate (j + 1) (0 : Int) ++ dg (ts.drop (j + 1)) n = old at *
     generalize n / pr (ts.drop (j + 1)) = q at *
     have hk0 : ¬ tp t + 1 = 0 := by omega
     have hnt : ¬ tp t < 0 := by omega
     have e1 : q.tmod (tp t + 1) = q % (tp t + 1) := Int.tmod_eq_emod_of_nonneg d1
     have e2 : q.tdiv (tp t + 1) = q / (tp t + 1) := Int.tdiv_eq_ediv_of_nonneg d1
     have d3 := Int.ediv_le_self (tp t + 1) d1
     have d4 := Int.ediv_nonneg d1 (by omega : 0 ≤ tp t + 1)
     have w2 := wrS (x := q / (tp t + 1)) (by omega) (by omega)
     simp only [tJ]
     simp -implicitDefEqProofs [asgQ, ht2]
     refine aG (sO t) (by simp) ?_
     simp -implicitDefEqProofs
     simp -implicitDefEqProofs [hnt, hto, hk0, e1, e2, w2, f1, f2, f3, f4, f5, f6, hlen, hjl, rndQ]
     exact ⟨_, aI _, _, Nat.le_refl _, by omega, by rw [hji, ← hstep, ← hdiv]⟩
    ·rintro mem' nx' ⟨hk, rfl⟩ hnx
     rw [oS, Nat.sub_self]
     simp -implicitDefEqProofs [f1, f2, f3, f4, f5, f6]
     refine ⟨(qa, .arr 0 1 (em aT (dg ts n))) :: mem, aF (eH (aF (aE _) (hfr nx (by omega)))) ?_, hy rfl qa 0 _ (by omega) (by omega)⟩
     simp only [look]
     rw [if_neg (by omega)]
     exact hfr qb (by omega)
 ·have e0 : (bX ts).2 ≠ 0 := he
  rw [if_pos e0] at hn
  simp -implicitDefEqProofs [he]
  exact ⟨_, aF (aE _) (hfr nx (by omega)), hn (by simpa using he) _ (by omega)⟩
theorem v9 (ts : List Int) (n : Int) (hl : ts.length < 2 ^ 44) {mem : Mem} {nx : Nat} {K : KD}
  (hy : (fN ts n).2 = 0 → ∀ id ver nx', nx ≤ id → id < nx' → K (.tup [.osl id ver 0 ts.length, I 0]) ((id, .arr ver 1 (em aT (dg ts n))) :: mem) nx')
  (hn : (fN ts n).2 ≠ 0 → ∀ nx', nx ≤ nx' → K (.tup [.pl (.slice none 0 0), I (fN ts n).2]) mem nx') :
  bI Tryz.prog 58 [.sl (em aT ts), I n] mem nx K := by
 refine fi58.ct (by simp) fun hfr => ?_
 simp -implicitDefEqProofs [ac58]
 refine aG (iV ts (by omega)) (by simp) ?_
 simp -implicitDefEqProofs
 unfold fN at hy hn
 by_cases he : (bX ts).2 = 0
 ·obtain ⟨ho, hp96, hp1⟩ := cX he
  have e0 : ¬ (bX ts).2 ≠ 0 := fun g => g he
  rw [if_neg e0] at hy hn
  by_cases hn0 : n < 0
  ·rw [if_pos (.inl hn0)] at hn
   have hn0' : ¬ 0 ≤ n := by omega
   simp -implicitDefEqProofs [he, hp1, hn0, hn0']
   exact ⟨_, aE _, hn (by simp) _ (by omega)⟩
  ·have hn0' : 0 ≤ n := by omega
   by_cases hn1 : pr ts ≤ n
   ·rw [if_pos (.inr hn1)] at hn
    have hn1' : ¬ n < pr ts := by omega
    simp -implicitDefEqProofs [he, hp1, hn0, hn0', hn1, hn1']
    exact ⟨_, aE _, hn (by simp) _ (by omega)⟩
   ·rw [if_neg (by omega)] at hy
    have hn1' : n < pr ts := by omega
    have hb : (ts.length : Int) * 8 ≤ 140737488355328 := by omega
    have w0 := aR (x := (ts.length : Int) - 1) (by omega) (by omega)
    simp -implicitDefEqProofs [he, hp1, hn0, hn0', hn1, hn1', hb, w0]
    obtain ⟨qa, hqa⟩ : ∃ qa, qa = nx + 2 + 7 + 2 + 7 + 2 := ⟨_, rfl⟩
    rw [← hqa]
    refine lpG cf58 lb58_0 [1, 9, 10] (α := Nat) (fun m _ => [(1, I (n / pr (ts.drop m))), (9, I ((m : Int) - 1)), (10, .top)]) (fun m _ => (qa, .arr 0 1 (em aT (List.replicate m 0 ++ dg (ts.drop m) n))) :: mem) (fun m k => qa < k ∧ m ≤ ts.length) (fun m => m) ts.length ⟨by omega, Nat.le_refl _⟩ (by simp [pr]) (by simp [dg]) ?_
    rintro m k ⟨hk, hm⟩
    cases m with
    | zero =>
     simp -implicitDefEqProofs [lb58_0]
     exact ⟨_, aE _, hy rfl qa 0 _ (by omega) (by omega)⟩
    | succ j =>
     have hjl : j < ts.length := by omega
     have hji : ((j + 1 : Nat) : Int) - 1 = j := by omega
     obtain ⟨t, ht⟩ : ∃ t, ts[j] = t := ⟨_, rfl⟩
     have hto : 0 ≤ tp t := ho t (ht ▸ List.getElem_mem hjl)
     have hP := cZ (fF ho (j + 1))
     obtain ⟨d1, d2⟩ := HV (N := 0) hn0' (by omega) hP
     have hstep := DP (n := n) hjl ht
     have hpr := C4 hjl ht
     have hdiv : n / pr (ts.drop (j + 1)) / (tp t + 1) = n / pr (ts.drop j) := by rw [hpr, u5 (by omega)]
     have hlen : (List.replicate (j + 1) (0 : Int) ++ dg (ts.drop (j + 1)) n).length = ts.length := by simp [iT]; omega
     generalize List.replicate (j + 1) (0 : Int) ++ dg (ts.drop (j + 1)) n = old at *
     generalize n / pr (ts.drop (j + 1)) = q at *
     have hk0 : ¬ tp t + 1 = 0 := by omega
     have e1 : q.tmod (tp t + 1) = q % (tp t + 1) := Int.tmod_eq_emod_of_nonneg d1
     have e2 : q.tdiv (tp t + 1) = q / (tp t + 1) := Int.tdiv_eq_ediv_of_nonneg d1
     have d3 := Int.ediv_le_self (tp t + 1) d1
     have d4 := Int.ediv_nonneg d1 (by omega : 0 ≤ tp t + 1)
     have w2 := wrS (x := q / (tp t + 1)) (by omega) (by omega)
     have w3 := wrS (x := tp t + 1) (by omega) (by have := fK t; omega)
     have w4 := aR (x := (j : Int) - 1) (by omega) (by omega)
     simp -implicitDefEqProofs [lb58_0, hji, hjl, ht]
     refine aG (iQ t) (by simp) ?_
     simp -implicitDefEqProofs [w3, hk0, e1, e2, w2, w4, hlen, hjl]
     refine aK j ⟨by omega, by omega⟩ (by omega) ?_ ?_
     ·rw [← hdiv]; simp
     ·rw [← hstep]; exact aI _
 ·have e0 : (bX ts).2 ≠ 0 := he
  rw [if_pos e0] at hn
  simp -implicitDefEqProofs [he]
  exact ⟨_, aE _, hn (by simpa using he) _ (by omega)⟩
theorem KT {ts : List Int} {n : Int} (h : (fN ts n).2 = 0) : (fN ts n).1 = dg ts n := by
 unfold fN at h ⊢
 by_cases h1 : (bX ts).2 ≠ 0
 ·rw [if_pos h1] at h; exact absurd h h1
 ·rw [if_neg h1] at h ⊢
  by_cases h2 : n < 0 ∨ pr ts ≤ n
  ·rw [if_pos h2] at h; simp at h
  ·rw [if_neg h2]
theorem M3 {ts : List Int} {n : Int} (h : (fN ts n).2 ≠ 0) : (fN ts n).1 = [] := by
 unfold fN at h ⊢
 by_cases h1 : (bX ts).2 ≠ 0
 ·rw [if_pos h1]
 ·rw [if_neg h1] at h ⊢
  by_cases h2 : n < 0 ∨ pr ts ≤ n
  ·rw [if_pos h2]
  ·rw [if_neg h2] at h; simp at h
theorem OD (ts : List Int) (n : Int) (hl : ts.length < 2 ^ 44) : Pure Tryz.prog 54 [.sl (em aT ts), I n] (.tup [.sl (em aT (fN ts n).1), I (fN ts n).2]) := by
 refine jY (by simp) (MU ts n hl (fun h id ver nx' _ _ => ?_) (fun h nx' _ => ?_))
 ·rw [KT h, h]
  simp [look, List.take_of_length_le, iT]
 ·rw [M3 h]; simp
set_option maxRecDepth 1000000
set_option maxHeartbeats 0
noncomputable def cf112 : Cfg := ⟨Tryz.prog, 6, [0, 2], []⟩
noncomputable def ac112 : AC :=
 (.seq (.reg [JI 2 0]) (.seq (.reg [JA 3 0, JO 4 (.bin .add 3 (.t 3) (JT 31)), JO 5 (.bin .quo 3 (.t 4) (JT 32)), JB 2 5]) .ret))
theorem fi112 : FI Tryz.prog 112 cf112 ac112 [.t 2] [0, 2] 6 := FI_of (c := Tryz.f112.body.getD .skip) Tryz.func112 (by kernel_rfl) (by rfl) (by rfl) (by kernel_rfl) (by kernel_rfl) rfl rfl rfl
@[simp] theorem cfP112 : cf112.P = Tryz.prog := (rfl)
noncomputable def cf84 : Cfg := ⟨Tryz.prog, 16, [0, 2, 3], []⟩
noncomputable def ac84 : AC :=
 (.seq (.reg [JP 2 (.al [JV, JW]), JI 3 0]) (.seq (.ifr [JA 4 0, JO 5 (.bin .lss 3 (.t 4) (JT 0)), JC 6 5, JR 7 6 (.mv (.g 0)), JR 8 6 (.bin .gtr 3 (.t 7) (JT 4096)), JO 9 (.pick (.t 6) JX (.t 8))] (.t 9) (.seq (.reg [JO 10 (.bld [JV, JW] []), JQ (.st 2 (.g 2) (.t 10)), JI 3 2]) .ret) .skip) (.seq (.reg [JA 11 0, JA 12 0, JO 13 (.pc (.f 112) [.t 12]), JO 14 (.mki 1 8 [.int .u64 0] (.t 13)), JO 15 (.bld [JV, JW] [(0, 1, .t 11), (1, 1, .t 14)]), JQ (.st 2 (.g 2) (.t 15)), JI 3 0]) .ret)))
theorem fi84 : FI Tryz.prog 84 cf84 ac84 [.c 2 true 2, .t 3] [0, 2, 3] 16 := FI_of (c := Tryz.f84.body.getD .skip) Tryz.func84 (by kernel_rfl) (by rfl) (by rfl) (by kernel_rfl) (by kernel_rfl) rfl rfl rfl
@[simp] theorem cfP84 : cf84.P = Tryz.prog := (rfl)
noncomputable def cf87 : Cfg := ⟨Tryz.prog, 40, [0, 1, 2, 3], []⟩
noncomputable def ac87 : AC :=
 (.seq (.reg [JN 1 0, JI 2 0]) (.seq (.ifr [JG 4 0 1, JD 5 1 4, JO 6 (.bin .lss 3 (.t 5) (JT 0)), JC 7 6, JR 8 7 (.fa 0 (.g 1)), JR 9 7 (.ld false 1 (.t 8)), JR 10 7 (.bin .gtr 3 (.t 9) (JT 4096)), JO 11 (.pick (.t 7) JX (.t 10)), JC 12 11, JR 13 12 (.fa 1 (.g 1)), JR 14 12 (.ld false 1 (.t 13)), JR 15 12 (.len false (.t 14)), JR 16 12 (.fa 0 (.g 1)), JR 17 12 (.ld false 1 (.t 16)), JR 18 12 (.pc (.f 112) [.t 17]), JR 19 12 (.bin .neq 3 (.t 15) (.t 18)), JO 20 (.pick (.t 12) JX (.t 19))] (.t 20) (.seq (.reg [JI 2 3]) .ret) .skip) (.seq (.seq (.reg [JG 21 0 1, JD 22 1 21, JO 23 (.bin .rem 3 (.t 22) (JT 32)), JB 3 23]) (.ifr [JA 24 3, JO 25 (.bin .gtr 3 (.t 24) (JT 0)), JC 26 25, JS 27 26 (.fa 1 (.g 1)), JS 28 26 (.ld false 1 (.t 27)), JS 29 26 (.fa 1 (.g 1)), JS 30 26 (.ld false 1 (.t 29)), JS 31 26 (.len false (.t 30)), JS 32 26 (.bin .sub 3 (.t 31) (JT 1)), JS 33 26 (.ia 1 (.t 28) (.t 32)), JS 34 26 (.ld false 1 (.t 33)), JS 35 26 (.mv (.g 3)), JS 36 26 (.bin .mul 3 (JT 2) (.t 35)), JS 37 26 (.bin .shr 85 (.t 34) (.t 36)), JS 38 26 (.bin .neq 85 (.t 37) (.c (.int .u64 0))), JO 39 (.pick (.t 26) (.t 38) JY)] (.t 39) (.seq (.reg [JI 2 3]) .ret) .skip)) (.seq (.reg [JI 2 0]) .ret))))
theorem fi87 : FI Tryz.prog 87 cf87 ac87 [.t 2] [0, 1, 2, 3] 40 := FI_of (c := Tryz.f87.body.getD .skip) Tryz.func87 (by kernel_rfl) (by rfl) (by rfl) (by kernel_rfl) (by kernel_rfl) rfl rfl rfl
@[simp] theorem cfP87 : cf87.P = Tryz.prog := (rfl)
noncomputable def cf55 : Cfg := ⟨Tryz.prog, 63, [0, 1, 2, 3, 6, 7, 8, 9, 10], []⟩
noncomputable def ac55 : AC :=
 (.seq (.reg [JN 3 0, JP 6 (.al [JV, JW]), JI 7 0]) (.seq (.seq (.reg [JF 11 2 3, JO 12 (.pc (.f 87) [.t 11]), JB 8 12]) (.ifr [JA 13 8, JO 14 (.bin .neq 52 (.t 13) (JT 0))] (.t 14) (.seq (.reg [JO 15 (.bld [JV, JW] []), JA 16 8, JQ (.st 2 (.g 6) (.t 15)), JB 7 16]) .ret) .skip)) (.seq (.ifr [JA 17 1, JO 18 (.bin .lss 3 (.t 17) (JT 0)), JC 19 18, JR 20 19 (.mv (.g 1)), JR 21 19 (.fa 0 (.g 3)), JR 22 19 (.ld false 1 (.t 21)), JR 23 19 (.bin .geq 3 (.t 20) (.t 22)), JO 24 (.pick (.t 19) JX (.t 23)), JC 25 24, JR 26 25 (.mv (.g 2)), JR 27 25 (.bin .lss 3 (.t 26) (JT 0)), JO 28 (.pick (.t 25) JX (.t 27)), JC 29 28, JR 30 29 (.mv (.g 2)), JR 31 29 (.bin .gtr 3 (.t 30) (JT 3)), JO 32 (.pick (.t 29) JX (.t 31))] (.t 32) (.seq (.reg [JO 33 (.bld [JV, JW] []), JQ (.st 2 (.g 6) (.t 33)), JI 7 2]) .ret) .skip) (.seq (.reg [JG 34 0 3, JD 35 1 34, JG 36 1 3, JD 37 1 36, JO 38 (.apn 1 8 [.int .u64 0] (.c (.slice none 0 0)) (.t 37)), JO 39 (.bld [JV, JW] [(0, 1, .t 35), (1, 1, .t 38)]), JP 9 (.al [JV, JW]), JQ (.st 2 (.g 9) (.t 39))]) (.seq (.reg [JA 40 1, JO 41 (.bin .rem 3 (.t 40) (JT 32)), JO 42 (.bin .mul 3 (JT 2) (.t 41)), JB 10 42]) (.seq (.reg [JG 43 1 9, JD 44 1 43, JA 45 1, JO 46 (.bin .quo 3 (.t 45) (JT 32)), JG 47 1 9, JD 48 1 47, JA 49 1, JO 50 (.bin .quo 3 (.t 49) (JT 32)), JL 51 1 48 50, JD 52 1 51, JA 53 10, JO 54 (.bin .shl 85 (.c (.int .u64 3)) (.t 53)), JO 55 (.bin .andNot 85 (.t 52) (.t 54)), JA 56 2, JO 57 (.cv 3 85 (.t 56)), JA 58 10, JO 59 (.bin .shl 85 (.t 57) (.t 58)), JO 60 (.bin .or 85 (.t 55) (.t 59)), JL 61 1 44 46, JQ (.st 1 (.t 61) (.t 60))]) (.seq (.reg [JF 62 2 9, JQ (.st 2 (.g 6) (.t 62)), JI 7 0]) .ret)))))))
theorem fi55 : FI Tryz.prog 55 cf55 ac55 [.c 6 true 2, .t 7] [0, 1, 2, 3, 6, 7, 8, 9, 10] 63 := FI_of (c := Tryz.f55.body.getD .skip) Tryz.func55 (by kernel_rfl) (by rfl) (by rfl) (by kernel_rfl) (by kernel_rfl) rfl rfl rfl
@[simp] theorem cfP55 : cf55.P = Tryz.prog := (rfl)
noncomputable def cf104 : Cfg := ⟨Tryz.prog, 32, [0, 1, 2, 4, 5, 6], []⟩
noncomputable def ac104 : AC :=
 (.seq (.reg [JN 2 0, JI 4 0, JI 5 0]) (.seq (.seq (.reg [JF 7 2 2, JO 8 (.pc (.f 87) [.t 7]), JB 6 8]) (.ifr [JA 9 6, JO 10 (.bin .neq 52 (.t 9) (JT 0))] (.t 10) (.seq (.reg [JA 11 6, JI 4 0, JB 5 11]) .ret) .skip)) (.seq (.ifr [JA 12 1, JO 13 (.bin .lss 3 (.t 12) (JT 0)), JC 14 13, JR 15 14 (.mv (.g 1)), JR 16 14 (.fa 0 (.g 2)), JR 17 14 (.ld false 1 (.t 16)), JR 18 14 (.bin .geq 3 (.t 15) (.t 17)), JO 19 (.pick (.t 14) JX (.t 18))] (.t 19) (.seq (.reg [JI 4 0, JI 5 2]) .ret) .skip) (.seq (.reg [JG 20 1 2, JD 21 1 20, JA 22 1, JO 23 (.bin .quo 3 (.t 22) (JT 32)), JL 24 1 21 23, JD 25 1 24, JA 26 1, JO 27 (.bin .rem 3 (.t 26) (JT 32)), JO 28 (.bin .mul 3 (JT 2) (.t 27)), JO 29 (.bin .shr 85 (.t 25) (.t 28)), JO 30 (.bin .and 85 (.t 29) (.c (.int .u64 3))), JO 31 (.cv 85 3 (.t 30)), JB 4 31, JI 5 0]) .ret))))
theorem fi104 : FI Tryz.prog 104 cf104 ac104 [.t 4, .t 5] [0, 1, 2, 4, 5, 6] 32 := FI_of (c := Tryz.f104.body.getD .skip) Tryz.func104 (by kernel_rfl) (by rfl) (by rfl) (by kernel_rfl) (by kernel_rfl) rfl rfl rfl
@[simp] theorem cfP104 : cf104.P = Tryz.prog := (rfl)
noncomputable def cf95 : Cfg := ⟨Tryz.prog, 58, [0, 1, 2, 4, 5, 6, 7, 8, 10, 11, 27, 28, 29], []⟩
noncomputable def lb95_0 : AC :=
 .seq (.ifr [JO 30 (.bin .lss 3 (.g 29) (.g 28))] (.t 30) .skip (.exit 0)) (.seq (.block 1 (.seq (.reg [JO 31 (.ia 1 (.g 27) (.g 29)), JD 32 1 31, JB 10 32]) (.seq (.reg [JA 33 10, JA 34 7, JO 35 (.bin .xor 85 (.t 33) (.t 34)), JB 11 35]) (.reg [JA 36 8, JA 37 11, JA 38 11, JO 39 (.bin .shr 85 (.t 38) (.c (.int .u64 1))), JO 40 (.bin .or 85 (.t 37) (.t 39)), JO 41 (.un .xor (.t 40)), JO 42 (.bin .and 85 (.t 41) (.c (.int .u64 6148914691236517205))), JO 43 (.pc (.f 129) [.t 42]), JO 44 (.bin .add 3 (.t 36) (.t 43)), JB 8 44])))) (.reg [JO 45 (.bin .add 3 (.g 29) (JT 1)), JB 29 45]))
noncomputable def ac95 : AC :=
 (.seq (.reg [JN 2 0, JI 4 0, JI 5 0]) (.seq (.seq (.reg [JF 12 2 2, JO 13 (.pc (.f 87) [.t 12]), JB 6 13]) (.ifr [JA 14 6, JO 15 (.bin .neq 52 (.t 14) (JT 0))] (.t 15) (.seq (.reg [JA 16 6, JI 4 0, JB 5 16]) .ret) .skip)) (.seq (.ifr [JA 17 1, JO 18 (.bin .lss 3 (.t 17) (JT 0)), JC 19 18, JR 20 19 (.mv (.g 1)), JR 21 19 (.bin .gtr 3 (.t 20) (JT 3)), JO 22 (.pick (.t 19) JX (.t 21))] (.t 22) (.seq (.reg [JI 4 0, JI 5 2]) .ret) .skip) (.seq (.reg [JA 23 1, JO 24 (.cv 3 85 (.t 23)), JO 25 (.bin .mul 85 (.t 24) (.c (.int .u64 6148914691236517205))), JB 7 25]) (.seq (.reg [JI 8 0]) (.seq (.seq (.reg [JG 26 1 2, JP 27 (.ld false 1 (.t 26)), JP 28 (.len false (.g 27)), JI 29 0]) (.block 0 (.loop lb95_0))) (.seq (.ifr [JA 46 1, JO 47 (.bin .eql 3 (.t 46) (JT 0))] (.t 47) (.reg [JA 48 8, JG 49 1 2, JD 50 1 49, JO 51 (.len false (.t 50)), JO 52 (.bin .mul 3 (JT 32) (.t 51)), JG 53 0 2, JD 54 1 53, JO 55 (.bin .sub 3 (.t 52) (.t 54)), JO 56 (.bin .sub 3 (.t 48) (.t 55)), JB 8 56]) .skip) (.seq (.reg [JA 57 8, JB 4 57, JI 5 0]) .ret))))))))
theorem fi95 : FI Tryz.prog 95 cf95 ac95 [.t 4, .t 5] [0, 1, 2, 4, 5, 6, 7, 8, 10, 11, 27, 28, 29] 58 := FI_of (c := Tryz.f95.body.getD .skip) Tryz.func95 (by kernel_rfl) (by rfl) (by rfl) (by kernel_rfl) (by kernel_rfl) rfl rfl rfl
@[simp] theorem cfP95 : cf95.P = Tryz.prog := (rfl)
noncomputable def cf57 : Cfg := ⟨Tryz.prog, 38, [0, 1, 2, 3, 4, 5], []⟩
@[simp] theorem cfP57 : cf57.P = Tryz.prog := (rfl)
noncomputable def cf59 : Cfg := ⟨Tryz.prog, 57, [0, 1, 2, 3, 4, 5, 6], [53]⟩
noncomputable def lb59_0 : AC :=
 .seq (.ifr [JA 25 5, JG 26 1 1, JD 27 1 26, JO 28 (.len false (.t 27)), JO 29 (.bin .mul 3 (JT 32) (.t 28)), JO 30 (.bin .lss 3 (.t 25) (.t 29))] (.t 30) .skip (.exit 0)) (.seq (.block 1 (.seq (.reg [JG 33 1 1, JD 34 1 33, JA 35 5, JO 36 (.bin .quo 3 (.t 35) (JT 32)), JL 37 1 34 36, JD 38 1 37, JA 39 5, JO 40 (.bin .rem 3 (.t 39) (JT 32)), JO 41 (.bin .mul 3 (JT 2) (.t 40)), JO 42 (.cv 3 176 (.t 41)), JO 43 (.bin .shr 85 (.t 38) (.t 42)), JO 44 (.bin .and 85 (.t 43) (.c (.int .u64 3))), JO 45 (.cv 85 3 (.t 44)), JB 6 45]) (.ifr [JA 46 5, JG 47 0 1, JD 48 1 47, JO 49 (.bin .lss 3 (.t 46) (.t 48))] (.t 49) (.reg [JA 50 4, JA 51 6, JO 52 (.bsl 1 1 [JV] [(0, 1, .t 51)]), JO 53 (.app 1 8 [JV] (.t 50) (.t 52)), JB 4 53]) (.ifr [JA 54 6, JO 55 (.bin .neq 3 (.t 54) (JT 0))] (.t 55) (.seq (.reg [JP 2 (.mv (.c (.slice none 0 0))), JP 3 (.mv JY)]) .ret) .skip)))) (.reg [JA 31 5, JO 32 (.bin .add 3 (.t 31) (JT 1)), JB 5 32]))
noncomputable def ac59 : AC :=
 (.seq (.reg [JN 1 0, JP 2 (.mv (.c (.slice none 0 0))), JP 3 (.mv JY)]) (.seq (.ifr [JG 7 0 1, JD 8 1 7, JO 9 (.bin .lss 3 (.t 8) (JT 0)), JC 10 9, JR 11 10 (.fa 0 (.g 1)), JR 12 10 (.ld false 1 (.t 11)), JR 13 10 (.bin .gtr 3 (.t 12) (JT 4096)), JO 14 (.pick (.t 10) JX (.t 13)), JC 15 14, JR 16 15 (.fa 1 (.g 1)), JR 17 15 (.ld false 1 (.t 16)), JR 18 15 (.len false (.t 17)), JR 19 15 (.fa 0 (.g 1)), JR 20 15 (.ld false 1 (.t 19)), JR 21 15 (.bin .add 3 (.t 20) (JT 31)), JR 22 15 (.bin .quo 3 (.t 21) (JT 32)), JR 23 15 (.bin .neq 3 (.t 18) (.t 22)), JO 24 (.pick (.t 15) JX (.t 23))] (.t 24) (.seq (.reg [JP 2 (.mv (.c (.slice none 0 0))), JP 3 (.mv JY)]) .ret) .skip) (.seq (.reg [JP 4 (.mv (.c (.slice none 0 0)))]) (.seq (.seq (.reg [JI 5 0]) (.block 0 (.loop lb59_0))) (.seq (.reg [JA 56 4, JB 2 56, JP 3 (.mv JX)]) .ret)))))
theorem fi59 : FI Tryz.prog 59 cf59 ac59 [.t 2, .t 3] [0, 1, 2, 3, 4, 5, 6] 57 := FI_of (c := Tryz.f59.body.getD .skip) Tryz.func59 (by kernel_rfl) (by rfl) (by rfl) (by kernel_rfl) (by kernel_rfl) rfl rfl rfl
@[simp] theorem cfP59 : cf59.P = Tryz.prog := (rfl)
noncomputable def cf64 : Cfg := ⟨Tryz.prog, 45, [0, 2, 3, 4], [20]⟩
noncomputable def lb64_0 : AC :=
 .seq (.ifr [JA 8 4, JA 9 0, JO 10 (.len false (.t 9)), JO 11 (.bin .lss 3 (.t 8) (.t 10))] (.t 11) .skip (.exit 0)) (.seq (.block 1 (.seq (.ifr [JA 14 4, JO 15 (.bin .rem 3 (.t 14) (JT 32)), JO 16 (.bin .eql 3 (.t 15) (JT 0))] (.t 16) (.reg [JG 17 1 3, JD 18 1 17, JO 19 (.bsl 1 1 [.int .u64 0] [(0, 1, .c (.int .u64 0))]), JO 20 (.app 1 8 [.int .u64 0] (.t 18) (.t 19)), JG 21 1 3, JQ (.st 1 (.t 21) (.t 20))]) .skip) (.reg [JG 22 1 3, JD 23 1 22, JA 24 4, JO 25 (.bin .quo 3 (.t 24) (JT 32)), JG 26 1 3, JD 27 1 26, JA 28 4, JO 29 (.bin .quo 3 (.t 28) (JT 32)), JL 30 1 27 29, JD 31 1 30, JA 32 0, JA 33 4, JL 34 1 32 33, JD 35 1 34, JO 36 (.cv 3 85 (.t 35)), JA 37 4, JO 38 (.bin .rem 3 (.t 37) (JT 32)), JO 39 (.bin .mul 3 (JT 2) (.t 38)), JO 40 (.cv 3 176 (.t 39)), JO 41 (.bin .shl 85 (.t 36) (.t 40)), JO 42 (.bin .or 85 (.t 31) (.t 41)), JL 43 1 23 25, JQ (.st 1 (.t 43) (.t 42))]))) (.reg [JA 12 4, JO 13 (.bin .add 3 (.t 12) (JT 1)), JB 4 13]))
noncomputable def ac64 : AC :=
 (.seq (.reg [JP 2 (.al [JV, JW])]) (.seq (.reg [JA 5 0, JO 6 (.len false (.t 5)), JO 7 (.bld [JV, JW] [(0, 1, .t 6)]), JP 3 (.al [JV, JW]), JQ (.st 2 (.g 3) (.t 7))]) (.seq (.seq (.reg [JI 4 0]) (.block 0 (.loop lb64_0))) (.seq (.reg [JF 44 2 3, JQ (.st 2 (.g 2) (.t 44))]) .ret))))
theorem fi64 : FI Tryz.prog 64 cf64 ac64 [.c 2 true 2] [0, 2, 3, 4] 45 := FI_of (c := Tryz.f64.body.getD .skip) Tryz.func64 (by kernel_rfl) (by rfl) (by rfl) (by kernel_rfl) (by kernel_rfl) rfl rfl rfl
@[simp] theorem cfP64 : cf64.P = Tryz.prog := (rfl)
noncomputable def cf129 : Cfg := ⟨Tryz.prog, 35, [0, 2], []⟩
noncomputable def ac129 : AC :=
 (.seq (.reg [JI 2 0]) (.seq (.reg [JA 3 0, JO 4 (.bin .shr 85 (.t 3) (.c (.int .u64 1))), JO 5 (.bin .and 85 (.t 4) (.c (.int .u64 6148914691236517205))), JA 6 0, JO 7 (.bin .and 85 (.t 6) (.c (.int .u64 6148914691236517205))), JO 8 (.bin .add 85 (.t 5) (.t 7)), JB 0 8]) (.seq (.reg [JA 9 0, JO 10 (.bin .shr 85 (.t 9) (.c (.int .u64 2))), JO 11 (.bin .and 85 (.t 10) (.c (.int .u64 3689348814741910323))), JA 12 0, JO 13 (.bin .and 85 (.t 12) (.c (.int .u64 3689348814741910323))), JO 14 (.bin .add 85 (.t 11) (.t 13)), JB 0 14]) (.seq (.reg [JA 15 0, JO 16 (.bin .shr 85 (.t 15) (.c (.int .u64 4))), JA 17 0, JO 18 (.bin .add 85 (.t 16) (.t 17)), JO 19 (.bin .and 85 (.t 18) (.c (.int .u64 1085102592571150095))), JB 0 19]) (.seq (.reg [JA 20 0, JA 21 0, JO 22 (.bin .shr 85 (.t 21) (.c (.int .u64 8))), JO 23 (.bin .add 85 (.t 20) (.t 22)), JB 0 23]) (.seq (.reg [JA 24 0, JA 25 0, JO 26 (.bin .shr 85 (.t 25) (.c (.int .u64 16))), JO 27 (.bin .add 85 (.t 24) (.t 26)), JB 0 27]) (.seq (.reg [JA 28 0, JA 29 0, JO 30 (.bin .shr 85 (.t 29) (.c (.int .u64 32))), JO 31 (.bin .add 85 (.t 28) (.t 30)), JB 0 31]) (.seq (.reg [JA 32 0, JO 33 (.cv 85 3 (.t 32)), JO 34 (.bin .and 3 (.t 33) (JT 127)), JB 2 34]) .ret))))))))
theorem fi129 : FI Tryz.prog 129 cf129 ac129 [.t 2] [0, 2] 35 := FI_of (c := Tryz.f129.body.getD .skip) Tryz.func129 (by kernel_rfl) (by rfl) (by rfl) (by kernel_rfl) (by kernel_rfl) rfl rfl rfl
@[simp] theorem cfP129 : cf129.P = Tryz.prog := (rfl)
@[simp] theorem OU {n : Int} : cvD Tryz.prog 3 85 (.pl (.int .i64 n)) = some (.pl (.int .u64 (IntKind.u64.wrap n))) := lC Tryz.underlying3 Tryz.underlying85
@[simp] theorem OQ {n : Int} : cvD Tryz.prog 3 176 (.pl (.int .i64 n)) = some (.pl (.int .u64 (IntKind.u64.wrap n))) := lC Tryz.underlying3 Tryz.underlying176
@[simp] theorem OT {n : Int} : cvD Tryz.prog 85 3 (.pl (.int .u64 n)) = some (.pl (.int .i64 (IntKind.i64.wrap n))) := lC Tryz.underlying85 Tryz.underlying3
set_option maxRecDepth 100000
abbrev row (n : Int) (l : List Int) : D := .agg [I n, .sl (em fG l)]
theorem C0 {n : Int} (h0 : 0 ≤ n) (h1 : n ≤ 4096) : Pure Tryz.prog 112 [I n] (I ((n + 31) / 32)) := by
 refine fi112.pu (by simp) ?_
 simp -implicitDefEqProofs [ac112]
 rw [aR (x := n + 31) (by omega) (by omega), Int.tdiv_eq_ediv_of_nonneg (by omega), aR (by omega) (by omega)]
def cN (n : Int) (l : List Int) : Prop := 0 ≤ n ∧ n ≤ 4096 ∧ (l.length : Int) = (n + 31) / 32 ∧ (0 < n % 32 → l[l.length - 1]?.getD 0 / 4 ^ (n % 32).toNat = 0)
instance (n : Int) (l : List Int) : Decidable (cN n l) := by unfold cN; infer_instance
def dY (n : Int) (l : List Int) : Int := if cN n l then 0 else 3
theorem shr4 (x : Int) {p : Int} (h0 : 0 ≤ p) (h1 : p < 32) : iX .u64 x (IntKind.i64.wrap (2 * p)) = x / 4 ^ p.toNat := by
 unfold iX
 rw [aR (by omega) (by omega)]
 have : min (2 * p).toNat IntKind.u64.bits = 2 * p.toNat := by simp only [IntKind.bits]; omega
 rw [this, Int.pow_mul]
 exact Int.fdiv_eq_ediv_of_nonneg _ (Int.pow_nonneg (by decide))
theorem qG (n : Int) (l : List Int) : Pure Tryz.prog 87 [row n l] (I (dY n l)) := by
 refine fi87.pu (by simp) ?_
 simp -implicitDefEqProofs [ac87, row]
 refine ⟨fun h0 => ⟨fun h1 => ?_, fun h1 => ?_⟩, fun h0 => ?_⟩
 ·refine aG (C0 h0 h1) (by simp) ?_
  simp -implicitDefEqProofs
  refine ⟨fun hne => ?_, fun heq => ?_⟩
  ·simp [dY, cN, hne]
  ·rw [Int.tmod_eq_emod_of_nonneg h0]
   refine ⟨fun hp => ?_, fun hp => ?_⟩
   ·have e1 : IntKind.i64.wrap (↑l.length - 1) = ↑l.length - 1 := aR (by omega) (by omega)
    have e2 : ((l.length : Int) - 1).toNat = l.length - 1 := by omega
    rw [shr4 _ (by omega) (by omega), e1, e2, aR (by omega) (by omega)]
    refine ⟨by omega, by omega, fun h => ?_, fun h => ?_⟩
    ·simp [dY, cN, hp, h]
    ·simp [dY, cN, h0, h1, heq, h]
   ·have : ¬ 0 < n % 32 := by omega
    simp [dY, cN, h0, h1, heq, this]
 ·simp [dY, cN]; omega
 ·simp [dY, cN]; omega
def iR (n : Int) (l : List Int) (e : Int) : D := .tup [row n l, I e]
def newF (n : Int) : D := if 0 ≤ n ∧ n ≤ 4096 then iR n (List.replicate ((n + 31) / 32).toNat 0) 0 else iR 0 [] 2
theorem New_c (n : Int) : Pure Tryz.prog 84 [I n] (newF n) := by
 refine fi84.pu (by simp) ?_
 simp -implicitDefEqProofs [ac84, row]
 refine ⟨fun h0 => ⟨fun h1 => ?_, fun h1 => ?_⟩, fun h0 => ?_⟩
 ·have : ¬ n ≤ 4096 := by omega
  simp [newF, iR, this]
 ·refine aG (C0 h0 h1) (by simp) ?_
  simp -implicitDefEqProofs [newF, iR, h0, h1]
  omega
 ·have : ¬ 0 ≤ n := by omega
  simp [newF, iR, this]
def aV (l : List Int) (i : Nat) : Int := (l[i / 32]?.getD 0 / 4 ^ (i % 32)) % 4
def nV (n : Int) (l : List Int) : Prop := 0 ≤ n ∧ n ≤ 4096 ∧ (l.length : Int) = (n + 31) / 32 ∧ (∀ i : Nat, n ≤ i → i < 32 * l.length → aV l i = 0)
theorem qF (l : List Int) (j : Nat) : 0 ≤ aV l j ∧ aV l j < 4 := ⟨Int.emod_nonneg _ (by decide), Int.emod_lt_of_pos _ (by decide)⟩
theorem KX (l : List Int) (i : Nat) (h : i < 32 * l.length) (hl : l.length ≤ 128) : lD .u64 (iX .u64 (l[i / 32]?.getD 0) (IntKind.u64.wrap (IntKind.i64.wrap (2 * (i : Int).tmod 32)))) 3 = aV l i := by
 have e2 : (2 : Int) * (i : Int).tmod 32 = ((2 * (i % 32) : Nat) : Int) := by rw [Int.tmod_eq_emod_of_nonneg (by omega)]; omega
 rw [bAnd3, e2, aR (by omega) (by omega), mA (by omega) (by omega), nL _ _ rfl (by simp only [IntKind.bits]; omega), Int.pow_mul]
 rfl
def cl (n : Int) (l : List Int) : List Int := (List.range n.toNat).map (aV l)
@[simp] theorem jR {n : Int} {l : List Int} : (cl n l).length = n.toNat := by simp [cl]
theorem NK (n : Int) (l : List Int) {mem : Mem} {nx : Nat} {K : KD} (hy : nV n l → ∀ id ver nx', nx ≤ id → id < nx' → K (.tup [.osl id ver 0 n.toNat, B true]) ((id, .arr ver 1 (em aT (cl n l))) :: mem) nx')
  (hn : ¬ nV n l → ∀ nx', nx ≤ nx' → K (.tup [.pl (.slice none 0 0), B false]) mem nx') : bI Tryz.prog 59 [row n l] mem nx K := by
 refine fi59.ct (by simp) fun hfr => ?_
 simp -implicitDefEqProofs [ac59, row]
 refine ⟨fun h0 => ⟨fun h1 => ?_, fun h1 => ?_⟩, fun h0 => ?_⟩
 ·rw [aR (x := n + 31) (by omega) (by omega), Int.tdiv_eq_ediv_of_nonneg (by omega), aR (by omega) (by omega)]
  refine ⟨fun h2 => ⟨mem, aE _, hn (fun h => h2 h.2.2.1) _ (by omega)⟩, fun h2 => ?_⟩
  have hlen : l.length ≤ 128 := by omega
  refine cT (j := 4) (k := 1) rfl (.inl rfl) ?_
  generalize hN : nx + 20 + 1 + 1 + 1 = N
  have hNn : nx < N := by omega
  clear hN
  refine lpG cf59 lb59_0 [2, 3, 4, 5, 6] (α := Nat) (fun i _ => [(3, B false), (4, .osl N (min i n.toNat) 0 (min i n.toNat)), (5, I i)]) (fun i _ => (N, .arr (min i n.toNat) 1 (em aT ((List.range (min i n.toNat)).map (aV l)))) :: mem)
   (fun i m => N < m ∧ i ≤ 32 * l.length ∧ ∀ j : Nat, n ≤ j → j < i → aV l j = 0) (fun i => 32 * l.length - i) 0 ⟨by omega, by omega, by omega⟩ (by simp) (by simp) ?_
  rintro i m ⟨hm, hi, hz⟩
  simp -implicitDefEqProofs [lb59_0]
  have hcb := qF l i
  have e32 : IntKind.i64.wrap (32 * (l.length : Int)) = 32 * l.length := aR (by omega) (by omega)
  have e3 : IntKind.i64.wrap ((i : Int) / 32) = i / 32 := aR (by omega) (by omega)
  have e4 : IntKind.i64.wrap ((i : Int) + 1) = ((i + 1 : Nat) : Int) := by rw [aR (by omega) (by omega)]; omega
  have e5 : 0 ≤ IntKind.u64.wrap (IntKind.i64.wrap (2 * (i : Int).tmod 32)) := by
   rw [Int.tmod_eq_emod_of_nonneg (by omega), aR (by omega) (by omega), mA (by omega) (by omega)]; omega
  have e6 : ((i : Int) / 32).toNat = i / 32 := by omega
  rw [e32]
  refine ⟨fun hlt => ?_, fun hge => ?_⟩
  ·rw [e3, e6, KX l i (by omega) hlen, aR (x := aV l i) (by omega) (by omega), e4]
   refine ⟨by omega, e5, fun hin => ⟨by omega, ?_⟩, fun hin => ⟨fun hne => ?_, fun heq => ?_⟩⟩
   ·have hem : min i n.toNat = i := by omega
    have hem' : min (i + 1) n.toNat = i + 1 := by omega
    refine aK (i + 1) ⟨by omega, by omega, fun j h1 h2 => hz j h1 (by omega)⟩ (by omega) (by simp [hem, hem']) ?_
    simp [hem, hem', List.take_of_length_le, List.range_succ]
   ·exact ⟨mem, aF (aE _) (hfr N (by omega)), hn (fun h => hne (h.2.2.2 i hin (by omega))) _ (by omega)⟩
   ·have hem : min (i + 1) n.toNat = min i n.toNat := by omega
    refine aK (i + 1) ⟨by omega, by omega, fun j h1 h2 => ?_⟩ (by omega) (by simp [hem]) (by simp [hem])
    by_cases e : j = i
    ·rw [e]; exact heq
    ·exact hz j h1 (by omega)
  ·have hok : nV n l := ⟨h0, h1, h2, fun j h3 h4 => hz j h3 (by omega)⟩
   have hem : min i n.toNat = n.toNat := by omega
   rw [hem]
   have hy := hy hok
   unfold cl at hy
   exact ⟨_, aE _, hy _ _ _ (by omega) (by omega)⟩
 ·exact ⟨mem, aE _, hn (fun h => by have := h.2.1; omega) _ (by omega)⟩
 ·exact ⟨mem, aE _, hn (fun h => by have := h.1; omega) _ (by omega)⟩
end Go.Fx.YtlhdpfaohphbaaaGreat
namespace Go.Fx.Rows
open Go
def wd : List Int → Int
 | [] => 0
 | c :: cs => c + 4 * wd cs
def fY (c : Int) : Prop := 0 ≤ c ∧ c ≤ 3
theorem HA : ∀ (xs : List Int) (c : Int), wd (xs ++ [c]) = wd xs + c * 4 ^ xs.length
 | [], c => by simp [wd]
 | x :: xs, c => by
  simp only [List.cons_append, wd, HA xs c, List.length_cons, Int.pow_succ]
  rw [Int.mul_add, Int.add_assoc, Int.mul_comm (4 ^ xs.length) 4, ← Int.mul_assoc c, Int.mul_comm c 4, Int.mul_assoc 4 c]
theorem zL : ∀ (xs : List Int), (∀ x ∈ xs, fY x) → 0 ≤ wd xs ∧ wd xs < 4 ^ xs.length
 | [], _ => by simp [wd]
 | x :: xs, h => by
  have h0 := h x (by simp)
  have ih := zL xs fun y hy => h y (by simp [hy])
  simp only [wd, List.length_cons, Int.pow_succ, fY] at h0 ⊢
  omega
theorem tH : ∀ (k : Nat) (u : Int), 0 ≤ u → u < 4 ^ k → wd ((List.range k).map fun j => u / 4 ^ j % 4) = u
 | 0, u, h0, h1 => by simp at h1; simp [wd]; omega
 | k + 1, u, h0, h1 => by
  have ih := tH k (u / 4) (by omega) (by rw [Int.pow_succ] at h1; omega)
  rw [List.range_succ_eq_map, List.map_cons, List.map_map]
  simp only [wd, Function.comp_def]
  have : (fun j : Nat => u / 4 ^ (j + 1) % 4) = fun j => u / 4 / 4 ^ j % 4 := by
   funext j
   rw [Int.pow_succ, Int.mul_comm (4 ^ j) 4, ← Int.ediv_ediv_of_nonneg (by decide)]
  simp only [Nat.succ_eq_add_one, this, ih, Int.pow_zero, Int.ediv_one]
  omega
def bD (cs : List Int) : List Int := (List.range ((cs.length + 31) / 32)).map fun q => wd ((cs.drop (32 * q)).take 32)
theorem eL (cs : List Int) : (bD cs).length = (cs.length + 31) / 32 := by simp [bD]
theorem iU (cs : List Int) (q : Nat) (hq : q < (cs.length + 31) / 32) : (bD cs)[q]? = some (wd ((cs.drop (32 * q)).take 32)) := by
 simp [bD, hq]
theorem GX {cs : List Int} {c : Int} (h : cs.length % 32 = 0) : bD (cs ++ [c]) = bD cs ++ [c] := by
 apply List.ext_getElem?
 intro q
 by_cases hq : q < (cs.length + 31) / 32
 ·rw [iU _ _ (by simp; omega), List.getElem?_append_left (by rw [eL]; exact hq), iU _ _ hq]
  congr 2
  rw [List.drop_append_of_le_length (by omega), List.take_append_of_le_length (by simp; omega)]
 ·by_cases hq' : q = cs.length / 32
  ·subst hq'
   rw [iU _ _ (by simp; omega), List.getElem?_append_right (by rw [eL]; omega), eL]
   have e : 32 * (cs.length / 32) = cs.length := by omega
   rw [e, List.drop_append_of_le_length (by omega), List.drop_length]
   have : cs.length / 32 - (cs.length + 31) / 32 = 0 := by omega
   simp [this, wd]
  ·rw [List.getElem?_eq_none (by simp [eL]; omega), List.getElem?_eq_none (by simp [eL]; omega)]
theorem FB {cs : List Int} {c : Int} (h : cs.length % 32 ≠ 0) :
  bD (cs ++ [c]) = (bD cs).set (cs.length / 32) (wd (cs.drop (32 * (cs.length / 32))) + c * 4 ^ (cs.length % 32)) := by
 apply List.ext_getElem?
 intro q
 by_cases hq : q < (cs.length + 31) / 32
 ·rw [iU _ _ (by simp; omega)]
  by_cases hq' : q = cs.length / 32
  ·subst hq'
   rw [List.getElem?_set_self (by rw [eL]; exact hq), List.drop_append_of_le_length (by omega), List.take_of_length_le (by simp; omega), HA]
   simp only [List.length_drop]
   rw [show cs.length - 32 * (cs.length / 32) = cs.length % 32 by omega]
  ·rw [List.getElem?_set_ne (fun e => hq' e.symm), iU _ _ hq, List.drop_append_of_le_length (by omega), List.take_append_of_le_length (by simp; omega)]
 ·rw [List.getElem?_eq_none (by simp [eL]; omega), List.getElem?_eq_none (by simp [eL]; omega)]
end Go.Fx.Rows
namespace Go.Fx.YtlhdpfaohphbaaaGreat
open Go Go.Fx Go.Proofs Go.Fx.Rows
attribute [local simp] lb64_0
theorem Pack_c (cs : List Int) (h4 : ∀ c ∈ cs, fY c) (hl : cs.length ≤ 4096) : Pure Tryz.prog 64 [.sl (em aT cs)] (row cs.length (bD cs)) := by
 refine fi64.pu (by simp) ?_
 simp -implicitDefEqProofs [ac64]
 refine zC (α := Nat) (fun i _ => [(0, D.sl (em aT cs)), (2, D.opt 0 0), (3, D.opt 4 0), (4, I i)])
  (fun i _ => [(7, .arr ((i + 31) / 32) 1 (em fG (bD (cs.take i)))), (4, .box [I cs.length, .osl 7 ((i + 31) / 32) 0 ((i + 31) / 32)]), (0, .box [I 0, .pl (.slice none 0 0)])])
  (fun i _ => i ≤ cs.length) (fun i => cs.length - i) ⟨0, 8, by simp, by simpa [bD, upd] using DH (C := cf64) (env := [(0, D.sl (em aT cs)), (2, D.opt 0 0), (3, D.opt 4 0), (4, I 0)]) (tl := []) (mem := [(4, .box [I cs.length, .pl (.slice none 0 0)]), (0, .box [I 0, .pl (.slice none 0 0)])]) (nx := 7) (id := 4) (off := 1) (k := 1) rfl rfl (.inl rfl)⟩ ?_
 rintro i nx hi
 have hpl : (bD (cs.take i)).length = (i + 31) / 32 := by rw [eL]; simp; omega
 simp -implicitDefEqProofs [lC Tryz.underlying3 Tryz.underlying176, lC Tryz.underlying3 Tryz.underlying85, hpl]
 refine ⟨fun hlt => ?_, fun hge => ?_⟩
 ·have hc4 : fY (cs[i]?.getD 0) := by
   rw [List.getElem?_eq_getElem hlt]; exact h4 _ (List.getElem_mem hlt)
  have hc1 := hc4.1
  have hc2 := hc4.2
  have e1 : IntKind.i64.wrap ((i : Int) / 32) = i / 32 := aR (by omega) (by omega)
  have e1' : ((i : Int) / 32).toNat = i / 32 := by omega
  have e2 : IntKind.u64.wrap (IntKind.i64.wrap (2 * (i : Int).tmod 32)) = ((2 * (i % 32) : Nat) : Int) := by
   rw [Int.tmod_eq_emod_of_nonneg (by omega), aR (by omega) (by omega), mA (by omega) (by omega)]; omega
  have e3 : IntKind.u64.wrap (cs[i]?.getD 0) = cs[i]?.getD 0 := mA hc1 (by omega)
  have e4 : IntKind.i64.wrap ((i : Int) + 1) = ((i + 1 : Nat) : Int) := by rw [aR (by omega) (by omega)]; omega
  have e5 : (i : Int).tmod 32 = ((i % 32 : Nat) : Int) := by rw [Int.tmod_eq_emod_of_nonneg (by omega)]; omega
  have e6 : cs.take (i + 1) = cs.take i ++ [cs[i]?.getD 0] := by rw [List.take_succ, List.getElem?_eq_getElem hlt]; rfl
  have e7 : (cs.take i).length = i := by simp; omega
  have e8 : nB .u64 (cs[i]?.getD 0) ((2 * (i % 32) : Nat) : Int) = cs[i]?.getD 0 * 4 ^ (i % 32) := by
   have hp : (4 : Int) ^ (i % 32) ≤ 4 ^ 31 := by
    have : (4 : Nat) ^ (i % 32) ≤ 4 ^ 31 := Nat.pow_le_pow_right (by decide) (by omega)
    exact_mod_cast this
   have hb : cs[i]?.getD 0 * 4 ^ (i % 32) < 2 ^ 64 := by
    have h0 : (0 : Int) ≤ 4 ^ (i % 32) := Int.pow_nonneg (by decide)
    have : cs[i]?.getD 0 * 4 ^ (i % 32) ≤ 3 * 4 ^ 31 := Int.mul_le_mul hc2 hp h0 (by decide)
    have : (3 : Int) * 4 ^ 31 < 2 ^ 64 := by decide
    omega
   rw [EI rfl (by omega) hc1 (by rw [Int.pow_mul]; exact hb), Int.pow_mul]
   rfl
  rw [e1, e2, e3, e4, e5, e1']
  refine ⟨fun h0 => ⟨by omega, ⟨by omega, by omega⟩, by omega, hlt, by omega, ⟨by omega, by omega⟩, by omega, ?_⟩, fun h0 => ⟨⟨by omega, by omega⟩, by omega, hlt, by omega, ⟨by omega, by omega⟩, by omega, ?_⟩⟩
  ·refine aK (i + 1) (by omega) (by omega) (qW _) ?_
   have hv : (i + 1 + 31) / 32 = (i + 31) / 32 + 1 := by omega
   have hk : i / 32 = (bD (cs.take i)).length := by rw [hpl]; omega
   rw [e8, hv, e6, GX (by rw [e7]; omega), List.take_of_length_le (by omega), hk]
   have h00 : i % 32 = 0 := by omega
   have hor : bOr .u64 0 (cs[i]?.getD 0 * 4 ^ 0) = cs[i]?.getD 0 := by
    have := C9 (a := 0) (c := cs[i]?.getD 0) (j := 0) (by decide) (by decide) hc1 (by omega)
    simpa using this
   simp only [h00, List.getElem?_append_right (Nat.le_refl _), Nat.sub_self, List.getElem?_cons_zero, Option.getD_some, hor, List.set_append_right _ _ (Nat.le_refl _), List.set_cons_zero]
   exact aI _
  ·refine aK (i + 1) (by omega) (by omega) (qW _) ?_
   have hv : (i + 1 + 31) / 32 = (i + 31) / 32 := by omega
   have hsub : ∀ x ∈ (cs.take i).drop (32 * (i / 32)), fY x := fun x hx => h4 x (List.mem_of_mem_take (List.mem_of_mem_drop hx))
   have hwb := zL _ hsub
   have hdl : ((cs.take i).drop (32 * (i / 32))).length = i % 32 := by simp; omega
   rw [hdl] at hwb
   have hget : (bD (cs.take i))[i / 32]?.getD 0 = wd ((cs.take i).drop (32 * (i / 32))) := by
    rw [iU _ _ (by rw [e7]; omega), List.take_of_length_le (by rw [hdl]; omega)]; rfl
   have hor : bOr .u64 (wd ((cs.take i).drop (32 * (i / 32)))) (cs[i]?.getD 0 * 4 ^ (i % 32)) = wd ((cs.take i).drop (32 * (i / 32))) + cs[i]?.getD 0 * 4 ^ (i % 32) := by
    have h4p : (4 : Int) ^ (i % 32) = 2 ^ (2 * (i % 32)) := by rw [Int.pow_mul]; rfl
    rw [h4p] at hwb ⊢
    refine C9 hwb.1 hwb.2 hc1 ?_
    have : (2 : Int) ^ (2 * (i % 32)) ≤ 2 ^ 62 := by
     have : (2 : Nat) ^ (2 * (i % 32)) ≤ 2 ^ 62 := Nat.pow_le_pow_right (by decide) (by omega)
     exact_mod_cast this
    have hm : cs[i]?.getD 0 * 2 ^ (2 * (i % 32)) ≤ 3 * 2 ^ (2 * (i % 32)) := Int.mul_le_mul_of_nonneg_right hc2 (Int.pow_nonneg (by decide))
    omega
   rw [e8, hv, e6, FB (by rw [e7]; omega), e7, hget, hor]
   exact aI _
 ·have e : i = cs.length := by omega
  subst e
  rw [List.take_length, List.take_of_length_le (by rw [eL]; exact Nat.le_refl _)]
def getF (n : Int) (l : List Int) (i : Int) : D := if cN n l then (if 0 ≤ i ∧ i < n then .tup [I (aV l i.toNat), I 0] else .tup [I 0, I 2]) else .tup [I 0, I 3]
theorem r7 {n : Int} {l : List Int} : dY n l = 0 ↔ cN n l := by unfold dY; split <;> simp [*]
theorem Get_c (n i : Int) (l : List Int) : Pure Tryz.prog 104 [row n l, I i] (getF n l i) := by
 refine fi104.pu (by simp) ?_
 simp -implicitDefEqProofs [ac104, row]
 refine aG (qG n l) (by simp) ?_
 simp -implicitDefEqProofs [lC Tryz.underlying85 Tryz.underlying3, r7]
 refine ⟨fun hg => ?_, fun hg => ⟨fun h0 => ⟨fun h1 => ?_, fun h1 => ?_⟩, fun h0 => ?_⟩⟩
 ·simp [getF, hg, dY]
 ·simp [getF, hg, h0]; omega
 ·have hg' := hg
  obtain ⟨g1, g2, g3, _⟩ := hg'
  have e1 : i.tdiv 32 = i / 32 := Int.tdiv_eq_ediv_of_nonneg h0
  have e2 : i.tmod 32 = i % 32 := Int.tmod_eq_emod_of_nonneg h0
  have e3 : (i / 32).toNat = i.toNat / 32 := by omega
  have e4 : (2 : Int) * (i % 32) = ((2 * (i.toNat % 32) : Nat) : Int) := by omega
  have hb : ∀ j, 0 ≤ aV l j ∧ aV l j < 4 := fun j => ⟨Int.emod_nonneg _ (by decide), Int.emod_lt_of_pos _ (by decide)⟩
  have hb' := hb i.toNat
  have e5 : lD .u64 (iX .u64 (l[i.toNat / 32]?.getD 0) ((2 * (i.toNat % 32) : Nat) : Int)) 3 = aV l i.toNat := by
   rw [bAnd3, nL _ _ rfl (by simp only [IntKind.bits]; omega), Int.pow_mul]; rfl
  rw [e1, e2, aR (x := i / 32) (by omega) (by omega), aR (x := 2 * (i % 32)) (by omega) (by omega), e3, e4, e5, aR (by omega) (by omega)]
  refine ⟨⟨by omega, by omega⟩, by omega, ?_⟩
  simp [getF, hg, h0, h1]
 ·have : ¬ 0 ≤ i := by omega
  simp [getF, hg, this]
def putW (u : Int) (j : Nat) (v : Int) : Int := bOr .u64 (bClr .u64 u (nB .u64 3 ((2 * j : Nat) : Int))) (nB .u64 v ((2 * j : Nat) : Int))
def l6 (l : List Int) (i : Nat) (v : Int) : List Int := l.set (i / 32) (putW (l[i / 32]?.getD 0) (i % 32) v)
def qY (n : Int) (l : List Int) (i v : Int) : D := if cN n l then (if 0 ≤ i ∧ i < n ∧ 0 ≤ v ∧ v ≤ 3 then iR n (l6 l i.toNat v) 0 else iR 0 [] 2) else iR 0 [] 3
theorem Put_c (n i v : Int) (l : List Int) : Pure Tryz.prog 55 [row n l, I i, I v] (qY n l i v) := by
 refine fi55.pu (by simp) ?_
 simp -implicitDefEqProofs [ac55, row]
 refine aG (qG n l) (by simp) ?_
 simp -implicitDefEqProofs [lC Tryz.underlying3 Tryz.underlying85, r7]
 refine ⟨fun hg => ?_, fun hg => ⟨fun h0 => ⟨fun h1 => ⟨fun h2 => ⟨fun h3 => ?_, fun h3 => ?_⟩, fun h2 => ?_⟩, fun h1 => ?_⟩, fun h0 => ?_⟩⟩
 ·simp [qY, iR, hg, dY]
 ·have : ¬ v ≤ 3 := by omega
  simp [qY, iR, hg, this]
 ·have hg' := hg
  obtain ⟨g1, g2, g3, _⟩ := hg'
  have e1 : i.tdiv 32 = i / 32 := Int.tdiv_eq_ediv_of_nonneg h0
  have e2 : i.tmod 32 = i % 32 := Int.tmod_eq_emod_of_nonneg h0
  have e3 : (i / 32).toNat = i.toNat / 32 := by omega
  have e4 : (2 : Int) * (i % 32) = ((2 * (i.toNat % 32) : Nat) : Int) := by omega
  rw [e1, e2, aR (x := i / 32) (by omega) (by omega), aR (x := 2 * (i % 32)) (by omega) (by omega), e3, e4, mA h2 (by omega)]
  refine ⟨by omega, ⟨by omega, by omega⟩, by omega, by omega, ⟨by omega, by omega⟩, by omega, ?_⟩
  rw [List.take_of_length_le (by simp)]
  simp only [qY, hg, h0, h1, h2, h3, if_true, and_self, iR, l6, putW]
 ·have : ¬ 0 ≤ v := by omega
  simp [qY, iR, hg, this]
 ·have : ¬ i < n := by omega
  simp [qY, iR, hg, this]
 ·have : ¬ 0 ≤ i := by omega
  simp [qY, iR, hg, this]
theorem N1 (k : Nat) : wd (List.replicate k 0) = 0 := by
 induction k with
 | zero => rfl
 | succ k ih => simp [List.replicate_succ, wd, ih]
theorem nR {n : Int} {l : List Int} (hw : ∀ u ∈ l, (Lit.int .u64 u).wf = true) : cN n l ↔ nV n l := by
 unfold cN nV
 refine ⟨fun ⟨h0, h1, h2, h3⟩ => ⟨h0, h1, h2, fun i hi hlt => ?_⟩, fun ⟨h0, h1, h2, h3⟩ => ⟨h0, h1, h2, fun hp => ?_⟩⟩
 ·have hp : 0 < n % 32 := by omega
  have h4 := h3 hp
  have e : i / 32 = l.length - 1 := by omega
  unfold aV
  rw [e]
  have e2 : i % 32 = (n % 32).toNat + (i % 32 - (n % 32).toNat) := by omega
  rw [e2, Int.pow_add, ← Int.ediv_ediv_of_nonneg (Int.pow_nonneg (by decide)), h4]
  simp
 ·have hl : l.length - 1 < l.length := by omega
  have hb := EB (hw _ (List.getElem_mem hl))
  rw [List.getElem?_eq_getElem hl] at *
  simp only [Option.getD_some]
  have hp2 : (n % 32).toNat < 32 := by omega
  have e4 : (4 : Int) ^ 32 = 4 ^ (n % 32).toNat * 4 ^ (32 - (n % 32).toNat) := by rw [← Int.pow_add]; congr 1; omega
  have hpos : (0 : Int) < 4 ^ (n % 32).toNat := Int.pow_pos (by decide)
  have hlt : l[l.length - 1] / 4 ^ (n % 32).toNat < 4 ^ (32 - (n % 32).toNat) := by
   apply Int.ediv_lt_of_lt_mul hpos
   rw [Int.mul_comm, ← e4]
   have : (4 : Int) ^ 32 = 18446744073709551616 := by decide
   omega
  have hnn : 0 ≤ l[l.length - 1] / 4 ^ (n % 32).toNat := Int.ediv_nonneg hb.1 (by omega)
  rw [← tH (32 - (n % 32).toNat) _ hnn hlt]
  have : (List.range (32 - (n % 32).toNat)).map (fun j => l[l.length - 1] / 4 ^ (n % 32).toNat / 4 ^ j % 4) = List.replicate (32 - (n % 32).toNat) 0 := by
   apply List.ext_getElem
   ·simp
   ·intro j hj1 hj2
    simp at hj1
    have h5 := h3 (32 * (l.length - 1) + (n % 32).toNat + j) (by omega) (by omega)
    unfold aV at h5
    rw [show (32 * (l.length - 1) + (n % 32).toNat + j) / 32 = l.length - 1 by omega, show (32 * (l.length - 1) + (n % 32).toNat + j) % 32 = (n % 32).toNat + j by omega, List.getElem?_eq_getElem hl, Option.getD_some, Int.pow_add, ← Int.ediv_ediv_of_nonneg (by omega)] at h5
    simpa using h5
  rw [this, N1]
def low : Int := 6148914691236517205
def Two (n : Int) (l : List Int) (m : Int) (k : List Int) : Prop := cN n l ∧ cN m k ∧ n = m
instance (n : Int) (l : List Int) (m : Int) (k : List Int) : Decidable (Two n l m k) := by unfold Two; infer_instance
theorem W_low : W64 low := by unfold W64 low; decide
theorem bt_low : ∀ j, j < 32 → bt low (2 * j) = true ∧ bt low (2 * j + 1) = false := by decide
def gt (x y : Int) (j : Nat) : Bool := (bt x (2 * j + 1) && !bt y (2 * j + 1)) || ((bt x (2 * j + 1) == bt y (2 * j + 1)) && (bt x (2 * j) && !bt y (2 * j)))
section
variable {x y z : Int} (hx : W64 x) (hy : W64 y)
include hx hy
end
theorem W_zero : W64 0 := by unfold W64; decide
section
variable {x y z : Int} (hx : W64 x) (hy : W64 y)
include hx hy
end
def dV (l : List Int) : Prop := ∀ u ∈ l, W64 u
theorem Wwf {u : Int} (h : W64 u) : (Lit.int .u64 u).wf = true := by
 unfold W64 at h
 simp [Lit.wf, IntKind.min, IntKind.max, IntKind.signed, IntKind.bits]; omega
section
variable {n m : Int} {l k : List Int}
end
theorem I7 {n : Int} {l : List Int} (h : cN n l) : l.length ≤ 128 := by have := h.2.1; have := h.2.2.1; omega
section
variable {n m : Int} {l k : List Int}
theorem mS {i : Nat} (h : i < n.toNat) : (cl n l)[i]? = some (aV l i) := by simp [cl, h]
theorem kH {i : Nat} (h : i < n.toNat) : (cl n l)[i]?.getD 0 = aV l i := by rw [mS h]; rfl
theorem xF : ∀ c ∈ cl n l, fY c := by
 intro c hc
 unfold cl at hc
 obtain ⟨i, _, rfl⟩ := List.mem_map.1 hc
 have := qF l i
 exact ⟨this.1, by omega⟩
theorem IE {cs : List Int} (hl : cs.length = n.toNat) (h : ∀ i, i < n.toNat → cs[i]?.getD 0 = aV l i) : cs = cl n l := by
 apply List.ext_getElem?
 intro i
 by_cases hi : i < n.toNat
 ·rw [mS hi, ← h i hi, List.getElem?_eq_getElem (by omega)]; rfl
 ·rw [List.getElem?_eq_none (by omega), List.getElem?_eq_none (by rw [jR]; omega)]
theorem oD (h : cN n l) : n.toNat ≤ 32 * l.length := by have := h.1; have := h.2.2.1; omega
theorem D1 (g : cN n l) (w : dV l) : bD (cl n l) = l := by
 have hc := (nR (n := n) fun u hu => Wwf (w u hu)).1 g
 apply List.ext_getElem?
 intro q
 have h0 := g.1
 have h2 := g.2.2.1
 by_cases hq : q < l.length
 ·rw [iU _ _ (by rw [jR]; omega), List.getElem?_eq_getElem hq]
  congr 1
  have hw := w _ (List.getElem_mem hq)
  have e : ((cl n l).drop (32 * q)).take 32 = (List.range (min 32 (n.toNat - 32 * q))).map (fun j => l[q] / 4 ^ j % 4) := by
   apply List.ext_getElem?
   intro j
   by_cases hj : j < min 32 (n.toNat - 32 * q)
   ·rw [List.getElem?_take, if_pos (by omega), List.getElem?_drop, mS (by omega)]
    simp only [List.getElem?_map, List.getElem?_range hj, Option.map_some]
    unfold aV
    rw [show (32 * q + j) / 32 = q by omega, show (32 * q + j) % 32 = j by omega, List.getElem?_eq_getElem hq]
    rfl
   ·rw [List.getElem?_eq_none (by simp [jR]; omega), List.getElem?_eq_none (by simp; omega)]
  rw [e]
  refine tH _ _ hw.1 ?_
  by_cases h32 : 32 ≤ n.toNat - 32 * q
  ·rw [Nat.min_eq_left h32]
   have : (4 : Int) ^ 32 = 18446744073709551616 := by decide
   rw [this]; exact hw.2
  ·have hq1 : q = l.length - 1 := by omega
   have hp : 0 < n % 32 := by omega
   have h3 := g.2.2.2 hp
   rw [← hq1, List.getElem?_eq_getElem hq] at h3
   simp only [Option.getD_some] at h3
   rw [Nat.min_eq_right (by omega), show n.toNat - 32 * q = (n % 32).toNat by omega]
   have hpos : (0 : Int) < 4 ^ (n % 32).toNat := Int.pow_pos (by decide)
   apply Classical.byContradiction
   intro hlt
   have : 1 ≤ l[q] / 4 ^ (n % 32).toNat := by
    rw [Int.le_ediv_iff_mul_le hpos]; omega
   omega
 ·rw [List.getElem?_eq_none (by rw [eL, jR]; omega), List.getElem?_eq_none (by omega)]
theorem q_ {i : Nat} (h : i < 32 * l.length) : ∃ hq : i / 32 < l.length, aV l i = l[i / 32] / 4 ^ (i % 32) % 4 := by
 refine ⟨by omega, ?_⟩
 unfold aV
 rw [List.getElem?_eq_getElem (by omega : i / 32 < l.length)]; rfl
theorem GG {u v : Int} {j : Nat} : W64 (putW u j v) := W_or
theorem qU {v : Int} (h0 : 0 ≤ v) (h3 : v ≤ 3) {t : Nat} (ht : 2 ≤ t) : bt v t = false := by
 unfold bt
 apply Nat.testBit_lt_two_pow
 have : 2 ^ 2 ≤ 2 ^ t := Nat.pow_le_pow_right (by decide) ht
 omega
theorem KJ {u v : Int} (hu : W64 u) (h0 : 0 ≤ v) (h3 : v ≤ 3) {j i : Nat} (hj : j < 32) (hi : i < 32) : putW u j v / 4 ^ i % 4 = if i = j then v else u / 4 ^ i % 4 := by
 have hv : W64 v := ⟨h0, by omega⟩
 have h33 : W64 3 := ⟨by decide, by decide⟩
 have key : ∀ t, t < 64 → bt (putW u j v) t = ((bt u t && !(!decide (t < 2 * j) && bt 3 (t - 2 * j))) || (!decide (t < 2 * j) && bt v (t - 2 * j))) := by
  intro t ht
  unfold putW
  have w1 := W_shl h33 (k := 2 * j) (by omega)
  have w2 := W_shl hv (k := 2 * j) (by omega)
  rw [bt_or W_clr w2, bt_clr hu w1 ht, H6 h33 (by omega), H6 hv (by omega)]
  simp [ht]
 have k1 := key (2 * i) (by omega)
 have k2 := key (2 * i + 1) (by omega)
 rw [mR GG.1, k1, k2]
 by_cases hij : i = j
 ·subst hij
  have e : v = (if bt v 1 then 2 else 0) + (if bt v 0 then 1 else 0) := by
   have := mR h0 0
   simp at this
   omega
  have b0 : bt 3 0 = true := by decide
  have b1 : bt 3 1 = true := by decide
  simp only [if_true]
  rw [show 2 * i + 1 - 2 * i = 1 by omega, Nat.sub_self, b0, b1]
  conv => rhs; rw [e]
  have hn : ¬ 2 * i + 1 < 2 * i := by omega
  simp [hn]
 ·rw [if_neg hij, mR hu.1]
  by_cases hlt : i < j
  ·have d1 : 2 * i < 2 * j := by omega
   have d2 : 2 * i + 1 < 2 * j := by omega
   simp [d1, d2]
  ·have d1 : ¬ 2 * i < 2 * j := by omega
   have d2 : ¬ 2 * i + 1 < 2 * j := by omega
   rw [qU (v := 3) (by decide) (by decide) (by omega), qU (v := 3) (by decide) (by decide) (by omega), qU h0 h3 (by omega), qU h0 h3 (by omega)]
   simp
theorem AH {v : Int} {i : Nat} (h : dV l) : dV (l6 l i v) := by
 intro u hu
 rcases List.mem_or_eq_of_mem_set hu with h1 | rfl
 ·exact h u h1
 ·exact GG
theorem tD {v : Int} (h : dV l) (h0 : 0 ≤ v) (h3 : v ≤ 3) {i j : Nat} (hi : i < 32 * l.length) (hj : j < 32 * l.length) : aV (l6 l j v) i = if i = j then v else aV l i := by
 obtain ⟨a1, a2⟩ := q_ hi
 obtain ⟨b1, b2⟩ := q_ (l := l6 l j v) (i := i) (by simpa [l6] using hi)
 rw [a2, b2]
 simp only [l6, List.getElem_set]
 have hj2 : j / 32 < l.length := by omega
 by_cases hq : j / 32 = i / 32
 ·rw [if_pos hq]
  have e : l[j / 32]?.getD 0 = l[i / 32] := by rw [hq, List.getElem?_eq_getElem a1]; rfl
  rw [e, KJ (h _ (List.getElem_mem _)) h0 h3 (by omega) (by omega)]
  by_cases hij : i = j
  ·subst hij; simp
  ·rw [if_neg hij, if_neg (by omega)]
 ·rw [if_neg hq, if_neg (by rintro rfl; exact hq rfl)]
theorem yP {v : Int} (w : dV l) (g : cN n l) (h0 : 0 ≤ v) (h3 : v ≤ 3) {i : Nat} (hi : i < n.toNat) : cN n (l6 l i v) := by
 have hc := (nR (n := n) fun u hu => Wwf (w u hu)).1 g
 refine (nR (n := n) fun u hu => Wwf (AH w u hu)).2 ⟨hc.1, hc.2.1, by simpa [l6] using hc.2.2.1, fun j hj hlt => ?_⟩
 have hlt' : j < 32 * l.length := by simpa [l6] using hlt
 rw [tD w h0 h3 hlt' (by have := oD g; omega), if_neg (by omega)]
 exact hc.2.2.2 j hj hlt'
theorem zN {n : Int} (h0 : 0 ≤ n) (h1 : n ≤ 4096) : cN n (List.replicate ((n + 31) / 32).toNat 0) := by
 refine ⟨h0, h1, by simp; omega, fun hp => ?_⟩
 rw [List.getElem?_replicate]
 split <;> simp
theorem HT (q : Nat) : dV (List.replicate q 0) := by
 intro u hu; rw [List.mem_replicate] at hu; rw [hu.2]; exact W_zero
theorem xS {q i : Nat} : aV (List.replicate q 0) i = 0 := by
 unfold aV
 rw [List.getElem?_replicate]
 split <;> simp
end
theorem vK {a : Nat} (ha : a < 2 ^ 64) (m : Nat) (hm : m < 2 ^ 64) : lD .u64 (a : Int) (m : Int) = ((a &&& m : Nat) : Int) := MC ha hm
theorem tS {a b : Nat} (h : a + b < 2 ^ 64) : IntKind.u64.wrap ((a : Int) + (b : Int)) = ((a + b : Nat) : Int) := by
 rw [mA (by omega) (by omega)]; omega
theorem I6 (x : Int) : IntKind.i64.wrap x % 128 = x % 128 := by
 have key : ∀ (b : Bool) (m : Int), (if b = true then m - 18446744073709551616 else m) % 128 = m % 128 := by
  intro b m; cases b <;> simp; omega
 have e : IntKind.i64.wrap x % 128 = x % 18446744073709551616 % 128 := key _ (x % 18446744073709551616)
 rw [e]; omega
theorem and127 (x : Int) : lD .i64 x 127 = x % 128 := by
 show IntKind.i64.wrap (((BitVec.ofInt 64 x &&& BitVec.ofInt 64 127).toNat : Nat) : Int) = _
 rw [BitVec.toNat_and, BitVec.toNat_ofInt, BitVec.toNat_ofInt]
 have e2 : ((127 : Int) % ((2 ^ 64 : Nat) : Int)).toNat = 2 ^ 7 - 1 := by decide
 rw [e2, Nat.and_two_pow_sub_one_eq_mod, aR (by omega) (by omega)]
 omega
theorem ones_c (x : Nat) (h : x < 2 ^ 64) : Pure Tryz.prog 129 [U x] (I ((bits x 64).sum : Nat)) := by
 refine fi129.pu (by simp) ?_
 simp -implicitDefEqProofs [ac129]
 obtain ⟨p1, p2, p3, p4, p5, p6, p7, p8⟩ := pop_ok x h
 have lt_and : ∀ a m : Nat, m < 2 ^ 64 → (a &&& m) < 2 ^ 64 := fun a m hm => Nat.lt_of_le_of_lt Nat.and_le_right hm
 have m0 : (6148914691236517205 : Int) = ((6148914691236517205 : Nat) : Int) := rfl
 have m1 : (3689348814741910323 : Int) = ((3689348814741910323 : Nat) : Int) := rfl
 have m2 : (1085102592571150095 : Int) = ((1085102592571150095 : Nat) : Int) := rfl
 have sh : ∀ (a k : Nat), k ≤ 64 → iX .u64 (a : Int) ((k : Nat) : Int) = ((a / 2 ^ k : Nat) : Int) := fun a k hk => N5 hk
 have dv : ∀ (a k : Nat), a < 2 ^ 64 → a / 2 ^ k < 2 ^ 64 := fun a k ha => Nat.lt_of_le_of_lt (Nat.div_le_self _ _) ha
 rw [show (1 : Int) = ((1 : Nat) : Int) from rfl, show (2 : Int) = ((2 : Nat) : Int) from rfl, show (4 : Int) = ((4 : Nat) : Int) from rfl, show (8 : Int) = ((8 : Nat) : Int) from rfl, show (16 : Int) = ((16 : Nat) : Int) from rfl, show (32 : Int) = ((32 : Nat) : Int) from rfl, m0, m1, m2,
  sh x 1 (by decide), vK (dv x 1 h) _ (by decide), vK h _ (by decide), tS p2]
 generalize ha1 : (x / 2 ^ 1 &&& 6148914691236517205) + (x &&& 6148914691236517205) = a1 at *
 rw [sh a1 2 (by decide), vK (dv a1 2 p2) _ (by decide), vK p2 _ (by decide), tS p3]
 generalize ha2 : (a1 / 2 ^ 2 &&& 3689348814741910323) + (a1 &&& 3689348814741910323) = a2 at *
 rw [sh a2 4 (by decide), tS p4, vK p4 _ (by decide)]
 generalize ha3 : (a2 / 2 ^ 4 + a2 &&& 1085102592571150095) = a3 at *
 rw [sh a3 8 (by decide), tS p5]
 generalize ha4 : a3 + a3 / 2 ^ 8 = a4 at *
 rw [sh a4 16 (by decide), tS p6]
 generalize ha5 : a4 + a4 / 2 ^ 16 = a5 at *
 rw [sh a5 32 (by decide), tS p7]
 rw [and127, I6]
 omega
section
variable {n m : Int} {l k : List Int}
theorem xN (w : dV l) : cN n l ↔ nV n l := nR (n := n) fun u hu => Wwf (w u hu)
end
section
variable {n m : Int} {l k : List Int}
def eU (l : List Int) (v : Int) (t : Nat) : Nat := (List.range t).countP fun i => decide (aV l i = v)
theorem uV {v : Int} {t : Nat} : eU l v t ≤ t := by
 unfold eU
 have := List.countP_le_length (p := fun i => decide (aV l i = v)) (l := List.range t)
 simpa using this
theorem zE {v : Int} {a b : Nat} : eU l v (a + b) = eU l v a + ((List.range b).countP fun j => decide (aV l (a + j) = v)) := by
 unfold eU
 rw [List.range_add, List.countP_append, List.countP_map]
 rfl
def oM (n : Int) (l : List Int) (v : Int) : D := if cN n l then (if 0 ≤ v ∧ v ≤ 3 then .tup [I (eU l v n.toNat : Nat), I 0] else .tup [I 0, I 2]) else .tup [I 0, I 3]
theorem z_ (f : Nat → Nat) : ∀ k, ((List.range (2 * k)).map f).sum = ((List.range k).map fun j => f (2 * j) + f (2 * j + 1)).sum
 | 0 => rfl
 | k + 1 => by
  rw [show 2 * (k + 1) = 2 * k + 1 + 1 by omega, List.range_succ, List.range_succ, List.range_succ (n := k)]
  simp only [List.map_append, List.sum_append, List.map_cons, List.map_nil, List.sum_cons, List.sum_nil, z_ f k]
  omega
theorem wO (p : Nat → Bool) : ∀ k, ((List.range k).map fun j => if p j then 1 else 0).sum = (List.range k).countP p
 | 0 => rfl
 | k + 1 => by
  rw [List.range_succ, List.map_append, List.sum_append, wO p k, List.countP_append]
  by_cases h : p k = true <;> simp [h]
def unl (v : Int) : Int := IntKind.u64.wrap (IntKind.u64.wrap v * 6148914691236517205)
def kP (x v : Int) : Int := lD .u64 (tB .u64 (bOr .u64 (oI .u64 x (unl v)) (iX .u64 (oI .u64 x (unl v)) 1))) low
theorem IT : ∀ v : Fin 4, (0 ≤ unl (v.val : Int) ∧ unl (v.val : Int) < 18446744073709551616) ∧ ∀ j, j < 32 → bt (unl (v.val : Int)) (2 * j) = bt (v.val : Int) 0 ∧ bt (unl (v.val : Int)) (2 * j + 1) = bt (v.val : Int) 1 := by decide
theorem unl_ok {v : Int} (h0 : 0 ≤ v) (h3 : v ≤ 3) : W64 (unl v) ∧ ∀ j, j < 32 → bt (unl v) (2 * j) = bt v 0 ∧ bt (unl v) (2 * j + 1) = bt v 1 := by
 have := IT ⟨v.toNat, by omega⟩
 rw [show (((⟨v.toNat, by omega⟩ : Fin 4).val : Nat) : Int) = v by simp; omega] at this
 exact this
theorem G6 {x v : Int} (hx : W64 x) (h0 : 0 ≤ v) (h3 : v ≤ 3) {j : Nat} (hj : j < 32) : bt (kP x v) (2 * j) = decide (x / 4 ^ j % 4 = v) ∧ bt (kP x v) (2 * j + 1) = false := by
 obtain ⟨u1, u2⟩ := unl_ok h0 h3
 obtain ⟨u3, u4⟩ := u2 j hj
 obtain ⟨l1, l2⟩ := bt_low j hj
 have wd : W64 (oI .u64 x (unl v)) := W_xor
 have ws : W64 (iX .u64 (oI .u64 x (unl v)) ((1 : Nat) : Int)) := W_shr wd (by decide)
 have e1 : (1 : Int) = ((1 : Nat) : Int) := rfl
 have hv : v = (if bt v 1 then 2 else 0) + (if bt v 0 then 1 else 0) := by
  have := mR h0 0
  simp at this
  omega
 unfold kP
 rw [e1, H3 W_not W_low, H3 W_not W_low, l1, l2, bt_not W_or (by omega), bt_or wd ws, bt_shr wd (by decide), IA hx u1, show 1 + 2 * j = 2 * j + 1 by omega, IA hx u1, u3, u4, mR hx.1]
 refine ⟨?_, by simp⟩
 conv => rhs; rw [hv]
 cases bt x (2 * j) <;> cases bt x (2 * j + 1) <;> cases bt v 0 <;> cases bt v 1 <;> decide
theorem KA {x v : Int} (hx : W64 x) (h0 : 0 ≤ v) (h3 : v ≤ 3) : (bits (kP x v).toNat 64).sum = (List.range 32).countP fun j => decide (x / 4 ^ j % 4 = v) := by
 have e : ∀ i, (kP x v).toNat / 2 ^ i % 2 = if bt (kP x v) i then 1 else 0 := by
  intro i
  unfold bt
  rw [Nat.testBit_eq_decide_div_mod_eq]
  have := Nat.mod_two_eq_zero_or_one ((kP x v).toNat / 2 ^ i)
  rcases this with h | h <;> simp [h]
 unfold bits
 rw [show (64 : Nat) = 2 * 32 from rfl, z_, ← wO]
 congr 1
 apply List.map_congr_left
 intro j hj
 rw [List.mem_range] at hj
 obtain ⟨b1, b2⟩ := G6 hx h0 h3 hj
 rw [e, e, b1, b2]
 simp
theorem ES {v : Int} (w : dV l) (h0 : 0 ≤ v) (h3 : v ≤ 3) {q : Nat} (hq : q < l.length) : eU l v (32 * (q + 1)) = eU l v (32 * q) + (bits (kP l[q] v).toNat 64).sum := by
 rw [show 32 * (q + 1) = 32 * q + 32 by omega, zE, KA (w _ (List.getElem_mem hq)) h0 h3]
 congr 1
 apply List.countP_congr
 intro j hj
 rw [List.mem_range] at hj
 obtain ⟨a1, a2⟩ := q_ (l := l) (i := 32 * q + j) (by omega)
 have b1 : (32 * q + j) / 32 = q := by omega
 have b2 : (32 * q + j) % 32 = j := by omega
 simp only [b1, b2] at a2
 rw [a2]
theorem FC {v : Int} (g : cN n l) (w : dV l) : eU l v (32 * l.length) = eU l v n.toNat + (if v = 0 then 32 * l.length - n.toNat else 0) := by
 have hp := oD g
 have hok := (xN w).1 g
 rw [show 32 * l.length = n.toNat + (32 * l.length - n.toNat) by omega, zE]
 congr 1
 have hz : ∀ j, j < 32 * l.length - n.toNat → aV l (n.toNat + j) = 0 := fun j hj => hok.2.2.2 _ (by have := g.1; omega) (by omega)
 split
 ·rename_i hv
  rw [List.countP_eq_length.2]
  ·simp
  ·intro j hj
   rw [List.mem_range] at hj
   simp [hz j hj, hv]
 ·rename_i hv
  rw [List.countP_eq_zero.2]
  intro j hj
  rw [List.mem_range] at hj
  simp [hz j hj]
  exact fun h => hv h.symm
theorem MI (w : dV l) (v : Int) : Pure Tryz.prog 95 [row n l, I v] (oM n l v) := by
 refine fi95.pu (by simp) ?_
 simp -implicitDefEqProofs [ac95, row]
 refine aG (qG n l) (by simp) ?_
 simp -implicitDefEqProofs
 by_cases g : cN n l
 ·have h0 := g.1
  have h4 := g.2.1
  have h5 := g.2.2.1
  have hlen := I7 g
  by_cases h1 : 0 ≤ v
  ·by_cases h2 : v ≤ 3
   ·have e : ¬ v < 0 := by omega
    have e2 : ¬ 3 < v := by omega
    simp -implicitDefEqProofs [e, e2, h1, h2, dY, g]
    rw [show IntKind.u64.wrap (IntKind.u64.wrap v * 6148914691236517205) = unl v from rfl]
    refine lpG cf95 lb95_0 [8, 10, 11, 29] (α := Nat) (fun i _ => [(8, I (eU l v (32 * i) : Nat)), (29, I i)]) (fun _ _ => []) (fun i _ => i ≤ l.length) (fun i => l.length - i) 0 (by omega) (by simp [eU]) (by simp) ?_
    rintro i nx hi
    have hc := uV (l := l) (v := v) (t := 32 * i)
    simp -implicitDefEqProofs [lb95_0]
    refine ⟨fun hlt => ⟨hlt, ?_⟩, fun hge => ?_⟩
    ·have hg : l[i]?.getD 0 = l[i] := by rw [List.getElem?_eq_getElem hlt]; rfl
     rw [hg, show lD .u64 (tB .u64 (bOr .u64 (oI .u64 l[i] (unl v)) (iX .u64 (oI .u64 l[i] (unl v)) 1))) 6148914691236517205 = kP l[i] v from rfl]
     have hW : W64 (kP l[i] v) := W_and
     have hn : kP l[i] v = (((kP l[i] v).toNat : Nat) : Int) := by have := hW.1; omega
     have hs := ES w h1 h2 hlt
     have hc2 := uV (l := l) (v := v) (t := 32 * (i + 1))
     have hb : (kP l[i] v).toNat < 2 ^ 64 := by have := hW.2; have := hW.1; omega
     have ho := ones_c (kP l[i] v).toNat hb
     rw [← hn] at ho
     refine aG (ho) (by simp) ?_
     simp -implicitDefEqProofs
     rw [aR (x := (i : Int) + 1) (by omega) (by omega), aR (by omega) (by omega)]
     exact aK (i + 1) (by omega) (by omega) (by simp [hs]) (by simp)
    ·have e3 : i = l.length := by omega
     subst e3
     have ht := FC (v := v) g w
     have hc3 := uV (l := l) (v := v) (t := n.toNat)
     have hp := oD g
     rw [aR (x := 32 * (l.length : Int)) (by omega) (by omega), aR (x := 32 * (l.length : Int) - n) (by omega) (by omega), aR (by omega) (by omega)]
     refine ⟨fun hv => ?_, fun hv => ?_⟩
     ·rw [if_pos hv] at ht
      simp only [oM, g, h1, h2, if_true, and_self]
      congr 4
      omega
     ·rw [if_neg hv] at ht
      simp only [oM, g, h1, h2, if_true, and_self]
      congr 4
      omega
   ·have e : ¬ v < 0 := by omega
    have e2 : 3 < v := by omega
    simp -implicitDefEqProofs [e, e2, dY, oM, g, h2]
  ·have e : v < 0 := by omega
   simp -implicitDefEqProofs [e, dY, oM, g, h1]
 ·simp -implicitDefEqProofs [oM, g, dY]
end
set_option maxHeartbeats 4000000
theorem KR {α : Type} {enc : α → List D} {k : Nat} {l : List α} {mem : Mem} (h : ∀ x, (enc x).all D.cell = true) (hk : ∀ x, (enc x).length = k) : els mem k (.sl (em enc l)) = some (em enc l) := by
 show (if ((em enc l).all fun e => e.length == k && e.all D.cell) = true then some (em enc l) else none) = _
 rw [if_pos (AU h hk)]
theorem GZ {l : List Int} {mem : Mem} : els mem 1 (.sl (em aT l)) = some (em aT l) := KR (fun x => rfl) (fun x => rfl)
abbrev tbC (ps : List Int) (t n : Int) (l : List Int) : List D := [.sl (em aT ps), I t, I n, .sl (em fG l)]
abbrev tb (ps : List Int) (t n : Int) (l : List Int) : D := .agg (tbC ps t n l)
theorem D7 (l : List Int) (hl : l.length < 2 ^ 44) : Pure Tryz.prog 63 [.sl (em aT l)] (.sl (em aT l)) := by
 refine fi63.pu (by simp) ?_
 have b1 : l.length * 8 ≤ 3 * 2 ^ 46 := by omega
 simp -implicitDefEqProofs [-els, GZ, ac63, b1]
theorem M4 (l : List Int) (hl : l.length < 2 ^ 44) : Pure Tryz.prog 85 [.sl (em aT l)] (.sl (em aT l)) := by
 by_cases he : l = []
 ·subst he
  refine EZ ?_ (fun p c => ?_) (fun h => absurd rfl h)
  ·refine fi85.pu (by simp) ?_
   simp -implicitDefEqProofs [ac85, M5 Tryz.underlying24]
  ·refine fi85.pu (by simp) ?_
   simp -implicitDefEqProofs [ac85, OI Tryz.underlying24]
 ·have hne : em aT l ≠ [] := by cases l with
   | nil => exact absurd rfl he
   | cons a l => simp [em]
  have b1 : l.length * 8 ≤ 3 * 2 ^ 46 := by omega
  refine fi85.pu (by simp) ?_
  simp -implicitDefEqProofs [-els, GZ, ac85, NU Tryz.underlying24 hne, b1]
def newT (ps : List Int) (t : Int) : D × Int := if (bX ps).2 ≠ 0 then (tb [] 0 0 [], (bX ps).2) else if tp t < 0 then (tb [] 0 0 [], 3) else (tb ps t (pr ps) (List.replicate ((pr ps + 31) / 32).toNat 0), 0)
theorem NC (ps : List Int) (t : Int) (hl : ps.length < 2 ^ 44) : Pure Tryz.prog 53 [.sl (em aT ps), I t] (.tup [(newT ps t).1, I (newT ps t).2]) := by
 refine fi53.pu (by simp) ?_
 simp -implicitDefEqProofs [ac53]
 refine aG (oJ ps (by omega)) (by simp) ?_
 simp -implicitDefEqProofs
 unfold newT
 by_cases he : (bX ps).2 = 0
 ·obtain ⟨ho, hp96, hp1⟩ := cX he
  have hpos := cZ ho
  simp -implicitDefEqProofs [he, hp1]
  refine aG (sO t) (by simp) ?_
  simp -implicitDefEqProofs
  by_cases hb : tp t < 0
  ·have hb1 : ¬ 0 ≤ tp t := by omega
   simp -implicitDefEqProofs [hb, hb1]
  ·have hb1 : 0 ≤ tp t := by omega
   have hN : 0 ≤ pr ps ∧ pr ps ≤ 4096 := by omega
   simp -implicitDefEqProofs [hb, hb1]
   refine aG (New_c (pr ps)) (by simp) ?_
   simp -implicitDefEqProofs [newF, hN.1, hN.2, iR]
   refine aG (M4 ps hl) (by simp) ?_
   simp -implicitDefEqProofs
 ·simp -implicitDefEqProofs [he]
def fZ (ps : List Int) (t n : Int) (l : List Int) : Prop := (bX ps).2 = 0 ∧ 0 ≤ tp t ∧ n = pr ps ∧ cN n l ∧ ∀ i, i < n.toNat → aV l i ≤ tp t
open Classical in
noncomputable def pU (ps : List Int) (t n : Int) (l : List Int) : Int := if fZ ps t n l then 0 else 3
theorem HM {l : List Int} {n t : Int} (ht : 0 ≤ tp t) (hc : ∀ v : Int, tp t + 1 ≤ v → v < 4 → eU l v n.toNat = 0) : ∀ i, i < n.toNat → aV l i ≤ tp t := by
 intro i hi
 have hb := qF l i
 apply Classical.byContradiction
 intro h
 have := hc (aV l i) (by omega) hb.2
 unfold eU at this
 rw [List.countP_eq_zero] at this
 have := this i (by simpa using hi)
 simp at this
theorem cells_top' {l : List Int} {n t v : Int} (h : ∀ i, i < n.toNat → aV l i ≤ tp t) (hv : tp t < v) : eU l v n.toNat = 0 := by
 unfold eU
 rw [List.countP_eq_zero]
 intro i hi
 have := h i (by simpa using hi)
 simp
 omega
theorem F6 (ps : List Int) (t n : Int) (l : List Int) (w : dV l) (hl : ps.length < 2 ^ 44) : Pure Tryz.prog 66 [tb ps t n l] (I (pU ps t n l)) := by
 refine fi66.pu (by simp) ?_
 simp -implicitDefEqProofs [ac66]
 refine aG (oJ ps (by omega)) (by simp) ?_
 simp -implicitDefEqProofs
 refine aG (sO t) (by simp) ?_
 simp -implicitDefEqProofs
 by_cases he : (bX ps).2 = 0
 ·obtain ⟨ho, hp96, hp1⟩ := cX he
  by_cases hb : tp t < 0
  ·have hno : ¬ fZ ps t n l := fun h => by have := h.2.1; omega
   have hb1 : ¬ 0 ≤ tp t := by omega
   simp -implicitDefEqProofs [he, hb, hb1, hp1, pU, hno]
  ·have hb1 : 0 ≤ tp t := by omega
   by_cases hn : n = pr ps
   ·by_cases hg : cN n l
    ·have hck : dY n l = 0 := r7.2 hg
     simp -implicitDefEqProofs [he, hb, hb1, hp1, hn]
     rw [← hn]
     refine aG (qG n l) (by simp) ?_
     simp -implicitDefEqProofs [hck]
     generalize hR : pU ps t n l = R
     refine lpG cf66 lb66_0 [2, 7, 8] (α := Nat) (fun s _ => [(2, .top), (7, I (tp t + 1 + s)), (8, .top)]) (fun s _ => []) (fun s k => tp t + 1 + s ≤ 4 ∧ ∀ v : Int, tp t + 1 ≤ v → v < tp t + 1 + s → eU l v n.toNat = 0) (fun s => 4 - s) 0 ⟨by have := fK t; omega, fun v h1 h2 => by omega⟩ (by simp) (by simp) ?_
     rintro s k ⟨hs, hc⟩
     have hti := fK t
     by_cases hlt : tp t + 1 + (s : Int) < 4
     ·have w1 := wrS (x := tp t + 1 + (s : Int) + 1) (by omega) (by omega)
      have hv : 0 ≤ tp t + 1 + (s : Int) ∧ tp t + 1 + (s : Int) ≤ 3 := by omega
      simp -implicitDefEqProofs [lb66_0, hlt, Int.not_le.2 hlt]
      refine aG (MI w (tp t + 1 + s)) (by simp) ?_
      simp -implicitDefEqProofs [oM, hg, hv.1, hv.2]
      by_cases hz : eU l (tp t + 1 + s) n.toNat = 0
      ·simp -implicitDefEqProofs [hz, w1]
       refine aK (s + 1) ⟨by omega, fun v h1 h2 => ?_⟩ (by omega) (by simp; exact .inl (by rw [Int.add_assoc _ (s : Int) 1])) (by simp)
       by_cases e : v = tp t + 1 + s
       ·rw [e]; exact hz
       ·exact hc v h1 (by omega)
      ·have hno : ¬ fZ ps t n l := fun h => hz (cells_top' h.2.2.2.2 (by omega))
       have hpos : 0 < eU l (tp t + 1 + s) n.toNat := by omega
       rw [pU, if_neg hno] at hR
       subst hR
       simp -implicitDefEqProofs [hpos, hz]
     ·have hyes : fZ ps t n l := ⟨he, by omega, hn, hg, HM (by omega) fun v h1 h2 => hc v h1 (by omega)⟩
      rw [pU, if_pos hyes] at hR
      subst hR
      simp -implicitDefEqProofs [lb66_0, hlt, Int.not_lt.1 hlt]
    ·have hck : dY n l = 3 := by unfold dY; rw [if_neg hg]
     have hno : ¬ fZ ps t n l := fun h => hg h.2.2.2.1
     simp -implicitDefEqProofs [he, hb, hb1, hp1, hn]
     rw [← hn]
     refine aG (qG n l) (by simp) ?_
     simp -implicitDefEqProofs [hck, pU, hno]
   ·have hno : ¬ fZ ps t n l := fun h => hn h.2.2.1
    simp -implicitDefEqProofs [he, hb, hb1, hp1, hn, pU, hno]
 ·have hno : ¬ fZ ps t n l := fun h => he h.1
  simp -implicitDefEqProofs [he, pU, hno]
theorem oG : ∀ (ts ps : List Int) (a : Int), inT ts ps = true → 0 ≤ a → a * pr ts ≤ vl ts ps a ∧ vl ts ps a < (a + 1) * pr ts
 | [], ps, a, h, ha => by
  cases ps with
  | nil => simp [vl, pr]; omega
  | cons p ps => simp [inT] at h
 | t :: ts, [], a, h, ha => by simp [inT] at h
 | t :: ts, p :: ps, a, h, ha => by
  unfold inT at h
  simp only [Bool.and_eq_true, decide_eq_true_eq] at h
  obtain ⟨⟨h0, h1⟩, h2⟩ := h
  have hk : 0 ≤ a * (tp t + 1) := Int.mul_nonneg ha (by omega)
  obtain ⟨g1, g2⟩ := oG ts ps (a * (tp t + 1) + p) h2 (by omega)
  unfold vl pr
  have hP := zT ts
  have e1 : (a + 1) * ((tp t + 1) * pr ts) = (a * (tp t + 1) + (tp t + 1)) * pr ts := by rw [← Int.mul_assoc, Int.add_mul a 1, Int.one_mul]
  have e2 : a * ((tp t + 1) * pr ts) = (a * (tp t + 1)) * pr ts := by rw [Int.mul_assoc]
  have m1 : (a * (tp t + 1)) * pr ts ≤ (a * (tp t + 1) + p) * pr ts := Int.mul_le_mul_of_nonneg_right (by omega) hP
  have m2 : (a * (tp t + 1) + p + 1) * pr ts ≤ (a * (tp t + 1) + (tp t + 1)) * pr ts := Int.mul_le_mul_of_nonneg_right (by omega) hP
  omega
theorem M1 {ps : List Int} {t n : Int} {l : List Int} : fZ ps t n l ↔ (bX ps).2 = 0 ∧ cN n l ∧ n = (bX ps).1 ∧ 0 ≤ tp t ∧ ∀ i, i < n.toNat → aV l i ≤ tp t := by
 constructor
 ·rintro ⟨h1, h2, h3, h4, h5⟩
  exact ⟨h1, h4, by rw [(cX h1).2.2]; exact h3, h2, h5⟩
 ·rintro ⟨h1, h2, h3, h4, h5⟩
  exact ⟨h1, h4, by rw [(cX h1).2.2] at h3; exact h3, h2, h5⟩
theorem oB (ps : List Int) (t n : Int) (l : List Int) (w : dV l) (hl : ps.length < 2 ^ 44) {mem : Mem} {nx : Nat} {K : KD}
  (hy : fZ ps t n l → ∀ id ver nx', nx ≤ id → id < nx' → K (.tup [.osl id ver 0 n.toNat, B true]) ((id, .arr ver 1 (em aT (cl n l))) :: mem) nx')
  (hn : ¬ fZ ps t n l → ∀ nx', nx ≤ nx' → K (.tup [.pl (.slice none 0 0), B false]) mem nx') :
  bI Tryz.prog 26 [tb ps t n l] mem nx K := by
 refine fi26.ct (by simp) fun hfr => ?_
 rw [M1] at hy hn
 simp -implicitDefEqProofs [ac26]
 refine aG (iV ps (by omega)) (by simp) ?_
 simp -implicitDefEqProofs
 generalize bX ps = C at *
 refine aD (NK n l (fun hok id ver nx' h1 h2 => ?_) fun hno nx' h1 => ?_)
 ·have g := (xN w).2 hok
  have h0 := g.1
  have h96 := g.2.1
  have hN := Int.max_eq_left h0
  simp -implicitDefEqProofs
  by_cases he : C.2 = 0
  ·by_cases hnc : n = C.1
   ·simp -implicitDefEqProofs [he, ← hnc, hN]
    refine aG (iQ t) (by simp) ?_
    simp -implicitDefEqProofs
    by_cases hb : tp t < 0
    ·have hno : ¬ (C.2 = 0 ∧ cN n l ∧ n = C.1 ∧ 0 ≤ tp t ∧ ∀ i, i < n.toNat → aV l i ≤ tp t) := fun h => by omega
     have hb1 : ¬ 0 ≤ tp t := by omega
     simp -implicitDefEqProofs [hb, hb1]
     exact ⟨mem, aF (aE _) (hfr id (by omega)), hn hno _ (by omega)⟩
    ·have hb1 : 0 ≤ tp t := by omega
     simp -implicitDefEqProofs [hb, hb1]
     refine lpG cf26 lb26_0 [2, 3, 8] (α := Nat) (fun s _ => [(2, .top), (3, .top), (8, I s)]) (fun s _ => (id, .arr ver 1 (em aT (cl n l))) :: mem) (fun s k => id < k ∧ (s : Int) ≤ n ∧ ∀ i, i < s → aV l i ≤ tp t) (fun s => n.toNat - s) 0 ⟨by omega, by omega, by simp⟩ (by simp) (aI _) ?_
     rintro s k ⟨hk, hs, hc⟩
     by_cases hlt : (s : Int) < n
     ·have hsn : s < n.toNat := by omega
      have w1 := aR (x := (s : Int) + 1) (by omega) (by omega)
      have hget := kH (l := l) hsn
      have hget2 : (cl n l)[s]? = some (aV l s) := mS hsn
      have hget3 : ∀ h, (cl n l)[s]'h = aV l s := fun h => by
       have := hget2
       rw [List.getElem?_eq_getElem h] at this
       exact Option.some.inj this
      simp -implicitDefEqProofs [lb26_0, hlt, hsn, hN, hget, hget2, hget3, Int.not_le.2 hlt]
      refine aG (iQ t) (by simp) ?_
      simp -implicitDefEqProofs
      by_cases hbig : tp t < aV l s
      ·have hno : ¬ (C.2 = 0 ∧ cN n l ∧ n = C.1 ∧ 0 ≤ tp t ∧ ∀ i, i < n.toNat → aV l i ≤ tp t) := fun h => by have := h.2.2.2.2 s hsn; omega
       simp -implicitDefEqProofs [hbig, Int.not_le.2 hbig]
       exact ⟨mem, aF (aE _) (hfr id (by omega)), hn hno _ (by omega)⟩
      ·simp -implicitDefEqProofs [hbig, Int.not_lt.1 hbig, w1]
       refine aK (s + 1) ⟨by omega, by omega, fun i hi => ?_⟩ (by omega) (by simp) (aI _)
       by_cases e : i = s
       ·subst e; omega
       ·exact hc i (by omega)
     ·simp -implicitDefEqProofs [lb26_0, hlt, Int.not_lt.1 hlt]
      exact ⟨_, aE _, hy ⟨he, g, hnc, hb1, fun i hi => hc i (by omega)⟩ id ver _ (by omega) (by omega)⟩
   ·have hno : ¬ (C.2 = 0 ∧ cN n l ∧ n = C.1 ∧ 0 ≤ tp t ∧ ∀ i, i < n.toNat → aV l i ≤ tp t) := fun h => hnc h.2.2.1
    simp -implicitDefEqProofs [he, hnc, hN]
    exact ⟨mem, aF (aE _) (hfr id (by omega)), hn hno _ (by omega)⟩
  ·have hno : ¬ (C.2 = 0 ∧ cN n l ∧ n = C.1 ∧ 0 ≤ tp t ∧ ∀ i, i < n.toNat → aV l i ≤ tp t) := fun h => he h.1
   simp -implicitDefEqProofs [he]
   exact ⟨mem, aF (aE _) (hfr id (by omega)), hn hno _ (by omega)⟩
 ·have hno2 : ¬ (C.2 = 0 ∧ cN n l ∧ n = C.1 ∧ 0 ≤ tp t ∧ ∀ i, i < n.toNat → aV l i ≤ tp t) := fun h => hno ((xN w).1 h.2.1)
  by_cases he : C.2 = 0
  ·simp -implicitDefEqProofs [he]
   exact ⟨mem, aE _, hn hno2 _ (by omega)⟩
  ·simp -implicitDefEqProofs [he]
   exact ⟨mem, aE _, hn hno2 _ (by omega)⟩
open Rows
theorem vB {ps : List Int} {t n : Int} {l : List Int} (w : dV l) (hl : ps.length < 2 ^ 44) (h : fZ ps t n l) : Pure Tryz.prog 26 [tb ps t n l] (.tup [.sl (em aT (cl n l)), B true]) := by
 refine jY (by simp) (oB ps t n l w hl (fun _ id ver nx' _ _ => ?_) (fun h2 nx' _ => absurd h h2))
 simp [look, List.take_of_length_le, cl]
theorem LM {ps : List Int} {t n : Int} {l : List Int} (w : dV l) (hl : ps.length < 2 ^ 44) (h : ¬ fZ ps t n l) : Pure Tryz.prog 26 [tb ps t n l] (.tup [.sl [], B false]) := by
 refine jY (by simp) (oB ps t n l w hl (fun h2 id ver nx' _ _ => absurd h2 h) (fun _ nx' _ => ?_))
 simp
theorem vW (ps : List Int) (t : Int) (cs : List Int) (h4 : ∀ c ∈ cs, fY c) (hc : cs.length ≤ 4096) (hl : ps.length < 2 ^ 44) : Pure Tryz.prog 34 [.sl (em aT ps), I t, .sl (em aT cs)] (tb ps t cs.length (bD cs)) := by
 refine fi34.pu (by simp) ?_
 simp -implicitDefEqProofs [ac34]
 refine aG (D7 ps hl) (by simp) ?_
 simp -implicitDefEqProofs
 refine aG (Pack_c cs h4 hc) (by simp) ?_
 simp -implicitDefEqProofs
def HY (a b : List Int) : Prop := a.length = b.length ∧ ∀ i, i < a.length → a[i]?.getD 0 ≤ b[i]?.getD 0
instance (a b : List Int) : Decidable (HY a b) := by unfold HY; infer_instance
theorem OL {n P k : Int} (hP : 0 ≤ P) : n % (k * P) = (n / P % k) * P + n % P := by
 have e1 : n % (k * P) = n - k * P * (n / (k * P)) := Int.emod_def ..
 have e2 : n / P % k = n / P - k * (n / P / k) := Int.emod_def ..
 have e3 : n % P = n - P * (n / P) := Int.emod_def ..
 rw [e1, e2, e3, u5 hP, Int.sub_mul, Int.mul_comm (n / P) P, Int.mul_assoc k, Int.mul_assoc k, Int.mul_comm P (n / (k * P))]
 omega
theorem kZ : ∀ {ts : List Int} (n : Int), okT ts → 0 ≤ n → inT ts (dg ts n) = true
 | [], n, _, _ => rfl
 | t :: ts, n, h, h0 => by
  obtain ⟨h1, h2⟩ := sW h
  unfold dg
  rw [dL, kZ n h2 h0, Bool.and_true, decide_eq_true_eq]
  have a := Int.emod_nonneg (n / pr ts) (by omega : tp t + 1 ≠ 0)
  have b := Int.emod_lt_of_pos (n / pr ts) (by omega : 0 < tp t + 1)
  omega
theorem E9 : ∀ {ts : List Int} (n a : Int), okT ts → vl ts (dg ts n) a = a * pr ts + n % pr ts
 | [], n, a, _ => by simp [vl, pr, Int.emod_one]
 | t :: ts, n, a, h => by
  obtain ⟨h1, h2⟩ := sW h
  unfold dg
  rw [fT, E9 n _ h2, kE, OL (zT ts), Int.add_mul, Int.mul_assoc]
  omega
theorem FJ : ∀ (ts ds : List Int) (i : Nat) (a : Int), ts.length = ds.length → i < ts.length → vl ts (ds.set i (ds[i]?.getD 0 + 1)) a = vl ts ds a + pr (ts.drop (i + 1))
 | [], ds, i, a, hl, hi => by simp at hi
 | t :: ts, [], i, a, hl, hi => by simp at hl
 | t :: ts, d :: ds, 0, a, hl, hi => by
  simp only [List.set_cons_zero, List.getElem?_cons_zero, Option.getD_some, List.drop_succ_cons, List.drop_zero, fT]
  have key : ∀ (ts ds : List Int) (a : Int), ts.length = ds.length → vl ts ds (a + 1) = vl ts ds a + pr ts := by
   intro ts
   induction ts with
   | nil => intro ds a hl; cases ds with
    | nil => simp [vl, pr]
    | cons d ds => simp at hl
   | cons t ts ih =>
    intro ds a hl
    cases ds with
    | nil => simp at hl
    | cons d ds =>
     simp only [List.length_cons, Nat.add_right_cancel_iff] at hl
     have key2 : ∀ (k : Nat) (b : Int), vl ts ds (b + k) = vl ts ds b + k * pr ts := by
      intro k
      induction k with
      | zero => intro b; simp
      | succ k ihk =>
       intro b
       have e : b + ((k + 1 : Nat) : Int) = (b + k) + 1 := by omega
       rw [e, ih ds _ hl, ihk b]
       have e2 : ((k + 1 : Nat) : Int) * pr ts = (k : Int) * pr ts + pr ts := by rw [Int.natCast_add, Int.add_mul]; simp
       omega
     have ht := fK t
     rw [fT, fT, kE]
     have e : (a + 1) * (tp t + 1) + d = (a * (tp t + 1) + d) + ((tp t + 1).toNat : Int) := by
      rw [Int.add_mul, Int.one_mul]; omega
     rw [e, key2]
     have e3 : ((tp t + 1).toNat : Int) = tp t + 1 := by omega
     rw [e3]
  have e : a * (tp t + 1) + (d + 1) = (a * (tp t + 1) + d) + 1 := by omega
  rw [e]
  exact key ts ds _ (by simpa using hl)
 | t :: ts, d :: ds, i + 1, a, hl, hi => by
  simp only [List.set_cons_succ, List.getElem?_cons_succ, List.drop_succ_cons, fT]
  exact FJ ts ds i _ (by simpa using hl) (by simpa using hi)
theorem DS : ∀ (ts ds : List Int) (i : Nat) (t : Int), inT ts ds = true → ts[i]? = some t → ds[i]?.getD 0 + 1 ≤ tp t → inT ts (ds.set i (ds[i]?.getD 0 + 1)) = true
 | [], ds, i, t, h, ht, hd => by simp at ht
 | t :: ts, [], i, u, h, ht, hd => by simp [inT] at h
 | t :: ts, d :: ds, 0, u, h, ht, hd => by
  simp only [List.getElem?_cons_zero, Option.some.injEq] at ht
  subst ht
  rw [dL] at h
  simp only [Bool.and_eq_true, decide_eq_true_eq] at h
  simp only [List.set_cons_zero, List.getElem?_cons_zero, Option.getD_some] at hd ⊢
  rw [dL, h.2, Bool.and_true, decide_eq_true_eq]
  omega
 | t :: ts, d :: ds, i + 1, u, h, ht, hd => by
  simp only [List.getElem?_cons_succ] at ht
  rw [dL] at h
  simp only [Bool.and_eq_true, decide_eq_true_eq] at h
  simp only [List.set_cons_succ, List.getElem?_cons_succ] at hd ⊢
  rw [dL, DS ts ds i u h.2 ht hd, Bool.and_true, decide_eq_true_eq]
  exact h.1
theorem lK : ∀ {ts ds : List Int}, inT ts ds = true → ds.length = ts.length
 | [], [], _ => rfl
 | [], d :: ds, h => by simp [inT] at h
 | t :: ts, [], h => by simp [inT] at h
 | t :: ts, d :: ds, h => by
  rw [dL] at h
  simp only [Bool.and_eq_true] at h
  simp [lK h.2]
theorem tO {ts : List Int} {i : Nat} {t n : Int} (hi : i < ts.length) (ht : ts[i] = t) : (dg ts n)[i]? = some (n / pr (ts.drop (i + 1)) % (tp t + 1)) := by
 induction ts generalizing i with
 | nil => simp at hi
 | cons u us ih =>
  cases i with
  | zero =>
   simp only [List.getElem_cons_zero] at ht
   subst ht
   simp [dg]
  | succ i =>
   simp only [List.getElem_cons_succ] at ht
   simp only [dg, List.getElem?_cons_succ, List.drop_succ_cons]
   exact ih (by simpa using hi) ht
theorem wS {ts : List Int} {i : Nat} {t n : Int} (ho : okT ts) (h0 : 0 ≤ n) (hn : n < pr ts) (hi : i < ts.length) (ht : ts[i] = t) (hd : n / pr (ts.drop (i + 1)) % (tp t + 1) < tp t) :
  inT ts ((dg ts n).set i (n / pr (ts.drop (i + 1)) % (tp t + 1) + 1)) = true ∧ vl ts ((dg ts n).set i (n / pr (ts.drop (i + 1)) % (tp t + 1) + 1)) 0 = n + pr (ts.drop (i + 1)) ∧ n + pr (ts.drop (i + 1)) < pr ts := by
 have hat := tO (n := n) hi ht
 have hin := kZ n ho h0
 have hv := E9 n 0 ho
 rw [Int.zero_mul, Int.zero_add, Int.emod_eq_of_lt h0 hn] at hv
 have e : (dg ts n)[i]?.getD 0 = n / pr (ts.drop (i + 1)) % (tp t + 1) := by rw [hat]; rfl
 have h1 := DS ts (dg ts n) i t hin (by rw [List.getElem?_eq_getElem hi, ht]) (by rw [e]; omega)
 have h2 := FJ ts (dg ts n) i 0 (by rw [iT]) hi
 rw [e] at h1 h2
 have h3 := (oG ts _ 0 h1 (Int.le_refl 0)).2
 rw [h2, hv] at h3
 refine ⟨h1, by rw [h2, hv], by simpa using h3⟩
def fS (ps : List Int) (l : List Int) (n : Int) : Prop := ∀ i t, ps[i]? = some t → ∀ m : Nat, m < n.toNat → (m : Int) / pr (ps.drop (i + 1)) % (tp t + 1) < tp t → aV l m ≤ aV l (m + (pr (ps.drop (i + 1))).toNat)
open Classical in
noncomputable def sQ (ps : List Int) (t n : Int) (l : List Int) : Bool × Int := if fZ ps t n l then (decide (fS ps l n), 0) else (false, 3)
open Go.Fx.Flt
abbrev Nls := List (List UInt8 × Int)
def kJ : Nls → List UInt8 → Int
 | [], _ => 0
 | x :: xs, n => if x.1 = n then x.2 else kJ xs n
def gZ (g : Int → Int) : Nat → Int → Int
 | 0, p => p
 | k + 1, p => if g p ≤ p then p else gZ g k (g p)
def casF (g : Br → Int) (l : List Br) : Int := l.foldl (fun m b => max m (g b)) 0
def mM (V : List UInt8 → List Int → Int) (op : Int) (n : List UInt8) (l : List Int) : Int :=
 if op = 18 then cnF (l[0]?.getD 0) (l[1]?.getD 0) else if op = 7 then V n l else l.foldl min 1
mutual
def ptF (V : List UInt8 → List Int → Int) : Ex → Nls → Int
 | .mk op n tl ty z args p, N =>
  if op = 1 ∨ op = 2 ∨ op = 3 then 1 else if op = 4 then 3 else if op = 5 then 0 else if op = 6 then kJ N n else
  if op = 19 then (if ptI V args 0 N = 0 then 0 else max (ptI V args 1 N) (ptI V args 2 N)) else
  if op = 20 then casF (fun b => if b.nl then ptI V args 1 N else ptI V args 2 ((tl, b.tl) :: (n, b.hd) :: N)) (csF (ptI V args 0 N)) else
  if op = 21 then ptI V args 1 ((n, gZ (fun q => ptI V args 0 ((n, q) :: N)) 4 0) :: N) else
  if op = 22 then (if 0 < ptI V args 0 N then ptI V args 1 ((n, ptI V args 0 N) :: N) else 0) else
  mM V op n (ptL V args N)
def ptI (V : List UInt8 → List Int → Int) : List Ex → Nat → Nls → Int
 | [], _, _ => 0
 | x :: xs, 0, N => ptF V x N
 | x :: xs, i + 1, N => ptI V xs i N
def ptL (V : List UInt8 → List Int → Int) : List Ex → Nls → List Int
 | [], _ => []
 | x :: xs, N => ptF V x N :: ptL V xs N
end
def Pin (t p : Int) : Prop := 0 ≤ p ∧ p ≤ tp t
inductive EnvR : List Pm → Nls → Prop where
 | nil : EnvR [] []
 | snoc {env : List Pm} {N : Nls} {x : Pm} {p : Int} (h : EnvR env N) (hp : Pin x.type p) : EnvR (env ++ [x]) ((x.name, p) :: N)
theorem EnvR.look {env : List Pm} {N : Nls} (h : EnvR env N) {n : List UInt8} {t : Int} (ht : aJ t) (hl : nG env n = t) : Pin t (kJ N n) := by
 induction h with
 | nil => unfold nG gI at hl; simp at hl; unfold aJ at ht; omega
 | snoc h hp ih =>
  rename_i env N x p
  unfold nG at hl ih
  rw [List.reverse_append] at hl
  simp only [List.reverse_cons, List.reverse_nil, List.nil_append, List.singleton_append, gI] at hl
  unfold kJ
  split
  ·rename_i e; rw [if_pos e] at hl; subst hl; exact hp
  ·rename_i e; rw [if_neg e] at hl; exact ih hl
def VOk (P : List Fn) (V : List UInt8 → List Int → Int) : Prop := ∀ n l, ¬ cK P n l.length → inT ((hdF P n).params.map Pm.type) l = true → Pin (hdF P n).type (V n l)
def PIn (P : List Fn) (V : List UInt8 → List Int → Int) (e : Ex) : Prop := ∀ ⦃env : List Pm⦄ ⦃N : Nls⦄ ⦃t : Int⦄, Sh e → aJ t → bP P env e t = [] → EnvR env N → Pin t (ptF V e N)
theorem mI {t : Int} (h : aJ t) : 1 ≤ tp t := by rcases h with rfl | rfl | rfl <;> decide
theorem rN {P : List Fn} {env : List Pm} {op ty t : Int} {n tl : List UInt8} : ∀ (l : List Ex) (i k : Nat) (x : Ex), cG P env op n tl ty t i l = [] → l[k]? = some x → bP P (aM env op n tl ty (i + k)) x (aL P op n ty (i + k) t) = []
 | [], i, k, x, h, hx => by simp at hx
 | y :: ys, i, 0, x, h, hx => by
  simp only [List.getElem?_cons_zero, Option.some.injEq] at hx
  subst hx
  simp only [cG, List.append_eq_nil_iff] at h
  exact h.1
 | y :: ys, i, k + 1, x, h, hx => by
  simp only [List.getElem?_cons_succ] at hx
  simp only [cG, List.append_eq_nil_iff] at h
  have := rN ys (i + 1) k x h.2 hx
  rw [show i + (k + 1) = i + 1 + k by omega]; exact this
theorem eS {V : List UInt8 → List Int → Int} {N : Nls} : ∀ (l : List Ex) (k : Nat) (x : Ex), l[k]? = some x → ptI V l k N = ptF V x N
 | [], k, x, h => by simp at h
 | y :: ys, 0, x, h => by simp only [List.getElem?_cons_zero, Option.some.injEq] at h; subst h; rfl
 | y :: ys, k + 1, x, h => by simp only [List.getElem?_cons_succ] at h; exact eS ys k x h
theorem kG {V : List UInt8 → List Int → Int} {N : Nls} : ∀ (l : List Ex), (ptL V l N).length = l.length
 | [] => rfl
 | y :: ys => by simp [ptL, kG ys]
theorem mO {V : List UInt8 → List Int → Int} {N : Nls} : ∀ (l : List Ex) (k : Nat) (x : Ex), l[k]? = some x → (ptL V l N)[k]? = some (ptF V x N)
 | [], k, x, h => by simp at h
 | y :: ys, 0, x, h => by simp only [List.getElem?_cons_zero, Option.some.injEq] at h; subst h; rfl
 | y :: ys, k + 1, x, h => by simp only [List.getElem?_cons_succ] at h; simp only [ptL, List.getElem?_cons_succ]; exact mO ys k x h
theorem tM {g : Int → Int} {t : Int} (hg : ∀ q, Pin t q → Pin t (g q)) : ∀ k p, Pin t p → Pin t (gZ g k p)
 | 0, p, h => h
 | k + 1, p, h => by
  unfold gZ
  split
  ·exact h
  ·exact tM hg k _ (hg p h)
theorem AS {g : Int → Int} {t : Int} (ht : aJ t) (hg : ∀ q, Pin t q → Pin t (g q)) : ∀ (k : Nat) (p : Int), Pin t p → tp t < p + k + 1 → g (gZ g k p) ≤ gZ g k p
 | 0, p, h, hk => by
  unfold gZ
  have := hg p h
  unfold Pin at this; omega
 | k + 1, p, h, hk => by
  unfold gZ
  split
  ·rename_i e; exact e
  ·rename_i e
   exact AS ht hg k _ (hg p h) (by omega)
theorem DB {g : Br → Int} {t : Int} : ∀ (l : List Br) (m : Int), Pin t m → (∀ b ∈ l, Pin t (g b)) → Pin t (l.foldl (fun m b => max m (g b)) m)
 | [], m, h, _ => h
 | b :: l, m, h, hl => by
  refine DB l _ ?_ (fun c hc => hl c (by simp [hc]))
  have h1 := hl b (by simp)
  show Pin t (max m (g b))
  unfold Pin at *
  constructor <;> omega
theorem FQ {p : Int} : ∀ b ∈ csF p, (b.nl = false → Pin 1 b.hd ∧ Pin 3 b.tl) := by
 intro b hb
 unfold csF at hb
 unfold Pin
 rw [tp_1, sF]
 split at hb
 ·simp at hb
 ·split at hb
  ·simp only [List.mem_singleton] at hb; subst hb; simp
  ·split at hb
   ·simp only [List.mem_cons, List.not_mem_nil, or_false] at hb
    rcases hb with rfl | rfl <;> simp
   ·simp only [List.mem_cons, List.not_mem_nil, or_false] at hb
    rcases hb with rfl | rfl <;> simp
theorem F4 : ∀ (l : List Int) (m : Int), (0 ≤ m ∧ m ≤ 1) → (∀ x ∈ l, 0 ≤ x) → 0 ≤ l.foldl min m ∧ l.foldl min m ≤ 1
 | [], m, h, _ => h
 | b :: l, m, h, hl => by
  refine F4 l _ ?_ (fun c hc => hl c (by simp [hc]))
  have h1 := hl b (by simp)
  show 0 ≤ min m b ∧ min m b ≤ 1
  constructor <;> omega
theorem sD : ∀ (ts l : List Int), l.length = ts.length → (∀ (k : Nat) (t : Int), ts[k]? = some t → Pin t (l[k]?.getD 0)) → inT ts l = true
 | [], [], _, _ => rfl
 | [], _ :: _, h, _ => by simp at h
 | _ :: _, [], h, _ => by simp at h
 | t :: ts, p :: ps, h, hk => by
  rw [dL, sD ts ps (by simpa using h) (fun k t ht => by have := hk (k + 1) t (by simpa using ht); simpa using this)]
  have := hk 0 t (by simp)
  simp only [List.getElem?_cons_zero, Option.getD_some] at this
  simp [this.1, this.2]
theorem rD {α : Type} {f : α → Int} {l : List α} {k : Nat} {t : Int} (h : (l.map f)[k]? = some t) : ∃ x, l[k]? = some x ∧ f x = t := by
 rw [List.getElem?_map] at h
 cases hx : l[k]? with
 | none => rw [hx] at h; simp at h
 | some x => rw [hx] at h; exact ⟨x, rfl, by simpa using h⟩
theorem EnvR.one {env : List Pm} {N : Nls} (h : EnvR env N) {n : List UInt8} {t p a : Int} (hp : Pin t p) : EnvR (env ++ [⟨n, t, a⟩]) ((n, p) :: N) := EnvR.snoc (x := ⟨n, t, a⟩) h hp
theorem OB {P : List Fn} {V : List UInt8 → List Int → Int} (hP : PT P) (hV : VOk P V) (op : Int) (n tl : List UInt8) (ty : Int) (z : Cx) (args : List Ex) (p : Int) (ih : ∀ x ∈ args, PIn P V x) : PIn P V (.mk op n tl ty z args p) := by
 intro env N t hs ht hw he
 unfold Sh at hs
 obtain ⟨hsh, hss⟩ := hs
 unfold bP at hw
 rw [List.append_eq_nil_iff] at hw
 obtain ⟨hw, hown⟩ := hw
 have h1 := mI ht
 have hown' : cY op ∨ b8 P env op n ty args.length = t := by
  apply Classical.byContradiction
  intro g
  rw [if_neg g] at hown; simp at hown
 have hbad : op = 7 → ¬ cK P n args.length := by
  intro h7 hb
  subst h7
  rcases hown' with h | h
  ·unfold cY at h; omega
  ·unfold b8 at h
   rw [if_neg (by omega), if_neg (by omega), if_neg (by omega), if_neg (by omega), if_pos rfl, if_pos hb] at h
   unfold aJ at ht; omega
 have hws : cG P env op n tl ty t 0 args = [] := by
  by_cases h7 : op = 7 ∧ cK P n args.length
  ·exact absurd h7.2 (hbad h7.1)
  ·rw [if_neg h7] at hw; exact hw
 have harg : ∀ k x, args[k]? = some x → bP P (aM env op n tl ty k) x (aL P op n ty k t) = [] := fun k x hx => by
  have := rN args 0 k x hws hx
  rwa [Nat.zero_add] at this
 have hin : ∀ k, k < args.length → ∀ {env' : List Pm} {M : Nls}, aM env op n tl ty k = env' → EnvR env' M → aJ (aL P op n ty k t) → Pin (aL P op n ty k t) (ptI V args k M) := fun k hk env' M hen hM htw => by
  have hx := List.getElem?_eq_getElem hk
  rw [eS args k _ hx]
  refine ih _ (List.getElem_mem hk) (jE hss (List.getElem_mem hk)) htw ?_ hM
  rw [← hen]; exact harg k _ hx
 unfold ptF
 unfold dX at hsh
 by_cases c1 : op = 1 ∨ op = 2 ∨ op = 3
 ·rw [if_pos c1]; unfold Pin; omega
 rw [if_neg c1]
 have own_of : ¬ cY op → b8 P env op n ty args.length = t := fun h => hown'.resolve_left h
 by_cases c4 : op = 4
 ·rw [if_pos c4]
  have h := own_of (by unfold cY; omega)
  unfold b8 at h
  rw [if_neg (by omega), if_pos c4] at h
  subst h; unfold Pin; rw [sF]; omega
 rw [if_neg c4]
 by_cases c5 : op = 5
 ·rw [if_pos c5]; unfold Pin; omega
 rw [if_neg c5]
 by_cases c6 : op = 6
 ·rw [if_pos c6]
  have h := own_of (by unfold cY; omega)
  unfold b8 at h
  rw [if_neg (by omega), if_neg c4, if_neg c5, if_pos c6] at h
  exact he.look ht h
 rw [if_neg c6]
 by_cases c19 : op = 19
 ·rw [if_pos c19]
  subst c19
  have hl : args.length = 3 := by omega
  have w1 : aL P 19 n ty 1 t = t := by simp [aL]
  have w2 : aL P 19 n ty 2 t = t := by simp [aL]
  have a1 := hin 1 (by omega) (env' := env) (by simp [aM]) he (by rw [w1]; exact ht)
  have a2 := hin 2 (by omega) (env' := env) (by simp [aM]) he (by rw [w2]; exact ht)
  rw [w1] at a1
  rw [w2] at a2
  unfold Pin at *
  split <;> constructor <;> omega
 rw [if_neg c19]
 by_cases c20 : op = 20
 ·rw [if_pos c20]
  subst c20
  have hl : args.length = 3 := by omega
  have w1 : aL P 20 n ty 1 t = t := by simp [aL]
  have w2 : aL P 20 n ty 2 t = t := by simp [aL]
  refine DB _ 0 (by unfold Pin; omega) fun b hb => ?_
  show Pin t (if b.nl = true then ptI V args 1 N else ptI V args 2 ((tl, b.tl) :: (n, b.hd) :: N))
  split
  ·have a1 := hin 1 (by omega) (env' := env) (by simp [aM]) he (by rw [w1]; exact ht)
   rw [w1] at a1; exact a1
  ·rename_i hb0
   obtain ⟨q1, q2⟩ := FQ b hb (by simpa using hb0)
   have a2 := hin 2 (by omega) (env' := (env ++ [⟨n, 1, 0⟩]) ++ [⟨tl, 3, 0⟩]) (by simp [aM]) ((he.one q1).one q2) (by rw [w2]; exact ht)
   rw [w2] at a2; exact a2
 rw [if_neg c20]
 by_cases c21 : op = 21
 ·rw [if_pos c21]
  subst c21
  have hl : args.length = 2 ∧ aJ ty := by
   unfold aJ at *; omega
  have w0 : aL P 21 n ty 0 t = ty := by simp [aL]
  have w1 : aL P 21 n ty 1 t = t := by simp [aL]
  have hty := mI hl.2
  have hp := tM (g := fun q => ptI V args 0 ((n, q) :: N)) (t := ty) (fun q hq => by
   have a0 := hin 0 (by omega) (env' := env ++ [⟨n, ty, 0⟩]) (by simp [aM]) (he.one hq) (by rw [w0]; exact hl.2)
   rw [w0] at a0; exact a0) 4 0 (by unfold Pin; omega)
  have a1 := hin 1 (by omega) (env' := env ++ [⟨n, ty, 0⟩]) (by simp [aM]) (he.one hp) (by rw [w1]; exact ht)
  rw [w1] at a1; exact a1
 rw [if_neg c21]
 by_cases c22 : op = 22
 ·rw [if_pos c22]
  subst c22
  have hl : args.length = 2 ∧ aJ ty := by
   unfold aJ at *; omega
  have w0 : aL P 22 n ty 0 t = ty := by simp [aL]
  have w1 : aL P 22 n ty 1 t = t := by simp [aL]
  have a0 := hin 0 (by omega) (env' := env) (by simp [aM]) he (by rw [w0]; exact hl.2)
  rw [w0] at a0
  split
  ·have a1 := hin 1 (by omega) (env' := env ++ [⟨n, ty, 0⟩]) (by simp [aM]) (he.one a0) (by rw [w1]; exact ht)
   rw [w1] at a1; exact a1
  ·unfold Pin; omega
 rw [if_neg c22]
 have h := own_of (by unfold cY; omega)
 unfold b8 at h
 rw [if_neg (by omega), if_neg c4, if_neg c5, if_neg c6] at h
 unfold mM
 by_cases c18 : op = 18
 ·rw [if_pos c18]
  subst c18
  rw [if_neg (by omega), if_neg (by omega), if_pos rfl] at h
  subst h
  have hl : args.length = 2 := by omega
  have w1 : aL P 18 n ty 1 3 = 3 := by simp [aL]
  have a1 := hin 1 (by omega) (env' := env) (by simp [aM]) he (by rw [w1]; exact ht)
  have hy := List.getElem?_eq_getElem (l := args) (i := 1) (by omega)
  rw [w1, eS args 1 _ hy] at a1
  rw [mO args 1 _ hy, Option.getD_some]
  unfold Pin at a1
  rw [sF] at a1
  unfold cnF Pin; rw [sF]
  constructor <;> omega
 rw [if_neg c18]
 by_cases c7 : op = 7
 ·rw [if_pos c7]
  subst c7
  have hb := hbad rfl
  rw [if_pos rfl, if_neg hb] at h
  subst h
  have hb' := hb
  unfold cK at hb'
  have hlen : (hdF P n).params.length = args.length := by omega
  refine hV n _ (by rw [kG]; exact hb) (sD _ _ (by rw [kG, List.length_map, hlen]) fun k u hu => ?_)
  obtain ⟨x, hx, rfl⟩ := rD hu
  have hk : k < args.length := by rw [← hlen]; exact (List.getElem?_eq_some_iff.1 hx).1
  have hy := List.getElem?_eq_getElem hk
  rw [mO args k _ hy, Option.getD_some, ← eS args k _ hy]
  have w : aL P 7 n ty k (hdF P n).type = x.type := by simp [aL, hx]
  have htx : aJ x.type := by
   have hf : hdF P n ∈ P := by
    unfold hdF
    have : ¬ aP P 0 n < 0 := by omega
    have hlt : (aP P 0 n).toNat < P.length := by have := d8 P 0 n; omega
    rw [List.getElem?_eq_getElem hlt]; exact List.getElem_mem hlt
   exact (hP _ hf).2 x (List.mem_of_getElem? hx)
  have a := hin k hk (env' := env) (by simp [aM]) he (by rw [w]; exact htx)
  rw [w] at a; exact a
 rw [if_neg c7]
 rw [if_neg c7] at h
 have ht1 : tp t = 1 := by
  subst h
  split
  ·rfl
  ·first
   | (split <;> rfl)
   | (rw [if_neg c18]; split <;> rfl)
 have hm := F4 (ptL V args N) 1 (by omega) fun x hx => by
  obtain ⟨k, hk⟩ := List.getElem?_of_mem hx
  have hkl : k < args.length := by rw [← kG (V := V) (N := N) args]; exact (List.getElem?_eq_some_iff.1 hk).1
  have hy := List.getElem?_eq_getElem hkl
  rw [mO args k _ hy, ← eS args k _ hy] at hk
  have hw : aJ (aL P op n ty k t) := by
   have c2 : ¬ (op = 21 ∨ op = 22) := by omega
   unfold aL aJ
   rw [if_neg c18, if_neg c7, if_neg c19, if_neg c20, if_neg c2]
   by_cases c14 : op = 14 <;> simp [c14]
  have a := hin k hkl (env' := env) (by unfold aM; rw [if_neg (by omega), if_neg (by omega)]) he hw
  simp only [Option.some.injEq] at hk
  rw [hk] at a; exact a.1
 unfold Pin; rw [ht1]; exact hm
mutual
theorem wQ {P : List Fn} {V : List UInt8 → List Int → Int} (hP : PT P) (hV : VOk P V) : ∀ e : Ex, PIn P V e
 | .mk op n tl ty z args p => OB hP hV op n tl ty z args p (F3 hP hV args)
theorem F3 {P : List Fn} {V : List UInt8 → List Int → Int} (hP : PT P) (hV : VOk P V) : ∀ l : List Ex, ∀ x ∈ l, PIn P V x
 | [], x, h => by simp at h
 | y :: ys, x, h => by
  rcases List.mem_cons.1 h with e | h
  ·rw [e]; exact wQ hP hV y
  ·exact F3 hP hV ys x h
end
set_option maxRecDepth 1000000
set_option maxHeartbeats 0
noncomputable def cf72 : Cfg := ⟨Tryz.prog, 19, [0, 1, 4], []⟩
noncomputable def lb72_0 : AC :=
 .seq (.ifr [JA 5 0, JM 6 5, JH 7 0 6, JD 8 1 7, JA 9 1, JO 10 (.bin .neq 9 (.t 8) (.t 9))] (.t 10) .skip (.exit 0)) (.block 1 (.reg [JA 11 0, JM 12 11, JH 13 2 12, JD 14 1 13, JB 0 14]))
noncomputable def ac72 : AC :=
 (.seq (.reg [JI 4 0]) (.seq (.block 0 (.loop lb72_0)) (.seq (.reg [JA 15 0, JM 16 15, JH 17 1 16, JD 18 1 17, JB 4 18]) .ret)))
theorem fi72 : FI Tryz.prog 72 cf72 ac72 [.t 4] [0, 1, 4] 19 := FI_of (c := Tryz.f72.body.getD .skip) Tryz.func72 (by kernel_rfl) (by rfl) (by rfl) (by kernel_rfl) (by kernel_rfl) rfl rfl rfl
@[simp] theorem cfP72 : cf72.P = Tryz.prog := (rfl)
noncomputable def cf74 : Cfg := ⟨Tryz.prog, 73, [0, 1, 2, 4, 6, 7, 9, 10, 12, 14, 16, 18, 62, 63, 64], []⟩
noncomputable def lb74_0 : AC :=
 .seq (.ifr [JO 65 (.bin .lss 3 (.g 64) (.g 63))] (.t 65) .skip (.exit 1)) (.seq (.block 2 (.seq (.reg [JO 66 (.ia 1 (.g 62) (.g 64)), JD 67 1 66, JB 16 67]) (.reg [JA 68 14, JA 69 16, JO 70 (.bi .min [.t 68, .t 69]), JB 14 70]))) (.reg [JO 71 (.bin .add 3 (.g 64) (JT 1)), JB 64 71]))
noncomputable def ac74 : AC :=
 (.seq (.reg [JN 4 1, JI 6 0]) (.seq (.seq (.reg [JG 17 0 4, JP 18 (.ld false 1 (.t 17))]) (.block 0 (.ifr [JO 20 (.bin .eql 40 (.g 18) (JT 18)), JC 19 20] (.t 19) (.seq (.reg [JA 22 2, JO 23 (.ia 1 (.t 22) (JT 0)), JD 24 1 23, JA 25 2, JO 26 (.ia 1 (.t 25) (JT 1)), JD 27 1 26, JO 28 (.pc (.f 103) [.t 24, .t 27]), JC 21 28, JK 29 0 21, JK 30 1 21, JB 7 29, JC 8 30]) (.seq (.reg [JA 31 7, JB 6 31]) .ret)) (.ifr [JO 33 (.bin .eql 40 (.g 18) (JT 7)), JC 32 33] (.t 32) (.seq (.reg [JA 34 0, JM 35 34, JH 36 2 35, JD 37 1 36, JA 38 0, JM 39 38, JH 40 1 39, JD 41 1 40, JG 42 1 4, JD 43 1 42, JO 44 (.lk none (.int .i64 0) false (.t 41) (.t 43)), JL 45 4 37 44, JE 46 4 45, JP 9 (.al [JW, JV, JV, JW]), JQ (.st 4 (.g 9) (.t 46))]) (.seq (.reg [JG 48 0 9, JD 49 1 48, JA 50 2, JO 51 (.pc (.f 49) [.t 49, .t 50]), JC 47 51, JK 52 0 47, JK 53 1 47, JB 10 52, JC 11 53]) (.seq (.reg [JG 55 2 9, JE 56 2 55, JA 57 10, JO 58 (.pc (.f 104) [.t 56, .t 57]), JC 54 58, JK 59 0 54, JK 60 1 54, JB 12 59, JC 13 60]) (.seq (.reg [JA 61 12, JB 6 61]) .ret)))) .skip)))) (.seq (.reg [JI 14 1]) (.seq (.seq (.reg [JP 62 (.mv (.g 2)), JP 63 (.len false (.g 62)), JI 64 0]) (.block 1 (.loop lb74_0))) (.seq (.reg [JA 72 14, JB 6 72]) .ret)))))
theorem fi74 : FI Tryz.prog 74 cf74 ac74 [.t 6] [0, 1, 2, 4, 6, 7, 9, 10, 12, 14, 16, 18, 62, 63, 64] 73 := FI_of (c := Tryz.f74.body.getD .skip) Tryz.func74 (by kernel_rfl) (by rfl) (by rfl) (by kernel_rfl) (by kernel_rfl) rfl rfl rfl
@[simp] theorem cfP74 : cf74.P = Tryz.prog := (rfl)
noncomputable def cf73 : Cfg := ⟨Tryz.prog, 65, [0, 1, 2, 4, 6, 7, 8, 11, 12, 24, 25, 26], [20, 39, 61]⟩
noncomputable def lb73_0 : AC :=
 .seq (.ifr [JO 27 (.bin .lss 3 (.g 26) (.g 25))] (.t 27) .skip (.exit 0)) (.seq (.block 1 (.seq (.reg [JO 28 (.ia 3 (.g 24) (.g 26)), JE 29 3 28, JP 11 (.al [.bool false, JV, JV]), JQ (.st 3 (.g 11) (.t 29))]) (.seq (.ifr [JG 30 0 11, JD 31 1 30] (.t 31) (.seq (.reg [JA 32 7, JA 33 0, JG 34 5 4, JD 35 1 34, JO 36 (.ia 7 (.t 35) (JT 1)), JE 37 7 36, JA 38 2, JO 39 (.cl (.f 39) [.t 33, .t 37, .t 38]), JO 40 (.bi .max [.t 32, .t 39]), JB 7 40]) (.exit 1)) .skip) (.seq (.reg [JG 41 1 4, JD 42 1 41, JG 43 1 11, JD 44 1 43, JA 45 2, JO 46 (.bld [JU, JV, .pointer none] [(0, 1, .t 42), (1, 1, .t 44), (2, 1, .t 45)]), JO 47 (.bxi (.t 46)), JB 12 47]) (.reg [JA 48 7, JA 49 0, JG 50 5 4, JD 51 1 50, JO 52 (.ia 7 (.t 51) (JT 2)), JE 53 7 52, JG 54 2 4, JD 55 1 54, JG 56 2 11, JD 57 1 56, JA 58 12, JO 59 (.bld [JU, JV, .pointer none] [(0, 1, .t 55), (1, 1, .t 57), (2, 1, .t 58)]), JO 60 (.bxi (.t 59)), JO 61 (.cl (.f 39) [.t 49, .t 53, .t 60]), JO 62 (.bi .max [.t 48, .t 61]), JB 7 62]))))) (.reg [JO 63 (.bin .add 3 (.g 26) (JT 1)), JB 26 63]))
noncomputable def ac73 : AC :=
 (.seq (.reg [JN 4 1, JI 6 0]) (.seq (.reg [JI 7 0]) (.seq (.reg [JA 14 0, JG 15 5 4, JD 16 1 15, JO 17 (.ia 7 (.t 16) (JT 0)), JE 18 7 17, JA 19 2, JO 20 (.cl (.f 39) [.t 14, .t 18, .t 19]), JO 21 (.pc (.f 102) [.t 20]), JC 13 21, JK 22 0 13, JK 23 1 13, JB 8 22, JC 9 23]) (.seq (.seq (.reg [JP 24 (.mv (.g 8)), JP 25 (.len false (.g 24)), JI 26 0]) (.block 0 (.loop lb73_0))) (.seq (.reg [JA 64 7, JB 6 64]) .ret)))))
theorem fi73 : FI Tryz.prog 73 cf73 ac73 [.t 6] [0, 1, 2, 4, 6, 7, 8, 11, 12, 24, 25, 26] 65 := FI_of (c := Tryz.f73.body.getD .skip) Tryz.func73 (by kernel_rfl) (by rfl) (by rfl) (by kernel_rfl) (by kernel_rfl) rfl rfl rfl
@[simp] theorem cfP73 : cf73.P = Tryz.prog := (rfl)
noncomputable def cf39 : Cfg := ⟨Tryz.prog, 142, [0, 1, 2, 4, 6, 7, 8, 9, 10, 12, 14, 15, 124, 125, 126], [37, 45, 52, 59, 73, 86, 99, 108, 122, 134, 136, 141, 1000000]⟩
noncomputable def lb39_0 : AC :=
 .seq (.ifr [JO 127 (.bin .lss 3 (.g 126) (.g 125))] (.t 127) .skip (.exit 3)) (.seq (.block 4 (.seq (.reg [JO 128 (.ia 7 (.g 124) (.g 126)), JE 129 7 128, JP 12 (.al [JV, JU, JU, JV, .complex .f64 0 0, JW, JV]), JQ (.st 7 (.g 12) (.t 129))]) (.reg [JA 130 10, JA 131 0, JF 132 7 12, JA 133 2, JO 134 (.cl (.f 39) [.t 131, .t 132, .t 133]), JO 135 (.bsl 1 1 [JV] [(0, 1, .t 134)]), JO 136 (.app 1 8 [JV] (.t 130) (.t 135)), JB 10 136]))) (.reg [JO 137 (.bin .add 3 (.g 126) (JT 1)), JB 126 137]))
noncomputable def lb39_1 : AC :=
 .seq (.ifr [JA 74 8, JA 75 7, JM 76 75, JH 77 1 76, JD 78 1 77, JO 79 (.bin .gtr 49 (.t 74) (.t 78))] (.t 79) .skip (.exit 1)) (.seq (.block 2 (.reg [JG 87 1 4, JD 88 1 87, JA 89 8, JA 90 2, JO 91 (.bld [JU, JV, .pointer none] [(0, 1, .t 88), (1, 1, .t 89), (2, 1, .t 90)]), JO 92 (.bxi (.t 91)), JB 7 92])) (.reg [JA 80 0, JG 81 5 4, JD 82 1 81, JO 83 (.ia 7 (.t 82) (JT 0)), JE 84 7 83, JA 85 7, JO 86 (.cl (.f 39) [.t 80, .t 84, .t 85]), JB 8 86]))
noncomputable def ac39 : AC :=
 (.seq (.reg [JN 4 1, JI 6 0]) (.seq (.seq (.reg [JG 13 0 4, JP 14 (.ld false 1 (.t 13))]) (.block 0 (.seq (.ifr [JO 16 (.bin .eql 40 (.g 14) (JT 1)), JB 15 16] (.g 15) .skip (.ifr [JO 17 (.bin .eql 40 (.g 14) (JT 2)), JB 15 17] (.g 15) .skip (.reg [JO 18 (.bin .eql 40 (.g 14) (JT 3)), JB 15 18]))) (.cond (.g 15) (.seq (.reg [JI 6 1]) .ret) (.ifr [JO 20 (.bin .eql 40 (.g 14) (JT 4)), JC 19 20] (.t 19) (.seq (.reg [JI 6 3]) .ret) (.ifr [JO 22 (.bin .eql 40 (.g 14) (JT 5)), JC 21 22] (.t 21) (.seq (.reg [JI 6 0]) .ret) (.ifr [JO 24 (.bin .eql 40 (.g 14) (JT 6)), JC 23 24] (.t 23) (.seq (.reg [JA 25 2, JG 26 1 4, JD 27 1 26, JO 28 (.pc (.f 72) [.t 25, .t 27]), JB 6 28]) .ret) (.ifr [JO 30 (.bin .eql 40 (.g 14) (JT 19)), JC 29 30] (.t 29) (.seq (.ifr [JA 31 0, JG 32 5 4, JD 33 1 32, JO 34 (.ia 7 (.t 33) (JT 0)), JE 35 7 34, JA 36 2, JO 37 (.cl (.f 39) [.t 31, .t 35, .t 36]), JO 38 (.bin .eql 49 (.t 37) (JT 0))] (.t 38) (.seq (.reg [JI 6 0]) .ret) .skip) (.seq (.reg [JA 39 0, JG 40 5 4, JD 41 1 40, JO 42 (.ia 7 (.t 41) (JT 1)), JE 43 7 42, JA 44 2, JA 46 0, JG 47 5 4, JD 48 1 47, JO 49 (.ia 7 (.t 48) (JT 2)), JE 50 7 49, JA 51 2, JO 45 (.cln (.f 39) [.t 39, .t 43, .t 44]), JO 52 (.cln (.f 39) [.t 46, .t 50, .t 51]), JO 53 (.bi .max [.t 45, .t 52]), JB 6 53]) .ret)) (.ifr [JO 55 (.bin .eql 40 (.g 14) (JT 20)), JC 54 55] (.t 54) (.seq (.reg [JA 56 0, JF 57 7 4, JA 58 2, JO 59 (.cl (.f 73) [.t 56, .t 57, .t 58]), JB 6 59]) .ret) (.ifr [JO 61 (.bin .eql 40 (.g 14) (JT 21)), JC 60 61] (.t 60) (.seq (.reg [JG 62 1 4, JD 63 1 62, JA 64 2, JO 65 (.bld [JU, JV, .pointer none] [(0, 1, .t 63), (2, 1, .t 64)]), JO 66 (.bxi (.t 65)), JB 7 66]) (.seq (.seq (.reg [JA 67 0, JG 68 5 4, JD 69 1 68, JO 70 (.ia 7 (.t 69) (JT 0)), JE 71 7 70, JA 72 7, JO 73 (.cl (.f 39) [.t 67, .t 71, .t 72]), JB 8 73]) (.block 1 (.loop lb39_1))) (.seq (.reg [JA 93 0, JG 94 5 4, JD 95 1 94, JO 96 (.ia 7 (.t 95) (JT 1)), JE 97 7 96, JA 98 7, JO 99 (.cl (.f 39) [.t 93, .t 97, .t 98]), JB 6 99]) .ret))) (.ifr [JO 101 (.bin .eql 40 (.g 14) (JT 22)), JC 100 101] (.t 100) (.seq (.seq (.reg [JA 102 0, JG 103 5 4, JD 104 1 103, JO 105 (.ia 7 (.t 104) (JT 0)), JE 106 7 105, JA 107 2, JO 108 (.cl (.f 39) [.t 102, .t 106, .t 107]), JB 9 108]) (.ifr [JA 109 9, JO 110 (.bin .gtr 49 (.t 109) (JT 0))] (.t 110) (.seq (.reg [JA 111 0, JG 112 5 4, JD 113 1 112, JO 114 (.ia 7 (.t 113) (JT 1)), JE 115 7 114, JG 116 1 4, JD 117 1 116, JA 118 9, JA 119 2, JO 120 (.bld [JU, JV, .pointer none] [(0, 1, .t 117), (1, 1, .t 118), (2, 1, .t 119)]), JO 121 (.bxi (.t 120)), JO 122 (.cl (.f 39) [.t 111, .t 115, .t 121]), JB 6 122]) .ret) .skip)) (.seq (.reg [JI 6 0]) .ret)) .skip))))))))))) (.seq (.reg [JP 10 (.mv (.c (.slice none 0 0)))]) (.seq (.seq (.reg [JG 123 5 4, JP 124 (.ld false 1 (.t 123)), JP 125 (.len false (.g 124)), JI 126 0]) (.block 3 (.loop lb39_0))) (.seq (.reg [JA 138 0, JF 139 7 4, JA 140 10, JO 141 (.cl (.f 74) [.t 138, .t 139, .t 140]), JB 6 141]) .ret)))))
theorem fi39 : FI Tryz.prog 39 cf39 ac39 [.t 6] [0, 1, 2, 4, 6, 7, 8, 9, 10, 12, 14, 15, 124, 125, 126] 142 := FI_of (c := Tryz.f39.body.getD .skip) Tryz.func39 (by kernel_rfl) (by rfl) (by rfl) (by kernel_rfl) (by kernel_rfl) rfl rfl rfl
@[simp] theorem cfP39 : cf39.P = Tryz.prog := (rfl)
noncomputable def cf50 : Cfg := ⟨Tryz.prog, 47, [0, 1, 2, 6, 7, 8, 9, 18, 19, 20], [46]⟩
noncomputable def lb50_0 : AC :=
 .seq (.ifr [JO 21 (.bin .lss 3 (.g 20) (.g 19))] (.t 21) .skip (.exit 0)) (.seq (.block 1 (.seq (.reg [JA 22 20, JO 23 (.ia 3 (.g 18) (.g 20)), JE 24 3 23, JP 9 (.al [JU, JV, JV]), JB 8 22, JQ (.st 3 (.g 9) (.t 24))]) (.reg [JG 25 0 9, JD 26 1 25, JA 27 2, JA 28 8, JL 29 1 27 28, JD 30 1 29, JA 31 7, JO 32 (.bld [JU, JV, .pointer none] [(0, 1, .t 26), (1, 1, .t 30), (2, 1, .t 31)]), JO 33 (.bxi (.t 32)), JB 7 33]))) (.reg [JO 34 (.bin .add 3 (.g 20) (JT 1)), JB 20 34]))
noncomputable def ac50 : AC :=
 (.seq (.reg [JI 6 0]) (.seq (.reg [JP 7 (.mv (.c (.pointer none)))]) (.seq (.seq (.reg [JA 10 0, JM 11 10, JH 12 0 11, JH 13 0 12, JD 14 1 13, JA 15 1, JL 16 11 14 15, JH 17 1 16, JP 18 (.ld false 1 (.t 17)), JP 19 (.len false (.g 18)), JI 20 0]) (.block 0 (.loop lb50_0))) (.seq (.reg [JA 35 0, JA 36 0, JM 37 36, JH 38 0 37, JH 39 0 38, JD 40 1 39, JA 41 1, JL 42 11 40 41, JH 43 3 42, JE 44 7 43, JA 45 7, JO 46 (.cl (.f 39) [.t 35, .t 44, .t 45]), JB 6 46]) .ret))))
theorem fi50 : FI Tryz.prog 50 cf50 ac50 [.t 6] [0, 1, 2, 6, 7, 8, 9, 18, 19, 20] 47 := FI_of (c := Tryz.f50.body.getD .skip) Tryz.func50 (by kernel_rfl) (by rfl) (by rfl) (by kernel_rfl) (by kernel_rfl) rfl rfl rfl
@[simp] theorem cfP50 : cf50.P = Tryz.prog := (rfl)
set_option maxRecDepth 100000
set_option maxHeartbeats 4000000
def dG : Nls → D
 | [] => .pl (.pointer none)
 | x :: r => .pt [Tx x.1, I x.2, dG r]
theorem imm_N : ∀ (N : Nls), (dG N).imm = true
 | [] => rfl
 | x :: r => by simp [dG, D.imm, D.imms, imm_N r]
attribute [simp] imm_N
def hasN (N : Nls) (n : List UInt8) : Prop := ∃ x ∈ N, x.1 = n
theorem EnvR.has {env : List Pm} {N : Nls} (h : EnvR env N) {n : List UInt8} {t : Int} (ht : aJ t) (hl : nG env n = t) : hasN N n := by
 induction h with
 | nil => unfold nG gI at hl; simp at hl; unfold aJ at ht; omega
 | snoc h hp ih =>
  rename_i env N x p
  unfold nG at hl ih
  rw [List.reverse_append] at hl
  simp only [List.reverse_cons, List.reverse_nil, List.nil_append, List.singleton_append, gI] at hl
  by_cases e : x.name = n
  ·exact ⟨_, List.mem_cons_self, e⟩
  ·rw [if_neg e] at hl
   obtain ⟨y, h1, h2⟩ := ih hl
   exact ⟨y, List.mem_cons_of_mem _ h1, h2⟩
theorem find_c (N : Nls) (n : List UInt8) (h : hasN N n) : Pure Tryz.prog 72 [dG N, Tx n] (I (kJ N n)) := by
 refine fi72.pu (by simp) ?_
 simp -implicitDefEqProofs [ac72]
 generalize hR : kJ N n = R
 refine lpG cf72 lb72_0 [0] (α := Nls) (fun s _ => [(0, dG s)]) (fun s _ => []) (fun s k => hasN s n ∧ kJ s n = R) (fun s => s.length) N ⟨h, hR⟩ (by simp) (by simp) ?_
 rintro s k ⟨hs, hr⟩
 cases s with
 | nil => obtain ⟨x, hx, _⟩ := hs; simp at hx
 | cons x r =>
  unfold kJ at hr
  by_cases e : x.1 = n
  ·rw [if_pos e] at hr
   subst hr
   simp -implicitDefEqProofs [lb72_0, dG, e]
  ·rw [if_neg e] at hr
   have e2 : ¬ n = x.1 := fun g => e g.symm
   simp -implicitDefEqProofs [lb72_0, dG, e, e2]
   refine aK r ⟨?_, hr⟩ (by simp) (by simp) (by simp)
   obtain ⟨y, h1, h2⟩ := hs
   rcases List.mem_cons.1 h1 with rfl | h1
   ·exact absurd h2 e
   ·exact ⟨y, h1, h2⟩
structure Tt where
 ps : List Int
 t : Int
 n : Int
 l : List Int
instance : Inhabited Tt := ⟨⟨[], 0, 0, []⟩⟩
def cF (x : Tt) : List D := tbC x.ps x.t x.n x.l
def bB (P : List Fn) (T : List Tt) (n : List UInt8) (l : List Int) : Int := aV (T[(aP P 0 n).toNat]?.getD default).l (dC (T[(aP P 0 n).toNat]?.getD default).ps l).1.toNat
structure jU (P : List Fn) (T : List Tt) : Prop where
 len : T.length = P.length
 ok : ∀ x ∈ T, fZ x.ps x.t x.n x.l ∧ dV x.l ∧ x.ps.length < 2 ^ 44
 fit : ∀ i, (h : i < P.length) → (T[i]?.getD default).ps = P[i].params.map Pm.type ∧ (T[i]?.getD default).t = P[i].type
theorem qX {P : List Fn} {T : List Tt} (h : jU P T) : VOk P (bB P T) := by
 intro n l hb hin
 unfold cK at hb
 have hh := d8 P 0 n
 have hlt : (aP P 0 n).toNat < P.length := by omega
 obtain ⟨f1, f2⟩ := h.fit _ hlt
 have hd : hdF P n = P[(aP P 0 n).toNat] := by unfold hdF; rw [List.getElem?_eq_getElem hlt]; rfl
 have hT : (aP P 0 n).toNat < T.length := by rw [h.len]; exact hlt
 have hx := h.ok (T[(aP P 0 n).toNat]?.getD default) (by rw [List.getElem?_eq_getElem hT]; exact List.getElem_mem hT)
 unfold bB
 rw [hd] at hin ⊢
 rw [← f1] at hin
 rw [← f2]
 obtain ⟨⟨k1, k2, k3, k4, k5⟩, _⟩ := hx
 have hlen := lK hin
 have hv := oG _ _ 0 hin (Int.le_refl 0)
 have hnum : dC (T[(aP P 0 n).toNat]?.getD default).ps l = (vl (T[(aP P 0 n).toNat]?.getD default).ps l 0, 0) := by
  unfold dC
  rw [if_neg (by rw [k1]; simp), if_neg (by rw [hlen]; simp), if_pos hin]
 rw [hnum]
 have := k5 (vl (T[(aP P 0 n).toNat]?.getD default).ps l 0).toNat (by omega)
 have h0 := qF (T[(aP P 0 n).toNat]?.getD default).l (vl (T[(aP P 0 n).toNat]?.getD default).ps l 0).toNat
 exact ⟨h0.1, this⟩
theorem k_ {l : List Tt} {mem : Mem} {j : IntKind} {i : Int} : iaD mem 4 (.sl (em cF l)) (.pl (.int j i)) = if 0 ≤ i ∧ i < l.length then some (.pt [.sl (em aT (l[i.toNat]?.getD default).ps), I (l[i.toNat]?.getD default).t, I (l[i.toNat]?.getD default).n, .sl (em fG (l[i.toNat]?.getD default).l)]) else none := jB fun x => rfl
abbrev sgD (P : List Fn) (hid : Nat) (T : List Tt) : D := .pt [.sl (em aZ P), .omap hid, .sl (em cF T)]
structure Sg (mem : Mem) (P : List Fn) (hid : Nat) (T : List Tt) : Prop where
 at' : ∃ m, look mem hid = some (.map (bS m)) ∧ ∀ n, 0 ≤ aP P 0 n → dD m n = aP P 0 n
 tabs : jU P T
theorem xC (l : List Int) (i : Nat) (h : i < l.length) (m : Int) : (l.drop i).foldl min m = (l.drop (i + 1)).foldl min (min m l[i]) := by
 rw [List.drop_eq_getElem_cons h]; rfl
theorem join_c {mem : Mem} {nx hid : Nat} {P : List Fn} {T : List Tt} {K : KD} (op : Int) (n tl : List UInt8) (ty : Int) (z : Cx) (args : List Ex) (p : Int) (l : List Int) (hs : Sg mem P hid T) (hl : l.length < 2 ^ 40)
  (h18 : op = 18 → l.length = 2 ∧ Pin 1 (l[0]?.getD 0) ∧ Pin 3 (l[1]?.getD 0)) (h7 : op = 7 → ¬ cK P n l.length ∧ inT ((hdF P n).params.map Pm.type) l = true)
  (hk : ∀ n', nx ≤ n' → K (I (mM (bB P T) op n l)) mem n') :
  bI Tryz.prog 74 [sgD P hid T, .agg [I op, Tx n, Tx tl, I ty, CX z.re z.im, .sl (em aU args), I p], .sl (em aT l)] mem nx K := by
 obtain ⟨⟨m, hm, hat⟩, ht⟩ := hs
 refine fi74.ct (by simp) fun hfr => ?_
 have hne : ∀ i, nx ≤ i → (hid = i) = False := fun i hi => eq_false fun e => by rw [e, hfr i hi] at hm; simp at hm
 have hne2 : ∀ i, nx ≤ i → (i = hid) = False := fun i hi => eq_false fun e => by rw [← e, hfr i hi] at hm; simp at hm
 simp -implicitDefEqProofs [ac74]
 by_cases c18 : op = 18
 ·obtain ⟨hl2, p1, p2⟩ := h18 c18
  have e : mM (bB P T) op n l = cnF (l[0]?.getD 0) (l[1]?.getD 0) := by unfold mM; rw [if_pos c18]
  rw [e] at hk
  have q0 : 0 < l.length := by omega
  have q1 : 1 < l.length := by omega
  unfold Pin at p1 p2
  rw [tp_1] at p1
  rw [sF] at p2
  have r0 : l[0]?.getD 0 = l[0] := by rw [List.getElem?_eq_getElem q0]; rfl
  have r1 : l[1]?.getD 0 = l[1] := by rw [List.getElem?_eq_getElem q1]; rfl
  rw [r0] at p1 hk
  rw [r1] at p2 hk
  obtain ⟨a, ha⟩ : ∃ a, l[0] = a := ⟨_, rfl⟩
  obtain ⟨b, hb⟩ : ∃ b, l[1] = b := ⟨_, rfl⟩
  rw [ha] at p1 hk
  rw [hb] at p2 hk
  have q1i : (1 : Int) < (l.length : Int) := by omega
  simp -implicitDefEqProofs [c18, q0, q1, q1i, ha, hb]
  refine aG (KO p1 p2) (by simp) ?_
  simp -implicitDefEqProofs
  exact ⟨_, aE _, hk _ (by omega)⟩
 ·by_cases c7 : op = 7
  ·obtain ⟨hb, hin⟩ := h7 c7
   have hbi := hb
   unfold cK at hbi
   have hh := d8 P 0 n
   have hat' := hat n (by omega)
   have hlt : (aP P 0 n).toNat < P.length := by omega
   have hT : (aP P 0 n).toNat < T.length := by rw [ht.len]; exact hlt
   have hTi : aP P 0 n < (T.length : Int) := by omega
   have h0 : 0 ≤ aP P 0 n := by omega
   obtain ⟨f1, f2⟩ := ht.fit _ hlt
   have hd : hdF P n = P[(aP P 0 n).toNat] := by unfold hdF; rw [List.getElem?_eq_getElem hlt]; rfl
   obtain ⟨x, hxe⟩ : ∃ x, T[(aP P 0 n).toNat]?.getD default = x := ⟨_, rfl⟩
   have hx := ht.ok x (by rw [← hxe, List.getElem?_eq_getElem hT]; exact List.getElem_mem hT)
   have e : mM (bB P T) op n l = aV x.l (dC x.ps l).1.toNat := by unfold mM bB; rw [if_neg c18, if_pos c7, hxe]
   rw [e] at hk
   rw [hd, ← f1, hxe] at hin
   obtain ⟨⟨k1, k2, k3, k4, k5⟩, kw, kl⟩ := hx
   have hlen := lK hin
   have hv := oG _ _ 0 hin (Int.le_refl 0)
   have hnum : dC x.ps l = (vl x.ps l 0, 0) := by
    unfold dC
    rw [if_neg (by rw [k1]; simp), if_neg (by rw [hlen]; simp), if_pos hin]
   rw [hnum] at hk
   simp only at hk
   have hv0 : 0 ≤ vl x.ps l 0 := by omega
   have hv1 : vl x.ps l 0 < x.n := by omega
   have hxe2 : T[(aP P 0 n).toNat] = x := by rw [← hxe, List.getElem?_eq_getElem hT]; rfl
   simp -implicitDefEqProofs [c18, c7, hm, hat', k_, h0, hTi, hT, hxe2]
   refine aG (BE x.ps l (by omega) (by omega)) (by simp) ?_
   simp -implicitDefEqProofs [hnum]
   refine aG (Get_c x.n (vl x.ps l 0) x.l) (by simp) ?_
   simp -implicitDefEqProofs [getF, k4, hv0, hv1]
   exact ⟨mem, fun i b hb => by rw [aY, if_neg (by rintro rfl; rw [hfr _ (by omega)] at hb; simp at hb)]; exact hb, hk _ (by omega)⟩
  ·have e : mM (bB P T) op n l = l.foldl min 1 := by unfold mM; rw [if_neg c18, if_neg c7]
   rw [e] at hk
   generalize hR : l.foldl min 1 = R at hk
   simp -implicitDefEqProofs [c18, c7]
   refine lpG cf74 lb74_0 [14, 16, 64] (α := Nat × Int) (fun s _ => [(14, I s.2), (16, .top), (64, I s.1)]) (fun s _ => mem) (fun s k => nx ≤ k ∧ s.1 ≤ l.length ∧ (l.drop s.1).foldl min s.2 = R) (fun s => l.length - s.1) (0, 1) ⟨by omega, by simp, hR⟩ (by simp) (aI _) ?_
   rintro ⟨i, b⟩ k ⟨hk1, hi, hr⟩
   simp only at hi hr hk1
   by_cases hlt : i < l.length
   ·have w1 := aR (x := (i : Int) + 1) (by omega) (by omega)
    rw [xC l i hlt] at hr
    obtain ⟨x, hxe⟩ : ∃ x, l[i] = x := ⟨_, rfl⟩
    rw [hxe] at hr
    simp -implicitDefEqProofs [lb74_0, hlt, hxe, w1]
    exact aK (i + 1, min b x) ⟨by omega, hlt, hr⟩ (by simp only; omega) (by simp) (aI _)
   ·have hil : i = l.length := by omega
    subst hil
    rw [List.drop_length] at hr
    simp only [List.foldl_nil] at hr
    subst hr
    simp -implicitDefEqProofs [lb74_0]
    exact ⟨_, aE _, hk _ (by omega)⟩
theorem Sg.skip {mem : Mem} {P : List Fn} {hid : Nat} {T : List Tt} (h : Sg mem P hid T) {i : Nat} {b : Blk} (hi : look mem i = none) : Sg ((i, b) :: mem) P hid T := by
 obtain ⟨⟨m, h1, h2⟩, h3⟩ := h
 refine ⟨⟨m, ?_, h2⟩, h3⟩
 rw [aY]
 split
 ·rename_i e; subst e; rw [hi] at h1; simp at h1
 ·exact h1
abbrev exD (a : Ex) : D := .agg [I a.op, Tx a.name, Tx a.tail, I a.type, CX a.num.re a.num.im, .sl (em aU a.args), I a.at']
def PtC (e : Ex) : Prop := ∀ ⦃mem : Mem⦄ ⦃nx hid : Nat⦄ ⦃P : List Fn⦄ ⦃T : List Tt⦄ ⦃N : Nls⦄ ⦃env : List Pm⦄ ⦃t : Int⦄ ⦃K : KD⦄, Sg mem P hid T → PT P → Sh e → aJ t → bP P env e t = [] → EnvR env N → size e ≤ 2 ^ 39 →
 (∀ n', nx ≤ n' → K (I (ptF (bB P T) e N)) mem n') → bI Tryz.prog 39 [sgD P hid T, exD e, dG N] mem nx K
structure Pts (P : List Fn) (T : List Tt) (env : List Pm) (op : Int) (n tl : List UInt8) (ty t : Int) (args : List Ex) : Prop where
 c : ∀ k (hk : k < args.length) ⦃mem : Mem⦄ ⦃nx hid : Nat⦄ ⦃env' : List Pm⦄ ⦃M : Nls⦄ ⦃K : KD⦄, Sg mem P hid T → aM env op n tl ty k = env' → EnvR env' M → aJ (aL P op n ty k t) → (∀ n', nx ≤ n' → K (I (ptI (bB P T) args k M)) mem n') → bI Tryz.prog 39 [sgD P hid T, exD args[k], dG M] mem nx K
 i : ∀ k, k < args.length → ∀ ⦃env' : List Pm⦄ ⦃M : Nls⦄, aM env op n tl ty k = env' → EnvR env' M → aJ (aL P op n ty k t) → Pin (aL P op n ty k t) (ptI (bB P T) args k M)
theorem E2 {l : List Br} {mem : Mem} {j : IntKind} {i : Int} : iaD mem 3 (.sl (em wA l)) (.pl (.int j i)) = if 0 ≤ i ∧ i < l.length then some (.pt [B (l[i.toNat]?.getD default).nl, I (l[i.toNat]?.getD default).hd, I (l[i.toNat]?.getD default).tl]) else none := jB fun x => rfl
theorem M6 {mem : Mem} {nx hid : Nat} {P : List Fn} {T : List Tt} {N : Nls} {env : List Pm} {t : Int} {K : KD} (n tl : List UInt8) (ty : Int) (z : Cx) (args : List Ex) (p : Int) (hl : args.length = 3) (ht : aJ t) (hs : Sg mem P hid T) (he : EnvR env N) (pts : Pts P T env 20 n tl ty t args)
  (hk : ∀ n', nx ≤ n' → K (I (ptF (bB P T) (.mk 20 n tl ty z args p) N)) mem n') :
  bI Tryz.prog 73 [sgD P hid T, .agg [I 20, Tx n, Tx tl, I ty, CX z.re z.im, .sl (em aU args), I p], dG N] mem nx K := by
 have w0 : aL P 20 n ty 0 t = 3 := by simp [aL]
 have w1 : aL P 20 n ty 1 t = t := by simp [aL]
 have w2 : aL P 20 n ty 2 t = t := by simp [aL]
 have e0 : aM env 20 n tl ty 0 = env := by simp [aM]
 have e1 : aM env 20 n tl ty 1 = env := by simp [aM]
 have e2 : aM env 20 n tl ty 2 = (env ++ [⟨n, 1, 0⟩]) ++ [⟨tl, 3, 0⟩] := by simp [aM]
 have i0 := pts.i 0 (by omega) e0 he (by rw [w0]; exact .inr (.inr rfl))
 rw [w0] at i0
 have q0 : 0 < args.length := by omega
 have q1 : 1 < args.length := by omega
 have q2 : 2 < args.length := by omega
 have q0i : (0 : Int) < (args.length : Int) := by omega
 have q1i : (1 : Int) < (args.length : Int) := by omega
 have q2i : (2 : Int) < (args.length : Int) := by omega
 have c0 := pts.c 0 q0
 have c1 := pts.c 1 q1
 have c2 := pts.c 2 q2
 obtain ⟨a0, ha0⟩ : ∃ a, args[0] = a := ⟨_, rfl⟩
 obtain ⟨a1, ha1⟩ : ∃ a, args[1] = a := ⟨_, rfl⟩
 obtain ⟨a2, ha2⟩ : ∃ a, args[2] = a := ⟨_, rfl⟩
 rw [ha0] at c0
 rw [ha1] at c1
 rw [ha2] at c2
 have hpt : ptF (bB P T) (.mk 20 n tl ty z args p) N = casF (fun b => if b.nl = true then ptI (bB P T) args 1 N else ptI (bB P T) args 2 ((tl, b.tl) :: (n, b.hd) :: N)) (csF (ptI (bB P T) args 0 N)) := by
  conv => lhs; unfold ptF
  simp
 rw [hpt] at hk
 clear hpt
 generalize hv0 : ptI (bB P T) args 0 N = v0 at *
 refine fi73.ct (by simp) fun hfr => ?_
 simp -implicitDefEqProofs [ac73, ha0, q0, q0i]
 refine aD (c0 hs e0 he (by rw [w0]; exact .inr (.inr rfl)) (fun n1 hn1 => ?_))
 rw [hv0]
 unfold Pin at i0
 rw [sF] at i0
 simp -implicitDefEqProofs
 refine aG (HB i0).1 (by simp) ?_
 simp -implicitDefEqProofs
 generalize hL : csF v0 = L at hk
 have hLin : ∀ b ∈ L, b.nl = false → Pin 1 b.hd ∧ Pin 3 b.tl := by rw [← hL]; exact FQ
 unfold casF at hk
 generalize hR : L.foldl (fun m b => max m ((fun b : Br => if b.nl = true then ptI (bB P T) args 1 N else ptI (bB P T) args 2 ((tl, b.tl) :: (n, b.hd) :: N)) b)) 0 = R at hk
 refine lpG cf73 lb73_0 [7, 11, 12, 26] (α := Nat × Int) (fun s _ => [(7, I s.2), (11, .top), (12, .top), (26, I s.1)]) (fun s _ => mem) (fun s k => n1 ≤ k ∧ s.1 ≤ L.length ∧ (L.drop s.1).foldl (fun m b => max m ((fun b : Br => if b.nl = true then ptI (bB P T) args 1 N else ptI (bB P T) args 2 ((tl, b.tl) :: (n, b.hd) :: N)) b)) s.2 = R) (fun s => L.length - s.1) (0, 0) ⟨by omega, by simp, hR⟩ (by simp) (aI _) ?_
 have hLl : L.length ≤ 2 := by
  rw [← hL]; unfold csF
  split
  ·simp
  ·split
   ·simp
   ·split <;> simp
 clear hR
 rintro ⟨i, m⟩ k ⟨hk1, hi, hr⟩
 simp only at hi hr hk1
 by_cases hlt : i < L.length
 ·have wi := aR (x := (i : Int) + 1) (by omega) (by omega)
  rw [List.drop_eq_getElem_cons hlt, List.foldl_cons] at hr
  obtain ⟨b, hb⟩ : ∃ b, L[i] = b := ⟨_, rfl⟩
  have hbL : b ∈ L := by rw [← hb]; exact List.getElem_mem hlt
  rw [hb] at hr
  by_cases hnl : b.nl = true
  ·rw [if_pos hnl] at hr
   simp -implicitDefEqProofs [lb73_0, E2, hlt, hb, hnl, ha1, q1, q1i]
   refine aD (c1 (hs.skip (hfr (k + 1 + 2) (by omega))) e1 he (by rw [w1]; exact ht) (fun n2 hn2 => ?_))
   simp -implicitDefEqProofs [wi]
   exact aK (i + 1, max m (ptI (bB P T) args 1 N)) ⟨by omega, hlt, hr⟩ (by simp only; omega) (by simp) (aN (aI _) (hfr (k + 1 + 2) (by omega)))
  ·rw [if_neg hnl] at hr
   have hnl2 : b.nl = false := by simpa using hnl
   obtain ⟨p1, p2⟩ := hLin b hbL hnl2
   cases N with
   | nil =>
    simp -implicitDefEqProofs [lb73_0, E2, hlt, hb, hnl2, ha2, q2, q2i, dG]
    refine aD (c2 (M := (tl, b.tl) :: (n, b.hd) :: []) (hs.skip (hfr (k + 1 + 2) (by omega))) e2 ((he.one p1).one p2) (by rw [w2]; exact ht) (fun n2 hn2 => ?_))
    simp -implicitDefEqProofs [wi]
    exact aK (i + 1, max m (ptI (bB P T) args 2 ((tl, b.tl) :: (n, b.hd) :: []))) ⟨by omega, hlt, hr⟩ (by simp only; omega) (by simp) (aN (aI _) (hfr (k + 1 + 2) (by omega)))
   | cons y r =>
    simp -implicitDefEqProofs [lb73_0, E2, hlt, hb, hnl2, ha2, q2, q2i, dG]
    refine aD (c2 (M := (tl, b.tl) :: (n, b.hd) :: y :: r) (hs.skip (hfr (k + 1 + 2) (by omega))) e2 ((he.one p1).one p2) (by rw [w2]; exact ht) (fun n2 hn2 => ?_))
    simp -implicitDefEqProofs [wi]
    exact aK (i + 1, max m (ptI (bB P T) args 2 ((tl, b.tl) :: (n, b.hd) :: y :: r))) ⟨by omega, hlt, hr⟩ (by simp only; omega) (by simp) (aN (aI _) (hfr (k + 1 + 2) (by omega)))
 ·have hil : i = L.length := by omega
  subst hil
  rw [List.drop_length] at hr
  simp only [List.foldl_nil] at hr
  subst hr
  simp -implicitDefEqProofs [lb73_0]
  exact ⟨_, aE _, hk _ (by omega)⟩
set_option maxHeartbeats 8000000
theorem zB : ∀ (l : List Ex), l.length ≤ bH l
 | [] => by simp [bH]
 | y :: ys => by
  have := zB ys
  have h : 1 ≤ size y := by cases y; unfold size; omega
  unfold bH; simp only [List.length_cons]; omega
theorem pts_of {P : List Fn} {T : List Tt} {env : List Pm} {op : Int} {n tl : List UInt8} {ty t : Int} {args : List Ex} (hP : PT P) (hT : jU P T) (hss : Shs args) (hws : cG P env op n tl ty t 0 args = []) (hz : bH args ≤ 2 ^ 39) (ih : ∀ x ∈ args, PtC x) : Pts P T env op n tl ty t args := by
 have harg : ∀ k x, args[k]? = some x → bP P (aM env op n tl ty k) x (aL P op n ty k t) = [] := fun k x hx => by
  have := rN args 0 k x hws hx
  rwa [Nat.zero_add] at this
 refine ⟨fun k hk mem nx hid env' M K hs he hM ht hK => ?_, fun k hk env' M he hM ht => ?_⟩
 ·have hx := List.getElem?_eq_getElem hk
  have hm := List.getElem_mem hk
  refine ih _ hm hs hP (jE hss hm) ht (by rw [← he]; exact harg k _ hx) hM (Nat.le_trans (lR hm) hz) (fun n' hn => ?_)
  rw [← eS (N := M) args k _ hx]; exact hK n' hn
 ·have hx := List.getElem?_eq_getElem hk
  have hm := List.getElem_mem hk
  rw [eS args k _ hx]
  exact wQ hP (qX hT) _ (jE hss hm) ht (by rw [← he]; exact harg k _ hx) hM
theorem EG (op : Int) (n tl : List UInt8) (ty : Int) (z : Cx) (args : List Ex) (p : Int) (ih : ∀ x ∈ args, PtC x) : PtC (.mk op n tl ty z args p) := by
 intro mem nx hid P T N env t K hs hP hsh ht hw he hz hk
 have hw0 := hw
 have hsh0 := hsh
 unfold Sh at hsh
 obtain ⟨hsp, hss⟩ := hsh
 unfold bP at hw
 rw [List.append_eq_nil_iff] at hw
 obtain ⟨hw, hown⟩ := hw
 have hown' : cY op ∨ b8 P env op n ty args.length = t := by
  apply Classical.byContradiction
  intro g
  rw [if_neg g] at hown; simp at hown
 have hbad : op = 7 → ¬ cK P n args.length := by
  intro h7 hb
  subst h7
  rcases hown' with h | h
  ·unfold cY at h; omega
  ·unfold b8 at h
   rw [if_neg (by omega), if_neg (by omega), if_neg (by omega), if_neg (by omega), if_pos rfl, if_pos hb] at h
   unfold aJ at ht; omega
 have hws : cG P env op n tl ty t 0 args = [] := by
  by_cases h7 : op = 7 ∧ cK P n args.length
  ·exact absurd h7.2 (hbad h7.1)
  ·rw [if_neg h7] at hw; exact hw
 have hz' : bH args ≤ 2 ^ 39 := by unfold size at hz; omega
 have pts := pts_of (T := T) hP hs.tabs hss hws hz' ih
 have hk0 := hk
 have hpt : ptF (bB P T) (.mk op n tl ty z args p) N = ptF (bB P T) (.mk op n tl ty z args p) N := rfl
 conv at hpt => rhs; unfold ptF
 rw [hpt] at hk
 clear hpt
 unfold dX at hsp
 show bI Tryz.prog 39 [sgD P hid T, .agg [I op, Tx n, Tx tl, I ty, CX z.re z.im, .sl (em aU args), I p], dG N] mem nx K
 refine fi39.ct (by simp) fun hfr => ?_
 simp -implicitDefEqProofs [ac39]
 by_cases c1 : op = 1
 ·subst c1
  simp -implicitDefEqProofs []
  exact ⟨_, aE _, by simpa using hk _ (by omega)⟩
 by_cases c2 : op = 2
 ·subst c2
  simp -implicitDefEqProofs []
  exact ⟨_, aE _, by simpa using hk _ (by omega)⟩
 by_cases c3 : op = 3
 ·subst c3
  simp -implicitDefEqProofs []
  exact ⟨_, aE _, by simpa using hk _ (by omega)⟩
 by_cases c4 : op = 4
 ·subst c4
  simp -implicitDefEqProofs []
  exact ⟨_, aE _, by simpa using hk _ (by omega)⟩
 by_cases c5 : op = 5
 ·subst c5
  simp -implicitDefEqProofs []
  exact ⟨_, aE _, by simpa using hk _ (by omega)⟩
 have own_of : ¬ cY op → b8 P env op n ty args.length = t := fun h => hown'.resolve_left h
 by_cases c6 : op = 6
 ·have h := own_of (by unfold cY; omega)
  unfold b8 at h
  rw [if_neg (by omega), if_neg c4, if_neg c5, if_pos c6] at h
  subst c6
  simp -implicitDefEqProofs []
  refine aG (find_c N n (he.has ht h)) (by simp) ?_
  simp -implicitDefEqProofs
  exact ⟨_, aE _, by simpa using hk _ (by omega)⟩
 by_cases c19 : op = 19
 ·subst c19
  have hl : args.length = 3 := by omega
  have w0 : aL P 19 n ty 0 t = 2 := by simp [aL]
  have w1 : aL P 19 n ty 1 t = t := by simp [aL]
  have w2 : aL P 19 n ty 2 t = t := by simp [aL]
  have e0 : aM env 19 n tl ty 0 = env := by simp [aM]
  have e1 : aM env 19 n tl ty 1 = env := by simp [aM]
  have e2 : aM env 19 n tl ty 2 = env := by simp [aM]
  have q0 : 0 < args.length := by omega
  have q1 : 1 < args.length := by omega
  have q2 : 2 < args.length := by omega
  have q0i : (0 : Int) < (args.length : Int) := by omega
  have q1i : (1 : Int) < (args.length : Int) := by omega
  have q2i : (2 : Int) < (args.length : Int) := by omega
  have a0 := pts.c 0 q0
  have a1 := pts.c 1 q1
  have a2 := pts.c 2 q2
  obtain ⟨x0, hx0⟩ : ∃ a, args[0] = a := ⟨_, rfl⟩
  obtain ⟨x1, hx1⟩ : ∃ a, args[1] = a := ⟨_, rfl⟩
  obtain ⟨x2, hx2⟩ : ∃ a, args[2] = a := ⟨_, rfl⟩
  rw [hx0] at a0
  rw [hx1] at a1
  rw [hx2] at a2
  simp only [Int.reduceEq, if_true, if_false, or_self] at hk
  simp -implicitDefEqProofs [hx0, q0, q0i]
  refine aD (a0 hs e0 he (by rw [w0]; exact .inr (.inl rfl)) (fun n1 hn1 => ?_))
  by_cases hv : ptI (bB P T) args 0 N = 0
  ·simp -implicitDefEqProofs [hv]
   exact ⟨_, aE _, by simpa [hv] using hk _ (by omega)⟩
  ·simp -implicitDefEqProofs [hv, hx1, hx2, q1, q2, q1i, q2i]
   refine aD (a1 hs e1 he (by rw [w1]; exact ht) (fun n2 hn2 => ?_))
   refine ⟨fun _ _ h => h, ?_⟩
   refine aD (a2 hs e2 he (by rw [w2]; exact ht) (fun n3 hn3 => ?_))
   refine ⟨fun _ _ h => h, ?_⟩
   simp -implicitDefEqProofs
   exact ⟨_, aE _, by simpa [hv] using hk _ (by omega)⟩
 by_cases c20 : op = 20
 ·subst c20
  have hl : args.length = 3 := by omega
  simp -implicitDefEqProofs []
  refine aD (M6 n tl ty z args p hl ht hs he pts (fun n1 hn1 => ?_))
  simp -implicitDefEqProofs
  exact ⟨_, aE _, hk0 _ (by omega)⟩
 by_cases c21 : op = 21
 ·subst c21
  have hl : args.length = 2 ∧ aJ ty := by unfold aJ at *; omega
  have w0 : aL P 21 n ty 0 t = ty := by simp [aL]
  have w1 : aL P 21 n ty 1 t = t := by simp [aL]
  have e0 : aM env 21 n tl ty 0 = env ++ [⟨n, ty, 0⟩] := by simp [aM]
  have e1 : aM env 21 n tl ty 1 = env ++ [⟨n, ty, 0⟩] := by simp [aM]
  have q0 : 0 < args.length := by omega
  have q1 : 1 < args.length := by omega
  have q0i : (0 : Int) < (args.length : Int) := by omega
  have q1i : (1 : Int) < (args.length : Int) := by omega
  have a0 := pts.c 0 q0
  have a1 := pts.c 1 q1
  have p0 : Pin ty 0 := by have := mI hl.2; unfold Pin; omega
  have i0 : ∀ q, Pin ty q → Pin ty (ptI (bB P T) args 0 ((n, q) :: N)) := fun q hq => by
   have := pts.i 0 q0 (M := (n, q) :: N) e0 (he.one hq) (by rw [w0]; exact hl.2)
   rwa [w0] at this
  obtain ⟨x0, hx0⟩ : ∃ a, args[0] = a := ⟨_, rfl⟩
  obtain ⟨x1, hx1⟩ : ∃ a, args[1] = a := ⟨_, rfl⟩
  rw [hx0] at a0
  rw [hx1] at a1
  simp only [Int.reduceEq, if_true, if_false, or_self] at hk
  cases N with
  | nil =>
   simp -implicitDefEqProofs [dG, hx0, q0, q0i]
   refine aD (a0 (M := (n, 0) :: []) hs e0 (he.one p0) (by rw [w0]; exact hl.2) (fun n1 hn1 => ?_))
   simp -implicitDefEqProofs
   generalize hR : gZ (fun q => ptI (bB P T) args 0 ((n, q) :: [])) 4 0 = R at hk
   refine lpG cf39 lb39_1 [7, 8] (α := Nat × Int) (fun s _ => [(7, dG ((n, s.2) :: [])), (8, I (ptI (bB P T) args 0 ((n, s.2) :: [])))]) (fun s _ => mem) (fun s k => n1 ≤ k ∧ gZ (fun q => ptI (bB P T) args 0 ((n, q) :: [])) s.1 s.2 = R ∧ Pin ty s.2 ∧ tp ty < s.2 + s.1 + 1) (fun s => s.1) (4, 0) ⟨by omega, hR, p0, by have := fK ty; simp only; omega⟩ (by simp [dG]) (aI _) ?_
   clear hR
   rintro ⟨j, q⟩ k ⟨hk1, hr, hp, hj⟩
   simp only at hk1 hr hp hj
   have g1 := i0 q hp
   by_cases hgq : q < ptI (bB P T) args 0 ((n, q) :: [])
   ·have hj1 : ∃ j', j = j' + 1 := by
     cases j with
     | zero => unfold Pin at g1 hp; simp only [Int.natCast_zero] at hj; omega
     | succ j => exact ⟨j, rfl⟩
    obtain ⟨j', rfl⟩ := hj1
    unfold gZ at hr
    rw [if_neg (by omega)] at hr
    simp -implicitDefEqProofs [lb39_1, dG, hgq, hx0, q0, q0i]
    refine aD (a0 (M := (n, ptI (bB P T) args 0 ((n, q) :: [])) :: []) hs e0 (he.one g1) (by rw [w0]; exact hl.2) (fun n2 hn2 => ?_))
    simp -implicitDefEqProofs
    exact aK (j', ptI (bB P T) args 0 ((n, q) :: [])) ⟨by omega, hr, g1, by simp only; push_cast at hj; omega⟩ (by simp) (by simp [dG]) (aI _)
   ·have hRq : R = q := by
     rw [← hr]
     cases j with
     | zero => rfl
     | succ j => unfold gZ; rw [if_pos (by omega)]
    subst hRq
    simp -implicitDefEqProofs [lb39_1, dG, hgq, hx1, q1, q1i]
    refine aD (a1 (M := (n, R) :: []) hs e1 (he.one hp) (by rw [w1]; exact ht) (fun n2 hn2 => ?_))
    simp -implicitDefEqProofs
    exact ⟨_, aE _, hk _ (by omega)⟩
  | cons y r =>
   simp -implicitDefEqProofs [dG, hx0, q0, q0i]
   refine aD (a0 (M := (n, 0) :: y :: r) hs e0 (he.one p0) (by rw [w0]; exact hl.2) (fun n1 hn1 => ?_))
   simp -implicitDefEqProofs
   generalize hR : gZ (fun q => ptI (bB P T) args 0 ((n, q) :: y :: r)) 4 0 = R at hk
   refine lpG cf39 lb39_1 [7, 8] (α := Nat × Int) (fun s _ => [(7, dG ((n, s.2) :: y :: r)), (8, I (ptI (bB P T) args 0 ((n, s.2) :: y :: r)))]) (fun s _ => mem) (fun s k => n1 ≤ k ∧ gZ (fun q => ptI (bB P T) args 0 ((n, q) :: y :: r)) s.1 s.2 = R ∧ Pin ty s.2 ∧ tp ty < s.2 + s.1 + 1) (fun s => s.1) (4, 0) ⟨by omega, hR, p0, by have := fK ty; simp only; omega⟩ (by simp [dG]) (aI _) ?_
   clear hR
   rintro ⟨j, q⟩ k ⟨hk1, hr, hp, hj⟩
   simp only at hk1 hr hp hj
   have g1 := i0 q hp
   by_cases hgq : q < ptI (bB P T) args 0 ((n, q) :: y :: r)
   ·have hj1 : ∃ j', j = j' + 1 := by
     cases j with
     | zero => unfold Pin at g1 hp; simp only [Int.natCast_zero] at hj; omega
     | succ j => exact ⟨j, rfl⟩
    obtain ⟨j', rfl⟩ := hj1
    unfold gZ at hr
    rw [if_neg (by omega)] at hr
    simp -implicitDefEqProofs [lb39_1, dG, hgq, hx0, q0, q0i]
    refine aD (a0 (M := (n, ptI (bB P T) args 0 ((n, q) :: y :: r)) :: y :: r) hs e0 (he.one g1) (by rw [w0]; exact hl.2) (fun n2 hn2 => ?_))
    simp -implicitDefEqProofs
    exact aK (j', ptI (bB P T) args 0 ((n, q) :: y :: r)) ⟨by omega, hr, g1, by simp only; push_cast at hj; omega⟩ (by simp) (by simp [dG]) (aI _)
   ·have hRq : R = q := by
     rw [← hr]
     cases j with
     | zero => rfl
     | succ j => unfold gZ; rw [if_pos (by omega)]
    subst hRq
    simp -implicitDefEqProofs [lb39_1, dG, hgq, hx1, q1, q1i]
    refine aD (a1 (M := (n, R) :: y :: r) hs e1 (he.one hp) (by rw [w1]; exact ht) (fun n2 hn2 => ?_))
    simp -implicitDefEqProofs
    exact ⟨_, aE _, hk _ (by omega)⟩
 by_cases c22 : op = 22
 ·subst c22
  have hl : args.length = 2 ∧ aJ ty := by unfold aJ at *; omega
  have w0 : aL P 22 n ty 0 t = ty := by simp [aL]
  have w1 : aL P 22 n ty 1 t = t := by simp [aL]
  have e0 : aM env 22 n tl ty 0 = env := by simp [aM]
  have e1 : aM env 22 n tl ty 1 = env ++ [⟨n, ty, 0⟩] := by simp [aM]
  have q0 : 0 < args.length := by omega
  have q1 : 1 < args.length := by omega
  have q0i : (0 : Int) < (args.length : Int) := by omega
  have q1i : (1 : Int) < (args.length : Int) := by omega
  have a0 := pts.c 0 q0
  have a1 := pts.c 1 q1
  have i0 := pts.i 0 q0 (M := N) e0 he (by rw [w0]; exact hl.2)
  rw [w0] at i0
  obtain ⟨x0, hx0⟩ : ∃ a, args[0] = a := ⟨_, rfl⟩
  obtain ⟨x1, hx1⟩ : ∃ a, args[1] = a := ⟨_, rfl⟩
  rw [hx0] at a0
  rw [hx1] at a1
  simp only [Int.reduceEq, if_true, if_false, or_self] at hk
  simp -implicitDefEqProofs [hx0, q0, q0i]
  refine aD (a0 hs e0 he (by rw [w0]; exact hl.2) (fun n1 hn1 => ?_))
  by_cases hv : 0 < ptI (bB P T) args 0 N
  ·rw [if_pos hv] at hk
   cases N with
   | nil =>
    simp -implicitDefEqProofs [dG, hv, hx1, q1, q1i]
    refine aD (a1 (M := (n, ptI (bB P T) args 0 []) :: []) hs e1 (he.one i0) (by rw [w1]; exact ht) (fun n2 hn2 => ?_))
    simp -implicitDefEqProofs
    exact ⟨_, aE _, hk _ (by omega)⟩
   | cons y r =>
    simp -implicitDefEqProofs [dG, hv, hx1, q1, q1i]
    refine aD (a1 (M := (n, ptI (bB P T) args 0 (y :: r)) :: y :: r) hs e1 (he.one i0) (by rw [w1]; exact ht) (fun n2 hn2 => ?_))
    simp -implicitDefEqProofs
    exact ⟨_, aE _, hk _ (by omega)⟩
  ·rw [if_neg hv] at hk
   simp -implicitDefEqProofs [hv]
   exact ⟨_, aE _, hk _ (by omega)⟩
 have c1' : ¬ (op = 1 ∨ op = 2 ∨ op = 3) := by omega
 rw [if_neg c1', if_neg c4, if_neg c5, if_neg c6, if_neg c19, if_neg c20, if_neg c21, if_neg c22] at hk
 simp -implicitDefEqProofs [c1, c2, c3, c4, c5, c6, c19, c20, c21, c22]
 generalize hq0 : nx + 2 + 2 + 2 + 2 + 2 + 2 + 2 + 2 + 2 + 2 + 2 + 2 + 1 + 4 = q
 have hqn : nx ≤ q := by omega
 refine cT (j := 10) (k := 1) rfl (.inl rfl) ?_
 refine pQ ?_
 have hll : args.length ≤ 2 ^ 39 := Nat.le_trans (zB args) hz'
 have hpar : op = 7 → ∀ k, k < args.length → ∃ x, (hdF P n).params[k]? = some x ∧ aJ x.type := by
  intro c7 k hk
  have hb := hbad c7
  unfold cK at hb
  have hlen : (hdF P n).params.length = args.length := by omega
  have hkp : k < (hdF P n).params.length := by omega
  have hf : hdF P n ∈ P := by
   unfold hdF
   have hlt : (aP P 0 n).toNat < P.length := by have := d8 P 0 n; omega
   rw [List.getElem?_eq_getElem hlt]; exact List.getElem_mem hlt
  exact ⟨_, List.getElem?_eq_getElem hkp, (hP _ hf).2 _ (List.getElem_mem hkp)⟩
 have hjn : ∀ k, k < args.length → aJ (aL P op n ty k t) ∧ aM env op n tl ty k = env := by
  intro k hk
  have d1 : ¬ (op = 21 ∨ op = 22 ∧ k = 1) := by omega
  have d2 : ¬ (op = 20 ∧ k = 2) := by omega
  refine ⟨?_, by unfold aM; rw [if_neg d1, if_neg d2]⟩
  by_cases c7 : op = 7
  ·obtain ⟨x, hx, htx⟩ := hpar c7 k hk
   have w : aL P op n ty k t = x.type := by subst c7; simp [aL, hx]
   rw [w]; exact htx
  ·have d3 : ¬ (op = 21 ∨ op = 22) := by omega
   unfold aL aJ
   by_cases c14 : op = 14
   ·simp [c14]
   ·by_cases c18 : op = 18
    ·by_cases hk1 : k = 1 <;> simp [c18, hk1]
    ·rw [if_neg c14, if_neg c18, if_neg c7, if_neg c19, if_neg c20, if_neg d3]; simp
 refine lpG cf39 lb39_0 [10, 12, 126] (α := Nat × Nat × List Int) (fun s _ => [(10, .osl q s.2.1 0 s.2.2.length), (12, .top), (126, I s.1)]) (fun s _ => (q, .arr s.2.1 1 (em aT s.2.2)) :: mem) (fun s k => q < k ∧ s.1 ≤ args.length ∧ s.2.2 = (ptL (bB P T) args N).take s.1) (fun s => args.length - s.1) (0, 0, []) ⟨by omega, by simp, by simp⟩ (by simp [upd]) (by simp) ?_
 rintro ⟨i, v, l⟩ k ⟨hk1, hi, hl⟩
 simp only at hi hl hk1
 have hplen := kG (V := bB P T) (N := N) args
 have hle : l.length = i := by rw [hl, List.length_take]; omega
 have hq2 : look mem q = none := hfr q hqn
 by_cases hlt : i < args.length
 ·have w1 := aR (x := (i : Int) + 1) (by omega) (by omega)
  have a := pts.c i hlt
  obtain ⟨ht1, ht2⟩ := hjn i hlt
  obtain ⟨x, hx⟩ : ∃ x, args[i] = x := ⟨_, rfl⟩
  rw [hx] at a
  have hnext : l ++ [ptI (bB P T) args i N] = (ptL (bB P T) args N).take (i + 1) := by
   rw [hl, List.take_add_one, mO args i _ (List.getElem?_eq_getElem hlt), eS args i _ (List.getElem?_eq_getElem hlt)]; rfl
  have b1 : (l.length + 1) * 8 ≤ 3 * 2 ^ 46 := by omega
  have z1 : (k + 1 + 2 = q) = False := eq_false (by omega)
  have z2 : (q = k + 1 + 2) = False := eq_false (by omega)
  simp -implicitDefEqProofs [lb39_0, hlt, hx, w1, z1, z2]
  refine aD (a ((hs.skip hq2).skip (by rw [aY, if_neg (by omega)]; exact hfr (k + 1 + 2) (by omega))) ht2 he ht1 (fun n2 hn2 => ?_))
  have e1 : em aT l ++ [[I (ptI (bB P T) args i N)]] = em aT (l ++ [ptI (bB P T) args i N]) := fW
  simp -implicitDefEqProofs [b1, z1, z2, w1, e1]
  exact aK (i + 1, v + 1, l ++ [ptI (bB P T) args i N]) ⟨by omega, hlt, hnext⟩ (by simp only; omega) (by simp) (aN (by simp) (by rw [aY, if_neg (by omega)]; exact hfr (k + 1 + 2) (by omega)))
 ·have hil : i = args.length := by omega
  subst hil
  rw [List.take_of_length_le (by omega)] at hl
  subst hl
  simp -implicitDefEqProofs [lb39_0]
  have hpi : ∀ k, k < args.length → (ptL (bB P T) args N)[k]?.getD 0 = ptI (bB P T) args k N ∧ Pin (aL P op n ty k t) (ptI (bB P T) args k N) := fun k hk => by
   have hy := List.getElem?_eq_getElem hk
   obtain ⟨ht1, ht2⟩ := hjn k hk
   exact ⟨by rw [mO args k _ hy, eS args k _ hy]; rfl, pts.i k hk ht2 he ht1⟩
  refine nN (j := 10) (d' := .sl (em aT (ptL (bB P T) args N))) [(q, .arr v 1 (em aT (ptL (bB P T) args N)))] mem rfl (by simp [frz, look]) (fun i b hb => ?_) (fun i b hb => ?_) (fun i => ?_) ?_
  ·rw [aY] at hb ⊢
   split at hb
   ·rename_i e; rw [if_pos e]; exact hb
   ·simp [look] at hb
  ·rw [aY, if_neg (by rintro rfl; rw [hq2] at hb; simp at hb)]; exact hb
  ·by_cases e : q = i
   ·subst e; exact .inr hq2
   ·left; rw [aY, if_neg e]; rfl
  ·simp -implicitDefEqProofs [upd]
   refine aD (join_c op n tl ty z args p (ptL (bB P T) args N) hs (by omega) (fun c18 => ?_) (fun c7 => ?_) (fun n' hn' => ?_))
   ·have hl2 : args.length = 2 := by omega
    obtain ⟨h1, h2⟩ := hpi 0 (by omega)
    obtain ⟨h3, h4⟩ := hpi 1 (by omega)
    subst c18
    have w0 : aL P 18 n ty 0 t = 1 := by simp [aL]
    have w1 : aL P 18 n ty 1 t = 3 := by simp [aL]
    rw [w0] at h2
    rw [w1] at h4
    rw [h1, h3]
    exact ⟨by omega, h2, h4⟩
   ·have hb := hbad c7
    have hbb := hb
    unfold cK at hbb
    have hlen : (hdF P n).params.length = args.length := by omega
    refine ⟨by rw [hplen]; exact hb, sD _ _ (by rw [hplen, List.length_map, hlen]) fun k u hu => ?_⟩
    obtain ⟨x, hx, rfl⟩ := rD hu
    have hk : k < args.length := by rw [← hlen]; exact (List.getElem?_eq_some_iff.1 hx).1
    obtain ⟨h1, h2⟩ := hpi k hk
    subst c7
    have w : aL P 7 n ty k t = x.type := by simp [aL, hx]
    rw [w] at h2
    rw [h1]; exact h2
   ·simp -implicitDefEqProofs
    exact ⟨_, aE _, hk _ (by omega)⟩
mutual
theorem CW : ∀ e : Ex, PtC e
 | .mk op n tl ty z args p => EG op n tl ty z args p (z8 args)
theorem z8 : ∀ l : List Ex, ∀ x ∈ l, PtC x
 | [], x, h => by simp at h
 | y :: ys, x, h => by
  rcases List.mem_cons.1 h with e | h
  ·rw [e]; exact CW y
  ·exact z8 ys x h
end
def nmF (ps : List Pm) (tu : List Int) : Nls := ((ps.map Pm.name).zip tu).reverse
theorem EnvR.pre : ∀ (ps : List Pm) (tu : List Int), inT (ps.map Pm.type) tu = true → EnvR ps (nmF ps tu) := by
 have key : ∀ (ps : List Pm) (tu : List Int) (env : List Pm) (N : Nls), inT (ps.map Pm.type) tu = true → EnvR env N → EnvR (env ++ ps) (nmF ps tu ++ N) := by
  intro ps
  induction ps with
  | nil => intro tu env N _ h; simpa [nmF] using h
  | cons x ps ih =>
   intro tu env N hin h
   cases tu with
   | nil => simp [inT] at hin
   | cons p tu =>
    rw [List.map_cons, dL] at hin
    simp only [Bool.and_eq_true, decide_eq_true_eq] at hin
    have h2 := ih tu (env ++ [x]) ((x.name, p) :: N) hin.2 (EnvR.snoc h hin.1)
    have e1 : env ++ [x] ++ ps = env ++ x :: ps := by simp
    have e2 : nmF ps tu ++ (x.name, p) :: N = nmF (x :: ps) (p :: tu) ++ N := by simp [nmF]
    rw [e1, e2] at h2
    exact h2
 intro ps tu h
 have := key ps tu [] [] h EnvR.nil
 simpa using this
theorem KQ (ps : List Pm) (tu : List Int) (i : Nat) (h : i < ps.length) (h2 : i < tu.length) : (((ps.map Pm.name).zip tu).take (i + 1)).reverse = (ps[i].name, tu[i]) :: (((ps.map Pm.name).zip tu).take i).reverse := by
 have hz : i < ((ps.map Pm.name).zip tu).length := by simp; omega
 rw [List.take_add_one, List.getElem?_eq_getElem hz]
 simp
theorem FN {mem : Mem} {nx hid : Nat} {P : List Fn} {T : List Tt} {K : KD} (i : Int) (f : Fn) (tu : List Int) (hs : Sg mem P hid T) (hP : PT P) (h0 : 0 ≤ i) (hlt : i.toNat < P.length) (hf : P[i.toNat] = f) (hsh : Sh f.body) (hw : bP P f.params f.body f.type = []) (hz : size f.body ≤ 2 ^ 39) (hpl : f.params.length < 2 ^ 40) (hin : inT (f.params.map Pm.type) tu = true)
  (hk : ∀ n', nx ≤ n' → K (I (ptF (bB P T) f.body (nmF f.params tu))) mem n') :
  bI Tryz.prog 50 [sgD P hid T, I i, .sl (em aT tu)] mem nx K := by
 have hti : i < (P.length : Int) := by omega
 have hln : tu.length = f.params.length := by simpa using lK hin
 have ht : aJ f.type := (hP f (hf ▸ List.getElem_mem hlt)).1
 refine fi50.ct (by simp) fun hfr => ?_
 simp -implicitDefEqProofs [ac50, h0, hti, hlt, hf]
 refine lpG cf50 lb50_0 [7, 8, 9, 20] (α := Nat × Nls) (fun s _ => [(7, dG s.2), (20, I s.1)]) (fun s _ => mem) (fun s k => nx ≤ k ∧ s.1 ≤ tu.length ∧ s.2 = (((f.params.map Pm.name).zip tu).take s.1).reverse) (fun s => tu.length - s.1) (0, []) ⟨by omega, by simp, by simp⟩ (by simp [dG]) (aI _) ?_
 rintro ⟨j, N⟩ k ⟨hk1, hj, hN⟩
 simp only at hj hN hk1
 by_cases hjl : j < tu.length
 ·have w1 := aR (x := (j : Int) + 1) (by omega) (by omega)
  have hjp : j < f.params.length := by omega
  have hjpi : (j : Int) < (f.params.length : Int) := by omega
  have hjli : (j : Int) < (tu.length : Int) := by omega
  have hnext := KQ f.params tu j hjp hjl
  rw [← hN] at hnext
  obtain ⟨x, hx⟩ : ∃ x, f.params[j] = x := ⟨_, rfl⟩
  obtain ⟨p, hp⟩ : ∃ x, tu[j] = x := ⟨_, rfl⟩
  rw [hx, hp] at hnext
  cases N with
  | nil =>
   simp -implicitDefEqProofs [lb50_0, hjp, hjpi, hjl, hjli, hx, hp, w1, dG]
   exact aK (j + 1, [(x.name, p)]) ⟨by omega, hjl, hnext.symm⟩ (by simp only; omega) (by simp [dG]) (aN (aI _) (hfr _ (by omega)))
  | cons y r =>
   simp -implicitDefEqProofs [lb50_0, hjp, hjpi, hjl, hjli, hx, hp, w1, dG]
   exact aK (j + 1, (x.name, p) :: y :: r) ⟨by omega, hjl, hnext.symm⟩ (by simp only; omega) (by simp [dG]) (aN (aI _) (hfr _ (by omega)))
 ·have hjt : j = f.params.length := by omega
  subst hjt
  have hN2 : N = nmF f.params tu := by rw [hN, List.take_of_length_le (by simp; omega)]; rfl
  subst hN2
  simp -implicitDefEqProofs [lb50_0, h0, hti, hlt, hf]
  have a := CW f.body
  refine aD (a hs hP hsh ht hw (EnvR.pre _ _ hin) hz (fun n1 hn1 => ?_))
  simp -implicitDefEqProofs
  exact ⟨_, aE _, hk _ (by omega)⟩
set_option maxHeartbeats 4000000
theorem N3 (t : List UInt8) (ht : t.length ≤ 32768) (hm : (dM t).2 < 0) {n : Nat} (hN : n ≤ 2 ^ 40) {L : List Fn} {q : Rd} (hp : eQ n [] (rd0 t 32768 32768 32768 32768) = some (L, q)) (hw : q.why = 0) (hlt : q.at' < (dM t).1.length) : vH t L 0 0 := by
 have hk := A8 (t := t) (lt := 32768) (lF := 32768) (lA := 32768) (lN := 32768) (by omega) hm (by decide)
 have hc := AT t ht hm hN hp
 rw [if_pos hw] at hc
 obtain ⟨g1, g2, k, g3, g4, g5⟩ := zH _ _ _ L q hp hw
 simp only [List.nil_append] at g3
 subst g3
 refine ⟨hc, fun _ => ⟨(dM t).1, 0, q.at', hk.ms, hk.len, ?_, hlt, g4, g5 rfl⟩, fun h => absurd rfl h⟩
 exact iF _ t 0 [] (by omega) (fun i j _ h => by simp at h) (fun i h => by simp at h) hm
theorem wt_u8 {n : Nat} {ds : List D} (h : Wt Tryz.prog n 5 ds) : ∃ b : UInt8, ds = cC b ∧ True := by
 cases n with
 | zero => exact h.elim
 | succ n =>
  simp only [Wt, Tryz.underlying5] at h
  obtain ⟨z, rfl, hz⟩ := h
  simp [Lit.wf, IntKind.min, IntKind.max, IntKind.signed, IntKind.bits] at hz
  refine ⟨UInt8.ofNat z.toNat, ?_, trivial⟩
  unfold cC
  have : (((UInt8.ofNat z.toNat).toNat : Nat) : Int) = z := by
   rw [UInt8.toNat_ofNat']
   omega
  rw [this]
theorem KC {n : Nat} {ds : List D} (h : Wt Tryz.prog n 22 ds) : ∃ l : List UInt8, ds = [.sl (em cC l)] ∧ l.length < 2 ^ 48 := by
 cases n with
 | zero => exact h.elim
 | succ n =>
  simp only [Wt, Tryz.underlying22] at h
  obtain ⟨es, rfl, hl, he⟩ := h
  obtain ⟨l, rfl, _⟩ := xP (enc := cC) (p := fun _ => True) fun c hc => wt_u8 (he c hc)
  refine ⟨l, rfl, ?_⟩
  have hb : Tryz.prog.bytesOf 5 = 1 := by kernel_rfl
  rw [hb, BD] at hl
  unfold reachBytes at hl
  omega
theorem HP {x : D} (h : Arg Tryz.prog 22 x) : ∃ l : List UInt8, x = .sl (em cC l) ∧ l.length < 2 ^ 48 := by
 obtain ⟨n, ds, h, k⟩ := h
 simp only [Tryz.underlying22] at k
 obtain ⟨l, rfl, h1⟩ := KC h
 simp only [List.cons.injEq, and_true] at k
 exact ⟨l, k.symm, h1⟩
theorem A_ (P : List Fn) : ∀ (l : List Fn) (s : Ft), (tcF P l s).1 = 0 ↔ s.1 = 0 ∧ ∀ f ∈ l, bP P f.params f.body f.type = []
 | [], s => by simp [tcF]
 | f :: fs, s => by
  unfold tcF
  rw [A_ P fs]
  have hk : ∀ (l : List Int) (s : Ft), (l.foldl dZ s).1 = 0 ↔ s.1 = 0 ∧ l = [] := by
   intro l
   induction l with
   | nil => intro s; simp
   | cons x xs ih =>
    intro s
    rw [List.foldl_cons, ih]
    have : (dZ s x).1 ≠ 0 := by
     unfold dZ cI
     split
     ·show (34 : Int) ≠ 0
      decide
     ·omega
    simp [this]
  rw [hk]
  simp only [List.mem_cons, forall_eq_or_imp]
  exact ⟨fun ⟨⟨a, b⟩, c⟩ => ⟨a, b, c⟩, fun ⟨a, b, c⟩ => ⟨⟨a, b⟩, c⟩⟩
section
variable {P : List Fn} {env : List Pm} {x y z : Ex}
end
set_option maxRecDepth 1000000
set_option maxHeartbeats 0
noncomputable def cf35 : Cfg := ⟨Tryz.prog, 86, [0, 1, 2, 4, 5, 6, 7, 8, 9, 10, 11, 30, 31, 32, 68, 69, 70], []⟩
noncomputable def lb35_0 : AC :=
 .seq (.ifr [JO 71 (.bin .lss 3 (.g 70) (.g 69))] (.t 71) .skip (.exit 2)) (.seq (.block 3 (.seq (.reg [JA 72 70, JO 73 (.ia 3 (.g 68) (.g 70)), JE 74 3 73, JP 11 (.al [JU, JV, JV]), JB 10 72, JQ (.st 3 (.g 11) (.t 74))]) (.ifr [JG 75 0 9, JD 76 1 75, JA 77 10, JL 78 1 76 77, JD 79 1 78, JG 80 1 11, JD 81 1 80, JO 82 (.bin .neq 25 (.t 79) (.t 81))] (.t 82) (.seq (.reg [JP 4 (.mv (.c (.pointer none))), JI 5 3]) .ret) .skip))) (.reg [JO 83 (.bin .add 3 (.g 70) (JT 1)), JB 70 83]))
noncomputable def lb35_1 : AC :=
 .seq (.ifr [JO 33 (.bin .lss 3 (.g 32) (.g 31))] (.t 33) .skip (.exit 0)) (.seq (.block 1 (.seq (.reg [JA 34 32, JO 35 (.ia 11 (.g 30) (.g 32)), JE 36 11 35, JP 8 (.al [JU, JW, JV, JV, JU, JU, JV, .complex .f64 0 0, JW, JV, JV]), JB 7 34, JQ (.st 11 (.g 8) (.t 36))]) (.seq (.reg [JA 37 6, JM 38 37, JH 39 1 38, JD 40 1 39, JG 41 0 8, JD 42 1 41, JA 43 7, JQ (.mup none (.t 40) (.t 42) (.t 43))]) (.seq (.reg [JA 44 1, JA 45 7, JL 46 4 44 45, JE 47 4 46, JP 9 (.al [JW, JV, JV, JW]), JQ (.st 4 (.g 9) (.t 47))]) (.seq (.ifr [JF 48 4 9, JO 49 (.pc (.f 66) [.t 48]), JO 50 (.bin .neq 52 (.t 49) (JT 0)), JC 51 50, JR 52 51 (.fa 1 (.g 9)), JR 53 51 (.ld false 1 (.t 52)), JR 54 51 (.fa 2 (.g 8)), JR 55 51 (.ld false 1 (.t 54)), JR 56 51 (.bin .neq 25 (.t 53) (.t 55)), JO 57 (.pick (.t 51) JX (.t 56)), JC 58 57, JR 59 58 (.fa 0 (.g 9)), JR 60 58 (.ld false 1 (.t 59)), JR 61 58 (.len false (.t 60)), JR 62 58 (.fa 1 (.g 8)), JR 63 58 (.ld false 1 (.t 62)), JR 64 58 (.len false (.t 63)), JR 65 58 (.bin .neq 3 (.t 61) (.t 64)), JO 66 (.pick (.t 58) JX (.t 65))] (.t 66) (.seq (.reg [JP 4 (.mv (.c (.pointer none))), JI 5 3]) .ret) .skip) (.seq (.reg [JG 67 1 8, JP 68 (.ld false 1 (.t 67)), JP 69 (.len false (.g 68)), JI 70 0]) (.block 2 (.loop lb35_0)))))))) (.reg [JO 84 (.bin .add 3 (.g 32) (JT 1)), JB 32 84]))
noncomputable def ac35 : AC :=
 (.seq (.reg [JN 2 0, JP 4 (.mv (.c (.pointer none))), JI 5 0]) (.seq (.ifr [JF 12 1 2, JO 13 (.pc (.f 65) [.t 12]), JO 14 (.fld false 1 0 (.t 13)), JO 15 (.bin .neq 52 (.t 14) (JT 0)), JC 16 15, JR 17 16 (.mv (.g 1)), JR 18 16 (.len false (.t 17)), JR 19 16 (.fa 0 (.g 2)), JR 20 16 (.ld false 1 (.t 19)), JR 21 16 (.len false (.t 20)), JR 22 16 (.bin .neq 3 (.t 18) (.t 21)), JO 23 (.pick (.t 16) JX (.t 22))] (.t 23) (.seq (.reg [JP 4 (.mv (.c (.pointer none))), JI 5 3]) .ret) .skip) (.seq (.reg [JF 24 1 2, .mk (.t 25) none .mkm, JA 26 1, JO 27 (.bld [JW, .map none, JW] [(0, 1, .t 24), (1, 1, .t 25), (2, 1, .t 26)]), JO 28 (.bxi (.t 27)), JB 6 28]) (.seq (.seq (.reg [JG 29 0 2, JP 30 (.ld false 1 (.t 29)), JP 31 (.len false (.g 30)), JI 32 0]) (.block 0 (.loop lb35_1))) (.seq (.reg [JA 85 6, JB 4 85, JI 5 0]) .ret)))))
theorem fi35 : FI Tryz.prog 35 cf35 ac35 [.t 4, .t 5] [0, 1, 2, 4, 5, 6, 7, 8, 9, 10, 11, 30, 31, 32, 68, 69, 70] 86 := FI_of (c := Tryz.f35.body.getD .skip) Tryz.func35 (by kernel_rfl) (by rfl) (by rfl) (by kernel_rfl) (by kernel_rfl) rfl rfl rfl
@[simp] theorem cfP35 : cf35.P = Tryz.prog := (rfl)
noncomputable def cf11 : Cfg := ⟨Tryz.prog, 74, [0, 1, 2, 3, 4, 7, 8, 9, 10, 11, 12, 13, 15, 17, 18, 28, 29, 30], [22, 54, 73]⟩
@[simp] theorem cfP11 : cf11.P = Tryz.prog := (rfl)
noncomputable def cf19 : Cfg := ⟨Tryz.prog, 60, [0, 1, 2, 3, 4, 8, 9, 10, 11, 13, 14], [18, 59]⟩
noncomputable def ac19 : AC :=
 (.seq (.reg [JN 4 0, JI 8 0, JI 9 0]) (.seq (.reg [JF 16 1 4, JA 17 1, JO 18 (.cl (.f 35) [.t 16, .t 17]), JC 15 18, JK 19 0 15, JK 20 1 15, JB 10 19, JB 11 20]) (.seq (.ifr [JA 21 11, JO 22 (.bin .neq 52 (.t 21) (JT 0))] (.t 22) (.seq (.reg [JA 23 11, JI 8 0, JB 9 23]) .ret) .skip) (.seq (.ifr [JA 24 2, JO 25 (.bin .lss 3 (.t 24) (JT 0)), JC 26 25, JR 27 26 (.mv (.g 2)), JR 28 26 (.fa 0 (.g 4)), JR 29 26 (.ld false 1 (.t 28)), JR 30 26 (.len false (.t 29)), JR 31 26 (.bin .geq 3 (.t 27) (.t 30)), JO 32 (.pick (.t 26) JX (.t 31))] (.t 32) (.seq (.reg [JI 8 0, JI 9 2]) .ret) .skip) (.seq (.seq (.reg [JA 34 1, JA 35 2, JL 36 4 34 35, JH 37 0 36, JD 38 1 37, JA 39 3, JO 40 (.pc (.f 49) [.t 38, .t 39]), JC 33 40, JK 41 0 33, JK 42 1 33, JC 12 41, JB 13 42]) (.ifr [JA 43 13, JO 44 (.bin .neq 52 (.t 43) (JT 0))] (.t 44) (.seq (.reg [JA 45 13, JI 8 0, JB 9 45]) .ret) .skip)) (.seq (.seq (.reg [JG 46 0 4, JD 47 1 46, JA 48 2, JL 49 11 47 48, JH 50 3 49, JE 51 7 50, JO 52 (.pc (.f 38) [.t 51]), JB 14 52]) (.ifr [JA 53 14, JO 54 (.bin .neq 52 (.t 53) (JT 0))] (.t 54) (.seq (.reg [JA 55 14, JI 8 0, JB 9 55]) .ret) .skip)) (.seq (.reg [JA 56 10, JA 57 2, JA 58 3, JO 59 (.cl (.f 50) [.t 56, .t 57, .t 58]), JB 8 59, JI 9 0]) .ret)))))))
theorem fi19 : FI Tryz.prog 19 cf19 ac19 [.t 8, .t 9] [0, 1, 2, 3, 4, 8, 9, 10, 11, 13, 14] 60 := FI_of (c := Tryz.f19.body.getD .skip) Tryz.func19 (by kernel_rfl) (by rfl) (by rfl) (by kernel_rfl) (by kernel_rfl) rfl rfl rfl
@[simp] theorem cfP19 : cf19.P = Tryz.prog := (rfl)
noncomputable def cf21 : Cfg := ⟨Tryz.prog, 88, [0, 1, 2, 3, 6, 7, 8, 9, 10, 11, 13, 14, 63, 64], [19, 81, 1000000]⟩
noncomputable def lb21_0 : AC :=
 .seq (.ifr [JO 65 (.bin .lss 3 (.g 64) (.g 63))] (.t 65) .skip (.exit 0)) (.seq (.block 1 (.seq (.reg [JA 66 64, JB 13 66]) (.seq (.reg [JG 68 0 11, JD 69 1 68, JA 70 13, JO 71 (.pc (.f 54) [.t 69, .t 70]), JC 67 71, JK 72 0 67, JK 73 1 67, JB 14 72, JC 15 73]) (.reg [JG 75 2 11, JE 76 2 75, JA 77 13, JA 78 8, JA 79 2, JA 80 14, JO 81 (.cln (.f 50) [.t 78, .t 79, .t 80]), JO 82 (.pc (.f 55) [.t 76, .t 77, .t 81]), JC 74 82, JK 83 0 74, JK 84 1 74, JG 85 2 11, JQ (.st 2 (.t 85) (.t 83))])))) (.reg [JO 86 (.bin .add 3 (.g 64) (JT 1)), JB 64 86]))
noncomputable def ac21 : AC :=
 (.seq (.reg [JN 3 0, JP 6 (.al [JW, JV, JV, JW]), JI 7 0]) (.seq (.reg [JF 17 1 3, JA 18 1, JO 19 (.cl (.f 35) [.t 17, .t 18]), JC 16 19, JK 20 0 16, JK 21 1 16, JB 8 20, JB 9 21]) (.seq (.ifr [JA 22 9, JO 23 (.bin .neq 52 (.t 22) (JT 0))] (.t 23) (.seq (.reg [JO 24 (.bld [JW, JV, JV, JW] []), JA 25 9, JQ (.st 4 (.g 6) (.t 24)), JB 7 25]) .ret) .skip) (.seq (.ifr [JA 26 2, JO 27 (.bin .lss 3 (.t 26) (JT 0)), JC 28 27, JR 29 28 (.mv (.g 2)), JR 30 28 (.fa 0 (.g 3)), JR 31 28 (.ld false 1 (.t 30)), JR 32 28 (.len false (.t 31)), JR 33 28 (.bin .geq 3 (.t 29) (.t 32)), JO 34 (.pick (.t 28) JX (.t 33))] (.t 34) (.seq (.reg [JO 35 (.bld [JW, JV, JV, JW] []), JQ (.st 4 (.g 6) (.t 35)), JI 7 2]) .ret) .skip) (.seq (.seq (.reg [JG 36 0 3, JD 37 1 36, JA 38 2, JL 39 11 37 38, JH 40 3 39, JE 41 7 40, JO 42 (.pc (.f 38) [.t 41]), JB 10 42]) (.ifr [JA 43 10, JO 44 (.bin .neq 52 (.t 43) (JT 0))] (.t 44) (.seq (.reg [JO 45 (.bld [JW, JV, JV, JW] []), JA 46 10, JQ (.st 4 (.g 6) (.t 45)), JB 7 46]) .ret) .skip)) (.seq (.reg [JA 48 1, JA 49 2, JL 50 4 48 49, JH 51 0 50, JD 52 1 51, JA 53 1, JA 54 2, JL 55 4 53 54, JH 56 1 55, JD 57 1 56, JO 58 (.pc (.f 53) [.t 52, .t 57]), JC 47 58, JK 59 0 47, JK 60 1 47, JP 11 (.al [JW, JV, JV, JW]), JQ (.st 4 (.g 11) (.t 59)), JC 12 60]) (.seq (.seq (.reg [JG 61 2 11, JH 62 0 61, JP 63 (.ld false 1 (.t 62)), JI 64 0]) (.block 0 (.loop lb21_0))) (.seq (.reg [JF 87 4 11, JQ (.st 4 (.g 6) (.t 87)), JI 7 0]) .ret))))))))
theorem fi21 : FI Tryz.prog 21 cf21 ac21 [.c 6 true 4, .t 7] [0, 1, 2, 3, 6, 7, 8, 9, 10, 11, 13, 14, 63, 64] 88 := FI_of (c := Tryz.f21.body.getD .skip) Tryz.func21 (by kernel_rfl) (by rfl) (by rfl) (by kernel_rfl) (by kernel_rfl) rfl rfl rfl
@[simp] theorem cfP21 : cf21.P = Tryz.prog := (rfl)
set_option maxRecDepth 100000
set_option maxHeartbeats 8000000
theorem yX {P : List Fn} : ∀ (l : List Fn) (k : Nat), fX P l k = [] → ∀ i, (h : i < l.length) → ¬ aP P 0 l[i].name < ((k + i : Nat) : Int)
 | [], k, _, i, h => by simp at h
 | f :: fs, k, hn, i, h => by
  unfold fX at hn
  rw [List.append_eq_nil_iff] at hn
  cases i with
  | zero =>
   intro g
   have h1 := hn.1
   rw [if_pos (by simpa using g)] at h1
   simp at h1
  | succ i =>
   have := yX fs (k + 1) hn.2 i (by simpa using h)
   rw [show k + (i + 1) = k + 1 + i by omega]
   simpa using this
theorem BB : ∀ (P : List Fn) (k : Nat) (i : Nat) (h : i < P.length), 0 ≤ aP P k P[i].name ∧ aP P k P[i].name ≤ ((k + i : Nat) : Int)
 | [], k, i, h => by simp at h
 | f :: fs, k, i, h => by
  unfold aP
  split
  ·omega
  ·cases i with
   | zero => rename_i g; exact absurd rfl g
   | succ i =>
    have := BB fs (k + 1) i (by simpa using h)
    rw [show k + (i + 1) = k + 1 + i by omega]
    simpa using this
theorem vJ : ∀ (P : List Fn) (k : Nat) (n : List UInt8) (i : Nat), aP P k n = ((k + i : Nat) : Int) → ∃ h : i < P.length, P[i].name = n
 | [], k, n, i, h => by unfold aP at h; omega
 | f :: fs, k, n, i, h => by
  unfold aP at h
  split at h
  ·rename_i g
   have : i = 0 := by omega
   subst this
   exact ⟨by simp, g⟩
  ·cases i with
   | zero =>
    have := d8 fs (k + 1) n
    omega
   | succ i =>
    obtain ⟨h1, h2⟩ := vJ fs (k + 1) n i (by rw [h]; congr 1; omega)
    exact ⟨by simpa using h1, by simpa using h2⟩
theorem ET {P : List Fn} (h : c8 P) (h0 : (ckF P).1 = 0) : ∀ i, (hi : i < P.length) → aP P 0 P[i].name = i := by
 obtain ⟨ms, a, b, _, hl, hr, hb, hF, _⟩ := h
 unfold ckF at h0
 rw [vV hr P a b 0 _ hF hb] at h0
 have h1 := vY h0 (fun x hx => (List.mem_append.1 hx).elim (fun hx => (q9 P a b 0 hF hb x hx).1) (tG P a b hF x))
 rw [List.append_eq_nil_iff] at h1
 intro i hi
 have h2 := yX P 0 h1.1 i hi
 have h3 := BB P 0 i hi
 rw [Nat.zero_add] at h2 h3
 omega
theorem wP {P : List Fn} (h0 : (gN P).1 = 0) : (ckF P).1 = 0 ∧ ∀ f ∈ P, bP P f.params f.body f.type = [] := by
 unfold gN at h0
 split at h0
 ·rename_i g; exact absurd h0 g
 ·exact (A_ P P _).1 h0
def jQ (f : Fn) (x : Tt) : Prop := fZ x.ps x.t x.n x.l ∧ x.t = f.type ∧ x.ps = f.params.map Pm.type
def SeeOk (P : List Fn) (T : List Tt) : Prop := (gN P).1 = 0 ∧ T.length = P.length ∧ ∀ i, i < P.length → jQ (P[i]?.getD default) (T[i]?.getD default)
def TW (T : List Tt) : Prop := ∀ x ∈ T, dV x.l ∧ x.ps.length < 2 ^ 44
theorem SeeOk.tabs {P : List Fn} {T : List Tt} (h : SeeOk P T) (hw : TW T) : jU P T := by
 obtain ⟨h1, h2, h3⟩ := h
 refine ⟨h2, fun x hx => ?_, fun i hi => ?_⟩
 ·obtain ⟨i, hi, rfl⟩ := List.mem_iff_getElem.1 hx
  have := h3 i (by omega)
  rw [List.getElem?_eq_getElem hi] at this
  exact ⟨this.1, hw _ hx⟩
 ·have := h3 i hi
  rw [List.getElem?_eq_getElem hi] at this
  exact ⟨this.2.2, this.2.1⟩
theorem imm_Tt (l : List Tt) : D.immss (em cF l) = true := iD fun f => by simp [cF]
attribute [simp] imm_Tt
theorem see_c {mem : Mem} {nx : Nat} {P : List Fn} {T : List Tt} {K : KD} (hk : c8 P) (hT : T.length < 2 ^ 44) (hw : TW T)
  (hno : ¬ SeeOk P T → ∀ n', nx ≤ n' → K (.tup [.pl (.pointer none), I 3]) mem n')
  (hyes : SeeOk P T → ∀ hid m n', nx ≤ hid → hid < n' → Sg ((hid, .map (bS m)) :: mem) P hid T → K (.tup [sgD P hid T, I 0]) ((hid, .map (bS m)) :: mem) n') :
  bI Tryz.prog 35 [.agg [.sl (em aZ P)], .sl (em cF T)] mem nx K := by
 obtain ⟨hPT, hPl, hsz⟩ := gO hk
 have htc := M7 (CA hk).1 hPl hsz
 refine fi35.ct (by simp) fun hfr => ?_
 simp -implicitDefEqProofs [ac35]
 refine aG htc (by simp) ?_
 by_cases h0 : (gN P).1 = 0
 ·by_cases hl : T.length = P.length
  ·have hli : (T.length : Int) = (P.length : Int) := by omega
   obtain ⟨hc0, hwl⟩ := wP h0
   have hhd := ET hk hc0
   simp -implicitDefEqProofs [h0, hli]
   obtain ⟨hid, hq⟩ : ∃ q, nx + 3 + 12 + 1 = q := ⟨_, rfl⟩
   have hq0 : look mem hid = none := hfr hid (by omega)
   rw [hq]
   refine lpG cf35 lb35_1 [4, 5, 7, 8, 9, 10, 11, 32, 68, 69, 70] (α := Nat × Sm) (fun s _ => [(32, I s.1)]) (fun s _ => (hid, .map (bS s.2)) :: mem) (fun s k => hid < k ∧ s.1 ≤ P.length ∧ (∀ j, j < s.1 → jQ (P[j]?.getD default) (T[j]?.getD default)) ∧ ∀ n (j : Nat), aP P 0 n = j → j < s.1 → dD s.2 n = j) (fun s => P.length - s.1) (0, []) ⟨by omega, by omega, fun j h => absurd h (by omega), fun n j _ h => absurd h (by omega)⟩ (by simp) (aI _) ?_
   rintro ⟨i, m⟩ k ⟨hk1, hi, hfit, hget⟩
   simp only at hi hfit hget hk1
   by_cases hlt : i < P.length
   ·have hlti : (i : Int) < (P.length : Int) := by omega
    have w1 := aR (x := (i : Int) + 1) (by omega) (by omega)
    have hT2 : i < T.length := by omega
    have hT2i : (i : Int) < (T.length : Int) := by omega
    obtain ⟨f, hf⟩ : ∃ x, P[i] = x := ⟨_, rfl⟩
    obtain ⟨x, hx⟩ : ∃ x, T[i] = x := ⟨_, rfl⟩
    have hfm : f ∈ P := by rw [← hf]; exact List.getElem_mem hlt
    have hxm : x ∈ T := by rw [← hx]; exact List.getElem_mem hT2
    have hfd : P[i]?.getD default = f := by rw [List.getElem?_eq_getElem hlt, hf]; rfl
    have hxd : T[i]?.getD default = x := by rw [List.getElem?_eq_getElem hT2, hx]; rfl
    obtain ⟨hxw, hxp⟩ := hw x hxm
    have hhi := hhd i hlt
    rw [hf] at hhi
    have z1 : (k + 1 + 3 = hid) = False := eq_false (by omega)
    have z2 : (hid = k + 1 + 3) = False := eq_false (by omega)
    simp -implicitDefEqProofs [lb35_1, hlt, hlti, hf, hx, hT2, hT2i, z1, z2, k_]
    have hv1 : k + 1 + 3 < k + 1 + 6 + 8 + 4 := by omega
    have hv2 : k + 1 + 6 + 8 + 4 < k + 1 + 6 + 8 + 6 + 19 := by omega
    have hv3 : hid < k + 1 + 3 := by omega
    refine aG (F6 x.ps x.t x.n x.l hxw hxp) (by simp) ?_
    obtain ⟨b1, hb1⟩ : ∃ q, k + 1 + 3 = q := ⟨_, rfl⟩
    obtain ⟨b2, hb2⟩ : ∃ q, k + 1 + 6 + 8 + 4 = q := ⟨_, rfl⟩
    rw [hb1] at hv1 hv3
    rw [hb2] at hv1 hv2
    rw [hb1, hb2]
    have hm1 : look mem b1 = none := hfr b1 (by omega)
    have hm2 : look mem b2 = none := hfr b2 (by omega)
    have e1 : (b1 = b2) = False := eq_false (by omega)
    have e2 : (b2 = b1) = False := eq_false (by omega)
    by_cases ht0 : fZ x.ps x.t x.n x.l
    ·have ht1 : pU x.ps x.t x.n x.l = 0 := if_pos ht0
     by_cases hty : x.t = f.type
     ·rw [hty] at ht1
      by_cases hpl : x.ps.length = f.params.length
      ·have hpli : (x.ps.length : Int) = (f.params.length : Int) := by omega
       simp -implicitDefEqProofs [ht1, hb1, hb2, e1, e2, hty, hpli]
       obtain ⟨nk, hnk⟩ : ∃ q, k + 1 + 6 + 8 + 6 + 19 = q := ⟨_, rfl⟩
       refine lpG cf35 lb35_0 [4, 5, 10, 11, 70] (α := Nat) (fun s _ => [(70, I s)]) (fun s _ => (b2, .box [.sl (em aT x.ps), I f.type, I x.n, .sl (em fG x.l)]) :: (b1, .box [Tx f.name, .sl (em cD f.params), I f.type, I f.body.op, Tx f.body.name, Tx f.body.tail, I f.body.type, CX f.body.num.re f.body.num.im, .sl (em aU f.body.args), I f.body.at', I f.at']) :: (hid, .map (bS (fO m f.name i))) :: mem) (fun s k => b2 < k ∧ s ≤ f.params.length ∧ ∀ j (h1 : j < x.ps.length) (h2 : j < f.params.length), j < s → x.ps[j] = (f.params[j]).type) (fun s => f.params.length - s) 0 ⟨by omega, by omega, fun j _ _ h => absurd h (by omega)⟩ (by simp) (aI _) ?_
       rintro c k2 ⟨hk2, hc, heq⟩
       by_cases hcl : c < f.params.length
       ·have hcli : (c : Int) < (f.params.length : Int) := by omega
        have hcx : c < x.ps.length := by omega
        have hcxi : (c : Int) < (x.ps.length : Int) := by omega
        have w2 := aR (x := (c : Int) + 1) (by omega) (by have := (hsz f hfm).2.1; omega)
        obtain ⟨y, hy⟩ : ∃ y, f.params[c] = y := ⟨_, rfl⟩
        obtain ⟨t, ht⟩ : ∃ y, x.ps[c] = y := ⟨_, rfl⟩
        have z3 : (k2 + 1 + 3 = b2) = False := eq_false (by omega)
        have z4 : (b2 = k2 + 1 + 3) = False := eq_false (by omega)
        have z5 : (k2 + 1 + 3 = b1) = False := eq_false (by omega)
        have z6 : (b1 = k2 + 1 + 3) = False := eq_false (by omega)
        by_cases hyt : t = y.type
        ·simp -implicitDefEqProofs [lb35_0, hcl, hcli, hcx, hcxi, hy, ht, w2, z3, z4, z5, z6, e1, e2, hyt]
         refine aK (c + 1) ⟨by omega, hcl, fun j h1 h2 hj => ?_⟩ (by omega) (by simp) (aN (aI _) (by simp only [aY]; rw [if_neg (by omega), if_neg (by omega), if_neg (by omega)]; exact hfr _ (by omega)))
         by_cases e : j = c
         ·subst e; rw [hy, ht]; exact hyt
         ·exact heq j h1 h2 (by omega)
        ·have hn : ¬ SeeOk P T := fun h => by
          have h2 := h.2.2 i hlt
          rw [hfd, hxd] at h2
          refine hyt ?_
          rw [← ht, ← hy]
          have h3 : x.ps[c]? = (f.params.map Pm.type)[c]? := by rw [h2.2.2]
          rw [List.getElem?_eq_getElem hcx, List.getElem?_map, List.getElem?_eq_getElem hcl] at h3
          simpa using h3
         simp -implicitDefEqProofs [lb35_0, hcl, hcli, hcx, hcxi, hy, ht, w2, z3, z4, z5, z6, e1, e2, hyt]
         exact ⟨mem, aF (aF (aF (aF (aE _) hq0) hm1) hm2) (hfr _ (by omega)), hno hn _ (by omega)⟩
       ·have hcp : c = f.params.length := by omega
        subst hcp
        simp -implicitDefEqProofs [lb35_0, w1]
        refine aK (i + 1, fO m f.name i) ⟨by omega, hlt, fun j hj => ?_, fun n j hj hji => ?_⟩ (by simp only; omega) (by simp) (aN (aN (aI _) (by simp only [aY]; rw [if_neg (by omega)]; exact hm1)) (by simp only [aY]; rw [if_neg (by omega)]; exact hm2))
        ·by_cases e : j = i
         ·subst e
          rw [hfd, hxd]
          refine ⟨ht0, hty, List.ext_getElem (by simpa using hpl) fun j h1 h2 => ?_⟩
          rw [List.getElem_map]
          exact heq j h1 (by simpa using h2) (by simpa using h2)
         ·exact hfit j (by simp only at hj; omega)
        ·simp only at hji ⊢
         rw [lU]
         by_cases e : f.name = n
         ·rw [if_pos e]
          rw [e] at hhi
          omega
         ·rw [if_neg e]
          by_cases e2 : j = i
          ·subst e2
           obtain ⟨h1, h2⟩ := vJ P 0 n j (by rw [hj]; simp)
           exact absurd (by rw [← hf]; exact h2) e
          ·exact hget n j hj (by omega)
      ·have hpli : ¬ (x.ps.length : Int) = (f.params.length : Int) := by omega
       have hn : ¬ SeeOk P T := fun h => by
        have h2 := h.2.2 i hlt
        rw [hfd, hxd] at h2
        exact hpl (by rw [h2.2.2]; simp)
       simp -implicitDefEqProofs [ht1, hb1, hb2, e1, e2, hty, hpli]
       exact ⟨mem, aF (aF (aF (aE _) hq0) hm1) hm2, hno hn _ (by omega)⟩
     ·have hn : ¬ SeeOk P T := fun h => by
       have h2 := h.2.2 i hlt
       rw [hfd, hxd] at h2
       exact hty h2.2.1
      simp -implicitDefEqProofs [ht1, hb1, hb2, e1, e2, hty]
      exact ⟨mem, aF (aF (aF (aE _) hq0) hm1) hm2, hno hn _ (by omega)⟩
    ·have ht1 : pU x.ps x.t x.n x.l = 3 := if_neg ht0
     have hn : ¬ SeeOk P T := fun h => by
      have h2 := h.2.2 i hlt
      rw [hfd, hxd] at h2
      exact ht0 h2.1
     simp -implicitDefEqProofs [ht1, hb1, hb2]
     exact ⟨mem, aF (aF (aF (aE _) hq0) hm1) hm2, hno hn _ (by omega)⟩
   ·have hip : i = P.length := by omega
    subst hip
    simp -implicitDefEqProofs [lb35_1]
    have hok : SeeOk P T := ⟨h0, hl, hfit⟩
    exact ⟨_, aE _, hyes hok hid m _ (by omega) (by omega) ⟨⟨m, by rw [aY, if_pos rfl], fun n hn => by
     have hlt := d8 P 0 n
     obtain ⟨j, hj⟩ : ∃ j : Nat, aP P 0 n = j := ⟨(aP P 0 n).toNat, by omega⟩
     rw [hj]
     exact hget n j hj (by omega)⟩, hok.tabs hw⟩⟩
  ·have hli : ¬ (T.length : Int) = (P.length : Int) := by omega
   have hn : ¬ SeeOk P T := fun h => hl h.2.1
   simp -implicitDefEqProofs [h0, hli]
   exact ⟨_, aE _, hno hn _ (by omega)⟩
 ·have hn : ¬ SeeOk P T := fun h => h0 h.1
  simp -implicitDefEqProofs [h0]
  exact ⟨_, aE _, hno hn _ (by omega)⟩
set_option maxRecDepth 1000000
set_option maxHeartbeats 0
noncomputable def cf71 : Cfg := ⟨Tryz.prog, 27, [0, 1, 2, 3, 5, 7, 8, 9, 19, 20], []⟩
noncomputable def lb71_0 : AC :=
 .seq (.ifr [JO 10 (.bin .lss 3 (.g 9) (.g 8))] (.t 10) .skip (.exit 0)) (.seq (.block 1 (.seq (.reg [JO 11 (.ia 7 (.g 7) (.g 9)), JE 12 7 11, JP 5 (.al [JV, JU, JU, JV, .complex .f64 0 0, JW, JV]), JQ (.st 7 (.g 5) (.t 12))]) (.reg [JA 13 3, JF 14 7 5, JO 15 (.pc (.f 71) [.t 14]), JO 16 (.bi .max [.t 13, .t 15]), JB 3 16]))) (.reg [JO 17 (.bin .add 3 (.g 9) (JT 1)), JB 9 17]))
noncomputable def ac71 : AC :=
 (.seq (.reg [JN 1 0, JI 2 0]) (.seq (.reg [JI 3 0]) (.seq (.seq (.reg [JG 6 5 1, JP 7 (.ld false 1 (.t 6)), JP 8 (.len false (.g 7)), JI 9 0]) (.block 0 (.loop lb71_0))) (.seq (.seq (.reg [JG 18 0 1, JP 19 (.ld false 1 (.t 18))]) (.block 2 (.seq (.ifr [JO 21 (.bin .eql 40 (.g 19) (JT 21)), JB 20 21] (.g 20) .skip (.ifr [JO 22 (.bin .eql 40 (.g 19) (JT 22)), JB 20 22] (.g 20) .skip (.reg [JO 23 (.bin .eql 40 (.g 19) (JT 20)), JB 20 23]))) (.cond (.g 20) (.reg [JA 24 3, JO 25 (.bin .add 3 (.t 24) (JT 1)), JB 3 25]) .skip)))) (.seq (.reg [JA 26 3, JB 2 26]) .ret)))))
theorem fi71 : FI Tryz.prog 71 cf71 ac71 [.t 2] [0, 1, 2, 3, 5, 7, 8, 9, 19, 20] 27 := FI_of (c := Tryz.f71.body.getD .skip) Tryz.func71 (by kernel_rfl) (by rfl) (by rfl) (by kernel_rfl) (by kernel_rfl) rfl rfl rfl
@[simp] theorem cfP71 : cf71.P = Tryz.prog := (rfl)
noncomputable def cf14 : Cfg := ⟨Tryz.prog, 38, [0, 1, 2, 3, 4, 5], []⟩
noncomputable def lb14_0 : AC :=
 .seq (.ifr [JA 6 4, JG 7 5 1, JD 8 1 7, JO 9 (.len false (.t 8)), JO 10 (.bin .lss 3 (.t 6) (.t 9))] (.t 10) .skip (.exit 0)) (.seq (.block 1 (.seq (.reg [JG 13 5 1, JD 14 1 13, JA 15 4, JL 16 7 14 15, JE 17 7 16, JO 18 (.pc (.f 14) [.t 17]), JB 5 18]) (.reg [JA 19 3, JA 20 5, JO 21 (.bi .max [.t 19, .t 20]), JB 3 21]))) (.reg [JA 11 4, JO 12 (.bin .add 3 (.t 11) (JT 1)), JB 4 12]))
noncomputable def ac14 : AC :=
 (.seq (.reg [JN 1 0, JI 2 0]) (.seq (.reg [JI 3 0]) (.seq (.seq (.reg [JI 4 0]) (.block 0 (.loop lb14_0))) (.seq (.ifr [JG 22 0 1, JD 23 1 22, JO 24 (.bin .eql 40 (.t 23) (JT 21)), JC 25 24, JR 26 25 (.fa 0 (.g 1)), JR 27 25 (.ld false 1 (.t 26)), JR 28 25 (.bin .eql 40 (.t 27) (JT 22)), JO 29 (.pick (.t 25) JX (.t 28)), JC 30 29, JR 31 30 (.fa 0 (.g 1)), JR 32 30 (.ld false 1 (.t 31)), JR 33 30 (.bin .eql 40 (.t 32) (JT 20)), JO 34 (.pick (.t 30) JX (.t 33))] (.t 34) (.reg [JA 35 3, JO 36 (.bin .add 3 (.t 35) (JT 1)), JB 3 36]) .skip) (.seq (.reg [JA 37 3, JB 2 37]) .ret)))))
theorem fi14 : FI Tryz.prog 14 cf14 ac14 [.t 2] [0, 1, 2, 3, 4, 5] 38 := FI_of (c := Tryz.f14.body.getD .skip) Tryz.func14 (by kernel_rfl) (by rfl) (by rfl) (by kernel_rfl) (by kernel_rfl) rfl rfl rfl
@[simp] theorem cfP14 : cf14.P = Tryz.prog := (rfl)
noncomputable def cf38 : Cfg := ⟨Tryz.prog, 6, [0, 1, 2], []⟩
noncomputable def ac38 : AC :=
 (.seq (.reg [JN 1 0, JI 2 0]) (.seq (.ifr [JF 3 7 1, JO 4 (.pc (.f 71) [.t 3]), JO 5 (.bin .gtr 3 (.t 4) (JT 6))] (.t 5) (.seq (.reg [JI 2 23]) .ret) .skip) (.seq (.reg [JI 2 0]) .ret)))
theorem fi38 : FI Tryz.prog 38 cf38 ac38 [.t 2] [0, 1, 2] 6 := FI_of (c := Tryz.f38.body.getD .skip) Tryz.func38 (by kernel_rfl) (by rfl) (by rfl) (by kernel_rfl) (by kernel_rfl) rfl rfl rfl
@[simp] theorem cfP38 : cf38.P = Tryz.prog := (rfl)
end Go.Fx.YtlhdpfaohphbaaaGreat

/- Joined texts of this claim. No condition. -/
import Derived.Test.YtackkeoannbnbaaDoorBa2
set_option linter.all false
set_option maxRecDepth 1000000
set_option maxHeartbeats 0
namespace Go.Fx.YtackkeoannbnbaaDoor
open Go Go.Fx Go.Proofs
noncomputable def cf41 : Cfg := ⟨Tryd.prog, 13, [0, 2], []⟩
noncomputable def ac41 : AC :=
 (.seq (.reg [JP 2 (.al [JV, JU, .complex .f64 0 0, JV])]) (.seq (.reg [JA 3 0, JM 4 3, JH 5 0 4, JD 6 1 5, JA 7 0, JM 8 7, JH 9 1 8, JD 10 1 9, JL 11 4 6 10, JE 12 4 11, JQ (.st 4 (.g 2) (.t 12))]) .ret))
theorem fi41 : FI Tryd.prog 41 cf41 ac41 [.c 2 true 4] [0, 2] 13 := FI_of (c := Tryd.f41.body.getD .skip) Tryd.func41 (by kernel_rfl) (by rfl) (by rfl) (by kernel_rfl) (by kernel_rfl) rfl rfl rfl
@[simp] theorem cfP41 : cf41.P = Tryd.prog := (rfl)
noncomputable def cf56 : Cfg := ⟨Tryd.prog, 19, [0, 1], [15]⟩
noncomputable def ac56 : AC :=
 (.ifr [JA 4 0, JM 5 4, JH 6 2 5, JD 7 1 6, JO 8 (.bin .eql 3 (.t 7) (JT 0))] (.t 8) (.seq (.reg [JA 9 0, JA 10 1, JM 11 9, JH 12 2 11, JQ (.st 1 (.t 12) (.t 10))]) (.reg [JA 13 0, JA 14 0, JO 15 (.cl (.f 41) [.t 14]), JO 16 (.fld false 1 3 (.t 15)), JM 17 13, JH 18 3 17, JQ (.st 1 (.t 18) (.t 16))])) .skip)
theorem fi56 : FI Tryd.prog 56 cf56 ac56 [] [0, 1] 19 := FI_of (c := Tryd.f56.body.getD .skip) Tryd.func56 (by kernel_rfl) (by rfl) (by rfl) (by kernel_rfl) (by kernel_rfl) rfl rfl rfl
@[simp] theorem cfP56 : cf56.P = Tryd.prog := (rfl)
noncomputable def cf59 : Cfg := ⟨Tryd.prog, 29, [0, 1, 4, 5], [7]⟩
noncomputable def ac59 : AC :=
 (.seq (.reg [JP 4 (.mv JY)]) (.seq (.reg [JA 6 0, JO 7 (.cl (.f 41) [.t 6]), JP 5 (.al [JV, JU, .complex .f64 0 0, JV]), JQ (.st 4 (.g 5) (.t 7))]) (.seq (.reg [JA 8 0, JM 9 8, JH 10 2 9, JD 11 1 10, JO 12 (.bin .eql 3 (.t 11) (JT 0)), JC 13 12, JS 14 13 (.fa 0 (.g 5)), JS 15 13 (.ld false 1 (.t 14)), JS 16 13 (.bin .eql 85 (.t 15) (JT 1)), JS 17 13 (.mv (.t 16)), JR 18 17 (.fa 0 (.g 5)), JR 19 17 (.ld false 1 (.t 18)), JR 20 17 (.bin .eql 85 (.t 19) (JT 3)), JS 21 13 (.pick (.t 17) JX (.t 20)), JO 22 (.pick (.t 13) (.t 21) JY), JC 23 22, JS 24 23 (.fa 1 (.g 5)), JS 25 23 (.ld false 1 (.t 24)), JS 26 23 (.mv (.g 1)), JS 27 23 (.bin .eql 9 (.t 25) (.t 26)), JO 28 (.pick (.t 23) (.t 27) JY), JB 4 28]) .ret)))
theorem fi59 : FI Tryd.prog 59 cf59 ac59 [.t 4] [0, 1, 4, 5] 29 := FI_of (c := Tryd.f59.body.getD .skip) Tryd.func59 (by kernel_rfl) (by rfl) (by rfl) (by kernel_rfl) (by kernel_rfl) rfl rfl rfl
@[simp] theorem cfP59 : cf59.P = Tryd.prog := (rfl)
noncomputable def cf82 : Cfg := ⟨Tryd.prog, 16, [0, 1, 4], [7]⟩
noncomputable def ac82 : AC :=
 (.seq (.reg [JP 4 (.mv JY)]) (.seq (.ifr [JA 5 0, JA 6 1, JO 7 (.cl (.f 59) [.t 5, .t 6]), JO 8 (.un .not (.t 7))] (.t 8) (.seq (.reg [JP 4 (.mv JY)]) .ret) .skip) (.seq (.reg [JA 9 0, JM 10 9, JH 11 1 10, JD 12 1 11, JO 13 (.bin .add 3 (.t 12) (JT 1)), JM 14 9, JH 15 1 14, JQ (.st 1 (.t 15) (.t 13))]) (.seq (.reg [JP 4 (.mv JX)]) .ret))))
theorem fi82 : FI Tryd.prog 82 cf82 ac82 [.t 4] [0, 1, 4] 16 := FI_of (c := Tryd.f82.body.getD .skip) Tryd.func82 (by kernel_rfl) (by rfl) (by rfl) (by kernel_rfl) (by kernel_rfl) rfl rfl rfl
@[simp] theorem cfP82 : cf82.P = Tryd.prog := (rfl)
noncomputable def cf58 : Cfg := ⟨Tryd.prog, 10, [0, 1], [6, 9]⟩
noncomputable def ac58 : AC :=
 (.ifr [JA 4 0, JA 5 1, JO 6 (.cl (.f 82) [.t 4, .t 5]), JO 7 (.un .not (.t 6))] (.t 7) (.reg [JA 8 0, JO 9 (.cl (.f 56) [.t 8, .c (.int .i64 21)])]) .skip)
theorem fi58 : FI Tryd.prog 58 cf58 ac58 [] [0, 1] 10 := FI_of (c := Tryd.f58.body.getD .skip) Tryd.func58 (by kernel_rfl) (by rfl) (by rfl) (by kernel_rfl) (by kernel_rfl) rfl rfl rfl
@[simp] theorem cfP58 : cf58.P = Tryd.prog := (rfl)
noncomputable def cf57 : Cfg := ⟨Tryd.prog, 27, [0, 2, 3], [5, 17]⟩
noncomputable def ac57 : AC :=
 (.seq (.reg [JP 2 (.al [JV, JU, .complex .f64 0 0, JV])]) (.seq (.reg [JA 4 0, JO 5 (.cl (.f 41) [.t 4]), JP 3 (.al [JV, JU, .complex .f64 0 0, JV]), JQ (.st 4 (.g 3) (.t 5))]) (.seq (.ifr [JA 6 0, JM 7 6, JH 8 2 7, JD 9 1 8, JO 10 (.bin .neq 3 (.t 9) (JT 0)), JC 11 10, JR 12 11 (.fa 0 (.g 3)), JR 13 11 (.ld false 1 (.t 12)), JR 14 11 (.bin .neq 85 (.t 13) (JT 0)), JO 15 (.pick (.t 11) JX (.t 14))] (.t 15) (.seq (.reg [JA 16 0, JO 17 (.cl (.f 56) [.t 16, .c (.int .i64 21)])]) (.seq (.reg [JO 18 (.bld [JV, JU, .complex .f64 0 0, JV] []), JQ (.st 4 (.g 2) (.t 18))]) .ret)) .skip) (.seq (.reg [JA 19 0, JM 20 19, JH 21 1 20, JD 22 1 21, JO 23 (.bin .add 3 (.t 22) (JT 1)), JM 24 19, JH 25 1 24, JQ (.st 1 (.t 25) (.t 23))]) (.seq (.reg [JF 26 4 3, JQ (.st 4 (.g 2) (.t 26))]) .ret)))))
theorem fi57 : FI Tryd.prog 57 cf57 ac57 [.c 2 true 4] [0, 2, 3] 27 := FI_of (c := Tryd.f57.body.getD .skip) Tryd.func57 (by kernel_rfl) (by rfl) (by rfl) (by kernel_rfl) (by kernel_rfl) rfl rfl rfl
@[simp] theorem cfP57 : cf57.P = Tryd.prog := (rfl)
noncomputable def cf60 : Cfg := ⟨Tryd.prog, 22, [0, 2, 3, 4], [17, 21]⟩
noncomputable def lb60_0 : AC :=
 .seq (.ifr [JA 6 4, JA 7 3, JO 8 (.len false (.t 7)), JO 9 (.bin .lss 3 (.t 6) (.t 8))] (.t 9) .skip (.exit 0)) (.seq (.block 1 (.ifr [JA 12 0, JA 13 3, JA 14 4, JL 15 1 13 14, JD 16 1 15, JO 17 (.cl (.f 82) [.t 12, .t 16])] (.t 17) (.seq (.reg [JA 18 4, JO 19 (.bin .add 3 (.t 18) (JT 1)), JB 2 19]) .ret) .skip)) (.reg [JA 10 4, JO 11 (.bin .add 3 (.t 10) (JT 1)), JB 4 11]))
noncomputable def ac60 : AC :=
 (.seq (.reg [JI 2 0]) (.seq (.reg [JO 5 (.bsl 1 3 [JU] [(0, 1, .c (.string (ByteArray.mk (Array.mk [78])))), (1, 1, .c (.string (ByteArray.mk (Array.mk [66])))), (2, 1, .c (.string (ByteArray.mk (Array.mk [76]))))]), JB 3 5]) (.seq (.seq (.reg [JI 4 0]) (.block 0 (.loop lb60_0))) (.seq (.reg [JA 20 0, JO 21 (.cl (.f 56) [.t 20, .c (.int .i64 21)])]) (.seq (.reg [JI 2 0]) .ret)))))
theorem fi60 : FI Tryd.prog 60 cf60 ac60 [.t 2] [0, 2, 3, 4] 22 := FI_of (c := Tryd.f60.body.getD .skip) Tryd.func60 (by kernel_rfl) (by rfl) (by rfl) (by kernel_rfl) (by kernel_rfl) rfl rfl rfl
@[simp] theorem cfP60 : cf60.P = Tryd.prog := (rfl)
noncomputable def cf32 : Cfg := ⟨Tryd.prog, 34, [0, 2, 3, 4], [17, 26, 31]⟩
noncomputable def lb32_0 : AC :=
 .seq (.ifr [JA 5 0, JM 6 5, JH 7 2 6, JD 8 1 7, JO 9 (.bin .eql 3 (.t 8) (JT 0)), JC 10 9, JS 11 10 (.fa 0 (.g 3)), JS 12 10 (.ld false 1 (.t 11)), JS 13 10 (.len false (.t 12)), JS 14 10 (.bin .eql 3 (.t 13) (JT 0)), JS 15 10 (.mv (.t 14)), JR 16 15 (.mv (.g 0)), JR 17 15 (.cl (.f 41) [.t 16]), JR 18 15 (.fld false 1 0 (.t 17)), JR 19 15 (.bin .neq 85 (.t 18) (JT 4)), JS 20 10 (.pick (.t 15) JX (.t 19)), JO 21 (.pick (.t 10) (.t 20) JY)] (.t 21) .skip (.exit 0)) (.block 1 (.seq (.reg [JA 22 0, JG 23 0 3, JD 24 1 23, JO 25 (.len false (.t 24)), JO 26 (.cl (.f 42) [.t 22, .t 25]), JP 4 (.al [JU, JW, JV, JV, JU, JU, JV, .complex .f64 0 0, JW, JV, JV]), JQ (.st 11 (.g 4) (.t 26))]) (.reg [JG 27 0 3, JD 28 1 27, JF 29 11 4, JO 30 (.bsl 11 1 [JU, JW, JV, JV, JU, JU, JV, .complex .f64 0 0, JW, JV, JV] [(0, 11, .t 29)]), JO 31 (.app 11 152 [JU, JW, JV, JV, JU, JU, JV, .complex .f64 0 0, JW, JV, JV] (.t 28) (.t 30)), JG 32 0 3, JQ (.st 1 (.t 32) (.t 31))])))
noncomputable def ac32 : AC :=
 (.seq (.reg [JP 2 (.al [JW])]) (.seq (.reg [JP 3 (.al [JW])]) (.seq (.block 0 (.loop lb32_0)) (.seq (.reg [JF 33 1 3, JQ (.st 1 (.g 2) (.t 33))]) .ret))))
theorem fi32 : FI Tryd.prog 32 cf32 ac32 [.c 2 true 1] [0, 2, 3, 4] 34 := FI_of (c := Tryd.f32.body.getD .skip) Tryd.func32 (by kernel_rfl) (by rfl) (by rfl) (by kernel_rfl) (by kernel_rfl) rfl rfl rfl
@[simp] theorem cfP32 : cf32.P = Tryd.prog := (rfl)
noncomputable def cf42 : Cfg := ⟨Tryd.prog, 103, [0, 1, 4, 5, 6, 7, 8], [10, 23, 25, 32, 40, 48, 56, 72, 74, 76, 86, 89, 91, 93, 96, 98, 101]⟩
noncomputable def lb42_0 : AC :=
 .seq (.ifr [JA 33 0, JM 34 33, JH 35 2 34, JD 36 1 35, JO 37 (.bin .eql 3 (.t 36) (JT 0)), JC 38 37, JS 39 38 (.mv (.g 0)), JS 40 38 (.cl (.f 59) [.t 39, .c (.string (ByteArray.mk (Array.mk [41])))]), JS 41 38 (.un .not (.t 40)), JO 42 (.pick (.t 38) (.t 41) JY)] (.t 42) .skip (.exit 0)) (.block 1 (.seq (.ifr [JG 43 1 6, JD 44 1 43, JO 45 (.len false (.t 44)), JO 46 (.bin .gtr 3 (.t 45) (JT 0))] (.t 46) (.reg [JA 47 0, JO 48 (.cl (.f 58) [.t 47, .c (.string (ByteArray.mk (Array.mk [44])))])]) .skip) (.seq (.ifr [JA 49 0, JM 50 49, JH 51 2 50, JD 52 1 51, JO 53 (.bin .eql 3 (.t 52) (JT 0)), JC 54 53, JS 55 54 (.mv (.g 0)), JS 56 54 (.cl (.f 41) [.t 55]), JS 57 54 (.fld false 1 0 (.t 56)), JS 58 54 (.bin .eql 85 (.t 57) (JT 0)), JO 59 (.pick (.t 54) (.t 58) JY), JC 60 59, JS 61 60 (.fa 1 (.g 6)), JS 62 60 (.ld false 1 (.t 61)), JS 63 60 (.len false (.t 62)), JS 64 60 (.mv (.g 0)), JS 65 60 (.chk (.t 64)), JS 66 60 (.fa 4 (.t 65)), JS 67 60 (.fa 2 (.t 66)), JS 68 60 (.ld false 1 (.t 67)), JS 69 60 (.bin .geq 3 (.t 63) (.t 68)), JO 70 (.pick (.t 60) (.t 69) JY)] (.t 70) (.reg [JA 71 0, JO 72 (.cl (.f 56) [.t 71, .c (.int .i64 22)])]) .skip) (.seq (.reg [JA 73 0, JO 74 (.cl (.f 57) [.t 73]), JP 7 (.al [JV, JU, .complex .f64 0 0, JV]), JQ (.st 4 (.g 7) (.t 74))]) (.seq (.reg [JA 75 0, JO 76 (.cl (.f 60) [.t 75]), JB 8 76]) (.reg [JG 77 1 6, JD 78 1 77, JG 79 1 7, JD 80 1 79, JA 81 8, JG 82 3 7, JD 83 1 82, JO 84 (.bld [JU, JV, JV] [(0, 1, .t 80), (1, 1, .t 81), (2, 1, .t 83)]), JO 85 (.bsl 3 1 [JU, JV, JV] [(0, 3, .t 84)]), JO 86 (.app 3 32 [JU, JV, JV] (.t 78) (.t 85)), JG 87 1 6, JQ (.st 1 (.t 87) (.t 86))]))))))
noncomputable def ac42 : AC :=
 (.seq (.reg [JP 4 (.al [JU, JW, JV, JV, JU, JU, JV, .complex .f64 0 0, JW, JV, JV])]) (.seq (.ifr [JA 9 0, JO 10 (.cl (.f 41) [.t 9]), JO 11 (.fld false 1 0 (.t 10)), JO 12 (.bin .eql 85 (.t 11) (JT 0)), JC 13 12, JS 14 13 (.mv (.g 1)), JS 15 13 (.mv (.g 0)), JS 16 13 (.chk (.t 15)), JS 17 13 (.fa 4 (.t 16)), JS 18 13 (.fa 1 (.t 17)), JS 19 13 (.ld false 1 (.t 18)), JS 20 13 (.bin .geq 3 (.t 14) (.t 19)), JO 21 (.pick (.t 13) (.t 20) JY)] (.t 21) (.reg [JA 22 0, JO 23 (.cl (.f 56) [.t 22, .c (.int .i64 22)])]) .skip) (.seq (.reg [JA 24 0, JO 25 (.cl (.f 57) [.t 24]), JP 5 (.al [JV, JU, .complex .f64 0 0, JV]), JQ (.st 4 (.g 5) (.t 25))]) (.seq (.reg [JG 26 1 5, JD 27 1 26, JG 28 3 5, JD 29 1 28, JO 30 (.bld [JU, JW, JV, JV, JU, JU, JV, .complex .f64 0 0, JW, JV, JV] [(0, 1, .t 27), (10, 1, .t 29)]), JP 6 (.al [JU, JW, JV, JV, JU, JU, JV, .complex .f64 0 0, JW, JV, JV]), JQ (.st 11 (.g 6) (.t 30))]) (.seq (.reg [JA 31 0, JO 32 (.cl (.f 58) [.t 31, .c (.string (ByteArray.mk (Array.mk [40])))])]) (.seq (.block 0 (.loop lb42_0)) (.seq (.reg [JA 88 0, JO 89 (.cl (.f 58) [.t 88, .c (.string (ByteArray.mk (Array.mk [41])))])]) (.seq (.reg [JA 90 0, JO 91 (.cl (.f 58) [.t 90, .c (.string (ByteArray.mk (Array.mk [58])))])]) (.seq (.reg [JA 92 0, JO 93 (.cl (.f 60) [.t 92]), JG 94 2 6, JQ (.st 1 (.t 94) (.t 93))]) (.seq (.reg [JA 95 0, JO 96 (.cl (.f 58) [.t 95, .c (.string (ByteArray.mk (Array.mk [61])))])]) (.seq (.reg [JA 97 0, JO 98 (.cl (.f 61) [.t 97]), JG 99 3 6, JQ (.st 7 (.t 99) (.t 98))]) (.seq (.reg [JA 100 0, JO 101 (.cl (.f 58) [.t 100, .c (.string (ByteArray.mk (Array.mk [59])))])]) (.seq (.reg [JF 102 11 6, JQ (.st 11 (.g 4) (.t 102))]) .ret)))))))))))))
theorem fi42 : FI Tryd.prog 42 cf42 ac42 [.c 4 true 11] [0, 1, 4, 5, 6, 7, 8] 103 := FI_of (c := Tryd.f42.body.getD .skip) Tryd.func42 (by kernel_rfl) (by rfl) (by rfl) (by kernel_rfl) (by kernel_rfl) rfl rfl rfl
@[simp] theorem cfP42 : cf42.P = Tryd.prog := (rfl)
noncomputable def cf61 : Cfg := ⟨Tryd.prog, 106, [0, 2, 3, 4, 5, 6, 68], [8, 10, 13, 17, 33, 44, 48, 75, 80, 84, 91, 96]⟩
noncomputable def ac61 : AC :=
 (.seq (.reg [JP 2 (.al [JV, JU, JU, JV, .complex .f64 0 0, JW, JV])]) (.seq (.reg [JA 7 0, JO 8 (.cl (.f 41) [.t 7]), JP 3 (.al [JV, JU, .complex .f64 0 0, JV]), JQ (.st 4 (.g 3) (.t 8))]) (.seq (.reg [JA 9 0, JO 10 (.cl (.f 59) [.t 9, .c (.string (ByteArray.mk (Array.mk [108, 101, 116])))]), JC 11 10, JR 12 11 (.mv (.g 0)), JR 13 11 (.cl (.f 59) [.t 12, .c (.string (ByteArray.mk (Array.mk [115, 116, 114, 105, 99, 116])))]), JO 14 (.pick (.t 11) JX (.t 13)), JC 15 14, JR 16 15 (.mv (.g 0)), JR 17 15 (.cl (.f 59) [.t 16, .c (.string (ByteArray.mk (Array.mk [99, 97, 115, 101])))]), JO 18 (.pick (.t 15) JX (.t 17)), JB 4 18]) (.seq (.ifr [JA 19 4, JC 20 19, JS 21 20 (.mv (.g 0)), JS 22 20 (.chk (.t 21)), JS 23 20 (.fa 8 (.t 22)), JS 24 20 (.ld false 1 (.t 23)), JS 25 20 (.mv (.g 0)), JS 26 20 (.chk (.t 25)), JS 27 20 (.fa 4 (.t 26)), JS 28 20 (.fa 3 (.t 27)), JS 29 20 (.ld false 1 (.t 28)), JS 30 20 (.bin .geq 3 (.t 24) (.t 29)), JO 31 (.pick (.t 20) (.t 30) JY)] (.t 31) (.reg [JA 32 0, JO 33 (.cl (.f 56) [.t 32, .c (.int .i64 23)])]) .skip) (.seq (.ifr [JA 34 0, JM 35 34, JH 36 2 35, JD 37 1 36, JO 38 (.bin .neq 3 (.t 37) (JT 0))] (.t 38) (.seq (.reg [JO 39 (.bld [JV, JU, JU, JV, .complex .f64 0 0, JW, JV] []), JQ (.st 7 (.g 2) (.t 39))]) .ret) .skip) (.seq (.ifr [JA 40 4, JO 41 (.un .not (.t 40)), JC 42 41, JS 43 42 (.mv (.g 0)), JS 44 42 (.cl (.f 59) [.t 43, .c (.string (ByteArray.mk (Array.mk [105, 102])))]), JS 45 42 (.un .not (.t 44)), JO 46 (.pick (.t 42) (.t 45) JY)] (.t 46) (.seq (.reg [JA 47 0, JO 48 (.cl (.f 83) [.t 47]), JQ (.st 7 (.g 2) (.t 48))]) .ret) .skip) (.seq (.ifr [JA 49 4] (.t 49) (.reg [JA 50 0, JM 51 50, JH 52 8 51, JD 53 1 52, JO 54 (.bin .add 3 (.t 53) (JT 1)), JM 55 50, JH 56 8 55, JQ (.st 1 (.t 56) (.t 54))]) .skip) (.seq (.reg [JA 57 0, JM 58 57, JH 59 1 58, JD 60 1 59, JO 61 (.bin .add 3 (.t 60) (JT 1)), JM 62 57, JH 63 1 62, JQ (.st 1 (.t 63) (.t 61))]) (.seq (.reg [JG 64 3 3, JD 65 1 64, JO 66 (.bld [JV, JU, JU, JV, .complex .f64 0 0, JW, JV] [(6, 1, .t 65)]), JP 5 (.al [JV, JU, JU, JV, .complex .f64 0 0, JW, JV]), JQ (.st 7 (.g 5) (.t 66))]) (.seq (.seq (.reg [JG 67 1 3, JP 68 (.ld false 1 (.t 67))]) (.block 0 (.ifr [JO 87 (.bin .eql 9 (.g 68) (.c (.string (ByteArray.mk (Array.mk [105, 102]))))), JC 86 87] (.t 86) (.seq (.reg [JG 88 0 5, JQ (.st 1 (.t 88) (JT 19))]) (.reg [JA 89 0, JO 90 (.bsl 1 3 [JU] [(0, 1, .c (JU)), (1, 1, .c (.string (ByteArray.mk (Array.mk [116, 104, 101, 110])))), (2, 1, .c (.string (ByteArray.mk (Array.mk [101, 108, 115, 101]))))]), JO 91 (.cl (.f 84) [.t 89, .t 90]), JG 92 5 5, JQ (.st 1 (.t 92) (.t 91))])) (.ifr [JO 94 (.bin .eql 9 (.g 68) (.c (.string (ByteArray.mk (Array.mk [99, 97, 115, 101]))))), JC 93 94] (.t 93) (.reg [JA 95 0, JO 96 (.cl (.f 85) [.t 95, .g 5])]) (.seq (.reg [JG 69 0 5, JQ (.st 1 (.t 69) (JT 21))]) (.seq (.ifr [JG 70 1 3, JD 71 1 70, JO 72 (.bin .eql 9 (.t 71) (.c (.string (ByteArray.mk (Array.mk [115, 116, 114, 105, 99, 116])))))] (.t 72) (.reg [JG 73 0 5, JQ (.st 1 (.t 73) (JT 22))]) .skip) (.seq (.reg [JA 74 0, JO 75 (.cl (.f 57) [.t 74]), JP 6 (.al [JV, JU, .complex .f64 0 0, JV]), JQ (.st 4 (.g 6) (.t 75))]) (.seq (.reg [JG 76 1 6, JD 77 1 76, JG 78 1 5, JQ (.st 1 (.t 78) (.t 77))]) (.seq (.reg [JA 79 0, JO 80 (.cl (.f 60) [.t 79]), JG 81 3 5, JQ (.st 1 (.t 81) (.t 80))]) (.reg [JA 82 0, JO 83 (.bsl 1 2 [JU] [(0, 1, .c (.string (ByteArray.mk (Array.mk [61])))), (1, 1, .c (.string (ByteArray.mk (Array.mk [105, 110]))))]), JO 84 (.cl (.f 84) [.t 82, .t 83]), JG 85 5 5, JQ (.st 1 (.t 85) (.t 84))])))))))))) (.seq (.ifr [JA 97 4] (.t 97) (.reg [JA 98 0, JM 99 98, JH 100 8 99, JD 101 1 100, JO 102 (.bin .sub 3 (.t 101) (JT 1)), JM 103 98, JH 104 8 103, JQ (.st 1 (.t 104) (.t 102))]) .skip) (.seq (.reg [JF 105 7 5, JQ (.st 7 (.g 2) (.t 105))]) .ret))))))))))))
theorem fi61 : FI Tryd.prog 61 cf61 ac61 [.c 2 true 7] [0, 2, 3, 4, 5, 6, 68] 106 := FI_of (c := Tryd.f61.body.getD .skip) Tryd.func61 (by kernel_rfl) (by rfl) (by rfl) (by kernel_rfl) (by kernel_rfl) rfl rfl rfl
@[simp] theorem cfP61 : cf61.P = Tryd.prog := (rfl)
noncomputable def cf84 : Cfg := ⟨Tryd.prog, 32, [0, 1, 4, 5, 6, 7], [24, 26, 30]⟩
noncomputable def lb84_0 : AC :=
 .seq (.ifr [JA 8 6, JA 9 1, JO 10 (.len false (.t 9)), JO 11 (.bin .lss 3 (.t 8) (.t 10))] (.t 11) .skip (.exit 0)) (.seq (.block 1 (.seq (.ifr [JA 14 1, JA 15 6, JL 16 1 14 15, JD 17 1 16, JO 18 (.bin .neq 9 (.t 17) (.c (JU)))] (.t 18) (.reg [JA 19 0, JA 20 1, JA 21 6, JL 22 1 20 21, JD 23 1 22, JO 24 (.cl (.f 58) [.t 19, .t 23])]) .skip) (.seq (.reg [JA 25 0, JO 26 (.cl (.f 61) [.t 25]), JP 7 (.al [JV, JU, JU, JV, .complex .f64 0 0, JW, JV]), JQ (.st 7 (.g 7) (.t 26))]) (.reg [JA 27 5, JF 28 7 7, JO 29 (.bsl 7 1 [JV, JU, JU, JV, .complex .f64 0 0, JW, JV] [(0, 7, .t 28)]), JO 30 (.app 7 96 [JV, JU, JU, JV, .complex .f64 0 0, JW, JV] (.t 27) (.t 29)), JB 5 30])))) (.reg [JA 12 6, JO 13 (.bin .add 3 (.t 12) (JT 1)), JB 6 13]))
noncomputable def ac84 : AC :=
 (.seq (.reg [JP 4 (.mv (.c (.slice none 0 0)))]) (.seq (.reg [JP 5 (.mv (.c (.slice none 0 0)))]) (.seq (.seq (.reg [JI 6 0]) (.block 0 (.loop lb84_0))) (.seq (.reg [JA 31 5, JB 4 31]) .ret))))
theorem fi84 : FI Tryd.prog 84 cf84 ac84 [.t 4] [0, 1, 4, 5, 6, 7] 32 := FI_of (c := Tryd.f84.body.getD .skip) Tryd.func84 (by kernel_rfl) (by rfl) (by rfl) (by kernel_rfl) (by kernel_rfl) rfl rfl rfl
@[simp] theorem cfP84 : cf84.P = Tryd.prog := (rfl)
noncomputable def cf85 : Cfg := ⟨Tryd.prog, 51, [0, 1, 4, 5, 6, 7, 8], [13, 15, 17, 19, 21, 23, 25, 27, 29, 31, 33]⟩
noncomputable def ac85 : AC :=
 (.seq (.reg [JA 9 1, JM 10 9, JH 11 0 10, JQ (.st 1 (.t 11) (JT 20))]) (.seq (.reg [JA 12 0, JO 13 (.cl (.f 61) [.t 12]), JP 4 (.al [JV, JU, JU, JV, .complex .f64 0 0, JW, JV]), JQ (.st 7 (.g 4) (.t 13))]) (.seq (.reg [JA 14 0, JO 15 (.cl (.f 58) [.t 14, .c (.string (ByteArray.mk (Array.mk [111, 102])))])]) (.seq (.reg [JA 16 0, JO 17 (.cl (.f 58) [.t 16, .c (.string (ByteArray.mk (Array.mk [110, 105, 108])))])]) (.seq (.reg [JA 18 0, JO 19 (.cl (.f 58) [.t 18, .c (.string (ByteArray.mk (Array.mk [45, 62])))])]) (.seq (.reg [JA 20 0, JO 21 (.cl (.f 61) [.t 20]), JP 5 (.al [JV, JU, JU, JV, .complex .f64 0 0, JW, JV]), JQ (.st 7 (.g 5) (.t 21))]) (.seq (.reg [JA 22 0, JO 23 (.cl (.f 58) [.t 22, .c (.string (ByteArray.mk (Array.mk [124])))])]) (.seq (.reg [JA 24 0, JO 25 (.cl (.f 57) [.t 24]), JP 6 (.al [JV, JU, .complex .f64 0 0, JV]), JQ (.st 4 (.g 6) (.t 25))]) (.seq (.reg [JA 26 0, JO 27 (.cl (.f 58) [.t 26, .c (.string (ByteArray.mk (Array.mk [58])))])]) (.seq (.reg [JA 28 0, JO 29 (.cl (.f 57) [.t 28]), JP 7 (.al [JV, JU, .complex .f64 0 0, JV]), JQ (.st 4 (.g 7) (.t 29))]) (.seq (.reg [JA 30 0, JO 31 (.cl (.f 58) [.t 30, .c (.string (ByteArray.mk (Array.mk [45, 62])))])]) (.seq (.reg [JA 32 0, JO 33 (.cl (.f 61) [.t 32]), JP 8 (.al [JV, JU, JU, JV, .complex .f64 0 0, JW, JV]), JQ (.st 7 (.g 8) (.t 33))]) (.seq (.reg [JA 34 1, JG 35 1 6, JD 36 1 35, JM 37 34, JH 38 1 37, JQ (.st 1 (.t 38) (.t 36))]) (.seq (.reg [JA 39 1, JG 40 1 7, JD 41 1 40, JM 42 39, JH 43 2 42, JQ (.st 1 (.t 43) (.t 41))]) (.reg [JA 44 1, JF 45 7 4, JF 46 7 5, JF 47 7 8, JO 48 (.bsl 7 3 [JV, JU, JU, JV, .complex .f64 0 0, JW, JV] [(0, 7, .t 45), (7, 7, .t 46), (14, 7, .t 47)]), JM 49 44, JH 50 5 49, JQ (.st 1 (.t 50) (.t 48))])))))))))))))))
theorem fi85 : FI Tryd.prog 85 cf85 ac85 [] [0, 1, 4, 5, 6, 7, 8] 51 := FI_of (c := Tryd.f85.body.getD .skip) Tryd.func85 (by kernel_rfl) (by rfl) (by rfl) (by kernel_rfl) (by kernel_rfl) rfl rfl rfl
@[simp] theorem cfP85 : cf85.P = Tryd.prog := (rfl)
noncomputable def cf96 : Cfg := ⟨Tryd.prog, 16, [0, 1, 2, 3, 5, 6, 7, 8], []⟩
noncomputable def ac96 : AC :=
 (.seq (.reg [JN 5 1, JN 6 2, JN 7 3, JP 8 (.al [JV, JU, JU, JV, .complex .f64 0 0, JW, JV])]) (.seq (.reg [JA 9 0, JF 10 7 5, JF 11 7 6, JO 12 (.bsl 7 2 [JV, JU, JU, JV, .complex .f64 0 0, JW, JV] [(0, 7, .t 10), (7, 7, .t 11)]), JG 13 3 7, JD 14 1 13, JO 15 (.bld [JV, JU, JU, JV, .complex .f64 0 0, JW, JV] [(0, 1, .t 9), (5, 1, .t 12), (6, 1, .t 14)]), JQ (.st 7 (.g 8) (.t 15))]) .ret))
theorem fi96 : FI Tryd.prog 96 cf96 ac96 [.c 8 true 7] [0, 1, 2, 3, 5, 6, 7, 8] 16 := FI_of (c := Tryd.f96.body.getD .skip) Tryd.func96 (by kernel_rfl) (by rfl) (by rfl) (by kernel_rfl) (by kernel_rfl) rfl rfl rfl
@[simp] theorem cfP96 : cf96.P = Tryd.prog := (rfl)
noncomputable def cf83 : Cfg := ⟨Tryd.prog, 20, [0, 2, 3, 4, 5], [7, 9, 11, 15]⟩
noncomputable def ac83 : AC :=
 (.seq (.reg [JP 2 (.al [JV, JU, JU, JV, .complex .f64 0 0, JW, JV])]) (.seq (.reg [JA 6 0, JO 7 (.cl (.f 95) [.t 6]), JP 3 (.al [JV, JU, JU, JV, .complex .f64 0 0, JW, JV]), JQ (.st 7 (.g 3) (.t 7))]) (.seq (.reg [JA 8 0, JO 9 (.cl (.f 41) [.t 8]), JP 4 (.al [JV, JU, .complex .f64 0 0, JV]), JQ (.st 4 (.g 4) (.t 9))]) (.seq (.ifr [JA 10 0, JO 11 (.cl (.f 82) [.t 10, .c (.string (ByteArray.mk (Array.mk [58])))]), JO 12 (.un .not (.t 11))] (.t 12) (.seq (.reg [JF 13 7 3, JQ (.st 7 (.g 2) (.t 13))]) .ret) .skip) (.seq (.reg [JA 14 0, JO 15 (.cl (.f 83) [.t 14]), JP 5 (.al [JV, JU, JU, JV, .complex .f64 0 0, JW, JV]), JQ (.st 7 (.g 5) (.t 15))]) (.seq (.reg [JF 16 7 3, JF 17 7 5, JF 18 4 4, JO 19 (.pc (.f 96) [.c (.int .i64 18), .t 16, .t 17, .t 18]), JQ (.st 7 (.g 2) (.t 19))]) .ret))))))
theorem fi83 : FI Tryd.prog 83 cf83 ac83 [.c 2 true 7] [0, 2, 3, 4, 5] 20 := FI_of (c := Tryd.f83.body.getD .skip) Tryd.func83 (by kernel_rfl) (by rfl) (by rfl) (by kernel_rfl) (by kernel_rfl) rfl rfl rfl
@[simp] theorem cfP83 : cf83.P = Tryd.prog := (rfl)
noncomputable def cf95 : Cfg := ⟨Tryd.prog, 29, [0, 2, 3, 4, 5, 6], [8, 10, 12, 14, 18, 23]⟩
noncomputable def ac95 : AC :=
 (.seq (.reg [JP 2 (.al [JV, JU, JU, JV, .complex .f64 0 0, JW, JV])]) (.seq (.reg [JA 7 0, JO 8 (.cl (.f 98) [.t 7]), JP 3 (.al [JV, JU, JU, JV, .complex .f64 0 0, JW, JV]), JQ (.st 7 (.g 3) (.t 8))]) (.seq (.reg [JA 9 0, JO 10 (.cl (.f 41) [.t 9]), JP 4 (.al [JV, JU, .complex .f64 0 0, JV]), JQ (.st 4 (.g 4) (.t 10))]) (.seq (.reg [JI 5 12]) (.seq (.ifr [JA 11 0, JO 12 (.cl (.f 59) [.t 11, .c (.string (ByteArray.mk (Array.mk [60])))])] (.t 12) (.reg [JI 5 13]) .skip) (.seq (.ifr [JA 13 0, JO 14 (.cl (.f 82) [.t 13, .c (.string (ByteArray.mk (Array.mk [61, 61])))]), JO 15 (.un .not (.t 14)), JC 16 15, JS 17 16 (.mv (.g 0)), JS 18 16 (.cl (.f 82) [.t 17, .c (.string (ByteArray.mk (Array.mk [60])))]), JS 19 16 (.un .not (.t 18)), JO 20 (.pick (.t 16) (.t 19) JY)] (.t 20) (.seq (.reg [JF 21 7 3, JQ (.st 7 (.g 2) (.t 21))]) .ret) .skip) (.seq (.reg [JA 22 0, JO 23 (.cl (.f 98) [.t 22]), JP 6 (.al [JV, JU, JU, JV, .complex .f64 0 0, JW, JV]), JQ (.st 7 (.g 6) (.t 23))]) (.seq (.reg [JA 24 5, JF 25 7 3, JF 26 7 6, JF 27 4 4, JO 28 (.pc (.f 96) [.t 24, .t 25, .t 26, .t 27]), JQ (.st 7 (.g 2) (.t 28))]) .ret))))))))
theorem fi95 : FI Tryd.prog 95 cf95 ac95 [.c 2 true 7] [0, 2, 3, 4, 5, 6] 29 := FI_of (c := Tryd.f95.body.getD .skip) Tryd.func95 (by kernel_rfl) (by rfl) (by rfl) (by kernel_rfl) (by kernel_rfl) rfl rfl rfl
@[simp] theorem cfP95 : cf95.P = Tryd.prog := (rfl)
noncomputable def cf98 : Cfg := ⟨Tryd.prog, 35, [0, 2, 3, 4, 5, 6], [8, 10, 13, 16, 25]⟩
noncomputable def lb98_0 : AC :=
 .seq (.ifr [JA 9 0, JO 10 (.cl (.f 59) [.t 9, .c (.string (ByteArray.mk (Array.mk [43])))]), JC 11 10, JR 12 11 (.mv (.g 0)), JR 13 11 (.cl (.f 59) [.t 12, .c (.string (ByteArray.mk (Array.mk [45])))]), JO 14 (.pick (.t 11) JX (.t 13))] (.t 14) .skip (.exit 0)) (.block 1 (.seq (.reg [JA 15 0, JO 16 (.cl (.f 41) [.t 15]), JP 4 (.al [JV, JU, .complex .f64 0 0, JV]), JQ (.st 4 (.g 4) (.t 16))]) (.seq (.reg [JA 17 0, JM 18 17, JH 19 1 18, JD 20 1 19, JO 21 (.bin .add 3 (.t 20) (JT 1)), JM 22 17, JH 23 1 22, JQ (.st 1 (.t 23) (.t 21))]) (.seq (.reg [JA 24 0, JO 25 (.cl (.f 99) [.t 24]), JP 5 (.al [JV, JU, JU, JV, .complex .f64 0 0, JW, JV]), JQ (.st 7 (.g 5) (.t 25))]) (.seq (.reg [JI 6 8]) (.seq (.ifr [JG 26 1 4, JD 27 1 26, JO 28 (.bin .eql 9 (.t 27) (.c (.string (ByteArray.mk (Array.mk [45])))))] (.t 28) (.reg [JI 6 9]) .skip) (.reg [JA 29 6, JF 30 7 3, JF 31 7 5, JF 32 4 4, JO 33 (.pc (.f 96) [.t 29, .t 30, .t 31, .t 32]), JQ (.st 7 (.g 3) (.t 33))])))))))
noncomputable def ac98 : AC :=
 (.seq (.reg [JP 2 (.al [JV, JU, JU, JV, .complex .f64 0 0, JW, JV])]) (.seq (.reg [JA 7 0, JO 8 (.cl (.f 99) [.t 7]), JP 3 (.al [JV, JU, JU, JV, .complex .f64 0 0, JW, JV]), JQ (.st 7 (.g 3) (.t 8))]) (.seq (.block 0 (.loop lb98_0)) (.seq (.reg [JF 34 7 3, JQ (.st 7 (.g 2) (.t 34))]) .ret))))
theorem fi98 : FI Tryd.prog 98 cf98 ac98 [.c 2 true 7] [0, 2, 3, 4, 5, 6] 35 := FI_of (c := Tryd.f98.body.getD .skip) Tryd.func98 (by kernel_rfl) (by rfl) (by rfl) (by kernel_rfl) (by kernel_rfl) rfl rfl rfl
@[simp] theorem cfP98 : cf98.P = Tryd.prog := (rfl)
noncomputable def cf99 : Cfg := ⟨Tryd.prog, 35, [0, 2, 3, 4, 5, 6], [8, 10, 13, 16, 25]⟩
noncomputable def lb99_0 : AC :=
 .seq (.ifr [JA 9 0, JO 10 (.cl (.f 59) [.t 9, .c (.string (ByteArray.mk (Array.mk [42])))]), JC 11 10, JR 12 11 (.mv (.g 0)), JR 13 11 (.cl (.f 59) [.t 12, .c (.string (ByteArray.mk (Array.mk [47])))]), JO 14 (.pick (.t 11) JX (.t 13))] (.t 14) .skip (.exit 0)) (.block 1 (.seq (.reg [JA 15 0, JO 16 (.cl (.f 41) [.t 15]), JP 4 (.al [JV, JU, .complex .f64 0 0, JV]), JQ (.st 4 (.g 4) (.t 16))]) (.seq (.reg [JA 17 0, JM 18 17, JH 19 1 18, JD 20 1 19, JO 21 (.bin .add 3 (.t 20) (JT 1)), JM 22 17, JH 23 1 22, JQ (.st 1 (.t 23) (.t 21))]) (.seq (.reg [JA 24 0, JO 25 (.cl (.f 100) [.t 24]), JP 5 (.al [JV, JU, JU, JV, .complex .f64 0 0, JW, JV]), JQ (.st 7 (.g 5) (.t 25))]) (.seq (.reg [JI 6 10]) (.seq (.ifr [JG 26 1 4, JD 27 1 26, JO 28 (.bin .eql 9 (.t 27) (.c (.string (ByteArray.mk (Array.mk [47])))))] (.t 28) (.reg [JI 6 11]) .skip) (.reg [JA 29 6, JF 30 7 3, JF 31 7 5, JF 32 4 4, JO 33 (.pc (.f 96) [.t 29, .t 30, .t 31, .t 32]), JQ (.st 7 (.g 3) (.t 33))])))))))
noncomputable def ac99 : AC :=
 (.seq (.reg [JP 2 (.al [JV, JU, JU, JV, .complex .f64 0 0, JW, JV])]) (.seq (.reg [JA 7 0, JO 8 (.cl (.f 100) [.t 7]), JP 3 (.al [JV, JU, JU, JV, .complex .f64 0 0, JW, JV]), JQ (.st 7 (.g 3) (.t 8))]) (.seq (.block 0 (.loop lb99_0)) (.seq (.reg [JF 34 7 3, JQ (.st 7 (.g 2) (.t 34))]) .ret))))
theorem fi99 : FI Tryd.prog 99 cf99 ac99 [.c 2 true 7] [0, 2, 3, 4, 5, 6] 35 := FI_of (c := Tryd.f99.body.getD .skip) Tryd.func99 (by kernel_rfl) (by rfl) (by rfl) (by kernel_rfl) (by kernel_rfl) rfl rfl rfl
@[simp] theorem cfP99 : cf99.P = Tryd.prog := (rfl)
noncomputable def cf102 : Cfg := ⟨Tryd.prog, 20, [0, 2, 3], []⟩
noncomputable def ac102 : AC :=
 (.seq (.reg [JI 2 0]) (.seq (.seq (.reg [JP 3 (.mv (.g 0))]) (.block 0 (.ifr [JO 5 (.bin .eql 9 (.g 3) (.c (.string (ByteArray.mk (Array.mk [116, 114, 117, 101]))))), JC 4 5] (.t 4) (.seq (.reg [JI 2 2]) .ret) (.ifr [JO 7 (.bin .eql 9 (.g 3) (.c (.string (ByteArray.mk (Array.mk [102, 97, 108, 115, 101]))))), JC 6 7] (.t 6) (.seq (.reg [JI 2 3]) .ret) (.ifr [JO 9 (.bin .eql 9 (.g 3) (.c (.string (ByteArray.mk (Array.mk [110, 105, 108]))))), JC 8 9] (.t 8) (.seq (.reg [JI 2 4]) .ret) (.ifr [JO 11 (.bin .eql 9 (.g 3) (.c (.string (ByteArray.mk (Array.mk [102, 97, 105, 108]))))), JC 10 11] (.t 10) (.seq (.reg [JI 2 5]) .ret) (.ifr [JO 13 (.bin .eql 9 (.g 3) (.c (.string (ByteArray.mk (Array.mk [110, 111, 116]))))), JC 12 13] (.t 12) (.seq (.reg [JI 2 14]) .ret) (.ifr [JO 15 (.bin .eql 9 (.g 3) (.c (.string (ByteArray.mk (Array.mk [114, 101]))))), JC 14 15] (.t 14) (.seq (.reg [JI 2 15]) .ret) (.ifr [JO 17 (.bin .eql 9 (.g 3) (.c (.string (ByteArray.mk (Array.mk [105, 109]))))), JC 16 17] (.t 16) (.seq (.reg [JI 2 16]) .ret) (.ifr [JO 19 (.bin .eql 9 (.g 3) (.c (.string (ByteArray.mk (Array.mk [99, 111, 110, 106]))))), JC 18 19] (.t 18) (.seq (.reg [JI 2 17]) .ret) .skip)))))))))) (.seq (.reg [JI 2 0]) .ret)))
theorem fi102 : FI Tryd.prog 102 cf102 ac102 [.t 2] [0, 2, 3] 20 := FI_of (c := Tryd.f102.body.getD .skip) Tryd.func102 (by kernel_rfl) (by rfl) (by rfl) (by kernel_rfl) (by kernel_rfl) rfl rfl rfl
@[simp] theorem cfP102 : cf102.P = Tryd.prog := (rfl)
noncomputable def cf100 : Cfg := ⟨Tryd.prog, 101, [0, 2, 3, 4, 5, 6, 80, 86], [8, 44, 47, 49, 51, 64, 84, 92, 94, 96]⟩
noncomputable def ac100 : AC :=
 (.seq (.reg [JP 2 (.al [JV, JU, JU, JV, .complex .f64 0 0, JW, JV])]) (.seq (.reg [JA 7 0, JO 8 (.cl (.f 41) [.t 7]), JP 3 (.al [JV, JU, .complex .f64 0 0, JV]), JQ (.st 4 (.g 3) (.t 8))]) (.seq (.ifr [JA 9 0, JM 10 9, JH 11 2 10, JD 12 1 11, JO 13 (.bin .neq 3 (.t 12) (JT 0))] (.t 13) (.seq (.reg [JO 14 (.bld [JV, JU, JU, JV, .complex .f64 0 0, JW, JV] []), JQ (.st 7 (.g 2) (.t 14))]) .ret) .skip) (.seq (.block 0 (.ifr [JG 16 0 3, JD 17 1 16, JO 18 (.bin .eql 85 (.t 17) (JT 2)), JC 15 18] (.t 15) (.seq (.reg [JA 19 0, JM 20 19, JH 21 1 20, JD 22 1 21, JO 23 (.bin .add 3 (.t 22) (JT 1)), JM 24 19, JH 25 1 24, JQ (.st 1 (.t 25) (.t 23))]) (.seq (.reg [JG 26 2 3, JD 27 1 26, JG 28 3 3, JD 29 1 28, JO 30 (.bld [JV, JU, JU, JV, .complex .f64 0 0, JW, JV] [(0, 1, .c (.int .i64 1)), (4, 1, .t 27), (6, 1, .t 29)]), JQ (.st 7 (.g 2) (.t 30))]) .ret)) (.ifr [JG 32 0 3, JD 33 1 32, JO 34 (.bin .eql 85 (.t 33) (JT 0)), JC 31 34] (.t 31) (.seq (.reg [JA 35 0, JM 36 35, JH 37 1 36, JD 38 1 37, JO 39 (.bin .add 3 (.t 38) (JT 1)), JM 40 35, JH 41 1 40, JQ (.st 1 (.t 41) (.t 39))]) (.seq (.reg [JA 42 0, JF 43 4 3, JO 44 (.cl (.f 101) [.t 42, .t 43]), JQ (.st 7 (.g 2) (.t 44))]) .ret)) (.ifr [JA 46 0, JO 47 (.cl (.f 82) [.t 46, .c (.string (ByteArray.mk (Array.mk [40])))]), JC 45 47] (.t 45) (.seq (.reg [JA 48 0, JO 49 (.cl (.f 61) [.t 48]), JP 4 (.al [JV, JU, JU, JV, .complex .f64 0 0, JW, JV]), JQ (.st 7 (.g 4) (.t 49))]) (.seq (.reg [JA 50 0, JO 51 (.cl (.f 58) [.t 50, .c (.string (ByteArray.mk (Array.mk [41])))])]) (.seq (.reg [JF 52 7 4, JQ (.st 7 (.g 2) (.t 52))]) .ret))) (.ifr [JG 54 0 3, JD 55 1 54, JO 56 (.bin .neq 85 (.t 55) (JT 1)), JC 57 56, JR 58 57 (.fa 1 (.g 3)), JR 59 57 (.ld false 1 (.t 58)), JR 60 57 (.pc (.f 102) [.t 59]), JR 61 57 (.bin .eql 40 (.t 60) (JT 0)), JO 62 (.pick (.t 57) JX (.t 61)), JC 53 62] (.t 53) (.seq (.reg [JA 63 0, JO 64 (.cl (.f 56) [.t 63, .c (.int .i64 21)])]) (.seq (.reg [JO 65 (.bld [JV, JU, JU, JV, .complex .f64 0 0, JW, JV] []), JQ (.st 7 (.g 2) (.t 65))]) .ret)) .skip))))) (.seq (.reg [JA 66 0, JM 67 66, JH 68 1 67, JD 69 1 68, JO 70 (.bin .add 3 (.t 69) (JT 1)), JM 71 66, JH 72 1 71, JQ (.st 1 (.t 72) (.t 70))]) (.seq (.reg [JG 73 1 3, JD 74 1 73, JO 75 (.pc (.f 102) [.t 74]), JG 76 3 3, JD 77 1 76, JO 78 (.bld [JV, JU, JU, JV, .complex .f64 0 0, JW, JV] [(0, 1, .t 75), (6, 1, .t 77)]), JP 5 (.al [JV, JU, JU, JV, .complex .f64 0 0, JW, JV]), JQ (.st 7 (.g 5) (.t 78))]) (.seq (.seq (.reg [JG 79 0 5, JP 80 (.ld false 1 (.t 79))]) (.block 1 (.ifr [JO 82 (.bin .eql 40 (.g 80) (JT 5)), JC 81 82] (.t 81) (.reg [JA 83 0, JO 84 (.cl (.f 60) [.t 83]), JG 85 3 5, JQ (.st 1 (.t 85) (.t 84))]) (.seq (.ifr [JO 87 (.bin .eql 40 (.g 80) (JT 14)), JB 86 87] (.g 86) .skip (.ifr [JO 88 (.bin .eql 40 (.g 80) (JT 15)), JB 86 88] (.g 86) .skip (.ifr [JO 89 (.bin .eql 40 (.g 80) (JT 16)), JB 86 89] (.g 86) .skip (.reg [JO 90 (.bin .eql 40 (.g 80) (JT 17)), JB 86 90])))) (.cond (.g 86) (.seq (.reg [JA 91 0, JO 92 (.cl (.f 58) [.t 91, .c (.string (ByteArray.mk (Array.mk [40])))])]) (.seq (.reg [JA 93 0, JO 94 (.cl (.f 61) [.t 93]), JP 6 (.al [JV, JU, JU, JV, .complex .f64 0 0, JW, JV]), JQ (.st 7 (.g 6) (.t 94))]) (.seq (.reg [JA 95 0, JO 96 (.cl (.f 58) [.t 95, .c (.string (ByteArray.mk (Array.mk [41])))])]) (.reg [JF 97 7 6, JO 98 (.bsl 7 1 [JV, JU, JU, JV, .complex .f64 0 0, JW, JV] [(0, 7, .t 97)]), JG 99 5 5, JQ (.st 1 (.t 99) (.t 98))])))) .skip))))) (.seq (.reg [JF 100 7 5, JQ (.st 7 (.g 2) (.t 100))]) .ret))))))))
theorem fi100 : FI Tryd.prog 100 cf100 ac100 [.c 2 true 7] [0, 2, 3, 4, 5, 6, 80, 86] 101 := FI_of (c := Tryd.f100.body.getD .skip) Tryd.func100 (by kernel_rfl) (by rfl) (by rfl) (by kernel_rfl) (by kernel_rfl) rfl rfl rfl
@[simp] theorem cfP100 : cf100.P = Tryd.prog := (rfl)
noncomputable def cf101 : Cfg := ⟨Tryd.prog, 47, [0, 1, 3, 4, 5, 6], [8, 27, 35, 37, 42, 45]⟩
noncomputable def lb101_0 : AC :=
 .seq (.ifr [JA 20 0, JM 21 20, JH 22 2 21, JD 23 1 22, JO 24 (.bin .eql 3 (.t 23) (JT 0)), JC 25 24, JS 26 25 (.mv (.g 0)), JS 27 25 (.cl (.f 59) [.t 26, .c (.string (ByteArray.mk (Array.mk [41])))]), JS 28 25 (.un .not (.t 27)), JO 29 (.pick (.t 25) (.t 28) JY)] (.t 29) .skip (.exit 0)) (.block 1 (.seq (.ifr [JG 30 5 5, JD 31 1 30, JO 32 (.len false (.t 31)), JO 33 (.bin .gtr 3 (.t 32) (JT 0))] (.t 33) (.reg [JA 34 0, JO 35 (.cl (.f 58) [.t 34, .c (.string (ByteArray.mk (Array.mk [44])))])]) .skip) (.seq (.reg [JA 36 0, JO 37 (.cl (.f 61) [.t 36]), JP 6 (.al [JV, JU, JU, JV, .complex .f64 0 0, JW, JV]), JQ (.st 7 (.g 6) (.t 37))]) (.reg [JG 38 5 5, JD 39 1 38, JF 40 7 6, JO 41 (.bsl 7 1 [JV, JU, JU, JV, .complex .f64 0 0, JW, JV] [(0, 7, .t 40)]), JO 42 (.app 7 96 [JV, JU, JU, JV, .complex .f64 0 0, JW, JV] (.t 39) (.t 41)), JG 43 5 5, JQ (.st 1 (.t 43) (.t 42))]))))
noncomputable def ac101 : AC :=
 (.seq (.reg [JN 3 1, JP 4 (.al [JV, JU, JU, JV, .complex .f64 0 0, JW, JV])]) (.seq (.ifr [JA 7 0, JO 8 (.cl (.f 82) [.t 7, .c (.string (ByteArray.mk (Array.mk [40])))]), JO 9 (.un .not (.t 8))] (.t 9) (.seq (.reg [JG 10 1 3, JD 11 1 10, JG 12 3 3, JD 13 1 12, JO 14 (.bld [JV, JU, JU, JV, .complex .f64 0 0, JW, JV] [(0, 1, .c (.int .i64 6)), (1, 1, .t 11), (6, 1, .t 13)]), JQ (.st 7 (.g 4) (.t 14))]) .ret) .skip) (.seq (.reg [JG 15 1 3, JD 16 1 15, JG 17 3 3, JD 18 1 17, JO 19 (.bld [JV, JU, JU, JV, .complex .f64 0 0, JW, JV] [(0, 1, .c (.int .i64 7)), (1, 1, .t 16), (6, 1, .t 18)]), JP 5 (.al [JV, JU, JU, JV, .complex .f64 0 0, JW, JV]), JQ (.st 7 (.g 5) (.t 19))]) (.seq (.block 0 (.loop lb101_0)) (.seq (.reg [JA 44 0, JO 45 (.cl (.f 58) [.t 44, .c (.string (ByteArray.mk (Array.mk [41])))])]) (.seq (.reg [JF 46 7 5, JQ (.st 7 (.g 4) (.t 46))]) .ret))))))
theorem fi101 : FI Tryd.prog 101 cf101 ac101 [.c 4 true 7] [0, 1, 3, 4, 5, 6] 47 := FI_of (c := Tryd.f101.body.getD .skip) Tryd.func101 (by kernel_rfl) (by rfl) (by rfl) (by kernel_rfl) (by kernel_rfl) rfl rfl rfl
@[simp] theorem cfP101 : cf101.P = Tryd.prog := (rfl)
noncomputable def cf21 : Cfg := ⟨Tryd.prog, 2, [0], []⟩
noncomputable def ac21 : AC :=
 (.seq (.reg [JP 0 (.al [JV, JV, JV, JV])]) (.seq (.reg [JO 1 (.bld [JV, JV, JV, JV] [(0, 1, .c (.int .i64 32768)), (1, 1, .c (.int .i64 32768)), (2, 1, .c (.int .i64 32768)), (3, 1, .c (.int .i64 32768))]), JQ (.st 4 (.g 0) (.t 1))]) .ret))
theorem fi21 : FI Tryd.prog 21 cf21 ac21 [.c 0 true 4] [0] 2 := FI_of (c := Tryd.f21.body.getD .skip) Tryd.func21 (by kernel_rfl) (by rfl) (by rfl) (by kernel_rfl) (by kernel_rfl) rfl rfl rfl
@[simp] theorem cfP21 : cf21.P = Tryd.prog := (rfl)
noncomputable def cf20 : Cfg := ⟨Tryd.prog, 57, [0, 1, 3, 4, 5, 6, 7, 8, 9], [3, 37, 39]⟩
noncomputable def ac20 : AC :=
 (.seq (.reg [JP 3 (.bx (.g 1)), JP 4 (.al [JW]), JP 5 (.al [JV, JV])]) (.seq (.reg [JG 10 0 3, JD 11 1 10, JO 12 (.bi .max [.t 11, .c (.int .i64 0)]), JO 13 (.bi .min [.t 12, .c (.int .i64 32768)]), JG 14 0 3, JQ (.st 1 (.t 14) (.t 13))]) (.seq (.ifr [JA 15 0, JO 16 (.len false (.t 15)), JG 17 0 3, JD 18 1 17, JO 19 (.bin .gtr 3 (.t 16) (.t 18))] (.t 19) (.seq (.reg [JO 20 (.bld [JW] []), JG 21 0 3, JD 22 1 21, JO 23 (.bld [JV, JV] [(0, 1, .c (.int .i64 22)), (1, 1, .t 22)]), JQ (.sta 1 (.g 4) (.t 20) [.g 3, .g 3]), JQ (.st 2 (.g 5) (.t 23))]) .ret) .skip) (.seq (.reg [JA 25 0, JO 26 (.pc (.f 31) [.t 25]), JC 24 26, JK 27 0 24, JK 28 1 24, JB 6 27, JB 7 28]) (.seq (.ifr [JA 29 7, JO 30 (.bin .geq 3 (.t 29) (JT 0))] (.t 30) (.seq (.reg [JO 31 (.bld [JW] []), JA 32 7, JO 33 (.bld [JV, JV] [(0, 1, .c (.int .i64 20)), (1, 1, .t 32)]), JQ (.st 1 (.g 4) (.t 31)), JQ (.st 2 (.g 5) (.t 33))]) .ret) .skip) (.seq (.reg [JA 34 6, JF 35 4 3, JO 36 (.bld [JW, JV, JV, JV, JV, JV, JV, JV, JV] [(0, 1, .t 34), (4, 4, .t 35)]), JO 37 (.bx (.t 36)), JB 8 37]) (.seq (.reg [JA 38 8, JO 39 (.cl (.f 32) [.t 38]), JP 9 (.al [JW]), JQ (.st 1 (.g 9) (.t 39))]) (.seq (.ifr [JA 40 8, JM 41 40, JH 42 2 41, JD 43 1 42, JO 44 (.bin .neq 3 (.t 43) (JT 0))] (.t 44) (.seq (.reg [JO 45 (.bld [JW] []), JA 46 8, JM 47 46, JH 48 2 47, JD 49 1 48, JA 50 8, JM 51 50, JH 52 3 51, JD 53 1 52, JO 54 (.bld [JV, JV] [(0, 1, .t 49), (1, 1, .t 53)]), JQ (.sta 1 (.g 4) (.t 45) [.g 8, .g 8, .g 8, .g 8]), JQ (.st 2 (.g 5) (.t 54))]) .ret) .skip) (.seq (.reg [JF 55 1 9, JO 56 (.bld [JV, JV] []), JQ (.st 1 (.g 4) (.t 55)), JQ (.st 2 (.g 5) (.t 56))]) .ret)))))))))
theorem fi20 : FI Tryd.prog 20 cf20 ac20 [.c 4 true 1, .c 5 true 2] [0, 1, 3, 4, 5, 6, 7, 8, 9] 57 := FI_of (c := Tryd.f20.body.getD .skip) Tryd.func20 (by kernel_rfl) (by rfl) (by rfl) (by kernel_rfl) (by kernel_rfl) rfl rfl rfl
@[simp] theorem cfP20 : cf20.P = Tryd.prog := (rfl)
@[simp] theorem eqParse_9 {a b : ByteArray} : bD Tryd.prog .eql 9 (.pl (.string a)) (.pl (.string b)) = some (.pl (.bool (decide (a = b)))) := mW Tryd.underlying9
@[simp] theorem neParse_9 {a b : ByteArray} : bD Tryd.prog .neq 9 (.pl (.string a)) (.pl (.string b)) = some (.pl (.bool (!decide (a = b)))) := pI Tryd.underlying9
noncomputable def cf81 : Cfg := ⟨Tryd.prog, 2, [0], []⟩
noncomputable def ac81 : AC :=
 (.seq (.reg [JP 0 (.mv (.c (.slice none 0 0)))]) (.seq (.reg [JO 1 (.bsl 1 19 [JU] [(0, 1, .c (.string (ByteArray.mk (Array.mk [66])))), (1, 1, .c (.string (ByteArray.mk (Array.mk [76])))), (2, 1, .c (.string (ByteArray.mk (Array.mk [78])))), (3, 1, .c (.string (ByteArray.mk (Array.mk [99, 97, 115, 101])))), (4, 1, .c (.string (ByteArray.mk (Array.mk [99, 111, 110, 106])))), (5, 1, .c (.string (ByteArray.mk (Array.mk [101, 108, 115, 101])))), (6, 1, .c (.string (ByteArray.mk (Array.mk [102, 97, 105, 108])))), (7, 1, .c (.string (ByteArray.mk (Array.mk [102, 97, 108, 115, 101])))), (8, 1, .c (.string (ByteArray.mk (Array.mk [105, 102])))), (9, 1, .c (.string (ByteArray.mk (Array.mk [105, 109])))), (10, 1, .c (.string (ByteArray.mk (Array.mk [105, 110])))), (11, 1, .c (.string (ByteArray.mk (Array.mk [108, 101, 116])))), (12, 1, .c (.string (ByteArray.mk (Array.mk [110, 105, 108])))), (13, 1, .c (.string (ByteArray.mk (Array.mk [110, 111, 116])))), (14, 1, .c (.string (ByteArray.mk (Array.mk [111, 102])))), (15, 1, .c (.string (ByteArray.mk (Array.mk [114, 101])))), (16, 1, .c (.string (ByteArray.mk (Array.mk [115, 116, 114, 105, 99, 116])))), (17, 1, .c (.string (ByteArray.mk (Array.mk [116, 104, 101, 110])))), (18, 1, .c (.string (ByteArray.mk (Array.mk [116, 114, 117, 101]))))]), JB 0 1]) .ret))
theorem fi81 : FI Tryd.prog 81 cf81 ac81 [.t 0] [0] 2 := FI_of (c := Tryd.f81.body.getD .skip) Tryd.func81 (by kernel_rfl) (by rfl) (by rfl) (by kernel_rfl) (by kernel_rfl) rfl rfl rfl
@[simp] theorem cfP81 : cf81.P = Tryd.prog := (rfl)
noncomputable def cf54 : Cfg := ⟨Tryd.prog, 18, [0, 2, 3, 4], []⟩
noncomputable def lb54_0 : AC :=
 .seq (.ifr [JA 6 4, JA 7 3, JO 8 (.len false (.t 7)), JO 9 (.bin .lss 3 (.t 6) (.t 8))] (.t 9) .skip (.exit 0)) (.seq (.block 1 (.ifr [JA 12 3, JA 13 4, JL 14 1 12 13, JD 15 1 14, JA 16 0, JO 17 (.bin .eql 9 (.t 15) (.t 16))] (.t 17) (.seq (.reg [JP 2 (.mv JX)]) .ret) .skip)) (.reg [JA 10 4, JO 11 (.bin .add 3 (.t 10) (JT 1)), JB 4 11]))
noncomputable def ac54 : AC :=
 (.seq (.reg [JP 2 (.mv JY)]) (.seq (.reg [JO 5 (.pc (.f 81) []), JB 3 5]) (.seq (.seq (.reg [JI 4 0]) (.block 0 (.loop lb54_0))) (.seq (.reg [JP 2 (.mv JY)]) .ret))))
theorem fi54 : FI Tryd.prog 54 cf54 ac54 [.t 2] [0, 2, 3, 4] 18 := FI_of (c := Tryd.f54.body.getD .skip) Tryd.func54 (by kernel_rfl) (by rfl) (by rfl) (by kernel_rfl) (by kernel_rfl) rfl rfl rfl
@[simp] theorem cfP54 : cf54.P = Tryd.prog := (rfl)
noncomputable def cf39 : Cfg := ⟨Tryd.prog, 17, [0, 2], []⟩
noncomputable def ac39 : AC :=
 (.seq (.reg [JP 2 (.mv JY)]) (.seq (.reg [JA 3 0, JO 4 (.bin .eql 5 (.t 3) (.c (.int .u8 9))), JC 5 4, JR 6 5 (.mv (.g 0)), JR 7 5 (.bin .eql 5 (.t 6) (.c (.int .u8 10))), JO 8 (.pick (.t 5) JX (.t 7)), JC 9 8, JR 10 9 (.mv (.g 0)), JR 11 9 (.bin .eql 5 (.t 10) (.c (.int .u8 13))), JO 12 (.pick (.t 9) JX (.t 11)), JC 13 12, JR 14 13 (.mv (.g 0)), JR 15 13 (.bin .eql 5 (.t 14) (.c (.int .u8 32))), JO 16 (.pick (.t 13) JX (.t 15)), JB 2 16]) .ret))
theorem fi39 : FI Tryd.prog 39 cf39 ac39 [.t 2] [0, 2] 17 := FI_of (c := Tryd.f39.body.getD .skip) Tryd.func39 (by kernel_rfl) (by rfl) (by rfl) (by kernel_rfl) (by kernel_rfl) rfl rfl rfl
@[simp] theorem cfP39 : cf39.P = Tryd.prog := (rfl)
noncomputable def cf77 : Cfg := ⟨Tryd.prog, 17, [0, 2], []⟩
noncomputable def ac77 : AC :=
 (.seq (.reg [JP 2 (.mv JY)]) (.seq (.reg [JA 3 0, JO 4 (.bin .geq 5 (.t 3) (.c (.int .u8 65))), JC 5 4, JS 6 5 (.mv (.g 0)), JS 7 5 (.bin .leq 5 (.t 6) (.c (.int .u8 90))), JO 8 (.pick (.t 5) (.t 7) JY), JC 9 8, JR 10 9 (.mv (.g 0)), JR 11 9 (.bin .geq 5 (.t 10) (.c (.int .u8 97))), JR 12 9 (.mv (.t 11)), JS 13 12 (.mv (.g 0)), JS 14 12 (.bin .leq 5 (.t 13) (.c (.int .u8 122))), JR 15 9 (.pick (.t 12) (.t 14) JY), JO 16 (.pick (.t 9) JX (.t 15)), JB 2 16]) .ret))
theorem fi77 : FI Tryd.prog 77 cf77 ac77 [.t 2] [0, 2] 17 := FI_of (c := Tryd.f77.body.getD .skip) Tryd.func77 (by kernel_rfl) (by rfl) (by rfl) (by kernel_rfl) (by kernel_rfl) rfl rfl rfl
@[simp] theorem cfP77 : cf77.P = Tryd.prog := (rfl)
noncomputable def cf51 : Cfg := ⟨Tryd.prog, 9, [0, 2], []⟩
noncomputable def ac51 : AC :=
 (.seq (.reg [JP 2 (.mv JY)]) (.seq (.reg [JA 3 0, JO 4 (.bin .geq 5 (.t 3) (.c (.int .u8 48))), JC 5 4, JS 6 5 (.mv (.g 0)), JS 7 5 (.bin .leq 5 (.t 6) (.c (.int .u8 57))), JO 8 (.pick (.t 5) (.t 7) JY), JB 2 8]) .ret))
theorem fi51 : FI Tryd.prog 51 cf51 ac51 [.t 2] [0, 2] 9 := FI_of (c := Tryd.f51.body.getD .skip) Tryd.func51 (by kernel_rfl) (by rfl) (by rfl) (by kernel_rfl) (by kernel_rfl) rfl rfl rfl
@[simp] theorem cfP51 : cf51.P = Tryd.prog := (rfl)
noncomputable def cf50 : Cfg := ⟨Tryd.prog, 42, [0, 1, 4, 5], []⟩
noncomputable def lb50_0 : AC :=
 .seq (.ifr [JA 6 1, JA 7 5, JO 8 (.bin .add 3 (.t 6) (.t 7)), JA 9 0, JO 10 (.len false (.t 9)), JO 11 (.bin .lss 3 (.t 8) (.t 10)), JC 12 11, JS 13 12 (.mv (.g 0)), JS 14 12 (.mv (.g 1)), JS 15 12 (.mv (.g 5)), JS 16 12 (.bin .add 3 (.t 14) (.t 15)), JS 17 12 (.ia 1 (.t 13) (.t 16)), JS 18 12 (.ld false 1 (.t 17)), JS 19 12 (.pc (.f 77) [.t 18]), JS 20 12 (.mv (.t 19)), JR 21 20 (.mv (.g 0)), JR 22 20 (.mv (.g 1)), JR 23 20 (.mv (.g 5)), JR 24 20 (.bin .add 3 (.t 22) (.t 23)), JR 25 20 (.ia 1 (.t 21) (.t 24)), JR 26 20 (.ld false 1 (.t 25)), JR 27 20 (.pc (.f 51) [.t 26]), JS 28 12 (.pick (.t 20) JX (.t 27)), JS 29 12 (.mv (.t 28)), JR 30 29 (.mv (.g 0)), JR 31 29 (.mv (.g 1)), JR 32 29 (.mv (.g 5)), JR 33 29 (.bin .add 3 (.t 31) (.t 32)), JR 34 29 (.ia 1 (.t 30) (.t 33)), JR 35 29 (.ld false 1 (.t 34)), JR 36 29 (.bin .eql 5 (.t 35) (.c (.int .u8 95))), JS 37 12 (.pick (.t 29) JX (.t 36)), JO 38 (.pick (.t 12) (.t 37) JY)] (.t 38) .skip (.exit 0)) (.block 1 (.reg [JA 39 5, JO 40 (.bin .add 3 (.t 39) (JT 1)), JB 5 40]))
noncomputable def ac50 : AC :=
 (.seq (.reg [JI 4 0]) (.seq (.reg [JI 5 0]) (.seq (.block 0 (.loop lb50_0)) (.seq (.reg [JA 41 5, JB 4 41]) .ret))))
theorem fi50 : FI Tryd.prog 50 cf50 ac50 [.t 4] [0, 1, 4, 5] 42 := FI_of (c := Tryd.f50.body.getD .skip) Tryd.func50 (by kernel_rfl) (by rfl) (by rfl) (by kernel_rfl) (by kernel_rfl) rfl rfl rfl
@[simp] theorem cfP50 : cf50.P = Tryd.prog := (rfl)
noncomputable def cf55 : Cfg := ⟨Tryd.prog, 57, [0, 1, 4, 43, 44], []⟩
noncomputable def ac55 : AC :=
 (.seq (.reg [JI 4 0]) (.seq (.ifr [JA 5 1, JO 6 (.bin .add 3 (.t 5) (JT 1)), JA 7 0, JO 8 (.len false (.t 7)), JO 9 (.bin .lss 3 (.t 6) (.t 8)), JC 10 9, JS 11 10 (.mv (.g 0)), JS 12 10 (.mv (.g 1)), JS 13 10 (.ia 1 (.t 11) (.t 12)), JS 14 10 (.ld false 1 (.t 13)), JS 15 10 (.bin .eql 5 (.t 14) (.c (.int .u8 45))), JS 16 10 (.mv (.t 15)), JS 17 16 (.mv (.g 0)), JS 18 16 (.mv (.g 1)), JS 19 16 (.bin .add 3 (.t 18) (JT 1)), JS 20 16 (.ia 1 (.t 17) (.t 19)), JS 21 16 (.ld false 1 (.t 20)), JS 22 16 (.bin .eql 5 (.t 21) (.c (.int .u8 62))), JS 23 10 (.pick (.t 16) (.t 22) JY), JS 24 10 (.mv (.t 23)), JR 25 24 (.mv (.g 0)), JR 26 24 (.mv (.g 1)), JR 27 24 (.ia 1 (.t 25) (.t 26)), JR 28 24 (.ld false 1 (.t 27)), JR 29 24 (.bin .eql 5 (.t 28) (.c (.int .u8 61))), JR 30 24 (.mv (.t 29)), JS 31 30 (.mv (.g 0)), JS 32 30 (.mv (.g 1)), JS 33 30 (.bin .add 3 (.t 32) (JT 1)), JS 34 30 (.ia 1 (.t 31) (.t 33)), JS 35 30 (.ld false 1 (.t 34)), JS 36 30 (.bin .eql 5 (.t 35) (.c (.int .u8 61))), JR 37 24 (.pick (.t 30) (.t 36) JY), JS 38 10 (.pick (.t 24) JX (.t 37)), JO 39 (.pick (.t 10) (.t 38) JY)] (.t 39) (.seq (.reg [JI 4 2]) .ret) .skip) (.seq (.seq (.reg [JA 40 0, JA 41 1, JL 42 1 40 41, JP 43 (.ld false 1 (.t 42))]) (.block 0 (.seq (.ifr [JO 45 (.bin .eql 5 (.g 43) (.c (.int .u8 40))), JB 44 45] (.g 44) .skip (.ifr [JO 46 (.bin .eql 5 (.g 43) (.c (.int .u8 41))), JB 44 46] (.g 44) .skip (.ifr [JO 47 (.bin .eql 5 (.g 43) (.c (.int .u8 44))), JB 44 47] (.g 44) .skip (.ifr [JO 48 (.bin .eql 5 (.g 43) (.c (.int .u8 58))), JB 44 48] (.g 44) .skip (.ifr [JO 49 (.bin .eql 5 (.g 43) (.c (.int .u8 59))), JB 44 49] (.g 44) .skip (.ifr [JO 50 (.bin .eql 5 (.g 43) (.c (.int .u8 61))), JB 44 50] (.g 44) .skip (.ifr [JO 51 (.bin .eql 5 (.g 43) (.c (.int .u8 43))), JB 44 51] (.g 44) .skip (.ifr [JO 52 (.bin .eql 5 (.g 43) (.c (.int .u8 45))), JB 44 52] (.g 44) .skip (.ifr [JO 53 (.bin .eql 5 (.g 43) (.c (.int .u8 42))), JB 44 53] (.g 44) .skip (.ifr [JO 54 (.bin .eql 5 (.g 43) (.c (.int .u8 47))), JB 44 54] (.g 44) .skip (.ifr [JO 55 (.bin .eql 5 (.g 43) (.c (.int .u8 60))), JB 44 55] (.g 44) .skip (.reg [JO 56 (.bin .eql 5 (.g 43) (.c (.int .u8 124))), JB 44 56])))))))))))) (.cond (.g 44) (.seq (.reg [JI 4 1]) .ret) .skip)))) (.seq (.reg [JI 4 0]) .ret))))
theorem fi55 : FI Tryd.prog 55 cf55 ac55 [.t 4] [0, 1, 4, 43, 44] 57 := FI_of (c := Tryd.f55.body.getD .skip) Tryd.func55 (by kernel_rfl) (by rfl) (by rfl) (by kernel_rfl) (by kernel_rfl) rfl rfl rfl
@[simp] theorem cfP55 : cf55.P = Tryd.prog := (rfl)
noncomputable def cf40 : Cfg := ⟨Tryd.prog, 79, [0, 1, 4, 5, 6, 7, 8, 9], []⟩
noncomputable def ac40 : AC :=
 (.seq (.reg [JP 4 (.al [JV, JU, .complex .f64 0 0, JV]), JP 5 (.mv JY)]) (.seq (.reg [JA 10 0, JA 11 1, JO 12 (.pc (.f 50) [.t 10, .t 11]), JB 6 12]) (.seq (.reg [JA 13 0, JA 14 1, JA 15 1, JA 16 6, JO 17 (.bin .add 3 (.t 15) (.t 16)), JO 18 (.sls false 1 (.t 13) (some (.t 14)) (some (.t 17))), JO 19 (.cv 37 9 (.t 18)), JA 20 1, JO 21 (.bld [JV, JU, .complex .f64 0 0, JV] [(1, 1, .t 19), (3, 1, .t 20)]), JP 7 (.al [JV, JU, .complex .f64 0 0, JV]), JQ (.st 4 (.g 7) (.t 21))]) (.seq (.block 0 (.ifr [JA 23 6, JO 24 (.bin .gtr 3 (.t 23) (JT 0)), JC 25 24, JS 26 25 (.mv (.g 0)), JS 27 25 (.mv (.g 1)), JS 28 25 (.ia 1 (.t 26) (.t 27)), JS 29 25 (.ld false 1 (.t 28)), JS 30 25 (.pc (.f 51) [.t 29]), JO 31 (.pick (.t 25) (.t 30) JY), JC 22 31] (.t 22) (.seq (.reg [JG 33 1 7, JD 34 1 33, JO 35 (.pc (.f 52) [.t 34]), JC 32 35, JK 36 0 32, JK 37 1 32, JP 8 (.al [JV, JV]), JQ (.st 2 (.g 8) (.t 36)), JB 9 37]) (.seq (.reg [JG 38 0 7, JQ (.st 1 (.t 38) (JT 2))]) (.seq (.reg [JF 39 2 8, JO 40 (.pc (.f 53) [.t 39]), JG 41 2 7, JQ (.st 1 (.t 41) (.t 40))]) (.seq (.reg [JF 42 4 7, JA 43 9, JO 44 (.bin .eql 3 (.t 43) (JT 0)), JQ (.st 4 (.g 4) (.t 42)), JB 5 44]) .ret)))) (.ifr [JA 46 6, JO 47 (.bin .gtr 3 (.t 46) (JT 0)), JC 48 47, JS 49 48 (.mv (.g 0)), JS 50 48 (.mv (.g 1)), JS 51 48 (.ia 1 (.t 49) (.t 50)), JS 52 48 (.ld false 1 (.t 51)), JS 53 48 (.bin .eql 5 (.t 52) (.c (.int .u8 95))), JO 54 (.pick (.t 48) (.t 53) JY), JC 45 54] (.t 45) (.seq (.reg [JF 55 4 7, JQ (.st 4 (.g 4) (.t 55)), JP 5 (.mv JY)]) .ret) (.ifr [JA 57 6, JO 58 (.bin .gtr 3 (.t 57) (JT 0)), JC 56 58] (.t 56) (.seq (.ifr [JG 59 1 7, JD 60 1 59, JO 61 (.pc (.f 54) [.t 60])] (.t 61) (.reg [JG 62 0 7, JQ (.st 1 (.t 62) (JT 1))]) .skip) (.seq (.reg [JF 63 4 7, JQ (.st 4 (.g 4) (.t 63)), JP 5 (.mv JX)]) .ret)) .skip)))) (.seq (.reg [JA 64 0, JA 65 1, JO 66 (.pc (.f 55) [.t 64, .t 65]), JB 6 66]) (.seq (.reg [JG 67 0 7, JQ (.st 1 (.t 67) (JT 3))]) (.seq (.reg [JA 68 0, JA 69 1, JA 70 1, JA 71 6, JO 72 (.bin .add 3 (.t 70) (.t 71)), JO 73 (.sls false 1 (.t 68) (some (.t 69)) (some (.t 72))), JO 74 (.cv 37 9 (.t 73)), JG 75 1 7, JQ (.st 1 (.t 75) (.t 74))]) (.seq (.reg [JF 76 4 7, JA 77 6, JO 78 (.bin .gtr 3 (.t 77) (JT 0)), JQ (.st 4 (.g 4) (.t 76)), JB 5 78]) .ret))))))))
theorem fi40 : FI Tryd.prog 40 cf40 ac40 [.c 4 true 4, .t 5] [0, 1, 4, 5, 6, 7, 8, 9] 79 := FI_of (c := Tryd.f40.body.getD .skip) Tryd.func40 (by kernel_rfl) (by rfl) (by rfl) (by kernel_rfl) (by kernel_rfl) rfl rfl rfl
@[simp] theorem cfP40 : cf40.P = Tryd.prog := (rfl)
noncomputable def cf31 : Cfg := ⟨Tryd.prog, 61, [0, 2, 3, 4, 5, 6, 7], [49, 60]⟩
noncomputable def lb31_0 : AC :=
 .seq (.ifr [JA 24 5, JA 25 0, JO 26 (.len false (.t 25)), JO 27 (.bin .lss 3 (.t 24) (.t 26)), JC 28 27, JS 29 28 (.mv (.g 0)), JS 30 28 (.mv (.g 5)), JS 31 28 (.ia 1 (.t 29) (.t 30)), JS 32 28 (.ld false 1 (.t 31)), JS 33 28 (.bin .neq 5 (.t 32) (.c (.int .u8 10))), JO 34 (.pick (.t 28) (.t 33) JY)] (.t 34) .skip (.exit 2)) (.block 3 (.reg [JA 35 5, JO 36 (.bin .add 3 (.t 35) (JT 1)), JB 5 36]))
noncomputable def lb31_1 : AC :=
 .seq (.ifr [JA 8 5, JA 9 0, JO 10 (.len false (.t 9)), JO 11 (.bin .lss 3 (.t 8) (.t 10))] (.t 11) .skip (.exit 0)) (.block 1 (.seq (.ifr [JA 12 0, JA 13 5, JL 14 1 12 13, JD 15 1 14, JO 16 (.pc (.f 39) [.t 15])] (.t 16) (.seq (.reg [JA 17 5, JO 18 (.bin .add 3 (.t 17) (JT 1)), JB 5 18]) (.exit 1)) .skip) (.seq (.ifr [JA 19 0, JA 20 5, JL 21 1 19 20, JD 22 1 21, JO 23 (.bin .eql 5 (.t 22) (.c (.int .u8 35)))] (.t 23) (.seq (.block 2 (.loop lb31_0)) (.exit 1)) .skip) (.seq (.reg [JA 38 0, JA 39 5, JO 40 (.pc (.f 40) [.t 38, .t 39]), JC 37 40, JK 41 0 37, JK 42 1 37, JP 6 (.al [JV, JU, .complex .f64 0 0, JV]), JQ (.st 4 (.g 6) (.t 41)), JB 7 42]) (.seq (.ifr [JA 43 7, JO 44 (.un .not (.t 43))] (.t 44) (.seq (.reg [JA 45 5, JP 2 (.mv (.c (.slice none 0 0))), JB 3 45]) .ret) .skip) (.seq (.reg [JA 46 4, JF 47 4 6, JO 48 (.bsl 4 1 [JV, JU, .complex .f64 0 0, JV] [(0, 4, .t 47)]), JO 49 (.app 4 48 [JV, JU, .complex .f64 0 0, JV] (.t 46) (.t 48)), JB 4 49]) (.reg [JA 50 5, JG 51 1 6, JD 52 1 51, JO 53 (.len true (.t 52)), JO 54 (.bin .add 3 (.t 50) (.t 53)), JB 5 54])))))))
noncomputable def ac31 : AC :=
 (.seq (.reg [JP 2 (.mv (.c (.slice none 0 0))), JI 3 0]) (.seq (.reg [JP 4 (.mv (.c (.slice none 0 0)))]) (.seq (.reg [JI 5 0]) (.seq (.block 0 (.loop lb31_1)) (.seq (.reg [JA 55 4, JA 56 0, JO 57 (.len false (.t 56)), JO 58 (.bld [JV, JU, .complex .f64 0 0, JV] [(0, 1, .c (.int .i64 4)), (3, 1, .t 57)]), JO 59 (.bsl 4 1 [JV, JU, .complex .f64 0 0, JV] [(0, 4, .t 58)]), JO 60 (.app 4 48 [JV, JU, .complex .f64 0 0, JV] (.t 55) (.t 59)), JB 2 60, JI 3 (-1)]) .ret)))))
theorem fi31 : FI Tryd.prog 31 cf31 ac31 [.t 2, .t 3] [0, 2, 3, 4, 5, 6, 7] 61 := FI_of (c := Tryd.f31.body.getD .skip) Tryd.func31 (by kernel_rfl) (by rfl) (by rfl) (by kernel_rfl) (by kernel_rfl) rfl rfl rfl
@[simp] theorem cfP31 : cf31.P = Tryd.prog := (rfl)
@[simp] theorem eqMarks_9 {a b : ByteArray} : bD Tryd.prog .eql 9 (.pl (.string a)) (.pl (.string b)) = some (.pl (.bool (decide (a = b)))) := mW Tryd.underlying9
noncomputable def cf94 : Cfg := ⟨Tryd.prog, 24, [0, 2, 3], []⟩
noncomputable def ac94 : AC :=
 (.seq (.reg [JP 2 (.mv (.c (JU)))]) (.seq (.ifr [JA 4 0, JO 5 (.bin .lss 3 (.t 4) (JT 0))] (.t 5) (.seq (.reg [JA 6 0, JO 7 (.un .neg (.t 6)), JO 8 (.pc (.f 94) [.t 7]), JO 9 (.bin .add 9 (.c (.string (ByteArray.mk (Array.mk [45])))) (.t 8)), JB 2 9]) .ret) .skip) (.seq (.reg [JA 10 0, JO 11 (.bin .rem 3 (.t 10) (JT 10)), JO 12 (.bin .add 3 (JT 48) (.t 11)), JO 13 (.cv 3 5 (.t 12)), JO 14 (.bsl 1 1 [.int .u8 0] [(0, 1, .t 13)]), JO 15 (.cv 37 9 (.t 14)), JB 3 15]) (.seq (.ifr [JA 16 0, JO 17 (.bin .geq 3 (.t 16) (JT 10))] (.t 17) (.reg [JA 18 0, JO 19 (.bin .quo 3 (.t 18) (JT 10)), JO 20 (.pc (.f 94) [.t 19]), JA 21 3, JO 22 (.bin .add 9 (.t 20) (.t 21)), JB 3 22]) .skip) (.seq (.reg [JA 23 3, JB 2 23]) .ret)))))
theorem fi94 : FI Tryd.prog 94 cf94 ac94 [.t 2] [0, 2, 3] 24 := FI_of (c := Tryd.f94.body.getD .skip) Tryd.func94 (by kernel_rfl) (by rfl) (by rfl) (by kernel_rfl) (by kernel_rfl) rfl rfl rfl
@[simp] theorem cfP94 : cf94.P = Tryd.prog := (rfl)
noncomputable def cf80 : Cfg := ⟨Tryd.prog, 39, [0, 1, 2], []⟩
noncomputable def ac80 : AC :=
 (.seq (.reg [JN 1 0, JP 2 (.mv (.c (JU)))]) (.seq (.block 0 (.ifr [JG 4 1 1, JD 5 1 4, JO 6 (.bin .eql 3 (.t 5) (JT 0)), JC 3 6] (.t 3) (.seq (.reg [JG 7 0 1, JD 8 1 7, JO 9 (.pc (.f 94) [.t 8]), JB 2 9]) .ret) (.ifr [JG 11 0 1, JD 12 1 11, JO 13 (.bin .eql 3 (.t 12) (JT 0)), JC 10 13] (.t 10) (.seq (.reg [JG 14 1 1, JD 15 1 14, JO 16 (.pc (.f 94) [.t 15]), JO 17 (.bin .add 9 (.t 16) (.c (.string (ByteArray.mk (Array.mk [105]))))), JB 2 17]) .ret) (.ifr [JG 19 1 1, JD 20 1 19, JO 21 (.bin .gtr 3 (.t 20) (JT 0)), JC 18 21] (.t 18) (.seq (.reg [JG 22 0 1, JD 23 1 22, JO 24 (.pc (.f 94) [.t 23]), JO 25 (.bin .add 9 (.t 24) (.c (.string (ByteArray.mk (Array.mk [43]))))), JG 26 1 1, JD 27 1 26, JO 28 (.pc (.f 94) [.t 27]), JO 29 (.bin .add 9 (.t 25) (.t 28)), JO 30 (.bin .add 9 (.t 29) (.c (.string (ByteArray.mk (Array.mk [105]))))), JB 2 30]) .ret) .skip)))) (.seq (.reg [JG 31 0 1, JD 32 1 31, JO 33 (.pc (.f 94) [.t 32]), JG 34 1 1, JD 35 1 34, JO 36 (.pc (.f 94) [.t 35]), JO 37 (.bin .add 9 (.t 33) (.t 36)), JO 38 (.bin .add 9 (.t 37) (.c (.string (ByteArray.mk (Array.mk [105]))))), JB 2 38]) .ret)))
theorem fi80 : FI Tryd.prog 80 cf80 ac80 [.t 2] [0, 1, 2] 39 := FI_of (c := Tryd.f80.body.getD .skip) Tryd.func80 (by kernel_rfl) (by rfl) (by rfl) (by kernel_rfl) (by kernel_rfl) rfl rfl rfl
@[simp] theorem cfP80 : cf80.P = Tryd.prog := (rfl)
noncomputable def cf78 : Cfg := ⟨Tryd.prog, 52, [0, 2, 3, 4, 5, 6], []⟩
noncomputable def lb78_0 : AC :=
 .seq (.ifr [JA 16 6, JA 17 0, JO 18 (.len true (.t 17)), JO 19 (.bin .lss 3 (.t 16) (.t 18)), JC 20 19, JS 21 20 (.mv (.g 0)), JS 22 20 (.mv (.g 6)), JS 23 20 (.ixs (.t 21) (.t 22)), JS 24 20 (.bin .geq 5 (.t 23) (.c (.int .u8 48))), JO 25 (.pick (.t 20) (.t 24) JY), JC 26 25, JS 27 26 (.mv (.g 0)), JS 28 26 (.mv (.g 6)), JS 29 26 (.ixs (.t 27) (.t 28)), JS 30 26 (.bin .leq 5 (.t 29) (.c (.int .u8 57))), JO 31 (.pick (.t 26) (.t 30) JY)] (.t 31) .skip (.exit 0)) (.block 1 (.seq (.reg [JA 32 5, JO 33 (.bin .mul 3 (JT 10) (.t 32)), JA 34 0, JA 35 6, JO 36 (.ixs (.t 34) (.t 35)), JO 37 (.bin .sub 5 (.t 36) (.c (.int .u8 48))), JO 38 (.cv 5 3 (.t 37)), JO 39 (.bin .add 3 (.t 33) (.t 38)), JO 40 (.bi .min [.t 39, .c (.int .i64 16777217)]), JB 5 40]) (.reg [JA 41 6, JO 42 (.bin .add 3 (.t 41) (JT 1)), JB 6 42])))
noncomputable def ac78 : AC :=
 (.seq (.reg [JI 2 0, JI 3 0]) (.seq (.reg [JI 4 0]) (.seq (.ifr [JA 7 0, JO 8 (.len true (.t 7)), JO 9 (.bin .gtr 3 (.t 8) (JT 0)), JC 10 9, JS 11 10 (.mv (.g 0)), JS 12 10 (.ixs (.t 11) (JT 0)), JS 13 10 (.bin .eql 5 (.t 12) (.c (.int .u8 45))), JO 14 (.pick (.t 10) (.t 13) JY)] (.t 14) (.reg [JI 4 1]) .skip) (.seq (.reg [JI 5 0]) (.seq (.reg [JA 15 4, JB 6 15]) (.seq (.block 0 (.loop lb78_0)) (.seq (.ifr [JA 43 6, JA 44 4, JO 45 (.bin .eql 3 (.t 43) (.t 44))] (.t 45) (.seq (.reg [JI 2 0, JI 3 0]) .ret) .skip) (.seq (.ifr [JA 46 4, JO 47 (.bin .eql 3 (.t 46) (JT 1))] (.t 47) (.reg [JA 48 5, JO 49 (.un .neg (.t 48)), JB 5 49]) .skip) (.seq (.reg [JA 50 5, JA 51 6, JB 2 50, JB 3 51]) .ret)))))))))
theorem fi78 : FI Tryd.prog 78 cf78 ac78 [.t 2, .t 3] [0, 2, 3, 4, 5, 6] 52 := FI_of (c := Tryd.f78.body.getD .skip) Tryd.func78 (by kernel_rfl) (by rfl) (by rfl) (by kernel_rfl) (by kernel_rfl) rfl rfl rfl
@[simp] theorem cfP78 : cf78.P = Tryd.prog := (rfl)
noncomputable def cf52 : Cfg := ⟨Tryd.prog, 58, [0, 2, 3, 4, 5, 6, 7, 8, 11], []⟩
noncomputable def ac52 : AC :=
 (.seq (.reg [JP 2 (.al [JV, JV]), JI 3 0]) (.seq (.reg [JA 13 0, JO 14 (.pc (.f 78) [.t 13]), JC 12 14, JK 15 0 12, JK 16 1 12, JB 4 15, JB 5 16]) (.seq (.ifr [JA 17 5, JO 18 (.bin .eql 3 (.t 17) (JT 0))] (.t 18) (.seq (.reg [JO 19 (.bld [JV, JV] []), JQ (.st 2 (.g 2) (.t 19)), JI 3 10]) .ret) .skip) (.seq (.reg [JA 20 4, JO 21 (.bld [JV, JV] [(0, 1, .t 20)]), JP 6 (.al [JV, JV]), JQ (.st 2 (.g 6) (.t 21))]) (.seq (.reg [JA 22 0, JA 23 5, JO 24 (.sls true 0 (.t 22) (some (.t 23)) none), JB 7 24]) (.seq (.ifr [JA 25 7, JO 26 (.bin .eql 9 (.t 25) (.c (.string (ByteArray.mk (Array.mk [105])))))] (.t 26) (.reg [JA 27 4, JO 28 (.bld [JV, JV] [(1, 1, .t 27)]), JQ (.st 2 (.g 6) (.t 28))]) (.ifr [JA 29 7, JO 30 (.bin .neq 9 (.t 29) (.c (JU)))] (.t 30) (.seq (.ifr [JA 31 7, JO 32 (.ixs (.t 31) (JT 0)), JO 33 (.bin .eql 5 (.t 32) (.c (.int .u8 43)))] (.t 33) (.reg [JA 34 7, JO 35 (.sls true 0 (.t 34) (some (JT 1)) none), JB 7 35]) .skip) (.seq (.reg [JA 37 7, JO 38 (.pc (.f 78) [.t 37]), JC 36 38, JK 39 0 36, JK 40 1 36, JB 8 39, JC 9 40]) (.reg [JA 41 8, JG 42 1 6, JQ (.st 1 (.t 42) (.t 41))]))) .skip)) (.seq (.reg [JF 44 2 6, JO 45 (.pc (.f 79) [.t 44]), JC 43 45, JK 46 0 43, JK 47 1 43, JO 10 (.al [JV, JV]), JQ (.st 2 (.t 10) (.t 46)), JB 11 47]) (.seq (.ifr [JA 48 11, JO 49 (.bin .neq 3 (.t 48) (JT 0)), JC 50 49, JR 51 50 (.ld true 2 (.g 6)), JR 52 50 (.pc (.f 80) [.t 51]), JR 53 50 (.mv (.g 0)), JR 54 50 (.bin .neq 9 (.t 52) (.t 53)), JO 55 (.pick (.t 50) JX (.t 54))] (.t 55) (.seq (.reg [JO 56 (.bld [JV, JV] []), JQ (.st 2 (.g 2) (.t 56)), JI 3 10]) .ret) .skip) (.seq (.reg [JF 57 2 6, JQ (.st 2 (.g 2) (.t 57)), JI 3 0]) .ret)))))))))
theorem fi52 : FI Tryd.prog 52 cf52 ac52 [.c 2 true 2, .t 3] [0, 2, 3, 4, 5, 6, 7, 8, 11] 58 := FI_of (c := Tryd.f52.body.getD .skip) Tryd.func52 (by kernel_rfl) (by rfl) (by rfl) (by kernel_rfl) (by kernel_rfl) rfl rfl rfl
@[simp] theorem cfP52 : cf52.P = Tryd.prog := (rfl)
@[simp] theorem cvNum_3_5 {n : Int} : cvD Tryd.prog 3 5 (.pl (.int .i64 n)) = some (.pl (.int .u8 (IntKind.u8.wrap n))) := AS Tryd.underlying3 Tryd.underlying5
@[simp] theorem cvNum_5_3 {n : Int} : cvD Tryd.prog 5 3 (.pl (.int .u8 n)) = some (.pl (.int .i64 (IntKind.i64.wrap n))) := AS Tryd.underlying5 Tryd.underlying3
@[simp] theorem eqNum_9 {a b : ByteArray} : bD Tryd.prog .eql 9 (.pl (.string a)) (.pl (.string b)) = some (.pl (.bool (decide (a = b)))) := mW Tryd.underlying9
@[simp] theorem neNum_9 {a b : ByteArray} : bD Tryd.prog .neq 9 (.pl (.string a)) (.pl (.string b)) = some (.pl (.bool (!decide (a = b)))) := pI Tryd.underlying9
noncomputable def cf79 : Cfg := ⟨Tryd.prog, 24, [0, 1, 2, 3], []⟩
noncomputable def ac79 : AC :=
 (.seq (.reg [JN 1 0, JP 2 (.al [JV, JV]), JI 3 0]) (.seq (.ifr [JG 4 0 1, JD 5 1 4, JO 6 (.bin .lss 3 (.t 5) (JT (-16777216))), JC 7 6, JR 8 7 (.fa 0 (.g 1)), JR 9 7 (.ld false 1 (.t 8)), JR 10 7 (.bin .gtr 3 (.t 9) (JT 16777216)), JO 11 (.pick (.t 7) JX (.t 10)), JC 12 11, JR 13 12 (.fa 1 (.g 1)), JR 14 12 (.ld false 1 (.t 13)), JR 15 12 (.bin .lss 3 (.t 14) (JT (-16777216))), JO 16 (.pick (.t 12) JX (.t 15)), JC 17 16, JR 18 17 (.fa 1 (.g 1)), JR 19 17 (.ld false 1 (.t 18)), JR 20 17 (.bin .gtr 3 (.t 19) (JT 16777216)), JO 21 (.pick (.t 17) JX (.t 20))] (.t 21) (.seq (.reg [JO 22 (.bld [JV, JV] []), JQ (.st 2 (.g 2) (.t 22)), JI 3 50]) .ret) .skip) (.seq (.reg [JF 23 2 1, JQ (.st 2 (.g 2) (.t 23)), JI 3 0]) .ret)))
theorem fi79 : FI Tryd.prog 79 cf79 ac79 [.c 2 true 2, .t 3] [0, 1, 2, 3] 24 := FI_of (c := Tryd.f79.body.getD .skip) Tryd.func79 (by kernel_rfl) (by rfl) (by rfl) (by kernel_rfl) (by kernel_rfl) rfl rfl rfl
@[simp] theorem cfP79 : cf79.P = Tryd.prog := (rfl)
noncomputable def cf53 : Cfg := ⟨Tryd.prog, 10, [0, 1, 2], []⟩
noncomputable def ac53 : AC :=
 (.seq (.reg [JN 1 0, JP 2 (.mv (.c (.complex .f64 0 0)))]) (.seq (.reg [JG 3 0 1, JD 4 1 3, JO 5 (.cv 3 132 (.t 4)), JG 6 1 1, JD 7 1 6, JO 8 (.cv 3 132 (.t 7)), JO 9 (.bi .complex [.t 5, .t 8]), JB 2 9]) .ret))
theorem fi53 : FI Tryd.prog 53 cf53 ac53 [.t 2] [0, 1, 2] 10 := FI_of (c := Tryd.f53.body.getD .skip) Tryd.func53 (by kernel_rfl) (by rfl) (by rfl) (by kernel_rfl) (by kernel_rfl) rfl rfl rfl
@[simp] theorem cfP53 : cf53.P = Tryd.prog := (rfl)
abbrev I (n : Int) : D := .pl (.int .i64 n)
abbrev B (b : Bool) : D := .pl (.bool b)
set_option maxRecDepth 100000
open Go.Fx.Flt
theorem cvBT {l : List UInt8} : cvD Tryd.prog 37 9 (.sl (em c_ l)) = some (Tx l) := cv_BT (by kernel_rfl) (by kernel_rfl)
theorem cvB1 {c : UInt8} : cvD Tryd.prog 37 9 (.sl [[By c.toNat]]) = some (Tx [c]) := cv_B1 (by kernel_rfl) (by kernel_rfl) c
attribute [simp] cvBT cvB1
def isDg (c : UInt8) : Bool := decide (48 ≤ c.toNat) && decide (c.toNat ≤ 57)
def iX : List UInt8 → Int → Nat → Int × Nat
 | [], n, k => (n, k)
 | c :: r, n, k => if isDg c then iX r (min (10 * n + ((c.toNat : Int) - 48)) 16777217) (k + 1) else (n, k)
def signed (s : List UInt8) : Bool := s.head? == some 45
def bV (s : List UInt8) : Nat := if signed s then 1 else 0
def dS (s : List UInt8) : Int × Nat := iX (s.drop (bV s)) 0 (bV s)
def aQ (s : List UInt8) : Int × Nat := if (dS s).2 = bV s then (0, 0) else (if signed s then -(dS s).1 else (dS s).1, (dS s).2)
theorem t_ : ∀ (l : List UInt8) (n : Int) (k : Nat), 0 ≤ n → n ≤ 16777217 → 0 ≤ (iX l n k).1 ∧ (iX l n k).1 ≤ 16777217 ∧ k ≤ (iX l n k).2 ∧ (iX l n k).2 ≤ k + l.length
 | [], n, k, h1, h2 => ⟨h1, h2, Nat.le_refl _, Nat.le_refl _⟩
 | c :: r, n, k, h1, h2 => by
  unfold iX
  cases hc : isDg c
  ·simp; omega
  ·simp only [isDg, Bool.and_eq_true, decide_eq_true_eq] at hc
   have := t_ r (min (10 * n + ((c.toNat : Int) - 48)) 16777217) (k + 1) (by omega) (by omega)
   simp only [if_true, List.length_cons]
   omega
theorem wC {s : List UInt8} : signed s = true ↔ 0 < s.length ∧ bt8 s 0 = 45 := by
 unfold signed bt8
 cases s with
 | nil => simp
 | cons c r =>
  have : ((c.toNat : Int) = 45) ↔ c = 45 := ⟨fun h => UInt8.toNat.inj (by show c.toNat = 45; omega), fun h => by rw [h]; rfl⟩
  simp [this]
theorem wV {s : List UInt8} {k : Nat} (h : k < s.length) : ∃ c, s.drop k = c :: s.drop (k + 1) ∧ (c.toNat : Int) = bt8 s k := by
 refine ⟨s[k], List.drop_eq_getElem_cons h, ?_⟩
 unfold bt8
 rw [List.getElem?_eq_getElem h]; rfl
theorem mU (s : List UInt8) (hl : s.length < 2 ^ 46) (i : Int) (hi : i = (bV s : Int)) (hle : bV s ≤ s.length) {nx : Nat} (Q : Exit → St → Prop)
  (hq : ∀ m, Q (.exit 0) ⟨[(0, Tx s), (2, I 0), (3, I 0), (4, I i), (5, I (dS s).1), (6, I (dS s).2)], [], [], m⟩) :
  A cf78 (.loop lb78_0) Q [(0, Tx s), (2, I 0), (3, I 0), (4, I i), (5, I 0), (6, I i)] [] nx := by
 refine lpG cf78 lb78_0 [5, 6] (α := Nat × Int) (fun p _ => [(5, I p.2), (6, I p.1)]) (fun _ _ => []) (fun p _ => p.1 ≤ s.length ∧ 0 ≤ p.2 ∧ p.2 ≤ 16777217 ∧ iX (s.drop p.1) p.2 p.1 = dS s) (fun p => s.length - p.1) (bV s, 0) ⟨hle, by simp, by simp, rfl⟩ (by simp [hi]) (by simp) ?_
 rintro ⟨k, n⟩ m ⟨hk, h0, h1, hs⟩
 simp only at hk h0 h1 hs
 have out : (k < s.length → ¬ (48 ≤ bt8 s k ∧ bt8 s k ≤ 57)) → dS s = (n, k) := fun h => by
  rw [← hs]
  by_cases hlt : k < s.length
  ·obtain ⟨c, hc, hv⟩ := wV hlt
   rw [hc]
   unfold iX
   have : isDg c = false := by
    unfold isDg
    have := h hlt
    rw [Bool.and_eq_false_iff, decide_eq_false_iff_not, decide_eq_false_iff_not]
    omega
   rw [this]; rfl
  ·rw [List.drop_eq_nil_of_le (by omega)]; rfl
 by_cases hlt : k < s.length
 ·have hb := bt8_b s k
  by_cases hd : 48 ≤ bt8 s k ∧ bt8 s k ≤ 57
  ·have w1 := bB (x := 10 * n) (by omega) (by omega)
   have w2 := wru8 (x := bt8 s k - 48) (by omega) (by omega)
   have w3 := bB (x := bt8 s k - 48) (by omega) (by omega)
   have w4 := bB (x := 10 * n + (bt8 s k - 48)) (by omega) (by omega)
   have w5 := bB (x := (k : Int) + 1) (by omega) (by omega)
   simp -implicitDefEqProofs [lb78_0, hlt, hd.1, hd.2, w1, w2, w3, w4, w5]
   refine aL (k + 1, min (10 * n + (bt8 s k - 48)) 16777217) ⟨hlt, by omega, by omega, ?_⟩ (by simp; omega) (by simp) (by simp)
   rw [← hs]
   obtain ⟨c, hc, hv⟩ := wV hlt
   rw [hc, iX, if_pos, hv]
   simp [isDg]; omega
  ·have hq := hq
   rw [out (fun _ => hd)] at hq
   by_cases g1 : 48 ≤ bt8 s k
   ·have g2 : ¬ bt8 s k ≤ 57 := fun h => hd ⟨g1, h⟩
    simp -implicitDefEqProofs [lb78_0, hlt, g1, g2]
    exact hq _
   ·simp -implicitDefEqProofs [lb78_0, hlt, g1]
    exact hq _
 ·rw [out (fun h => absurd h hlt)] at hq
  simp -implicitDefEqProofs [lb78_0, hlt]
  exact hq _
theorem rI (s : List UInt8) (hl : s.length < 2 ^ 46) : Pure Tryd.prog 78 [Tx s] (.tup [I (aQ s).1, I (aQ s).2]) := by
 have hb := t_ (s.drop (bV s)) 0 (bV s) (by decide) (by decide)
 rw [show iX (s.drop (bV s)) 0 (bV s) = dS s from rfl] at hb
 refine fi78.pu (by simp) ?_
 cases hs : signed s
 ·have hn : ¬ (0 < s.length ∧ bt8 s 0 = 45) := fun h => by rw [wC.2 h] at hs; simp at hs
  have hi : bV s = 0 := by unfold bV; rw [hs]; rfl
  rw [hi] at hb
  by_cases h0 : 0 < s.length
  ·have h2 : ¬ bt8 s 0 = 45 := fun h => hn ⟨h0, by omega⟩
   simp -implicitDefEqProofs [ac78, h0, h2]
   refine mU s hl 0 (by rw [hi]; rfl) (by omega) _ (fun m => ?_)
   by_cases h3 : (dS s).2 = 0
   ·simp -implicitDefEqProofs [h3, aQ, hi]
   ·simp -implicitDefEqProofs [h3, aQ, hi, hs]
  ·simp -implicitDefEqProofs [ac78, h0]
   refine mU s hl 0 (by rw [hi]; rfl) (by omega) _ (fun m => ?_)
   by_cases h3 : (dS s).2 = 0
   ·simp -implicitDefEqProofs [h3, aQ, hi]
   ·simp -implicitDefEqProofs [h3, aQ, hi, hs]
 ·obtain ⟨h0, h2⟩ := wC.1 hs
  have hi : bV s = 1 := by unfold bV; rw [hs]; rfl
  rw [hi] at hb
  simp -implicitDefEqProofs [ac78, h0, h2]
  refine mU s hl 1 (by rw [hi]; rfl) (by omega) _ (fun m => ?_)
  by_cases h3 : (dS s).2 = 1
  ·simp -implicitDefEqProofs [h3, aQ, hi]
  ·have h4 : ¬ ((dS s).2 : Int) = 1 := by omega
   have w := bB (x := -(dS s).1) (by omega) (by omega)
   simp -implicitDefEqProofs [h3, h4, aQ, hi, hs, w]
def dc (n : Nat) : UInt8 := UInt8.ofNat (48 + n % 10)
theorem dc_n (n : Nat) : (dc n).toNat = 48 + n % 10 := by
 unfold dc
 rw [UInt8.toNat_ofNat']
 exact Nat.mod_eq_of_lt (by show 48 + n % 10 < 256; omega)
def iZ : Nat → Nat → List UInt8
 | 0, n => [dc n]
 | f + 1, n => if 10 ≤ n then iZ f (n / 10) ++ [dc n] else [dc n]
def eM (n : Int) : List UInt8 := if n < 0 then 45 :: iZ 8 n.natAbs else iZ 8 n.natAbs
theorem mX : ∀ (f n : Nat), (iZ f n).length ≤ f + 1
 | 0, n => by simp [iZ]
 | f + 1, n => by
  have := mX f (n / 10)
  unfold iZ
  split
  ·simp; omega
  ·simp
theorem u4 (n : Int) : (eM n).length ≤ 10 := by
 have := mX 8 n.natAbs
 unfold eM
 split
 ·simp; omega
 ·omega
theorem xY : ∀ (f n : Nat), n < 10 ^ (f + 1) → f ≤ 8 → Pure Tryd.prog 94 [I n] (Tx (iZ f n)) := by
 intro f
 induction f with
 | zero =>
  intro n hn _
  have hn : n < 10 := by simpa using hn
  refine fi94.pu (by simp) ?_
  have h0 : ¬ (n : Int) < 0 := by omega
  have h1 : ¬ (10 : Int) ≤ (n : Int) := by omega
  have w0 : ((n : Int).tmod 10) = (n : Int) % 10 := Int.tmod_eq_emod_of_nonneg (by omega)
  have w1 : IntKind.i64.wrap (48 + (n : Int) % 10) = (dc n).toNat := by rw [dc_n, bB (by omega) (by omega)]; omega
  have w2 : IntKind.u8.wrap ((dc n).toNat : Int) = (dc n).toNat := by
   have := (dc n).toNat_lt
   exact wru8 (by omega) (by omega)
  simp -implicitDefEqProofs [ac94, h0, h1, w0, w1, w2, iZ]
 | succ f ih =>
  intro n hn hf
  have hp : 10 ^ (f + 1 + 1) = 10 * 10 ^ (f + 1) := by rw [Nat.pow_succ, Nat.mul_comm]
  have hd : n / 10 < 10 ^ (f + 1) := by omega
  have hc := ih (n / 10) hd (by omega)
  have hl := mX f (n / 10)
  have hadd := bY (P := Tryd.prog) (ty := 9) (l := iZ f (n / 10)) (k := [dc n]) (by simp; omega)
  refine fi94.pu (by simp) ?_
  have h0 : ¬ (n : Int) < 0 := by omega
  have w0 : ((n : Int).tmod 10) = (n : Int) % 10 := Int.tmod_eq_emod_of_nonneg (by omega)
  have w1 : IntKind.i64.wrap (48 + (n : Int) % 10) = (dc n).toNat := by rw [dc_n, bB (by omega) (by omega)]; omega
  have w2 : IntKind.u8.wrap ((dc n).toNat : Int) = (dc n).toNat := by
   have := (dc n).toNat_lt
   exact wru8 (by omega) (by omega)
  have p9 : 10 ^ (f + 1) ≤ 10 ^ 9 := Nat.pow_le_pow_right (by decide) (by omega)
  by_cases h1 : 10 ≤ n
  ·have h1' : (10 : Int) ≤ (n : Int) := by omega
   have w3 : IntKind.i64.wrap ((n : Int) / 10) = (n : Int) / 10 := bB (by omega) (by omega)
   have e : ((n / 10 : Nat) : Int) = (n : Int) / 10 := by omega
   rw [e] at hc
   simp -implicitDefEqProofs [ac94, h0, h1', w0, w1, w2, w3]
   refine aH (hc) (by simp) ?_
   simp -implicitDefEqProofs [hadd]
   simp -implicitDefEqProofs [iZ, h1]
  ·have h1' : ¬ (10 : Int) ≤ (n : Int) := by omega
   simp -implicitDefEqProofs [ac94, h0, h1', w0, w1, w2, iZ, h1]
theorem vB (n : Int) (hn : n.natAbs < 10 ^ 9) : Pure Tryd.prog 94 [I n] (Tx (eM n)) := by
 have hc := xY 8 n.natAbs hn (by decide)
 unfold eM
 by_cases h : n < 0
 ·rw [if_pos h]
  have e : ((n.natAbs : Nat) : Int) = -n := by omega
  rw [e] at hc
  have w := bB (x := -n) (by omega) (by omega)
  have hl := mX 8 n.natAbs
  have hadd := bY (P := Tryd.prog) (ty := 9) (l := [45]) (k := iZ 8 n.natAbs) (by simp; omega)
  refine fi94.pu (by simp) ?_
  simp -implicitDefEqProofs [ac94, h, w]
  refine aH (hc) (by simp) ?_
  simp -implicitDefEqProofs [hadd]
 ·rw [if_neg h]
  have e : ((n.natAbs : Nat) : Int) = n := by omega
  rw [e] at hc
  exact hc
def qN (re im : Int) : List UInt8 := if im = 0 then eM re else if re = 0 then eM im ++ [105] else if 0 < im then ((eM re ++ [43]) ++ eM im) ++ [105] else (eM re ++ eM im) ++ [105]
theorem qM (re im : Int) (h1 : re.natAbs < 10 ^ 9) (h2 : im.natAbs < 10 ^ 9) : Pure Tryd.prog 80 [.agg [I re, I im]] (Tx (qN re im)) := by
 have c1 := vB re h1
 have c2 := vB im h2
 have l1 := u4 re
 have l2 := u4 im
 refine fi80.pu (by simp) ?_
 unfold qN
 by_cases a : im = 0
 ·simp -implicitDefEqProofs [ac80, a]
  refine aH (c1) (by simp) ?_
  simp -implicitDefEqProofs
 ·by_cases b : re = 0
  ·have hadd := bY (P := Tryd.prog) (ty := 9) (l := eM im) (k := [105]) (by simp; omega)
   simp -implicitDefEqProofs [ac80, a, b]
   refine aH (c2) (by simp) ?_
   simp -implicitDefEqProofs [hadd]
  ·by_cases c : 0 < im
   ·have a1 := bY (P := Tryd.prog) (ty := 9) (l := eM re) (k := [43]) (by simp; omega)
    have a2 := bY (P := Tryd.prog) (ty := 9) (l := eM re ++ [43]) (k := eM im) (by simp; omega)
    have a3 := bY (P := Tryd.prog) (ty := 9) (l := eM re ++ 43 :: eM im) (k := [105]) (by simp; omega)
    rw [if_neg a, if_neg b, if_pos c]
    simp -implicitDefEqProofs [ac80, a, b, c]
    refine aH (c1) (by simp) ?_
    simp -implicitDefEqProofs [a1]
    refine aH (c2) (by simp) ?_
    simp -implicitDefEqProofs [a2, a3]
   ·have a2 := bY (P := Tryd.prog) (ty := 9) (l := eM re) (k := eM im) (by simp; omega)
    have a3 := bY (P := Tryd.prog) (ty := 9) (l := (eM re) ++ eM im) (k := [105]) (by simp; omega)
    rw [if_neg a, if_neg b, if_neg c]
    simp -implicitDefEqProofs [ac80, a, b, c]
    refine aH (c1) (by simp) ?_
    simp -implicitDefEqProofs
    refine aH (c2) (by simp) ?_
    simp -implicitDefEqProofs [a2, a3]
def inB (n m : Int) : Bool := (decide (-16777216 ≤ n) && decide (n ≤ 16777216)) && (decide (-16777216 ≤ m) && decide (m ≤ 16777216))
theorem tM (n m : Int) : Pure Tryd.prog 79 [.agg [I n, I m]] (if inB n m = true then .tup [.agg [I n, I m], I 0] else .tup [.agg [I 0, I 0], I 50]) := by
 refine fi79.pu (by simp) ?_
 unfold inB
 by_cases a : -16777216 ≤ n <;> by_cases b : n ≤ 16777216 <;> by_cases c : -16777216 ≤ m <;> by_cases d : m ≤ 16777216 <;> simp -implicitDefEqProofs [ac79, a, b, c, d] <;> (first | omega | skip)
def bF (s : List UInt8) : List UInt8 := s.drop (aQ s).2
def e7 (s : List UInt8) : Int × Int :=
 if bF s = [105] then (0, (aQ s).1) else if bF s = [] then ((aQ s).1, 0) else
 if bt8 (bF s) 0 = 43 then ((aQ s).1, (aQ ((bF s).tail)).1) else ((aQ s).1, (aQ (bF s)).1)
def jH (s : List UInt8) : Bool := decide (¬ (aQ s).2 = 0) && (inB (e7 s).1 (e7 s).2 && decide (qN (e7 s).1 (e7 s).2 = s))
def gW (s : List UInt8) : Int × Int := if jH s then e7 s else (0, 0)
theorem lJ (s : List UInt8) : -16777217 ≤ (aQ s).1 ∧ (aQ s).1 ≤ 16777217 ∧ (aQ s).2 ≤ bV s + (s.drop (bV s)).length := by
 have hb := t_ (s.drop (bV s)) 0 (bV s) (by decide) (by decide)
 rw [show iX (s.drop (bV s)) 0 (bV s) = dS s from rfl] at hb
 unfold aQ
 split
 ·simp
 ·split
  ·simp only; omega
  ·simp only; omega
theorem zC (s : List UInt8) : (aQ s).2 ≤ s.length := by
 have h := (lJ s).2.2
 have hi : bV s ≤ s.length ∨ bV s = 1 ∧ s = [] := by
  unfold bV
  split
  ·cases s with
   | nil => exact .inr ⟨rfl, rfl⟩
   | cons c r => left; simp
  ·left; omega
 rcases hi with hi | ⟨hi, rfl⟩
 ·simp only [List.length_drop] at h; omega
 ·simp [bV, signed] at hi
theorem DA (s : List UInt8) (hl : s.length < 2 ^ 46) : Pure Tryd.prog 52 [Tx s] (.tup [.agg [I (gW s).1, I (gW s).2], I (if jH s then 0 else 10)]) := by
 have c1 := rI s hl
 have hle := zC s
 have hb1 := lJ s
 refine fi52.pu (by simp) ?_
 by_cases h0 : (aQ s).2 = 0
 ·have hk : jH s = false := by simp [jH, h0]
  rw [h0] at c1
  unfold gW
  rw [hk]
  simp -implicitDefEqProofs [ac52]
  refine aH (c1) (by simp) ?_
  simp -implicitDefEqProofs
 ·have h0' : ¬ ((aQ s).2 : Int) = 0 := by omega
  have hk : jH s = (inB (e7 s).1 (e7 s).2 && decide (qN (e7 s).1 (e7 s).2 = s)) := by simp [jH, h0]
  have fin : ∀ n : Int × Int, e7 s = n → (n.1.natAbs ≤ 16777217 ∧ n.2.natAbs ≤ 16777217) → ∃ q : Bool, jH s = (inB n.1 n.2 && q) ∧ gW s = (if inB n.1 n.2 && q then n else (0, 0)) ∧ decide (qN n.1 n.2 = s) = q := fun n hn _ => by
   refine ⟨_, ?_, ?_, rfl⟩
   ·rw [hk, hn]
   ·unfold gW; rw [hk, hn]
  have hrl : (bF s).length < 2 ^ 46 := by unfold bF; simp only [List.length_drop]; omega
  have hrest : s.drop (aQ s).2 = bF s := rfl
  have hW1 := hb1.1
  have hW2 := hb1.2.1
  have hle' : ((aQ s).2 : Int) ≤ s.length := by omega
  simp -implicitDefEqProofs [ac52]
  refine aH (c1) (by simp) ?_
  simp -implicitDefEqProofs [h0, h0', hle', hrest]
  by_cases r1 : bF s = [105]
  ·have hn : e7 s = (0, (aQ s).1) := by unfold e7; rw [if_pos r1]
   simp -implicitDefEqProofs [r1]
   obtain ⟨q, e1, e2, e3⟩ := fin (0, (aQ s).1) hn ⟨by simp only; omega, by simp only; omega⟩
   simp only at e1 e2 e3
   have t1 := tM (0) ((aQ s).1)
   have t2 := qM (0) ((aQ s).1) (by omega) (by omega)
   rw [e2, e1]
   cases hB : inB (0) ((aQ s).1)
   ·rw [hB] at t1
    refine aH (t1) (by simp) ?_
    simp -implicitDefEqProofs
   ·rw [hB] at t1
    refine aH (t1) (by simp) ?_
    simp -implicitDefEqProofs
    refine aH (t2) (by simp) ?_
    simp -implicitDefEqProofs [e3]
    cases q <;> simp -implicitDefEqProofs
  ·by_cases r2 : bF s = []
   ·have hn : e7 s = ((aQ s).1, 0) := by unfold e7; rw [if_neg r1, if_pos r2]
    simp -implicitDefEqProofs [r2]
    obtain ⟨q, e1, e2, e3⟩ := fin ((aQ s).1, 0) hn ⟨by simp only; omega, by simp only; omega⟩
    simp only at e1 e2 e3
    have t1 := tM ((aQ s).1) (0)
    have t2 := qM ((aQ s).1) (0) (by omega) (by omega)
    rw [e2, e1]
    cases hB : inB ((aQ s).1) (0)
    ·rw [hB] at t1
     refine aH (t1) (by simp) ?_
     simp -implicitDefEqProofs
    ·rw [hB] at t1
     refine aH (t1) (by simp) ?_
     simp -implicitDefEqProofs
     refine aH (t2) (by simp) ?_
     simp -implicitDefEqProofs [e3]
     cases q <;> simp -implicitDefEqProofs
   ·have hpos : 0 < (bF s).length := List.length_pos_iff.2 r2
    by_cases r3 : bt8 (bF s) 0 = 43
    ·have hn : e7 s = ((aQ s).1, (aQ ((bF s).tail)).1) := by unfold e7; rw [if_neg r1, if_neg r2, if_pos r3]
     have c2 := rI ((bF s).tail) (by simp only [List.length_tail]; omega)
     have hb2 := lJ ((bF s).tail)
     have hge : (1 : Int) ≤ (bF s).length := by omega
     simp -implicitDefEqProofs [r1, r2, hpos, r3, hge]
     refine aH (c2) (by simp) ?_
     simp -implicitDefEqProofs
     obtain ⟨q, e1, e2, e3⟩ := fin ((aQ s).1, (aQ ((bF s).tail)).1) hn ⟨by simp only; omega, by simp only; omega⟩
     simp only at e1 e2 e3
     have t1 := tM ((aQ s).1) ((aQ ((bF s).tail)).1)
     have t2 := qM ((aQ s).1) ((aQ ((bF s).tail)).1) (by omega) (by omega)
     rw [e2, e1]
     cases hB : inB ((aQ s).1) ((aQ ((bF s).tail)).1)
     ·rw [hB] at t1
      refine aH (t1) (by simp) ?_
      simp -implicitDefEqProofs
     ·rw [hB] at t1
      refine aH (t1) (by simp) ?_
      simp -implicitDefEqProofs
      refine aH (t2) (by simp) ?_
      simp -implicitDefEqProofs [e3]
      cases q <;> simp -implicitDefEqProofs
    ·have hn : e7 s = ((aQ s).1, (aQ (bF s)).1) := by unfold e7; rw [if_neg r1, if_neg r2, if_neg r3]
     have c2 := rI (bF s) hrl
     have hb2 := lJ (bF s)
     simp -implicitDefEqProofs [r1, r2, hpos, r3]
     refine aH (c2) (by simp) ?_
     simp -implicitDefEqProofs
     obtain ⟨q, e1, e2, e3⟩ := fin ((aQ s).1, (aQ (bF s)).1) hn ⟨by simp only; omega, by simp only; omega⟩
     simp only at e1 e2 e3
     have t1 := tM ((aQ s).1) ((aQ (bF s)).1)
     have t2 := qM ((aQ s).1) ((aQ (bF s)).1) (by omega) (by omega)
     rw [e2, e1]
     cases hB : inB ((aQ s).1) ((aQ (bF s)).1)
     ·rw [hB] at t1
      refine aH (t1) (by simp) ?_
      simp -implicitDefEqProofs
     ·rw [hB] at t1
      refine aH (t1) (by simp) ?_
      simp -implicitDefEqProofs
      refine aH (t2) (by simp) ?_
      simp -implicitDefEqProofs [e3]
      cases q <;> simp -implicitDefEqProofs
structure Cx where
 re : Nat
 im : Nat
deriving Inhabited, DecidableEq
def Cx.lt (z : Cx) : Prop := z.re < 2 ^ 64 ∧ z.im < 2 ^ 64
def Cx.ok (z : Cx) : Bool := yW z.re && yW z.im
structure Mk where
 kind : Int
 text : List UInt8
 num : Cx
 at' : Int
instance : Inhabited Mk := ⟨⟨0, [], ⟨0, 0⟩, 0⟩⟩
def aB (m : Mk) : List D := [I m.kind, Tx m.text, CX m.num.re m.num.im, I m.at']
theorem ia_Mk {l : List Mk} {mem : Mem} {j : IntKind} {i : Int} : iaD mem 4 (.sl (em aB l)) (.pl (.int j i)) = if 0 ≤ i ∧ i < l.length then some (.pt [I (l[i.toNat]?.getD default).kind, Tx (l[i.toNat]?.getD default).text, CX (l[i.toNat]?.getD default).num.re (l[i.toNat]?.getD default).num.im, I (l[i.toNat]?.getD default).at']) else none := oT fun _ => rfl
theorem imm_Mk (l : List Mk) : D.immss (em aB l) = true := lG fun _ => rfl
theorem yB (l : List Mk) (m : Mk) : em aB l ++ [[I m.kind, Tx m.text, CX m.num.re m.num.im, I m.at']] = em aB (l ++ [m]) := oC
attribute [simp] ia_Mk imm_Mk
def ltrI (v : Int) : Bool := (decide (65 ≤ v) && decide (v ≤ 90)) || (decide (97 ≤ v) && decide (v ≤ 122))
def dgI (v : Int) : Bool := decide (48 ≤ v) && decide (v ≤ 57)
def idI (v : Int) : Bool := ltrI v || (dgI v || decide (v = 95))
def jT (v : Int) : Bool := decide (v = 9) || (decide (v = 10) || (decide (v = 13) || decide (v = 32)))
theorem BZ (v : Int) : Pure Tryd.prog 77 [By v] (B (ltrI v)) := by
 refine fi77.pu (by simp) ?_
 unfold ltrI
 by_cases a : 65 ≤ v <;> by_cases b : v ≤ 90 <;> by_cases c : 97 ≤ v <;> by_cases d : v ≤ 122 <;> simp -implicitDefEqProofs [ac77, a, b, c, d]
theorem v_ (v : Int) : Pure Tryd.prog 51 [By v] (B (dgI v)) := by
 refine fi51.pu (by simp) ?_
 unfold dgI
 by_cases a : 48 ≤ v <;> by_cases b : v ≤ 57 <;> simp -implicitDefEqProofs [ac51, a, b]
theorem DU (v : Int) : Pure Tryd.prog 39 [By v] (B (jT v)) := by
 refine fi39.pu (by simp) ?_
 unfold jT
 by_cases a : v = 9 <;> by_cases b : v = 10 <;> by_cases c : v = 13 <;> by_cases d : v = 32 <;> simp -implicitDefEqProofs [ac39, a, b, c, d]
def wordsL : List (List UInt8) := [[66], [76], [78], [99, 97, 115, 101], [99, 111, 110, 106], [101, 108, 115, 101], [102, 97, 105, 108], [102, 97, 108, 115, 101], [105, 102], [105, 109], [105, 110], [108, 101, 116], [110, 105, 108], [110, 111, 116], [111, 102], [114, 101], [115, 116, 114, 105, 99, 116], [116, 104, 101, 110], [116, 114, 117, 101]]
theorem B5 : Pure Tryd.prog 81 [] (.sl (em bC wordsL)) := by
 refine fi81.pu (by simp) ?_
 simp -implicitDefEqProofs [ac81]
 rfl
def resv (s : List UInt8) : Bool := wordsL.any fun w => decide (w = s)
theorem xC (s : List UInt8) : Pure Tryd.prog 54 [Tx s] (B (resv s)) := by
 refine fi54.pu (by simp) ?_
 unfold resv
 generalize hW : wordsL = W
 generalize hr : (W.any fun w => decide (w = s)) = r
 have hl : W.length = 19 := by rw [← hW]; rfl
 have hc := B5
 rw [hW] at hc
 simp -implicitDefEqProofs [ac54]
 refine aH (hc) (by simp) ?_
 simp -implicitDefEqProofs
 refine lpG cf54 lb54_0 [2, 4] (α := Nat) (fun i _ => [(4, I i)]) (fun _ _ => []) (fun i _ => i ≤ W.length ∧ r = (W.drop i).any (fun w => decide (w = s))) (fun i => W.length - i) 0 ⟨by omega, by rw [← hr]; rfl⟩ (by simp) (by simp) ?_
 rintro i m ⟨hi, he⟩
 simp -implicitDefEqProofs [lb54_0]
 refine ⟨fun hlt => ⟨hlt, ?_⟩, fun hge => ?_⟩
 ·have hg : W[i]?.getD default = W[i] := by rw [List.getElem?_eq_getElem hlt]; rfl
  have hd : W.drop i = W[i] :: W.drop (i + 1) := List.drop_eq_getElem_cons hlt
  rw [hd] at he
  have w1 := bB (x := (i : Int) + 1) (by omega) (by omega)
  by_cases h : W[i] = s
  ·have : r = true := by rw [he]; simp [h]
   subst this
   simp -implicitDefEqProofs [hg, h]
  ·simp -implicitDefEqProofs [hg, h, w1]
   exact aL (i + 1) ⟨hlt, by rw [he, List.any_cons, decide_eq_false h]; rfl⟩ (by omega) (by simp) (by simp)
 ·rw [List.drop_eq_nil_of_le hge] at he
  subst he
  simp -implicitDefEqProofs
def pE : Nat → List UInt8 → Nat → Nat → Nat
 | 0, _, _, n => n
 | f + 1, t, p, n => if decide (p + n < t.length) && idI (bt8 t (p + n)) then pE f t p (n + 1) else n
def runL (t : List UInt8) (p : Nat) : Nat := pE (t.length - p) t p 0
theorem wA : ∀ (f : Nat) (t : List UInt8) (p n : Nat), p + n ≤ t.length → n ≤ pE f t p n ∧ p + pE f t p n ≤ t.length
 | 0, t, p, n, h => ⟨Nat.le_refl _, h⟩
 | f + 1, t, p, n, h => by
  unfold pE
  split
  ·rename_i hc
   simp only [Bool.and_eq_true, decide_eq_true_eq] at hc
   have := wA f t p (n + 1) (by omega)
   omega
  ·exact ⟨Nat.le_refl _, h⟩
theorem run_c (t : List UInt8) (p : Nat) (hl : t.length < 2 ^ 46) (hp : p ≤ t.length) : Pure Tryd.prog 50 [.sl (em c_ t), I p] (I (runL t p)) := by
 refine fi50.pu (by simp) ?_
 simp -implicitDefEqProofs [ac50]
 refine lpG cf50 lb50_0 [5] (α := Nat) (fun n _ => [(5, I n)]) (fun _ _ => []) (fun n _ => p + n ≤ t.length ∧ pE (t.length - p - n) t p n = runL t p) (fun n => t.length - p - n) 0 ⟨by omega, by simp [runL]⟩ (by simp) (by simp) ?_
 rintro n m ⟨hn, he⟩
 have w1 := bB (x := (p : Int) + (n : Int)) (by omega) (by omega)
 have w2 := bB (x := (n : Int) + 1) (by omega) (by omega)
 have tn : ((p : Int) + (n : Int)).toNat = p + n := by omega
 have c1 := BZ (bt8 t (p + n))
 have c2 := v_ (bt8 t (p + n))
 by_cases h : p + n < t.length
 ·have h' : (p : Int) + (n : Int) < t.length := by omega
  have h0 : (0 : Int) ≤ (p : Int) + (n : Int) := by omega
  obtain ⟨f, hf⟩ : ∃ f, t.length - p - n = f + 1 := ⟨t.length - p - n - 1, by omega⟩
  have hf2 : t.length - p - (n + 1) = f := by omega
  rw [hf] at he
  unfold pE at he
  rw [decide_eq_true h, Bool.true_and] at he
  unfold idI at he
  cases a : ltrI (bt8 t (p + n)) <;> rw [a] at c1 he
  ·cases b : dgI (bt8 t (p + n)) <;> rw [b] at c2 he
   ·by_cases c : bt8 t (p + n) = 95
    ·simp -implicitDefEqProofs [lb50_0, w1, h', h0, tn]
     refine aH (c1) (by simp) ?_
     simp -implicitDefEqProofs [w1, h', h0, tn]
     refine aH (c2) (by simp) ?_
     simp -implicitDefEqProofs [w1, h', h0, tn, c, w2]
     refine aL (n + 1) ⟨by omega, ?_⟩ (by omega) (by simp) (by simp)
     rw [hf2]; simpa [c] using he
    ·have : n = runL t p := by simpa [c] using he
     rw [← this]
     simp -implicitDefEqProofs [lb50_0, w1, h', h0, tn]
     refine aH (c1) (by simp) ?_
     simp -implicitDefEqProofs [w1, h', h0, tn]
     refine aH (c2) (by simp) ?_
     simp -implicitDefEqProofs [w1, h', h0, tn, c, w2]
   ·simp -implicitDefEqProofs [lb50_0, w1, h', h0, tn]
    refine aH (c1) (by simp) ?_
    simp -implicitDefEqProofs [w1, h', h0, tn]
    refine aH (c2) (by simp) ?_
    simp -implicitDefEqProofs [w2]
    refine aL (n + 1) ⟨by omega, ?_⟩ (by omega) (by simp) (by simp)
    rw [hf2]; simpa using he
  ·simp -implicitDefEqProofs [lb50_0, w1, h', h0, tn]
   refine aH (c1) (by simp) ?_
   simp -implicitDefEqProofs [w2]
   refine aL (n + 1) ⟨by omega, ?_⟩ (by omega) (by simp) (by simp)
   rw [hf2]; simpa using he
 ·have h' : ¬ (p : Int) + (n : Int) < t.length := by omega
  have e0 : t.length - p - n = 0 := by omega
  rw [e0] at he
  have : n = runL t p := he
  rw [← this]
  simp -implicitDefEqProofs [lb50_0, w1, h']
def bA (v : Int) : Nat := if (decide (v = 40) || decide (v = 41) || decide (v = 44) || decide (v = 58) || decide (v = 59) || decide (v = 61) || decide (v = 43) || decide (v = 45) || decide (v = 42) || decide (v = 47) || decide (v = 60) || decide (v = 124)) then 1 else 0
def iI (t : List UInt8) (p : Nat) : Nat :=
 if decide (p + 1 < t.length) && ((decide (bt8 t p = 45) && decide (bt8 t (p + 1) = 62)) || (decide (bt8 t p = 61) && decide (bt8 t (p + 1) = 61))) then 2 else bA (bt8 t p)
theorem sign_c (t : List UInt8) (p : Nat) (hl : t.length < 2 ^ 46) (hp : p < t.length) : Pure Tryd.prog 55 [.sl (em c_ t), I p] (I (iI t p)) := by
 refine fi55.pu (by simp) ?_
 have w1 := bB (x := (p : Int) + 1) (by omega) (by omega)
 have tn : ((p : Int) + 1).toNat = p + 1 := by omega
 have h0 : (0 : Int) ≤ (p : Int) + 1 := by omega
 have hpi : (p : Int) < t.length := by omega
 unfold iI
 generalize hu : bt8 t (p + 1) = u at *
 generalize hv : bt8 t p = v at *
 by_cases hp1 : p + 1 < t.length
 ·have hp2 : (p : Int) + 1 < t.length := by omega
  by_cases a : v = 45
  ·by_cases b : u = 62
   ·rw [if_pos (by simp [hp1, a, b])]
    simp -implicitDefEqProofs [ac55, w1, tn, h0, hp, hp2, hu, hv, a, b]
   ·rw [if_neg (by simp [hp1, a, b])]
    have e : bA v = 1 := by unfold bA; rw [a]; rfl
    rw [e]
    simp -implicitDefEqProofs [ac55, w1, tn, h0, hp, hp2, hu, hv, a, b]
  ·by_cases c : v = 61
   ·by_cases b : u = 61
    ·rw [if_pos (by simp [hp1, c, b])]
     simp -implicitDefEqProofs [ac55, w1, tn, h0, hp, hp2, hu, hv, a, c, b]
    ·rw [if_neg (by simp [hp1, c, b])]
     have e : bA v = 1 := by unfold bA; rw [c]; rfl
     rw [e]
     simp -implicitDefEqProofs [ac55, w1, tn, h0, hp, hp2, hu, hv, a, c, b]
   ·rw [if_neg (by simp [a, c])]
    by_cases h40 : v = 40
    ·have e : bA v = 1 := by unfold bA; rw [h40]; rfl
     rw [e]
     simp -implicitDefEqProofs [ac55, w1, tn, h0, hp, hp2, hu, hv, a, c, h40]
    ·
     by_cases h41 : v = 41
     ·have e : bA v = 1 := by unfold bA; rw [h41]; rfl
      rw [e]
      simp -implicitDefEqProofs [ac55, w1, tn, h0, hp, hp2, hu, hv, a, c, h40, h41]
     ·
      by_cases h44 : v = 44
      ·have e : bA v = 1 := by unfold bA; rw [h44]; rfl
       rw [e]
       simp -implicitDefEqProofs [ac55, w1, tn, h0, hp, hp2, hu, hv, a, c, h40, h41, h44]
      ·
       by_cases h58 : v = 58
       ·have e : bA v = 1 := by unfold bA; rw [h58]; rfl
        rw [e]
        simp -implicitDefEqProofs [ac55, w1, tn, h0, hp, hp2, hu, hv, a, c, h40, h41, h44, h58]
       ·
        by_cases h59 : v = 59
        ·have e : bA v = 1 := by unfold bA; rw [h59]; rfl
         rw [e]
         simp -implicitDefEqProofs [ac55, w1, tn, h0, hp, hp2, hu, hv, a, c, h40, h41, h44, h58, h59]
        ·
         have h61 : ¬ v = 61 := c
         by_cases h43 : v = 43
         ·have e : bA v = 1 := by unfold bA; rw [h43]; rfl
          rw [e]
          simp -implicitDefEqProofs [ac55, w1, tn, h0, hp, hp2, hu, hv, a, c, h40, h41, h44, h58, h59, h61, h43]
         ·
          have h45 : ¬ v = 45 := a
          by_cases h42 : v = 42
          ·have e : bA v = 1 := by unfold bA; rw [h42]; rfl
           rw [e]
           simp -implicitDefEqProofs [ac55, w1, tn, h0, hp, hp2, hu, hv, a, c, h40, h41, h44, h58, h59, h61, h43, h45, h42]
          ·
           by_cases h47 : v = 47
           ·have e : bA v = 1 := by unfold bA; rw [h47]; rfl
            rw [e]
            simp -implicitDefEqProofs [ac55, w1, tn, h0, hp, hp2, hu, hv, a, c, h40, h41, h44, h58, h59, h61, h43, h45, h42, h47]
           ·
            by_cases h60 : v = 60
            ·have e : bA v = 1 := by unfold bA; rw [h60]; rfl
             rw [e]
             simp -implicitDefEqProofs [ac55, w1, tn, h0, hp, hp2, hu, hv, a, c, h40, h41, h44, h58, h59, h61, h43, h45, h42, h47, h60]
            ·
             by_cases h124 : v = 124
             ·have e : bA v = 1 := by unfold bA; rw [h124]; rfl
              rw [e]
              simp -implicitDefEqProofs [ac55, w1, tn, h0, hp, hp2, hu, hv, a, c, h40, h41, h44, h58, h59, h61, h43, h45, h42, h47, h60, h124]
             ·
              have e : bA v = 0 := by unfold bA; simp only [h40, decide_false, Bool.or_self, h41, decide_false, Bool.or_self, h44, decide_false, Bool.or_self, h58, decide_false, Bool.or_self, h59, decide_false, Bool.or_self, h61, decide_false, Bool.or_self, h43, decide_false, Bool.or_self, h45, decide_false, Bool.or_self, h42, decide_false, Bool.or_self, h47, decide_false, Bool.or_self, h60, decide_false, Bool.or_self, h124, decide_false, Bool.or_self]; rfl
              rw [e]
              simp -implicitDefEqProofs [ac55, w1, tn, h0, hp, hp2, hu, hv, a, c, h40, h41, h44, h58, h59, h61, h43, h45, h42, h47, h60, h124]
 ·have hp2 : ¬ (p : Int) + 1 < t.length := by omega
  rw [if_neg (by simp [hp1])]
  by_cases h40 : v = 40
  ·have e : bA v = 1 := by unfold bA; rw [h40]; rfl
   rw [e]
   simp -implicitDefEqProofs [ac55, w1, tn, h0, hp, hp2, hu, hv, h40]
  ·
   by_cases h41 : v = 41
   ·have e : bA v = 1 := by unfold bA; rw [h41]; rfl
    rw [e]
    simp -implicitDefEqProofs [ac55, w1, tn, h0, hp, hp2, hu, hv, h40, h41]
   ·
    by_cases h44 : v = 44
    ·have e : bA v = 1 := by unfold bA; rw [h44]; rfl
     rw [e]
     simp -implicitDefEqProofs [ac55, w1, tn, h0, hp, hp2, hu, hv, h40, h41, h44]
    ·
     by_cases h58 : v = 58
     ·have e : bA v = 1 := by unfold bA; rw [h58]; rfl
      rw [e]
      simp -implicitDefEqProofs [ac55, w1, tn, h0, hp, hp2, hu, hv, h40, h41, h44, h58]
     ·
      by_cases h59 : v = 59
      ·have e : bA v = 1 := by unfold bA; rw [h59]; rfl
       rw [e]
       simp -implicitDefEqProofs [ac55, w1, tn, h0, hp, hp2, hu, hv, h40, h41, h44, h58, h59]
      ·
       by_cases h61 : v = 61
       ·have e : bA v = 1 := by unfold bA; rw [h61]; rfl
        rw [e]
        simp -implicitDefEqProofs [ac55, w1, tn, h0, hp, hp2, hu, hv, h40, h41, h44, h58, h59, h61]
       ·
        by_cases h43 : v = 43
        ·have e : bA v = 1 := by unfold bA; rw [h43]; rfl
         rw [e]
         simp -implicitDefEqProofs [ac55, w1, tn, h0, hp, hp2, hu, hv, h40, h41, h44, h58, h59, h61, h43]
        ·
         by_cases h45 : v = 45
         ·have e : bA v = 1 := by unfold bA; rw [h45]; rfl
          rw [e]
          simp -implicitDefEqProofs [ac55, w1, tn, h0, hp, hp2, hu, hv, h40, h41, h44, h58, h59, h61, h43, h45]
         ·
          by_cases h42 : v = 42
          ·have e : bA v = 1 := by unfold bA; rw [h42]; rfl
           rw [e]
           simp -implicitDefEqProofs [ac55, w1, tn, h0, hp, hp2, hu, hv, h40, h41, h44, h58, h59, h61, h43, h45, h42]
          ·
           by_cases h47 : v = 47
           ·have e : bA v = 1 := by unfold bA; rw [h47]; rfl
            rw [e]
            simp -implicitDefEqProofs [ac55, w1, tn, h0, hp, hp2, hu, hv, h40, h41, h44, h58, h59, h61, h43, h45, h42, h47]
           ·
            by_cases h60 : v = 60
            ·have e : bA v = 1 := by unfold bA; rw [h60]; rfl
             rw [e]
             simp -implicitDefEqProofs [ac55, w1, tn, h0, hp, hp2, hu, hv, h40, h41, h44, h58, h59, h61, h43, h45, h42, h47, h60]
            ·
             by_cases h124 : v = 124
             ·have e : bA v = 1 := by unfold bA; rw [h124]; rfl
              rw [e]
              simp -implicitDefEqProofs [ac55, w1, tn, h0, hp, hp2, hu, hv, h40, h41, h44, h58, h59, h61, h43, h45, h42, h47, h60, h124]
             ·
              have e : bA v = 0 := by unfold bA; simp only [h40, decide_false, Bool.or_self, h41, decide_false, Bool.or_self, h44, decide_false, Bool.or_self, h58, decide_false, Bool.or_self, h59, decide_false, Bool.or_self, h61, decide_false, Bool.or_self, h43, decide_false, Bool.or_self, h45, decide_false, Bool.or_self, h42, decide_false, Bool.or_self, h47, decide_false, Bool.or_self, h60, decide_false, Bool.or_self, h124, decide_false, Bool.or_self]; rfl
              rw [e]
              simp -implicitDefEqProofs [ac55, w1, tn, h0, hp, hp2, hu, hv, h40, h41, h44, h58, h59, h61, h43, h45, h42, h47, h60, h124]
def zf (n : Int) : Nat := FloatKind.f64.nearest n
theorem cvZ {n : Int} : cvD Tryd.prog 3 132 (I n) = some (FL (zf n)) := D8 Tryd.underlying3 Tryd.underlying132
theorem Z7_c (a b : Int) : Pure Tryd.prog 53 [.agg [I a, I b]] (CX (zf a) (zf b)) := by
 refine fi53.pu (by simp) ?_
 simp -implicitDefEqProofs [ac53, cvZ]
def seg (t : List UInt8) (p n : Nat) : List UInt8 := (t.take (p + n)).drop p
theorem rP {t : List UInt8} {p n : Nat} (h : p + n ≤ t.length) : (seg t p n).length = n := by
 unfold seg; simp; omega
def eD (t : List UInt8) (p : Nat) : Mk × Bool :=
 if decide (0 < runL t p) && dgI (bt8 t p) then (⟨2, seg t p (runL t p), ⟨zf (gW (seg t p (runL t p))).1, zf (gW (seg t p (runL t p))).2⟩, p⟩, jH (seg t p (runL t p)))
 else if decide (0 < runL t p) && decide (bt8 t p = 95) then (⟨0, seg t p (runL t p), ⟨0, 0⟩, p⟩, false)
 else if decide (0 < runL t p) then (⟨if resv (seg t p (runL t p)) then 1 else 0, seg t p (runL t p), ⟨0, 0⟩, p⟩, true)
 else (⟨3, seg t p (iI t p), ⟨0, 0⟩, p⟩, decide (0 < iI t p))
theorem wO {t : List UInt8} {p : Nat} (h : p ≤ t.length) : p + runL t p ≤ t.length := (wA _ t p 0 (by omega)).2
theorem DX (v : Int) : bA v ≤ 1 := by unfold bA; split <;> omega
theorem t7 {t : List UInt8} {p : Nat} (h : p < t.length) : p + iI t p ≤ t.length := by
 unfold iI
 have := DX (bt8 t p)
 split
 ·rename_i hc
  simp only [Bool.and_eq_true, decide_eq_true_eq] at hc
  omega
 ·omega
theorem one_c (t : List UInt8) (p : Nat) (hl : t.length < 2 ^ 46) (hp : p < t.length) : Pure Tryd.prog 40 [.sl (em c_ t), I p] (.tup [.agg (aB (eD t p).1), B (eD t p).2]) := by
 have hr := run_c t p hl (by omega)
 have hs := sign_c t p hl hp
 have hrl := wO (Nat.le_of_lt hp)
 have hsl := t7 hp
 have hg := rP hrl
 have hdg := v_ (bt8 t p)
 have hpn := DA (seg t p (runL t p)) (by omega)
 have hrv := xC (seg t p (runL t p))
 have e1 : List.drop p (List.take (p + runL t p) t) = seg t p (runL t p) := rfl
 have e2 : List.drop p (List.take (p + iI t p) t) = seg t p (iI t p) := rfl
 unfold eD
 generalize seg t p (runL t p) = s at *
 generalize seg t p (iI t p) = s2 at *
 generalize runL t p = n at *
 generalize iI t p = n2 at *
 have w1 := bB (x := (p : Int) + (n : Int)) (by omega) (by omega)
 have w2 := bB (x := (p : Int) + (n2 : Int)) (by omega) (by omega)
 have tn1 : ((p : Int) + (n : Int)).toNat = p + n := by omega
 have tn2 : ((p : Int) + (n2 : Int)).toNat = p + n2 := by omega
 have hpi : (p : Int) < t.length := by omega
 have b1 : (p : Int) ≤ (p : Int) + (n : Int) := by omega
 have b2 : (p : Int) + (n : Int) ≤ t.length := by omega
 have b3 : (p : Int) ≤ (p : Int) + (n2 : Int) := by omega
 have b4 : (p : Int) + (n2 : Int) ≤ t.length := by omega
 refine fi40.pu (by simp) ?_
 by_cases h0 : 0 < n
 ·cases hd : dgI (bt8 t p) <;> rw [hd] at hdg
  ·by_cases h1 : bt8 t p = 95
   ·rw [if_neg (by simp), if_pos (by simp [h0, h1])]
    simp -implicitDefEqProofs [ac40]
    refine aH (hr) (by simp) ?_
    simp -implicitDefEqProofs [w1, tn1, b1, b2, e1, h0, hp]
    refine aH (hdg) (by simp) ?_
    simp -implicitDefEqProofs [h0, hp, h1]
    rfl
   ·rw [if_neg (by simp), if_neg (by simp [h1]), if_pos (by simp [h0])]
    simp -implicitDefEqProofs [ac40]
    refine aH (hr) (by simp) ?_
    simp -implicitDefEqProofs [w1, tn1, b1, b2, e1, h0, hp]
    refine aH (hdg) (by simp) ?_
    simp -implicitDefEqProofs [h0, hp, h1]
    cases hv : resv s <;> rw [hv] at hrv
    ·refine aH (hrv) (by simp) ?_
     simp -implicitDefEqProofs
     rfl
    ·refine aH (hrv) (by simp) ?_
     simp -implicitDefEqProofs
     rfl
  ·rw [if_pos (by simp [h0])]
   have hz := Z7_c (gW s).1 (gW s).2
   simp -implicitDefEqProofs [ac40]
   refine aH (hr) (by simp) ?_
   simp -implicitDefEqProofs [w1, tn1, b1, b2, e1, h0, hp]
   refine aH (hdg) (by simp) ?_
   simp -implicitDefEqProofs
   cases ho : jH s <;> rw [ho] at hpn
   ·refine aH (hpn) (by simp) ?_
    simp -implicitDefEqProofs
    refine aH (hz) (by simp) ?_
    simp -implicitDefEqProofs
    rfl
   ·refine aH (hpn) (by simp) ?_
    simp -implicitDefEqProofs
    refine aH (hz) (by simp) ?_
    simp -implicitDefEqProofs
    rfl
 ·rw [if_neg (by simp [h0]), if_neg (by simp [h0]), if_neg (by simp [h0])]
  simp -implicitDefEqProofs [ac40]
  refine aH (hr) (by simp) ?_
  simp -implicitDefEqProofs [w1, tn1, b1, b2, e1, h0]
  refine aH (hs) (by simp) ?_
  simp -implicitDefEqProofs [w2, tn2, b3, b4, e2]
  rfl
def dV : Nat → List UInt8 → Nat → Nat
 | 0, _, p => p
 | f + 1, t, p => if decide (p < t.length) && !decide (bt8 t p = 10) then dV f t (p + 1) else p
def oP (t : List UInt8) : Mk := ⟨4, [], ⟨0, 0⟩, t.length⟩
def cL : Nat → List UInt8 → Nat → List Mk → List Mk × Int
 | 0, _, _, _ => ([], 0)
 | f + 1, t, p, out => if p < t.length then
   (if jT (bt8 t p) then cL f t (p + 1) out else
   if bt8 t p = 35 then cL f t (dV t.length t p) out else
   if (eD t p).2 then cL f t (p + (eD t p).1.text.length) (out ++ [(eD t p).1]) else ([], p))
  else (out ++ [oP t], -1)
def cG (t : List UInt8) : List Mk × Int := cL (t.length + 1) t 0 []
theorem jN : ∀ (f : Nat) (t : List UInt8) (p : Nat), p ≤ t.length → p ≤ dV f t p ∧ dV f t p ≤ t.length
 | 0, t, p, h => ⟨Nat.le_refl _, h⟩
 | f + 1, t, p, h => by
  unfold dV
  split
  ·rename_i hc
   simp only [Bool.and_eq_true, decide_eq_true_eq] at hc
   have := jN f t (p + 1) (by omega)
   omega
  ·exact ⟨Nat.le_refl _, h⟩
theorem A8 {t : List UInt8} {p : Nat} (h : p < t.length) (hc : bt8 t p = 35) : p < dV t.length t p := by
 obtain ⟨f, hf⟩ : ∃ f, t.length = f + 1 := ⟨t.length - 1, by omega⟩
 have key : ∀ n, n = f + 1 → p < dV n t p := fun n hn => by
  rw [hn]
  unfold dV
  rw [if_pos (by simp [h, hc])]
  have := (jN f t (p + 1) (by omega)).1
  omega
 exact key _ hf
theorem rQ {t : List UInt8} {p : Nat} (h : p < t.length) (ho : (eD t p).2 = true) : 0 < (eD t p).1.text.length ∧ p + (eD t p).1.text.length ≤ t.length := by
 have hr := wO (Nat.le_of_lt h)
 have hs := t7 h
 have h1 := rP hr
 have h2 := rP hs
 unfold eD at ho ⊢
 by_cases c1 : (decide (0 < runL t p) && dgI (bt8 t p)) = true
 ·rw [if_pos c1] at ho ⊢
  simp only [Bool.and_eq_true, decide_eq_true_eq] at c1
  simp only [h1]; omega
 ·rw [if_neg c1] at ho ⊢
  by_cases c2 : (decide (0 < runL t p) && decide (bt8 t p = 95)) = true
  ·rw [if_pos c2] at ho; simp at ho
  ·rw [if_neg c2] at ho ⊢
   by_cases c3 : decide (0 < runL t p) = true
   ·rw [if_pos c3]
    simp only [decide_eq_true_eq] at c3
    simp only [h1]; omega
   ·rw [if_neg c3] at ho ⊢
    simp only [decide_eq_true_eq] at ho
    simp only [h2]; omega
theorem AM (t : List UInt8) (p : Nat) (hl : t.length ≤ 2 ^ 20) (hp : p ≤ t.length) {mem : Mem} {nx : Nat} {d2 d3 d4 d6 d7 : D} (Q : Exit → St → Prop)
  (hq : ∀ m, nx ≤ m → Q (.exit 2) ⟨[(0, .sl (em c_ t)), (2, d2), (3, d3), (4, d4), (5, I (dV (t.length - p) t p)), (6, d6), (7, d7)], [], mem, m⟩) :
  A cf31 (.loop lb31_0) Q [(0, .sl (em c_ t)), (2, d2), (3, d3), (4, d4), (5, I p), (6, d6), (7, d7)] mem nx := by
 generalize hG : dV (t.length - p) t p = G at hq
 refine lpG cf31 lb31_0 [5] (α := Nat) (fun k _ => [(5, I k)]) (fun _ _ => mem) (fun k m => nx ≤ m ∧ p ≤ k ∧ k ≤ t.length ∧ dV (t.length - k) t k = G) (fun k => t.length - k) p ⟨Nat.le_refl _, Nat.le_refl _, hp, hG⟩ (by simp) (by simp) ?_
 rintro k m ⟨hm, hk0, hk, he⟩
 have w1 := bB (x := (k : Int) + 1) (by omega) (by omega)
 by_cases h : k < t.length
 ·obtain ⟨f, hf⟩ : ∃ f, t.length - k = f + 1 := ⟨t.length - k - 1, by omega⟩
  have hf2 : t.length - (k + 1) = f := by omega
  rw [hf] at he
  unfold dV at he
  by_cases hc : bt8 t k = 10
  ·rw [if_neg (by simp [hc])] at he
   rw [← he] at hq
   simp -implicitDefEqProofs [lb31_0, h, hc]
   exact hq _ (by omega)
  ·rw [if_pos (by simp [h, hc])] at he
   simp -implicitDefEqProofs [lb31_0, h, hc, w1]
   refine aL (k + 1) ⟨by omega, by omega, h, by rw [hf2]; exact he⟩ (by omega) (by simp) (by simp)
 ·have hf : t.length - k = 0 := by omega
  rw [hf] at he
  have he : k = G := he
  subst he
  simp -implicitDefEqProofs [lb31_0, h]
  exact hq _ (by omega)
theorem qK : ∀ (f g : Nat) (t : List UInt8) (p : Nat), t.length - p ≤ f → t.length - p ≤ g → dV f t p = dV g t p
 | 0, g, t, p, hf, hg => by
  cases g with
  | zero => rfl
  | succ g =>
   unfold dV
   rw [if_neg (by simp; omega)]
 | f + 1, 0, t, p, hf, hg => by
  unfold dV
  rw [if_neg (by simp; omega)]
 | f + 1, g + 1, t, p, hf, hg => by
  unfold dV
  split
  ·rename_i hc
   simp only [Bool.and_eq_true, decide_eq_true_eq] at hc
   exact qK f g t (p + 1) (by omega) (by omega)
  ·rfl
theorem wF (t : List UInt8) (hl : t.length ≤ 2 ^ 20) : Pure Tryd.prog 31 [.sl (em c_ t)] (.tup [.sl (em aB (cG t).1), I (cG t).2]) := by
 refine fi31.pu (by simp) ?_
 generalize hR : cG t = R
 simp -implicitDefEqProofs [ac31]
 refine l9 (j := 4) (k := 4) rfl (.inl rfl) ?_
 refine lpG cf31 lb31_1 [2, 3, 4, 5, 6, 7] (α := Nat × List Mk) (fun s _ => [(4, .osl 4 s.2.length 0 s.2.length), (5, I s.1)]) (fun s _ => [(4, .arr s.2.length 4 (em aB s.2))]) (fun s m => 4 < m ∧ s.1 ≤ t.length ∧ s.2.length ≤ s.1 ∧ ∃ f, t.length - s.1 < f ∧ cL f t s.1 s.2 = R) (fun s => t.length - s.1) (0, []) ⟨by omega, by simp, by simp, t.length + 1, by simp, hR⟩ (by simp) (by simp) ?_
 rintro ⟨p, out⟩ m ⟨hm, hp, ho, f, hf, hR⟩
 simp only at hp ho hf hR
 have hz : ∀ {f : Nat}, t.length - p < f → ∃ g, f = g + 1 := fun {f} h => ⟨f - 1, by omega⟩
 obtain ⟨g, rfl⟩ := hz hf
 unfold cL at hR
 have w1 := bB (x := (p : Int) + 1) (by omega) (by omega)
 by_cases hlt : p < t.length
 ·rw [if_pos hlt] at hR
  have hbl := DU (bt8 t p)
  cases hb : jT (bt8 t p) <;> rw [hb] at hbl hR
  ·rw [if_neg (by decide)] at hR
   by_cases hc : bt8 t p = 35
   ·rw [if_pos hc] at hR
    have h1 := A8 hlt hc
    have h2 := (jN t.length t p hp).2
    have e := qK t.length (t.length - p) t p (by omega) (Nat.le_refl _)
    simp -implicitDefEqProofs [lb31_1, hlt]
    refine aH (hbl) (by simp) ?_
    simp -implicitDefEqProofs [hlt, hc]
    refine AM t p hl hp _ (fun m2 hm2 => ?_)
    rw [← e]
    simp -implicitDefEqProofs
    refine aL (dV t.length t p, out) ⟨by omega, h2, by simp only; omega, g, by simp only; omega, hR⟩ (by simp only; omega) (by simp) (by simp)
   ·rw [if_neg hc] at hR
    have h1 := one_c t p (by omega) hlt
    cases hok : (eD t p).2 <;> rw [hok] at h1 hR
    ·rw [if_neg (by decide)] at hR
     subst hR
     generalize (eD t p).1 = k at *
     simp only [aB] at h1
     simp -implicitDefEqProofs [lb31_1, hlt]
     refine aH (hbl) (by simp) ?_
     simp -implicitDefEqProofs [hlt, hc]
     refine aH (h1) (by simp) ?_
     simp -implicitDefEqProofs
    ·rw [if_pos rfl] at hR
     obtain ⟨h2, h3⟩ := rQ hlt hok
     have w2 := bB (x := (p : Int) + ((eD t p).1.text.length : Int)) (by omega) (by omega)
     generalize (eD t p).1 = k at *
     simp only [aB] at h1
     simp -implicitDefEqProofs [lb31_1, hlt]
     refine aH (hbl) (by simp) ?_
     simp -implicitDefEqProofs [hlt, hc]
     refine aH (h1) (by simp) ?_
     simp -implicitDefEqProofs [w2]
     refine ⟨by omega, aL (p + k.text.length, out ++ [k]) ⟨by omega, h3, by simp; omega, g, by simp only; omega, hR⟩ (by simp only; omega) (by simp) ?_⟩
     rw [yB]
     refine aU ?_ (by simp [look])
     simp
  ·rw [if_pos rfl] at hR
   simp -implicitDefEqProofs [lb31_1, hlt]
   refine aH (hbl) (by simp) ?_
   simp -implicitDefEqProofs [w1]
   refine aL (p + 1, out) ⟨by omega, hlt, by simp only; omega, g, by simp only; omega, hR⟩ (by simp only; omega) (by simp) (by simp)
 ·rw [if_neg hlt] at hR
  subst hR
  have ha : em aB out ++ [[I 4, .pl (.string (ByteArray.mk (Array.mk []))), CX 0 0, I t.length]] = em aB (out ++ [oP t]) := yB out (oP t)
  have hl2 : out.length + 1 = (out ++ [oP t]).length := by simp
  simp -implicitDefEqProofs [lb31_1, hlt, ha]
  exact ⟨by omega, by rw [hl2, List.take_length]⟩
def MOk (l : List Mk) : Prop := 0 < l.length ∧ ∀ i, i < l.length → (l[i]?.getD default).kind ≠ 4 → i + 1 < l.length
theorem kG : ∀ (f : Nat) (t : List UInt8) (p : Nat) (out : List Mk), (cL f t p out).2 < 0 → MOk (cL f t p out).1
 | 0, t, p, out, h => by simp [cL] at h
 | f + 1, t, p, out, h => by
  unfold cL at h ⊢
  by_cases c1 : p < t.length
  ·rw [if_pos c1] at h ⊢
   by_cases c2 : jT (bt8 t p) = true
   ·rw [if_pos c2] at h ⊢; exact kG f _ _ _ h
   ·rw [if_neg c2] at h ⊢
    by_cases c3 : bt8 t p = 35
    ·rw [if_pos c3] at h ⊢; exact kG f _ _ _ h
    ·rw [if_neg c3] at h ⊢
     by_cases c4 : (eD t p).2 = true
     ·rw [if_pos c4] at h ⊢; exact kG f _ _ _ h
     ·rw [if_neg c4] at h; simp only at h; omega
  ·rw [if_neg c1] at h ⊢
   refine ⟨by simp, fun i hi hk => ?_⟩
   simp only [List.length_append, List.length_cons, List.length_nil] at hi ⊢
   by_cases e : i = out.length
   ·subst e
    simp [oP] at hk
   ·omega
theorem jF : ∀ (f : Nat) (t : List UInt8) (p : Nat) (out : List Mk), p ≤ t.length → out.length ≤ p → (cL f t p out).1.length ≤ t.length + 1
 | 0, t, p, out, _, _ => by simp [cL]
 | f + 1, t, p, out, hp, ho => by
  unfold cL
  by_cases c1 : p < t.length
  ·rw [if_pos c1]
   by_cases c2 : jT (bt8 t p) = true
   ·rw [if_pos c2]; exact jF f _ _ _ (by omega) (by omega)
   ·rw [if_neg c2]
    by_cases c3 : bt8 t p = 35
    ·rw [if_pos c3]
     have := jN t.length t p hp
     exact jF f _ _ _ (by omega) (by omega)
    ·rw [if_neg c3]
     by_cases c4 : (eD t p).2 = true
     ·rw [if_pos c4]
      have := rQ c1 c4
      exact jF f _ _ _ (by omega) (by simp; omega)
     ·rw [if_neg c4]; simp
  ·rw [if_neg c1]; simp; omega
inductive Ex where
 | mk (op : Int) (name tail : List UInt8) (type : Int) (num : Cx) (args : List Ex) (at' : Int)
namespace Ex
def op : Ex → Int | mk o _ _ _ _ _ _ => o
def name : Ex → List UInt8 | mk _ n _ _ _ _ _ => n
def tail : Ex → List UInt8 | mk _ _ t _ _ _ _ => t
def type : Ex → Int | mk _ _ _ t _ _ _ => t
def num : Ex → Cx | mk _ _ _ _ z _ _ => z
def args : Ex → List Ex | mk _ _ _ _ _ a _ => a
def at' : Ex → Int | mk _ _ _ _ _ _ p => p
end Ex
def ex0 : Ex := .mk 0 [] [] 0 ⟨0, 0⟩ [] 0
instance : Inhabited Ex := ⟨ex0⟩
mutual
def aO : Ex → List D
 | .mk o n t ty z ar p => [I o, Tx n, Tx t, I ty, CX z.re z.im, .sl (lO ar), I p]
def lO : List Ex → List (List D)
 | [] => []
 | e :: es => aO e :: lO es
end
theorem nR : ∀ (l : List Ex), lO l = em aO l
 | [] => rfl
 | e :: es => by unfold lO em; rw [nR es]; rfl
theorem aA : ∀ (e : Ex), aO e = [I e.op, Tx e.name, Tx e.tail, I e.type, CX e.num.re e.num.im, .sl (em aO e.args), I e.at']
 | .mk o n t ty z ar p => by unfold aO; rw [nR]; rfl
theorem bG (o : Int) (n t : List UInt8) (ty : Int) (z : Cx) (ar : List Ex) (p : Int) : aO (.mk o n t ty z ar p) = [I o, Tx n, Tx t, I ty, CX z.re z.im, .sl (em aO ar), I p] := aA _
mutual
theorem imm_Ex : ∀ (e : Ex), D.imms (aO e) = true
 | .mk o n t ty z ar p => by
  unfold aO
  have := rF ar
  simp [D.imms, D.imm, this]
theorem rF : ∀ (l : List Ex), D.immss (lO l) = true
 | [] => rfl
 | e :: es => by
  unfold lO
  simp [D.immss, imm_Ex e, rF es]
end
theorem DH (l : List Ex) : D.immss (em aO l) = true := by rw [← nR]; exact rF l
theorem ia_Ex {l : List Ex} {mem : Mem} {j : IntKind} {i : Int} : iaD mem 7 (.sl (em aO l)) (.pl (.int j i)) = if 0 ≤ i ∧ i < l.length then some (.pt [I (l[i.toNat]?.getD default).op, Tx (l[i.toNat]?.getD default).name, Tx (l[i.toNat]?.getD default).tail, I (l[i.toNat]?.getD default).type, CX (l[i.toNat]?.getD default).num.re (l[i.toNat]?.getD default).num.im, .sl (em aO (l[i.toNat]?.getD default).args), I (l[i.toNat]?.getD default).at']) else none := by
 rw [← aA]
 exact oT fun e => by rw [aA]; rfl
theorem tZ (l : List Ex) (e : Ex) : em aO l ++ [aO e] = em aO (l ++ [e]) := oC
attribute [simp] ia_Ex DH
structure Pm where
 name : List UInt8
 type : Int
 at' : Int
instance : Inhabited Pm := ⟨⟨[], 0, 0⟩⟩
def fJ (p : Pm) : List D := [Tx p.name, I p.type, I p.at']
theorem imm_Pm (l : List Pm) : D.immss (em fJ l) = true := lG fun _ => rfl
theorem ia_Pm {l : List Pm} {mem : Mem} {j : IntKind} {i : Int} : iaD mem 3 (.sl (em fJ l)) (.pl (.int j i)) = if 0 ≤ i ∧ i < l.length then some (.pt [Tx (l[i.toNat]?.getD default).name, I (l[i.toNat]?.getD default).type, I (l[i.toNat]?.getD default).at']) else none := oT fun _ => rfl
theorem qB (l : List Pm) (p : Pm) : em fJ l ++ [[Tx p.name, I p.type, I p.at']] = em fJ (l ++ [p]) := oC
attribute [simp] imm_Pm ia_Pm
structure Fn where
 name : List UInt8
 params : List Pm
 type : Int
 body : Ex
 at' : Int
instance : Inhabited Fn := ⟨⟨[], [], 0, default, 0⟩⟩
def dO (f : Fn) : List D := [Tx f.name, .sl (em fJ f.params), I f.type] ++ aO f.body ++ [I f.at']
structure Rd where
 ms : List Mk
 at' : Nat
 why : Int
 wh : Int
 lT : Int
 lF : Int
 lA : Int
 lN : Int
 nest : Int
def aC (r : Rd) : List D := [.sl (em aB r.ms), I r.at', I r.why, I r.wh, I r.lT, I r.lF, I r.lA, I r.lN, I r.nest]
namespace Rd
def next (r : Rd) : Mk := r.ms[r.at']?.getD default
def fail (r : Rd) (w : Int) : Rd := if r.why = 0 then { r with why := w, wh := r.next.at' } else r
def is (r : Rd) (s : List UInt8) : Bool := decide (r.why = 0) && ((decide (r.next.kind = 1) || decide (r.next.kind = 3)) && decide (r.next.text = s))
def adv (r : Rd) : Rd := { r with at' := r.at' + 1 }
def want (r : Rd) (s : List UInt8) : Rd := if r.is s then r.adv else r.fail 21
def bad (r : Rd) : Bool := !decide (r.why = 0) || !decide (r.next.kind = 0)
def name (r : Rd) : Mk × Rd := if r.bad then (default, r.fail 21) else (r.next, r.adv)
def typ (r : Rd) : Int × Rd := if r.is [78] then (1, r.adv) else if r.is [66] then (2, r.adv) else if r.is [76] then (3, r.adv) else (0, r.fail 21)
structure ok (r : Rd) : Prop where
 ms : MOk r.ms
 lt : r.at' < r.ms.length
 len : r.ms.length ≤ 2 ^ 21
 n0 : 0 ≤ r.nest
 n1 : r.nest ≤ 2 ^ 40
 l1 : r.lN ≤ 2 ^ 40
end Rd
def two (op : Int) (a b : Ex) (m : Mk) : Ex := .mk op [] [] 0 ⟨0, 0⟩ [a, b] m.at'
def bK (s : List UInt8) : Int :=
 if s = [116, 114, 117, 101] then 2 else if s = [102, 97, 108, 115, 101] then 3 else if s = [110, 105, 108] then 4 else if s = [102, 97, 105, 108] then 5 else
 if s = [110, 111, 116] then 14 else if s = [114, 101] then 15 else if s = [105, 109] then 16 else if s = [99, 111, 110, 106] then 17 else 0
def binds (r : Rd) : Bool := r.is [108, 101, 116] || (r.is [115, 116, 114, 105, 99, 116] || r.is [99, 97, 115, 101])
abbrev PR := Option (Ex × Rd)
mutual
def aX : Nat → Rd → PR
 | 0, _ => none
 | n + 1, r =>
  let b := binds r
  let r1 := if b && decide (r.lN ≤ r.nest) then r.fail 23 else r
  if r1.why ≠ 0 then some (ex0, r1) else
  if b = false ∧ r1.is [105, 102] = false then eG n r1 else
  let r2 := (if b then { r1 with nest := r1.nest + 1 } else r1).adv
  let res : PR := if r.next.text = [105, 102] then (bH n [[], [116, 104, 101, 110], [101, 108, 115, 101]] r2).map fun (l, q) => (.mk 19 [] [] 0 ⟨0, 0⟩ l r.next.at', q)
   else if r.next.text = [99, 97, 115, 101] then cH n r2 r.next.at'
   else (bH n [[61], [105, 110]] r2.name.2.typ.2).map fun (l, q) => (.mk (if r.next.text = [115, 116, 114, 105, 99, 116] then 22 else 21) r2.name.1.text [] r2.name.2.typ.1 ⟨0, 0⟩ l r.next.at', q)
  res.map fun (e, q) => (e, if b then { q with nest := q.nest - 1 } else q)
def eG : Nat → Rd → PR
 | 0, _ => none
 | n + 1, r => (eF n r).bind fun (a, r1) => if r1.is [58] then (eG n r1.adv).map fun (b, r2) => (two 18 a b r1.next, r2) else some (a, r1)
def eF : Nat → Rd → PR
 | 0, _ => none
 | n + 1, r => (fG n r).bind fun (a, r1) => if r1.is [61, 61] || r1.is [60] then (fG n r1.adv).map fun (b, r2) => (two (if r1.is [60] then 13 else 12) a b r1.next, r2) else some (a, r1)
def fG : Nat → Rd → PR
 | 0, _ => none
 | n + 1, r => (cO n r).bind fun (a, r1) => eC n a r1
def eC : Nat → Ex → Rd → PR
 | 0, _, _ => none
 | n + 1, a, r => if r.is [43] || r.is [45] then (cO n r.adv).bind fun (b, r2) => eC n (two (if r.next.text = [45] then 9 else 8) a b r.next) r2 else some (a, r)
def cO : Nat → Rd → PR
 | 0, _ => none
 | n + 1, r => (cN n r).bind fun (a, r1) => dD n a r1
def dD : Nat → Ex → Rd → PR
 | 0, _, _ => none
 | n + 1, a, r => if r.is [42] || r.is [47] then (cN n r.adv).bind fun (b, r2) => dD n (two (if r.next.text = [47] then 11 else 10) a b r.next) r2 else some (a, r)
def cN : Nat → Rd → PR
 | 0, _ => none
 | n + 1, r =>
  if r.why ≠ 0 then some (ex0, r) else
  if r.next.kind = 2 then some (.mk 1 [] [] 0 r.next.num [] r.next.at', r.adv) else
  if r.next.kind = 0 then eA n r.next r.adv else
  if r.is [40] then (aX n r.adv).map fun (e, q) => (e, q.want [41]) else
  if ¬ r.next.kind = 1 ∨ bK r.next.text = 0 then some (ex0, r.fail 21) else
  if bK r.next.text = 5 then some (.mk 5 [] [] r.adv.typ.1 ⟨0, 0⟩ [] r.next.at', r.adv.typ.2) else
  if 14 ≤ bK r.next.text then (aX n (r.adv.want [40])).map fun (x, q) => (.mk (bK r.next.text) [] [] 0 ⟨0, 0⟩ [x] r.next.at', q.want [41]) else
  some (.mk (bK r.next.text) [] [] 0 ⟨0, 0⟩ [] r.next.at', r.adv)
def eA : Nat → Mk → Rd → PR
 | 0, _, _ => none
 | n + 1, m, r => if r.is [40] then (cR n [] r.adv).map fun (l, q) => (.mk 7 m.text [] 0 ⟨0, 0⟩ l m.at', q.want [41]) else some (.mk 6 m.text [] 0 ⟨0, 0⟩ [] m.at', r)
def cR : Nat → List Ex → Rd → Option (List Ex × Rd)
 | 0, _, _ => none
 | n + 1, l, r => if r.why = 0 ∧ r.is [41] = false then (aX n (if l = [] then r else r.want [44])).bind fun (x, q) => cR n (l ++ [x]) q else some (l, r)
def bH : Nat → List (List UInt8) → Rd → Option (List Ex × Rd)
 | 0, _, _ => none
 | n + 1, [], r => some ([], r)
 | n + 1, s :: ss, r => (aX n (if s = [] then r else r.want s)).bind fun (x, q) => (bH n ss q).map fun (l, q2) => (x :: l, q2)
def cH : Nat → Rd → Int → PR
 | 0, _, _ => none
 | n + 1, r, p => (aX n r).bind fun (x, r1) => (aX n (((r1.want [111, 102]).want [110, 105, 108]).want [45, 62])).bind fun (a, r2) =>
   let h := (r2.want [124]).name
   let t := (h.2.want [58]).name
   (aX n (t.2.want [45, 62])).map fun (b, r3) => (.mk 20 h.1.text t.1.text 0 ⟨0, 0⟩ [x, a, b] p, r3)
end
open Go Go.Fx Go.Proofs Go.Fx.Flt
def RC (f : FuncId) (args : List D) (r r' : Rd) (res : D) : Prop :=
 ∀ ⦃id : Nat⦄ ⦃mem : Mem⦄ ⦃nx : Nat⦄ ⦃K : KD⦄, look mem id = some (.box (aC r)) → id < nx → (∀ nx', nx ≤ nx' → K res (upd mem id (.box (aC r'))) nx') → bP Tryd.prog f (.opt id 0 :: args) mem nx K
def RC0 (f : FuncId) (args : List D) (r : Rd) (res : D) : Prop :=
 ∀ ⦃id : Nat⦄ ⦃mem : Mem⦄ ⦃nx : Nat⦄ ⦃K : KD⦄, look mem id = some (.box (aC r)) → id < nx → (∀ nx', nx ≤ nx' → K res mem nx') → bP Tryd.prog f (.opt id 0 :: args) mem nx K
theorem eX {r : Rd} (h : r.ok) : RC0 41 [] r (.agg (aB r.next)) := by
 intro id mem nx K hl hi hk
 refine fi41.ct (by simp) fun hfr => ?_
 have hlt := h.lt
 have hg : r.ms[r.at'] = r.next := by unfold Rd.next; rw [List.getElem?_eq_getElem hlt]; rfl
 simp -implicitDefEqProofs (maxDischargeDepth := 80) [ac41, hl, hi, neC hi, neA, ltA, aC, aB, hlt, hg]
 exact ⟨mem, (by repeat (first | exact aG _ | refine aE ?_ (aF (hfr _ (by omega))) | refine aE ?_ (hfr _ (by omega)))), hk _ (by omega)⟩
theorem jZ {r : Rd} (h : r.ok) (w : Int) : RC 56 [I w] r (r.fail w) (.tup []) := by
 intro id mem nx K hl hi hk
 refine fi56.ct (by simp) fun hfr => ?_
 unfold Rd.fail at hk
 by_cases hw : r.why = 0
 ·rw [if_pos hw] at hk
  have hn : RC0 41 [] { r with why := w } (.agg (aB r.next)) := eX (r := { r with why := w }) ⟨h.ms, h.lt, h.len, h.n0, h.n1, h.l1⟩
  simp -implicitDefEqProofs (maxDischargeDepth := 80) [ac56, hl, hi, neC hi, neA, ltA, aC, aB, hw]
  refine aD ((hn) (by simp -implicitDefEqProofs (maxDischargeDepth := 80) [hl, hi, neC hi, neA, ltA, aC, aB]) (by omega) (fun n1 hn1 => ?_))
  have in1 : id < n1 := by omega
  have Kn1 := nfc trivial hn1
  simp -implicitDefEqProofs (maxDischargeDepth := 80) [hl, hi, neC hi, neA, ltA, aC, aB, Kn1]
  exact ⟨_, (by repeat (first | exact aG _ | refine aE ?_ (aF (hfr _ (by omega))) | refine aE ?_ (hfr _ (by omega)))), hk _ (by omega)⟩
 ·rw [if_neg hw, cE hl] at hk
  simp -implicitDefEqProofs (maxDischargeDepth := 80) [ac56, hl, hi, neC hi, neA, ltA, aC, aB, hw]
  exact ⟨_, (by repeat (first | exact aG _ | refine aE ?_ (aF (hfr _ (by omega))) | refine aE ?_ (hfr _ (by omega)))), hk _ (by omega)⟩
namespace Rd
@[simp] theorem adv_ms {r : Rd} : r.adv.ms = r.ms := rfl
@[simp] theorem adv_at {r : Rd} : r.adv.at' = r.at' + 1 := rfl
@[simp] theorem adv_why {r : Rd} : r.adv.why = r.why := rfl
@[simp] theorem adv_wh {r : Rd} : r.adv.wh = r.wh := rfl
@[simp] theorem adv_lT {r : Rd} : r.adv.lT = r.lT := rfl
@[simp] theorem adv_lF {r : Rd} : r.adv.lF = r.lF := rfl
@[simp] theorem adv_lA {r : Rd} : r.adv.lA = r.lA := rfl
@[simp] theorem adv_lN {r : Rd} : r.adv.lN = r.lN := rfl
@[simp] theorem adv_nest {r : Rd} : r.adv.nest = r.nest := rfl
theorem ok_fail {r : Rd} (h : r.ok) (w : Int) : (r.fail w).ok := by
 unfold fail
 split
 ·exact ⟨h.ms, h.lt, h.len, h.n0, h.n1, h.l1⟩
 ·exact h
theorem ok_adv {r : Rd} (h : r.ok) (hk : r.next.kind ≠ 4) : r.adv.ok := ⟨h.ms, h.ms.2 _ h.lt hk, h.len, h.n0, h.n1, h.l1⟩
theorem is_kind {r : Rd} {s : List UInt8} (h : r.is s = true) : r.why = 0 ∧ (r.next.kind = 1 ∨ r.next.kind = 3) ∧ r.next.text = s := by
 unfold is at h
 simpa using h
theorem is_4 {r : Rd} {s : List UInt8} (h : r.is s = true) : r.next.kind ≠ 4 := by
 have := (is_kind h).2.1
 omega
theorem ok_want {r : Rd} (h : r.ok) (s : List UInt8) : (r.want s).ok := by
 unfold want
 cases hs : r.is s
 ·exact ok_fail h _
 ·exact ok_adv h (is_4 hs)
theorem ok_name {r : Rd} (h : r.ok) : r.name.2.ok := by
 unfold name
 cases hb : r.bad
 ·refine ok_adv h ?_
  unfold bad at hb
  simp at hb
  omega
 ·exact ok_fail h _
theorem ok_typ {r : Rd} (h : r.ok) : r.typ.2.ok := by
 unfold typ
 cases h1 : r.is [78]
 ·cases h2 : r.is [66]
  ·cases h3 : r.is [76]
   ·exact ok_fail h _
   ·exact ok_adv h (is_4 h3)
  ·exact ok_adv h (is_4 h2)
 ·exact ok_adv h (is_4 h1)
end Rd
theorem i7 {r : Rd} (h : r.ok) (s : List UInt8) : RC0 59 [Tx s] r (B (r.is s)) := by
 intro id mem nx K hl hi hk
 refine fi59.ct (by simp) fun hfr => ?_
 unfold Rd.is at hk
 have hn := eX h
 by_cases h1 : r.why = 0 <;> by_cases h2 : r.next.kind = 1 <;> by_cases h3 : r.next.kind = 3 <;> by_cases h4 : r.next.text = s <;> simp only [h1, h2, h3, h4, decide_true, decide_false, Bool.true_and, Bool.and_true, Bool.false_and, Bool.or_true, Bool.true_or, Bool.or_false, Bool.and_false, if_true, if_false] at hk
 all_goals
  simp -implicitDefEqProofs (maxDischargeDepth := 80) [ac59, hl, hi, neC hi, neA, ltA, aC, aB]
  refine aD ((hn) (by simp -implicitDefEqProofs (maxDischargeDepth := 80) [hl, hi, neC hi, neA, ltA, aC, aB]) (by omega) (fun n1 hn1 => ?_))
  have in1 : id < n1 := by omega
  have Kn1 := nfc trivial hn1
  simp -implicitDefEqProofs (maxDischargeDepth := 80) [hl, hi, neC hi, neA, ltA, aC, aB, Kn1, h1, h2, h3, h4]
  exact ⟨mem, (by repeat (first | exact aG _ | refine aE ?_ (aF (hfr _ (by omega))) | refine aE ?_ (hfr _ (by omega)))), hk _ (by omega)⟩
theorem gJ {r : Rd} (h : r.ok) (s : List UInt8) : RC 82 [Tx s] r (if r.is s then r.adv else r) (B (r.is s)) := by
 intro id mem nx K hl hi hk
 refine fi82.ct (by simp) fun hfr => ?_
 have hc := i7 h s
 have hl2 := h.lt
 have hl3 := h.len
 have w := bB (x := (r.at' : Int) + 1) (by omega) (by omega)
 cases hs : r.is s <;> rw [hs] at hk hc
 ·rw [if_neg (by decide), cE hl] at hk
  simp -implicitDefEqProofs (maxDischargeDepth := 80) [ac82, hl, hi, neC hi, neA, ltA, aC, aB]
  refine aD ((hc) (by simp -implicitDefEqProofs (maxDischargeDepth := 80) [hl, hi, neC hi, neA, ltA, aC, aB]) (by omega) (fun n1 hn1 => ?_))
  have in1 : id < n1 := by omega
  have Kn1 := nfc trivial hn1
  simp -implicitDefEqProofs (maxDischargeDepth := 80) [hl, hi, neC hi, neA, ltA, aC, aB, Kn1]
  exact ⟨mem, (by repeat (first | exact aG _ | refine aE ?_ (aF (hfr _ (by omega))) | refine aE ?_ (hfr _ (by omega)))), hk _ (by omega)⟩
 ·rw [if_pos rfl] at hk
  simp -implicitDefEqProofs (maxDischargeDepth := 80) [ac82, hl, hi, neC hi, neA, ltA, aC, aB]
  refine aD ((hc) (by simp -implicitDefEqProofs (maxDischargeDepth := 80) [hl, hi, neC hi, neA, ltA, aC, aB]) (by omega) (fun n1 hn1 => ?_))
  have in1 : id < n1 := by omega
  have Kn1 := nfc trivial hn1
  simp -implicitDefEqProofs (maxDischargeDepth := 80) [hl, hi, neC hi, neA, ltA, aC, aB, Kn1, w]
  exact ⟨_, (by repeat (first | exact aG _ | refine aE ?_ (aF (hfr _ (by omega))) | refine aE ?_ (hfr _ (by omega)))), hk _ (by omega)⟩
theorem cX {r : Rd} (h : r.ok) (s : List UInt8) : RC 58 [Tx s] r (r.want s) (.tup []) := by
 intro id mem nx K hl hi hk
 refine fi58.ct (by simp) fun hfr => ?_
 have hc := gJ h s
 have hf := jZ h 21
 unfold Rd.want at hk
 cases hs : r.is s <;> rw [hs] at hk hc
 ·rw [if_neg (by decide)] at hk hc
  simp -implicitDefEqProofs (maxDischargeDepth := 80) [ac58, hl, hi, neC hi, neA, ltA, aC, aB]
  refine aD ((hc) (by simp -implicitDefEqProofs (maxDischargeDepth := 80) [hl, hi, neC hi, neA, ltA, aC, aB]) (by omega) (fun n1 hn1 => ?_))
  have in1 : id < n1 := by omega
  have Kn1 := nfc trivial hn1
  simp -implicitDefEqProofs (maxDischargeDepth := 80) [hl, hi, neC hi, neA, ltA, aC, aB, Kn1]
  refine aD ((hf) (by simp -implicitDefEqProofs (maxDischargeDepth := 80) [hl, hi, neC hi, neA, ltA, aC, aB, Kn1]) (by omega) (fun n2 hn2 => ?_))
  have in2 : id < n2 := by omega
  have Kn2 := nfc Kn1 hn2
  simp -implicitDefEqProofs (maxDischargeDepth := 80) [hl, hi, neC hi, neA, ltA, aC, aB, Kn2]
  exact ⟨_, (by repeat (first | exact aG _ | refine aE ?_ (aF (hfr _ (by omega))) | refine aE ?_ (hfr _ (by omega)))), hk _ (by omega)⟩
 ·rw [if_pos rfl] at hk hc
  simp -implicitDefEqProofs (maxDischargeDepth := 80) [ac58, hl, hi, neC hi, neA, ltA, aC, aB]
  refine aD ((hc) (by simp -implicitDefEqProofs (maxDischargeDepth := 80) [hl, hi, neC hi, neA, ltA, aC, aB]) (by omega) (fun n1 hn1 => ?_))
  have in1 : id < n1 := by omega
  have Kn1 := nfc trivial hn1
  simp -implicitDefEqProofs (maxDischargeDepth := 80) [hl, hi, neC hi, neA, ltA, aC, aB, Kn1]
  exact ⟨_, (by repeat (first | exact aG _ | refine aE ?_ (aF (hfr _ (by omega))) | refine aE ?_ (hfr _ (by omega)))), hk _ (by omega)⟩
theorem lQ {r : Rd} (h : r.ok) : RC 57 [] r r.name.2 (.agg (aB r.name.1)) := by
 intro id mem nx K hl hi hk
 refine fi57.ct (by simp) fun hfr => ?_
 have hn := eX h
 have hf := jZ h 21
 have hl2 := h.lt
 have hl3 := h.len
 have w := bB (x := (r.at' : Int) + 1) (by omega) (by omega)
 unfold Rd.name Rd.bad at hk
 by_cases h1 : r.why = 0
 ·by_cases h2 : r.next.kind = 0
  ·rw [if_neg (by simp [h1, h2])] at hk
   simp -implicitDefEqProofs (maxDischargeDepth := 80) [ac57, hl, hi, neC hi, neA, ltA, aC, aB]
   refine aD ((hn) (by simp -implicitDefEqProofs (maxDischargeDepth := 80) [hl, hi, neC hi, neA, ltA, aC, aB]) (by omega) (fun n1 hn1 => ?_))
   have in1 : id < n1 := by omega
   have Kn1 := nfc trivial hn1
   simp -implicitDefEqProofs (maxDischargeDepth := 80) [hl, hi, neC hi, neA, ltA, aC, aB, Kn1, h1, h2, w]
   simp [aB, h2, aC, Rd.adv, h1] at hk
   exact ⟨_, (by repeat (first | exact aG _ | refine aE ?_ (aF (hfr _ (by omega))) | refine aE ?_ (hfr _ (by omega)))), hk _ (by omega)⟩
  ·rw [if_pos (by simp [h1, h2])] at hk
   simp -implicitDefEqProofs (maxDischargeDepth := 80) [ac57, hl, hi, neC hi, neA, ltA, aC, aB]
   refine aD ((hn) (by simp -implicitDefEqProofs (maxDischargeDepth := 80) [hl, hi, neC hi, neA, ltA, aC, aB]) (by omega) (fun n1 hn1 => ?_))
   have in1 : id < n1 := by omega
   have Kn1 := nfc trivial hn1
   simp -implicitDefEqProofs (maxDischargeDepth := 80) [hl, hi, neC hi, neA, ltA, aC, aB, Kn1, h1, h2]
   refine aD ((hf) (by simp -implicitDefEqProofs (maxDischargeDepth := 80) [hl, hi, neC hi, neA, ltA, aC, aB, Kn1]) (by omega) (fun n2 hn2 => ?_))
   have in2 : id < n2 := by omega
   have Kn2 := nfc Kn1 hn2
   simp -implicitDefEqProofs (maxDischargeDepth := 80) [hl, hi, neC hi, neA, ltA, aC, aB, Kn2]
   exact ⟨_, (by repeat (first | exact aG _ | refine aE ?_ (aF (hfr _ (by omega))) | refine aE ?_ (hfr _ (by omega)))), hk _ (by omega)⟩
 ·rw [if_pos (by simp [h1])] at hk
  simp -implicitDefEqProofs (maxDischargeDepth := 80) [ac57, hl, hi, neC hi, neA, ltA, aC, aB]
  refine aD ((hn) (by simp -implicitDefEqProofs (maxDischargeDepth := 80) [hl, hi, neC hi, neA, ltA, aC, aB]) (by omega) (fun n1 hn1 => ?_))
  have in1 : id < n1 := by omega
  have Kn1 := nfc trivial hn1
  simp -implicitDefEqProofs (maxDischargeDepth := 80) [hl, hi, neC hi, neA, ltA, aC, aB, Kn1, h1]
  refine aD ((hf) (by simp -implicitDefEqProofs (maxDischargeDepth := 80) [hl, hi, neC hi, neA, ltA, aC, aB, Kn1]) (by omega) (fun n2 hn2 => ?_))
  have in2 : id < n2 := by omega
  have Kn2 := nfc Kn1 hn2
  simp -implicitDefEqProofs (maxDischargeDepth := 80) [hl, hi, neC hi, neA, ltA, aC, aB, Kn2]
  exact ⟨_, (by repeat (first | exact aG _ | refine aE ?_ (aF (hfr _ (by omega))) | refine aE ?_ (hfr _ (by omega)))), hk _ (by omega)⟩
theorem wi1' : IntKind.i64.wrap 1 = 1 := by decide
theorem wi2' : IntKind.i64.wrap 2 = 2 := by decide
theorem wi3' : IntKind.i64.wrap 3 = 3 := by decide
theorem q6 {r : Rd} (h : r.ok) : RC 60 [] r r.typ.2 (I r.typ.1) := by
 intro id mem nx K hl hi hk
 refine fi60.ct (by simp) fun hfr => ?_
 have c1 := gJ h [78]
 have c2 := gJ h [66]
 have c3 := gJ h [76]
 have hf := jZ h 21
 unfold Rd.typ at hk
 have hu := cE hl
 simp only [aC] at hu
 simp -implicitDefEqProofs (maxDischargeDepth := 80) [ac60, hl, hi, neC hi, neA, ltA, aC, aB]
 refine lpG cf60 lb60_0 [2, 4] (α := Nat) (fun i _ => [(4, I i)]) (fun _ _ => mem) (fun i m => nx ≤ m ∧ i ≤ 3 ∧ (0 < i → r.is [78] = false) ∧ (1 < i → r.is [66] = false) ∧ (2 < i → r.is [76] = false)) (fun i => 3 - i) 0 ⟨by omega, by omega, by omega, by omega, by omega⟩ (by simp) (by simp) ?_
 rintro i m ⟨hm, hi3, g1, g2, g3⟩
 have im : id < m := by omega
 have : i = 0 ∨ i = 1 ∨ i = 2 ∨ i = 3 := by omega
 rcases this with rfl | rfl | rfl | rfl
 ·cases hs : r.is [78] <;> rw [hs] at hk c1
  ·rw [if_neg (by decide)] at c1
   simp -implicitDefEqProofs (maxDischargeDepth := 80) [lb60_0, hl, hi, neC hi, neA, ltA, aC, aB, im, iaD]
   refine aD ((c1) (by simp -implicitDefEqProofs (maxDischargeDepth := 80) [hl, hi, neC hi, neA, ltA, aC, aB]) (by omega) (fun n1 hn1 => ?_))
   have in1 : id < n1 := by omega
   have Kn1 := nfc trivial hn1
   simp -implicitDefEqProofs (maxDischargeDepth := 80) [hl, hi, neC hi, neA, ltA, aC, aB, Kn1, wi1']
   rw [hu]
   exact aL 1 ⟨by omega, by omega, by omega, by omega⟩ (by omega) (by simp) (by simp)
  ·rw [if_pos rfl] at hk c1
   simp -implicitDefEqProofs (maxDischargeDepth := 80) [lb60_0, hl, hi, neC hi, neA, ltA, aC, aB, im, iaD]
   refine aD ((c1) (by simp -implicitDefEqProofs (maxDischargeDepth := 80) [hl, hi, neC hi, neA, ltA, aC, aB]) (by omega) (fun n1 hn1 => ?_))
   have in1 : id < n1 := by omega
   have Kn1 := nfc trivial hn1
   simp -implicitDefEqProofs (maxDischargeDepth := 80) [hl, hi, neC hi, neA, ltA, aC, aB, Kn1, wi1']
   exact ⟨_, (by repeat (first | exact aG _ | refine aE ?_ (aF (hfr _ (by omega))) | refine aE ?_ (hfr _ (by omega)))), hk _ (by omega)⟩
 ·rw [g1 (by omega), if_neg (by decide)] at hk
  cases hs : r.is [66] <;> rw [hs] at hk c2
  ·rw [if_neg (by decide)] at c2
   simp -implicitDefEqProofs (maxDischargeDepth := 80) [lb60_0, hl, hi, neC hi, neA, ltA, aC, aB, im, iaD]
   refine aD ((c2) (by simp -implicitDefEqProofs (maxDischargeDepth := 80) [hl, hi, neC hi, neA, ltA, aC, aB]) (by omega) (fun n1 hn1 => ?_))
   have in1 : id < n1 := by omega
   have Kn1 := nfc trivial hn1
   simp -implicitDefEqProofs (maxDischargeDepth := 80) [hl, hi, neC hi, neA, ltA, aC, aB, Kn1, wi2']
   rw [hu]
   exact aL 2 ⟨by omega, by omega, fun _ => g1 (by omega), by omega⟩ (by omega) (by simp) (by simp)
  ·rw [if_pos rfl] at hk c2
   simp -implicitDefEqProofs (maxDischargeDepth := 80) [lb60_0, hl, hi, neC hi, neA, ltA, aC, aB, im, iaD]
   refine aD ((c2) (by simp -implicitDefEqProofs (maxDischargeDepth := 80) [hl, hi, neC hi, neA, ltA, aC, aB]) (by omega) (fun n1 hn1 => ?_))
   have in1 : id < n1 := by omega
   have Kn1 := nfc trivial hn1
   simp -implicitDefEqProofs (maxDischargeDepth := 80) [hl, hi, neC hi, neA, ltA, aC, aB, Kn1, wi2']
   exact ⟨_, (by repeat (first | exact aG _ | refine aE ?_ (aF (hfr _ (by omega))) | refine aE ?_ (hfr _ (by omega)))), hk _ (by omega)⟩
 ·rw [g1 (by omega), if_neg (by decide), g2 (by omega), if_neg (by decide)] at hk
  cases hs : r.is [76] <;> rw [hs] at hk c3
  ·rw [if_neg (by decide)] at c3
   simp -implicitDefEqProofs (maxDischargeDepth := 80) [lb60_0, hl, hi, neC hi, neA, ltA, aC, aB, im, iaD]
   refine aD ((c3) (by simp -implicitDefEqProofs (maxDischargeDepth := 80) [hl, hi, neC hi, neA, ltA, aC, aB]) (by omega) (fun n1 hn1 => ?_))
   have in1 : id < n1 := by omega
   have Kn1 := nfc trivial hn1
   simp -implicitDefEqProofs (maxDischargeDepth := 80) [hl, hi, neC hi, neA, ltA, aC, aB, Kn1, wi3']
   rw [hu]
   exact aL 3 ⟨by omega, by omega, fun _ => g1 (by omega), fun _ => g2 (by omega)⟩ (by omega) (by simp) (by simp)
  ·rw [if_pos rfl] at hk c3
   simp -implicitDefEqProofs (maxDischargeDepth := 80) [lb60_0, hl, hi, neC hi, neA, ltA, aC, aB, im, iaD]
   refine aD ((c3) (by simp -implicitDefEqProofs (maxDischargeDepth := 80) [hl, hi, neC hi, neA, ltA, aC, aB]) (by omega) (fun n1 hn1 => ?_))
   have in1 : id < n1 := by omega
   have Kn1 := nfc trivial hn1
   simp -implicitDefEqProofs (maxDischargeDepth := 80) [hl, hi, neC hi, neA, ltA, aC, aB, Kn1, wi3']
   exact ⟨_, (by repeat (first | exact aG _ | refine aE ?_ (aF (hfr _ (by omega))) | refine aE ?_ (hfr _ (by omega)))), hk _ (by omega)⟩
 ·rw [g1 (by omega), if_neg (by decide), g2 (by omega), if_neg (by decide), g3 (by omega), if_neg (by decide)] at hk
  simp -implicitDefEqProofs (maxDischargeDepth := 80) [lb60_0, hl, hi, neC hi, neA, ltA, aC, aB, im]
  refine aD ((hf) (by simp -implicitDefEqProofs (maxDischargeDepth := 80) [hl, hi, neC hi, neA, ltA, aC, aB]) (by omega) (fun n1 hn1 => ?_))
  have in1 : id < n1 := by omega
  have Kn1 := nfc trivial hn1
  simp -implicitDefEqProofs (maxDischargeDepth := 80) [hl, hi, neC hi, neA, ltA, aC, aB, Kn1]
  exact ⟨_, (by repeat (first | exact aG _ | refine aE ?_ (aF (hfr _ (by omega))) | refine aE ?_ (hfr _ (by omega)))), hk _ (by omega)⟩
open Go Go.Fx Go.Proofs Go.Fx.Flt
def EC (f : FuncId) (args : List D) (run : PR) (r : Rd) : Prop := ∀ e r', run = some (e, r') → r'.ok ∧ r'.nest = r.nest ∧ RC f args r r' (.agg (aO e))
theorem em_1 {α : Type} {enc : α → List D} {a : α} : em enc [a] = [enc a] := rfl
theorem em_2 {α : Type} {enc : α → List D} {a b : α} : em enc [a, b] = [enc a, enc b] := rfl
theorem em_3 {α : Type} {enc : α → List D} {a b c : α} : em enc [a, b, c] = [enc a, enc b, enc c] := rfl
theorem lY (op : Int) (a b : Ex) (m : Mk) : Pure Tryd.prog 96 [I op, .agg (aO a), .agg (aO b), .agg (aB m)] (.agg (aO (two op a b m))) := by
 refine fi96.pu (by simp) ?_
 simp only [two, bG, em_2]
 simp only [aA, aB]
 simp -implicitDefEqProofs (maxDischargeDepth := 80) [ac96]
theorem gK {r : Rd} {w : Int} : (r.fail w).nest = r.nest := by unfold Rd.fail; split <;> rfl
theorem nest_want {r : Rd} {s : List UInt8} : (r.want s).nest = r.nest := by
 unfold Rd.want
 split
 ·rfl
 ·exact gK
theorem kL {r : Rd} : r.name.2.nest = r.nest := by
 unfold Rd.name
 split
 ·exact gK
 ·rfl
theorem pK {r : Rd} : r.typ.2.nest = r.nest := by
 unfold Rd.typ
 split
 ·rfl
 ·split
  ·rfl
  ·split
   ·rfl
   ·exact gK
theorem cons_s {n : Nat} (h1 : ∀ r, r.ok → EC 95 [] (eF n r) r) (h2 : ∀ r, r.ok → EC 83 [] (eG n r) r) :
  ∀ r, r.ok → EC 83 [] (eG (n + 1) r) r := by
 intro r h e r' hrun
 unfold eG at hrun
 cases hc : eF n r with
 | none => rw [hc] at hrun; simp at hrun
 | some p =>
  obtain ⟨a, r1⟩ := p
  rw [hc] at hrun
  simp only [Option.bind_some] at hrun
  obtain ⟨k1, n1, c1⟩ := h1 r h a r1 hc
  have cn := eX k1
  have ct := gJ k1 [58]
  simp only [aA, aB] at c1 cn
  cases hs : r1.is [58] <;> rw [hs] at hrun ct
  ·simp only [Bool.false_eq_true, if_false, Option.some.injEq, Prod.mk.injEq] at hrun ct
   obtain ⟨rfl, rfl⟩ := hrun
   refine ⟨k1, n1, ?_⟩
   intro id mem nx K hl hi hk
   simp only [aA] at hk
   refine fi83.ct (by simp) fun hfr => ?_
   simp -implicitDefEqProofs (maxDischargeDepth := 80) [ac83, hl, hi, neC hi, neA, ltA, aC, aB, aA]
   refine aD ((c1) (by simp -implicitDefEqProofs (maxDischargeDepth := 80) [hl, hi, neC hi, neA, ltA, aC, aB, aA]) (by omega) (fun m1 hm1 => ?_))
   have im1 : id < m1 := by omega
   have Km1 := nfc trivial hm1
   simp -implicitDefEqProofs (maxDischargeDepth := 80) [hl, hi, neC hi, neA, ltA, aC, aB, aA, Km1]
   refine aD ((cn) (by simp -implicitDefEqProofs (maxDischargeDepth := 80) [hl, hi, neC hi, neA, ltA, aC, aB, aA, Km1]) (by omega) (fun m2 hm2 => ?_))
   have im2 : id < m2 := by omega
   have Km2 := nfc Km1 hm2
   simp -implicitDefEqProofs (maxDischargeDepth := 80) [hl, hi, neC hi, neA, ltA, aC, aB, aA, Km2]
   refine aD ((ct) (by simp -implicitDefEqProofs (maxDischargeDepth := 80) [hl, hi, neC hi, neA, ltA, aC, aB, aA, Km2]) (by omega) (fun m3 hm3 => ?_))
   have im3 : id < m3 := by omega
   have Km3 := nfc Km2 hm3
   simp -implicitDefEqProofs (maxDischargeDepth := 80) [hl, hi, neC hi, neA, ltA, aC, aB, aA, Km3]
   exact ⟨_, (by repeat (first | exact aG _ | refine aE ?_ (aF (hfr _ (by omega))) | refine aE ?_ (hfr _ (by omega)))), hk _ (by omega)⟩
  ·simp only [if_true, Option.map_eq_some_iff, Prod.mk.injEq] at hrun ct
   obtain ⟨⟨b, r2⟩, hb, rfl, rfl⟩ := hrun
   obtain ⟨k2, n2, c2⟩ := h2 r1.adv (Rd.ok_adv k1 (Rd.is_4 hs)) b r2 hb
   have c3 := lY 18 a b r1.next
   simp only [aA, aB] at c2 c3
   refine ⟨k2, n2.trans n1, ?_⟩
   intro id mem nx K hl hi hk
   simp only [aA] at hk
   refine fi83.ct (by simp) fun hfr => ?_
   simp -implicitDefEqProofs (maxDischargeDepth := 80) [ac83, hl, hi, neC hi, neA, ltA, aC, aB, aA]
   refine aD ((c1) (by simp -implicitDefEqProofs (maxDischargeDepth := 80) [hl, hi, neC hi, neA, ltA, aC, aB, aA]) (by omega) (fun m1 hm1 => ?_))
   have im1 : id < m1 := by omega
   have Km1 := nfc trivial hm1
   simp -implicitDefEqProofs (maxDischargeDepth := 80) [hl, hi, neC hi, neA, ltA, aC, aB, aA, Km1]
   refine aD ((cn) (by simp -implicitDefEqProofs (maxDischargeDepth := 80) [hl, hi, neC hi, neA, ltA, aC, aB, aA, Km1]) (by omega) (fun m2 hm2 => ?_))
   have im2 : id < m2 := by omega
   have Km2 := nfc Km1 hm2
   simp -implicitDefEqProofs (maxDischargeDepth := 80) [hl, hi, neC hi, neA, ltA, aC, aB, aA, Km2]
   refine aD ((ct) (by simp -implicitDefEqProofs (maxDischargeDepth := 80) [hl, hi, neC hi, neA, ltA, aC, aB, aA, Km2]) (by omega) (fun m3 hm3 => ?_))
   have im3 : id < m3 := by omega
   have Km3 := nfc Km2 hm3
   simp -implicitDefEqProofs (maxDischargeDepth := 80) [hl, hi, neC hi, neA, ltA, aC, aB, aA, Km3]
   refine aD ((c2) (by simp -implicitDefEqProofs (maxDischargeDepth := 80) [hl, hi, neC hi, neA, ltA, aC, aB, aA, Km3]) (by omega) (fun m4 hm4 => ?_))
   have im4 : id < m4 := by omega
   have Km4 := nfc Km3 hm4
   simp -implicitDefEqProofs (maxDischargeDepth := 80) [hl, hi, neC hi, neA, ltA, aC, aB, aA, Km4]
   refine aH (c3) (by simp) ?_
   simp -implicitDefEqProofs (maxDischargeDepth := 80) [hl, hi, neC hi, neA, ltA, aC, aB, aA, Km4]
   exact ⟨_, (by repeat (first | exact aG _ | refine aE ?_ (aF (hfr _ (by omega))) | refine aE ?_ (hfr _ (by omega)))), hk _ (by omega)⟩
theorem comp_s {n : Nat} (h1 : ∀ r, r.ok → EC 98 [] (fG n r) r) :
  ∀ r, r.ok → EC 95 [] (eF (n + 1) r) r := by
 intro r h e r' hrun
 unfold eF at hrun
 cases hc : fG n r with
 | none => rw [hc] at hrun; simp at hrun
 | some p =>
  obtain ⟨a, r1⟩ := p
  rw [hc] at hrun
  simp only [Option.bind_some] at hrun
  obtain ⟨k1, n1, c1⟩ := h1 r h a r1 hc
  have cn := eX k1
  have ci := i7 k1 [60]
  have ct := gJ k1 [61, 61]
  have cu := gJ k1 [60]
  simp only [aA, aB] at c1 cn
  cases hs : r1.is [61, 61] <;> rw [hs] at hrun ct
  ·cases hu : r1.is [60] <;> rw [hu] at hrun cu ci
   ·simp only [Bool.false_eq_true, if_false, Bool.or_self, Option.some.injEq, Prod.mk.injEq] at hrun ct cu
    obtain ⟨rfl, rfl⟩ := hrun
    refine ⟨k1, n1, ?_⟩
    intro id mem nx K hl hi hk
    simp only [aA] at hk
    refine fi95.ct (by simp) fun hfr => ?_
    simp -implicitDefEqProofs (maxDischargeDepth := 80) [ac95, hl, hi, neC hi, neA, ltA, aC, aB, aA]
    refine aD ((c1) (by simp -implicitDefEqProofs (maxDischargeDepth := 80) [hl, hi, neC hi, neA, ltA, aC, aB, aA]) (by omega) (fun m1 hm1 => ?_))
    have im1 : id < m1 := by omega
    have Km1 := nfc trivial hm1
    simp -implicitDefEqProofs (maxDischargeDepth := 80) [hl, hi, neC hi, neA, ltA, aC, aB, aA, Km1]
    refine aD ((cn) (by simp -implicitDefEqProofs (maxDischargeDepth := 80) [hl, hi, neC hi, neA, ltA, aC, aB, aA, Km1]) (by omega) (fun m2 hm2 => ?_))
    have im2 : id < m2 := by omega
    have Km2 := nfc Km1 hm2
    simp -implicitDefEqProofs (maxDischargeDepth := 80) [hl, hi, neC hi, neA, ltA, aC, aB, aA, Km2]
    refine aD ((ci) (by simp -implicitDefEqProofs (maxDischargeDepth := 80) [hl, hi, neC hi, neA, ltA, aC, aB, aA, Km2]) (by omega) (fun m3 hm3 => ?_))
    have im3 : id < m3 := by omega
    have Km3 := nfc Km2 hm3
    simp -implicitDefEqProofs (maxDischargeDepth := 80) [hl, hi, neC hi, neA, ltA, aC, aB, aA, Km3]
    refine aD ((ct) (by simp -implicitDefEqProofs (maxDischargeDepth := 80) [hl, hi, neC hi, neA, ltA, aC, aB, aA, Km3]) (by omega) (fun m4 hm4 => ?_))
    have im4 : id < m4 := by omega
    have Km4 := nfc Km3 hm4
    simp -implicitDefEqProofs (maxDischargeDepth := 80) [hl, hi, neC hi, neA, ltA, aC, aB, aA, Km4]
    refine aD ((cu) (by simp -implicitDefEqProofs (maxDischargeDepth := 80) [hl, hi, neC hi, neA, ltA, aC, aB, aA, Km4]) (by omega) (fun m5 hm5 => ?_))
    have im5 : id < m5 := by omega
    have Km5 := nfc Km4 hm5
    simp -implicitDefEqProofs (maxDischargeDepth := 80) [hl, hi, neC hi, neA, ltA, aC, aB, aA, Km5]
    exact ⟨_, (by repeat (first | exact aG _ | refine aE ?_ (aF (hfr _ (by omega))) | refine aE ?_ (hfr _ (by omega)))), hk _ (by omega)⟩
   ·simp only [Bool.or_true, Bool.false_eq_true, if_false, if_true, Option.map_eq_some_iff, Prod.mk.injEq] at hrun ct cu
    obtain ⟨⟨b, r2⟩, hb, rfl, rfl⟩ := hrun
    obtain ⟨k2, n2, c2⟩ := h1 r1.adv (Rd.ok_adv k1 (Rd.is_4 hu)) b r2 hb
    have c3 := lY 13 a b r1.next
    simp only [aA, aB] at c2 c3
    refine ⟨k2, n2.trans n1, ?_⟩
    intro id mem nx K hl hi hk
    simp only [aA] at hk
    refine fi95.ct (by simp) fun hfr => ?_
    simp -implicitDefEqProofs (maxDischargeDepth := 80) [ac95, hl, hi, neC hi, neA, ltA, aC, aB, aA]
    refine aD ((c1) (by simp -implicitDefEqProofs (maxDischargeDepth := 80) [hl, hi, neC hi, neA, ltA, aC, aB, aA]) (by omega) (fun m1 hm1 => ?_))
    have im1 : id < m1 := by omega
    have Km1 := nfc trivial hm1
    simp -implicitDefEqProofs (maxDischargeDepth := 80) [hl, hi, neC hi, neA, ltA, aC, aB, aA, Km1]
    refine aD ((cn) (by simp -implicitDefEqProofs (maxDischargeDepth := 80) [hl, hi, neC hi, neA, ltA, aC, aB, aA, Km1]) (by omega) (fun m2 hm2 => ?_))
    have im2 : id < m2 := by omega
    have Km2 := nfc Km1 hm2
    simp -implicitDefEqProofs (maxDischargeDepth := 80) [hl, hi, neC hi, neA, ltA, aC, aB, aA, Km2]
    refine aD ((ci) (by simp -implicitDefEqProofs (maxDischargeDepth := 80) [hl, hi, neC hi, neA, ltA, aC, aB, aA, Km2]) (by omega) (fun m3 hm3 => ?_))
    have im3 : id < m3 := by omega
    have Km3 := nfc Km2 hm3
    simp -implicitDefEqProofs (maxDischargeDepth := 80) [hl, hi, neC hi, neA, ltA, aC, aB, aA, Km3]
    refine aD ((ct) (by simp -implicitDefEqProofs (maxDischargeDepth := 80) [hl, hi, neC hi, neA, ltA, aC, aB, aA, Km3]) (by omega) (fun m4 hm4 => ?_))
    have im4 : id < m4 := by omega
    have Km4 := nfc Km3 hm4
    simp -implicitDefEqProofs (maxDischargeDepth := 80) [hl, hi, neC hi, neA, ltA, aC, aB, aA, Km4]
    refine aD ((cu) (by simp -implicitDefEqProofs (maxDischargeDepth := 80) [hl, hi, neC hi, neA, ltA, aC, aB, aA, Km4]) (by omega) (fun m5 hm5 => ?_))
    have im5 : id < m5 := by omega
    have Km5 := nfc Km4 hm5
    simp -implicitDefEqProofs (maxDischargeDepth := 80) [hl, hi, neC hi, neA, ltA, aC, aB, aA, Km5]
    refine aD ((c2) (by simp -implicitDefEqProofs (maxDischargeDepth := 80) [hl, hi, neC hi, neA, ltA, aC, aB, aA, Km5]) (by omega) (fun m6 hm6 => ?_))
    have im6 : id < m6 := by omega
    have Km6 := nfc Km5 hm6
    simp -implicitDefEqProofs (maxDischargeDepth := 80) [hl, hi, neC hi, neA, ltA, aC, aB, aA, Km6]
    refine aH (c3) (by simp) ?_
    simp -implicitDefEqProofs (maxDischargeDepth := 80) [hl, hi, neC hi, neA, ltA, aC, aB, aA, Km6]
    exact ⟨_, (by repeat (first | exact aG _ | refine aE ?_ (aF (hfr _ (by omega))) | refine aE ?_ (hfr _ (by omega)))), hk _ (by omega)⟩
  ·have hu : r1.is [60] = false := by
    cases hu : r1.is [60]
    ·rfl
    ·have := (Rd.is_kind hs).2.2
     rw [(Rd.is_kind hu).2.2] at this
     simp at this
   rw [hu] at hrun ci
   simp only [Bool.or_false, Bool.false_eq_true, if_false, if_true, Option.map_eq_some_iff, Prod.mk.injEq] at hrun ct
   obtain ⟨⟨b, r2⟩, hb, rfl, rfl⟩ := hrun
   obtain ⟨k2, n2, c2⟩ := h1 r1.adv (Rd.ok_adv k1 (Rd.is_4 hs)) b r2 hb
   have c3 := lY 12 a b r1.next
   simp only [aA, aB] at c2 c3
   refine ⟨k2, n2.trans n1, ?_⟩
   intro id mem nx K hl hi hk
   simp only [aA] at hk
   refine fi95.ct (by simp) fun hfr => ?_
   simp -implicitDefEqProofs (maxDischargeDepth := 80) [ac95, hl, hi, neC hi, neA, ltA, aC, aB, aA]
   refine aD ((c1) (by simp -implicitDefEqProofs (maxDischargeDepth := 80) [hl, hi, neC hi, neA, ltA, aC, aB, aA]) (by omega) (fun m1 hm1 => ?_))
   have im1 : id < m1 := by omega
   have Km1 := nfc trivial hm1
   simp -implicitDefEqProofs (maxDischargeDepth := 80) [hl, hi, neC hi, neA, ltA, aC, aB, aA, Km1]
   refine aD ((cn) (by simp -implicitDefEqProofs (maxDischargeDepth := 80) [hl, hi, neC hi, neA, ltA, aC, aB, aA, Km1]) (by omega) (fun m2 hm2 => ?_))
   have im2 : id < m2 := by omega
   have Km2 := nfc Km1 hm2
   simp -implicitDefEqProofs (maxDischargeDepth := 80) [hl, hi, neC hi, neA, ltA, aC, aB, aA, Km2]
   refine aD ((ci) (by simp -implicitDefEqProofs (maxDischargeDepth := 80) [hl, hi, neC hi, neA, ltA, aC, aB, aA, Km2]) (by omega) (fun m3 hm3 => ?_))
   have im3 : id < m3 := by omega
   have Km3 := nfc Km2 hm3
   simp -implicitDefEqProofs (maxDischargeDepth := 80) [hl, hi, neC hi, neA, ltA, aC, aB, aA, Km3]
   refine aD ((ct) (by simp -implicitDefEqProofs (maxDischargeDepth := 80) [hl, hi, neC hi, neA, ltA, aC, aB, aA, Km3]) (by omega) (fun m4 hm4 => ?_))
   have im4 : id < m4 := by omega
   have Km4 := nfc Km3 hm4
   simp -implicitDefEqProofs (maxDischargeDepth := 80) [hl, hi, neC hi, neA, ltA, aC, aB, aA, Km4]
   refine aD ((c2) (by simp -implicitDefEqProofs (maxDischargeDepth := 80) [hl, hi, neC hi, neA, ltA, aC, aB, aA, Km4]) (by omega) (fun m6 hm6 => ?_))
   have im6 : id < m6 := by omega
   have Km6 := nfc Km4 hm6
   simp -implicitDefEqProofs (maxDischargeDepth := 80) [hl, hi, neC hi, neA, ltA, aC, aB, aA, Km6]
   refine aH (c3) (by simp) ?_
   simp -implicitDefEqProofs (maxDischargeDepth := 80) [hl, hi, neC hi, neA, ltA, aC, aB, aA, Km6]
   exact ⟨_, (by repeat (first | exact aG _ | refine aE ?_ (aF (hfr _ (by omega))) | refine aE ?_ (hfr _ (by omega)))), hk _ (by omega)⟩
theorem DF {N : Nat} (h1 : ∀ k, k < N → ∀ r, r.ok → EC 99 [] (cO k r) r) : ∀ n a (r : Rd) e r', n ≤ N → r.ok → eC n a r = some (e, r') → r'.ok ∧ r'.nest = r.nest := by
 intro n
 induction n with
 | zero => intro a r e r' _ _ h; simp [eC] at h
 | succ n ih =>
  intro a r e r' hn h hrun
  unfold eC at hrun
  split at hrun
  ·rename_i hs
   cases hc : cO n r.adv with
   | none => rw [hc] at hrun; simp at hrun
   | some p =>
    obtain ⟨b, r2⟩ := p
    rw [hc] at hrun
    simp only [Option.bind_some] at hrun
    have h4 : r.next.kind ≠ 4 := by
     rcases Bool.or_eq_true_iff.1 hs with h | h
     ·exact Rd.is_4 h
     ·exact Rd.is_4 h
    obtain ⟨k2, n2, _⟩ := h1 n (by omega) r.adv (Rd.ok_adv h h4) b r2 hc
    obtain ⟨k3, n3⟩ := ih _ r2 e r' (by omega) k2 hrun
    exact ⟨k3, n3.trans n2⟩
  ·simp only [Option.some.injEq, Prod.mk.injEq] at hrun
   obtain ⟨_, rfl⟩ := hrun
   exact ⟨h, rfl⟩
theorem sum_s {n : Nat} (h1 : ∀ k, k ≤ n → ∀ r, r.ok → EC 99 [] (cO k r) r) :
  ∀ r, r.ok → EC 98 [] (fG (n + 1) r) r := by
 intro r h e r' hrun
 unfold fG at hrun
 cases hc : cO n r with
 | none => rw [hc] at hrun; simp at hrun
 | some p =>
  obtain ⟨a, r1⟩ := p
  rw [hc] at hrun
  simp only [Option.bind_some] at hrun
  obtain ⟨k1, n1, c1⟩ := h1 n (Nat.le_refl _) r h a r1 hc
  obtain ⟨k9, n9⟩ := DF (N := n) (fun k hk => h1 k (by omega)) n a r1 e r' (Nat.le_refl _) k1 hrun
  refine ⟨k9, n9.trans n1, ?_⟩
  simp only [aA] at c1
  intro id mem nx K hl hi hk
  simp only [aA] at hk
  refine fi98.ct (by simp) fun hfr => ?_
  simp -implicitDefEqProofs (maxDischargeDepth := 80) [ac98, hl, hi, neC hi, neA, ltA, aC, aB, aA]
  refine aD ((c1) (by simp -implicitDefEqProofs (maxDischargeDepth := 80) [hl, hi, neC hi, neA, ltA, aC, aB, aA]) (by omega) (fun m1 hm1 => ?_))
  have im1 : id < m1 := by omega
  have Km1 := nfc trivial hm1
  simp -implicitDefEqProofs (maxDischargeDepth := 80) [hl, hi, neC hi, neA, ltA, aC, aB, aA, Km1]
  refine lpG cf98 lb98_0 [4, 5, 6] (α := Nat × Ex × Rd) (fun _ _ => []) (fun s _ => (nx + 1 + 2, .box (aO s.2.1)) :: (nx, .box [I 0, Tx [], Tx [], I 0, CX 0 0, .pl (.slice none 0 0), I 0]) :: upd mem id (.box (aC s.2.2)))
   (fun s m => nx + 1 + 3 ≤ m ∧ s.1 ≤ n ∧ s.2.2.ok ∧ eC s.1 s.2.1 s.2.2 = some (e, r')) (fun s => s.1) (n, a, r1) ⟨by omega, Nat.le_refl _, k1, hrun⟩ (by simp) (by simp [aA, aC]) ?_
  rintro ⟨f, x, q⟩ m ⟨hm, hf, hq, hrun⟩
  have Km := nfc Km1 hm
  simp only at hf hq hrun
  cases f with
  | zero => simp [eC] at hrun
  | succ f =>
   unfold eC at hrun
   have ci := i7 hq [43]
   have cj := i7 hq [45]
   have cn := eX hq
   simp only [aB] at cn
   have hl2 := hq.lt
   have hl3 := hq.len
   have w := bB (x := (q.at' : Int) + 1) (by omega) (by omega)
   have step : ∀ b r2, q.next.kind ≠ 4 → cO f q.adv = some (b, r2) → r2.ok ∧ RC 99 [] q.adv r2 (.agg (aO b)) := fun b r2 h4 hb => by
    obtain ⟨k2, _, c2⟩ := h1 f (by omega) q.adv (Rd.ok_adv hq h4) b r2 hb
    exact ⟨k2, c2⟩
   have body : (q.is [43] || q.is [45]) = true → ∃ b r2, (r2.ok ∧ RC 99 [] q.adv r2 (.agg (aO b))) ∧ eC f (two (if q.next.text = [45] then 9 else 8) x b q.next) r2 = some (e, r') := fun hs => by
    rw [if_pos hs] at hrun
    cases hc : cO f q.adv with
    | none => rw [hc] at hrun; simp at hrun
    | some p =>
     rw [hc] at hrun
     refine ⟨p.1, p.2, step p.1 p.2 ?_ hc, hrun⟩
     rcases Bool.or_eq_true_iff.1 hs with h | h
     ·exact Rd.is_4 h
     ·exact Rd.is_4 h
   cases hs : q.is [43] <;> rw [hs] at ci
   ·cases hu : q.is [45] <;> rw [hu] at cj
    ·rw [hs, hu, if_neg (by decide)] at hrun
     simp only [Option.some.injEq, Prod.mk.injEq] at hrun
     obtain ⟨rfl, rfl⟩ := hrun
     simp -implicitDefEqProofs (maxDischargeDepth := 80) [lb98_0, hl, hi, neC hi, neA, ltA, aC, aB, aA, Km]
     refine aD ((ci) (by simp -implicitDefEqProofs (maxDischargeDepth := 80) [hl, hi, neC hi, neA, ltA, aC, aB, aA, Km]) (by omega) (fun m2 hm2 => ?_))
     have im2 : id < m2 := by omega
     have Km2 := nfc Km hm2
     simp -implicitDefEqProofs (maxDischargeDepth := 80) [hl, hi, neC hi, neA, ltA, aC, aB, aA, Km2]
     refine aD ((cj) (by simp -implicitDefEqProofs (maxDischargeDepth := 80) [hl, hi, neC hi, neA, ltA, aC, aB, aA, Km2]) (by omega) (fun m3 hm3 => ?_))
     have im3 : id < m3 := by omega
     have Km3 := nfc Km2 hm3
     simp -implicitDefEqProofs (maxDischargeDepth := 80) [hl, hi, neC hi, neA, ltA, aC, aB, aA, Km3]
     exact ⟨_, (by repeat (first | exact aG _ | refine aE ?_ (aF (hfr _ (by omega))) | refine aE ?_ (hfr _ (by omega)))), hk _ (by omega)⟩
    ·obtain ⟨b, r2, ⟨k2, c2⟩, hrun2⟩ := body (by rw [hu]; simp)
     have ht : q.next.text = [45] := (Rd.is_kind hu).2.2
     rw [if_pos ht] at hrun2
     have c3 := lY 9 x b q.next
     simp only [aA, aB] at c2 c3
     rw [ht] at c3 cn
     simp -implicitDefEqProofs (maxDischargeDepth := 80) [lb98_0, hl, hi, neC hi, neA, ltA, aC, aB, aA, Km]
     refine aD ((ci) (by simp -implicitDefEqProofs (maxDischargeDepth := 80) [hl, hi, neC hi, neA, ltA, aC, aB, aA, Km]) (by omega) (fun m2 hm2 => ?_))
     have im2 : id < m2 := by omega
     have Km2 := nfc Km hm2
     simp -implicitDefEqProofs (maxDischargeDepth := 80) [hl, hi, neC hi, neA, ltA, aC, aB, aA, Km2]
     refine aD ((cj) (by simp -implicitDefEqProofs (maxDischargeDepth := 80) [hl, hi, neC hi, neA, ltA, aC, aB, aA, Km2]) (by omega) (fun m3 hm3 => ?_))
     have im3 : id < m3 := by omega
     have Km3 := nfc Km2 hm3
     simp -implicitDefEqProofs (maxDischargeDepth := 80) [hl, hi, neC hi, neA, ltA, aC, aB, aA, Km3]
     refine aD ((cn) (by simp -implicitDefEqProofs (maxDischargeDepth := 80) [hl, hi, neC hi, neA, ltA, aC, aB, aA, Km3]) (by omega) (fun m4 hm4 => ?_))
     have im4 : id < m4 := by omega
     have Km4 := nfc Km3 hm4
     simp -implicitDefEqProofs (maxDischargeDepth := 80) [hl, hi, neC hi, neA, ltA, aC, aB, aA, Km4, w]
     refine aD ((c2) (by simp -implicitDefEqProofs (maxDischargeDepth := 80) [hl, hi, neC hi, neA, ltA, aC, aB, aA, Km4]) (by omega) (fun m5 hm5 => ?_))
     have im5 : id < m5 := by omega
     have Km5 := nfc Km4 hm5
     simp -implicitDefEqProofs (maxDischargeDepth := 80) [hl, hi, neC hi, neA, ltA, aC, aB, aA, Km5]
     refine aH (c3) (by simp) ?_
     simp -implicitDefEqProofs (maxDischargeDepth := 80) [hl, hi, neC hi, neA, ltA, aC, aB, aA, Km5]
     refine aL (f, two 9 x b q.next, r2) ⟨by omega, by simp only; omega, k2, hrun2⟩ (by simp only; omega) (by simp) ?_
     simp only [aA, aC]
     exact (by repeat (first | exact aN _ | refine aU ?_ (by simp only [look]; repeat (first | rw [if_neg (by omega)] | exact aF (hfr _ (by omega)) | exact hfr _ (by omega)))))
   ·obtain ⟨b, r2, ⟨k2, c2⟩, hrun2⟩ := body (by rw [hs]; rfl)
    have ht : q.next.text = [43] := (Rd.is_kind hs).2.2
    have ht2 : ¬ q.next.text = [45] := by rw [ht]; simp
    rw [if_neg ht2] at hrun2
    have c3 := lY 8 x b q.next
    simp only [aA, aB] at c2 c3
    rw [ht] at c3 cn
    simp -implicitDefEqProofs (maxDischargeDepth := 80) [lb98_0, hl, hi, neC hi, neA, ltA, aC, aB, aA, Km]
    refine aD ((ci) (by simp -implicitDefEqProofs (maxDischargeDepth := 80) [hl, hi, neC hi, neA, ltA, aC, aB, aA, Km]) (by omega) (fun m2 hm2 => ?_))
    have im2 : id < m2 := by omega
    have Km2 := nfc Km hm2
    simp -implicitDefEqProofs (maxDischargeDepth := 80) [hl, hi, neC hi, neA, ltA, aC, aB, aA, Km2]
    refine aD ((cn) (by simp -implicitDefEqProofs (maxDischargeDepth := 80) [hl, hi, neC hi, neA, ltA, aC, aB, aA, Km2]) (by omega) (fun m4 hm4 => ?_))
    have im4 : id < m4 := by omega
    have Km4 := nfc Km2 hm4
    simp -implicitDefEqProofs (maxDischargeDepth := 80) [hl, hi, neC hi, neA, ltA, aC, aB, aA, Km4, w]
    refine aD ((c2) (by simp -implicitDefEqProofs (maxDischargeDepth := 80) [hl, hi, neC hi, neA, ltA, aC, aB, aA, Km4]) (by omega) (fun m5 hm5 => ?_))
    have im5 : id < m5 := by omega
    have Km5 := nfc Km4 hm5
    simp -implicitDefEqProofs (maxDischargeDepth := 80) [hl, hi, neC hi, neA, ltA, aC, aB, aA, Km5]
    refine aH (c3) (by simp) ?_
    simp -implicitDefEqProofs (maxDischargeDepth := 80) [hl, hi, neC hi, neA, ltA, aC, aB, aA, Km5]
    refine aL (f, two 8 x b q.next, r2) ⟨by omega, by simp only; omega, k2, hrun2⟩ (by simp only; omega) (by simp) ?_
    simp only [aA, aC]
    exact (by repeat (first | exact aN _ | refine aU ?_ (by simp only [look]; repeat (first | rw [if_neg (by omega)] | exact aF (hfr _ (by omega)) | exact hfr _ (by omega)))))
theorem BL {N : Nat} (h1 : ∀ k, k < N → ∀ r, r.ok → EC 100 [] (cN k r) r) : ∀ n a (r : Rd) e r', n ≤ N → r.ok → dD n a r = some (e, r') → r'.ok ∧ r'.nest = r.nest := by
 intro n
 induction n with
 | zero => intro a r e r' _ _ h; simp [dD] at h
 | succ n ih =>
  intro a r e r' hn h hrun
  unfold dD at hrun
  split at hrun
  ·rename_i hs
   cases hc : cN n r.adv with
   | none => rw [hc] at hrun; simp at hrun
   | some p =>
    obtain ⟨b, r2⟩ := p
    rw [hc] at hrun
    simp only [Option.bind_some] at hrun
    have h4 : r.next.kind ≠ 4 := by
     rcases Bool.or_eq_true_iff.1 hs with h | h
     ·exact Rd.is_4 h
     ·exact Rd.is_4 h
    obtain ⟨k2, n2, _⟩ := h1 n (by omega) r.adv (Rd.ok_adv h h4) b r2 hc
    obtain ⟨k3, n3⟩ := ih _ r2 e r' (by omega) k2 hrun
    exact ⟨k3, n3.trans n2⟩
  ·simp only [Option.some.injEq, Prod.mk.injEq] at hrun
   obtain ⟨_, rfl⟩ := hrun
   exact ⟨h, rfl⟩
theorem term_s {n : Nat} (h1 : ∀ k, k ≤ n → ∀ r, r.ok → EC 100 [] (cN k r) r) :
  ∀ r, r.ok → EC 99 [] (cO (n + 1) r) r := by
 intro r h e r' hrun
 unfold cO at hrun
 cases hc : cN n r with
 | none => rw [hc] at hrun; simp at hrun
 | some p =>
  obtain ⟨a, r1⟩ := p
  rw [hc] at hrun
  simp only [Option.bind_some] at hrun
  obtain ⟨k1, n1, c1⟩ := h1 n (Nat.le_refl _) r h a r1 hc
  obtain ⟨k9, n9⟩ := BL (N := n) (fun k hk => h1 k (by omega)) n a r1 e r' (Nat.le_refl _) k1 hrun
  refine ⟨k9, n9.trans n1, ?_⟩
  simp only [aA] at c1
  intro id mem nx K hl hi hk
  simp only [aA] at hk
  refine fi99.ct (by simp) fun hfr => ?_
  simp -implicitDefEqProofs (maxDischargeDepth := 80) [ac99, hl, hi, neC hi, neA, ltA, aC, aB, aA]
  refine aD ((c1) (by simp -implicitDefEqProofs (maxDischargeDepth := 80) [hl, hi, neC hi, neA, ltA, aC, aB, aA]) (by omega) (fun m1 hm1 => ?_))
  have im1 : id < m1 := by omega
  have Km1 := nfc trivial hm1
  simp -implicitDefEqProofs (maxDischargeDepth := 80) [hl, hi, neC hi, neA, ltA, aC, aB, aA, Km1]
  refine lpG cf99 lb99_0 [4, 5, 6] (α := Nat × Ex × Rd) (fun _ _ => []) (fun s _ => (nx + 1 + 2, .box (aO s.2.1)) :: (nx, .box [I 0, Tx [], Tx [], I 0, CX 0 0, .pl (.slice none 0 0), I 0]) :: upd mem id (.box (aC s.2.2)))
   (fun s m => nx + 1 + 3 ≤ m ∧ s.1 ≤ n ∧ s.2.2.ok ∧ dD s.1 s.2.1 s.2.2 = some (e, r')) (fun s => s.1) (n, a, r1) ⟨by omega, Nat.le_refl _, k1, hrun⟩ (by simp) (by simp [aA, aC]) ?_
  rintro ⟨f, x, q⟩ m ⟨hm, hf, hq, hrun⟩
  have Km := nfc Km1 hm
  simp only at hf hq hrun
  cases f with
  | zero => simp [dD] at hrun
  | succ f =>
   unfold dD at hrun
   have ci := i7 hq [42]
   have cj := i7 hq [47]
   have cn := eX hq
   simp only [aB] at cn
   have hl2 := hq.lt
   have hl3 := hq.len
   have w := bB (x := (q.at' : Int) + 1) (by omega) (by omega)
   have step : ∀ b r2, q.next.kind ≠ 4 → cN f q.adv = some (b, r2) → r2.ok ∧ RC 100 [] q.adv r2 (.agg (aO b)) := fun b r2 h4 hb => by
    obtain ⟨k2, _, c2⟩ := h1 f (by omega) q.adv (Rd.ok_adv hq h4) b r2 hb
    exact ⟨k2, c2⟩
   have body : (q.is [42] || q.is [47]) = true → ∃ b r2, (r2.ok ∧ RC 100 [] q.adv r2 (.agg (aO b))) ∧ dD f (two (if q.next.text = [47] then 11 else 10) x b q.next) r2 = some (e, r') := fun hs => by
    rw [if_pos hs] at hrun
    cases hc : cN f q.adv with
    | none => rw [hc] at hrun; simp at hrun
    | some p =>
     rw [hc] at hrun
     refine ⟨p.1, p.2, step p.1 p.2 ?_ hc, hrun⟩
     rcases Bool.or_eq_true_iff.1 hs with h | h
     ·exact Rd.is_4 h
     ·exact Rd.is_4 h
   cases hs : q.is [42] <;> rw [hs] at ci
   ·cases hu : q.is [47] <;> rw [hu] at cj
    ·rw [hs, hu, if_neg (by decide)] at hrun
     simp only [Option.some.injEq, Prod.mk.injEq] at hrun
     obtain ⟨rfl, rfl⟩ := hrun
     simp -implicitDefEqProofs (maxDischargeDepth := 80) [lb99_0, hl, hi, neC hi, neA, ltA, aC, aB, aA, Km]
     refine aD ((ci) (by simp -implicitDefEqProofs (maxDischargeDepth := 80) [hl, hi, neC hi, neA, ltA, aC, aB, aA, Km]) (by omega) (fun m2 hm2 => ?_))
     have im2 : id < m2 := by omega
     have Km2 := nfc Km hm2
     simp -implicitDefEqProofs (maxDischargeDepth := 80) [hl, hi, neC hi, neA, ltA, aC, aB, aA, Km2]
     refine aD ((cj) (by simp -implicitDefEqProofs (maxDischargeDepth := 80) [hl, hi, neC hi, neA, ltA, aC, aB, aA, Km2]) (by omega) (fun m3 hm3 => ?_))
     have im3 : id < m3 := by omega
     have Km3 := nfc Km2 hm3
     simp -implicitDefEqProofs (maxDischargeDepth := 80) [hl, hi, neC hi, neA, ltA, aC, aB, aA, Km3]
     exact ⟨_, (by repeat (first | exact aG _ | refine aE ?_ (aF (hfr _ (by omega))) | refine aE ?_ (hfr _ (by omega)))), hk _ (by omega)⟩
    ·obtain ⟨b, r2, ⟨k2, c2⟩, hrun2⟩ := body (by rw [hu]; simp)
     have ht : q.next.text = [47] := (Rd.is_kind hu).2.2
     rw [if_pos ht] at hrun2
     have c3 := lY 11 x b q.next
     simp only [aA, aB] at c2 c3
     rw [ht] at c3 cn
     simp -implicitDefEqProofs (maxDischargeDepth := 80) [lb99_0, hl, hi, neC hi, neA, ltA, aC, aB, aA, Km]
     refine aD ((ci) (by simp -implicitDefEqProofs (maxDischargeDepth := 80) [hl, hi, neC hi, neA, ltA, aC, aB, aA, Km]) (by omega) (fun m2 hm2 => ?_))
     have im2 : id < m2 := by omega
     have Km2 := nfc Km hm2
     simp -implicitDefEqProofs (maxDischargeDepth := 80) [hl, hi, neC hi, neA, ltA, aC, aB, aA, Km2]
     refine aD ((cj) (by simp -implicitDefEqProofs (maxDischargeDepth := 80) [hl, hi, neC hi, neA, ltA, aC, aB, aA, Km2]) (by omega) (fun m3 hm3 => ?_))
     have im3 : id < m3 := by omega
     have Km3 := nfc Km2 hm3
     simp -implicitDefEqProofs (maxDischargeDepth := 80) [hl, hi, neC hi, neA, ltA, aC, aB, aA, Km3]
     refine aD ((cn) (by simp -implicitDefEqProofs (maxDischargeDepth := 80) [hl, hi, neC hi, neA, ltA, aC, aB, aA, Km3]) (by omega) (fun m4 hm4 => ?_))
     have im4 : id < m4 := by omega
     have Km4 := nfc Km3 hm4
     simp -implicitDefEqProofs (maxDischargeDepth := 80) [hl, hi, neC hi, neA, ltA, aC, aB, aA, Km4, w]
     refine aD ((c2) (by simp -implicitDefEqProofs (maxDischargeDepth := 80) [hl, hi, neC hi, neA, ltA, aC, aB, aA, Km4]) (by omega) (fun m5 hm5 => ?_))
     have im5 : id < m5 := by omega
     have Km5 := nfc Km4 hm5
     simp -implicitDefEqProofs (maxDischargeDepth := 80) [hl, hi, neC hi, neA, ltA, aC, aB, aA, Km5]
     refine aH (c3) (by simp) ?_
     simp -implicitDefEqProofs (maxDischargeDepth := 80) [hl, hi, neC hi, neA, ltA, aC, aB, aA, Km5]
     refine aL (f, two 11 x b q.next, r2) ⟨by omega, by simp only; omega, k2, hrun2⟩ (by simp only; omega) (by simp) ?_
     simp only [aA, aC]
     exact (by repeat (first | exact aN _ | refine aU ?_ (by simp only [look]; repeat (first | rw [if_neg (by omega)] | exact aF (hfr _ (by omega)) | exact hfr _ (by omega)))))
   ·obtain ⟨b, r2, ⟨k2, c2⟩, hrun2⟩ := body (by rw [hs]; rfl)
    have ht : q.next.text = [42] := (Rd.is_kind hs).2.2
    have ht2 : ¬ q.next.text = [47] := by rw [ht]; simp
    rw [if_neg ht2] at hrun2
    have c3 := lY 10 x b q.next
    simp only [aA, aB] at c2 c3
    rw [ht] at c3 cn
    simp -implicitDefEqProofs (maxDischargeDepth := 80) [lb99_0, hl, hi, neC hi, neA, ltA, aC, aB, aA, Km]
    refine aD ((ci) (by simp -implicitDefEqProofs (maxDischargeDepth := 80) [hl, hi, neC hi, neA, ltA, aC, aB, aA, Km]) (by omega) (fun m2 hm2 => ?_))
    have im2 : id < m2 := by omega
    have Km2 := nfc Km hm2
    simp -implicitDefEqProofs (maxDischargeDepth := 80) [hl, hi, neC hi, neA, ltA, aC, aB, aA, Km2]
    refine aD ((cn) (by simp -implicitDefEqProofs (maxDischargeDepth := 80) [hl, hi, neC hi, neA, ltA, aC, aB, aA, Km2]) (by omega) (fun m4 hm4 => ?_))
    have im4 : id < m4 := by omega
    have Km4 := nfc Km2 hm4
    simp -implicitDefEqProofs (maxDischargeDepth := 80) [hl, hi, neC hi, neA, ltA, aC, aB, aA, Km4, w]
    refine aD ((c2) (by simp -implicitDefEqProofs (maxDischargeDepth := 80) [hl, hi, neC hi, neA, ltA, aC, aB, aA, Km4]) (by omega) (fun m5 hm5 => ?_))
    have im5 : id < m5 := by omega
    have Km5 := nfc Km4 hm5
    simp -implicitDefEqProofs (maxDischargeDepth := 80) [hl, hi, neC hi, neA, ltA, aC, aB, aA, Km5]
    refine aH (c3) (by simp) ?_
    simp -implicitDefEqProofs (maxDischargeDepth := 80) [hl, hi, neC hi, neA, ltA, aC, aB, aA, Km5]
    refine aL (f, two 10 x b q.next, r2) ⟨by omega, by simp only; omega, k2, hrun2⟩ (by simp only; omega) (by simp) ?_
    simp only [aA, aC]
    exact (by repeat (first | exact aN _ | refine aU ?_ (by simp only [look]; repeat (first | rw [if_neg (by omega)] | exact aF (hfr _ (by omega)) | exact hfr _ (by omega)))))
theorem word_c (s : List UInt8) : Pure Tryd.prog 102 [Tx s] (I (bK s)) := by
 refine fi102.pu (by simp) ?_
 unfold bK
 by_cases h0 : s = [116, 114, 117, 101]
 ·subst h0; simp -implicitDefEqProofs (maxDischargeDepth := 80) [ac102]
 ·
  by_cases h1 : s = [102, 97, 108, 115, 101]
  ·subst h1; simp -implicitDefEqProofs (maxDischargeDepth := 80) [ac102]
  ·
   by_cases h2 : s = [110, 105, 108]
   ·subst h2; simp -implicitDefEqProofs (maxDischargeDepth := 80) [ac102]
   ·
    by_cases h3 : s = [102, 97, 105, 108]
    ·subst h3; simp -implicitDefEqProofs (maxDischargeDepth := 80) [ac102]
    ·
     by_cases h4 : s = [110, 111, 116]
     ·subst h4; simp -implicitDefEqProofs (maxDischargeDepth := 80) [ac102]
     ·
      by_cases h5 : s = [114, 101]
      ·subst h5; simp -implicitDefEqProofs (maxDischargeDepth := 80) [ac102]
      ·
       by_cases h6 : s = [105, 109]
       ·subst h6; simp -implicitDefEqProofs (maxDischargeDepth := 80) [ac102]
       ·
        by_cases h7 : s = [99, 111, 110, 106]
        ·subst h7; simp -implicitDefEqProofs (maxDischargeDepth := 80) [ac102]
        ·
         simp -implicitDefEqProofs (maxDischargeDepth := 80) [ac102, h0, h1, h2, h3, h4, h5, h6, h7]
set_option maxHeartbeats 4000000
theorem kB (s : List UInt8) : bK s = 0 ∨ bK s = 2 ∨ bK s = 3 ∨ bK s = 4 ∨ bK s = 5 ∨ bK s = 14 ∨ bK s = 15 ∨ bK s = 16 ∨ bK s = 17 := by
 unfold bK
 repeat' split
 all_goals simp
theorem unit_s {n : Nat} (h1 : ∀ r, r.ok → EC 61 [] (aX n r) r) (h2 : ∀ m r, r.ok → EC 101 [.agg (aB m)] (eA n m r) r) :
  ∀ r, r.ok → EC 100 [] (cN (n + 1) r) r := by
 intro r h e r' hrun
 have cn := eX h
 simp only [aB] at cn
 have hl2 := h.lt
 have hl3 := h.len
 have w := bB (x := (r.at' : Int) + 1) (by omega) (by omega)
 have ct := gJ h [40]
 have cw := word_c r.next.text
 have cf := jZ h 21
 unfold cN at hrun
 by_cases g1 : r.why = 0
 ·rw [if_neg (by simp [g1])] at hrun
  have KF1 := And.intro trivial (g1)
  by_cases g2 : r.next.kind = 2
  ·rw [if_pos g2] at hrun
   simp only [Option.some.injEq, Prod.mk.injEq] at hrun
   obtain ⟨rfl, rfl⟩ := hrun
   refine ⟨Rd.ok_adv h (by omega), rfl, ?_⟩
   intro id mem nx K hl hi hk
   simp [bG, aC, g1] at hk
   refine aY ?_
   refine fi100.ct (by simp) fun hfr => ?_
   simp -implicitDefEqProofs (maxDischargeDepth := 80) [ac100, hl, hi, neC hi, neA, ltA, aC, aB, aA, KF1]
   refine aD ((cn) (by simp -implicitDefEqProofs (maxDischargeDepth := 80) [hl, hi, neC hi, neA, ltA, aC, aB, aA, KF1]) (by omega) (fun m1 hm1 => ?_))
   have im1 : id < m1 := by omega
   have Km1 := nfc KF1 hm1
   simp -implicitDefEqProofs (maxDischargeDepth := 80) [hl, hi, neC hi, neA, ltA, aC, aB, aA, Km1, g1, g2, w]
   exact dM (by repeat (first | exact aG _ | refine aE ?_ (aF (hfr _ (by omega))) | refine aE ?_ (hfr _ (by omega)))) (by simp [frz]) (hk _ (by omega))
  ·rw [if_neg g2] at hrun
   by_cases g3 : r.next.kind = 0
   ·rw [if_pos g3] at hrun
    obtain ⟨k2, n2, c2⟩ := h2 r.next r.adv (Rd.ok_adv h (by omega)) e r' hrun
    refine ⟨k2, n2, ?_⟩
    intro id mem nx K hl hi hk
    simp only [aA, aB, g3] at hk c2
    refine aY ?_
    refine fi100.ct (by simp) fun hfr => ?_
    simp -implicitDefEqProofs (maxDischargeDepth := 80) [ac100, hl, hi, neC hi, neA, ltA, aC, aB, aA, KF1]
    refine aD ((cn) (by simp -implicitDefEqProofs (maxDischargeDepth := 80) [hl, hi, neC hi, neA, ltA, aC, aB, aA, KF1]) (by omega) (fun m1 hm1 => ?_))
    have im1 : id < m1 := by omega
    have Km1 := nfc KF1 hm1
    simp -implicitDefEqProofs (maxDischargeDepth := 80) [hl, hi, neC hi, neA, ltA, aC, aB, aA, Km1, g1, g2, g3, w]
    refine aD ((c2) (by simp -implicitDefEqProofs (maxDischargeDepth := 80) [hl, hi, neC hi, neA, ltA, aC, aB, aA, Km1]) (by omega) (fun m2 hm2 => ?_))
    have im2 : id < m2 := by omega
    have Km2 := nfc Km1 hm2
    simp -implicitDefEqProofs (maxDischargeDepth := 80) [hl, hi, neC hi, neA, ltA, aC, aB, aA, Km2]
    exact dM (by repeat (first | exact aG _ | refine aE ?_ (aF (hfr _ (by omega))) | refine aE ?_ (hfr _ (by omega)))) (by simp [frz]) (hk _ (by omega))
   ·rw [if_neg g3] at hrun
    cases g4 : r.is [40] <;> rw [g4] at hrun ct
    ·rw [if_neg (by decide)] at hrun ct
     by_cases g5 : r.next.kind = 1
     ·by_cases g6 : bK r.next.text = 0
      ·rw [if_pos (.inr g6)] at hrun
       simp only [Option.some.injEq, Prod.mk.injEq] at hrun
       obtain ⟨rfl, rfl⟩ := hrun
       refine ⟨Rd.ok_fail h _, gK, ?_⟩
       intro id mem nx K hl hi hk
       simp only [ex0, bG] at hk
       refine aY ?_
       refine fi100.ct (by simp) fun hfr => ?_
       simp -implicitDefEqProofs (maxDischargeDepth := 80) [ac100, hl, hi, neC hi, neA, ltA, aC, aB, aA, KF1]
       refine aD ((cn) (by simp -implicitDefEqProofs (maxDischargeDepth := 80) [hl, hi, neC hi, neA, ltA, aC, aB, aA, KF1]) (by omega) (fun m1 hm1 => ?_))
       have im1 : id < m1 := by omega
       have Km1 := nfc KF1 hm1
       simp -implicitDefEqProofs (maxDischargeDepth := 80) [hl, hi, neC hi, neA, ltA, aC, aB, aA, Km1, g1, g2, g3, g5]
       refine aD ((ct) (by simp -implicitDefEqProofs (maxDischargeDepth := 80) [hl, hi, neC hi, neA, ltA, aC, aB, aA, Km1]) (by omega) (fun m2 hm2 => ?_))
       have im2 : id < m2 := by omega
       have Km2 := nfc Km1 hm2
       simp -implicitDefEqProofs (maxDischargeDepth := 80) [hl, hi, neC hi, neA, ltA, aC, aB, aA, Km2]
       refine aH (cw) (by simp) ?_
       simp -implicitDefEqProofs (maxDischargeDepth := 80) [hl, hi, neC hi, neA, ltA, aC, aB, aA, Km2, g5, g6]
       refine aD ((cf) (by simp -implicitDefEqProofs (maxDischargeDepth := 80) [hl, hi, neC hi, neA, ltA, aC, aB, aA, Km2]) (by omega) (fun m3 hm3 => ?_))
       have im3 : id < m3 := by omega
       have Km3 := nfc Km2 hm3
       simp -implicitDefEqProofs (maxDischargeDepth := 80) [hl, hi, neC hi, neA, ltA, aC, aB, aA, Km3]
       exact dM (by repeat (first | exact aG _ | refine aE ?_ (aF (hfr _ (by omega))) | refine aE ?_ (hfr _ (by omega)))) (by simp [frz]) (hk _ (by omega))
      ·rw [if_neg (by simp [g5, g6])] at hrun
       have ka : r.adv.ok := Rd.ok_adv h (by omega)
       by_cases g7 : bK r.next.text = 5
       ·rw [if_pos g7] at hrun
        simp only [Option.some.injEq, Prod.mk.injEq] at hrun
        obtain ⟨rfl, rfl⟩ := hrun
        have cy := q6 ka
        rw [g7] at cw
        refine ⟨Rd.ok_typ ka, pK, ?_⟩
        intro id mem nx K hl hi hk
        simp only [bG] at hk
        refine aY ?_
        refine fi100.ct (by simp) fun hfr => ?_
        simp -implicitDefEqProofs (maxDischargeDepth := 80) [ac100, hl, hi, neC hi, neA, ltA, aC, aB, aA, KF1]
        refine aD ((cn) (by simp -implicitDefEqProofs (maxDischargeDepth := 80) [hl, hi, neC hi, neA, ltA, aC, aB, aA, KF1]) (by omega) (fun m1 hm1 => ?_))
        have im1 : id < m1 := by omega
        have Km1 := nfc KF1 hm1
        simp -implicitDefEqProofs (maxDischargeDepth := 80) [hl, hi, neC hi, neA, ltA, aC, aB, aA, Km1, g1, g2, g3, g5]
        refine aD ((ct) (by simp -implicitDefEqProofs (maxDischargeDepth := 80) [hl, hi, neC hi, neA, ltA, aC, aB, aA, Km1]) (by omega) (fun m2 hm2 => ?_))
        have im2 : id < m2 := by omega
        have Km2 := nfc Km1 hm2
        simp -implicitDefEqProofs (maxDischargeDepth := 80) [hl, hi, neC hi, neA, ltA, aC, aB, aA, Km2]
        refine aH (cw) (by simp) ?_
        simp -implicitDefEqProofs (maxDischargeDepth := 80) [hl, hi, neC hi, neA, ltA, aC, aB, aA, Km2, g5, w]
        refine aH (cw) (by simp) ?_
        simp -implicitDefEqProofs (maxDischargeDepth := 80) [hl, hi, neC hi, neA, ltA, aC, aB, aA, Km2]
        refine aD ((cy) (by simp -implicitDefEqProofs (maxDischargeDepth := 80) [hl, hi, neC hi, neA, ltA, aC, aB, aA, Km2]) (by omega) (fun m3 hm3 => ?_))
        have im3 : id < m3 := by omega
        have Km3 := nfc Km2 hm3
        simp -implicitDefEqProofs (maxDischargeDepth := 80) [hl, hi, neC hi, neA, ltA, aC, aB, aA, Km3]
        exact dM (by repeat (first | exact aG _ | refine aE ?_ (aF (hfr _ (by omega))) | refine aE ?_ (hfr _ (by omega)))) (by simp [frz]) (hk _ (by omega))
       ·rw [if_neg g7] at hrun
        by_cases g8 : 14 ≤ bK r.next.text
        ·rw [if_pos g8] at hrun
         simp only [Option.map_eq_some_iff, Prod.mk.injEq] at hrun
         obtain ⟨⟨x, q⟩, hx, rfl, rfl⟩ := hrun
         have cy := cX ka [40]
         obtain ⟨k2, n2, c2⟩ := h1 (r.adv.want [40]) (Rd.ok_want ka _) x q hx
         have cz := cX k2 [41]
         have hv : bK r.next.text = 14 ∨ bK r.next.text = 15 ∨ bK r.next.text = 16 ∨ bK r.next.text = 17 := by
          have := kB r.next.text
          omega
         refine ⟨Rd.ok_want k2 _, nest_want.trans (n2.trans nest_want), ?_⟩
         intro id mem nx K hl hi hk
         simp only [bG, em_1] at hk
         simp only [aA] at hk c2
         generalize bK r.next.text = v at *
         refine aY ?_
         refine fi100.ct (by simp) fun hfr => ?_
         rcases hv with rfl | rfl | rfl | rfl
         all_goals
          simp -implicitDefEqProofs (maxDischargeDepth := 80) [ac100, hl, hi, neC hi, neA, ltA, aC, aB, aA, KF1]
          refine aD ((cn) (by simp -implicitDefEqProofs (maxDischargeDepth := 80) [hl, hi, neC hi, neA, ltA, aC, aB, aA, KF1]) (by omega) (fun m1 hm1 => ?_))
          have im1 : id < m1 := by omega
          have Km1 := nfc KF1 hm1
          simp -implicitDefEqProofs (maxDischargeDepth := 80) [hl, hi, neC hi, neA, ltA, aC, aB, aA, Km1, g1, g2, g3, g5]
          refine aD ((ct) (by simp -implicitDefEqProofs (maxDischargeDepth := 80) [hl, hi, neC hi, neA, ltA, aC, aB, aA, Km1]) (by omega) (fun m2 hm2 => ?_))
          have im2 : id < m2 := by omega
          have Km2 := nfc Km1 hm2
          simp -implicitDefEqProofs (maxDischargeDepth := 80) [hl, hi, neC hi, neA, ltA, aC, aB, aA, Km2]
          refine aH (cw) (by simp) ?_
          simp -implicitDefEqProofs (maxDischargeDepth := 80) [hl, hi, neC hi, neA, ltA, aC, aB, aA, Km2, g5, w]
          refine aH (cw) (by simp) ?_
          simp -implicitDefEqProofs (maxDischargeDepth := 80) [hl, hi, neC hi, neA, ltA, aC, aB, aA, Km2]
          refine aD ((cy) (by simp -implicitDefEqProofs (maxDischargeDepth := 80) [hl, hi, neC hi, neA, ltA, aC, aB, aA, Km2]) (by omega) (fun m3 hm3 => ?_))
          have im3 : id < m3 := by omega
          have Km3 := nfc Km2 hm3
          simp -implicitDefEqProofs (maxDischargeDepth := 80) [hl, hi, neC hi, neA, ltA, aC, aB, aA, Km3]
          refine aD ((c2) (by simp -implicitDefEqProofs (maxDischargeDepth := 80) [hl, hi, neC hi, neA, ltA, aC, aB, aA, Km3]) (by omega) (fun m4 hm4 => ?_))
          have im4 : id < m4 := by omega
          have Km4 := nfc Km3 hm4
          simp -implicitDefEqProofs (maxDischargeDepth := 80) [hl, hi, neC hi, neA, ltA, aC, aB, aA, Km4]
          refine aD ((cz) (by simp -implicitDefEqProofs (maxDischargeDepth := 80) [hl, hi, neC hi, neA, ltA, aC, aB, aA, Km4]) (by omega) (fun m5 hm5 => ?_))
          have im5 : id < m5 := by omega
          have Km5 := nfc Km4 hm5
          simp -implicitDefEqProofs (maxDischargeDepth := 80) [hl, hi, neC hi, neA, ltA, aC, aB, aA, Km5]
          exact dM (by repeat (first | exact aG _ | refine aE ?_ (aF (hfr _ (by omega))) | refine aE ?_ (hfr _ (by omega)))) (by simp [frz]) (hk _ (by omega))
        ·rw [if_neg g8] at hrun
         simp only [Option.some.injEq, Prod.mk.injEq] at hrun
         obtain ⟨rfl, rfl⟩ := hrun
         have hv : bK r.next.text = 2 ∨ bK r.next.text = 3 ∨ bK r.next.text = 4 := by
          have := kB r.next.text
          omega
         refine ⟨ka, rfl, ?_⟩
         intro id mem nx K hl hi hk
         simp [bG, aC, g1] at hk
         generalize bK r.next.text = v at *
         refine aY ?_
         refine fi100.ct (by simp) fun hfr => ?_
         rcases hv with rfl | rfl | rfl
         all_goals
          simp -implicitDefEqProofs (maxDischargeDepth := 80) [ac100, hl, hi, neC hi, neA, ltA, aC, aB, aA, KF1]
          refine aD ((cn) (by simp -implicitDefEqProofs (maxDischargeDepth := 80) [hl, hi, neC hi, neA, ltA, aC, aB, aA, KF1]) (by omega) (fun m1 hm1 => ?_))
          have im1 : id < m1 := by omega
          have Km1 := nfc KF1 hm1
          simp -implicitDefEqProofs (maxDischargeDepth := 80) [hl, hi, neC hi, neA, ltA, aC, aB, aA, Km1, g1, g2, g3, g5]
          refine aD ((ct) (by simp -implicitDefEqProofs (maxDischargeDepth := 80) [hl, hi, neC hi, neA, ltA, aC, aB, aA, Km1]) (by omega) (fun m2 hm2 => ?_))
          have im2 : id < m2 := by omega
          have Km2 := nfc Km1 hm2
          simp -implicitDefEqProofs (maxDischargeDepth := 80) [hl, hi, neC hi, neA, ltA, aC, aB, aA, Km2]
          refine aH (cw) (by simp) ?_
          simp -implicitDefEqProofs (maxDischargeDepth := 80) [hl, hi, neC hi, neA, ltA, aC, aB, aA, Km2, g5, w]
          refine aH (cw) (by simp) ?_
          simp -implicitDefEqProofs (maxDischargeDepth := 80) [hl, hi, neC hi, neA, ltA, aC, aB, aA, Km2]
          exact dM (by repeat (first | exact aG _ | refine aE ?_ (aF (hfr _ (by omega))) | refine aE ?_ (hfr _ (by omega)))) (by simp [frz]) (hk _ (by omega))
     ·rw [if_pos (.inl g5)] at hrun
      simp only [Option.some.injEq, Prod.mk.injEq] at hrun
      obtain ⟨rfl, rfl⟩ := hrun
      refine ⟨Rd.ok_fail h _, gK, ?_⟩
      intro id mem nx K hl hi hk
      simp only [ex0, bG] at hk
      refine aY ?_
      refine fi100.ct (by simp) fun hfr => ?_
      simp -implicitDefEqProofs (maxDischargeDepth := 80) [ac100, hl, hi, neC hi, neA, ltA, aC, aB, aA, KF1]
      refine aD ((cn) (by simp -implicitDefEqProofs (maxDischargeDepth := 80) [hl, hi, neC hi, neA, ltA, aC, aB, aA, KF1]) (by omega) (fun m1 hm1 => ?_))
      have im1 : id < m1 := by omega
      have Km1 := nfc KF1 hm1
      simp -implicitDefEqProofs (maxDischargeDepth := 80) [hl, hi, neC hi, neA, ltA, aC, aB, aA, Km1, g1, g2, g3, g5]
      refine aD ((ct) (by simp -implicitDefEqProofs (maxDischargeDepth := 80) [hl, hi, neC hi, neA, ltA, aC, aB, aA, Km1]) (by omega) (fun m2 hm2 => ?_))
      have im2 : id < m2 := by omega
      have Km2 := nfc Km1 hm2
      simp -implicitDefEqProofs (maxDischargeDepth := 80) [hl, hi, neC hi, neA, ltA, aC, aB, aA, Km2, g5]
      refine aD ((cf) (by simp -implicitDefEqProofs (maxDischargeDepth := 80) [hl, hi, neC hi, neA, ltA, aC, aB, aA, Km2]) (by omega) (fun m3 hm3 => ?_))
      have im3 : id < m3 := by omega
      have Km3 := nfc Km2 hm3
      simp -implicitDefEqProofs (maxDischargeDepth := 80) [hl, hi, neC hi, neA, ltA, aC, aB, aA, Km3]
      exact dM (by repeat (first | exact aG _ | refine aE ?_ (aF (hfr _ (by omega))) | refine aE ?_ (hfr _ (by omega)))) (by simp [frz]) (hk _ (by omega))
    ·rw [if_pos rfl] at hrun ct
     simp only [Option.map_eq_some_iff, Prod.mk.injEq] at hrun
     obtain ⟨⟨x, q⟩, hx, rfl, rfl⟩ := hrun
     obtain ⟨k2, n2, c2⟩ := h1 r.adv (Rd.ok_adv h (Rd.is_4 g4)) x q hx
     have cz := cX k2 [41]
     refine ⟨Rd.ok_want k2 _, nest_want.trans n2, ?_⟩
     intro id mem nx K hl hi hk
     simp only [aA] at hk c2
     refine aY ?_
     refine fi100.ct (by simp) fun hfr => ?_
     simp -implicitDefEqProofs (maxDischargeDepth := 80) [ac100, hl, hi, neC hi, neA, ltA, aC, aB, aA, KF1]
     refine aD ((cn) (by simp -implicitDefEqProofs (maxDischargeDepth := 80) [hl, hi, neC hi, neA, ltA, aC, aB, aA, KF1]) (by omega) (fun m1 hm1 => ?_))
     have im1 : id < m1 := by omega
     have Km1 := nfc KF1 hm1
     simp -implicitDefEqProofs (maxDischargeDepth := 80) [hl, hi, neC hi, neA, ltA, aC, aB, aA, Km1, g1, g2, g3]
     refine aD ((ct) (by simp -implicitDefEqProofs (maxDischargeDepth := 80) [hl, hi, neC hi, neA, ltA, aC, aB, aA, Km1]) (by omega) (fun m2 hm2 => ?_))
     have im2 : id < m2 := by omega
     have Km2 := nfc Km1 hm2
     simp -implicitDefEqProofs (maxDischargeDepth := 80) [hl, hi, neC hi, neA, ltA, aC, aB, aA, Km2]
     refine aD ((c2) (by simp -implicitDefEqProofs (maxDischargeDepth := 80) [hl, hi, neC hi, neA, ltA, aC, aB, aA, Km2]) (by omega) (fun m3 hm3 => ?_))
     have im3 : id < m3 := by omega
     have Km3 := nfc Km2 hm3
     simp -implicitDefEqProofs (maxDischargeDepth := 80) [hl, hi, neC hi, neA, ltA, aC, aB, aA, Km3]
     refine aD ((cz) (by simp -implicitDefEqProofs (maxDischargeDepth := 80) [hl, hi, neC hi, neA, ltA, aC, aB, aA, Km3]) (by omega) (fun m4 hm4 => ?_))
     have im4 : id < m4 := by omega
     have Km4 := nfc Km3 hm4
     simp -implicitDefEqProofs (maxDischargeDepth := 80) [hl, hi, neC hi, neA, ltA, aC, aB, aA, Km4]
     exact dM (by repeat (first | exact aG _ | refine aE ?_ (aF (hfr _ (by omega))) | refine aE ?_ (hfr _ (by omega)))) (by simp [frz]) (hk _ (by omega))
 ·rw [if_pos g1] at hrun
  simp only [Option.some.injEq, Prod.mk.injEq] at hrun
  obtain ⟨rfl, rfl⟩ := hrun
  refine ⟨h, rfl, ?_⟩
  intro id mem nx K hl hi hk
  rw [cE hl] at hk
  simp only [ex0, bG] at hk
  refine aY ?_
  refine fi100.ct (by simp) fun hfr => ?_
  simp -implicitDefEqProofs (maxDischargeDepth := 80) [ac100, hl, hi, neC hi, neA, ltA, aC, aB, aA]
  refine aD ((cn) (by simp -implicitDefEqProofs (maxDischargeDepth := 80) [hl, hi, neC hi, neA, ltA, aC, aB, aA]) (by omega) (fun m1 hm1 => ?_))
  have im1 : id < m1 := by omega
  have Km1 := nfc trivial hm1
  simp -implicitDefEqProofs (maxDischargeDepth := 80) [hl, hi, neC hi, neA, ltA, aC, aB, aA, Km1, g1]
  exact dM (by repeat (first | exact aG _ | refine aE ?_ (aF (hfr _ (by omega))) | refine aE ?_ (hfr _ (by omega)))) (by simp [frz]) (hk _ (by omega))
theorem y6 {N : Nat} (h1 : ∀ k, k < N → ∀ r, r.ok → EC 61 [] (aX k r) r) : ∀ n l (r : Rd) L r', n ≤ N → r.ok → cR n l r = some (L, r') → r'.ok ∧ r'.nest = r.nest := by
 intro n
 induction n with
 | zero => intro a r e r' _ _ h; simp [cR] at h
 | succ n ih =>
  intro l r L r' hn h hrun
  unfold cR at hrun
  split at hrun
  ·have hq : (if l = [] then r else r.want [44]).ok ∧ (if l = [] then r else r.want [44]).nest = r.nest := by
    split
    ·exact ⟨h, rfl⟩
    ·exact ⟨Rd.ok_want h _, nest_want⟩
   cases hc : aX n (if l = [] then r else r.want [44]) with
   | none => rw [hc] at hrun; simp at hrun
   | some p =>
    rw [hc] at hrun
    obtain ⟨k2, n2, _⟩ := h1 n (by omega) _ hq.1 p.1 p.2 hc
    obtain ⟨k3, n3⟩ := ih _ p.2 L r' (by omega) k2 hrun
    exact ⟨k3, n3.trans (n2.trans hq.2)⟩
  ·simp only [Option.some.injEq, Prod.mk.injEq] at hrun
   obtain ⟨_, rfl⟩ := hrun
   exact ⟨h, rfl⟩
theorem EB {n : Nat} (hN : n ≤ 2 ^ 40) (h1 : ∀ k, k ≤ n → ∀ r, r.ok → EC 61 [] (aX k r) r) :
  ∀ m r, r.ok → EC 101 [.agg (aB m)] (eA (n + 1) m r) r := by
 intro mk r h e r' hrun
 have ct := gJ h [40]
 unfold eA at hrun
 cases hs : r.is [40] <;> rw [hs] at hrun ct
 ·simp only [Bool.false_eq_true, if_false, Option.some.injEq, Prod.mk.injEq] at hrun ct
  obtain ⟨rfl, rfl⟩ := hrun
  refine ⟨h, rfl, ?_⟩
  intro id mem nx K hl hi hk
  simp only [bG] at hk
  refine aY ?_
  refine fi101.ct (by simp) fun hfr => ?_
  simp -implicitDefEqProofs (maxDischargeDepth := 80) [ac101, hl, hi, neC hi, neA, ltA, aC, aB, aA]
  refine aD ((ct) (by simp -implicitDefEqProofs (maxDischargeDepth := 80) [hl, hi, neC hi, neA, ltA, aC, aB, aA]) (by omega) (fun m1 hm1 => ?_))
  have im1 : id < m1 := by omega
  have Km1 := nfc trivial hm1
  simp -implicitDefEqProofs (maxDischargeDepth := 80) [hl, hi, neC hi, neA, ltA, aC, aB, aA, Km1]
  exact dM (by repeat (first | exact aG _ | refine aE ?_ (aF (hfr _ (by omega))) | refine aE ?_ (hfr _ (by omega)))) (by simp [frz]) (hk _ (by omega))
 ·simp only [if_true, Option.map_eq_some_iff, Prod.mk.injEq] at hrun ct
  obtain ⟨⟨L, q⟩, hL, rfl, rfl⟩ := hrun
  have ha := Rd.ok_adv h (Rd.is_4 hs)
  obtain ⟨k9, n9⟩ := y6 (N := n) (fun k hk => h1 k (by omega)) n [] r.adv L q (Nat.le_refl _) ha hL
  have cz := cX k9 [41]
  refine ⟨Rd.ok_want k9 _, nest_want.trans n9, ?_⟩
  intro id mem nx K hl hi hk
  simp only [bG] at hk
  refine aY ?_
  refine fi101.ct (by simp) fun hfr => ?_
  simp -implicitDefEqProofs (maxDischargeDepth := 80) [ac101, hl, hi, neC hi, neA, ltA, aC, aB, aA]
  refine aD ((ct) (by simp -implicitDefEqProofs (maxDischargeDepth := 80) [hl, hi, neC hi, neA, ltA, aC, aB, aA]) (by omega) (fun m1 hm1 => ?_))
  have im1 : id < m1 := by omega
  have Km1 := nfc trivial hm1
  simp -implicitDefEqProofs (maxDischargeDepth := 80) [hl, hi, neC hi, neA, ltA, aC, aB, aA, Km1]
  refine kY (id := m1 + 5) (off := 5) (k := 7) (by rw [a_, if_pos rfl]) rfl (.inl rfl) ?_
  refine lpG cf101 lb101_0 [6] (α := Nat × List Ex × Rd) (fun _ _ => []) (fun s _ => (m1 + 7, .arr s.2.1.length 7 (em aO s.2.1)) :: (m1 + 5, .box [I 7, Tx mk.text, Tx [], I 0, CX 0 0, .osl (m1 + 7) s.2.1.length 0 s.2.1.length, I mk.at']) :: (nx + 1, .box [I 0, Tx [], Tx [], I 0, CX 0 0, .pl (.slice none 0 0), I 0]) :: upd mem id (.box (aC s.2.2)))
   (fun s m => m1 + 8 ≤ m ∧ s.1 + s.2.1.length ≤ n ∧ s.2.2.ok ∧ cR s.1 s.2.1 s.2.2 = some (L, q)) (fun s => s.1) (n, [], r.adv) ⟨by omega, by simp, ha, hL⟩ (by simp) (by simp [aC]) ?_
  rintro ⟨f, l, y⟩ m ⟨hm, hf, hy, hrun⟩
  have Km := nfc Km1 hm
  simp only at hf hy hrun
  cases f with
  | zero => simp [cR] at hrun
  | succ f =>
   unfold cR at hrun
   have ci := i7 hy [41]
   have cw := cX hy [44]
   have bd : (l.length + 1) * 96 ≤ 3 * 2 ^ 46 := by omega
   by_cases g1 : y.why = 0
   ·have hw := hy
    have KF1 := And.intro Km (g1)
    cases hi2 : y.is [41] <;> rw [hi2] at ci
    ·rw [if_pos ⟨g1, hi2⟩] at hrun
     by_cases h0 : l = []
     ·subst h0
      rw [if_pos rfl] at hrun
      cases hc : aX f y with
      | none => rw [hc] at hrun; simp at hrun
      | some p =>
       rw [hc] at hrun
       obtain ⟨k2, _, c2⟩ := h1 f (by omega) y hy p.1 p.2 hc
       simp only [aA] at c2
       simp -implicitDefEqProofs (maxDischargeDepth := 80) [lb101_0, hl, hi, neC hi, neA, ltA, aC, aB, aA, KF1]
       refine aD ((ci) (by simp -implicitDefEqProofs (maxDischargeDepth := 80) [hl, hi, neC hi, neA, ltA, aC, aB, aA, KF1]) (by omega) (fun m2 hm2 => ?_))
       have im2 : id < m2 := by omega
       have Km2 := nfc KF1 hm2
       simp -implicitDefEqProofs (maxDischargeDepth := 80) [hl, hi, neC hi, neA, ltA, aC, aB, aA, Km2]
       refine aD ((c2) (by simp -implicitDefEqProofs (maxDischargeDepth := 80) [hl, hi, neC hi, neA, ltA, aC, aB, aA, Km2]) (by omega) (fun m3 hm3 => ?_))
       have im3 : id < m3 := by omega
       have Km3 := nfc Km2 hm3
       simp -implicitDefEqProofs (maxDischargeDepth := 80) [hl, hi, neC hi, neA, ltA, aC, aB, aA, Km3]
       refine aL (f, [p.1], p.2) ⟨by omega, by simp only [List.length_cons, List.length_nil] at hf ⊢; omega, k2, hrun⟩ (by simp only; omega) (by simp) ?_
       simp only [em_1, aA, List.length_cons, List.length_nil]
       exact (by repeat (first | exact aN _ | refine aU ?_ (by simp only [look]; repeat (first | rw [if_neg (by omega)] | exact aF (hfr _ (by omega)) | exact hfr _ (by omega)))))
     ·rw [if_neg h0] at hrun
      have hpos := List.length_pos_iff.2 h0
      cases hc : aX f (y.want [44]) with
      | none => rw [hc] at hrun; simp at hrun
      | some p =>
       rw [hc] at hrun
       obtain ⟨k2, _, c2⟩ := h1 f (by omega) _ (Rd.ok_want hy _) p.1 p.2 hc
       simp only [aA] at c2
       simp -implicitDefEqProofs (maxDischargeDepth := 80) [lb101_0, hl, hi, neC hi, neA, ltA, aC, aB, aA, KF1]
       refine aD ((ci) (by simp -implicitDefEqProofs (maxDischargeDepth := 80) [hl, hi, neC hi, neA, ltA, aC, aB, aA, KF1]) (by omega) (fun m2 hm2 => ?_))
       have im2 : id < m2 := by omega
       have Km2 := nfc KF1 hm2
       simp -implicitDefEqProofs (maxDischargeDepth := 80) [hl, hi, neC hi, neA, ltA, aC, aB, aA, Km2, hpos]
       refine aD ((cw) (by simp -implicitDefEqProofs (maxDischargeDepth := 80) [hl, hi, neC hi, neA, ltA, aC, aB, aA, Km2]) (by omega) (fun m4 hm4 => ?_))
       have im4 : id < m4 := by omega
       have Km4 := nfc Km2 hm4
       simp -implicitDefEqProofs (maxDischargeDepth := 80) [hl, hi, neC hi, neA, ltA, aC, aB, aA, Km4]
       refine aD ((c2) (by simp -implicitDefEqProofs (maxDischargeDepth := 80) [hl, hi, neC hi, neA, ltA, aC, aB, aA, Km4]) (by omega) (fun m3 hm3 => ?_))
       have im3 : id < m3 := by omega
       have Km3 := nfc Km4 hm3
       simp -implicitDefEqProofs (maxDischargeDepth := 80) [hl, hi, neC hi, neA, ltA, aC, aB, aA, Km3]
       have hap := tZ l p.1
       rw [aA p.1] at hap
       refine ⟨by omega, aL (f, l ++ [p.1], p.2) ⟨by omega, by simp only [List.length_append, List.length_cons, List.length_nil]; omega, k2, hrun⟩ (by simp only; omega) (by simp) ?_⟩
       rw [hap]
       simp only [List.length_append, List.length_cons, List.length_nil, Nat.zero_add]
       exact (by repeat (first | exact aN _ | refine aU ?_ (by simp only [look]; repeat (first | rw [if_neg (by omega)] | exact aF (hfr _ (by omega)) | exact hfr _ (by omega)))))
    ·rw [if_neg (by simp [hi2])] at hrun
     simp only [Option.some.injEq, Prod.mk.injEq] at hrun
     obtain ⟨rfl, rfl⟩ := hrun
     simp -implicitDefEqProofs (maxDischargeDepth := 80) [lb101_0, hl, hi, neC hi, neA, ltA, aC, aB, aA, KF1, g1]
     refine aD ((ci) (by simp -implicitDefEqProofs (maxDischargeDepth := 80) [hl, hi, neC hi, neA, ltA, aC, aB, aA, KF1]) (by omega) (fun m2 hm2 => ?_))
     have im2 : id < m2 := by omega
     have Km2 := nfc KF1 hm2
     simp -implicitDefEqProofs (maxDischargeDepth := 80) [hl, hi, neC hi, neA, ltA, aC, aB, aA, Km2]
     refine aD ((cz) (by simp -implicitDefEqProofs (maxDischargeDepth := 80) [hl, hi, neC hi, neA, ltA, aC, aB, aA, Km2]) (by omega) (fun m3 hm3 => ?_))
     have im3 : id < m3 := by omega
     have Km3 := nfc Km2 hm3
     simp -implicitDefEqProofs (maxDischargeDepth := 80) [hl, hi, neC hi, neA, ltA, aC, aB, aA, Km3]
     exact kP (m1 + 7) _ (by simp -implicitDefEqProofs (maxDischargeDepth := 80) [hl, hi, neC hi, neA, ltA, aC, aB, aA, Km3]; rfl) (by repeat (first | exact aG _ | refine aE ?_ (aF (hfr _ (by omega))) | refine aE ?_ (hfr _ (by omega)))) (aF (hfr _ (by omega))) (by simp [frz, look, List.take_of_length_le]) (hk _ (by omega))
   ·rw [if_neg (by simp [g1])] at hrun
    simp only [Option.some.injEq, Prod.mk.injEq] at hrun
    obtain ⟨rfl, rfl⟩ := hrun
    simp -implicitDefEqProofs (maxDischargeDepth := 80) [lb101_0, hl, hi, neC hi, neA, ltA, aC, aB, aA, Km, g1]
    refine aD ((cz) (by simp -implicitDefEqProofs (maxDischargeDepth := 80) [hl, hi, neC hi, neA, ltA, aC, aB, aA, Km]) (by omega) (fun m3 hm3 => ?_))
    have im3 : id < m3 := by omega
    have Km3 := nfc Km hm3
    simp -implicitDefEqProofs (maxDischargeDepth := 80) [hl, hi, neC hi, neA, ltA, aC, aB, aA, Km3]
    exact kP (m1 + 7) _ (by simp -implicitDefEqProofs (maxDischargeDepth := 80) [hl, hi, neC hi, neA, ltA, aC, aB, aA, Km3]; rfl) (by repeat (first | exact aG _ | refine aE ?_ (aF (hfr _ (by omega))) | refine aE ?_ (hfr _ (by omega)))) (aF (hfr _ (by omega))) (by simp [frz, look, List.take_of_length_le]) (hk _ (by omega))
theorem yT {N : Nat} (h1 : ∀ k, k < N → ∀ r, r.ok → EC 61 [] (aX k r) r) : ∀ n ss (r : Rd) L r', n ≤ N → r.ok → bH n ss r = some (L, r') → r'.ok ∧ r'.nest = r.nest := by
 intro n
 induction n with
 | zero => intro ss r L r' _ _ h; simp [bH] at h
 | succ n ih =>
  intro ss r L r' hn h hrun
  cases ss with
  | nil =>
   simp only [bH, Option.some.injEq, Prod.mk.injEq] at hrun
   obtain ⟨_, rfl⟩ := hrun
   exact ⟨h, rfl⟩
  | cons s ss =>
   unfold bH at hrun
   have hq : (if s = [] then r else r.want s).ok ∧ (if s = [] then r else r.want s).nest = r.nest := by
    split
    ·exact ⟨h, rfl⟩
    ·exact ⟨Rd.ok_want h _, nest_want⟩
   cases hc : aX n (if s = [] then r else r.want s) with
   | none => rw [hc] at hrun; simp at hrun
   | some p =>
    rw [hc] at hrun
    simp only [Option.bind_some, Option.map_eq_some_iff, Prod.mk.injEq] at hrun
    obtain ⟨q2, hq2, _, rfl⟩ := hrun
    obtain ⟨k2, n2, _⟩ := h1 n (by omega) _ hq.1 p.1 p.2 hc
    obtain ⟨k3, n3⟩ := ih ss p.2 q2.1 q2.2 (by omega) k2 hq2
    exact ⟨k3, n3.trans (n2.trans hq.2)⟩
theorem DW {n : Nat} (h1 : ∀ k, k < n → ∀ r, r.ok → EC 61 [] (aX k r) r) (ss : List (List UInt8)) (hss : ss.length ≤ 100) (r : Rd) (h : r.ok) (L : List Ex) (r' : Rd)
  (hrun : bH n ss r = some (L, r')) : r'.ok ∧ r'.nest = r.nest ∧ RC 84 [.sl (em bC ss)] r r' (.sl (em aO L)) := by
 obtain ⟨k9, n9⟩ := yT h1 n ss r L r' (Nat.le_refl _) h hrun
 refine ⟨k9, n9, ?_⟩
 intro id mem nx K hl hi hk
 refine aY ?_
 refine fi84.ct (by simp) fun hfr => ?_
 simp -implicitDefEqProofs (maxDischargeDepth := 80) [ac84, hl, hi, neC hi, neA, ltA, aC, aB, aA]
 refine l9 (j := 5) (k := 7) rfl (.inl rfl) ?_
 generalize hB : nx + 1 + 1 + 1 = B0
 refine lpG cf84 lb84_0 [5, 6, 7] (α := Nat × Nat × List Ex × Rd) (fun s _ => [(5, .osl B0 s.2.2.1.length 0 s.2.2.1.length), (6, I s.2.1)]) (fun s _ => (B0, .arr s.2.2.1.length 7 (em aO s.2.2.1)) :: upd mem id (.box (aC s.2.2.2)))
  (fun s m => B0 < m ∧ s.1 ≤ n ∧ s.2.2.1.length = s.2.1 ∧ s.2.1 ≤ ss.length ∧ s.2.2.2.ok ∧ ∃ L2, bH s.1 (ss.drop s.2.1) s.2.2.2 = some (L2, r') ∧ s.2.2.1 ++ L2 = L) (fun s => s.1) (n, 0, [], r) ⟨by omega, Nat.le_refl _, rfl, by simp, h, L, hrun, rfl⟩ (by simp) (by simp [cE hl]) ?_
 rintro ⟨f, i, l, y⟩ m ⟨hm, hf, hli, his, hy, L2, hrun, hL⟩
 have Km := nfc trivial hm
 simp only at hf hli his hy hrun hL
 have iB : id < B0 := by omega
 have KF1 := And.intro Km (iB)
 have KF2 := And.intro KF1 (neC iB)
 cases f with
 | zero => simp [bH] at hrun
 | succ f =>
  by_cases hlt : i < ss.length
  ·have hd : ss.drop i = ss[i] :: ss.drop (i + 1) := List.drop_eq_getElem_cons hlt
   have hg : ss[i]?.getD default = ss[i] := by rw [List.getElem?_eq_getElem hlt]; rfl
   rw [hd] at hrun
   unfold bH at hrun
   have w1 := bB (x := (i : Int) + 1) (by omega) (by omega)
   have cw := cX hy ss[i]
   by_cases h0 : ss[i] = []
   ·rw [if_pos h0] at hrun
    cases hc : aX f y with
    | none => rw [hc] at hrun; simp at hrun
    | some p =>
     rw [hc] at hrun
     simp only [Option.bind_some, Option.map_eq_some_iff, Prod.mk.injEq] at hrun
     obtain ⟨q2, hq2, rfl, rfl⟩ := hrun
     obtain ⟨k2, _, c2⟩ := h1 f (by omega) y hy p.1 p.2 hc
     simp only [aA] at c2
     simp -implicitDefEqProofs (maxDischargeDepth := 80) [lb84_0, hl, hi, neC hi, neA, ltA, aC, aB, aA, KF2, hlt, hg, h0]
     refine aD ((c2) (by simp -implicitDefEqProofs (maxDischargeDepth := 80) [hl, hi, neC hi, neA, ltA, aC, aB, aA, KF2]) (by omega) (fun m3 hm3 => ?_))
     have im3 : id < m3 := by omega
     have Km3 := nfc KF2 hm3
     simp -implicitDefEqProofs (maxDischargeDepth := 80) [hl, hi, neC hi, neA, ltA, aC, aB, aA, Km3, hlt, hg, h0, w1]
     have hap := tZ l p.1
     rw [aA p.1] at hap
     have hl1 : (l ++ [p.1]).length = l.length + 1 := by simp
     refine ⟨by omega, aL (f, i + 1, l ++ [p.1], p.2) ⟨by omega, by simp only; omega, by simp only; omega, by simp only; omega, k2, q2.1, hq2, by simpa using hL⟩ (by simp only; omega) (by simp) ?_⟩
     rw [hap]
     simp only [List.length_append, List.length_cons, List.length_nil, Nat.zero_add]
     exact (by repeat (first | exact aN _ | refine aU ?_ (by simp only [look]; repeat (first | rw [if_neg (by omega)] | exact aF (hfr _ (by omega)) | exact hfr _ (by omega)))))
   ·rw [if_neg h0] at hrun
    cases hc : aX f (y.want ss[i]) with
    | none => rw [hc] at hrun; simp at hrun
    | some p =>
     rw [hc] at hrun
     simp only [Option.bind_some, Option.map_eq_some_iff, Prod.mk.injEq] at hrun
     obtain ⟨q2, hq2, rfl, rfl⟩ := hrun
     obtain ⟨k2, _, c2⟩ := h1 f (by omega) _ (Rd.ok_want hy _) p.1 p.2 hc
     simp only [aA] at c2
     simp -implicitDefEqProofs (maxDischargeDepth := 80) [lb84_0, hl, hi, neC hi, neA, ltA, aC, aB, aA, KF2, hlt, hg, h0]
     refine aD ((cw) (by simp -implicitDefEqProofs (maxDischargeDepth := 80) [hl, hi, neC hi, neA, ltA, aC, aB, aA, KF2]) (by omega) (fun m2 hm2 => ?_))
     have im2 : id < m2 := by omega
     have Km2 := nfc KF2 hm2
     simp -implicitDefEqProofs (maxDischargeDepth := 80) [hl, hi, neC hi, neA, ltA, aC, aB, aA, Km2]
     refine aD ((c2) (by simp -implicitDefEqProofs (maxDischargeDepth := 80) [hl, hi, neC hi, neA, ltA, aC, aB, aA, Km2]) (by omega) (fun m3 hm3 => ?_))
     have im3 : id < m3 := by omega
     have Km3 := nfc Km2 hm3
     simp -implicitDefEqProofs (maxDischargeDepth := 80) [hl, hi, neC hi, neA, ltA, aC, aB, aA, Km3, hlt, hg, h0, w1]
     have hap := tZ l p.1
     rw [aA p.1] at hap
     have hl1 : (l ++ [p.1]).length = l.length + 1 := by simp
     refine ⟨by omega, aL (f, i + 1, l ++ [p.1], p.2) ⟨by omega, by simp only; omega, by simp only; omega, by simp only; omega, k2, q2.1, hq2, by simpa using hL⟩ (by simp only; omega) (by simp) ?_⟩
     rw [hap]
     simp only [List.length_append, List.length_cons, List.length_nil, Nat.zero_add]
     exact (by repeat (first | exact aN _ | refine aU ?_ (by simp only [look]; repeat (first | rw [if_neg (by omega)] | exact aF (hfr _ (by omega)) | exact hfr _ (by omega)))))
  ·have he : ss.drop i = [] := List.drop_eq_nil_of_le (by omega)
   rw [he] at hrun
   simp only [bH, Option.some.injEq, Prod.mk.injEq] at hrun
   obtain ⟨rfl, rfl⟩ := hrun
   simp only [List.append_nil] at hL
   subst hL
   simp -implicitDefEqProofs (maxDischargeDepth := 80) [lb84_0, hl, hi, neC hi, neA, ltA, aC, aB, aA, KF2, hlt]
   exact kP B0 _ (by simp -implicitDefEqProofs (maxDischargeDepth := 80) [hl, hi, neC hi, neA, ltA, aC, aB, aA, KF2]; rfl) (by repeat (first | exact aG _ | refine aE ?_ (aF (hfr _ (by omega))) | refine aE ?_ (hfr _ (by omega)))) (aF (hfr _ (by omega))) (by simp [frz, look, List.take_of_length_le]) (hk _ (by omega))
theorem upd_comm {α : Type} {i j : Nat} (h : i ≠ j) {a b : α} : ∀ {m : List (Nat × α)}, upd (upd m i a) j b = upd (upd m j b) i a
 | [] => rfl
 | (k, x) :: m => by
  by_cases h1 : k = i
  ·subst h1
   simp [upd, h]
  ·by_cases h2 : k = j
   ·subst h2
    simp [upd, h1]
   ·simp only [upd, h1, h2, if_false]; rw [upd_comm h]
theorem xG {n : Nat} (h1 : ∀ r, r.ok → EC 61 [] (aX n r) r) (r : Rd) (h : r.ok) (p : Int) (e : Ex) (r' : Rd) (hrun : cH (n + 1) r p = some (e, r')) :
  r'.ok ∧ r'.nest = r.nest ∧ ∀ (id id2 : Nat) (mem : Mem) (nx : Nat) (K : KD), look mem id = some (.box (aC r)) → id < nx → look mem id2 = some (.box [I 0, Tx [], Tx [], I 0, CX 0 0, .pl (.slice none 0 0), I p]) → id2 < nx → id ≠ id2 →
   (∀ nx', nx ≤ nx' → K (.tup []) (upd (upd mem id2 (.box (aO e))) id (.box (aC r'))) nx') → bP Tryd.prog 85 [.opt id 0, .opt id2 0] mem nx K := by
 unfold cH at hrun
 cases hc1 : aX n r with
 | none => rw [hc1] at hrun; simp at hrun
 | some q1 =>
  obtain ⟨x, r1⟩ := q1
  rw [hc1] at hrun
  simp only [Option.bind_some] at hrun
  obtain ⟨k1, n1, c1⟩ := h1 r h x r1 hc1
  have w1 := cX k1 [111, 102]
  have kw1 := Rd.ok_want k1 [111, 102]
  have w2 := cX kw1 [110, 105, 108]
  have kw2 := Rd.ok_want kw1 [110, 105, 108]
  have w3 := cX kw2 [45, 62]
  have kw3 := Rd.ok_want kw2 [45, 62]
  have n3 : (((r1.want [111, 102]).want [110, 105, 108]).want [45, 62]).nest = r.nest := by rw [nest_want, nest_want, nest_want, n1]
  generalize r1.want [111, 102] = s1 at *
  generalize s1.want [110, 105, 108] = s2 at *
  generalize s2.want [45, 62] = s3 at *
  cases hc2 : aX n s3 with
  | none => rw [hc2] at hrun; simp at hrun
  | some q2 =>
   obtain ⟨a, r2⟩ := q2
   rw [hc2] at hrun
   simp only [Option.bind_some] at hrun
   obtain ⟨k2, n2, c2⟩ := h1 s3 kw3 a r2 hc2
   have w4 := cX k2 [124]
   have kw4 := Rd.ok_want k2 [124]
   have w5 := lQ kw4
   have kw5 := Rd.ok_name kw4
   have n5 : (r2.want [124]).name.2.nest = r.nest := by rw [kL, nest_want, n2, n3]
   generalize r2.want [124] = s4 at *
   generalize s4.name.1 = hd at *
   generalize s4.name.2 = s5 at *
   have w6 := cX kw5 [58]
   have kw6 := Rd.ok_want kw5 [58]
   have w7 := lQ kw6
   have kw7 := Rd.ok_name kw6
   have n7 : (s5.want [58]).name.2.nest = r.nest := by rw [kL, nest_want, n5]
   generalize s5.want [58] = s6 at *
   generalize s6.name.1 = tl at *
   generalize s6.name.2 = s7 at *
   have w8 := cX kw7 [45, 62]
   have kw8 := Rd.ok_want kw7 [45, 62]
   have n8 : (s7.want [45, 62]).nest = r.nest := by rw [nest_want, n7]
   generalize s7.want [45, 62] = s8 at *
   simp only [Option.map_eq_some_iff, Prod.mk.injEq] at hrun
   obtain ⟨⟨b, r3⟩, hc3, rfl, rfl⟩ := hrun
   obtain ⟨k3, n9, c3⟩ := h1 s8 kw8 b r3 hc3
   refine ⟨k3, n9.trans n8, ?_⟩
   intro id id2 mem nx K hl hi hl2 hi2 hne hk
   simp only [bG, em_3] at hk
   simp only [aA] at hk c1 c2 c3
   simp only [aB] at w5 w7
   refine fi85.ct (by simp) fun hfr => ?_
   have hA : ∀ (m : Mem) (q : Blk), look (upd m id q) id2 = look m id2 := fun m q => cS (Ne.symm hne)
   have hB : ∀ (m : Mem) (q : Blk), look (upd m id2 q) id = look m id := fun m q => cS hne
   have hC : ∀ (m : Mem) (q q2 : Blk), upd (upd m id q) id2 q2 = upd (upd m id2 q2) id q := fun m q q2 => upd_comm hne
   have KF3 := And.intro trivial (hA)
   have KF4 := And.intro KF3 (hB)
   have KF5 := And.intro KF4 (hC)
   have KF6 := And.intro KF5 (hl2)
   have KF7 := And.intro KF6 (hi2)
   have KF8 := And.intro KF7 (neC hi2)
   simp -implicitDefEqProofs (maxDischargeDepth := 80) [ac85, hl, hi, neC hi, neA, ltA, aC, aB, aA, KF8]
   refine aD ((c1) (by simp -implicitDefEqProofs (maxDischargeDepth := 80) [hl, hi, neC hi, neA, ltA, aC, aB, aA, KF8]) (by omega) (fun m1 hm1 => ?_))
   have im1 : id < m1 := by omega
   have Km1 := nfc KF8 hm1
   simp -implicitDefEqProofs (maxDischargeDepth := 80) [hl, hi, neC hi, neA, ltA, aC, aB, aA, Km1]
   refine aD ((w1) (by simp -implicitDefEqProofs (maxDischargeDepth := 80) [hl, hi, neC hi, neA, ltA, aC, aB, aA, Km1]) (by omega) (fun m2 hm2 => ?_))
   have im2 : id < m2 := by omega
   have Km2 := nfc Km1 hm2
   simp -implicitDefEqProofs (maxDischargeDepth := 80) [hl, hi, neC hi, neA, ltA, aC, aB, aA, Km2]
   refine aD ((w2) (by simp -implicitDefEqProofs (maxDischargeDepth := 80) [hl, hi, neC hi, neA, ltA, aC, aB, aA, Km2]) (by omega) (fun m3 hm3 => ?_))
   have im3 : id < m3 := by omega
   have Km3 := nfc Km2 hm3
   simp -implicitDefEqProofs (maxDischargeDepth := 80) [hl, hi, neC hi, neA, ltA, aC, aB, aA, Km3]
   refine aD ((w3) (by simp -implicitDefEqProofs (maxDischargeDepth := 80) [hl, hi, neC hi, neA, ltA, aC, aB, aA, Km3]) (by omega) (fun m4 hm4 => ?_))
   have im4 : id < m4 := by omega
   have Km4 := nfc Km3 hm4
   simp -implicitDefEqProofs (maxDischargeDepth := 80) [hl, hi, neC hi, neA, ltA, aC, aB, aA, Km4]
   refine aD ((c2) (by simp -implicitDefEqProofs (maxDischargeDepth := 80) [hl, hi, neC hi, neA, ltA, aC, aB, aA, Km4]) (by omega) (fun m5 hm5 => ?_))
   have im5 : id < m5 := by omega
   have Km5 := nfc Km4 hm5
   simp -implicitDefEqProofs (maxDischargeDepth := 80) [hl, hi, neC hi, neA, ltA, aC, aB, aA, Km5]
   refine aD ((w4) (by simp -implicitDefEqProofs (maxDischargeDepth := 80) [hl, hi, neC hi, neA, ltA, aC, aB, aA, Km5]) (by omega) (fun m6 hm6 => ?_))
   have im6 : id < m6 := by omega
   have Km6 := nfc Km5 hm6
   simp -implicitDefEqProofs (maxDischargeDepth := 80) [hl, hi, neC hi, neA, ltA, aC, aB, aA, Km6]
   refine aD ((w5) (by simp -implicitDefEqProofs (maxDischargeDepth := 80) [hl, hi, neC hi, neA, ltA, aC, aB, aA, Km6]) (by omega) (fun m7 hm7 => ?_))
   have im7 : id < m7 := by omega
   have Km7 := nfc Km6 hm7
   simp -implicitDefEqProofs (maxDischargeDepth := 80) [hl, hi, neC hi, neA, ltA, aC, aB, aA, Km7]
   refine aD ((w6) (by simp -implicitDefEqProofs (maxDischargeDepth := 80) [hl, hi, neC hi, neA, ltA, aC, aB, aA, Km7]) (by omega) (fun m8 hm8 => ?_))
   have im8 : id < m8 := by omega
   have Km8 := nfc Km7 hm8
   simp -implicitDefEqProofs (maxDischargeDepth := 80) [hl, hi, neC hi, neA, ltA, aC, aB, aA, Km8]
   refine aD ((w7) (by simp -implicitDefEqProofs (maxDischargeDepth := 80) [hl, hi, neC hi, neA, ltA, aC, aB, aA, Km8]) (by omega) (fun m9 hm9 => ?_))
   have im9 : id < m9 := by omega
   have Km9 := nfc Km8 hm9
   simp -implicitDefEqProofs (maxDischargeDepth := 80) [hl, hi, neC hi, neA, ltA, aC, aB, aA, Km9]
   refine aD ((w8) (by simp -implicitDefEqProofs (maxDischargeDepth := 80) [hl, hi, neC hi, neA, ltA, aC, aB, aA, Km9]) (by omega) (fun m10 hm10 => ?_))
   have im10 : id < m10 := by omega
   have Km10 := nfc Km9 hm10
   simp -implicitDefEqProofs (maxDischargeDepth := 80) [hl, hi, neC hi, neA, ltA, aC, aB, aA, Km10]
   refine aD ((c3) (by simp -implicitDefEqProofs (maxDischargeDepth := 80) [hl, hi, neC hi, neA, ltA, aC, aB, aA, Km10]) (by omega) (fun m11 hm11 => ?_))
   have im11 : id < m11 := by omega
   have Km11 := nfc Km10 hm11
   simp -implicitDefEqProofs (maxDischargeDepth := 80) [hl, hi, neC hi, neA, ltA, aC, aB, aA, Km11]
   exact ⟨_, by repeat (first | exact aG _ | refine aE ?_ (aF (aF (hfr _ (by omega))))), hk _ (by omega)⟩
theorem expr_s {n : Nat} (hN : n ≤ 2 ^ 40) (h0 : ∀ r, r.ok → EC 83 [] (eG n r) r)
  (h1 : ∀ ss r L r', ss.length ≤ 100 → r.ok → bH n ss r = some (L, r') → r'.ok ∧ r'.nest = r.nest ∧ RC 84 [.sl (em bC ss)] r r' (.sl (em aO L)))
  (h2 : ∀ (r : Rd) (p : Int) (e : Ex) (r' : Rd), r.ok → cH n r p = some (e, r') → r'.ok ∧ r'.nest = r.nest ∧ ∀ (id id2 : Nat) (mem : Mem) (nx : Nat) (K : KD), look mem id = some (.box (aC r)) → id < nx → look mem id2 = some (.box [I 0, Tx [], Tx [], I 0, CX 0 0, .pl (.slice none 0 0), I p]) → id2 < nx → id ≠ id2 →
   (∀ nx', nx ≤ nx' → K (.tup []) (upd (upd mem id2 (.box (aO e))) id (.box (aC r'))) nx') → bP Tryd.prog 85 [.opt id 0, .opt id2 0] mem nx K) :
  ∀ r, r.ok → EC 61 [] (aX (n + 1) r) r := by
 intro r h e r' hrun
 have cn := eX h
 simp only [aB] at cn
 have hl2 := h.lt
 have hl3 := h.len
 have hn0 := h.n0
 have hn1 := h.n1
 have hL := h.l1
 have w := bB (x := (r.at' : Int) + 1) (by omega) (by omega)
 have wn := bB (x := r.nest + 1) (by omega) (by omega)
 have wm := bB (x := r.nest) (by omega) (by omega)
 have i1 := i7 h [108, 101, 116]
 have i2 := i7 h [115, 116, 114, 105, 99, 116]
 have i3 := i7 h [99, 97, 115, 101]
 have i4 := i7 h [105, 102]
 have cf := jZ h 23
 unfold aX at hrun
 simp only at hrun
 cases hb : binds r
 ·have hbs := hb
  unfold binds at hbs
  simp only [Bool.or_eq_false_iff] at hbs
  obtain ⟨b1, b2, b3⟩ := hbs
  rw [b1] at i1
  rw [b2] at i2
  rw [b3] at i3
  simp only [hb, Bool.false_and, Bool.false_eq_true, if_false] at hrun
  by_cases g1 : r.why = 0
  ·rw [if_neg (by simp [g1])] at hrun
   have KF1 := And.intro trivial (g1)
   cases hif : r.is [105, 102] <;> rw [hif] at i4
   ·rw [if_pos ⟨trivial, hif⟩] at hrun
    obtain ⟨k2, n2, c2⟩ := h0 r h e r' hrun
    refine ⟨k2, n2, ?_⟩
    intro id mem nx K hl hi hk
    simp only [aA] at hk c2
    refine aY ?_
    refine fi61.ct (by simp) fun hfr => ?_
    simp -implicitDefEqProofs (maxDischargeDepth := 80) [ac61, hl, hi, neC hi, neA, ltA, aC, aB, aA, KF1]
    refine aD ((cn) (by simp -implicitDefEqProofs (maxDischargeDepth := 80) [hl, hi, neC hi, neA, ltA, aC, aB, aA, KF1]) (by omega) (fun m1 hm1 => ?_))
    have im1 : id < m1 := by omega
    have Km1 := nfc KF1 hm1
    simp -implicitDefEqProofs (maxDischargeDepth := 80) [hl, hi, neC hi, neA, ltA, aC, aB, aA, Km1]
    refine aD ((i1) (by simp -implicitDefEqProofs (maxDischargeDepth := 80) [hl, hi, neC hi, neA, ltA, aC, aB, aA, Km1]) (by omega) (fun m2 hm2 => ?_))
    have im2 : id < m2 := by omega
    have Km2 := nfc Km1 hm2
    simp -implicitDefEqProofs (maxDischargeDepth := 80) [hl, hi, neC hi, neA, ltA, aC, aB, aA, Km2]
    refine aD ((i2) (by simp -implicitDefEqProofs (maxDischargeDepth := 80) [hl, hi, neC hi, neA, ltA, aC, aB, aA, Km2]) (by omega) (fun m3 hm3 => ?_))
    have im3 : id < m3 := by omega
    have Km3 := nfc Km2 hm3
    simp -implicitDefEqProofs (maxDischargeDepth := 80) [hl, hi, neC hi, neA, ltA, aC, aB, aA, Km3]
    refine aD ((i3) (by simp -implicitDefEqProofs (maxDischargeDepth := 80) [hl, hi, neC hi, neA, ltA, aC, aB, aA, Km3]) (by omega) (fun m4 hm4 => ?_))
    have im4 : id < m4 := by omega
    have Km4 := nfc Km3 hm4
    simp -implicitDefEqProofs (maxDischargeDepth := 80) [hl, hi, neC hi, neA, ltA, aC, aB, aA, Km4]
    refine aD ((i4) (by simp -implicitDefEqProofs (maxDischargeDepth := 80) [hl, hi, neC hi, neA, ltA, aC, aB, aA, Km4]) (by omega) (fun m5 hm5 => ?_))
    have im5 : id < m5 := by omega
    have Km5 := nfc Km4 hm5
    simp -implicitDefEqProofs (maxDischargeDepth := 80) [hl, hi, neC hi, neA, ltA, aC, aB, aA, Km5]
    refine aD ((c2) (by simp -implicitDefEqProofs (maxDischargeDepth := 80) [hl, hi, neC hi, neA, ltA, aC, aB, aA, Km5]) (by omega) (fun m6 hm6 => ?_))
    have im6 : id < m6 := by omega
    have Km6 := nfc Km5 hm6
    simp -implicitDefEqProofs (maxDischargeDepth := 80) [hl, hi, neC hi, neA, ltA, aC, aB, aA, Km6]
    exact dM (by repeat (first | exact aG _ | refine aE ?_ (aF (hfr _ (by omega))) | refine aE ?_ (hfr _ (by omega)))) (by simp [frz]) (hk _ (by omega))
   ·have ht := (Rd.is_kind hif).2.2
    rw [if_neg (by simp [hif]), if_pos ht] at hrun
    simp only [Option.map_eq_some_iff, Prod.mk.injEq] at hrun
    obtain ⟨⟨e1, q1⟩, ⟨⟨L, q⟩, hp, rfl, rfl⟩, rfl, rfl⟩ := hrun
    obtain ⟨k2, n2, c2⟩ := h1 _ r.adv L q (by simp) (Rd.ok_adv h (Rd.is_4 hif)) hp
    rw [em_3] at c2
    refine ⟨k2, n2, ?_⟩
    intro id mem nx K hl hi hk
    simp only [bG] at hk
    rw [ht] at cn
    refine aY ?_
    refine fi61.ct (by simp) fun hfr => ?_
    simp -implicitDefEqProofs (maxDischargeDepth := 80) [ac61, hl, hi, neC hi, neA, ltA, aC, aB, aA, KF1]
    refine aD ((cn) (by simp -implicitDefEqProofs (maxDischargeDepth := 80) [hl, hi, neC hi, neA, ltA, aC, aB, aA, KF1]) (by omega) (fun m1 hm1 => ?_))
    have im1 : id < m1 := by omega
    have Km1 := nfc KF1 hm1
    simp -implicitDefEqProofs (maxDischargeDepth := 80) [hl, hi, neC hi, neA, ltA, aC, aB, aA, Km1]
    refine aD ((i1) (by simp -implicitDefEqProofs (maxDischargeDepth := 80) [hl, hi, neC hi, neA, ltA, aC, aB, aA, Km1]) (by omega) (fun m2 hm2 => ?_))
    have im2 : id < m2 := by omega
    have Km2 := nfc Km1 hm2
    simp -implicitDefEqProofs (maxDischargeDepth := 80) [hl, hi, neC hi, neA, ltA, aC, aB, aA, Km2]
    refine aD ((i2) (by simp -implicitDefEqProofs (maxDischargeDepth := 80) [hl, hi, neC hi, neA, ltA, aC, aB, aA, Km2]) (by omega) (fun m3 hm3 => ?_))
    have im3 : id < m3 := by omega
    have Km3 := nfc Km2 hm3
    simp -implicitDefEqProofs (maxDischargeDepth := 80) [hl, hi, neC hi, neA, ltA, aC, aB, aA, Km3]
    refine aD ((i3) (by simp -implicitDefEqProofs (maxDischargeDepth := 80) [hl, hi, neC hi, neA, ltA, aC, aB, aA, Km3]) (by omega) (fun m4 hm4 => ?_))
    have im4 : id < m4 := by omega
    have Km4 := nfc Km3 hm4
    simp -implicitDefEqProofs (maxDischargeDepth := 80) [hl, hi, neC hi, neA, ltA, aC, aB, aA, Km4]
    refine aD ((i4) (by simp -implicitDefEqProofs (maxDischargeDepth := 80) [hl, hi, neC hi, neA, ltA, aC, aB, aA, Km4]) (by omega) (fun m5 hm5 => ?_))
    have im5 : id < m5 := by omega
    have Km5 := nfc Km4 hm5
    simp -implicitDefEqProofs (maxDischargeDepth := 80) [hl, hi, neC hi, neA, ltA, aC, aB, aA, Km5, w]
    refine aD ((c2) (by simp -implicitDefEqProofs (maxDischargeDepth := 80) [hl, hi, neC hi, neA, ltA, aC, aB, aA, Km5]) (by omega) (fun m6 hm6 => ?_))
    have im6 : id < m6 := by omega
    have Km6 := nfc Km5 hm6
    simp -implicitDefEqProofs (maxDischargeDepth := 80) [hl, hi, neC hi, neA, ltA, aC, aB, aA, Km6]
    exact dM (by repeat (first | exact aG _ | refine aE ?_ (aF (hfr _ (by omega))) | refine aE ?_ (hfr _ (by omega)))) (by simp [frz]) (hk _ (by omega))
  ·rw [if_pos g1] at hrun
   simp only [Option.some.injEq, Prod.mk.injEq] at hrun
   obtain ⟨rfl, rfl⟩ := hrun
   refine ⟨h, rfl, ?_⟩
   intro id mem nx K hl hi hk
   rw [cE hl] at hk
   simp only [ex0, bG] at hk
   refine aY ?_
   refine fi61.ct (by simp) fun hfr => ?_
   simp -implicitDefEqProofs (maxDischargeDepth := 80) [ac61, hl, hi, neC hi, neA, ltA, aC, aB, aA]
   refine aD ((cn) (by simp -implicitDefEqProofs (maxDischargeDepth := 80) [hl, hi, neC hi, neA, ltA, aC, aB, aA]) (by omega) (fun m1 hm1 => ?_))
   have im1 : id < m1 := by omega
   have Km1 := nfc trivial hm1
   simp -implicitDefEqProofs (maxDischargeDepth := 80) [hl, hi, neC hi, neA, ltA, aC, aB, aA, Km1]
   refine aD ((i1) (by simp -implicitDefEqProofs (maxDischargeDepth := 80) [hl, hi, neC hi, neA, ltA, aC, aB, aA, Km1]) (by omega) (fun m2 hm2 => ?_))
   have im2 : id < m2 := by omega
   have Km2 := nfc Km1 hm2
   simp -implicitDefEqProofs (maxDischargeDepth := 80) [hl, hi, neC hi, neA, ltA, aC, aB, aA, Km2]
   refine aD ((i2) (by simp -implicitDefEqProofs (maxDischargeDepth := 80) [hl, hi, neC hi, neA, ltA, aC, aB, aA, Km2]) (by omega) (fun m3 hm3 => ?_))
   have im3 : id < m3 := by omega
   have Km3 := nfc Km2 hm3
   simp -implicitDefEqProofs (maxDischargeDepth := 80) [hl, hi, neC hi, neA, ltA, aC, aB, aA, Km3]
   refine aD ((i3) (by simp -implicitDefEqProofs (maxDischargeDepth := 80) [hl, hi, neC hi, neA, ltA, aC, aB, aA, Km3]) (by omega) (fun m4 hm4 => ?_))
   have im4 : id < m4 := by omega
   have Km4 := nfc Km3 hm4
   simp -implicitDefEqProofs (maxDischargeDepth := 80) [hl, hi, neC hi, neA, ltA, aC, aB, aA, Km4, g1]
   exact dM (by repeat (first | exact aG _ | refine aE ?_ (aF (hfr _ (by omega))) | refine aE ?_ (hfr _ (by omega)))) (by simp [frz]) (hk _ (by omega))
 ·have g1 : r.why = 0 := by
   have hbs := hb
   unfold binds at hbs
   simp only [Bool.or_eq_true] at hbs
   rcases hbs with h | h | h
   ·exact (Rd.is_kind h).1
   ·exact (Rd.is_kind h).1
   ·exact (Rd.is_kind h).1
  have KF2 := And.intro trivial (g1)
  have h4 : r.next.kind ≠ 4 := by
   have hbs := hb
   unfold binds at hbs
   simp only [Bool.or_eq_true] at hbs
   rcases hbs with h | h | h
   ·exact Rd.is_4 h
   ·exact Rd.is_4 h
   ·exact Rd.is_4 h
  by_cases g2 : r.lN ≤ r.nest
  ·have hrun2 : e = ex0 ∧ r' = r.fail 23 := by
    simp only [hb, Bool.true_and, g2, decide_true, if_true] at hrun
    rw [if_pos (by simp [Rd.fail, g1])] at hrun
    simp only [Option.some.injEq, Prod.mk.injEq] at hrun
    exact ⟨hrun.1.symm, hrun.2.symm⟩
   obtain ⟨rfl, rfl⟩ := hrun2
   have hwhy : ¬ (r.fail 23).why = 0 := by simp [Rd.fail, g1]
   refine ⟨Rd.ok_fail h _, gK, ?_⟩
   intro id mem nx K hl hi hk
   simp only [ex0, bG] at hk
   cases b1 : r.is [108, 101, 116] <;> rw [b1] at i1
   ·cases b2 : r.is [115, 116, 114, 105, 99, 116] <;> rw [b2] at i2
    ·have b3 : r.is [99, 97, 115, 101] = true := by
      unfold binds at hb; rw [b1, b2] at hb; simpa using hb
     rw [b3] at i3
     refine aY ?_
     refine fi61.ct (by simp) fun hfr => ?_
     simp -implicitDefEqProofs (maxDischargeDepth := 80) [ac61, hl, hi, neC hi, neA, ltA, aC, aB, aA, KF2]
     refine aD ((cn) (by simp -implicitDefEqProofs (maxDischargeDepth := 80) [hl, hi, neC hi, neA, ltA, aC, aB, aA, KF2]) (by omega) (fun m1 hm1 => ?_))
     have im1 : id < m1 := by omega
     have Km1 := nfc KF2 hm1
     simp -implicitDefEqProofs (maxDischargeDepth := 80) [hl, hi, neC hi, neA, ltA, aC, aB, aA, Km1]
     refine aD ((i1) (by simp -implicitDefEqProofs (maxDischargeDepth := 80) [hl, hi, neC hi, neA, ltA, aC, aB, aA, Km1]) (by omega) (fun m2 hm2 => ?_))
     have im2 : id < m2 := by omega
     have Km2 := nfc Km1 hm2
     simp -implicitDefEqProofs (maxDischargeDepth := 80) [hl, hi, neC hi, neA, ltA, aC, aB, aA, Km2]
     refine aD ((i2) (by simp -implicitDefEqProofs (maxDischargeDepth := 80) [hl, hi, neC hi, neA, ltA, aC, aB, aA, Km2]) (by omega) (fun m3 hm3 => ?_))
     have im3 : id < m3 := by omega
     have Km3 := nfc Km2 hm3
     simp -implicitDefEqProofs (maxDischargeDepth := 80) [hl, hi, neC hi, neA, ltA, aC, aB, aA, Km3]
     refine aD ((i3) (by simp -implicitDefEqProofs (maxDischargeDepth := 80) [hl, hi, neC hi, neA, ltA, aC, aB, aA, Km3]) (by omega) (fun m4 hm4 => ?_))
     have im4 : id < m4 := by omega
     have Km4 := nfc Km3 hm4
     simp -implicitDefEqProofs (maxDischargeDepth := 80) [hl, hi, neC hi, neA, ltA, aC, aB, aA, Km4, g2]
     refine aD ((cf) (by simp -implicitDefEqProofs (maxDischargeDepth := 80) [hl, hi, neC hi, neA, ltA, aC, aB, aA, Km4]) (by omega) (fun m5 hm5 => ?_))
     have im5 : id < m5 := by omega
     have Km5 := nfc Km4 hm5
     simp -implicitDefEqProofs (maxDischargeDepth := 80) [hl, hi, neC hi, neA, ltA, aC, aB, aA, Km5, hwhy]
     exact dM (by repeat (first | exact aG _ | refine aE ?_ (aF (hfr _ (by omega))) | refine aE ?_ (hfr _ (by omega)))) (by simp [frz]) (hk _ (by omega))
    ·refine aY ?_
     refine fi61.ct (by simp) fun hfr => ?_
     simp -implicitDefEqProofs (maxDischargeDepth := 80) [ac61, hl, hi, neC hi, neA, ltA, aC, aB, aA, KF2]
     refine aD ((cn) (by simp -implicitDefEqProofs (maxDischargeDepth := 80) [hl, hi, neC hi, neA, ltA, aC, aB, aA, KF2]) (by omega) (fun m1 hm1 => ?_))
     have im1 : id < m1 := by omega
     have Km1 := nfc KF2 hm1
     simp -implicitDefEqProofs (maxDischargeDepth := 80) [hl, hi, neC hi, neA, ltA, aC, aB, aA, Km1]
     refine aD ((i1) (by simp -implicitDefEqProofs (maxDischargeDepth := 80) [hl, hi, neC hi, neA, ltA, aC, aB, aA, Km1]) (by omega) (fun m2 hm2 => ?_))
     have im2 : id < m2 := by omega
     have Km2 := nfc Km1 hm2
     simp -implicitDefEqProofs (maxDischargeDepth := 80) [hl, hi, neC hi, neA, ltA, aC, aB, aA, Km2]
     refine aD ((i2) (by simp -implicitDefEqProofs (maxDischargeDepth := 80) [hl, hi, neC hi, neA, ltA, aC, aB, aA, Km2]) (by omega) (fun m3 hm3 => ?_))
     have im3 : id < m3 := by omega
     have Km3 := nfc Km2 hm3
     simp -implicitDefEqProofs (maxDischargeDepth := 80) [hl, hi, neC hi, neA, ltA, aC, aB, aA, Km3, g2]
     refine aD ((cf) (by simp -implicitDefEqProofs (maxDischargeDepth := 80) [hl, hi, neC hi, neA, ltA, aC, aB, aA, Km3]) (by omega) (fun m5 hm5 => ?_))
     have im5 : id < m5 := by omega
     have Km5 := nfc Km3 hm5
     simp -implicitDefEqProofs (maxDischargeDepth := 80) [hl, hi, neC hi, neA, ltA, aC, aB, aA, Km5, hwhy]
     exact dM (by repeat (first | exact aG _ | refine aE ?_ (aF (hfr _ (by omega))) | refine aE ?_ (hfr _ (by omega)))) (by simp [frz]) (hk _ (by omega))
   ·refine aY ?_
    refine fi61.ct (by simp) fun hfr => ?_
    simp -implicitDefEqProofs (maxDischargeDepth := 80) [ac61, hl, hi, neC hi, neA, ltA, aC, aB, aA, KF2]
    refine aD ((cn) (by simp -implicitDefEqProofs (maxDischargeDepth := 80) [hl, hi, neC hi, neA, ltA, aC, aB, aA, KF2]) (by omega) (fun m1 hm1 => ?_))
    have im1 : id < m1 := by omega
    have Km1 := nfc KF2 hm1
    simp -implicitDefEqProofs (maxDischargeDepth := 80) [hl, hi, neC hi, neA, ltA, aC, aB, aA, Km1]
    refine aD ((i1) (by simp -implicitDefEqProofs (maxDischargeDepth := 80) [hl, hi, neC hi, neA, ltA, aC, aB, aA, Km1]) (by omega) (fun m2 hm2 => ?_))
    have im2 : id < m2 := by omega
    have Km2 := nfc Km1 hm2
    simp -implicitDefEqProofs (maxDischargeDepth := 80) [hl, hi, neC hi, neA, ltA, aC, aB, aA, Km2, g2]
    refine aD ((cf) (by simp -implicitDefEqProofs (maxDischargeDepth := 80) [hl, hi, neC hi, neA, ltA, aC, aB, aA, Km2]) (by omega) (fun m5 hm5 => ?_))
    have im5 : id < m5 := by omega
    have Km5 := nfc Km2 hm5
    simp -implicitDefEqProofs (maxDischargeDepth := 80) [hl, hi, neC hi, neA, ltA, aC, aB, aA, Km5, hwhy]
    exact dM (by repeat (first | exact aG _ | refine aE ?_ (aF (hfr _ (by omega))) | refine aE ?_ (hfr _ (by omega)))) (by simp [frz]) (hk _ (by omega))
  ·simp only [hb, Bool.true_and, g2, decide_false, if_false, if_true, Bool.false_eq_true, Bool.true_eq_false, false_and] at hrun
   rw [if_neg (by simp [g1])] at hrun
   obtain ⟨rd, hrd⟩ : ∃ rd : Rd, rd = Rd.adv { r with nest := r.nest + 1 } := ⟨_, rfl⟩
   have krd : rd.ok := by
    rw [hrd]
    exact ⟨h.ms, h.ms.2 _ h.lt h4, h.len, by show 0 ≤ r.nest + 1; omega, by show r.nest + 1 ≤ 2 ^ 40; omega, h.l1⟩
   have nrd : rd.nest = r.nest + 1 := by rw [hrd]; rfl
   rw [← hrd] at hrun
   have f1 : rd.ms = r.ms := by rw [hrd]; rfl
   have f2 : (rd.at' : Int) = (r.at' : Int) + 1 := by rw [hrd]; simp
   have f3 : rd.why = 0 := by rw [hrd]; exact g1
   have f4 : rd.wh = r.wh := by rw [hrd]; rfl
   have f5 : rd.lT = r.lT := by rw [hrd]; rfl
   have f6 : rd.lF = r.lF := by rw [hrd]; rfl
   have f7 : rd.lA = r.lA := by rw [hrd]; rfl
   have f8 : rd.lN = r.lN := by rw [hrd]; rfl
   clear hrd
   have KF3 := And.intro KF2 (f1)
   have KF4 := And.intro KF3 (f2)
   have KF5 := And.intro KF4 (f3)
   have KF6 := And.intro KF5 (f4)
   have KF7 := And.intro KF6 (f5)
   have KF8 := And.intro KF7 (f6)
   have KF9 := And.intro KF8 (f7)
   have KF10 := And.intro KF9 (f8)
   have KF11 := And.intro KF10 (nrd)
   cases b1 : r.is [108, 101, 116] <;> rw [b1] at i1
   ·cases b2 : r.is [115, 116, 114, 105, 99, 116] <;> rw [b2] at i2
    ·have b3 : r.is [99, 97, 115, 101] = true := by
      unfold binds at hb; rw [b1, b2] at hb; simpa using hb
     rw [b3] at i3
     have ht : r.next.text = [99, 97, 115, 101] := (Rd.is_kind b3).2.2
     have t1 : ¬ r.next.text = [105, 102] := by rw [ht]; simp
     rw [if_neg t1, if_pos ht] at hrun
     simp only [Option.map_eq_some_iff, Prod.mk.injEq] at hrun
     obtain ⟨⟨e1, q⟩, hp, rfl, rfl⟩ := hrun
     obtain ⟨k2, n2, cb⟩ := h2 rd r.next.at' e1 q krd hp
     have nq : q.nest = r.nest + 1 := by rw [n2, nrd]
     refine ⟨⟨k2.ms, k2.lt, k2.len, by simp only; omega, by simp only; omega, k2.l1⟩, by simp only; omega, ?_⟩
     intro id mem nx K hl hi hk
     simp only [aA] at hk
     simp [aC, nq] at hk
     rw [ht] at cn
     refine aY ?_
     refine fi61.ct (by simp) fun hfr => ?_
     simp -implicitDefEqProofs (maxDischargeDepth := 80) [ac61, hl, hi, neC hi, neA, ltA, aC, aB, aA, KF11]
     refine aD ((cn) (by simp -implicitDefEqProofs (maxDischargeDepth := 80) [hl, hi, neC hi, neA, ltA, aC, aB, aA, KF11]) (by omega) (fun m1 hm1 => ?_))
     have im1 : id < m1 := by omega
     have Km1 := nfc KF11 hm1
     simp -implicitDefEqProofs (maxDischargeDepth := 80) [hl, hi, neC hi, neA, ltA, aC, aB, aA, Km1]
     refine aD ((i1) (by simp -implicitDefEqProofs (maxDischargeDepth := 80) [hl, hi, neC hi, neA, ltA, aC, aB, aA, Km1]) (by omega) (fun m2 hm2 => ?_))
     have im2 : id < m2 := by omega
     have Km2 := nfc Km1 hm2
     simp -implicitDefEqProofs (maxDischargeDepth := 80) [hl, hi, neC hi, neA, ltA, aC, aB, aA, Km2]
     refine aD ((i2) (by simp -implicitDefEqProofs (maxDischargeDepth := 80) [hl, hi, neC hi, neA, ltA, aC, aB, aA, Km2]) (by omega) (fun m3 hm3 => ?_))
     have im3 : id < m3 := by omega
     have Km3 := nfc Km2 hm3
     simp -implicitDefEqProofs (maxDischargeDepth := 80) [hl, hi, neC hi, neA, ltA, aC, aB, aA, Km3]
     refine aD ((i3) (by simp -implicitDefEqProofs (maxDischargeDepth := 80) [hl, hi, neC hi, neA, ltA, aC, aB, aA, Km3]) (by omega) (fun m4 hm4 => ?_))
     have im4 : id < m4 := by omega
     have Km4 := nfc Km3 hm4
     simp -implicitDefEqProofs (maxDischargeDepth := 80) [hl, hi, neC hi, neA, ltA, aC, aB, aA, Km4, g2, wn, w]
     refine aD (cb id _ _ _ _ (by simp -implicitDefEqProofs (maxDischargeDepth := 80) [hl, hi, neC hi, neA, ltA, aC, aB, aA, Km4]) (by omega) (by simp -implicitDefEqProofs (maxDischargeDepth := 80) [hl, hi, neC hi, neA, ltA, aC, aB, aA, Km4]) (by omega) (by omega) (fun m6 hm6 => ?_))
     have Km6 := nfc Km4 hm6
     simp -implicitDefEqProofs (maxDischargeDepth := 80) [hl, hi, neC hi, neA, ltA, aC, aB, aA, Km6, nq, wm]
     exact dM (by repeat (first | exact aG _ | refine aE ?_ (aF (hfr _ (by omega))) | refine aE ?_ (hfr _ (by omega)))) (by simp [frz]) (hk _ (by omega))
    ·have ht : r.next.text = [115, 116, 114, 105, 99, 116] := (Rd.is_kind b2).2.2
     have t1 : ¬ r.next.text = [105, 102] := by rw [ht]; simp
     have t2 : ¬ r.next.text = [99, 97, 115, 101] := by rw [ht]; simp
     rw [if_neg t1, if_neg t2] at hrun
     rw [if_pos ht] at hrun
     simp only [Option.map_map, Option.map_eq_some_iff, Function.comp_def, Prod.mk.injEq] at hrun
     obtain ⟨⟨L, q⟩, hp, rfl, rfl⟩ := hrun
     have w5 := lQ krd
     have kw5 := Rd.ok_name krd
     have n5 : rd.name.2.nest = rd.nest := kL
     have w6 := q6 kw5
     have kw6 := Rd.ok_typ kw5
     have n6 : rd.name.2.typ.2.nest = rd.nest := by rw [pK, n5]
     generalize rd.name.1 = hd at *
     generalize rd.name.2 = s5 at *
     generalize s5.typ.1 = ty at *
     generalize s5.typ.2 = s6 at *
     obtain ⟨k2, n2, c2⟩ := h1 _ s6 L q (by simp) kw6 hp
     rw [em_2] at c2
     have nq : q.nest = r.nest + 1 := by rw [n2, n6, nrd]
     refine ⟨⟨k2.ms, k2.lt, k2.len, by simp only; omega, by simp only; omega, k2.l1⟩, by simp only; omega, ?_⟩
     intro id mem nx K hl hi hk
     simp only [bG] at hk
     simp [aC, nq] at hk
     simp only [aB] at w5
     rw [ht] at cn
     refine aY ?_
     refine fi61.ct (by simp) fun hfr => ?_
     simp -implicitDefEqProofs (maxDischargeDepth := 80) [ac61, hl, hi, neC hi, neA, ltA, aC, aB, aA, KF11]
     refine aD ((cn) (by simp -implicitDefEqProofs (maxDischargeDepth := 80) [hl, hi, neC hi, neA, ltA, aC, aB, aA, KF11]) (by omega) (fun m1 hm1 => ?_))
     have im1 : id < m1 := by omega
     have Km1 := nfc KF11 hm1
     simp -implicitDefEqProofs (maxDischargeDepth := 80) [hl, hi, neC hi, neA, ltA, aC, aB, aA, Km1]
     refine aD ((i1) (by simp -implicitDefEqProofs (maxDischargeDepth := 80) [hl, hi, neC hi, neA, ltA, aC, aB, aA, Km1]) (by omega) (fun m2 hm2 => ?_))
     have im2 : id < m2 := by omega
     have Km2 := nfc Km1 hm2
     simp -implicitDefEqProofs (maxDischargeDepth := 80) [hl, hi, neC hi, neA, ltA, aC, aB, aA, Km2]
     refine aD ((i2) (by simp -implicitDefEqProofs (maxDischargeDepth := 80) [hl, hi, neC hi, neA, ltA, aC, aB, aA, Km2]) (by omega) (fun m3 hm3 => ?_))
     have im3 : id < m3 := by omega
     have Km3 := nfc Km2 hm3
     simp -implicitDefEqProofs (maxDischargeDepth := 80) [hl, hi, neC hi, neA, ltA, aC, aB, aA, Km3, g2, wn, w]
     refine aD ((w5) (by simp -implicitDefEqProofs (maxDischargeDepth := 80) [hl, hi, neC hi, neA, ltA, aC, aB, aA, Km3]) (by omega) (fun m6 hm6 => ?_))
     have im6 : id < m6 := by omega
     have Km6 := nfc Km3 hm6
     simp -implicitDefEqProofs (maxDischargeDepth := 80) [hl, hi, neC hi, neA, ltA, aC, aB, aA, Km6]
     refine aD ((w6) (by simp -implicitDefEqProofs (maxDischargeDepth := 80) [hl, hi, neC hi, neA, ltA, aC, aB, aA, Km6]) (by omega) (fun m7 hm7 => ?_))
     have im7 : id < m7 := by omega
     have Km7 := nfc Km6 hm7
     simp -implicitDefEqProofs (maxDischargeDepth := 80) [hl, hi, neC hi, neA, ltA, aC, aB, aA, Km7]
     refine aD ((c2) (by simp -implicitDefEqProofs (maxDischargeDepth := 80) [hl, hi, neC hi, neA, ltA, aC, aB, aA, Km7]) (by omega) (fun m8 hm8 => ?_))
     have im8 : id < m8 := by omega
     have Km8 := nfc Km7 hm8
     simp -implicitDefEqProofs (maxDischargeDepth := 80) [hl, hi, neC hi, neA, ltA, aC, aB, aA, Km8, nq, wm]
     exact dM (by repeat (first | exact aG _ | refine aE ?_ (aF (hfr _ (by omega))) | refine aE ?_ (hfr _ (by omega)))) (by simp [frz]) (hk _ (by omega))
   ·have ht : r.next.text = [108, 101, 116] := (Rd.is_kind b1).2.2
    have t1 : ¬ r.next.text = [105, 102] := by rw [ht]; simp
    have t2 : ¬ r.next.text = [99, 97, 115, 101] := by rw [ht]; simp
    have t3 : ¬ r.next.text = [115, 116, 114, 105, 99, 116] := by rw [ht]; simp
    rw [if_neg t1, if_neg t2] at hrun
    rw [if_neg t3] at hrun
    simp only [Option.map_map, Option.map_eq_some_iff, Function.comp_def, Prod.mk.injEq] at hrun
    obtain ⟨⟨L, q⟩, hp, rfl, rfl⟩ := hrun
    have w5 := lQ krd
    have kw5 := Rd.ok_name krd
    have n5 : rd.name.2.nest = rd.nest := kL
    have w6 := q6 kw5
    have kw6 := Rd.ok_typ kw5
    have n6 : rd.name.2.typ.2.nest = rd.nest := by rw [pK, n5]
    generalize rd.name.1 = hd at *
    generalize rd.name.2 = s5 at *
    generalize s5.typ.1 = ty at *
    generalize s5.typ.2 = s6 at *
    obtain ⟨k2, n2, c2⟩ := h1 _ s6 L q (by simp) kw6 hp
    rw [em_2] at c2
    have nq : q.nest = r.nest + 1 := by rw [n2, n6, nrd]
    refine ⟨⟨k2.ms, k2.lt, k2.len, by simp only; omega, by simp only; omega, k2.l1⟩, by simp only; omega, ?_⟩
    intro id mem nx K hl hi hk
    simp only [bG] at hk
    simp [aC, nq] at hk
    simp only [aB] at w5
    rw [ht] at cn
    refine aY ?_
    refine fi61.ct (by simp) fun hfr => ?_
    simp -implicitDefEqProofs (maxDischargeDepth := 80) [ac61, hl, hi, neC hi, neA, ltA, aC, aB, aA, KF11]
    refine aD ((cn) (by simp -implicitDefEqProofs (maxDischargeDepth := 80) [hl, hi, neC hi, neA, ltA, aC, aB, aA, KF11]) (by omega) (fun m1 hm1 => ?_))
    have im1 : id < m1 := by omega
    have Km1 := nfc KF11 hm1
    simp -implicitDefEqProofs (maxDischargeDepth := 80) [hl, hi, neC hi, neA, ltA, aC, aB, aA, Km1]
    refine aD ((i1) (by simp -implicitDefEqProofs (maxDischargeDepth := 80) [hl, hi, neC hi, neA, ltA, aC, aB, aA, Km1]) (by omega) (fun m2 hm2 => ?_))
    have im2 : id < m2 := by omega
    have Km2 := nfc Km1 hm2
    simp -implicitDefEqProofs (maxDischargeDepth := 80) [hl, hi, neC hi, neA, ltA, aC, aB, aA, Km2, g2, wn, w]
    refine aD ((w5) (by simp -implicitDefEqProofs (maxDischargeDepth := 80) [hl, hi, neC hi, neA, ltA, aC, aB, aA, Km2]) (by omega) (fun m6 hm6 => ?_))
    have im6 : id < m6 := by omega
    have Km6 := nfc Km2 hm6
    simp -implicitDefEqProofs (maxDischargeDepth := 80) [hl, hi, neC hi, neA, ltA, aC, aB, aA, Km6]
    refine aD ((w6) (by simp -implicitDefEqProofs (maxDischargeDepth := 80) [hl, hi, neC hi, neA, ltA, aC, aB, aA, Km6]) (by omega) (fun m7 hm7 => ?_))
    have im7 : id < m7 := by omega
    have Km7 := nfc Km6 hm7
    simp -implicitDefEqProofs (maxDischargeDepth := 80) [hl, hi, neC hi, neA, ltA, aC, aB, aA, Km7]
    refine aD ((c2) (by simp -implicitDefEqProofs (maxDischargeDepth := 80) [hl, hi, neC hi, neA, ltA, aC, aB, aA, Km7]) (by omega) (fun m8 hm8 => ?_))
    have im8 : id < m8 := by omega
    have Km8 := nfc Km7 hm8
    simp -implicitDefEqProofs (maxDischargeDepth := 80) [hl, hi, neC hi, neA, ltA, aC, aB, aA, Km8, nq, wm]
    exact dM (by repeat (first | exact aG _ | refine aE ?_ (aF (hfr _ (by omega))) | refine aE ?_ (hfr _ (by omega)))) (by simp [frz]) (hk _ (by omega))
structure PGood (k : Nat) : Prop where
 expr : ∀ r, r.ok → EC 61 [] (aX k r) r
 cons : ∀ r, r.ok → EC 83 [] (eG k r) r
 comp : ∀ r, r.ok → EC 95 [] (eF k r) r
 sum : ∀ r, r.ok → EC 98 [] (fG k r) r
 term : ∀ r, r.ok → EC 99 [] (cO k r) r
 unit : ∀ r, r.ok → EC 100 [] (cN k r) r
 named : ∀ m r, r.ok → EC 101 [.agg (aB m)] (eA k m r) r
theorem all_c : ∀ n, n ≤ 2 ^ 40 → PGood n := by
 intro n
 induction n using Nat.strongRecOn with
 | _ n ih =>
  intro hn
  cases n with
  | zero =>
   refine ⟨?_, ?_, ?_, ?_, ?_, ?_, ?_⟩
   ·intro r _ e r' h; simp [aX] at h
   ·intro r _ e r' h; simp [eG] at h
   ·intro r _ e r' h; simp [eF] at h
   ·intro r _ e r' h; simp [fG] at h
   ·intro r _ e r' h; simp [cO] at h
   ·intro r _ e r' h; simp [cN] at h
   ·intro m r _ e r' h; simp [eA] at h
  | succ n =>
   have g : ∀ k, k ≤ n → PGood k := fun k hk => ih k (by omega) (by omega)
   have gn := g n (Nat.le_refl _)
   refine ⟨?_, cons_s gn.comp gn.cons, comp_s gn.sum, sum_s fun k hk => (g k hk).term, term_s fun k hk => (g k hk).unit, unit_s gn.expr gn.named, EB (by omega) fun k hk => (g k hk).expr⟩
   refine expr_s (by omega) gn.cons ?_ ?_
   ·intro ss r L r' hss h hrun
    exact DW (fun k hk => (g k (by omega)).expr) ss hss r h L r' hrun
   ·intro r p e r' h hrun
    cases n with
    | zero => simp [cH] at hrun
    | succ n => exact xG (g n (by omega)).expr r h p e r' hrun
theorem AL {n : Nat} (hn : n ≤ 2 ^ 40) {r : Rd} (h : r.ok) {e : Ex} {r' : Rd} (hrun : aX n r = some (e, r')) : r'.ok ∧ r'.nest = r.nest ∧ RC 61 [] r r' (.agg (aO e)) := (all_c n hn).expr r h e r' hrun
def pw (r : Rd) (l : List Pm) : Rd := if l = [] then r else r.want [44]
def pf (r : Rd) (l : List Pm) : Rd := if r.why = 0 ∧ r.next.kind = 0 ∧ r.lA ≤ (l.length : Int) then r.fail 22 else r
def b_ : Nat → List Pm → Rd → Option (List Pm × Rd)
 | 0, _, _ => none
 | n + 1, l, r => if r.why = 0 ∧ r.is [41] = false then
   b_ n (l ++ [⟨(pf (pw r l) l).name.1.text, (pf (pw r l) l).name.2.typ.1, (pf (pw r l) l).name.1.at'⟩]) (pf (pw r l) l).name.2.typ.2
  else some (l, r)
def df (r : Rd) (cnt : Nat) : Rd := if r.next.kind = 0 ∧ r.lF ≤ (cnt : Int) then r.fail 22 else r
def i8 (n : Nat) (r : Rd) (cnt : Nat) : Option (Fn × Rd) :=
 (b_ n [] ((df r cnt).name.2.want [40])).bind fun (ps, r4) =>
  (aX n (((r4.want [41]).want [58]).typ.2.want [61])).map fun (body, r9) =>
   (⟨(df r cnt).name.1.text, ps, ((r4.want [41]).want [58]).typ.1, body, (df r cnt).name.1.at'⟩, r9.want [59])
def cU : Nat → List Fn → Rd → Option (List Fn × Rd)
 | 0, _, _ => none
 | n + 1, l, r => if r.why = 0 ∧ (l = [] ∨ r.next.kind ≠ 4) then (i8 n r l.length).bind fun (f, q) => cU n (l ++ [f]) q else some (l, r)
theorem xB {r : Rd} (h : r.ok) (l : List Pm) : (pw r l).ok := by
 unfold pw; split
 ·exact h
 ·exact Rd.ok_want h _
theorem ok_pf {r : Rd} (h : r.ok) (l : List Pm) : (pf r l).ok := by
 unfold pf; split
 ·exact Rd.ok_fail h _
 ·exact h
theorem ok_df {r : Rd} (h : r.ok) (c : Nat) : (df r c).ok := by
 unfold df; split
 ·exact Rd.ok_fail h _
 ·exact h
theorem qX : ∀ n l (r : Rd) L r', r.ok → b_ n l r = some (L, r') → r'.ok
 | 0, l, r, L, r', _, h => by simp [b_] at h
 | n + 1, l, r, L, r', h, hrun => by
  unfold b_ at hrun
  split at hrun
  ·exact qX n _ _ L r' (Rd.ok_typ (Rd.ok_name (ok_pf (xB h l) l))) hrun
  ·simp only [Option.some.injEq, Prod.mk.injEq] at hrun
   obtain ⟨_, rfl⟩ := hrun
   exact h
theorem bS (f : Fn) : dO f = [Tx f.name, .sl (em fJ f.params), I f.type, I f.body.op, Tx f.body.name, Tx f.body.tail, I f.body.type, CX f.body.num.re f.body.num.im, .sl (em aO f.body.args), I f.body.at', I f.at'] := by
 unfold dO; rw [aA]; rfl
theorem imm_Fn (l : List Fn) : D.immss (em dO l) = true := lG fun f => by rw [bS]; simp
theorem yO (l : List Fn) (f : Fn) : em dO l ++ [dO f] = em dO (l ++ [f]) := oC
attribute [simp] imm_Fn
theorem k_ {n : Nat} (hN : n ≤ 2 ^ 40) {id nx b5 b6 M : Nat} {mem : Mem} {s2 r4 : Rd} {nm : Mk} {ps : List Pm} {d1 d : D} {x0 : Blk} (hl : look mem id = some x0) (hi : id < nx) (h5 : nx + 1 ≤ b5) (h6 : b5 + 1 ≤ b6) (h7 : b6 + 1 ≤ M) (hfr : ∀ i, nx ≤ i → look mem i = none) (k2 : s2.ok) (hp : b_ n [] s2 = some (ps, r4))
  (Q : Exit → St → Prop) (hq : ∀ m, M + 1 ≤ m → Q (.exit 0) ⟨[(0, .opt id 0), (1, d1), (4, d), (5, .opt b5 0), (6, .opt b6 0), (7, .top), (8, .top)], [], (M, .arr ps.length 3 (em fJ ps)) :: (b6, .box [Tx nm.text, .osl M ps.length 0 ps.length, I 0, I 0, Tx [], Tx [], I 0, CX 0 0, .pl (.slice none 0 0), I 0, I nm.at']) :: (b5, .box (aB nm)) :: (nx, .box [Tx [], .pl (.slice none 0 0), I 0, I 0, Tx [], Tx [], I 0, CX 0 0, .pl (.slice none 0 0), I 0, I 0]) :: upd mem id (.box (aC r4)), m⟩) :
  A cf42 (.loop lb42_0) Q [(0, .opt id 0), (1, d1), (4, d), (5, .opt b5 0), (6, .opt b6 0), (7, .pl undef), (8, .pl undef)]
   ((b6, .box [Tx nm.text, .pl (.slice none 0 0), I 0, I 0, Tx [], Tx [], I 0, CX 0 0, .pl (.slice none 0 0), I 0, I nm.at']) :: (b5, .box (aB nm)) :: (nx, .box [Tx [], .pl (.slice none 0 0), I 0, I 0, Tx [], Tx [], I 0, CX 0 0, .pl (.slice none 0 0), I 0, I 0]) :: upd mem id (.box (aC s2))) M := by
 refine kY (id := b6) (off := 1) (k := 3) (by rw [a_, if_pos rfl]) rfl (.inl rfl) ?_
 refine lpG cf42 lb42_0 [7, 8] (α := Nat × List Pm × Rd) (fun _ _ => [(7, .top), (8, .top)]) (fun s _ => (M, .arr s.2.1.length 3 (em fJ s.2.1)) :: (b6, .box [Tx nm.text, .osl M s.2.1.length 0 s.2.1.length, I 0, I 0, Tx [], Tx [], I 0, CX 0 0, .pl (.slice none 0 0), I 0, I nm.at']) :: (b5, .box (aB nm)) :: (nx, .box [Tx [], .pl (.slice none 0 0), I 0, I 0, Tx [], Tx [], I 0, CX 0 0, .pl (.slice none 0 0), I 0, I 0]) :: upd mem id (.box (aC s.2.2)))
  (fun s m => M + 1 ≤ m ∧ s.1 + s.2.1.length ≤ n ∧ s.2.2.ok ∧ b_ s.1 s.2.1 s.2.2 = some (ps, r4)) (fun s => s.1) (n, [], s2) ⟨by omega, by simp, k2, hp⟩ (by simp) (by simp) ?_
 rintro ⟨f, l, y⟩ m ⟨hm, hf, hy, hrun⟩
 have Km := nfc trivial hm
 have K5 := nfc Km h5
 have K6 := nfc K5 h6
 have K7 := nfc K6 h7
 simp only at hf hy hrun
 cases f with
 | zero => simp [b_] at hrun
 | succ f =>
  unfold b_ at hrun
  have ci := i7 hy [41]
  by_cases g1 : y.why = 0
  ·have hw := hy
   have KF1 := And.intro K7 (g1)
   cases hi2 : y.is [41] <;> rw [hi2] at ci
   ·rw [if_pos ⟨g1, hi2⟩] at hrun
    have kp := ok_pf (xB hy l) l
    have cnm := lQ kp
    have kn := Rd.ok_name kp
    have cty := q6 kn
    have kq := Rd.ok_typ kn
    have hpf : pf (pw y l) l = if (pw y l).why = 0 ∧ (pw y l).next.kind = 0 ∧ (pw y l).lA ≤ (l.length : Int) then (pw y l).fail 22 else pw y l := rfl
    have ky1 := xB hy l
    have hpw : pw y l = if l = [] then y else y.want [44] := rfl
    generalize pf (pw y l) l = z at *
    generalize z.name.1 = x at *
    generalize z.name.2 = z2 at *
    generalize z2.typ.1 = t at *
    generalize z2.typ.2 = q at *
    generalize pw y l = y1 at *
    have cnx := eX ky1
    have cfl := jZ ky1 22
    simp only [aB] at cnx cnm
    have cw := cX hy [44]
    by_cases h0 : l = []
    ·subst h0
     rw [if_pos rfl] at hpw
     subst hpw
     simp only [List.nil_append] at hrun
     by_cases a0 : y1.why = 0
     ·have hu0 := a0
      have KF2 := And.intro KF1 (a0)
      by_cases a1 : y1.next.kind = 0
      ·by_cases a2 : y1.lA ≤ 0
       ·rw [if_pos ⟨a0, a1, by simpa using a2⟩] at hpf
        subst hpf
        simp -implicitDefEqProofs (maxDischargeDepth := 80) [lb42_0, hl, hi, neC hi, neA, ltA, aC, aB, aA, KF2]
        refine aD ((ci) (by simp -implicitDefEqProofs (maxDischargeDepth := 80) [hl, hi, neC hi, neA, ltA, aC, aB, aA, KF2]) (by omega) (fun m2 hm2 => ?_))
        have im2 : id < m2 := by omega
        have Km2 := nfc KF2 hm2
        simp -implicitDefEqProofs (maxDischargeDepth := 80) [hl, hi, neC hi, neA, ltA, aC, aB, aA, Km2, a0]
        refine aD ((cnx) (by simp -implicitDefEqProofs (maxDischargeDepth := 80) [hl, hi, neC hi, neA, ltA, aC, aB, aA, Km2]) (by omega) (fun m4 hm4 => ?_))
        have im4 : id < m4 := by omega
        have Km4 := nfc Km2 hm4
        simp -implicitDefEqProofs (maxDischargeDepth := 80) [hl, hi, neC hi, neA, ltA, aC, aB, aA, Km4, a1, a2]
        refine aD ((cfl) (by simp -implicitDefEqProofs (maxDischargeDepth := 80) [hl, hi, neC hi, neA, ltA, aC, aB, aA, Km4]) (by omega) (fun m5 hm5 => ?_))
        have im5 : id < m5 := by omega
        have Km5 := nfc Km4 hm5
        simp -implicitDefEqProofs (maxDischargeDepth := 80) [hl, hi, neC hi, neA, ltA, aC, aB, aA, Km5]
        refine aD ((cnm) (by simp -implicitDefEqProofs (maxDischargeDepth := 80) [hl, hi, neC hi, neA, ltA, aC, aB, aA, Km5]) (by omega) (fun m7 hm7 => ?_))
        have im7 : id < m7 := by omega
        have Km7 := nfc Km5 hm7
        simp -implicitDefEqProofs (maxDischargeDepth := 80) [hl, hi, neC hi, neA, ltA, aC, aB, aA, Km7]
        refine aD ((cty) (by simp -implicitDefEqProofs (maxDischargeDepth := 80) [hl, hi, neC hi, neA, ltA, aC, aB, aA, Km7]) (by omega) (fun m8 hm8 => ?_))
        have im8 : id < m8 := by omega
        have Km8 := nfc Km7 hm8
        simp -implicitDefEqProofs (maxDischargeDepth := 80) [hl, hi, neC hi, neA, ltA, aC, aB, aA, Km8]
        refine aL (f, [⟨x.text, t, x.at'⟩], q) ⟨by omega, by simp only [List.length_append, List.length_cons, List.length_nil] at hf ⊢; omega, kq, hrun⟩ (by simp only; omega) (by simp) ?_
        simp only [em_1, fJ, List.length_cons, List.length_nil, Nat.zero_add]
        exact (by repeat (first | exact aN _ | refine aU ?_ (by simp only [look]; repeat (first | rw [if_neg (by omega)] | exact aF (hfr _ (by omega)) | exact hfr _ (by omega)))))
       ·rw [if_neg (fun h => a2 (by simpa using h.2.2))] at hpf
        subst hpf
        simp -implicitDefEqProofs (maxDischargeDepth := 80) [lb42_0, hl, hi, neC hi, neA, ltA, aC, aB, aA, KF2]
        refine aD ((ci) (by simp -implicitDefEqProofs (maxDischargeDepth := 80) [hl, hi, neC hi, neA, ltA, aC, aB, aA, KF2]) (by omega) (fun m2 hm2 => ?_))
        have im2 : id < m2 := by omega
        have Km2 := nfc KF2 hm2
        simp -implicitDefEqProofs (maxDischargeDepth := 80) [hl, hi, neC hi, neA, ltA, aC, aB, aA, Km2, a0]
        refine aD ((cnx) (by simp -implicitDefEqProofs (maxDischargeDepth := 80) [hl, hi, neC hi, neA, ltA, aC, aB, aA, Km2]) (by omega) (fun m4 hm4 => ?_))
        have im4 : id < m4 := by omega
        have Km4 := nfc Km2 hm4
        simp -implicitDefEqProofs (maxDischargeDepth := 80) [hl, hi, neC hi, neA, ltA, aC, aB, aA, Km4, a1, a2]
        refine aD ((cnm) (by simp -implicitDefEqProofs (maxDischargeDepth := 80) [hl, hi, neC hi, neA, ltA, aC, aB, aA, Km4]) (by omega) (fun m7 hm7 => ?_))
        have im7 : id < m7 := by omega
        have Km7 := nfc Km4 hm7
        simp -implicitDefEqProofs (maxDischargeDepth := 80) [hl, hi, neC hi, neA, ltA, aC, aB, aA, Km7]
        refine aD ((cty) (by simp -implicitDefEqProofs (maxDischargeDepth := 80) [hl, hi, neC hi, neA, ltA, aC, aB, aA, Km7]) (by omega) (fun m8 hm8 => ?_))
        have im8 : id < m8 := by omega
        have Km8 := nfc Km7 hm8
        simp -implicitDefEqProofs (maxDischargeDepth := 80) [hl, hi, neC hi, neA, ltA, aC, aB, aA, Km8]
        refine aL (f, [⟨x.text, t, x.at'⟩], q) ⟨by omega, by simp only [List.length_append, List.length_cons, List.length_nil] at hf ⊢; omega, kq, hrun⟩ (by simp only; omega) (by simp) ?_
        simp only [em_1, fJ, List.length_cons, List.length_nil, Nat.zero_add]
        exact (by repeat (first | exact aN _ | refine aU ?_ (by simp only [look]; repeat (first | rw [if_neg (by omega)] | exact aF (hfr _ (by omega)) | exact hfr _ (by omega)))))
      ·rw [if_neg (fun h => a1 h.2.1)] at hpf
       subst hpf
       simp -implicitDefEqProofs (maxDischargeDepth := 80) [lb42_0, hl, hi, neC hi, neA, ltA, aC, aB, aA, KF2]
       refine aD ((ci) (by simp -implicitDefEqProofs (maxDischargeDepth := 80) [hl, hi, neC hi, neA, ltA, aC, aB, aA, KF2]) (by omega) (fun m2 hm2 => ?_))
       have im2 : id < m2 := by omega
       have Km2 := nfc KF2 hm2
       simp -implicitDefEqProofs (maxDischargeDepth := 80) [hl, hi, neC hi, neA, ltA, aC, aB, aA, Km2, a0]
       refine aD ((cnx) (by simp -implicitDefEqProofs (maxDischargeDepth := 80) [hl, hi, neC hi, neA, ltA, aC, aB, aA, Km2]) (by omega) (fun m4 hm4 => ?_))
       have im4 : id < m4 := by omega
       have Km4 := nfc Km2 hm4
       simp -implicitDefEqProofs (maxDischargeDepth := 80) [hl, hi, neC hi, neA, ltA, aC, aB, aA, Km4, a1]
       refine aD ((cnm) (by simp -implicitDefEqProofs (maxDischargeDepth := 80) [hl, hi, neC hi, neA, ltA, aC, aB, aA, Km4]) (by omega) (fun m7 hm7 => ?_))
       have im7 : id < m7 := by omega
       have Km7 := nfc Km4 hm7
       simp -implicitDefEqProofs (maxDischargeDepth := 80) [hl, hi, neC hi, neA, ltA, aC, aB, aA, Km7]
       refine aD ((cty) (by simp -implicitDefEqProofs (maxDischargeDepth := 80) [hl, hi, neC hi, neA, ltA, aC, aB, aA, Km7]) (by omega) (fun m8 hm8 => ?_))
       have im8 : id < m8 := by omega
       have Km8 := nfc Km7 hm8
       simp -implicitDefEqProofs (maxDischargeDepth := 80) [hl, hi, neC hi, neA, ltA, aC, aB, aA, Km8]
       refine aL (f, [⟨x.text, t, x.at'⟩], q) ⟨by omega, by simp only [List.length_append, List.length_cons, List.length_nil] at hf ⊢; omega, kq, hrun⟩ (by simp only; omega) (by simp) ?_
       simp only [em_1, fJ, List.length_cons, List.length_nil, Nat.zero_add]
       exact (by repeat (first | exact aN _ | refine aU ?_ (by simp only [look]; repeat (first | rw [if_neg (by omega)] | exact aF (hfr _ (by omega)) | exact hfr _ (by omega)))))
     ·exact absurd g1 a0
    ·rw [if_neg h0] at hpw
     have hpos := List.length_pos_iff.2 h0
     rw [← hpw] at cw
     by_cases a0 : y1.why = 0
     ·have hu0 := a0
      have KF3 := And.intro KF1 (a0)
      by_cases a1 : y1.next.kind = 0
      ·by_cases a2 : y1.lA ≤ (l.length : Int)
       ·rw [if_pos ⟨a0, a1, a2⟩] at hpf
        subst hpf
        simp -implicitDefEqProofs (maxDischargeDepth := 80) [lb42_0, hl, hi, neC hi, neA, ltA, aC, aB, aA, KF3]
        refine aD ((ci) (by simp -implicitDefEqProofs (maxDischargeDepth := 80) [hl, hi, neC hi, neA, ltA, aC, aB, aA, KF3]) (by omega) (fun m2 hm2 => ?_))
        have im2 : id < m2 := by omega
        have Km2 := nfc KF3 hm2
        simp -implicitDefEqProofs (maxDischargeDepth := 80) [hl, hi, neC hi, neA, ltA, aC, aB, aA, Km2, hpos]
        refine aD ((cw) (by simp -implicitDefEqProofs (maxDischargeDepth := 80) [hl, hi, neC hi, neA, ltA, aC, aB, aA, Km2]) (by omega) (fun m3 hm3 => ?_))
        have im3 : id < m3 := by omega
        have Km3 := nfc Km2 hm3
        simp -implicitDefEqProofs (maxDischargeDepth := 80) [hl, hi, neC hi, neA, ltA, aC, aB, aA, Km3, a0]
        refine aD ((cnx) (by simp -implicitDefEqProofs (maxDischargeDepth := 80) [hl, hi, neC hi, neA, ltA, aC, aB, aA, Km3]) (by omega) (fun m4 hm4 => ?_))
        have im4 : id < m4 := by omega
        have Km4 := nfc Km3 hm4
        simp -implicitDefEqProofs (maxDischargeDepth := 80) [hl, hi, neC hi, neA, ltA, aC, aB, aA, Km4, a1, a2]
        refine aD ((cfl) (by simp -implicitDefEqProofs (maxDischargeDepth := 80) [hl, hi, neC hi, neA, ltA, aC, aB, aA, Km4]) (by omega) (fun m5 hm5 => ?_))
        have im5 : id < m5 := by omega
        have Km5 := nfc Km4 hm5
        simp -implicitDefEqProofs (maxDischargeDepth := 80) [hl, hi, neC hi, neA, ltA, aC, aB, aA, Km5]
        refine aD ((cnm) (by simp -implicitDefEqProofs (maxDischargeDepth := 80) [hl, hi, neC hi, neA, ltA, aC, aB, aA, Km5]) (by omega) (fun m7 hm7 => ?_))
        have im7 : id < m7 := by omega
        have Km7 := nfc Km5 hm7
        simp -implicitDefEqProofs (maxDischargeDepth := 80) [hl, hi, neC hi, neA, ltA, aC, aB, aA, Km7]
        refine aD ((cty) (by simp -implicitDefEqProofs (maxDischargeDepth := 80) [hl, hi, neC hi, neA, ltA, aC, aB, aA, Km7]) (by omega) (fun m8 hm8 => ?_))
        have im8 : id < m8 := by omega
        have Km8 := nfc Km7 hm8
        simp -implicitDefEqProofs (maxDischargeDepth := 80) [hl, hi, neC hi, neA, ltA, aC, aB, aA, Km8]
        have hap := qB l ⟨x.text, t, x.at'⟩
        refine ⟨by omega, aL (f, l ++ [⟨x.text, t, x.at'⟩], q) ⟨by omega, by simp only [List.length_append, List.length_cons, List.length_nil]; omega, kq, hrun⟩ (by simp only; omega) (by simp) ?_⟩
        simp only [] at hap
        rw [hap]
        simp only [List.length_append, List.length_cons, List.length_nil, Nat.zero_add]
        exact (by repeat (first | exact aN _ | refine aU ?_ (by simp only [look]; repeat (first | rw [if_neg (by omega)] | exact aF (hfr _ (by omega)) | exact hfr _ (by omega)))))
       ·rw [if_neg (fun h => a2 (by simpa using h.2.2))] at hpf
        subst hpf
        simp -implicitDefEqProofs (maxDischargeDepth := 80) [lb42_0, hl, hi, neC hi, neA, ltA, aC, aB, aA, KF3]
        refine aD ((ci) (by simp -implicitDefEqProofs (maxDischargeDepth := 80) [hl, hi, neC hi, neA, ltA, aC, aB, aA, KF3]) (by omega) (fun m2 hm2 => ?_))
        have im2 : id < m2 := by omega
        have Km2 := nfc KF3 hm2
        simp -implicitDefEqProofs (maxDischargeDepth := 80) [hl, hi, neC hi, neA, ltA, aC, aB, aA, Km2, hpos]
        refine aD ((cw) (by simp -implicitDefEqProofs (maxDischargeDepth := 80) [hl, hi, neC hi, neA, ltA, aC, aB, aA, Km2]) (by omega) (fun m3 hm3 => ?_))
        have im3 : id < m3 := by omega
        have Km3 := nfc Km2 hm3
        simp -implicitDefEqProofs (maxDischargeDepth := 80) [hl, hi, neC hi, neA, ltA, aC, aB, aA, Km3, a0]
        refine aD ((cnx) (by simp -implicitDefEqProofs (maxDischargeDepth := 80) [hl, hi, neC hi, neA, ltA, aC, aB, aA, Km3]) (by omega) (fun m4 hm4 => ?_))
        have im4 : id < m4 := by omega
        have Km4 := nfc Km3 hm4
        simp -implicitDefEqProofs (maxDischargeDepth := 80) [hl, hi, neC hi, neA, ltA, aC, aB, aA, Km4, a1, a2]
        refine aD ((cnm) (by simp -implicitDefEqProofs (maxDischargeDepth := 80) [hl, hi, neC hi, neA, ltA, aC, aB, aA, Km4]) (by omega) (fun m7 hm7 => ?_))
        have im7 : id < m7 := by omega
        have Km7 := nfc Km4 hm7
        simp -implicitDefEqProofs (maxDischargeDepth := 80) [hl, hi, neC hi, neA, ltA, aC, aB, aA, Km7]
        refine aD ((cty) (by simp -implicitDefEqProofs (maxDischargeDepth := 80) [hl, hi, neC hi, neA, ltA, aC, aB, aA, Km7]) (by omega) (fun m8 hm8 => ?_))
        have im8 : id < m8 := by omega
        have Km8 := nfc Km7 hm8
        simp -implicitDefEqProofs (maxDischargeDepth := 80) [hl, hi, neC hi, neA, ltA, aC, aB, aA, Km8]
        have hap := qB l ⟨x.text, t, x.at'⟩
        refine ⟨by omega, aL (f, l ++ [⟨x.text, t, x.at'⟩], q) ⟨by omega, by simp only [List.length_append, List.length_cons, List.length_nil]; omega, kq, hrun⟩ (by simp only; omega) (by simp) ?_⟩
        simp only [] at hap
        rw [hap]
        simp only [List.length_append, List.length_cons, List.length_nil, Nat.zero_add]
        exact (by repeat (first | exact aN _ | refine aU ?_ (by simp only [look]; repeat (first | rw [if_neg (by omega)] | exact aF (hfr _ (by omega)) | exact hfr _ (by omega)))))
      ·rw [if_neg (fun h => a1 h.2.1)] at hpf
       subst hpf
       simp -implicitDefEqProofs (maxDischargeDepth := 80) [lb42_0, hl, hi, neC hi, neA, ltA, aC, aB, aA, KF3]
       refine aD ((ci) (by simp -implicitDefEqProofs (maxDischargeDepth := 80) [hl, hi, neC hi, neA, ltA, aC, aB, aA, KF3]) (by omega) (fun m2 hm2 => ?_))
       have im2 : id < m2 := by omega
       have Km2 := nfc KF3 hm2
       simp -implicitDefEqProofs (maxDischargeDepth := 80) [hl, hi, neC hi, neA, ltA, aC, aB, aA, Km2, hpos]
       refine aD ((cw) (by simp -implicitDefEqProofs (maxDischargeDepth := 80) [hl, hi, neC hi, neA, ltA, aC, aB, aA, Km2]) (by omega) (fun m3 hm3 => ?_))
       have im3 : id < m3 := by omega
       have Km3 := nfc Km2 hm3
       simp -implicitDefEqProofs (maxDischargeDepth := 80) [hl, hi, neC hi, neA, ltA, aC, aB, aA, Km3, a0]
       refine aD ((cnx) (by simp -implicitDefEqProofs (maxDischargeDepth := 80) [hl, hi, neC hi, neA, ltA, aC, aB, aA, Km3]) (by omega) (fun m4 hm4 => ?_))
       have im4 : id < m4 := by omega
       have Km4 := nfc Km3 hm4
       simp -implicitDefEqProofs (maxDischargeDepth := 80) [hl, hi, neC hi, neA, ltA, aC, aB, aA, Km4, a1]
       refine aD ((cnm) (by simp -implicitDefEqProofs (maxDischargeDepth := 80) [hl, hi, neC hi, neA, ltA, aC, aB, aA, Km4]) (by omega) (fun m7 hm7 => ?_))
       have im7 : id < m7 := by omega
       have Km7 := nfc Km4 hm7
       simp -implicitDefEqProofs (maxDischargeDepth := 80) [hl, hi, neC hi, neA, ltA, aC, aB, aA, Km7]
       refine aD ((cty) (by simp -implicitDefEqProofs (maxDischargeDepth := 80) [hl, hi, neC hi, neA, ltA, aC, aB, aA, Km7]) (by omega) (fun m8 hm8 => ?_))
       have im8 : id < m8 := by omega
       have Km8 := nfc Km7 hm8
       simp -implicitDefEqProofs (maxDischargeDepth := 80) [hl, hi, neC hi, neA, ltA, aC, aB, aA, Km8]
       have hap := qB l ⟨x.text, t, x.at'⟩
       refine ⟨by omega, aL (f, l ++ [⟨x.text, t, x.at'⟩], q) ⟨by omega, by simp only [List.length_append, List.length_cons, List.length_nil]; omega, kq, hrun⟩ (by simp only; omega) (by simp) ?_⟩
       simp only [] at hap
       rw [hap]
       simp only [List.length_append, List.length_cons, List.length_nil, Nat.zero_add]
       exact (by repeat (first | exact aN _ | refine aU ?_ (by simp only [look]; repeat (first | rw [if_neg (by omega)] | exact aF (hfr _ (by omega)) | exact hfr _ (by omega)))))
     ·rw [if_neg (fun h => a0 h.1)] at hpf
      subst hpf
      simp -implicitDefEqProofs (maxDischargeDepth := 80) [lb42_0, hl, hi, neC hi, neA, ltA, aC, aB, aA, KF1]
      refine aD ((ci) (by simp -implicitDefEqProofs (maxDischargeDepth := 80) [hl, hi, neC hi, neA, ltA, aC, aB, aA, KF1]) (by omega) (fun m2 hm2 => ?_))
      have im2 : id < m2 := by omega
      have Km2 := nfc KF1 hm2
      simp -implicitDefEqProofs (maxDischargeDepth := 80) [hl, hi, neC hi, neA, ltA, aC, aB, aA, Km2, hpos]
      refine aD ((cw) (by simp -implicitDefEqProofs (maxDischargeDepth := 80) [hl, hi, neC hi, neA, ltA, aC, aB, aA, Km2]) (by omega) (fun m3 hm3 => ?_))
      have im3 : id < m3 := by omega
      have Km3 := nfc Km2 hm3
      simp -implicitDefEqProofs (maxDischargeDepth := 80) [hl, hi, neC hi, neA, ltA, aC, aB, aA, Km3, a0]
      refine aD ((cnm) (by simp -implicitDefEqProofs (maxDischargeDepth := 80) [hl, hi, neC hi, neA, ltA, aC, aB, aA, Km3]) (by omega) (fun m7 hm7 => ?_))
      have im7 : id < m7 := by omega
      have Km7 := nfc Km3 hm7
      simp -implicitDefEqProofs (maxDischargeDepth := 80) [hl, hi, neC hi, neA, ltA, aC, aB, aA, Km7]
      refine aD ((cty) (by simp -implicitDefEqProofs (maxDischargeDepth := 80) [hl, hi, neC hi, neA, ltA, aC, aB, aA, Km7]) (by omega) (fun m8 hm8 => ?_))
      have im8 : id < m8 := by omega
      have Km8 := nfc Km7 hm8
      simp -implicitDefEqProofs (maxDischargeDepth := 80) [hl, hi, neC hi, neA, ltA, aC, aB, aA, Km8]
      have hap := qB l ⟨x.text, t, x.at'⟩
      refine ⟨by omega, aL (f, l ++ [⟨x.text, t, x.at'⟩], q) ⟨by omega, by simp only [List.length_append, List.length_cons, List.length_nil]; omega, kq, hrun⟩ (by simp only; omega) (by simp) ?_⟩
      simp only [] at hap
      rw [hap]
      simp only [List.length_append, List.length_cons, List.length_nil, Nat.zero_add]
      exact (by repeat (first | exact aN _ | refine aU ?_ (by simp only [look]; repeat (first | rw [if_neg (by omega)] | exact aF (hfr _ (by omega)) | exact hfr _ (by omega)))))
   ·rw [if_neg (by simp [hi2])] at hrun
    simp only [Option.some.injEq, Prod.mk.injEq] at hrun
    obtain ⟨rfl, rfl⟩ := hrun
    simp [aC, aB, g1] at hq
    simp -implicitDefEqProofs (maxDischargeDepth := 80) [lb42_0, hl, hi, neC hi, neA, ltA, aC, aB, aA, KF1]
    refine aD ((ci) (by simp -implicitDefEqProofs (maxDischargeDepth := 80) [hl, hi, neC hi, neA, ltA, aC, aB, aA, KF1]) (by omega) (fun m2 hm2 => ?_))
    have im2 : id < m2 := by omega
    have Km2 := nfc KF1 hm2
    simp -implicitDefEqProofs (maxDischargeDepth := 80) [hl, hi, neC hi, neA, ltA, aC, aB, aA, Km2]
    exact hq _ (by omega)
  ·rw [if_neg (by simp [g1])] at hrun
   simp only [Option.some.injEq, Prod.mk.injEq] at hrun
   obtain ⟨rfl, rfl⟩ := hrun
   simp [aC, aB] at hq
   simp -implicitDefEqProofs (maxDischargeDepth := 80) [lb42_0, hl, hi, neC hi, neA, ltA, aC, aB, aA, K7, g1]
   exact hq _ (by omega)
theorem def_s {n : Nat} (hN : n ≤ 2 ^ 40) (r : Rd) (h : r.ok) (cnt : Nat) (f : Fn) (r' : Rd) (hrun : i8 n r cnt = some (f, r')) :
  r'.ok ∧ RC 42 [I cnt] r r' (.agg (dO f)) := by
 unfold i8 at hrun
 have kdf := ok_df h cnt
 have cdf : RC0 41 [] r (.agg (aB r.next)) := eX h
 have cff := jZ h 22
 have w1 := lQ kdf
 have k1 := Rd.ok_name kdf
 have w2 := cX k1 [40]
 have k2 := Rd.ok_want k1 [40]
 have hdf : df r cnt = if r.next.kind = 0 ∧ r.lF ≤ (cnt : Int) then r.fail 22 else r := rfl
 generalize df r cnt = s0 at *
 generalize s0.name.1 = nm at *
 generalize s0.name.2 = s1 at *
 generalize s1.want [40] = s2 at *
 cases hp : b_ n [] s2 with
 | none => rw [hp] at hrun; simp at hrun
 | some q =>
  obtain ⟨ps, r4⟩ := q
  rw [hp] at hrun
  simp only [Option.bind_some, Option.map_eq_some_iff, Prod.mk.injEq] at hrun
  obtain ⟨⟨body, r9⟩, hb, rfl, rfl⟩ := hrun
  have k4 := qX n [] s2 ps r4 k2 hp
  have w3 := cX k4 [41]
  have k5 := Rd.ok_want k4 [41]
  have w4 := cX k5 [58]
  have k6 := Rd.ok_want k5 [58]
  have w5 := q6 k6
  have k7 := Rd.ok_typ k6
  have w6 := cX k7 [61]
  have k8 := Rd.ok_want k7 [61]
  generalize r4.want [41] = s5 at *
  generalize s5.want [58] = s6 at *
  generalize s6.typ.1 = ty at *
  generalize s6.typ.2 = s7 at *
  generalize s7.want [61] = s8 at *
  obtain ⟨k9, _, w7⟩ := AL hN k8 hb
  have w8 := cX k9 [59]
  have k10 := Rd.ok_want k9 [59]
  generalize r9.want [59] = s10 at *
  refine ⟨k10, ?_⟩
  intro id mem nx K hl hi hk
  simp only [bS] at hk
  simp only [aA] at w7
  simp only [aB] at w1 cdf
  refine aY ?_
  refine fi42.ct (by simp) fun hfr => ?_
  by_cases g0 : r.next.kind = 0
  ·by_cases g1 : r.lF ≤ (cnt : Int)
   ·rw [if_pos ⟨g0, g1⟩] at hdf
    subst hdf
    simp -implicitDefEqProofs (maxDischargeDepth := 80) [ac42, hl, hi, neC hi, neA, ltA, aC, aB, aA]
    refine aD ((cdf) (by simp -implicitDefEqProofs (maxDischargeDepth := 80) [hl, hi, neC hi, neA, ltA, aC, aB, aA]) (by omega) (fun m1 hm1 => ?_))
    have im1 : id < m1 := by omega
    have Km1 := nfc trivial hm1
    simp -implicitDefEqProofs (maxDischargeDepth := 80) [hl, hi, neC hi, neA, ltA, aC, aB, aA, Km1, g0, g1]
    refine aD ((cff) (by simp -implicitDefEqProofs (maxDischargeDepth := 80) [hl, hi, neC hi, neA, ltA, aC, aB, aA, Km1]) (by omega) (fun m2 hm2 => ?_))
    have im2 : id < m2 := by omega
    have Km2 := nfc Km1 hm2
    simp -implicitDefEqProofs (maxDischargeDepth := 80) [hl, hi, neC hi, neA, ltA, aC, aB, aA, Km2]
    refine aD ((w1) (by simp -implicitDefEqProofs (maxDischargeDepth := 80) [hl, hi, neC hi, neA, ltA, aC, aB, aA, Km2]) (by omega) (fun m3 hm3 => ?_))
    have im3 : id < m3 := by omega
    have Km3 := nfc Km2 hm3
    simp -implicitDefEqProofs (maxDischargeDepth := 80) [hl, hi, neC hi, neA, ltA, aC, aB, aA, Km3]
    refine aD ((w2) (by simp -implicitDefEqProofs (maxDischargeDepth := 80) [hl, hi, neC hi, neA, ltA, aC, aB, aA, Km3]) (by omega) (fun m4 hm4 => ?_))
    have im4 : id < m4 := by omega
    have Km4 := nfc Km3 hm4
    simp -implicitDefEqProofs (maxDischargeDepth := 80) [hl, hi, neC hi, neA, ltA, aC, aB, aA, Km4]
    refine k_ (b5 := m2 + 2) (b6 := m3 + 5) (M := m4) (nm := nm) (mem := mem) hN hl hi (by omega) (by omega) (by omega) hfr k2 hp _ (fun m hm => ?_)
    have Km := nfc Km4 hm
    simp -implicitDefEqProofs (maxDischargeDepth := 80) [hl, hi, neC hi, neA, ltA, aC, aB, aA, Km]
    refine aD ((w3) (by simp -implicitDefEqProofs (maxDischargeDepth := 80) [hl, hi, neC hi, neA, ltA, aC, aB, aA, Km]) (by omega) (fun m5 hm5 => ?_))
    have im5 : id < m5 := by omega
    have Km5 := nfc Km hm5
    simp -implicitDefEqProofs (maxDischargeDepth := 80) [hl, hi, neC hi, neA, ltA, aC, aB, aA, Km5]
    refine aD ((w4) (by simp -implicitDefEqProofs (maxDischargeDepth := 80) [hl, hi, neC hi, neA, ltA, aC, aB, aA, Km5]) (by omega) (fun m6 hm6 => ?_))
    have im6 : id < m6 := by omega
    have Km6 := nfc Km5 hm6
    simp -implicitDefEqProofs (maxDischargeDepth := 80) [hl, hi, neC hi, neA, ltA, aC, aB, aA, Km6]
    refine aD ((w5) (by simp -implicitDefEqProofs (maxDischargeDepth := 80) [hl, hi, neC hi, neA, ltA, aC, aB, aA, Km6]) (by omega) (fun m7 hm7 => ?_))
    have im7 : id < m7 := by omega
    have Km7 := nfc Km6 hm7
    simp -implicitDefEqProofs (maxDischargeDepth := 80) [hl, hi, neC hi, neA, ltA, aC, aB, aA, Km7]
    refine aD ((w6) (by simp -implicitDefEqProofs (maxDischargeDepth := 80) [hl, hi, neC hi, neA, ltA, aC, aB, aA, Km7]) (by omega) (fun m8 hm8 => ?_))
    have im8 : id < m8 := by omega
    have Km8 := nfc Km7 hm8
    simp -implicitDefEqProofs (maxDischargeDepth := 80) [hl, hi, neC hi, neA, ltA, aC, aB, aA, Km8]
    refine aD ((w7) (by simp -implicitDefEqProofs (maxDischargeDepth := 80) [hl, hi, neC hi, neA, ltA, aC, aB, aA, Km8]) (by omega) (fun m9 hm9 => ?_))
    have im9 : id < m9 := by omega
    have Km9 := nfc Km8 hm9
    simp -implicitDefEqProofs (maxDischargeDepth := 80) [hl, hi, neC hi, neA, ltA, aC, aB, aA, Km9]
    refine aD ((w8) (by simp -implicitDefEqProofs (maxDischargeDepth := 80) [hl, hi, neC hi, neA, ltA, aC, aB, aA, Km9]) (by omega) (fun m10 hm10 => ?_))
    have im10 : id < m10 := by omega
    have Km10 := nfc Km9 hm10
    simp -implicitDefEqProofs (maxDischargeDepth := 80) [hl, hi, neC hi, neA, ltA, aC, aB, aA, Km10]
    exact kP m4 _ (by simp -implicitDefEqProofs (maxDischargeDepth := 80) [hl, hi, neC hi, neA, ltA, aC, aB, aA, Km10]; rfl) (by repeat (first | exact aG _ | refine aE ?_ (aF (hfr _ (by omega))) | refine aE ?_ (hfr _ (by omega)))) (aF (hfr _ (by omega))) (by simp [frz, look, List.take_of_length_le]) (hk _ (by omega))
   ·rw [if_neg (fun h => g1 h.2)] at hdf
    subst hdf
    simp -implicitDefEqProofs (maxDischargeDepth := 80) [ac42, hl, hi, neC hi, neA, ltA, aC, aB, aA]
    refine aD ((cdf) (by simp -implicitDefEqProofs (maxDischargeDepth := 80) [hl, hi, neC hi, neA, ltA, aC, aB, aA]) (by omega) (fun m1 hm1 => ?_))
    have im1 : id < m1 := by omega
    have Km1 := nfc trivial hm1
    simp -implicitDefEqProofs (maxDischargeDepth := 80) [hl, hi, neC hi, neA, ltA, aC, aB, aA, Km1, g0, g1]
    refine aD ((w1) (by simp -implicitDefEqProofs (maxDischargeDepth := 80) [hl, hi, neC hi, neA, ltA, aC, aB, aA, Km1]) (by omega) (fun m3 hm3 => ?_))
    have im3 : id < m3 := by omega
    have Km3 := nfc Km1 hm3
    simp -implicitDefEqProofs (maxDischargeDepth := 80) [hl, hi, neC hi, neA, ltA, aC, aB, aA, Km3]
    refine aD ((w2) (by simp -implicitDefEqProofs (maxDischargeDepth := 80) [hl, hi, neC hi, neA, ltA, aC, aB, aA, Km3]) (by omega) (fun m4 hm4 => ?_))
    have im4 : id < m4 := by omega
    have Km4 := nfc Km3 hm4
    simp -implicitDefEqProofs (maxDischargeDepth := 80) [hl, hi, neC hi, neA, ltA, aC, aB, aA, Km4]
    refine k_ (b5 := m1 + 2) (b6 := m3 + 5) (M := m4) (nm := nm) (mem := mem) hN hl hi (by omega) (by omega) (by omega) hfr k2 hp _ (fun m hm => ?_)
    have Km := nfc Km4 hm
    simp -implicitDefEqProofs (maxDischargeDepth := 80) [hl, hi, neC hi, neA, ltA, aC, aB, aA, Km]
    refine aD ((w3) (by simp -implicitDefEqProofs (maxDischargeDepth := 80) [hl, hi, neC hi, neA, ltA, aC, aB, aA, Km]) (by omega) (fun m5 hm5 => ?_))
    have im5 : id < m5 := by omega
    have Km5 := nfc Km hm5
    simp -implicitDefEqProofs (maxDischargeDepth := 80) [hl, hi, neC hi, neA, ltA, aC, aB, aA, Km5]
    refine aD ((w4) (by simp -implicitDefEqProofs (maxDischargeDepth := 80) [hl, hi, neC hi, neA, ltA, aC, aB, aA, Km5]) (by omega) (fun m6 hm6 => ?_))
    have im6 : id < m6 := by omega
    have Km6 := nfc Km5 hm6
    simp -implicitDefEqProofs (maxDischargeDepth := 80) [hl, hi, neC hi, neA, ltA, aC, aB, aA, Km6]
    refine aD ((w5) (by simp -implicitDefEqProofs (maxDischargeDepth := 80) [hl, hi, neC hi, neA, ltA, aC, aB, aA, Km6]) (by omega) (fun m7 hm7 => ?_))
    have im7 : id < m7 := by omega
    have Km7 := nfc Km6 hm7
    simp -implicitDefEqProofs (maxDischargeDepth := 80) [hl, hi, neC hi, neA, ltA, aC, aB, aA, Km7]
    refine aD ((w6) (by simp -implicitDefEqProofs (maxDischargeDepth := 80) [hl, hi, neC hi, neA, ltA, aC, aB, aA, Km7]) (by omega) (fun m8 hm8 => ?_))
    have im8 : id < m8 := by omega
    have Km8 := nfc Km7 hm8
    simp -implicitDefEqProofs (maxDischargeDepth := 80) [hl, hi, neC hi, neA, ltA, aC, aB, aA, Km8]
    refine aD ((w7) (by simp -implicitDefEqProofs (maxDischargeDepth := 80) [hl, hi, neC hi, neA, ltA, aC, aB, aA, Km8]) (by omega) (fun m9 hm9 => ?_))
    have im9 : id < m9 := by omega
    have Km9 := nfc Km8 hm9
    simp -implicitDefEqProofs (maxDischargeDepth := 80) [hl, hi, neC hi, neA, ltA, aC, aB, aA, Km9]
    refine aD ((w8) (by simp -implicitDefEqProofs (maxDischargeDepth := 80) [hl, hi, neC hi, neA, ltA, aC, aB, aA, Km9]) (by omega) (fun m10 hm10 => ?_))
    have im10 : id < m10 := by omega
    have Km10 := nfc Km9 hm10
    simp -implicitDefEqProofs (maxDischargeDepth := 80) [hl, hi, neC hi, neA, ltA, aC, aB, aA, Km10]
    exact kP m4 _ (by simp -implicitDefEqProofs (maxDischargeDepth := 80) [hl, hi, neC hi, neA, ltA, aC, aB, aA, Km10]; rfl) (by repeat (first | exact aG _ | refine aE ?_ (aF (hfr _ (by omega))) | refine aE ?_ (hfr _ (by omega)))) (aF (hfr _ (by omega))) (by simp [frz, look, List.take_of_length_le]) (hk _ (by omega))
  ·rw [if_neg (fun h => g0 h.1)] at hdf
   subst hdf
   simp -implicitDefEqProofs (maxDischargeDepth := 80) [ac42, hl, hi, neC hi, neA, ltA, aC, aB, aA]
   refine aD ((cdf) (by simp -implicitDefEqProofs (maxDischargeDepth := 80) [hl, hi, neC hi, neA, ltA, aC, aB, aA]) (by omega) (fun m1 hm1 => ?_))
   have im1 : id < m1 := by omega
   have Km1 := nfc trivial hm1
   simp -implicitDefEqProofs (maxDischargeDepth := 80) [hl, hi, neC hi, neA, ltA, aC, aB, aA, Km1, g0]
   refine aD ((w1) (by simp -implicitDefEqProofs (maxDischargeDepth := 80) [hl, hi, neC hi, neA, ltA, aC, aB, aA, Km1]) (by omega) (fun m3 hm3 => ?_))
   have im3 : id < m3 := by omega
   have Km3 := nfc Km1 hm3
   simp -implicitDefEqProofs (maxDischargeDepth := 80) [hl, hi, neC hi, neA, ltA, aC, aB, aA, Km3]
   refine aD ((w2) (by simp -implicitDefEqProofs (maxDischargeDepth := 80) [hl, hi, neC hi, neA, ltA, aC, aB, aA, Km3]) (by omega) (fun m4 hm4 => ?_))
   have im4 : id < m4 := by omega
   have Km4 := nfc Km3 hm4
   simp -implicitDefEqProofs (maxDischargeDepth := 80) [hl, hi, neC hi, neA, ltA, aC, aB, aA, Km4]
   refine k_ (b5 := m1 + 2) (b6 := m3 + 5) (M := m4) (nm := nm) (mem := mem) hN hl hi (by omega) (by omega) (by omega) hfr k2 hp _ (fun m hm => ?_)
   have Km := nfc Km4 hm
   simp -implicitDefEqProofs (maxDischargeDepth := 80) [hl, hi, neC hi, neA, ltA, aC, aB, aA, Km]
   refine aD ((w3) (by simp -implicitDefEqProofs (maxDischargeDepth := 80) [hl, hi, neC hi, neA, ltA, aC, aB, aA, Km]) (by omega) (fun m5 hm5 => ?_))
   have im5 : id < m5 := by omega
   have Km5 := nfc Km hm5
   simp -implicitDefEqProofs (maxDischargeDepth := 80) [hl, hi, neC hi, neA, ltA, aC, aB, aA, Km5]
   refine aD ((w4) (by simp -implicitDefEqProofs (maxDischargeDepth := 80) [hl, hi, neC hi, neA, ltA, aC, aB, aA, Km5]) (by omega) (fun m6 hm6 => ?_))
   have im6 : id < m6 := by omega
   have Km6 := nfc Km5 hm6
   simp -implicitDefEqProofs (maxDischargeDepth := 80) [hl, hi, neC hi, neA, ltA, aC, aB, aA, Km6]
   refine aD ((w5) (by simp -implicitDefEqProofs (maxDischargeDepth := 80) [hl, hi, neC hi, neA, ltA, aC, aB, aA, Km6]) (by omega) (fun m7 hm7 => ?_))
   have im7 : id < m7 := by omega
   have Km7 := nfc Km6 hm7
   simp -implicitDefEqProofs (maxDischargeDepth := 80) [hl, hi, neC hi, neA, ltA, aC, aB, aA, Km7]
   refine aD ((w6) (by simp -implicitDefEqProofs (maxDischargeDepth := 80) [hl, hi, neC hi, neA, ltA, aC, aB, aA, Km7]) (by omega) (fun m8 hm8 => ?_))
   have im8 : id < m8 := by omega
   have Km8 := nfc Km7 hm8
   simp -implicitDefEqProofs (maxDischargeDepth := 80) [hl, hi, neC hi, neA, ltA, aC, aB, aA, Km8]
   refine aD ((w7) (by simp -implicitDefEqProofs (maxDischargeDepth := 80) [hl, hi, neC hi, neA, ltA, aC, aB, aA, Km8]) (by omega) (fun m9 hm9 => ?_))
   have im9 : id < m9 := by omega
   have Km9 := nfc Km8 hm9
   simp -implicitDefEqProofs (maxDischargeDepth := 80) [hl, hi, neC hi, neA, ltA, aC, aB, aA, Km9]
   refine aD ((w8) (by simp -implicitDefEqProofs (maxDischargeDepth := 80) [hl, hi, neC hi, neA, ltA, aC, aB, aA, Km9]) (by omega) (fun m10 hm10 => ?_))
   have im10 : id < m10 := by omega
   have Km10 := nfc Km9 hm10
   simp -implicitDefEqProofs (maxDischargeDepth := 80) [hl, hi, neC hi, neA, ltA, aC, aB, aA, Km10]
   exact kP m4 _ (by simp -implicitDefEqProofs (maxDischargeDepth := 80) [hl, hi, neC hi, neA, ltA, aC, aB, aA, Km10]; rfl) (by repeat (first | exact aG _ | refine aE ?_ (aF (hfr _ (by omega))) | refine aE ?_ (hfr _ (by omega)))) (aF (hfr _ (by omega))) (by simp [frz, look, List.take_of_length_le]) (hk _ (by omega))
theorem z_ {n : Nat} (hN : n ≤ 2 ^ 40) (r : Rd) (h : r.ok) (L : List Fn) (r' : Rd) (hp : cU n [] r = some (L, r')) : RC 32 [] r r' (.agg [.sl (em dO L)]) := by
 intro id mem nx K hl hi hk
 refine aY ?_
 refine fi32.ct (by simp) fun hfr => ?_
 simp -implicitDefEqProofs (maxDischargeDepth := 80) [ac32, hl, hi, neC hi, neA, ltA, aC, aB, aA]
 refine kY (id := nx + 1) (off := 0) (k := 11) (by rw [a_, if_pos rfl]) rfl (.inl rfl) ?_
 refine lpG cf32 lb32_0 [4] (α := Nat × List Fn × Rd) (fun _ _ => []) (fun s _ => (nx + 1 + 1, .arr s.2.1.length 11 (em dO s.2.1)) :: (nx + 1, .box [.osl (nx + 1 + 1) s.2.1.length 0 s.2.1.length]) :: (nx, .box [.pl (.slice none 0 0)]) :: upd mem id (.box (aC s.2.2)))
  (fun s m => nx + 1 + 2 ≤ m ∧ s.1 + s.2.1.length ≤ n ∧ s.2.2.ok ∧ cU s.1 s.2.1 s.2.2 = some (L, r')) (fun s => s.1) (n, [], r) ⟨by omega, by simp, h, hp⟩ (by simp) (by simp [cE hl]) ?_
 rintro ⟨f, l, y⟩ m ⟨hm, hf, hy, hrun⟩
 have Km := nfc trivial hm
 simp only at hf hy hrun
 cases f with
 | zero => simp [cU] at hrun
 | succ f =>
  unfold cU at hrun
  have cnx := eX hy
  simp only [aB] at cnx
  have go : (y.why = 0 ∧ (l = [] ∨ y.next.kind ≠ 4)) → ∃ d q, i8 f y l.length = some (d, q) ∧ cU f (l ++ [d]) q = some (L, r') ∧ q.ok ∧ RC 42 [I l.length] y q (.agg (dO d)) := fun hc => by
   rw [if_pos hc] at hrun
   cases hd : i8 f y l.length with
   | none => rw [hd] at hrun; simp at hrun
   | some p =>
    rw [hd] at hrun
    obtain ⟨k1, k2⟩ := def_s (by omega) y hy _ p.1 p.2 hd
    exact ⟨p.1, p.2, rfl, hrun, k1, k2⟩
  have stop : ¬ (y.why = 0 ∧ (l = [] ∨ y.next.kind ≠ 4)) → l = L ∧ y = r' := fun hc => by
   rw [if_neg hc] at hrun
   simpa using hrun
  by_cases g1 : y.why = 0
  ·have hu := g1
   have KF1 := And.intro Km (g1)
   by_cases h0 : l = []
   ·obtain ⟨d, q, _, hrun2, kq, cd⟩ := go ⟨g1, .inl h0⟩
    subst h0
    have hap := yO [] d
    simp only [bS, List.length_nil] at cd
    simp -implicitDefEqProofs (maxDischargeDepth := 80) [lb32_0, hl, hi, neC hi, neA, ltA, aC, aB, aA, KF1]
    refine aD ((cd) (by simp -implicitDefEqProofs (maxDischargeDepth := 80) [hl, hi, neC hi, neA, ltA, aC, aB, aA, KF1]) (by omega) (fun m2 hm2 => ?_))
    have im2 : id < m2 := by omega
    have Km2 := nfc KF1 hm2
    simp -implicitDefEqProofs (maxDischargeDepth := 80) [hl, hi, neC hi, neA, ltA, aC, aB, aA, Km2]
    refine aL (f, [d], q) ⟨by omega, by simp only [List.length_nil, List.length_cons] at hf ⊢; omega, kq, hrun2⟩ (by simp only; omega) (by simp) ?_
    simp only [em_1, bS, List.length_cons, List.length_nil, Nat.zero_add]
    exact (by repeat (first | exact aN _ | refine aU ?_ (by simp only [look]; repeat (first | rw [if_neg (by omega)] | exact aF (hfr _ (by omega)) | exact hfr _ (by omega)))))
   ·have hpos := List.length_pos_iff.2 h0
    by_cases g2 : y.next.kind = 4
    ·obtain ⟨rfl, rfl⟩ := stop (by simp [h0, g2])
     simp only [aC, g1] at hk
     simp -implicitDefEqProofs (maxDischargeDepth := 80) [lb32_0, hl, hi, neC hi, neA, ltA, aC, aB, aA, KF1, h0]
     refine aD ((cnx) (by simp -implicitDefEqProofs (maxDischargeDepth := 80) [hl, hi, neC hi, neA, ltA, aC, aB, aA, KF1]) (by omega) (fun m2 hm2 => ?_))
     have im2 : id < m2 := by omega
     have Km2 := nfc KF1 hm2
     simp -implicitDefEqProofs (maxDischargeDepth := 80) [hl, hi, neC hi, neA, ltA, aC, aB, aA, Km2, g2]
     exact kP (nx + 1 + 1) _ (by simp -implicitDefEqProofs (maxDischargeDepth := 80) [hl, hi, neC hi, neA, ltA, aC, aB, aA, Km2]; rfl) (by repeat (first | exact aG _ | refine aE ?_ (aF (hfr _ (by omega))) | refine aE ?_ (hfr _ (by omega)))) (aF (hfr _ (by omega))) (by simp [frz, look, List.take_of_length_le]) (hk _ (by omega))
    ·obtain ⟨d, q, _, hrun2, kq, cd⟩ := go ⟨g1, .inr g2⟩
     have hap := yO l d
     simp only [bS] at cd
     rw [bS d] at hap
     simp -implicitDefEqProofs (maxDischargeDepth := 80) [lb32_0, hl, hi, neC hi, neA, ltA, aC, aB, aA, KF1, h0]
     refine aD ((cnx) (by simp -implicitDefEqProofs (maxDischargeDepth := 80) [hl, hi, neC hi, neA, ltA, aC, aB, aA, KF1]) (by omega) (fun m2 hm2 => ?_))
     have im2 : id < m2 := by omega
     have Km2 := nfc KF1 hm2
     simp -implicitDefEqProofs (maxDischargeDepth := 80) [hl, hi, neC hi, neA, ltA, aC, aB, aA, Km2, g2]
     refine aD ((cd) (by simp -implicitDefEqProofs (maxDischargeDepth := 80) [hl, hi, neC hi, neA, ltA, aC, aB, aA, Km2]) (by omega) (fun m3 hm3 => ?_))
     have im3 : id < m3 := by omega
     have Km3 := nfc Km2 hm3
     simp -implicitDefEqProofs (maxDischargeDepth := 80) [hl, hi, neC hi, neA, ltA, aC, aB, aA, Km3]
     refine ⟨by omega, aL (f, l ++ [d], q) ⟨by omega, by simp only [List.length_append, List.length_cons, List.length_nil]; omega, kq, hrun2⟩ (by simp only; omega) (by simp) ?_⟩
     rw [hap]
     simp only [List.length_append, List.length_cons, List.length_nil, Nat.zero_add]
     exact (by repeat (first | exact aN _ | refine aU ?_ (by simp only [look]; repeat (first | rw [if_neg (by omega)] | exact aF (hfr _ (by omega)) | exact hfr _ (by omega)))))
  ·obtain ⟨rfl, rfl⟩ := stop (by simp [g1])
   simp -implicitDefEqProofs (maxDischargeDepth := 80) [lb32_0, hl, hi, neC hi, neA, ltA, aC, aB, aA, Km, g1]
   exact kP (nx + 1 + 1) _ (by simp -implicitDefEqProofs (maxDischargeDepth := 80) [hl, hi, neC hi, neA, ltA, aC, aB, aA, Km]; rfl) (by repeat (first | exact aG _ | refine aE ?_ (aF (hfr _ (by omega))) | refine aE ?_ (hfr _ (by omega)))) (aF (hfr _ (by omega))) (by simp [frz, look, List.take_of_length_le]) (hk _ (by omega))
def rd0 (t : List UInt8) (lt lF lA lN : Int) : Rd := ⟨(cG t).1, 0, 0, 0, lt, lF, lA, lN, 0⟩
abbrev limD (a b c d : Int) : D := .agg [I a, I b, I c, I d]
abbrev resD (l : List Fn) (w p : Int) : D := .tup [.agg [.sl (em dO l)], .agg [I w, I p]]
theorem wide_c : Pure Tryd.prog 21 [] (limD 32768 32768 32768 32768) := by
 refine fi21.pu (by simp) ?_
 simp -implicitDefEqProofs [ac21]
theorem uJ {t : List UInt8} {lt lF lA lN : Int} (ht : t.length ≤ 2 ^ 20) (hm : (cG t).2 < 0) (hN : lN ≤ 2 ^ 40) : (rd0 t lt lF lA lN).ok := by
 have h := kG (t.length + 1) t 0 [] hm
 have hl := jF (t.length + 1) t 0 [] (by omega) (by simp)
 exact ⟨h, h.1, by show (cG t).1.length ≤ 2 ^ 21; unfold cG; omega, by show (0 : Int) ≤ 0; omega, by show (0 : Int) ≤ 2 ^ 40; omega, hN⟩
theorem mm32 : min (max (32768 : Int) 0) 32768 = 32768 := by decide
theorem AE (t : List UInt8) (ht : t.length < 2 ^ 48) (h : 32768 < t.length) : Pure Tryd.prog 20 [.sl (em c_ t), limD 32768 32768 32768 32768] (resD [] 22 32768) := by
 refine fi20.pu (by simp) ?_
 have h1 : (32768 : Int) < t.length := by omega
 simp -implicitDefEqProofs [ac20, mm32, h1]
theorem yL (t : List UInt8) (ht : t.length ≤ 32768) (hm : ¬ (cG t).2 < 0) : Pure Tryd.prog 20 [.sl (em c_ t), limD 32768 32768 32768 32768] (resD [] 20 (cG t).2) := by
 refine fi20.pu (by simp) ?_
 have h1 : ¬ (32768 : Int) < t.length := by omega
 have h2 : (0 : Int) ≤ (cG t).2 := by omega
 have hc := wF t (by omega)
 simp -implicitDefEqProofs [ac20, mm32, h1]
 refine aH (hc) (by simp) ?_
 simp -implicitDefEqProofs [h2]
theorem tU (t : List UInt8) (ht : t.length ≤ 32768) (hm : (cG t).2 < 0) {n : Nat} (hN : n ≤ 2 ^ 40) {L : List Fn} {r : Rd} (hp : cU n [] (rd0 t 32768 32768 32768 32768) = some (L, r)) :
  Pure Tryd.prog 20 [.sl (em c_ t), limD 32768 32768 32768 32768] (if r.why = 0 then resD L 0 0 else resD [] r.why r.wh) := by
 have h1 : ¬ (32768 : Int) < t.length := by omega
 have h2 : ¬ (0 : Int) ≤ (cG t).2 := by omega
 have hc := wF t (by omega)
 have hpr := z_ hN _ (uJ (by omega) hm (by omega)) L r hp
 refine fi20.pu (by simp) ?_
 simp -implicitDefEqProofs [ac20, mm32, h1]
 refine aH (hc) (by simp) ?_
 simp -implicitDefEqProofs [h2]
 refine aD (hpr (by simp [look, aC, rd0]) (by omega) (fun m1 hm1 => ?_))
 by_cases hw : r.why = 0
 ·simp -implicitDefEqProofs [hw, aC]
 ·simp -implicitDefEqProofs [hw, aC]
end Go.Fx.YtackkeoannbnbaaDoor

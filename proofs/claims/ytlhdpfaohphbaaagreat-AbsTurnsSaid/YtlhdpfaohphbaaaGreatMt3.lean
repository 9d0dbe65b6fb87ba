/- Joined texts of this claim. No condition. -/
import Derived.Test.YtlhdpfaohphbaaaGreatMt2
set_option linter.all false
set_option maxRecDepth 1000000
set_option maxHeartbeats 0
namespace Go.Fx.YtlhdpfaohphbaaaGreat
open Go Go.Fx Go.Proofs
noncomputable def cf91 : Cfg := ⟨Tryz.prog, 13, [0, 2], []⟩
noncomputable def ac91 : AC :=
 (.seq (.reg [JP 2 (.al [JV, JU, .complex .f64 0 0, JV])]) (.seq (.reg [JA 3 0, JM 4 3, JH 5 0 4, JD 6 1 5, JA 7 0, JM 8 7, JH 9 1 8, JD 10 1 9, JL 11 4 6 10, JE 12 4 11, JQ (.st 4 (.g 2) (.t 12))]) .ret))
theorem fi91 : FI Tryz.prog 91 cf91 ac91 [.c 2 true 4] [0, 2] 13 := FI_of (c := Tryz.f91.body.getD .skip) Tryz.func91 (by kernel_rfl) (by rfl) (by rfl) (by kernel_rfl) (by kernel_rfl) rfl rfl rfl
@[simp] theorem cfP91 : cf91.P = Tryz.prog := (rfl)
noncomputable def cf120 : Cfg := ⟨Tryz.prog, 19, [0, 1], [15]⟩
noncomputable def ac120 : AC :=
 (.ifr [JA 4 0, JM 5 4, JH 6 2 5, JD 7 1 6, JO 8 (.bin .eql 3 (.t 7) (JT 0))] (.t 8) (.seq (.reg [JA 9 0, JA 10 1, JM 11 9, JH 12 2 11, JQ (.st 1 (.t 12) (.t 10))]) (.reg [JA 13 0, JA 14 0, JO 15 (.cl (.f 91) [.t 14]), JO 16 (.fld false 1 3 (.t 15)), JM 17 13, JH 18 3 17, JQ (.st 1 (.t 18) (.t 16))])) .skip)
theorem fi120 : FI Tryz.prog 120 cf120 ac120 [] [0, 1] 19 := FI_of (c := Tryz.f120.body.getD .skip) Tryz.func120 (by kernel_rfl) (by rfl) (by rfl) (by kernel_rfl) (by kernel_rfl) rfl rfl rfl
@[simp] theorem cfP120 : cf120.P = Tryz.prog := (rfl)
noncomputable def cf123 : Cfg := ⟨Tryz.prog, 29, [0, 1, 4, 5], [7]⟩
noncomputable def ac123 : AC :=
 (.seq (.reg [JP 4 (.mv JY)]) (.seq (.reg [JA 6 0, JO 7 (.cl (.f 91) [.t 6]), JP 5 (.al [JV, JU, .complex .f64 0 0, JV]), JQ (.st 4 (.g 5) (.t 7))]) (.seq (.reg [JA 8 0, JM 9 8, JH 10 2 9, JD 11 1 10, JO 12 (.bin .eql 3 (.t 11) (JT 0)), JC 13 12, JS 14 13 (.fa 0 (.g 5)), JS 15 13 (.ld false 1 (.t 14)), JS 16 13 (.bin .eql 179 (.t 15) (JT 1)), JS 17 13 (.mv (.t 16)), JR 18 17 (.fa 0 (.g 5)), JR 19 17 (.ld false 1 (.t 18)), JR 20 17 (.bin .eql 179 (.t 19) (JT 3)), JS 21 13 (.pick (.t 17) JX (.t 20)), JO 22 (.pick (.t 13) (.t 21) JY), JC 23 22, JS 24 23 (.fa 1 (.g 5)), JS 25 23 (.ld false 1 (.t 24)), JS 26 23 (.mv (.g 1)), JS 27 23 (.bin .eql 9 (.t 25) (.t 26)), JO 28 (.pick (.t 23) (.t 27) JY), JB 4 28]) .ret)))
theorem fi123 : FI Tryz.prog 123 cf123 ac123 [.t 4] [0, 1, 4, 5] 29 := FI_of (c := Tryz.f123.body.getD .skip) Tryz.func123 (by kernel_rfl) (by rfl) (by rfl) (by kernel_rfl) (by kernel_rfl) rfl rfl rfl
@[simp] theorem cfP123 : cf123.P = Tryz.prog := (rfl)
noncomputable def cf137 : Cfg := ⟨Tryz.prog, 16, [0, 1, 4], [7]⟩
noncomputable def ac137 : AC :=
 (.seq (.reg [JP 4 (.mv JY)]) (.seq (.ifr [JA 5 0, JA 6 1, JO 7 (.cl (.f 123) [.t 5, .t 6]), JO 8 (.un .not (.t 7))] (.t 8) (.seq (.reg [JP 4 (.mv JY)]) .ret) .skip) (.seq (.reg [JA 9 0, JM 10 9, JH 11 1 10, JD 12 1 11, JO 13 (.bin .add 3 (.t 12) (JT 1)), JM 14 9, JH 15 1 14, JQ (.st 1 (.t 15) (.t 13))]) (.seq (.reg [JP 4 (.mv JX)]) .ret))))
theorem fi137 : FI Tryz.prog 137 cf137 ac137 [.t 4] [0, 1, 4] 16 := FI_of (c := Tryz.f137.body.getD .skip) Tryz.func137 (by kernel_rfl) (by rfl) (by rfl) (by kernel_rfl) (by kernel_rfl) rfl rfl rfl
@[simp] theorem cfP137 : cf137.P = Tryz.prog := (rfl)
noncomputable def cf122 : Cfg := ⟨Tryz.prog, 10, [0, 1], [6, 9]⟩
noncomputable def ac122 : AC :=
 (.ifr [JA 4 0, JA 5 1, JO 6 (.cl (.f 137) [.t 4, .t 5]), JO 7 (.un .not (.t 6))] (.t 7) (.reg [JA 8 0, JO 9 (.cl (.f 120) [.t 8, .c (.int .i64 21)])]) .skip)
theorem fi122 : FI Tryz.prog 122 cf122 ac122 [] [0, 1] 10 := FI_of (c := Tryz.f122.body.getD .skip) Tryz.func122 (by kernel_rfl) (by rfl) (by rfl) (by kernel_rfl) (by kernel_rfl) rfl rfl rfl
@[simp] theorem cfP122 : cf122.P = Tryz.prog := (rfl)
noncomputable def cf121 : Cfg := ⟨Tryz.prog, 27, [0, 2, 3], [5, 17]⟩
noncomputable def ac121 : AC :=
 (.seq (.reg [JP 2 (.al [JV, JU, .complex .f64 0 0, JV])]) (.seq (.reg [JA 4 0, JO 5 (.cl (.f 91) [.t 4]), JP 3 (.al [JV, JU, .complex .f64 0 0, JV]), JQ (.st 4 (.g 3) (.t 5))]) (.seq (.ifr [JA 6 0, JM 7 6, JH 8 2 7, JD 9 1 8, JO 10 (.bin .neq 3 (.t 9) (JT 0)), JC 11 10, JR 12 11 (.fa 0 (.g 3)), JR 13 11 (.ld false 1 (.t 12)), JR 14 11 (.bin .neq 179 (.t 13) (JT 0)), JO 15 (.pick (.t 11) JX (.t 14))] (.t 15) (.seq (.reg [JA 16 0, JO 17 (.cl (.f 120) [.t 16, .c (.int .i64 21)])]) (.seq (.reg [JO 18 (.bld [JV, JU, .complex .f64 0 0, JV] []), JQ (.st 4 (.g 2) (.t 18))]) .ret)) .skip) (.seq (.reg [JA 19 0, JM 20 19, JH 21 1 20, JD 22 1 21, JO 23 (.bin .add 3 (.t 22) (JT 1)), JM 24 19, JH 25 1 24, JQ (.st 1 (.t 25) (.t 23))]) (.seq (.reg [JF 26 4 3, JQ (.st 4 (.g 2) (.t 26))]) .ret)))))
theorem fi121 : FI Tryz.prog 121 cf121 ac121 [.c 2 true 4] [0, 2, 3] 27 := FI_of (c := Tryz.f121.body.getD .skip) Tryz.func121 (by kernel_rfl) (by rfl) (by rfl) (by kernel_rfl) (by kernel_rfl) rfl rfl rfl
@[simp] theorem cfP121 : cf121.P = Tryz.prog := (rfl)
noncomputable def cf124 : Cfg := ⟨Tryz.prog, 22, [0, 2, 3, 4], [17, 21]⟩
noncomputable def lb124_0 : AC :=
 .seq (.ifr [JA 6 4, JA 7 3, JO 8 (.len false (.t 7)), JO 9 (.bin .lss 3 (.t 6) (.t 8))] (.t 9) .skip (.exit 0)) (.seq (.block 1 (.ifr [JA 12 0, JA 13 3, JA 14 4, JL 15 1 13 14, JD 16 1 15, JO 17 (.cl (.f 137) [.t 12, .t 16])] (.t 17) (.seq (.reg [JA 18 4, JO 19 (.bin .add 3 (.t 18) (JT 1)), JB 2 19]) .ret) .skip)) (.reg [JA 10 4, JO 11 (.bin .add 3 (.t 10) (JT 1)), JB 4 11]))
noncomputable def ac124 : AC :=
 (.seq (.reg [JI 2 0]) (.seq (.reg [JO 5 (.bsl 1 3 [JU] [(0, 1, .c (.string (ByteArray.mk (Array.mk [78])))), (1, 1, .c (.string (ByteArray.mk (Array.mk [66])))), (2, 1, .c (.string (ByteArray.mk (Array.mk [76]))))]), JB 3 5]) (.seq (.seq (.reg [JI 4 0]) (.block 0 (.loop lb124_0))) (.seq (.reg [JA 20 0, JO 21 (.cl (.f 120) [.t 20, .c (.int .i64 21)])]) (.seq (.reg [JI 2 0]) .ret)))))
theorem fi124 : FI Tryz.prog 124 cf124 ac124 [.t 2] [0, 2, 3, 4] 22 := FI_of (c := Tryz.f124.body.getD .skip) Tryz.func124 (by kernel_rfl) (by rfl) (by rfl) (by kernel_rfl) (by kernel_rfl) rfl rfl rfl
@[simp] theorem cfP124 : cf124.P = Tryz.prog := (rfl)
noncomputable def cf62 : Cfg := ⟨Tryz.prog, 34, [0, 2, 3, 4], [17, 26, 31]⟩
noncomputable def lb62_0 : AC :=
 .seq (.ifr [JA 5 0, JM 6 5, JH 7 2 6, JD 8 1 7, JO 9 (.bin .eql 3 (.t 8) (JT 0)), JC 10 9, JS 11 10 (.fa 0 (.g 3)), JS 12 10 (.ld false 1 (.t 11)), JS 13 10 (.len false (.t 12)), JS 14 10 (.bin .eql 3 (.t 13) (JT 0)), JS 15 10 (.mv (.t 14)), JR 16 15 (.mv (.g 0)), JR 17 15 (.cl (.f 91) [.t 16]), JR 18 15 (.fld false 1 0 (.t 17)), JR 19 15 (.bin .neq 179 (.t 18) (JT 4)), JS 20 10 (.pick (.t 15) JX (.t 19)), JO 21 (.pick (.t 10) (.t 20) JY)] (.t 21) .skip (.exit 0)) (.block 1 (.seq (.reg [JA 22 0, JG 23 0 3, JD 24 1 23, JO 25 (.len false (.t 24)), JO 26 (.cl (.f 92) [.t 22, .t 25]), JP 4 (.al [JU, JW, JV, JV, JU, JU, JV, .complex .f64 0 0, JW, JV, JV]), JQ (.st 11 (.g 4) (.t 26))]) (.reg [JG 27 0 3, JD 28 1 27, JF 29 11 4, JO 30 (.bsl 11 1 [JU, JW, JV, JV, JU, JU, JV, .complex .f64 0 0, JW, JV, JV] [(0, 11, .t 29)]), JO 31 (.app 11 152 [JU, JW, JV, JV, JU, JU, JV, .complex .f64 0 0, JW, JV, JV] (.t 28) (.t 30)), JG 32 0 3, JQ (.st 1 (.t 32) (.t 31))])))
noncomputable def ac62 : AC :=
 (.seq (.reg [JP 2 (.al [JW])]) (.seq (.reg [JP 3 (.al [JW])]) (.seq (.block 0 (.loop lb62_0)) (.seq (.reg [JF 33 1 3, JQ (.st 1 (.g 2) (.t 33))]) .ret))))
theorem fi62 : FI Tryz.prog 62 cf62 ac62 [.c 2 true 1] [0, 2, 3, 4] 34 := FI_of (c := Tryz.f62.body.getD .skip) Tryz.func62 (by kernel_rfl) (by rfl) (by rfl) (by kernel_rfl) (by kernel_rfl) rfl rfl rfl
@[simp] theorem cfP62 : cf62.P = Tryz.prog := (rfl)
noncomputable def cf92 : Cfg := ⟨Tryz.prog, 103, [0, 1, 4, 5, 6, 7, 8], [10, 23, 25, 32, 40, 48, 56, 72, 74, 76, 86, 89, 91, 93, 96, 98, 101]⟩
noncomputable def lb92_0 : AC :=
 .seq (.ifr [JA 33 0, JM 34 33, JH 35 2 34, JD 36 1 35, JO 37 (.bin .eql 3 (.t 36) (JT 0)), JC 38 37, JS 39 38 (.mv (.g 0)), JS 40 38 (.cl (.f 123) [.t 39, .c (.string (ByteArray.mk (Array.mk [41])))]), JS 41 38 (.un .not (.t 40)), JO 42 (.pick (.t 38) (.t 41) JY)] (.t 42) .skip (.exit 0)) (.block 1 (.seq (.ifr [JG 43 1 6, JD 44 1 43, JO 45 (.len false (.t 44)), JO 46 (.bin .gtr 3 (.t 45) (JT 0))] (.t 46) (.reg [JA 47 0, JO 48 (.cl (.f 122) [.t 47, .c (.string (ByteArray.mk (Array.mk [44])))])]) .skip) (.seq (.ifr [JA 49 0, JM 50 49, JH 51 2 50, JD 52 1 51, JO 53 (.bin .eql 3 (.t 52) (JT 0)), JC 54 53, JS 55 54 (.mv (.g 0)), JS 56 54 (.cl (.f 91) [.t 55]), JS 57 54 (.fld false 1 0 (.t 56)), JS 58 54 (.bin .eql 179 (.t 57) (JT 0)), JO 59 (.pick (.t 54) (.t 58) JY), JC 60 59, JS 61 60 (.fa 1 (.g 6)), JS 62 60 (.ld false 1 (.t 61)), JS 63 60 (.len false (.t 62)), JS 64 60 (.mv (.g 0)), JS 65 60 (.chk (.t 64)), JS 66 60 (.fa 4 (.t 65)), JS 67 60 (.fa 2 (.t 66)), JS 68 60 (.ld false 1 (.t 67)), JS 69 60 (.bin .geq 3 (.t 63) (.t 68)), JO 70 (.pick (.t 60) (.t 69) JY)] (.t 70) (.reg [JA 71 0, JO 72 (.cl (.f 120) [.t 71, .c (.int .i64 22)])]) .skip) (.seq (.reg [JA 73 0, JO 74 (.cl (.f 121) [.t 73]), JP 7 (.al [JV, JU, .complex .f64 0 0, JV]), JQ (.st 4 (.g 7) (.t 74))]) (.seq (.reg [JA 75 0, JO 76 (.cl (.f 124) [.t 75]), JB 8 76]) (.reg [JG 77 1 6, JD 78 1 77, JG 79 1 7, JD 80 1 79, JA 81 8, JG 82 3 7, JD 83 1 82, JO 84 (.bld [JU, JV, JV] [(0, 1, .t 80), (1, 1, .t 81), (2, 1, .t 83)]), JO 85 (.bsl 3 1 [JU, JV, JV] [(0, 3, .t 84)]), JO 86 (.app 3 32 [JU, JV, JV] (.t 78) (.t 85)), JG 87 1 6, JQ (.st 1 (.t 87) (.t 86))]))))))
noncomputable def ac92 : AC :=
 (.seq (.reg [JP 4 (.al [JU, JW, JV, JV, JU, JU, JV, .complex .f64 0 0, JW, JV, JV])]) (.seq (.ifr [JA 9 0, JO 10 (.cl (.f 91) [.t 9]), JO 11 (.fld false 1 0 (.t 10)), JO 12 (.bin .eql 179 (.t 11) (JT 0)), JC 13 12, JS 14 13 (.mv (.g 1)), JS 15 13 (.mv (.g 0)), JS 16 13 (.chk (.t 15)), JS 17 13 (.fa 4 (.t 16)), JS 18 13 (.fa 1 (.t 17)), JS 19 13 (.ld false 1 (.t 18)), JS 20 13 (.bin .geq 3 (.t 14) (.t 19)), JO 21 (.pick (.t 13) (.t 20) JY)] (.t 21) (.reg [JA 22 0, JO 23 (.cl (.f 120) [.t 22, .c (.int .i64 22)])]) .skip) (.seq (.reg [JA 24 0, JO 25 (.cl (.f 121) [.t 24]), JP 5 (.al [JV, JU, .complex .f64 0 0, JV]), JQ (.st 4 (.g 5) (.t 25))]) (.seq (.reg [JG 26 1 5, JD 27 1 26, JG 28 3 5, JD 29 1 28, JO 30 (.bld [JU, JW, JV, JV, JU, JU, JV, .complex .f64 0 0, JW, JV, JV] [(0, 1, .t 27), (10, 1, .t 29)]), JP 6 (.al [JU, JW, JV, JV, JU, JU, JV, .complex .f64 0 0, JW, JV, JV]), JQ (.st 11 (.g 6) (.t 30))]) (.seq (.reg [JA 31 0, JO 32 (.cl (.f 122) [.t 31, .c (.string (ByteArray.mk (Array.mk [40])))])]) (.seq (.block 0 (.loop lb92_0)) (.seq (.reg [JA 88 0, JO 89 (.cl (.f 122) [.t 88, .c (.string (ByteArray.mk (Array.mk [41])))])]) (.seq (.reg [JA 90 0, JO 91 (.cl (.f 122) [.t 90, .c (.string (ByteArray.mk (Array.mk [58])))])]) (.seq (.reg [JA 92 0, JO 93 (.cl (.f 124) [.t 92]), JG 94 2 6, JQ (.st 1 (.t 94) (.t 93))]) (.seq (.reg [JA 95 0, JO 96 (.cl (.f 122) [.t 95, .c (.string (ByteArray.mk (Array.mk [61])))])]) (.seq (.reg [JA 97 0, JO 98 (.cl (.f 125) [.t 97]), JG 99 3 6, JQ (.st 7 (.t 99) (.t 98))]) (.seq (.reg [JA 100 0, JO 101 (.cl (.f 122) [.t 100, .c (.string (ByteArray.mk (Array.mk [59])))])]) (.seq (.reg [JF 102 11 6, JQ (.st 11 (.g 4) (.t 102))]) .ret)))))))))))))
theorem fi92 : FI Tryz.prog 92 cf92 ac92 [.c 4 true 11] [0, 1, 4, 5, 6, 7, 8] 103 := FI_of (c := Tryz.f92.body.getD .skip) Tryz.func92 (by kernel_rfl) (by rfl) (by rfl) (by kernel_rfl) (by kernel_rfl) rfl rfl rfl
@[simp] theorem cfP92 : cf92.P = Tryz.prog := (rfl)
noncomputable def cf125 : Cfg := ⟨Tryz.prog, 106, [0, 2, 3, 4, 5, 6, 68], [8, 10, 13, 17, 33, 44, 48, 75, 80, 84, 91, 96]⟩
noncomputable def ac125 : AC :=
 (.seq (.reg [JP 2 (.al [JV, JU, JU, JV, .complex .f64 0 0, JW, JV])]) (.seq (.reg [JA 7 0, JO 8 (.cl (.f 91) [.t 7]), JP 3 (.al [JV, JU, .complex .f64 0 0, JV]), JQ (.st 4 (.g 3) (.t 8))]) (.seq (.reg [JA 9 0, JO 10 (.cl (.f 123) [.t 9, .c (.string (ByteArray.mk (Array.mk [108, 101, 116])))]), JC 11 10, JR 12 11 (.mv (.g 0)), JR 13 11 (.cl (.f 123) [.t 12, .c (.string (ByteArray.mk (Array.mk [115, 116, 114, 105, 99, 116])))]), JO 14 (.pick (.t 11) JX (.t 13)), JC 15 14, JR 16 15 (.mv (.g 0)), JR 17 15 (.cl (.f 123) [.t 16, .c (.string (ByteArray.mk (Array.mk [99, 97, 115, 101])))]), JO 18 (.pick (.t 15) JX (.t 17)), JB 4 18]) (.seq (.ifr [JA 19 4, JC 20 19, JS 21 20 (.mv (.g 0)), JS 22 20 (.chk (.t 21)), JS 23 20 (.fa 8 (.t 22)), JS 24 20 (.ld false 1 (.t 23)), JS 25 20 (.mv (.g 0)), JS 26 20 (.chk (.t 25)), JS 27 20 (.fa 4 (.t 26)), JS 28 20 (.fa 3 (.t 27)), JS 29 20 (.ld false 1 (.t 28)), JS 30 20 (.bin .geq 3 (.t 24) (.t 29)), JO 31 (.pick (.t 20) (.t 30) JY)] (.t 31) (.reg [JA 32 0, JO 33 (.cl (.f 120) [.t 32, .c (.int .i64 23)])]) .skip) (.seq (.ifr [JA 34 0, JM 35 34, JH 36 2 35, JD 37 1 36, JO 38 (.bin .neq 3 (.t 37) (JT 0))] (.t 38) (.seq (.reg [JO 39 (.bld [JV, JU, JU, JV, .complex .f64 0 0, JW, JV] []), JQ (.st 7 (.g 2) (.t 39))]) .ret) .skip) (.seq (.ifr [JA 40 4, JO 41 (.un .not (.t 40)), JC 42 41, JS 43 42 (.mv (.g 0)), JS 44 42 (.cl (.f 123) [.t 43, .c (.string (ByteArray.mk (Array.mk [105, 102])))]), JS 45 42 (.un .not (.t 44)), JO 46 (.pick (.t 42) (.t 45) JY)] (.t 46) (.seq (.reg [JA 47 0, JO 48 (.cl (.f 138) [.t 47]), JQ (.st 7 (.g 2) (.t 48))]) .ret) .skip) (.seq (.ifr [JA 49 4] (.t 49) (.reg [JA 50 0, JM 51 50, JH 52 8 51, JD 53 1 52, JO 54 (.bin .add 3 (.t 53) (JT 1)), JM 55 50, JH 56 8 55, JQ (.st 1 (.t 56) (.t 54))]) .skip) (.seq (.reg [JA 57 0, JM 58 57, JH 59 1 58, JD 60 1 59, JO 61 (.bin .add 3 (.t 60) (JT 1)), JM 62 57, JH 63 1 62, JQ (.st 1 (.t 63) (.t 61))]) (.seq (.reg [JG 64 3 3, JD 65 1 64, JO 66 (.bld [JV, JU, JU, JV, .complex .f64 0 0, JW, JV] [(6, 1, .t 65)]), JP 5 (.al [JV, JU, JU, JV, .complex .f64 0 0, JW, JV]), JQ (.st 7 (.g 5) (.t 66))]) (.seq (.seq (.reg [JG 67 1 3, JP 68 (.ld false 1 (.t 67))]) (.block 0 (.ifr [JO 87 (.bin .eql 9 (.g 68) (.c (.string (ByteArray.mk (Array.mk [105, 102]))))), JC 86 87] (.t 86) (.seq (.reg [JG 88 0 5, JQ (.st 1 (.t 88) (JT 19))]) (.reg [JA 89 0, JO 90 (.bsl 1 3 [JU] [(0, 1, .c (JU)), (1, 1, .c (.string (ByteArray.mk (Array.mk [116, 104, 101, 110])))), (2, 1, .c (.string (ByteArray.mk (Array.mk [101, 108, 115, 101]))))]), JO 91 (.cl (.f 139) [.t 89, .t 90]), JG 92 5 5, JQ (.st 1 (.t 92) (.t 91))])) (.ifr [JO 94 (.bin .eql 9 (.g 68) (.c (.string (ByteArray.mk (Array.mk [99, 97, 115, 101]))))), JC 93 94] (.t 93) (.reg [JA 95 0, JO 96 (.cl (.f 140) [.t 95, .g 5])]) (.seq (.reg [JG 69 0 5, JQ (.st 1 (.t 69) (JT 21))]) (.seq (.ifr [JG 70 1 3, JD 71 1 70, JO 72 (.bin .eql 9 (.t 71) (.c (.string (ByteArray.mk (Array.mk [115, 116, 114, 105, 99, 116])))))] (.t 72) (.reg [JG 73 0 5, JQ (.st 1 (.t 73) (JT 22))]) .skip) (.seq (.reg [JA 74 0, JO 75 (.cl (.f 121) [.t 74]), JP 6 (.al [JV, JU, .complex .f64 0 0, JV]), JQ (.st 4 (.g 6) (.t 75))]) (.seq (.reg [JG 76 1 6, JD 77 1 76, JG 78 1 5, JQ (.st 1 (.t 78) (.t 77))]) (.seq (.reg [JA 79 0, JO 80 (.cl (.f 124) [.t 79]), JG 81 3 5, JQ (.st 1 (.t 81) (.t 80))]) (.reg [JA 82 0, JO 83 (.bsl 1 2 [JU] [(0, 1, .c (.string (ByteArray.mk (Array.mk [61])))), (1, 1, .c (.string (ByteArray.mk (Array.mk [105, 110]))))]), JO 84 (.cl (.f 139) [.t 82, .t 83]), JG 85 5 5, JQ (.st 1 (.t 85) (.t 84))])))))))))) (.seq (.ifr [JA 97 4] (.t 97) (.reg [JA 98 0, JM 99 98, JH 100 8 99, JD 101 1 100, JO 102 (.bin .sub 3 (.t 101) (JT 1)), JM 103 98, JH 104 8 103, JQ (.st 1 (.t 104) (.t 102))]) .skip) (.seq (.reg [JF 105 7 5, JQ (.st 7 (.g 2) (.t 105))]) .ret))))))))))))
theorem fi125 : FI Tryz.prog 125 cf125 ac125 [.c 2 true 7] [0, 2, 3, 4, 5, 6, 68] 106 := FI_of (c := Tryz.f125.body.getD .skip) Tryz.func125 (by kernel_rfl) (by rfl) (by rfl) (by kernel_rfl) (by kernel_rfl) rfl rfl rfl
@[simp] theorem cfP125 : cf125.P = Tryz.prog := (rfl)
noncomputable def cf139 : Cfg := ⟨Tryz.prog, 32, [0, 1, 4, 5, 6, 7], [24, 26, 30]⟩
noncomputable def lb139_0 : AC :=
 .seq (.ifr [JA 8 6, JA 9 1, JO 10 (.len false (.t 9)), JO 11 (.bin .lss 3 (.t 8) (.t 10))] (.t 11) .skip (.exit 0)) (.seq (.block 1 (.seq (.ifr [JA 14 1, JA 15 6, JL 16 1 14 15, JD 17 1 16, JO 18 (.bin .neq 9 (.t 17) (.c (JU)))] (.t 18) (.reg [JA 19 0, JA 20 1, JA 21 6, JL 22 1 20 21, JD 23 1 22, JO 24 (.cl (.f 122) [.t 19, .t 23])]) .skip) (.seq (.reg [JA 25 0, JO 26 (.cl (.f 125) [.t 25]), JP 7 (.al [JV, JU, JU, JV, .complex .f64 0 0, JW, JV]), JQ (.st 7 (.g 7) (.t 26))]) (.reg [JA 27 5, JF 28 7 7, JO 29 (.bsl 7 1 [JV, JU, JU, JV, .complex .f64 0 0, JW, JV] [(0, 7, .t 28)]), JO 30 (.app 7 96 [JV, JU, JU, JV, .complex .f64 0 0, JW, JV] (.t 27) (.t 29)), JB 5 30])))) (.reg [JA 12 6, JO 13 (.bin .add 3 (.t 12) (JT 1)), JB 6 13]))
noncomputable def ac139 : AC :=
 (.seq (.reg [JP 4 (.mv (.c (.slice none 0 0)))]) (.seq (.reg [JP 5 (.mv (.c (.slice none 0 0)))]) (.seq (.seq (.reg [JI 6 0]) (.block 0 (.loop lb139_0))) (.seq (.reg [JA 31 5, JB 4 31]) .ret))))
theorem fi139 : FI Tryz.prog 139 cf139 ac139 [.t 4] [0, 1, 4, 5, 6, 7] 32 := FI_of (c := Tryz.f139.body.getD .skip) Tryz.func139 (by kernel_rfl) (by rfl) (by rfl) (by kernel_rfl) (by kernel_rfl) rfl rfl rfl
@[simp] theorem cfP139 : cf139.P = Tryz.prog := (rfl)
noncomputable def cf140 : Cfg := ⟨Tryz.prog, 51, [0, 1, 4, 5, 6, 7, 8], [13, 15, 17, 19, 21, 23, 25, 27, 29, 31, 33]⟩
noncomputable def ac140 : AC :=
 (.seq (.reg [JA 9 1, JM 10 9, JH 11 0 10, JQ (.st 1 (.t 11) (JT 20))]) (.seq (.reg [JA 12 0, JO 13 (.cl (.f 125) [.t 12]), JP 4 (.al [JV, JU, JU, JV, .complex .f64 0 0, JW, JV]), JQ (.st 7 (.g 4) (.t 13))]) (.seq (.reg [JA 14 0, JO 15 (.cl (.f 122) [.t 14, .c (.string (ByteArray.mk (Array.mk [111, 102])))])]) (.seq (.reg [JA 16 0, JO 17 (.cl (.f 122) [.t 16, .c (.string (ByteArray.mk (Array.mk [110, 105, 108])))])]) (.seq (.reg [JA 18 0, JO 19 (.cl (.f 122) [.t 18, .c (.string (ByteArray.mk (Array.mk [45, 62])))])]) (.seq (.reg [JA 20 0, JO 21 (.cl (.f 125) [.t 20]), JP 5 (.al [JV, JU, JU, JV, .complex .f64 0 0, JW, JV]), JQ (.st 7 (.g 5) (.t 21))]) (.seq (.reg [JA 22 0, JO 23 (.cl (.f 122) [.t 22, .c (.string (ByteArray.mk (Array.mk [124])))])]) (.seq (.reg [JA 24 0, JO 25 (.cl (.f 121) [.t 24]), JP 6 (.al [JV, JU, .complex .f64 0 0, JV]), JQ (.st 4 (.g 6) (.t 25))]) (.seq (.reg [JA 26 0, JO 27 (.cl (.f 122) [.t 26, .c (.string (ByteArray.mk (Array.mk [58])))])]) (.seq (.reg [JA 28 0, JO 29 (.cl (.f 121) [.t 28]), JP 7 (.al [JV, JU, .complex .f64 0 0, JV]), JQ (.st 4 (.g 7) (.t 29))]) (.seq (.reg [JA 30 0, JO 31 (.cl (.f 122) [.t 30, .c (.string (ByteArray.mk (Array.mk [45, 62])))])]) (.seq (.reg [JA 32 0, JO 33 (.cl (.f 125) [.t 32]), JP 8 (.al [JV, JU, JU, JV, .complex .f64 0 0, JW, JV]), JQ (.st 7 (.g 8) (.t 33))]) (.seq (.reg [JA 34 1, JG 35 1 6, JD 36 1 35, JM 37 34, JH 38 1 37, JQ (.st 1 (.t 38) (.t 36))]) (.seq (.reg [JA 39 1, JG 40 1 7, JD 41 1 40, JM 42 39, JH 43 2 42, JQ (.st 1 (.t 43) (.t 41))]) (.reg [JA 44 1, JF 45 7 4, JF 46 7 5, JF 47 7 8, JO 48 (.bsl 7 3 [JV, JU, JU, JV, .complex .f64 0 0, JW, JV] [(0, 7, .t 45), (7, 7, .t 46), (14, 7, .t 47)]), JM 49 44, JH 50 5 49, JQ (.st 1 (.t 50) (.t 48))])))))))))))))))
theorem fi140 : FI Tryz.prog 140 cf140 ac140 [] [0, 1, 4, 5, 6, 7, 8] 51 := FI_of (c := Tryz.f140.body.getD .skip) Tryz.func140 (by kernel_rfl) (by rfl) (by rfl) (by kernel_rfl) (by kernel_rfl) rfl rfl rfl
@[simp] theorem cfP140 : cf140.P = Tryz.prog := (rfl)
noncomputable def cf144 : Cfg := ⟨Tryz.prog, 16, [0, 1, 2, 3, 5, 6, 7, 8], []⟩
noncomputable def ac144 : AC :=
 (.seq (.reg [JN 5 1, JN 6 2, JN 7 3, JP 8 (.al [JV, JU, JU, JV, .complex .f64 0 0, JW, JV])]) (.seq (.reg [JA 9 0, JF 10 7 5, JF 11 7 6, JO 12 (.bsl 7 2 [JV, JU, JU, JV, .complex .f64 0 0, JW, JV] [(0, 7, .t 10), (7, 7, .t 11)]), JG 13 3 7, JD 14 1 13, JO 15 (.bld [JV, JU, JU, JV, .complex .f64 0 0, JW, JV] [(0, 1, .t 9), (5, 1, .t 12), (6, 1, .t 14)]), JQ (.st 7 (.g 8) (.t 15))]) .ret))
theorem fi144 : FI Tryz.prog 144 cf144 ac144 [.c 8 true 7] [0, 1, 2, 3, 5, 6, 7, 8] 16 := FI_of (c := Tryz.f144.body.getD .skip) Tryz.func144 (by kernel_rfl) (by rfl) (by rfl) (by kernel_rfl) (by kernel_rfl) rfl rfl rfl
@[simp] theorem cfP144 : cf144.P = Tryz.prog := (rfl)
noncomputable def cf138 : Cfg := ⟨Tryz.prog, 20, [0, 2, 3, 4, 5], [7, 9, 11, 15]⟩
noncomputable def ac138 : AC :=
 (.seq (.reg [JP 2 (.al [JV, JU, JU, JV, .complex .f64 0 0, JW, JV])]) (.seq (.reg [JA 6 0, JO 7 (.cl (.f 143) [.t 6]), JP 3 (.al [JV, JU, JU, JV, .complex .f64 0 0, JW, JV]), JQ (.st 7 (.g 3) (.t 7))]) (.seq (.reg [JA 8 0, JO 9 (.cl (.f 91) [.t 8]), JP 4 (.al [JV, JU, .complex .f64 0 0, JV]), JQ (.st 4 (.g 4) (.t 9))]) (.seq (.ifr [JA 10 0, JO 11 (.cl (.f 137) [.t 10, .c (.string (ByteArray.mk (Array.mk [58])))]), JO 12 (.un .not (.t 11))] (.t 12) (.seq (.reg [JF 13 7 3, JQ (.st 7 (.g 2) (.t 13))]) .ret) .skip) (.seq (.reg [JA 14 0, JO 15 (.cl (.f 138) [.t 14]), JP 5 (.al [JV, JU, JU, JV, .complex .f64 0 0, JW, JV]), JQ (.st 7 (.g 5) (.t 15))]) (.seq (.reg [JF 16 7 3, JF 17 7 5, JF 18 4 4, JO 19 (.pc (.f 144) [.c (.int .i64 18), .t 16, .t 17, .t 18]), JQ (.st 7 (.g 2) (.t 19))]) .ret))))))
theorem fi138 : FI Tryz.prog 138 cf138 ac138 [.c 2 true 7] [0, 2, 3, 4, 5] 20 := FI_of (c := Tryz.f138.body.getD .skip) Tryz.func138 (by kernel_rfl) (by rfl) (by rfl) (by kernel_rfl) (by kernel_rfl) rfl rfl rfl
@[simp] theorem cfP138 : cf138.P = Tryz.prog := (rfl)
noncomputable def cf143 : Cfg := ⟨Tryz.prog, 29, [0, 2, 3, 4, 5, 6], [8, 10, 12, 14, 18, 23]⟩
noncomputable def ac143 : AC :=
 (.seq (.reg [JP 2 (.al [JV, JU, JU, JV, .complex .f64 0 0, JW, JV])]) (.seq (.reg [JA 7 0, JO 8 (.cl (.f 145) [.t 7]), JP 3 (.al [JV, JU, JU, JV, .complex .f64 0 0, JW, JV]), JQ (.st 7 (.g 3) (.t 8))]) (.seq (.reg [JA 9 0, JO 10 (.cl (.f 91) [.t 9]), JP 4 (.al [JV, JU, .complex .f64 0 0, JV]), JQ (.st 4 (.g 4) (.t 10))]) (.seq (.reg [JI 5 12]) (.seq (.ifr [JA 11 0, JO 12 (.cl (.f 123) [.t 11, .c (.string (ByteArray.mk (Array.mk [60])))])] (.t 12) (.reg [JI 5 13]) .skip) (.seq (.ifr [JA 13 0, JO 14 (.cl (.f 137) [.t 13, .c (.string (ByteArray.mk (Array.mk [61, 61])))]), JO 15 (.un .not (.t 14)), JC 16 15, JS 17 16 (.mv (.g 0)), JS 18 16 (.cl (.f 137) [.t 17, .c (.string (ByteArray.mk (Array.mk [60])))]), JS 19 16 (.un .not (.t 18)), JO 20 (.pick (.t 16) (.t 19) JY)] (.t 20) (.seq (.reg [JF 21 7 3, JQ (.st 7 (.g 2) (.t 21))]) .ret) .skip) (.seq (.reg [JA 22 0, JO 23 (.cl (.f 145) [.t 22]), JP 6 (.al [JV, JU, JU, JV, .complex .f64 0 0, JW, JV]), JQ (.st 7 (.g 6) (.t 23))]) (.seq (.reg [JA 24 5, JF 25 7 3, JF 26 7 6, JF 27 4 4, JO 28 (.pc (.f 144) [.t 24, .t 25, .t 26, .t 27]), JQ (.st 7 (.g 2) (.t 28))]) .ret))))))))
theorem fi143 : FI Tryz.prog 143 cf143 ac143 [.c 2 true 7] [0, 2, 3, 4, 5, 6] 29 := FI_of (c := Tryz.f143.body.getD .skip) Tryz.func143 (by kernel_rfl) (by rfl) (by rfl) (by kernel_rfl) (by kernel_rfl) rfl rfl rfl
@[simp] theorem cfP143 : cf143.P = Tryz.prog := (rfl)
noncomputable def cf145 : Cfg := ⟨Tryz.prog, 35, [0, 2, 3, 4, 5, 6], [8, 10, 13, 16, 25]⟩
noncomputable def lb145_0 : AC :=
 .seq (.ifr [JA 9 0, JO 10 (.cl (.f 123) [.t 9, .c (.string (ByteArray.mk (Array.mk [43])))]), JC 11 10, JR 12 11 (.mv (.g 0)), JR 13 11 (.cl (.f 123) [.t 12, .c (.string (ByteArray.mk (Array.mk [45])))]), JO 14 (.pick (.t 11) JX (.t 13))] (.t 14) .skip (.exit 0)) (.block 1 (.seq (.reg [JA 15 0, JO 16 (.cl (.f 91) [.t 15]), JP 4 (.al [JV, JU, .complex .f64 0 0, JV]), JQ (.st 4 (.g 4) (.t 16))]) (.seq (.reg [JA 17 0, JM 18 17, JH 19 1 18, JD 20 1 19, JO 21 (.bin .add 3 (.t 20) (JT 1)), JM 22 17, JH 23 1 22, JQ (.st 1 (.t 23) (.t 21))]) (.seq (.reg [JA 24 0, JO 25 (.cl (.f 146) [.t 24]), JP 5 (.al [JV, JU, JU, JV, .complex .f64 0 0, JW, JV]), JQ (.st 7 (.g 5) (.t 25))]) (.seq (.reg [JI 6 8]) (.seq (.ifr [JG 26 1 4, JD 27 1 26, JO 28 (.bin .eql 9 (.t 27) (.c (.string (ByteArray.mk (Array.mk [45])))))] (.t 28) (.reg [JI 6 9]) .skip) (.reg [JA 29 6, JF 30 7 3, JF 31 7 5, JF 32 4 4, JO 33 (.pc (.f 144) [.t 29, .t 30, .t 31, .t 32]), JQ (.st 7 (.g 3) (.t 33))])))))))
noncomputable def ac145 : AC :=
 (.seq (.reg [JP 2 (.al [JV, JU, JU, JV, .complex .f64 0 0, JW, JV])]) (.seq (.reg [JA 7 0, JO 8 (.cl (.f 146) [.t 7]), JP 3 (.al [JV, JU, JU, JV, .complex .f64 0 0, JW, JV]), JQ (.st 7 (.g 3) (.t 8))]) (.seq (.block 0 (.loop lb145_0)) (.seq (.reg [JF 34 7 3, JQ (.st 7 (.g 2) (.t 34))]) .ret))))
theorem fi145 : FI Tryz.prog 145 cf145 ac145 [.c 2 true 7] [0, 2, 3, 4, 5, 6] 35 := FI_of (c := Tryz.f145.body.getD .skip) Tryz.func145 (by kernel_rfl) (by rfl) (by rfl) (by kernel_rfl) (by kernel_rfl) rfl rfl rfl
@[simp] theorem cfP145 : cf145.P = Tryz.prog := (rfl)
noncomputable def cf146 : Cfg := ⟨Tryz.prog, 35, [0, 2, 3, 4, 5, 6], [8, 10, 13, 16, 25]⟩
noncomputable def lb146_0 : AC :=
 .seq (.ifr [JA 9 0, JO 10 (.cl (.f 123) [.t 9, .c (.string (ByteArray.mk (Array.mk [42])))]), JC 11 10, JR 12 11 (.mv (.g 0)), JR 13 11 (.cl (.f 123) [.t 12, .c (.string (ByteArray.mk (Array.mk [47])))]), JO 14 (.pick (.t 11) JX (.t 13))] (.t 14) .skip (.exit 0)) (.block 1 (.seq (.reg [JA 15 0, JO 16 (.cl (.f 91) [.t 15]), JP 4 (.al [JV, JU, .complex .f64 0 0, JV]), JQ (.st 4 (.g 4) (.t 16))]) (.seq (.reg [JA 17 0, JM 18 17, JH 19 1 18, JD 20 1 19, JO 21 (.bin .add 3 (.t 20) (JT 1)), JM 22 17, JH 23 1 22, JQ (.st 1 (.t 23) (.t 21))]) (.seq (.reg [JA 24 0, JO 25 (.cl (.f 147) [.t 24]), JP 5 (.al [JV, JU, JU, JV, .complex .f64 0 0, JW, JV]), JQ (.st 7 (.g 5) (.t 25))]) (.seq (.reg [JI 6 10]) (.seq (.ifr [JG 26 1 4, JD 27 1 26, JO 28 (.bin .eql 9 (.t 27) (.c (.string (ByteArray.mk (Array.mk [47])))))] (.t 28) (.reg [JI 6 11]) .skip) (.reg [JA 29 6, JF 30 7 3, JF 31 7 5, JF 32 4 4, JO 33 (.pc (.f 144) [.t 29, .t 30, .t 31, .t 32]), JQ (.st 7 (.g 3) (.t 33))])))))))
noncomputable def ac146 : AC :=
 (.seq (.reg [JP 2 (.al [JV, JU, JU, JV, .complex .f64 0 0, JW, JV])]) (.seq (.reg [JA 7 0, JO 8 (.cl (.f 147) [.t 7]), JP 3 (.al [JV, JU, JU, JV, .complex .f64 0 0, JW, JV]), JQ (.st 7 (.g 3) (.t 8))]) (.seq (.block 0 (.loop lb146_0)) (.seq (.reg [JF 34 7 3, JQ (.st 7 (.g 2) (.t 34))]) .ret))))
theorem fi146 : FI Tryz.prog 146 cf146 ac146 [.c 2 true 7] [0, 2, 3, 4, 5, 6] 35 := FI_of (c := Tryz.f146.body.getD .skip) Tryz.func146 (by kernel_rfl) (by rfl) (by rfl) (by kernel_rfl) (by kernel_rfl) rfl rfl rfl
@[simp] theorem cfP146 : cf146.P = Tryz.prog := (rfl)
noncomputable def cf149 : Cfg := ⟨Tryz.prog, 20, [0, 2, 3], []⟩
noncomputable def ac149 : AC :=
 (.seq (.reg [JI 2 0]) (.seq (.seq (.reg [JP 3 (.mv (.g 0))]) (.block 0 (.ifr [JO 5 (.bin .eql 9 (.g 3) (.c (.string (ByteArray.mk (Array.mk [116, 114, 117, 101]))))), JC 4 5] (.t 4) (.seq (.reg [JI 2 2]) .ret) (.ifr [JO 7 (.bin .eql 9 (.g 3) (.c (.string (ByteArray.mk (Array.mk [102, 97, 108, 115, 101]))))), JC 6 7] (.t 6) (.seq (.reg [JI 2 3]) .ret) (.ifr [JO 9 (.bin .eql 9 (.g 3) (.c (.string (ByteArray.mk (Array.mk [110, 105, 108]))))), JC 8 9] (.t 8) (.seq (.reg [JI 2 4]) .ret) (.ifr [JO 11 (.bin .eql 9 (.g 3) (.c (.string (ByteArray.mk (Array.mk [102, 97, 105, 108]))))), JC 10 11] (.t 10) (.seq (.reg [JI 2 5]) .ret) (.ifr [JO 13 (.bin .eql 9 (.g 3) (.c (.string (ByteArray.mk (Array.mk [110, 111, 116]))))), JC 12 13] (.t 12) (.seq (.reg [JI 2 14]) .ret) (.ifr [JO 15 (.bin .eql 9 (.g 3) (.c (.string (ByteArray.mk (Array.mk [114, 101]))))), JC 14 15] (.t 14) (.seq (.reg [JI 2 15]) .ret) (.ifr [JO 17 (.bin .eql 9 (.g 3) (.c (.string (ByteArray.mk (Array.mk [105, 109]))))), JC 16 17] (.t 16) (.seq (.reg [JI 2 16]) .ret) (.ifr [JO 19 (.bin .eql 9 (.g 3) (.c (.string (ByteArray.mk (Array.mk [99, 111, 110, 106]))))), JC 18 19] (.t 18) (.seq (.reg [JI 2 17]) .ret) .skip)))))))))) (.seq (.reg [JI 2 0]) .ret)))
theorem fi149 : FI Tryz.prog 149 cf149 ac149 [.t 2] [0, 2, 3] 20 := FI_of (c := Tryz.f149.body.getD .skip) Tryz.func149 (by kernel_rfl) (by rfl) (by rfl) (by kernel_rfl) (by kernel_rfl) rfl rfl rfl
@[simp] theorem cfP149 : cf149.P = Tryz.prog := (rfl)
noncomputable def cf147 : Cfg := ⟨Tryz.prog, 101, [0, 2, 3, 4, 5, 6, 80, 86], [8, 44, 47, 49, 51, 64, 84, 92, 94, 96]⟩
noncomputable def ac147 : AC :=
 (.seq (.reg [JP 2 (.al [JV, JU, JU, JV, .complex .f64 0 0, JW, JV])]) (.seq (.reg [JA 7 0, JO 8 (.cl (.f 91) [.t 7]), JP 3 (.al [JV, JU, .complex .f64 0 0, JV]), JQ (.st 4 (.g 3) (.t 8))]) (.seq (.ifr [JA 9 0, JM 10 9, JH 11 2 10, JD 12 1 11, JO 13 (.bin .neq 3 (.t 12) (JT 0))] (.t 13) (.seq (.reg [JO 14 (.bld [JV, JU, JU, JV, .complex .f64 0 0, JW, JV] []), JQ (.st 7 (.g 2) (.t 14))]) .ret) .skip) (.seq (.block 0 (.ifr [JG 16 0 3, JD 17 1 16, JO 18 (.bin .eql 179 (.t 17) (JT 2)), JC 15 18] (.t 15) (.seq (.reg [JA 19 0, JM 20 19, JH 21 1 20, JD 22 1 21, JO 23 (.bin .add 3 (.t 22) (JT 1)), JM 24 19, JH 25 1 24, JQ (.st 1 (.t 25) (.t 23))]) (.seq (.reg [JG 26 2 3, JD 27 1 26, JG 28 3 3, JD 29 1 28, JO 30 (.bld [JV, JU, JU, JV, .complex .f64 0 0, JW, JV] [(0, 1, .c (.int .i64 1)), (4, 1, .t 27), (6, 1, .t 29)]), JQ (.st 7 (.g 2) (.t 30))]) .ret)) (.ifr [JG 32 0 3, JD 33 1 32, JO 34 (.bin .eql 179 (.t 33) (JT 0)), JC 31 34] (.t 31) (.seq (.reg [JA 35 0, JM 36 35, JH 37 1 36, JD 38 1 37, JO 39 (.bin .add 3 (.t 38) (JT 1)), JM 40 35, JH 41 1 40, JQ (.st 1 (.t 41) (.t 39))]) (.seq (.reg [JA 42 0, JF 43 4 3, JO 44 (.cl (.f 148) [.t 42, .t 43]), JQ (.st 7 (.g 2) (.t 44))]) .ret)) (.ifr [JA 46 0, JO 47 (.cl (.f 137) [.t 46, .c (.string (ByteArray.mk (Array.mk [40])))]), JC 45 47] (.t 45) (.seq (.reg [JA 48 0, JO 49 (.cl (.f 125) [.t 48]), JP 4 (.al [JV, JU, JU, JV, .complex .f64 0 0, JW, JV]), JQ (.st 7 (.g 4) (.t 49))]) (.seq (.reg [JA 50 0, JO 51 (.cl (.f 122) [.t 50, .c (.string (ByteArray.mk (Array.mk [41])))])]) (.seq (.reg [JF 52 7 4, JQ (.st 7 (.g 2) (.t 52))]) .ret))) (.ifr [JG 54 0 3, JD 55 1 54, JO 56 (.bin .neq 179 (.t 55) (JT 1)), JC 57 56, JR 58 57 (.fa 1 (.g 3)), JR 59 57 (.ld false 1 (.t 58)), JR 60 57 (.pc (.f 149) [.t 59]), JR 61 57 (.bin .eql 40 (.t 60) (JT 0)), JO 62 (.pick (.t 57) JX (.t 61)), JC 53 62] (.t 53) (.seq (.reg [JA 63 0, JO 64 (.cl (.f 120) [.t 63, .c (.int .i64 21)])]) (.seq (.reg [JO 65 (.bld [JV, JU, JU, JV, .complex .f64 0 0, JW, JV] []), JQ (.st 7 (.g 2) (.t 65))]) .ret)) .skip))))) (.seq (.reg [JA 66 0, JM 67 66, JH 68 1 67, JD 69 1 68, JO 70 (.bin .add 3 (.t 69) (JT 1)), JM 71 66, JH 72 1 71, JQ (.st 1 (.t 72) (.t 70))]) (.seq (.reg [JG 73 1 3, JD 74 1 73, JO 75 (.pc (.f 149) [.t 74]), JG 76 3 3, JD 77 1 76, JO 78 (.bld [JV, JU, JU, JV, .complex .f64 0 0, JW, JV] [(0, 1, .t 75), (6, 1, .t 77)]), JP 5 (.al [JV, JU, JU, JV, .complex .f64 0 0, JW, JV]), JQ (.st 7 (.g 5) (.t 78))]) (.seq (.seq (.reg [JG 79 0 5, JP 80 (.ld false 1 (.t 79))]) (.block 1 (.ifr [JO 82 (.bin .eql 40 (.g 80) (JT 5)), JC 81 82] (.t 81) (.reg [JA 83 0, JO 84 (.cl (.f 124) [.t 83]), JG 85 3 5, JQ (.st 1 (.t 85) (.t 84))]) (.seq (.ifr [JO 87 (.bin .eql 40 (.g 80) (JT 14)), JB 86 87] (.g 86) .skip (.ifr [JO 88 (.bin .eql 40 (.g 80) (JT 15)), JB 86 88] (.g 86) .skip (.ifr [JO 89 (.bin .eql 40 (.g 80) (JT 16)), JB 86 89] (.g 86) .skip (.reg [JO 90 (.bin .eql 40 (.g 80) (JT 17)), JB 86 90])))) (.cond (.g 86) (.seq (.reg [JA 91 0, JO 92 (.cl (.f 122) [.t 91, .c (.string (ByteArray.mk (Array.mk [40])))])]) (.seq (.reg [JA 93 0, JO 94 (.cl (.f 125) [.t 93]), JP 6 (.al [JV, JU, JU, JV, .complex .f64 0 0, JW, JV]), JQ (.st 7 (.g 6) (.t 94))]) (.seq (.reg [JA 95 0, JO 96 (.cl (.f 122) [.t 95, .c (.string (ByteArray.mk (Array.mk [41])))])]) (.reg [JF 97 7 6, JO 98 (.bsl 7 1 [JV, JU, JU, JV, .complex .f64 0 0, JW, JV] [(0, 7, .t 97)]), JG 99 5 5, JQ (.st 1 (.t 99) (.t 98))])))) .skip))))) (.seq (.reg [JF 100 7 5, JQ (.st 7 (.g 2) (.t 100))]) .ret))))))))
theorem fi147 : FI Tryz.prog 147 cf147 ac147 [.c 2 true 7] [0, 2, 3, 4, 5, 6, 80, 86] 101 := FI_of (c := Tryz.f147.body.getD .skip) Tryz.func147 (by kernel_rfl) (by rfl) (by rfl) (by kernel_rfl) (by kernel_rfl) rfl rfl rfl
@[simp] theorem cfP147 : cf147.P = Tryz.prog := (rfl)
noncomputable def cf148 : Cfg := ⟨Tryz.prog, 47, [0, 1, 3, 4, 5, 6], [8, 27, 35, 37, 42, 45]⟩
noncomputable def lb148_0 : AC :=
 .seq (.ifr [JA 20 0, JM 21 20, JH 22 2 21, JD 23 1 22, JO 24 (.bin .eql 3 (.t 23) (JT 0)), JC 25 24, JS 26 25 (.mv (.g 0)), JS 27 25 (.cl (.f 123) [.t 26, .c (.string (ByteArray.mk (Array.mk [41])))]), JS 28 25 (.un .not (.t 27)), JO 29 (.pick (.t 25) (.t 28) JY)] (.t 29) .skip (.exit 0)) (.block 1 (.seq (.ifr [JG 30 5 5, JD 31 1 30, JO 32 (.len false (.t 31)), JO 33 (.bin .gtr 3 (.t 32) (JT 0))] (.t 33) (.reg [JA 34 0, JO 35 (.cl (.f 122) [.t 34, .c (.string (ByteArray.mk (Array.mk [44])))])]) .skip) (.seq (.reg [JA 36 0, JO 37 (.cl (.f 125) [.t 36]), JP 6 (.al [JV, JU, JU, JV, .complex .f64 0 0, JW, JV]), JQ (.st 7 (.g 6) (.t 37))]) (.reg [JG 38 5 5, JD 39 1 38, JF 40 7 6, JO 41 (.bsl 7 1 [JV, JU, JU, JV, .complex .f64 0 0, JW, JV] [(0, 7, .t 40)]), JO 42 (.app 7 96 [JV, JU, JU, JV, .complex .f64 0 0, JW, JV] (.t 39) (.t 41)), JG 43 5 5, JQ (.st 1 (.t 43) (.t 42))]))))
noncomputable def ac148 : AC :=
 (.seq (.reg [JN 3 1, JP 4 (.al [JV, JU, JU, JV, .complex .f64 0 0, JW, JV])]) (.seq (.ifr [JA 7 0, JO 8 (.cl (.f 137) [.t 7, .c (.string (ByteArray.mk (Array.mk [40])))]), JO 9 (.un .not (.t 8))] (.t 9) (.seq (.reg [JG 10 1 3, JD 11 1 10, JG 12 3 3, JD 13 1 12, JO 14 (.bld [JV, JU, JU, JV, .complex .f64 0 0, JW, JV] [(0, 1, .c (.int .i64 6)), (1, 1, .t 11), (6, 1, .t 13)]), JQ (.st 7 (.g 4) (.t 14))]) .ret) .skip) (.seq (.reg [JG 15 1 3, JD 16 1 15, JG 17 3 3, JD 18 1 17, JO 19 (.bld [JV, JU, JU, JV, .complex .f64 0 0, JW, JV] [(0, 1, .c (.int .i64 7)), (1, 1, .t 16), (6, 1, .t 18)]), JP 5 (.al [JV, JU, JU, JV, .complex .f64 0 0, JW, JV]), JQ (.st 7 (.g 5) (.t 19))]) (.seq (.block 0 (.loop lb148_0)) (.seq (.reg [JA 44 0, JO 45 (.cl (.f 122) [.t 44, .c (.string (ByteArray.mk (Array.mk [41])))])]) (.seq (.reg [JF 46 7 5, JQ (.st 7 (.g 4) (.t 46))]) .ret))))))
theorem fi148 : FI Tryz.prog 148 cf148 ac148 [.c 4 true 7] [0, 1, 3, 4, 5, 6] 47 := FI_of (c := Tryz.f148.body.getD .skip) Tryz.func148 (by kernel_rfl) (by rfl) (by rfl) (by kernel_rfl) (by kernel_rfl) rfl rfl rfl
@[simp] theorem cfP148 : cf148.P = Tryz.prog := (rfl)
noncomputable def cf30 : Cfg := ⟨Tryz.prog, 2, [0], []⟩
noncomputable def ac30 : AC :=
 (.seq (.reg [JP 0 (.al [JV, JV, JV, JV])]) (.seq (.reg [JO 1 (.bld [JV, JV, JV, JV] [(0, 1, .c (.int .i64 32768)), (1, 1, .c (.int .i64 32768)), (2, 1, .c (.int .i64 32768)), (3, 1, .c (.int .i64 32768))]), JQ (.st 4 (.g 0) (.t 1))]) .ret))
theorem fi30 : FI Tryz.prog 30 cf30 ac30 [.c 0 true 4] [0] 2 := FI_of (c := Tryz.f30.body.getD .skip) Tryz.func30 (by kernel_rfl) (by rfl) (by rfl) (by kernel_rfl) (by kernel_rfl) rfl rfl rfl
@[simp] theorem cfP30 : cf30.P = Tryz.prog := (rfl)
noncomputable def cf29 : Cfg := ⟨Tryz.prog, 57, [0, 1, 3, 4, 5, 6, 7, 8, 9], [3, 37, 39]⟩
noncomputable def ac29 : AC :=
 (.seq (.reg [JP 3 (.bx (.g 1)), JP 4 (.al [JW]), JP 5 (.al [JV, JV])]) (.seq (.reg [JG 10 0 3, JD 11 1 10, JO 12 (.bi .max [.t 11, .c (.int .i64 0)]), JO 13 (.bi .min [.t 12, .c (.int .i64 32768)]), JG 14 0 3, JQ (.st 1 (.t 14) (.t 13))]) (.seq (.ifr [JA 15 0, JO 16 (.len false (.t 15)), JG 17 0 3, JD 18 1 17, JO 19 (.bin .gtr 3 (.t 16) (.t 18))] (.t 19) (.seq (.reg [JO 20 (.bld [JW] []), JG 21 0 3, JD 22 1 21, JO 23 (.bld [JV, JV] [(0, 1, .c (.int .i64 22)), (1, 1, .t 22)]), JQ (.sta 1 (.g 4) (.t 20) [.g 3, .g 3]), JQ (.st 2 (.g 5) (.t 23))]) .ret) .skip) (.seq (.reg [JA 25 0, JO 26 (.pc (.f 61) [.t 25]), JC 24 26, JK 27 0 24, JK 28 1 24, JB 6 27, JB 7 28]) (.seq (.ifr [JA 29 7, JO 30 (.bin .geq 3 (.t 29) (JT 0))] (.t 30) (.seq (.reg [JO 31 (.bld [JW] []), JA 32 7, JO 33 (.bld [JV, JV] [(0, 1, .c (.int .i64 20)), (1, 1, .t 32)]), JQ (.st 1 (.g 4) (.t 31)), JQ (.st 2 (.g 5) (.t 33))]) .ret) .skip) (.seq (.reg [JA 34 6, JF 35 4 3, JO 36 (.bld [JW, JV, JV, JV, JV, JV, JV, JV, JV] [(0, 1, .t 34), (4, 4, .t 35)]), JO 37 (.bx (.t 36)), JB 8 37]) (.seq (.reg [JA 38 8, JO 39 (.cl (.f 62) [.t 38]), JP 9 (.al [JW]), JQ (.st 1 (.g 9) (.t 39))]) (.seq (.ifr [JA 40 8, JM 41 40, JH 42 2 41, JD 43 1 42, JO 44 (.bin .neq 3 (.t 43) (JT 0))] (.t 44) (.seq (.reg [JO 45 (.bld [JW] []), JA 46 8, JM 47 46, JH 48 2 47, JD 49 1 48, JA 50 8, JM 51 50, JH 52 3 51, JD 53 1 52, JO 54 (.bld [JV, JV] [(0, 1, .t 49), (1, 1, .t 53)]), JQ (.sta 1 (.g 4) (.t 45) [.g 8, .g 8, .g 8, .g 8]), JQ (.st 2 (.g 5) (.t 54))]) .ret) .skip) (.seq (.reg [JF 55 1 9, JO 56 (.bld [JV, JV] []), JQ (.st 1 (.g 4) (.t 55)), JQ (.st 2 (.g 5) (.t 56))]) .ret)))))))))
theorem fi29 : FI Tryz.prog 29 cf29 ac29 [.c 4 true 1, .c 5 true 2] [0, 1, 3, 4, 5, 6, 7, 8, 9] 57 := FI_of (c := Tryz.f29.body.getD .skip) Tryz.func29 (by kernel_rfl) (by rfl) (by rfl) (by kernel_rfl) (by kernel_rfl) rfl rfl rfl
@[simp] theorem cfP29 : cf29.P = Tryz.prog := (rfl)
@[simp] theorem eqParse_9 {a b : ByteArray} : bF Tryz.prog .eql 9 (.pl (.string a)) (.pl (.string b)) = some (.pl (.bool (decide (a = b)))) := kO Tryz.underlying9
@[simp] theorem neParse_9 {a b : ByteArray} : bF Tryz.prog .neq 9 (.pl (.string a)) (.pl (.string b)) = some (.pl (.bool (!decide (a = b)))) := pM Tryz.underlying9
noncomputable def cf136 : Cfg := ⟨Tryz.prog, 2, [0], []⟩
noncomputable def ac136 : AC :=
 (.seq (.reg [JP 0 (.mv (.c (.slice none 0 0)))]) (.seq (.reg [JO 1 (.bsl 1 19 [JU] [(0, 1, .c (.string (ByteArray.mk (Array.mk [66])))), (1, 1, .c (.string (ByteArray.mk (Array.mk [76])))), (2, 1, .c (.string (ByteArray.mk (Array.mk [78])))), (3, 1, .c (.string (ByteArray.mk (Array.mk [99, 97, 115, 101])))), (4, 1, .c (.string (ByteArray.mk (Array.mk [99, 111, 110, 106])))), (5, 1, .c (.string (ByteArray.mk (Array.mk [101, 108, 115, 101])))), (6, 1, .c (.string (ByteArray.mk (Array.mk [102, 97, 105, 108])))), (7, 1, .c (.string (ByteArray.mk (Array.mk [102, 97, 108, 115, 101])))), (8, 1, .c (.string (ByteArray.mk (Array.mk [105, 102])))), (9, 1, .c (.string (ByteArray.mk (Array.mk [105, 109])))), (10, 1, .c (.string (ByteArray.mk (Array.mk [105, 110])))), (11, 1, .c (.string (ByteArray.mk (Array.mk [108, 101, 116])))), (12, 1, .c (.string (ByteArray.mk (Array.mk [110, 105, 108])))), (13, 1, .c (.string (ByteArray.mk (Array.mk [110, 111, 116])))), (14, 1, .c (.string (ByteArray.mk (Array.mk [111, 102])))), (15, 1, .c (.string (ByteArray.mk (Array.mk [114, 101])))), (16, 1, .c (.string (ByteArray.mk (Array.mk [115, 116, 114, 105, 99, 116])))), (17, 1, .c (.string (ByteArray.mk (Array.mk [116, 104, 101, 110])))), (18, 1, .c (.string (ByteArray.mk (Array.mk [116, 114, 117, 101]))))]), JB 0 1]) .ret))
theorem fi136 : FI Tryz.prog 136 cf136 ac136 [.t 0] [0] 2 := FI_of (c := Tryz.f136.body.getD .skip) Tryz.func136 (by kernel_rfl) (by rfl) (by rfl) (by kernel_rfl) (by kernel_rfl) rfl rfl rfl
@[simp] theorem cfP136 : cf136.P = Tryz.prog := (rfl)
noncomputable def cf118 : Cfg := ⟨Tryz.prog, 18, [0, 2, 3, 4], []⟩
noncomputable def lb118_0 : AC :=
 .seq (.ifr [JA 6 4, JA 7 3, JO 8 (.len false (.t 7)), JO 9 (.bin .lss 3 (.t 6) (.t 8))] (.t 9) .skip (.exit 0)) (.seq (.block 1 (.ifr [JA 12 3, JA 13 4, JL 14 1 12 13, JD 15 1 14, JA 16 0, JO 17 (.bin .eql 9 (.t 15) (.t 16))] (.t 17) (.seq (.reg [JP 2 (.mv JX)]) .ret) .skip)) (.reg [JA 10 4, JO 11 (.bin .add 3 (.t 10) (JT 1)), JB 4 11]))
noncomputable def ac118 : AC :=
 (.seq (.reg [JP 2 (.mv JY)]) (.seq (.reg [JO 5 (.pc (.f 136) []), JB 3 5]) (.seq (.seq (.reg [JI 4 0]) (.block 0 (.loop lb118_0))) (.seq (.reg [JP 2 (.mv JY)]) .ret))))
theorem fi118 : FI Tryz.prog 118 cf118 ac118 [.t 2] [0, 2, 3, 4] 18 := FI_of (c := Tryz.f118.body.getD .skip) Tryz.func118 (by kernel_rfl) (by rfl) (by rfl) (by kernel_rfl) (by kernel_rfl) rfl rfl rfl
@[simp] theorem cfP118 : cf118.P = Tryz.prog := (rfl)
noncomputable def cf89 : Cfg := ⟨Tryz.prog, 17, [0, 2], []⟩
noncomputable def ac89 : AC :=
 (.seq (.reg [JP 2 (.mv JY)]) (.seq (.reg [JA 3 0, JO 4 (.bin .eql 5 (.t 3) (.c (.int .u8 9))), JC 5 4, JR 6 5 (.mv (.g 0)), JR 7 5 (.bin .eql 5 (.t 6) (.c (.int .u8 10))), JO 8 (.pick (.t 5) JX (.t 7)), JC 9 8, JR 10 9 (.mv (.g 0)), JR 11 9 (.bin .eql 5 (.t 10) (.c (.int .u8 13))), JO 12 (.pick (.t 9) JX (.t 11)), JC 13 12, JR 14 13 (.mv (.g 0)), JR 15 13 (.bin .eql 5 (.t 14) (.c (.int .u8 32))), JO 16 (.pick (.t 13) JX (.t 15)), JB 2 16]) .ret))
theorem fi89 : FI Tryz.prog 89 cf89 ac89 [.t 2] [0, 2] 17 := FI_of (c := Tryz.f89.body.getD .skip) Tryz.func89 (by kernel_rfl) (by rfl) (by rfl) (by kernel_rfl) (by kernel_rfl) rfl rfl rfl
@[simp] theorem cfP89 : cf89.P = Tryz.prog := (rfl)
noncomputable def cf132 : Cfg := ⟨Tryz.prog, 17, [0, 2], []⟩
noncomputable def ac132 : AC :=
 (.seq (.reg [JP 2 (.mv JY)]) (.seq (.reg [JA 3 0, JO 4 (.bin .geq 5 (.t 3) (.c (.int .u8 65))), JC 5 4, JS 6 5 (.mv (.g 0)), JS 7 5 (.bin .leq 5 (.t 6) (.c (.int .u8 90))), JO 8 (.pick (.t 5) (.t 7) JY), JC 9 8, JR 10 9 (.mv (.g 0)), JR 11 9 (.bin .geq 5 (.t 10) (.c (.int .u8 97))), JR 12 9 (.mv (.t 11)), JS 13 12 (.mv (.g 0)), JS 14 12 (.bin .leq 5 (.t 13) (.c (.int .u8 122))), JR 15 9 (.pick (.t 12) (.t 14) JY), JO 16 (.pick (.t 9) JX (.t 15)), JB 2 16]) .ret))
theorem fi132 : FI Tryz.prog 132 cf132 ac132 [.t 2] [0, 2] 17 := FI_of (c := Tryz.f132.body.getD .skip) Tryz.func132 (by kernel_rfl) (by rfl) (by rfl) (by kernel_rfl) (by kernel_rfl) rfl rfl rfl
@[simp] theorem cfP132 : cf132.P = Tryz.prog := (rfl)
noncomputable def cf115 : Cfg := ⟨Tryz.prog, 9, [0, 2], []⟩
noncomputable def ac115 : AC :=
 (.seq (.reg [JP 2 (.mv JY)]) (.seq (.reg [JA 3 0, JO 4 (.bin .geq 5 (.t 3) (.c (.int .u8 48))), JC 5 4, JS 6 5 (.mv (.g 0)), JS 7 5 (.bin .leq 5 (.t 6) (.c (.int .u8 57))), JO 8 (.pick (.t 5) (.t 7) JY), JB 2 8]) .ret))
theorem fi115 : FI Tryz.prog 115 cf115 ac115 [.t 2] [0, 2] 9 := FI_of (c := Tryz.f115.body.getD .skip) Tryz.func115 (by kernel_rfl) (by rfl) (by rfl) (by kernel_rfl) (by kernel_rfl) rfl rfl rfl
@[simp] theorem cfP115 : cf115.P = Tryz.prog := (rfl)
noncomputable def cf114 : Cfg := ⟨Tryz.prog, 42, [0, 1, 4, 5], []⟩
noncomputable def lb114_0 : AC :=
 .seq (.ifr [JA 6 1, JA 7 5, JO 8 (.bin .add 3 (.t 6) (.t 7)), JA 9 0, JO 10 (.len false (.t 9)), JO 11 (.bin .lss 3 (.t 8) (.t 10)), JC 12 11, JS 13 12 (.mv (.g 0)), JS 14 12 (.mv (.g 1)), JS 15 12 (.mv (.g 5)), JS 16 12 (.bin .add 3 (.t 14) (.t 15)), JS 17 12 (.ia 1 (.t 13) (.t 16)), JS 18 12 (.ld false 1 (.t 17)), JS 19 12 (.pc (.f 132) [.t 18]), JS 20 12 (.mv (.t 19)), JR 21 20 (.mv (.g 0)), JR 22 20 (.mv (.g 1)), JR 23 20 (.mv (.g 5)), JR 24 20 (.bin .add 3 (.t 22) (.t 23)), JR 25 20 (.ia 1 (.t 21) (.t 24)), JR 26 20 (.ld false 1 (.t 25)), JR 27 20 (.pc (.f 115) [.t 26]), JS 28 12 (.pick (.t 20) JX (.t 27)), JS 29 12 (.mv (.t 28)), JR 30 29 (.mv (.g 0)), JR 31 29 (.mv (.g 1)), JR 32 29 (.mv (.g 5)), JR 33 29 (.bin .add 3 (.t 31) (.t 32)), JR 34 29 (.ia 1 (.t 30) (.t 33)), JR 35 29 (.ld false 1 (.t 34)), JR 36 29 (.bin .eql 5 (.t 35) (.c (.int .u8 95))), JS 37 12 (.pick (.t 29) JX (.t 36)), JO 38 (.pick (.t 12) (.t 37) JY)] (.t 38) .skip (.exit 0)) (.block 1 (.reg [JA 39 5, JO 40 (.bin .add 3 (.t 39) (JT 1)), JB 5 40]))
noncomputable def ac114 : AC :=
 (.seq (.reg [JI 4 0]) (.seq (.reg [JI 5 0]) (.seq (.block 0 (.loop lb114_0)) (.seq (.reg [JA 41 5, JB 4 41]) .ret))))
theorem fi114 : FI Tryz.prog 114 cf114 ac114 [.t 4] [0, 1, 4, 5] 42 := FI_of (c := Tryz.f114.body.getD .skip) Tryz.func114 (by kernel_rfl) (by rfl) (by rfl) (by kernel_rfl) (by kernel_rfl) rfl rfl rfl
@[simp] theorem cfP114 : cf114.P = Tryz.prog := (rfl)
noncomputable def cf119 : Cfg := ⟨Tryz.prog, 57, [0, 1, 4, 43, 44], []⟩
noncomputable def ac119 : AC :=
 (.seq (.reg [JI 4 0]) (.seq (.ifr [JA 5 1, JO 6 (.bin .add 3 (.t 5) (JT 1)), JA 7 0, JO 8 (.len false (.t 7)), JO 9 (.bin .lss 3 (.t 6) (.t 8)), JC 10 9, JS 11 10 (.mv (.g 0)), JS 12 10 (.mv (.g 1)), JS 13 10 (.ia 1 (.t 11) (.t 12)), JS 14 10 (.ld false 1 (.t 13)), JS 15 10 (.bin .eql 5 (.t 14) (.c (.int .u8 45))), JS 16 10 (.mv (.t 15)), JS 17 16 (.mv (.g 0)), JS 18 16 (.mv (.g 1)), JS 19 16 (.bin .add 3 (.t 18) (JT 1)), JS 20 16 (.ia 1 (.t 17) (.t 19)), JS 21 16 (.ld false 1 (.t 20)), JS 22 16 (.bin .eql 5 (.t 21) (.c (.int .u8 62))), JS 23 10 (.pick (.t 16) (.t 22) JY), JS 24 10 (.mv (.t 23)), JR 25 24 (.mv (.g 0)), JR 26 24 (.mv (.g 1)), JR 27 24 (.ia 1 (.t 25) (.t 26)), JR 28 24 (.ld false 1 (.t 27)), JR 29 24 (.bin .eql 5 (.t 28) (.c (.int .u8 61))), JR 30 24 (.mv (.t 29)), JS 31 30 (.mv (.g 0)), JS 32 30 (.mv (.g 1)), JS 33 30 (.bin .add 3 (.t 32) (JT 1)), JS 34 30 (.ia 1 (.t 31) (.t 33)), JS 35 30 (.ld false 1 (.t 34)), JS 36 30 (.bin .eql 5 (.t 35) (.c (.int .u8 61))), JR 37 24 (.pick (.t 30) (.t 36) JY), JS 38 10 (.pick (.t 24) JX (.t 37)), JO 39 (.pick (.t 10) (.t 38) JY)] (.t 39) (.seq (.reg [JI 4 2]) .ret) .skip) (.seq (.seq (.reg [JA 40 0, JA 41 1, JL 42 1 40 41, JP 43 (.ld false 1 (.t 42))]) (.block 0 (.seq (.ifr [JO 45 (.bin .eql 5 (.g 43) (.c (.int .u8 40))), JB 44 45] (.g 44) .skip (.ifr [JO 46 (.bin .eql 5 (.g 43) (.c (.int .u8 41))), JB 44 46] (.g 44) .skip (.ifr [JO 47 (.bin .eql 5 (.g 43) (.c (.int .u8 44))), JB 44 47] (.g 44) .skip (.ifr [JO 48 (.bin .eql 5 (.g 43) (.c (.int .u8 58))), JB 44 48] (.g 44) .skip (.ifr [JO 49 (.bin .eql 5 (.g 43) (.c (.int .u8 59))), JB 44 49] (.g 44) .skip (.ifr [JO 50 (.bin .eql 5 (.g 43) (.c (.int .u8 61))), JB 44 50] (.g 44) .skip (.ifr [JO 51 (.bin .eql 5 (.g 43) (.c (.int .u8 43))), JB 44 51] (.g 44) .skip (.ifr [JO 52 (.bin .eql 5 (.g 43) (.c (.int .u8 45))), JB 44 52] (.g 44) .skip (.ifr [JO 53 (.bin .eql 5 (.g 43) (.c (.int .u8 42))), JB 44 53] (.g 44) .skip (.ifr [JO 54 (.bin .eql 5 (.g 43) (.c (.int .u8 47))), JB 44 54] (.g 44) .skip (.ifr [JO 55 (.bin .eql 5 (.g 43) (.c (.int .u8 60))), JB 44 55] (.g 44) .skip (.reg [JO 56 (.bin .eql 5 (.g 43) (.c (.int .u8 124))), JB 44 56])))))))))))) (.cond (.g 44) (.seq (.reg [JI 4 1]) .ret) .skip)))) (.seq (.reg [JI 4 0]) .ret))))
theorem fi119 : FI Tryz.prog 119 cf119 ac119 [.t 4] [0, 1, 4, 43, 44] 57 := FI_of (c := Tryz.f119.body.getD .skip) Tryz.func119 (by kernel_rfl) (by rfl) (by rfl) (by kernel_rfl) (by kernel_rfl) rfl rfl rfl
@[simp] theorem cfP119 : cf119.P = Tryz.prog := (rfl)
noncomputable def cf90 : Cfg := ⟨Tryz.prog, 79, [0, 1, 4, 5, 6, 7, 8, 9], []⟩
noncomputable def ac90 : AC :=
 (.seq (.reg [JP 4 (.al [JV, JU, .complex .f64 0 0, JV]), JP 5 (.mv JY)]) (.seq (.reg [JA 10 0, JA 11 1, JO 12 (.pc (.f 114) [.t 10, .t 11]), JB 6 12]) (.seq (.reg [JA 13 0, JA 14 1, JA 15 1, JA 16 6, JO 17 (.bin .add 3 (.t 15) (.t 16)), JO 18 (.sls false 1 (.t 13) (some (.t 14)) (some (.t 17))), JO 19 (.cv 22 9 (.t 18)), JA 20 1, JO 21 (.bld [JV, JU, .complex .f64 0 0, JV] [(1, 1, .t 19), (3, 1, .t 20)]), JP 7 (.al [JV, JU, .complex .f64 0 0, JV]), JQ (.st 4 (.g 7) (.t 21))]) (.seq (.block 0 (.ifr [JA 23 6, JO 24 (.bin .gtr 3 (.t 23) (JT 0)), JC 25 24, JS 26 25 (.mv (.g 0)), JS 27 25 (.mv (.g 1)), JS 28 25 (.ia 1 (.t 26) (.t 27)), JS 29 25 (.ld false 1 (.t 28)), JS 30 25 (.pc (.f 115) [.t 29]), JO 31 (.pick (.t 25) (.t 30) JY), JC 22 31] (.t 22) (.seq (.reg [JG 33 1 7, JD 34 1 33, JO 35 (.pc (.f 116) [.t 34]), JC 32 35, JK 36 0 32, JK 37 1 32, JP 8 (.al [JV, JV]), JQ (.st 2 (.g 8) (.t 36)), JB 9 37]) (.seq (.reg [JG 38 0 7, JQ (.st 1 (.t 38) (JT 2))]) (.seq (.reg [JF 39 2 8, JO 40 (.pc (.f 117) [.t 39]), JG 41 2 7, JQ (.st 1 (.t 41) (.t 40))]) (.seq (.reg [JF 42 4 7, JA 43 9, JO 44 (.bin .eql 3 (.t 43) (JT 0)), JQ (.st 4 (.g 4) (.t 42)), JB 5 44]) .ret)))) (.ifr [JA 46 6, JO 47 (.bin .gtr 3 (.t 46) (JT 0)), JC 48 47, JS 49 48 (.mv (.g 0)), JS 50 48 (.mv (.g 1)), JS 51 48 (.ia 1 (.t 49) (.t 50)), JS 52 48 (.ld false 1 (.t 51)), JS 53 48 (.bin .eql 5 (.t 52) (.c (.int .u8 95))), JO 54 (.pick (.t 48) (.t 53) JY), JC 45 54] (.t 45) (.seq (.reg [JF 55 4 7, JQ (.st 4 (.g 4) (.t 55)), JP 5 (.mv JY)]) .ret) (.ifr [JA 57 6, JO 58 (.bin .gtr 3 (.t 57) (JT 0)), JC 56 58] (.t 56) (.seq (.ifr [JG 59 1 7, JD 60 1 59, JO 61 (.pc (.f 118) [.t 60])] (.t 61) (.reg [JG 62 0 7, JQ (.st 1 (.t 62) (JT 1))]) .skip) (.seq (.reg [JF 63 4 7, JQ (.st 4 (.g 4) (.t 63)), JP 5 (.mv JX)]) .ret)) .skip)))) (.seq (.reg [JA 64 0, JA 65 1, JO 66 (.pc (.f 119) [.t 64, .t 65]), JB 6 66]) (.seq (.reg [JG 67 0 7, JQ (.st 1 (.t 67) (JT 3))]) (.seq (.reg [JA 68 0, JA 69 1, JA 70 1, JA 71 6, JO 72 (.bin .add 3 (.t 70) (.t 71)), JO 73 (.sls false 1 (.t 68) (some (.t 69)) (some (.t 72))), JO 74 (.cv 22 9 (.t 73)), JG 75 1 7, JQ (.st 1 (.t 75) (.t 74))]) (.seq (.reg [JF 76 4 7, JA 77 6, JO 78 (.bin .gtr 3 (.t 77) (JT 0)), JQ (.st 4 (.g 4) (.t 76)), JB 5 78]) .ret))))))))
theorem fi90 : FI Tryz.prog 90 cf90 ac90 [.c 4 true 4, .t 5] [0, 1, 4, 5, 6, 7, 8, 9] 79 := FI_of (c := Tryz.f90.body.getD .skip) Tryz.func90 (by kernel_rfl) (by rfl) (by rfl) (by kernel_rfl) (by kernel_rfl) rfl rfl rfl
@[simp] theorem cfP90 : cf90.P = Tryz.prog := (rfl)
noncomputable def cf61 : Cfg := ⟨Tryz.prog, 61, [0, 2, 3, 4, 5, 6, 7], [49, 60]⟩
noncomputable def lb61_0 : AC :=
 .seq (.ifr [JA 24 5, JA 25 0, JO 26 (.len false (.t 25)), JO 27 (.bin .lss 3 (.t 24) (.t 26)), JC 28 27, JS 29 28 (.mv (.g 0)), JS 30 28 (.mv (.g 5)), JS 31 28 (.ia 1 (.t 29) (.t 30)), JS 32 28 (.ld false 1 (.t 31)), JS 33 28 (.bin .neq 5 (.t 32) (.c (.int .u8 10))), JO 34 (.pick (.t 28) (.t 33) JY)] (.t 34) .skip (.exit 2)) (.block 3 (.reg [JA 35 5, JO 36 (.bin .add 3 (.t 35) (JT 1)), JB 5 36]))
noncomputable def lb61_1 : AC :=
 .seq (.ifr [JA 8 5, JA 9 0, JO 10 (.len false (.t 9)), JO 11 (.bin .lss 3 (.t 8) (.t 10))] (.t 11) .skip (.exit 0)) (.block 1 (.seq (.ifr [JA 12 0, JA 13 5, JL 14 1 12 13, JD 15 1 14, JO 16 (.pc (.f 89) [.t 15])] (.t 16) (.seq (.reg [JA 17 5, JO 18 (.bin .add 3 (.t 17) (JT 1)), JB 5 18]) (.exit 1)) .skip) (.seq (.ifr [JA 19 0, JA 20 5, JL 21 1 19 20, JD 22 1 21, JO 23 (.bin .eql 5 (.t 22) (.c (.int .u8 35)))] (.t 23) (.seq (.block 2 (.loop lb61_0)) (.exit 1)) .skip) (.seq (.reg [JA 38 0, JA 39 5, JO 40 (.pc (.f 90) [.t 38, .t 39]), JC 37 40, JK 41 0 37, JK 42 1 37, JP 6 (.al [JV, JU, .complex .f64 0 0, JV]), JQ (.st 4 (.g 6) (.t 41)), JB 7 42]) (.seq (.ifr [JA 43 7, JO 44 (.un .not (.t 43))] (.t 44) (.seq (.reg [JA 45 5, JP 2 (.mv (.c (.slice none 0 0))), JB 3 45]) .ret) .skip) (.seq (.reg [JA 46 4, JF 47 4 6, JO 48 (.bsl 4 1 [JV, JU, .complex .f64 0 0, JV] [(0, 4, .t 47)]), JO 49 (.app 4 48 [JV, JU, .complex .f64 0 0, JV] (.t 46) (.t 48)), JB 4 49]) (.reg [JA 50 5, JG 51 1 6, JD 52 1 51, JO 53 (.len true (.t 52)), JO 54 (.bin .add 3 (.t 50) (.t 53)), JB 5 54])))))))
noncomputable def ac61 : AC :=
 (.seq (.reg [JP 2 (.mv (.c (.slice none 0 0))), JI 3 0]) (.seq (.reg [JP 4 (.mv (.c (.slice none 0 0)))]) (.seq (.reg [JI 5 0]) (.seq (.block 0 (.loop lb61_1)) (.seq (.reg [JA 55 4, JA 56 0, JO 57 (.len false (.t 56)), JO 58 (.bld [JV, JU, .complex .f64 0 0, JV] [(0, 1, .c (.int .i64 4)), (3, 1, .t 57)]), JO 59 (.bsl 4 1 [JV, JU, .complex .f64 0 0, JV] [(0, 4, .t 58)]), JO 60 (.app 4 48 [JV, JU, .complex .f64 0 0, JV] (.t 55) (.t 59)), JB 2 60, JI 3 (-1)]) .ret)))))
theorem fi61 : FI Tryz.prog 61 cf61 ac61 [.t 2, .t 3] [0, 2, 3, 4, 5, 6, 7] 61 := FI_of (c := Tryz.f61.body.getD .skip) Tryz.func61 (by kernel_rfl) (by rfl) (by rfl) (by kernel_rfl) (by kernel_rfl) rfl rfl rfl
@[simp] theorem cfP61 : cf61.P = Tryz.prog := (rfl)
@[simp] theorem eqMarks_9 {a b : ByteArray} : bF Tryz.prog .eql 9 (.pl (.string a)) (.pl (.string b)) = some (.pl (.bool (decide (a = b)))) := kO Tryz.underlying9
noncomputable def cf142 : Cfg := ⟨Tryz.prog, 24, [0, 2, 3], []⟩
noncomputable def ac142 : AC :=
 (.seq (.reg [JP 2 (.mv (.c (JU)))]) (.seq (.ifr [JA 4 0, JO 5 (.bin .lss 3 (.t 4) (JT 0))] (.t 5) (.seq (.reg [JA 6 0, JO 7 (.un .neg (.t 6)), JO 8 (.pc (.f 142) [.t 7]), JO 9 (.bin .add 9 (.c (.string (ByteArray.mk (Array.mk [45])))) (.t 8)), JB 2 9]) .ret) .skip) (.seq (.reg [JA 10 0, JO 11 (.bin .rem 3 (.t 10) (JT 10)), JO 12 (.bin .add 3 (JT 48) (.t 11)), JO 13 (.cv 3 5 (.t 12)), JO 14 (.bsl 1 1 [.int .u8 0] [(0, 1, .t 13)]), JO 15 (.cv 22 9 (.t 14)), JB 3 15]) (.seq (.ifr [JA 16 0, JO 17 (.bin .geq 3 (.t 16) (JT 10))] (.t 17) (.reg [JA 18 0, JO 19 (.bin .quo 3 (.t 18) (JT 10)), JO 20 (.pc (.f 142) [.t 19]), JA 21 3, JO 22 (.bin .add 9 (.t 20) (.t 21)), JB 3 22]) .skip) (.seq (.reg [JA 23 3, JB 2 23]) .ret)))))
theorem fi142 : FI Tryz.prog 142 cf142 ac142 [.t 2] [0, 2, 3] 24 := FI_of (c := Tryz.f142.body.getD .skip) Tryz.func142 (by kernel_rfl) (by rfl) (by rfl) (by kernel_rfl) (by kernel_rfl) rfl rfl rfl
@[simp] theorem cfP142 : cf142.P = Tryz.prog := (rfl)
noncomputable def cf135 : Cfg := ⟨Tryz.prog, 39, [0, 1, 2], []⟩
noncomputable def ac135 : AC :=
 (.seq (.reg [JN 1 0, JP 2 (.mv (.c (JU)))]) (.seq (.block 0 (.ifr [JG 4 1 1, JD 5 1 4, JO 6 (.bin .eql 3 (.t 5) (JT 0)), JC 3 6] (.t 3) (.seq (.reg [JG 7 0 1, JD 8 1 7, JO 9 (.pc (.f 142) [.t 8]), JB 2 9]) .ret) (.ifr [JG 11 0 1, JD 12 1 11, JO 13 (.bin .eql 3 (.t 12) (JT 0)), JC 10 13] (.t 10) (.seq (.reg [JG 14 1 1, JD 15 1 14, JO 16 (.pc (.f 142) [.t 15]), JO 17 (.bin .add 9 (.t 16) (.c (.string (ByteArray.mk (Array.mk [105]))))), JB 2 17]) .ret) (.ifr [JG 19 1 1, JD 20 1 19, JO 21 (.bin .gtr 3 (.t 20) (JT 0)), JC 18 21] (.t 18) (.seq (.reg [JG 22 0 1, JD 23 1 22, JO 24 (.pc (.f 142) [.t 23]), JO 25 (.bin .add 9 (.t 24) (.c (.string (ByteArray.mk (Array.mk [43]))))), JG 26 1 1, JD 27 1 26, JO 28 (.pc (.f 142) [.t 27]), JO 29 (.bin .add 9 (.t 25) (.t 28)), JO 30 (.bin .add 9 (.t 29) (.c (.string (ByteArray.mk (Array.mk [105]))))), JB 2 30]) .ret) .skip)))) (.seq (.reg [JG 31 0 1, JD 32 1 31, JO 33 (.pc (.f 142) [.t 32]), JG 34 1 1, JD 35 1 34, JO 36 (.pc (.f 142) [.t 35]), JO 37 (.bin .add 9 (.t 33) (.t 36)), JO 38 (.bin .add 9 (.t 37) (.c (.string (ByteArray.mk (Array.mk [105]))))), JB 2 38]) .ret)))
theorem fi135 : FI Tryz.prog 135 cf135 ac135 [.t 2] [0, 1, 2] 39 := FI_of (c := Tryz.f135.body.getD .skip) Tryz.func135 (by kernel_rfl) (by rfl) (by rfl) (by kernel_rfl) (by kernel_rfl) rfl rfl rfl
@[simp] theorem cfP135 : cf135.P = Tryz.prog := (rfl)
noncomputable def cf133 : Cfg := ⟨Tryz.prog, 52, [0, 2, 3, 4, 5, 6], []⟩
noncomputable def lb133_0 : AC :=
 .seq (.ifr [JA 16 6, JA 17 0, JO 18 (.len true (.t 17)), JO 19 (.bin .lss 3 (.t 16) (.t 18)), JC 20 19, JS 21 20 (.mv (.g 0)), JS 22 20 (.mv (.g 6)), JS 23 20 (.ixs (.t 21) (.t 22)), JS 24 20 (.bin .geq 5 (.t 23) (.c (.int .u8 48))), JO 25 (.pick (.t 20) (.t 24) JY), JC 26 25, JS 27 26 (.mv (.g 0)), JS 28 26 (.mv (.g 6)), JS 29 26 (.ixs (.t 27) (.t 28)), JS 30 26 (.bin .leq 5 (.t 29) (.c (.int .u8 57))), JO 31 (.pick (.t 26) (.t 30) JY)] (.t 31) .skip (.exit 0)) (.block 1 (.seq (.reg [JA 32 5, JO 33 (.bin .mul 3 (JT 10) (.t 32)), JA 34 0, JA 35 6, JO 36 (.ixs (.t 34) (.t 35)), JO 37 (.bin .sub 5 (.t 36) (.c (.int .u8 48))), JO 38 (.cv 5 3 (.t 37)), JO 39 (.bin .add 3 (.t 33) (.t 38)), JO 40 (.bi .min [.t 39, .c (.int .i64 16777217)]), JB 5 40]) (.reg [JA 41 6, JO 42 (.bin .add 3 (.t 41) (JT 1)), JB 6 42])))
noncomputable def ac133 : AC :=
 (.seq (.reg [JI 2 0, JI 3 0]) (.seq (.reg [JI 4 0]) (.seq (.ifr [JA 7 0, JO 8 (.len true (.t 7)), JO 9 (.bin .gtr 3 (.t 8) (JT 0)), JC 10 9, JS 11 10 (.mv (.g 0)), JS 12 10 (.ixs (.t 11) (JT 0)), JS 13 10 (.bin .eql 5 (.t 12) (.c (.int .u8 45))), JO 14 (.pick (.t 10) (.t 13) JY)] (.t 14) (.reg [JI 4 1]) .skip) (.seq (.reg [JI 5 0]) (.seq (.reg [JA 15 4, JB 6 15]) (.seq (.block 0 (.loop lb133_0)) (.seq (.ifr [JA 43 6, JA 44 4, JO 45 (.bin .eql 3 (.t 43) (.t 44))] (.t 45) (.seq (.reg [JI 2 0, JI 3 0]) .ret) .skip) (.seq (.ifr [JA 46 4, JO 47 (.bin .eql 3 (.t 46) (JT 1))] (.t 47) (.reg [JA 48 5, JO 49 (.un .neg (.t 48)), JB 5 49]) .skip) (.seq (.reg [JA 50 5, JA 51 6, JB 2 50, JB 3 51]) .ret)))))))))
theorem fi133 : FI Tryz.prog 133 cf133 ac133 [.t 2, .t 3] [0, 2, 3, 4, 5, 6] 52 := FI_of (c := Tryz.f133.body.getD .skip) Tryz.func133 (by kernel_rfl) (by rfl) (by rfl) (by kernel_rfl) (by kernel_rfl) rfl rfl rfl
@[simp] theorem cfP133 : cf133.P = Tryz.prog := (rfl)
noncomputable def cf116 : Cfg := ⟨Tryz.prog, 58, [0, 2, 3, 4, 5, 6, 7, 8, 11], []⟩
noncomputable def ac116 : AC :=
 (.seq (.reg [JP 2 (.al [JV, JV]), JI 3 0]) (.seq (.reg [JA 13 0, JO 14 (.pc (.f 133) [.t 13]), JC 12 14, JK 15 0 12, JK 16 1 12, JB 4 15, JB 5 16]) (.seq (.ifr [JA 17 5, JO 18 (.bin .eql 3 (.t 17) (JT 0))] (.t 18) (.seq (.reg [JO 19 (.bld [JV, JV] []), JQ (.st 2 (.g 2) (.t 19)), JI 3 10]) .ret) .skip) (.seq (.reg [JA 20 4, JO 21 (.bld [JV, JV] [(0, 1, .t 20)]), JP 6 (.al [JV, JV]), JQ (.st 2 (.g 6) (.t 21))]) (.seq (.reg [JA 22 0, JA 23 5, JO 24 (.sls true 0 (.t 22) (some (.t 23)) none), JB 7 24]) (.seq (.ifr [JA 25 7, JO 26 (.bin .eql 9 (.t 25) (.c (.string (ByteArray.mk (Array.mk [105])))))] (.t 26) (.reg [JA 27 4, JO 28 (.bld [JV, JV] [(1, 1, .t 27)]), JQ (.st 2 (.g 6) (.t 28))]) (.ifr [JA 29 7, JO 30 (.bin .neq 9 (.t 29) (.c (JU)))] (.t 30) (.seq (.ifr [JA 31 7, JO 32 (.ixs (.t 31) (JT 0)), JO 33 (.bin .eql 5 (.t 32) (.c (.int .u8 43)))] (.t 33) (.reg [JA 34 7, JO 35 (.sls true 0 (.t 34) (some (JT 1)) none), JB 7 35]) .skip) (.seq (.reg [JA 37 7, JO 38 (.pc (.f 133) [.t 37]), JC 36 38, JK 39 0 36, JK 40 1 36, JB 8 39, JC 9 40]) (.reg [JA 41 8, JG 42 1 6, JQ (.st 1 (.t 42) (.t 41))]))) .skip)) (.seq (.reg [JF 44 2 6, JO 45 (.pc (.f 134) [.t 44]), JC 43 45, JK 46 0 43, JK 47 1 43, JO 10 (.al [JV, JV]), JQ (.st 2 (.t 10) (.t 46)), JB 11 47]) (.seq (.ifr [JA 48 11, JO 49 (.bin .neq 3 (.t 48) (JT 0)), JC 50 49, JR 51 50 (.ld true 2 (.g 6)), JR 52 50 (.pc (.f 135) [.t 51]), JR 53 50 (.mv (.g 0)), JR 54 50 (.bin .neq 9 (.t 52) (.t 53)), JO 55 (.pick (.t 50) JX (.t 54))] (.t 55) (.seq (.reg [JO 56 (.bld [JV, JV] []), JQ (.st 2 (.g 2) (.t 56)), JI 3 10]) .ret) .skip) (.seq (.reg [JF 57 2 6, JQ (.st 2 (.g 2) (.t 57)), JI 3 0]) .ret)))))))))
theorem fi116 : FI Tryz.prog 116 cf116 ac116 [.c 2 true 2, .t 3] [0, 2, 3, 4, 5, 6, 7, 8, 11] 58 := FI_of (c := Tryz.f116.body.getD .skip) Tryz.func116 (by kernel_rfl) (by rfl) (by rfl) (by kernel_rfl) (by kernel_rfl) rfl rfl rfl
@[simp] theorem cfP116 : cf116.P = Tryz.prog := (rfl)
@[simp] theorem cvNum_3_5 {n : Int} : cvD Tryz.prog 3 5 (.pl (.int .i64 n)) = some (.pl (.int .u8 (IntKind.u8.wrap n))) := nE Tryz.underlying3 Tryz.underlying5
@[simp] theorem cvNum_5_3 {n : Int} : cvD Tryz.prog 5 3 (.pl (.int .u8 n)) = some (.pl (.int .i64 (IntKind.i64.wrap n))) := nE Tryz.underlying5 Tryz.underlying3
@[simp] theorem eqNum_9 {a b : ByteArray} : bF Tryz.prog .eql 9 (.pl (.string a)) (.pl (.string b)) = some (.pl (.bool (decide (a = b)))) := kO Tryz.underlying9
@[simp] theorem neNum_9 {a b : ByteArray} : bF Tryz.prog .neq 9 (.pl (.string a)) (.pl (.string b)) = some (.pl (.bool (!decide (a = b)))) := pM Tryz.underlying9
noncomputable def cf134 : Cfg := ⟨Tryz.prog, 24, [0, 1, 2, 3], []⟩
noncomputable def ac134 : AC :=
 (.seq (.reg [JN 1 0, JP 2 (.al [JV, JV]), JI 3 0]) (.seq (.ifr [JG 4 0 1, JD 5 1 4, JO 6 (.bin .lss 3 (.t 5) (JT (-16777216))), JC 7 6, JR 8 7 (.fa 0 (.g 1)), JR 9 7 (.ld false 1 (.t 8)), JR 10 7 (.bin .gtr 3 (.t 9) (JT 16777216)), JO 11 (.pick (.t 7) JX (.t 10)), JC 12 11, JR 13 12 (.fa 1 (.g 1)), JR 14 12 (.ld false 1 (.t 13)), JR 15 12 (.bin .lss 3 (.t 14) (JT (-16777216))), JO 16 (.pick (.t 12) JX (.t 15)), JC 17 16, JR 18 17 (.fa 1 (.g 1)), JR 19 17 (.ld false 1 (.t 18)), JR 20 17 (.bin .gtr 3 (.t 19) (JT 16777216)), JO 21 (.pick (.t 17) JX (.t 20))] (.t 21) (.seq (.reg [JO 22 (.bld [JV, JV] []), JQ (.st 2 (.g 2) (.t 22)), JI 3 50]) .ret) .skip) (.seq (.reg [JF 23 2 1, JQ (.st 2 (.g 2) (.t 23)), JI 3 0]) .ret)))
theorem fi134 : FI Tryz.prog 134 cf134 ac134 [.c 2 true 2, .t 3] [0, 1, 2, 3] 24 := FI_of (c := Tryz.f134.body.getD .skip) Tryz.func134 (by kernel_rfl) (by rfl) (by rfl) (by kernel_rfl) (by kernel_rfl) rfl rfl rfl
@[simp] theorem cfP134 : cf134.P = Tryz.prog := (rfl)
noncomputable def cf117 : Cfg := ⟨Tryz.prog, 10, [0, 1, 2], []⟩
noncomputable def ac117 : AC :=
 (.seq (.reg [JN 1 0, JP 2 (.mv (.c (.complex .f64 0 0)))]) (.seq (.reg [JG 3 0 1, JD 4 1 3, JO 5 (.cv 3 226 (.t 4)), JG 6 1 1, JD 7 1 6, JO 8 (.cv 3 226 (.t 7)), JO 9 (.bi .complex [.t 5, .t 8]), JB 2 9]) .ret))
theorem fi117 : FI Tryz.prog 117 cf117 ac117 [.t 2] [0, 1, 2] 10 := FI_of (c := Tryz.f117.body.getD .skip) Tryz.func117 (by kernel_rfl) (by rfl) (by rfl) (by kernel_rfl) (by kernel_rfl) rfl rfl rfl
@[simp] theorem cfP117 : cf117.P = Tryz.prog := (rfl)
end Go.Fx.YtlhdpfaohphbaaaGreat
namespace Go.Fx
open Go
theorem aS {x : Int} (h1 : -9223372036854775808 ≤ x) (h2 : x ≤ 9223372036854775807) : IntKind.i64.wrap x = x := by
 simp [IntKind.wrap, IntKind.signed, IntKind.bits]; split <;> omega
theorem pS {x : Int} (h1 : 0 ≤ x) (h2 : x ≤ 18446744073709551615) : IntKind.u64.wrap x = x := by
 simp [IntKind.wrap, IntKind.signed, IntKind.bits]; omega
theorem D0 {x : Int} (h : (Lit.int .u64 x).wf = true) : 0 ≤ x ∧ x ≤ 18446744073709551615 := by
 simp [Lit.wf, IntKind.min, IntKind.max, IntKind.signed, IntKind.bits] at h
 omega
theorem GO (x : Int) (j : Nat) (hj : j ≤ 62) : lI .u64 x (2 ^ j - 1) = x % 2 ^ j := by
 have h2 : (2 : Int) ^ j = ((2 ^ j : Nat) : Int) := by simp
 have hlt : (2 : Nat) ^ j ≤ 2 ^ 62 := Nat.pow_le_pow_right (by decide) hj
 have hpos : 0 < (2 : Nat) ^ j := Nat.pow_pos (by decide)
 show IntKind.u64.wrap (((BitVec.ofInt 64 x &&& BitVec.ofInt 64 (2 ^ j - 1)).toNat : Nat) : Int) = _
 rw [BitVec.toNat_and, BitVec.toNat_ofInt, BitVec.toNat_ofInt]
 have e1 : ((2 : Int) ^ j - 1) % ((2 ^ 64 : Nat) : Int) = (2 ^ j - 1 : Nat) := by
  rw [h2, Int.emod_eq_of_lt] <;> omega
 rw [e1, Int.toNat_natCast, Nat.and_two_pow_sub_one_eq_mod]
 have e2 : (((x % ((2 ^ 64 : Nat) : Int)).toNat % 2 ^ j : Nat) : Int) = x % 2 ^ j := by
  rw [Int.natCast_emod, Int.toNat_of_nonneg (Int.emod_nonneg _ (by decide)), ← h2]
  exact Int.emod_emod_of_dvd _ (by rw [h2]; exact Int.natCast_dvd_natCast.2 (Nat.pow_dvd_pow 2 (by omega)))
 rw [e2]
 have := Int.emod_lt_of_pos x (b := 2 ^ j) (by rw [h2]; omega)
 have := Int.emod_nonneg x (b := 2 ^ j) (by rw [h2]; omega)
 exact pS this (by omega)
theorem bAnd3 (x : Int) : lI .u64 x 3 = x % 4 := GO x 2 (by decide)
theorem qW (k : IntKind) (x : Int) {p : Int} {q : Nat} (hp : p = q) (hq : q ≤ k.bits) : jA k x p = x / 2 ^ q := by
 subst hp
 unfold jA
 rw [show min ((q : Int)).toNat k.bits = q by omega]
 exact Int.fdiv_eq_ediv_of_nonneg _ (Int.pow_nonneg (by decide))
theorem C8 {a c : Int} {j : Nat} (ha : 0 ≤ a) (hal : a < 2 ^ j) (hc : 0 ≤ c) (hs : a + c * 2 ^ j < 2 ^ 64) : bOr .u64 a (c * 2 ^ j) = a + c * 2 ^ j := by
 obtain ⟨a', rfl⟩ := Int.eq_ofNat_of_zero_le ha
 obtain ⟨c', rfl⟩ := Int.eq_ofNat_of_zero_le hc
 have h2 : (2 : Int) ^ j = ((2 ^ j : Nat) : Int) := by simp
 rw [h2] at hal hs ⊢
 have e : (c' : Int) * ((2 ^ j : Nat) : Int) = ((2 ^ j * c' : Nat) : Int) := by rw [Int.natCast_mul, Int.mul_comm]
 rw [e] at hs ⊢
 have hs' : a' + 2 ^ j * c' < 2 ^ 64 := by omega
 show IntKind.u64.wrap (((BitVec.ofInt 64 (a' : Int) ||| BitVec.ofInt 64 ((2 ^ j * c' : Nat) : Int)).toNat : Nat) : Int) = _
 rw [BitVec.toNat_or, BitVec.toNat_ofInt, BitVec.toNat_ofInt]
 have e1 : ((a' : Int) % ((2 ^ 64 : Nat) : Int)).toNat = a' := by omega
 have e2 : (((2 ^ j * c' : Nat) : Int) % ((2 ^ 64 : Nat) : Int)).toNat = 2 ^ j * c' := by omega
 rw [e1, e2, Nat.or_comm, ← Nat.two_pow_add_eq_or_of_lt (by omega) c', pS (by omega) (by omega)]
 omega
theorem D3 {x p : Int} {q : Nat} (hp : p = q) (hq : q ≤ 64) (hx : 0 ≤ x) (hb : x * 2 ^ q < 2 ^ 64) : mE .u64 x p = x * 2 ^ q := by
 subst hp
 unfold mE
 rw [show min ((q : Int)).toNat IntKind.u64.bits = q by simp only [IntKind.bits]; omega]
 have : 0 ≤ x * 2 ^ q := Int.mul_nonneg hx (Int.pow_nonneg (by decide))
 exact pS this (by omega)
def W64 (x : Int) : Prop := 0 ≤ x ∧ x < 18446744073709551616
def bt (x : Int) (i : Nat) : Bool := x.toNat.testBit i
def bv (x : Int) : BitVec 64 := BitVec.ofInt 64 x
theorem tX {x : Int} (h : W64 x) : ((bv x).toNat : Int) = x := by
 unfold bv W64 at *
 rw [BitVec.toNat_ofInt]
 omega
theorem jX {x : Int} (h : W64 x) (i : Nat) : bt x i = (bv x).getLsbD i := by
 unfold bt
 have := tX h
 rw [show x.toNat = (bv x).toNat by omega, BitVec.testBit_toNat]
theorem l_ (v : BitVec 64) : W64 (v.toNat : Int) := ⟨by omega, by have := v.isLt; omega⟩
theorem oY (v : BitVec 64) : IntKind.u64.wrap (v.toNat : Int) = v.toNat := by
 have := l_ v
 unfold W64 at this
 exact pS this.1 (by omega)
theorem nL (v : BitVec 64) (i : Nat) : bt (v.toNat : Int) i = v.getLsbD i := by
 unfold bt; rw [Int.toNat_natCast, BitVec.testBit_toNat]
theorem AJ (a b : Int) : lI .u64 a b = ((bv a &&& bv b).toNat : Nat) := oY _
theorem or_eq (a b : Int) : bOr .u64 a b = ((bv a ||| bv b).toNat : Nat) := oY _
theorem ES (a b : Int) : nQ .u64 a b = ((bv a ^^^ bv b).toNat : Nat) := oY _
theorem E4 (a b : Int) : bClr .u64 a b = ((bv a &&& ~~~bv b).toNat : Nat) := oY _
theorem HF (a : Int) : rH .u64 a = ((~~~bv a).toNat : Nat) := by
 have h1 : rH .u64 a = IntKind.u64.wrap ((BitVec.ofInt 64 18446744073709551615 ^^^ bv a).toNat : Nat) := rfl
 have h2 : BitVec.ofInt 64 18446744073709551615 = BitVec.allOnes 64 := by decide
 rw [h1, oY, h2, BitVec.allOnes_xor]
@[simp] theorem W_and {a b : Int} : W64 (lI .u64 a b) := by rw [AJ]; exact l_ _
@[simp] theorem W_or {a b : Int} : W64 (bOr .u64 a b) := by rw [or_eq]; exact l_ _
@[simp] theorem W_xor {a b : Int} : W64 (nQ .u64 a b) := by rw [ES]; exact l_ _
@[simp] theorem W_clr {a b : Int} : W64 (bClr .u64 a b) := by rw [E4]; exact l_ _
@[simp] theorem W_not {a : Int} : W64 (rH .u64 a) := by rw [HF]; exact l_ _
theorem G7 {a b : Int} (ha : W64 a) (hb : W64 b) (i : Nat) : bt (lI .u64 a b) i = (bt a i && bt b i) := by
 rw [AJ, nL, jX ha, jX hb]; simp
theorem bt_or {a b : Int} (ha : W64 a) (hb : W64 b) (i : Nat) : bt (bOr .u64 a b) i = (bt a i || bt b i) := by
 rw [or_eq, nL, jX ha, jX hb]; simp
theorem GA {a b : Int} (ha : W64 a) (hb : W64 b) (i : Nat) : bt (nQ .u64 a b) i = (bt a i ^^ bt b i) := by
 rw [ES, nL, jX ha, jX hb]; simp
theorem bt_clr {a b : Int} (ha : W64 a) (hb : W64 b) {i : Nat} (hi : i < 64) : bt (bClr .u64 a b) i = (bt a i && !bt b i) := by
 rw [E4, nL, jX ha, jX hb]; simp [hi]
theorem bt_not {a : Int} (ha : W64 a) {i : Nat} (hi : i < 64) : bt (rH .u64 a) i = !bt a i := by
 rw [HF, nL, jX ha]; simp [hi]
theorem F7 {a : Int} (ha : W64 a) (k : Nat) (hk : k ≤ 64) : jA .u64 a (k : Int) = ((bv a >>> k).toNat : Nat) := by
 rw [qW _ _ rfl (by simpa [IntKind.bits] using hk), BitVec.toNat_ushiftRight, Nat.shiftRight_eq_div_pow, Int.natCast_ediv, tX ha]
 simp
theorem GY {a : Int} (ha : W64 a) (k : Nat) (hk : k ≤ 64) : mE .u64 a (k : Int) = ((bv a <<< k).toNat : Nat) := by
 unfold mE
 rw [show min ((k : Int)).toNat IntKind.u64.bits = k by simp only [IntKind.bits]; omega, BitVec.toNat_shiftLeft, Nat.shiftLeft_eq]
 have : IntKind.u64.wrap (a * 2 ^ k) = (a * 2 ^ k) % 18446744073709551616 := by
  simp [IntKind.wrap, IntKind.signed, IntKind.bits]
 rw [this, Int.natCast_emod, Int.natCast_mul, tX ha]
 simp
theorem W_shr {a : Int} (ha : W64 a) {k : Nat} (hk : k ≤ 64) : W64 (jA .u64 a (k : Int)) := by rw [F7 ha k hk]; exact l_ _
theorem W_shl {a : Int} (ha : W64 a) {k : Nat} (hk : k ≤ 64) : W64 (mE .u64 a (k : Int)) := by rw [GY ha k hk]; exact l_ _
theorem bt_shr {a : Int} (ha : W64 a) {k : Nat} (hk : k ≤ 64) (i : Nat) : bt (jA .u64 a (k : Int)) i = bt a (k + i) := by
 rw [F7 ha k hk, nL, jX ha]; simp
theorem G1 {a : Int} (ha : W64 a) {k : Nat} (hk : k ≤ 64) (i : Nat) : bt (mE .u64 a (k : Int)) i = (decide (i < 64) && (!decide (i < k) && bt a (i - k))) := by
 rw [GY ha k hk, nL, jX ha]; simp [BitVec.getLsbD_shiftLeft, Bool.and_assoc]
theorem lZ {a : Int} (ha : 0 ≤ a) (j : Nat) : a / 4 ^ j % 4 = (if bt a (2 * j + 1) then 2 else 0) + (if bt a (2 * j) then 1 else 0) := by
 obtain ⟨n, rfl⟩ := Int.eq_ofNat_of_zero_le ha
 unfold bt
 have h4 : (4 : Int) ^ j = ((2 ^ (2 * j) : Nat) : Int) := by rw [Nat.pow_mul]; simp
 rw [h4, ← Int.natCast_ediv, Int.toNat_natCast, Nat.testBit_eq_decide_div_mod_eq, Nat.testBit_eq_decide_div_mod_eq]
 rw [Nat.pow_succ, ← Nat.div_div_eq_div_mul]
 generalize n / 2 ^ (2 * j) = m
 by_cases h1 : m / 2 % 2 = 1 <;> by_cases h0 : m % 2 = 1 <;> simp [h1, h0] <;> omega
theorem M_ {a b : Nat} (ha : a < 2 ^ 64) (hb : b < 2 ^ 64) : lI .u64 (a : Int) (b : Int) = ((a &&& b : Nat) : Int) := by
 rw [AJ]
 unfold bv
 rw [BitVec.toNat_and, BitVec.toNat_ofInt, BitVec.toNat_ofInt]
 have e1 : ((a : Int) % ((2 ^ 64 : Nat) : Int)).toNat = a := by omega
 have e2 : ((b : Int) % ((2 ^ 64 : Nat) : Int)).toNat = b := by omega
 rw [e1, e2]
theorem NN {a k : Nat} (hk : k ≤ 64) : jA .u64 (a : Int) (k : Int) = ((a / 2 ^ k : Nat) : Int) := by
 rw [qW _ _ rfl (by simpa [IntKind.bits] using hk)]
 simp
def val (b : Nat) : List Nat → Nat
 | [] => 0
 | x :: xs => x + 2 ^ b * val b xs
def prs : List Nat → List Nat
 | x :: y :: r => (x + y) :: prs r
 | _ => []
def msk (b : Nat) : Nat → Nat
 | 0 => 0
 | n + 1 => (2 ^ b - 1) + 2 ^ (2 * b) * msk b n
theorem rR {a b m c k : Nat} (ha : a < 2 ^ k) (hm : m < 2 ^ k) : (a + 2 ^ k * b) &&& (m + 2 ^ k * c) = (a &&& m) + 2 ^ k * (b &&& c) := by
 apply Nat.eq_of_testBit_eq
 intro i
 have ham : a &&& m < 2 ^ k := Nat.lt_of_le_of_lt Nat.and_le_left ha
 rw [Nat.testBit_and, Nat.add_comm a, Nat.add_comm m, Nat.add_comm (a &&& m), Nat.testBit_two_pow_mul_add _ ha, Nat.testBit_two_pow_mul_add _ hm, Nat.testBit_two_pow_mul_add _ ham]
 split <;> simp [Nat.testBit_and]
theorem FS {b : Nat} : ∀ (xs : List Nat), (∀ x ∈ xs, x < 2 ^ b) → val b xs < 2 ^ (b * xs.length)
 | [], _ => by simp [val]
 | x :: xs, h => by
  have ih := FS xs fun y hy => h y (by simp [hy])
  have h0 := h x (by simp)
  simp only [val, List.length_cons, Nat.mul_succ, Nat.pow_add]
  have : 2 ^ b * val b xs + 2 ^ b ≤ 2 ^ b * 2 ^ (b * xs.length) := by
   rw [← Nat.mul_succ]; exact Nat.mul_le_mul_left _ ih
  rw [Nat.mul_comm (2 ^ (b * xs.length))]; omega
theorem t7 {b : Nat} : ∀ (n : Nat) (xs : List Nat), xs.length = 2 * n → (∀ x ∈ xs, x < 2 ^ b) → (val b xs / 2 ^ b &&& msk b n) + (val b xs &&& msk b n) = val (2 * b) (prs xs)
 | 0, xs, hl, _ => by
  have : xs = [] := List.eq_nil_of_length_eq_zero (by simpa using hl)
  subst this; simp [val, prs, msk]
 | n + 1, [], hl, _ => by simp at hl
 | n + 1, [_], hl, _ => by simp at hl; omega
 | n + 1, x :: y :: r, hl, h => by
  have ih := t7 n r (by simp at hl; omega) fun z hz => h z (by simp [hz])
  have hx := h x (by simp)
  have hy := h y (by simp)
  have hp : 0 < 2 ^ b := Nat.pow_pos (by decide)
  have h2 : 2 ^ (2 * b) = 2 ^ b * 2 ^ b := by rw [Nat.two_mul, Nat.pow_add]
  have e1 : val b (x :: y :: r) = (x + 2 ^ b * y) + 2 ^ (2 * b) * val b r := by
   simp only [val, h2, Nat.mul_add, Nat.mul_assoc]; omega
  have hxy : x + 2 ^ b * y < 2 ^ (2 * b) := by
   rw [h2]
   have : 2 ^ b * y + 2 ^ b ≤ 2 ^ b * 2 ^ b := by rw [← Nat.mul_succ]; exact Nat.mul_le_mul_left _ hy
   omega
  have e2 : val b (x :: y :: r) / 2 ^ b = (y + 2 ^ b * (val b r % 2 ^ b)) + 2 ^ (2 * b) * (val b r / 2 ^ b) := by
   have : val b (x :: y :: r) = x + 2 ^ b * (y + 2 ^ b * val b r) := rfl
   rw [this, Nat.add_mul_div_left _ _ hp, Nat.div_eq_of_lt hx, Nat.zero_add, h2]
   have := Nat.mod_add_div (val b r) (2 ^ b)
   conv => lhs; rw [← this]
   rw [Nat.mul_add, Nat.mul_assoc, Nat.add_assoc]
  have hyv : y + 2 ^ b * (val b r % 2 ^ b) < 2 ^ (2 * b) := by
   rw [h2]
   have hv := Nat.mod_lt (val b r) hp
   have : 2 ^ b * (val b r % 2 ^ b) + 2 ^ b ≤ 2 ^ b * 2 ^ b := by rw [← Nat.mul_succ]; exact Nat.mul_le_mul_left _ hv
   omega
  have hM : 2 ^ b - 1 < 2 ^ (2 * b) := by
   rw [h2]
   have : 2 ^ b * 1 ≤ 2 ^ b * 2 ^ b := Nat.mul_le_mul_left _ hp
   omega
  simp only [msk]
  rw [e2, e1, rR hyv hM, rR hxy hM, Nat.and_two_pow_sub_one_eq_mod, Nat.and_two_pow_sub_one_eq_mod, Nat.add_mul_mod_self_left, Nat.add_mul_mod_self_left, Nat.mod_eq_of_lt hx, Nat.mod_eq_of_lt hy]
  simp only [prs, val]
  rw [← ih, Nat.mul_add]
  omega
theorem wY {b : Nat} : ∀ (n : Nat) (xs : List Nat), xs.length = 2 * n → (∀ x ∈ xs, 2 * x < 2 ^ b) → (val b xs / 2 ^ b + val b xs) &&& msk b n = val (2 * b) (prs xs)
 | 0, xs, hl, _ => by
  have : xs = [] := List.eq_nil_of_length_eq_zero (by simpa using hl)
  subst this; simp [val, prs, msk]
 | n + 1, [], hl, _ => by simp at hl
 | n + 1, [_], hl, _ => by simp at hl; omega
 | n + 1, x :: y :: r, hl, h => by
  have ih := wY n r (by simp at hl; omega) fun z hz => h z (by simp [hz])
  have hx := h x (by simp)
  have hy := h y (by simp)
  have hp : 0 < 2 ^ b := Nat.pow_pos (by decide)
  have h2 : 2 ^ (2 * b) = 2 ^ b * 2 ^ b := by rw [Nat.two_mul, Nat.pow_add]
  have hr0 : 2 * (val b r % 2 ^ b) < 2 ^ b ∨ val b r % 2 ^ b = 0 := by
   cases r with
   | nil => right; simp [val]
   | cons z r =>
    left
    have hz := h z (by simp)
    simp only [val]
    rw [Nat.add_mul_mod_self_left, Nat.mod_eq_of_lt (by omega)]
    exact hz
  have e : val b (x :: y :: r) / 2 ^ b + val b (x :: y :: r) = ((x + y) + 2 ^ b * (val b r % 2 ^ b + y)) + 2 ^ (2 * b) * (val b r / 2 ^ b + val b r) := by
   have e0 : val b (x :: y :: r) = x + 2 ^ b * (y + 2 ^ b * val b r) := rfl
   rw [e0, Nat.add_mul_div_left _ _ hp, Nat.div_eq_of_lt (by omega), Nat.zero_add, h2]
   have := Nat.mod_add_div (val b r) (2 ^ b)
   have e3 : 2 ^ b * val b r = 2 ^ b * (val b r % 2 ^ b) + 2 ^ b * 2 ^ b * (val b r / 2 ^ b) := by
    conv => lhs; rw [← this]
    rw [Nat.mul_add, Nat.mul_assoc]
   simp only [Nat.mul_add, ← Nat.mul_assoc] at *
   omega
  have hlow : (x + y) + 2 ^ b * (val b r % 2 ^ b + y) < 2 ^ (2 * b) := by
   rw [h2]
   have hs : val b r % 2 ^ b + y < 2 ^ b := by omega
   have : 2 ^ b * (val b r % 2 ^ b + y) + 2 ^ b ≤ 2 ^ b * 2 ^ b := by rw [← Nat.mul_succ]; exact Nat.mul_le_mul_left _ hs
   omega
  have hM : 2 ^ b - 1 < 2 ^ (2 * b) := by
   rw [h2]
   have : 2 ^ b * 1 ≤ 2 ^ b * 2 ^ b := Nat.mul_le_mul_left _ hp
   omega
  simp only [msk]
  rw [e, rR hlow hM, Nat.and_two_pow_sub_one_eq_mod, Nat.add_mul_mod_self_left, Nat.mod_eq_of_lt (by omega : x + y < 2 ^ b), ih]
  rfl
theorem sR : ∀ (n : Nat) (xs : List Nat), xs.length = 2 * n → (prs xs).sum = xs.sum ∧ (prs xs).length = n
 | 0, xs, hl => by
  have : xs = [] := List.eq_nil_of_length_eq_zero (by simpa using hl)
  subst this; simp [prs]
 | n + 1, [], hl => by simp at hl
 | n + 1, [_], hl => by simp at hl; omega
 | n + 1, x :: y :: r, hl => by
  have ih := sR n r (by simp at hl; omega)
  simp only [prs, List.sum_cons, List.length_cons, ih.1, ih.2]
  exact ⟨by omega, trivial⟩
theorem uQ {k : Nat} : ∀ (xs : List Nat), (∀ x ∈ xs, x ≤ k) → ∀ x ∈ prs xs, x ≤ 2 * k
 | [], _, x, hx => by simp [prs] at hx
 | [_], _, x, hx => by simp [prs] at hx
 | a :: b :: r, h, x, hx => by
  simp only [prs, List.mem_cons] at hx
  have ha := h a (by simp)
  have hb := h b (by simp)
  rcases hx with rfl | hx
  ·omega
  ·exact uQ r (fun z hz => h z (by simp [hz])) x hx
def bits (x : Nat) (n : Nat) : List Nat := (List.range n).map fun i => x / 2 ^ i % 2
theorem yX : ∀ (n x : Nat), x < 2 ^ n → val 1 (bits x n) = x
 | 0, x, h => by simp [bits, val]; omega
 | n + 1, x, h => by
  have ih := yX n (x / 2) (by rw [Nat.pow_succ] at h; omega)
  unfold bits at ih ⊢
  rw [List.range_succ_eq_map, List.map_cons, List.map_map]
  have : ((fun i => x / 2 ^ i % 2) ∘ Nat.succ) = fun i => x / 2 / 2 ^ i % 2 := by
   funext i
   simp only [Function.comp, Nat.succ_eq_add_one]
   rw [Nat.pow_succ, Nat.mul_comm, Nat.div_div_eq_div_mul]
  simp only [val, this, ih, Nat.pow_zero, Nat.div_one]
  omega
theorem HG {b k : Nat} : ∀ (xs : List Nat), (∀ x ∈ xs, x ≤ k) → val b xs ≤ k * val b (List.replicate xs.length 1)
 | [], _ => by simp [val]
 | x :: xs, h => by
  have ih := HG (b := b) xs fun y hy => h y (by simp [hy])
  have h0 := h x (by simp)
  simp only [val, List.length_cons, List.replicate_succ, Nat.mul_add, Nat.mul_one]
  have : 2 ^ b * val b xs ≤ 2 ^ b * (k * val b (List.replicate xs.length 1)) := Nat.mul_le_mul_left _ ih
  rw [Nat.mul_left_comm k]; omega
theorem MH {f0 f1 f2 f3 f4 f5 f6 f7 a3 : Nat} (g0 : f0 ≤ 8) (g1 : f1 ≤ 8) (g2 : f2 ≤ 8) (g3 : f3 ≤ 8) (g4 : f4 ≤ 8) (g5 : f5 ≤ 8) (g6 : f6 ≤ 8) (g7 : f7 ≤ 8)
  (e : a3 = f0 + 256 * (f1 + 256 * (f2 + 256 * (f3 + 256 * (f4 + 256 * (f5 + 256 * (f6 + 256 * f7))))))) {a4 a5 a6 : Nat} (h4 : a4 = a3 + a3 / 256) (h5 : a5 = a4 + a4 / 65536) (h6 : a6 = a5 + a5 / 4294967296) :
  a6 % 128 = f0 + f1 + f2 + f3 + f4 + f5 + f6 + f7 ∧ a4 < 2 ^ 64 ∧ a5 < 2 ^ 64 ∧ a6 < 2 ^ 64 := by
 have q1 : a3 / 256 = f1 + 256 * (f2 + 256 * (f3 + 256 * (f4 + 256 * (f5 + 256 * (f6 + 256 * f7))))) := by
  rw [e, Nat.add_mul_div_left _ _ (by decide), Nat.div_eq_of_lt (by omega), Nat.zero_add]
 have e4 : a4 = ((f0 + f1) + 256 * (f1 + f2)) + 65536 * ((f2 + f3) + 256 * ((f3 + f4) + 256 * ((f4 + f5) + 256 * ((f5 + f6) + 256 * ((f6 + f7) + 256 * f7))))) := by
  rw [h4, q1, e]; clear q1 e h4 h5 h6 g0 g1 g2 g3 g4 g5 g6 g7; omega
 clear h4 q1 e
 have q2 : a4 / 65536 = (f2 + f3) + 256 * ((f3 + f4) + 256 * ((f4 + f5) + 256 * ((f5 + f6) + 256 * ((f6 + f7) + 256 * f7)))) := by
  rw [e4, Nat.add_mul_div_left _ _ (by decide), Nat.div_eq_of_lt (by clear e4 h5 h6; omega), Nat.zero_add]
 have e5 : a5 = ((f0 + f1 + f2 + f3) + 256 * ((f1 + f2 + f3 + f4) + 256 * ((f2 + f3 + f4 + f5) + 256 * (f3 + f4 + f5 + f6)))) + 4294967296 * ((f4 + f5 + f6 + f7) + 256 * ((f5 + f6 + f7) + 256 * ((f6 + f7) + 256 * f7))) := by
  rw [h5, q2, e4]; clear q2 e4 h5 h6 g0 g1 g2 g3 g4 g5 g6 g7; omega
 clear h5 q2
 have q3 : a5 / 4294967296 = (f4 + f5 + f6 + f7) + 256 * ((f5 + f6 + f7) + 256 * ((f6 + f7) + 256 * f7)) := by
  rw [e5, Nat.add_mul_div_left _ _ (by decide), Nat.div_eq_of_lt (by clear e4 e5 h6; omega), Nat.zero_add]
 have e6 : a6 = (f0 + f1 + f2 + f3 + f4 + f5 + f6 + f7) + 128 * (2 * ((f1 + f2 + f3 + f4 + f5 + f6 + f7) + 256 * ((f2 + f3 + f4 + f5 + f6 + f7) + 256 * ((f3 + f4 + f5 + f6 + f7) + 256 * ((f4 + f5 + f6 + f7) + 256 * ((f5 + f6 + f7) + 256 * ((f6 + f7) + 256 * f7))))))) := by
  rw [h6, q3, e5]; clear q3 e4 e5 h6 g0 g1 g2 g3 g4 g5 g6 g7; omega
 clear h6 q3
 refine ⟨?_, ?_, ?_, ?_⟩
 ·rw [e6, Nat.add_mul_mod_self_left, Nat.mod_eq_of_lt (by clear e4 e5 e6; omega)]
 ·rw [e4]; clear e4 e5 e6; omega
 ·rw [e5]; clear e4 e5 e6; omega
 ·rw [e6]; clear e4 e5 e6; omega
theorem NK {a b : Nat} (h : a ≤ 4919131752989213764) (h2 : b ≤ a) : b + a < 2 ^ 64 := by omega
theorem MK {f0 f1 f2 f3 f4 f5 f6 f7 : Nat} (g0 : f0 ≤ 8) (g1 : f1 ≤ 8) (g2 : f2 ≤ 8) (g3 : f3 ≤ 8) (g4 : f4 ≤ 8) (g5 : f5 ≤ 8) (g6 : f6 ≤ 8) (g7 : f7 ≤ 8) : f0 + f1 + f2 + f3 + f4 + f5 + f6 + f7 ≤ 64 := by omega
set_option maxHeartbeats 2000000 in
theorem pop_ok (x : Nat) (h : x < 2 ^ 64) :
  let a1 := (x / 2 ^ 1 &&& 6148914691236517205) + (x &&& 6148914691236517205)
  let a2 := (a1 / 2 ^ 2 &&& 3689348814741910323) + (a1 &&& 3689348814741910323)
  let a3 := (a2 / 2 ^ 4 + a2) &&& 1085102592571150095
  let a4 := a3 + a3 / 2 ^ 8
  let a5 := a4 + a4 / 2 ^ 16
  let a6 := a5 + a5 / 2 ^ 32
  a6 % 128 = (bits x 64).sum ∧ a1 < 2 ^ 64 ∧ a2 < 2 ^ 64 ∧ a2 / 2 ^ 4 + a2 < 2 ^ 64 ∧ a4 < 2 ^ 64 ∧ a5 < 2 ^ 64 ∧ a6 < 2 ^ 64 ∧ (bits x 64).sum ≤ 64 := by
 intro a1 a2 a3 a4 a5 a6
 have hb : (bits x 64).length = 2 * 32 := by simp [bits]
 have hb1 : ∀ y ∈ bits x 64, y ≤ 1 := by
  intro y hy
  obtain ⟨i, _, rfl⟩ := List.mem_map.1 hy
  omega
 have m0 : msk 1 32 = 6148914691236517205 := by decide
 have m1 : msk 2 16 = 3689348814741910323 := by decide
 have m2 : msk 4 8 = 1085102592571150095 := by decide
 have s1 := sR 32 _ hb
 have s2 := sR 16 _ s1.2
 have s3 := sR 8 _ s2.2
 have l1 := uQ _ hb1
 have l2 := uQ _ l1
 have l3 := uQ _ l2
 have e1 : a1 = val 2 (prs (bits x 64)) := by
  have := t7 (b := 1) 32 (bits x 64) hb (fun y hy => by have := hb1 y hy; omega)
  rw [yX 64 x h, m0] at this; exact this
 have e2 : a2 = val 4 (prs (prs (bits x 64))) := by
  have := t7 (b := 2) 16 _ s1.2 (fun y hy => by have := l1 y hy; omega)
  rw [← e1, m1] at this; exact this
 have e3 : a3 = val 8 (prs (prs (prs (bits x 64)))) := by
  have := wY (b := 4) 8 _ s2.2 (fun y hy => by have := l2 y hy; omega)
  rw [← e2, m2] at this; exact this
 have b1 := FS (b := 2) _ (fun y hy => by have := l1 y hy; omega : ∀ y ∈ prs (bits x 64), y < 2 ^ 2)
 rw [← e1, s1.2] at b1
 have b2 : a2 ≤ 4919131752989213764 := by
  have := HG (b := 4) (k := 4) _ l2
  rw [s2.2, ← e2] at this
  exact this
 have hs : (prs (prs (prs (bits x 64)))).sum = (bits x 64).sum := by rw [s3.1, s2.1, s1.1]
 generalize prs (prs (prs (bits x 64))) = fs at *
 obtain ⟨hsum, hlen⟩ := s3
 match fs, hlen with
 | [f0, f1, f2, f3, f4, f5, f6, f7], _ =>
  have g0 := l3 f0 (by simp)
  have g1 := l3 f1 (by simp)
  have g2 := l3 f2 (by simp)
  have g3 := l3 f3 (by simp)
  have g4 := l3 f4 (by simp)
  have g5 := l3 f5 (by simp)
  have g6 := l3 f6 (by simp)
  have g7 := l3 f7 (by simp)
  have e3' : a3 = f0 + 256 * (f1 + 256 * (f2 + 256 * (f3 + 256 * (f4 + 256 * (f5 + 256 * (f6 + 256 * f7)))))) := by
   rw [e3]; simp only [val]; rfl
  have z := MH g0 g1 g2 g3 g4 g5 g6 g7 e3' (a4 := a4) (a5 := a5) (a6 := a6) rfl rfl rfl
  simp only [List.sum_cons, List.sum_nil] at hs
  have e7 : a2 / 2 ^ 4 ≤ a2 := Nat.div_le_self _ _
  have t1 : f0 + f1 + f2 + f3 + f4 + f5 + f6 + f7 = (bits x 64).sum := by rw [← hs]; simp only [Nat.add_zero, Nat.add_assoc]
  exact ⟨z.1.trans t1, Nat.lt_of_lt_of_le b1 (by decide), Nat.lt_of_le_of_lt b2 (by decide), NK b2 e7, z.2.1, z.2.2.1, z.2.2.2, t1 ▸ MK g0 g1 g2 g3 g4 g5 g6 g7⟩
end Go.Fx
namespace Go.Fx.Flt
open Go Ieee
abbrev f : Format := Ieee.double
def Z (d : Datum) (s : Bool) (N : Nat) : Prop := ∃ p : Nat, d = .number s (N * 2 ^ p) (-(p : Int)) ∧ p ≤ 1074 ∧ (N ≠ 0 → p ≤ 200)
def geF (a b : Nat) : Bool := f.order a b == some .gt || f.order a b == some .eq
def leF (a b : Nat) : Bool := f.order a b == some .lt || f.order a b == some .eq
def eqF (a b : Nat) : Bool := f.order a b == some .eq
def ltF (a b : Nat) : Bool := f.order a b == some .lt
def truncF (b : Nat) : Nat := f.write ((f.read b).integral .zero)
abbrev cm : Nat := 13938640846711685120
abbrev cM : Nat := 4715268809856909312
def EQ (b : Nat) : Bool := geF b cm && (leF b cM && (eqF b (truncF b) && (!eqF b 0 || decide (b < 2 ^ 63))))
end Go.Fx.Flt
namespace Go.Fx
open Go
end Go.Fx
namespace Go.Fx.YtlhdpfaohphbaaaGreat
open Go Go.Fx Go.Proofs
abbrev I (n : Int) : D := .pl (.int .i64 n)
abbrev U (n : Int) : D := .pl (.int .u64 n)
abbrev B (b : Bool) : D := .pl (.bool b)
def i8 (x : Int) : List D := [U x]
def bH (x : Int) : List D := [I x]
theorem set_U (l : List Int) (i : Nat) (x : Int) : (em i8 l).set i [D.pl (.int .u64 x)] = em i8 (l.set i x) := rB
theorem set_I (l : List Int) (i : Nat) (x : Int) : (em bH l).set i [D.pl (.int .i64 x)] = em bH (l.set i x) := rB
theorem app_U (l : List Int) (x : Int) : em i8 l ++ [[D.pl (.int .u64 x)]] = em i8 (l ++ [x]) := fP
theorem rep_U (k : Nat) (x : Int) : List.replicate k [D.pl (.int .u64 x)] = em i8 (List.replicate k x) := GF (enc := i8)
theorem rep_I (k : Nat) (x : Int) : List.replicate k [D.pl (.int .i64 x)] = em bH (List.replicate k x) := GF (enc := bH)
theorem imm_U (l : List Int) : D.immss (em i8 l) = true := gQ fun _ => rfl
theorem imm_I (l : List Int) : D.immss (em bH l) = true := gQ fun _ => rfl
theorem ia_U {l : List Int} {mem : Mem} {j : IntKind} {i : Int} : iaD mem 1 (.sl (em i8 l)) (.pl (.int j i)) = if 0 ≤ i ∧ i < l.length then some (.pt (i8 (l[i.toNat]?.getD 0))) else none := iX fun _ => rfl
theorem ia_I {l : List Int} {mem : Mem} {j : IntKind} {i : Int} : iaD mem 1 (.sl (em bH l)) (.pl (.int j i)) = if 0 ≤ i ∧ i < l.length then some (.pt (bH (l[i.toNat]?.getD 0))) else none := iX fun _ => rfl
attribute [simp] set_U set_I app_U rep_U rep_I imm_U imm_I ia_U ia_I i8 bH
theorem wt_i64 {n : Nat} {ds : List D} (h : Wt Tryz.prog n 3 ds) : ∃ z, ds = [I z] ∧ (Lit.int .i64 z).wf = true := by
 cases n with
 | zero => exact h.elim
 | succ n => simpa only [Wt, Tryz.underlying3] using h
theorem MF {x : D} (h : Arg Tryz.prog 3 x) : ∃ n, x = I n ∧ (Lit.int .i64 n).wf = true := by
 obtain ⟨n, ds, h, k⟩ := h
 simp only [Tryz.underlying3] at k
 obtain ⟨z, rfl, hz⟩ := wt_i64 h
 exact ⟨z, by simpa using k.symm, hz⟩
end Go.Fx.YtlhdpfaohphbaaaGreat
namespace Go.Fx
open Go Go.Fx.Flt
section
variable {P : Program} {ty : TypeId} {a b c d : Nat}
abbrev FL (b : Nat) : D := .pl (.float .f64 b)
abbrev CX (a b : Nat) : D := .pl (.complex .f64 a b)
@[simp] theorem bi_real : biD P .real [CX a b] = some (FL a) := (rfl)
@[simp] theorem bi_imag : biD P .imag [CX a b] = some (FL b) := (rfl)
@[simp] theorem bi_complex : biD P .complex [FL a, FL b] = some (CX a b) := (rfl)
theorem NL {s t : TypeId} {k : IntKind} {n : Int} (hs : P.underlying s = some (.int k)) (ht : P.underlying t = some (.float .f64)) : cvD P s t (.pl (.int k n)) = some (FL (FloatKind.f64.nearest n)) := by
 simp [cvD, lit, convert, underlying, program, Bind.bind, Sem.bind, Sem.look, hs, ht, Pure.pure, Conv.intToFloat]
end
def rLe (d d' : D) : Prop := ∀ (w : World) (S : Nat → Prop) (φ : bA) (x : Value), Rep w S φ d x → Rep w S φ d' x
def rLes (ds ds' : List D) : Prop := ∀ (w : World) (S : Nat → Prop) (φ : bA) (xs : List Value), RepVs w S φ ds xs → RepVs w S φ ds' xs
theorem rLe.refl {d : D} : rLe d d := fun _ _ _ _ h => h
theorem cE : rLe (.pl (.slice none 0 0)) (.sl []) := fun _ _ _ _ h => u0 (.inr (.inr ⟨rfl, .inr rfl⟩)) h
theorem cZ : rLe .zs (.sl []) := fun _ _ _ _ h => u0 (.inr (.inr ⟨rfl, .inl rfl⟩)) h
theorem bT : rLes [] [] := fun _ _ _ _ h => h
theorem bN {d d' : D} {ds ds' : List D} (h : rLe d d') (k : rLes ds ds') : rLes (d :: ds) (d' :: ds') := fun w S φ xs hx => by
 simp only [RepVs] at hx ⊢
 obtain ⟨x, r, rfl, h1, h2⟩ := hx
 exact ⟨x, r, rfl, h _ _ _ _ h1, k _ _ _ _ h2⟩
theorem cH {ds ds' : List D} (h : rLes ds ds') : rLe (.agg ds) (.agg ds') := fun w S φ x hx => by
 simp only [Rep] at hx ⊢
 obtain ⟨vs, rfl, h1⟩ := hx
 exact ⟨vs, rfl, h _ _ _ _ h1⟩
theorem cF {ds ds' : List D} (h : rLes ds ds') : rLe (.tup ds) (.tup ds') := fun w S φ x hx => by
 simp only [Rep] at hx ⊢
 obtain ⟨vs, rfl, h1⟩ := hx
 exact ⟨vs, rfl, h _ _ _ _ h1⟩
theorem bS {P : Program} {f : FuncId} {xs ys : List D} {r : D} (h : rLes xs ys) (k : Pure P f ys r) : Pure P f xs r :=
 ⟨k.1, fun S w vs hS hv => k.2 S w vs hS (h _ _ _ _ hv)⟩
end Go.Fx
namespace Go.Fx.Flt
open Go Ieee
def ngF (b : Nat) : Nat := b ^^^ 2 ^ 63
end Go.Fx.Flt
namespace Go.Fx
open Go Go.Fx.Flt
section
variable {P : Program} {ty : TypeId} {a b c d r s : Nat}
@[simp] theorem un_negF : unD P .neg (FL a) = some (FL (ngF a)) := (rfl)
end
section
variable {C : Cfg} {Q : Exit → St → Prop} {env env' tl : Env} {mem mf mk : Mem} {nx : Nat}
def FA (mf : Mem) (env env' : Env) : Prop := ∀ j d', look env' j = some d' → ∃ d, look env j = some d ∧ (d' = d ∨ frz mf 100 d = some d')
theorem FY (h1 : cD mem mf) (h2 : cD mem mk) (hd : ∀ i, look mf i = none ∨ look mk i = none) (he : FA mf env env') : Wk C ⟨env, tl, mem, nx⟩ ⟨env', [], mk, nx⟩ := by
 intro B N S φ a w hn hs
 have hm := hs.m
 have hmf : MSim S φ mf nx w := gA hm (gI h1) (Nat.le_refl _)
 have hmk0 : MSim S φ mk nx w := gA hm (gI h2) (Nat.le_refl _)
 have hS2 : ∀ b, SF S φ mf b → b < w.heap.size := by
  rintro b (h | ⟨i, blk, l, _, g2, g3, rfl⟩)
  ·exact hm.sub b h
  ·exact hm.lt i l g2 g3
 have hmk : MSim (SF S φ mf) φ mk nx w := ⟨fun i blk hi => by
   obtain ⟨l, g1, g2, g3⟩ := hmk0.mem i blk hi
   refine ⟨l, g1, fun hr hs => ?_, BRep.mono jI (fun _ => rfl) blk g3⟩
   rcases hs with hs | ⟨j, blk', l', k1, k2, k3, k4⟩
   ·exact g2 hr hs
   ·have := hm.inj j i l' l k2 g1 k3 hr k4
    subst this
    rcases hd j with e | e
    ·rw [e] at k1; simp at k1
    ·rw [e] at hi; simp at hi, hm.inj, hm.lt, hm.fresh, hS2⟩
 refine ⟨SF S φ mf, φ, ⟨hs.size, hs.defers.ext hs.m (S' := SF S φ mf) (φ' := φ) (mem' := mem) ⟨fun b hb => .inl hb, fun _ _ _ => rfl, Nat.le_refl _, fun b _ h => h, fun b hb => hb.elim .inl fun ⟨i, blk, l, g1, g2⟩ => .inr (.inr ⟨i, blk, l, h1 i blk g1, g2⟩), rfl, rfl, rfl⟩, fun j d' hj hl => ?_, fun j d _ hl => by simp [look] at hl, hmk⟩,
  ⟨fun b hb => .inl hb, fun _ _ _ => rfl, Nat.le_refl _, fun b _ ⟨i, blk, l, g1, g2, g3, g4⟩ => ⟨i, blk, l, h2 i blk g1, g2, g3, g4⟩, fun b hb => ?_, rfl, rfl, rfl⟩, Grow.refl hn⟩
 ·obtain ⟨d, h3, h4⟩ := he j d' hl
  have hr := hs.env j d hj h3
  rcases h4 with rfl | h4
  ·exact Rep.mono jI _ _ hr
  ·exact Rep.mono (φ' := φ) ⟨fun _ h => h, fun _ _ _ => rfl, fun _ _ h => by simp [cN] at h⟩ _ _ (jU hmf 100 d d' _ h4 hr)
 ·rcases hb with h | ⟨i, blk, l, g1, g2, g3, g4⟩
  ·exact .inl h
  ·exact .inr (.inr ⟨i, blk, l, h1 i blk g1, g2, g3, g4⟩)
theorem M1 {c : Code} {s : St} (h : T C c (fun e s => ∃ s', Wk C s s' ∧ Q e s') s) : T C c Q s := by
 intro x N S φ a w hn hB hs
 refine wpIn_mono (h x N S φ a w hn hB hs) ?_
 rintro e a' w' ⟨s', S', φ', ⟨s2, hw, hq⟩, hs', hx, hg⟩
 obtain ⟨S2, φ2, k1, k2, k3⟩ := hw x N S' φ' a' w' hg.le hs'
 exact ⟨s2, S2, φ2, hq, k1, hx.trans k2, hg.trans k3⟩
def yN (C : Cfg) (Q : Exit → St → Prop) (e : Exit) (s : St) : Prop := ∃ s', Wk C s s' ∧ Q e s'
theorem jD {x : AC} (h : A C (.loop x) (yN C Q) env mem nx) : A C (.loop x) Q env mem nx := by
 rw [uI] at h ⊢
 exact fun c hc => M1 (h c hc)
theorem EM {e : Exit} (h : Q e ⟨env, [], mem, nx⟩) : yN C Q e ⟨env, [], mem, nx⟩ := ⟨_, Wk.refl, h⟩
theorem vB {j : Nat} {d d' : D} (h : look env j = some d) (hf : frz mf 100 d = some d') : FA mf env (upd env j d') := fun i x hx => by
 rcases dW j d' env i x hx with ⟨rfl, rfl⟩ | ⟨_, hx⟩
 ·exact ⟨d, h, .inr hf⟩
 ·exact ⟨x, hx, .inl rfl⟩
theorem HR {e : Exit} {j : Nat} {d d' : D} (hl : look env j = some d) (hf : frz mem 100 d = some d') (hq : Q e ⟨upd env j d', [], [], nx⟩) : yN C Q e ⟨env, tl, mem, nx⟩ :=
 ⟨_, FY (aF mem) (iO mem) (fun i => .inr rfl) (vB hl hf), hq⟩
theorem mH {e : Exit} {j : Nat} {d d' : D} (mf mk : Mem) (hl : look env j = some d) (hf : frz mf 100 d = some d') (h1 : cD mem mf) (h2 : cD mem mk) (hd : ∀ i, look mf i = none ∨ look mk i = none) (hq : Q e ⟨upd env j d', [], mk, nx⟩) : yN C Q e ⟨env, tl, mem, nx⟩ :=
 ⟨_, FY h1 h2 hd (vB hl hf), hq⟩
end
set_option maxRecDepth 100000
abbrev Tx (l : List UInt8) : D := .pl (.string (ByteArray.mk (Array.mk l)))
abbrev By (n : Int) : D := .pl (.int .u8 n)
def dM (b : UInt8) : List D := [By b.toNat]
def a9 (l : List UInt8) : List D := [Tx l]
theorem DK {a b : List UInt8} : (ByteArray.mk (Array.mk a) = ByteArray.mk (Array.mk b)) = (a = b) := by simp
theorem sP {l : List UInt8} : (ByteArray.mk (Array.mk l)).size = l.length := by simp [ByteArray.size]
attribute [simp] DK sP
theorem ba_get {l : List UInt8} {i : Nat} : (ByteArray.mk (Array.mk l))[i]? = l[i]? := by
 by_cases h : i < l.length
 ·have h2 : i < (ByteArray.mk (Array.mk l)).size := by rw [sP]; exact h
  rw [getElem?_pos (ByteArray.mk (Array.mk l)) i h2, List.getElem?_eq_getElem h]; rfl
 ·have h2 : ¬ i < (ByteArray.mk (Array.mk l)).size := by rw [sP]; exact h
  rw [getElem?_neg (ByteArray.mk (Array.mk l)) i h2, List.getElem?_eq_none (by omega)]
def bt8 (l : List UInt8) (i : Nat) : Int := ((l[i]?.getD 0).toNat : Int)
theorem bt8_b (l : List UInt8) (i : Nat) : 0 ≤ bt8 l i ∧ bt8 l i ≤ 255 := by
 unfold bt8
 have := (l[i]?.getD 0).toNat_lt
 omega
section
variable {l k : List UInt8} {mem : Mem} {P : Program} {ty : TypeId} {lo hi : Int} {j j2 : IntKind}
@[simp] theorem ixs_T {i : Int} : ixsD (Tx l) (.pl (.int j i)) = if 0 ≤ i ∧ i < l.length then some (By (bt8 l i.toNat)) else none := by
 unfold ixsD bt8
 by_cases h : 0 ≤ i
 ·simp only [h, if_true, ba_get, true_and]
  by_cases h2 : i < l.length
  ·have h3 : i.toNat < l.length := by omega
   rw [List.getElem?_eq_getElem h3]
   simp [h2]
  ·rw [List.getElem?_eq_none (by omega)]
   simp [h2]
 ·simp [h]
theorem ba_ext {l : List UInt8} {a b : Nat} (h : b ≤ l.length) : (ByteArray.mk (Array.mk l)).extract a b = ByteArray.mk (Array.mk ((l.take b).drop a)) := by
 have : ((ByteArray.mk (Array.mk l)).extract a b).data = (Array.mk l).extract a b := by simp
 cases hx : (ByteArray.mk (Array.mk l)).extract a b with
 | mk d =>
  rw [hx] at this
  simp only at this
  rw [this]
  congr 1
  apply Array.ext'
  simp [List.extract_eq_take_drop, List.drop_take]
@[simp] theorem sls_Tl {kk : Nat} : gJ mem true kk (Tx l) (some (.pl (.int j lo))) none = if 0 ≤ lo ∧ lo ≤ l.length then some (Tx (l.drop lo.toNat)) else none := by
 simp only [gJ, dP, if_true, sP]
 by_cases h : 0 ≤ lo ∧ lo ≤ l.length
 ·rw [if_pos ⟨h.1, h.2, Int.le_refl _⟩, if_pos h, ba_ext (by omega), List.take_of_length_le (by omega)]
 ·rw [if_neg (fun g => h ⟨g.1, g.2.1⟩), if_neg h]
theorem ba_app : ByteArray.mk (Array.mk l) ++ ByteArray.mk (Array.mk k) = ByteArray.mk (Array.mk (l ++ k)) := by
 cases h : ByteArray.mk (Array.mk l) ++ ByteArray.mk (Array.mk k) with
 | mk d =>
  have : (ByteArray.mk (Array.mk l) ++ ByteArray.mk (Array.mk k)).data = (Array.mk l) ++ (Array.mk k) := by simp [ByteArray.data_append]
  rw [h] at this
  simp only at this
  rw [this]; simp
theorem iM (hlt : l.length + k.length < 2 ^ 63) : bF P .add ty (Tx l) (Tx k) = some (Tx (l ++ k)) := by
 have h : Sem.look P (binOp .add ty (.string (ByteArray.mk (Array.mk l))) (.string (ByteArray.mk (Array.mk k)))) = some (.string (ByteArray.mk (Array.mk l) ++ ByteArray.mk (Array.mk k))) := by
  have h2 : ¬ (9223372036854775807 : Int) < (l.length : Int) + (k.length : Int) := by omega
  simp [binOp, Op.stringOp, Sem.look, Pure.pure, h2]
 rw [ba_app] at h
 simp only [bF, lit, Bool.and_self, if_true, h, Option.map_some]
theorem sJ : ∀ (l : List UInt8), eY (em dM l) = some l
 | [] => rfl
 | b :: l => by
  have h := sJ l
  unfold em at h ⊢
  have hb : b.toNat < 256 := b.toNat_lt
  have : nG (dM b) = some b := by
   unfold nG dM
   simp only
   rw [if_pos ⟨by omega, by omega⟩]
   simp
  simp only [List.map_cons, eY, this, h]
theorem cv_BT {s d : TypeId} (hs : kQ P s = true) (hd : sM P d = true) : cvD P s d (.sl (em dM l)) = some (Tx l) := by
 unfold cvD
 simp [hs, hd, sJ]
theorem ia_B {i : Int} : iaD mem 1 (.sl (em dM l)) (.pl (.int j i)) = if 0 ≤ i ∧ i < l.length then some (.pt [By (bt8 l i.toNat)]) else none := iX fun _ => rfl
theorem imm_B (l : List UInt8) : D.immss (em dM l) = true := gQ fun _ => rfl
theorem ia_T {l : List (List UInt8)} {i : Int} : iaD mem 1 (.sl (em a9 l)) (.pl (.int j i)) = if 0 ≤ i ∧ i < l.length then some (.pt [Tx (l[i.toNat]?.getD default)]) else none := iX fun _ => rfl
theorem imm_T (l : List (List UInt8)) : D.immss (em a9 l) = true := gQ fun _ => rfl
theorem app_T (l : List (List UInt8)) (t : List UInt8) : em a9 l ++ [[Tx t]] = em a9 (l ++ [t]) := fP
attribute [simp] ia_B imm_B ia_T imm_T app_T
theorem cv_B1 {s d : TypeId} (hs : kQ P s = true) (hd : sM P d = true) (c : UInt8) : cvD P s d (.sl [[By c.toNat]]) = some (Tx [c]) := cv_BT (l := [c]) hs hd
theorem wru8 {x : Int} (h1 : 0 ≤ x) (h2 : x ≤ 255) : IntKind.u8.wrap x = x := by
 simp [IntKind.wrap, IntKind.signed, IntKind.bits]; omega
end
section
variable {α : Type} {enc : α → List D} {l : List α} {mem : Mem} {kk : Nat} {lo hi : Int} {j j2 : IntKind}
theorem MN (h : (em enc l).all (fun e => e.length == kk) = true) : gJ mem false kk (.sl (em enc l)) (some (.pl (.int j lo))) (some (.pl (.int j2 hi))) = if 0 ≤ lo ∧ lo ≤ hi ∧ hi ≤ l.length then some (.sl (em enc ((l.take hi.toNat).drop lo.toNat))) else none := by
 simp only [gJ, dP, Bool.false_eq_true, if_false, uF, MQ, K4, h, or_true, and_true]
theorem len_B {l : List UInt8} : (em dM l).all (fun e => e.length == 1) = true := by unfold em dM; simp
@[simp] theorem sls_B2 {l : List UInt8} : gJ mem false 1 (.sl (em dM l)) (some (.pl (.int j lo))) (some (.pl (.int j2 hi))) = if 0 ≤ lo ∧ lo ≤ hi ∧ hi ≤ l.length then some (.sl (em dM ((l.take hi.toNat).drop lo.toNat))) else none := MN len_B
end
end Go.Fx
namespace Go.Fx.YtlhdpfaohphbaaaGreat
open Go Go.Fx Go.Proofs Go.Fx.Flt
theorem cvBT {l : List UInt8} : cvD Tryz.prog 22 9 (.sl (em dM l)) = some (Tx l) := cv_BT (by kernel_rfl) (by kernel_rfl)
theorem cvB1 {c : UInt8} : cvD Tryz.prog 22 9 (.sl [[By c.toNat]]) = some (Tx [c]) := cv_B1 (by kernel_rfl) (by kernel_rfl) c
attribute [simp] cvBT cvB1
def isDg (c : UInt8) : Bool := decide (48 ≤ c.toNat) && decide (c.toNat ≤ 57)
def mC : List UInt8 → Int → Nat → Int × Nat
 | [], n, k => (n, k)
 | c :: r, n, k => if isDg c then mC r (min (10 * n + ((c.toNat : Int) - 48)) 16777217) (k + 1) else (n, k)
def signed (s : List UInt8) : Bool := s.head? == some 45
def cY (s : List UInt8) : Nat := if signed s then 1 else 0
def fF (s : List UInt8) : Int × Nat := mC (s.drop (cY s)) 0 (cY s)
def aJ (s : List UInt8) : Int × Nat := if (fF s).2 = cY s then (0, 0) else (if signed s then -(fF s).1 else (fF s).1, (fF s).2)
theorem AA : ∀ (l : List UInt8) (n : Int) (k : Nat), 0 ≤ n → n ≤ 16777217 → 0 ≤ (mC l n k).1 ∧ (mC l n k).1 ≤ 16777217 ∧ k ≤ (mC l n k).2 ∧ (mC l n k).2 ≤ k + l.length
 | [], n, k, h1, h2 => ⟨h1, h2, Nat.le_refl _, Nat.le_refl _⟩
 | c :: r, n, k, h1, h2 => by
  unfold mC
  cases hc : isDg c
  ·simp; omega
  ·simp only [isDg, Bool.and_eq_true, decide_eq_true_eq] at hc
   have := AA r (min (10 * n + ((c.toNat : Int) - 48)) 16777217) (k + 1) (by omega) (by omega)
   simp only [if_true, List.length_cons]
   omega
theorem CT {s : List UInt8} : signed s = true ↔ 0 < s.length ∧ bt8 s 0 = 45 := by
 unfold signed bt8
 cases s with
 | nil => simp
 | cons c r =>
  have : ((c.toNat : Int) = 45) ↔ c = 45 := ⟨fun h => UInt8.toNat.inj (by show c.toNat = 45; omega), fun h => by rw [h]; rfl⟩
  simp [this]
theorem DB {s : List UInt8} {k : Nat} (h : k < s.length) : ∃ c, s.drop k = c :: s.drop (k + 1) ∧ (c.toNat : Int) = bt8 s k := by
 refine ⟨s[k], List.drop_eq_getElem_cons h, ?_⟩
 unfold bt8
 rw [List.getElem?_eq_getElem h]; rfl
theorem qB (s : List UInt8) (hl : s.length < 2 ^ 46) (i : Int) (hi : i = (cY s : Int)) (hle : cY s ≤ s.length) {nx : Nat} (Q : Exit → St → Prop)
  (hq : ∀ m, Q (.exit 0) ⟨[(0, Tx s), (2, I 0), (3, I 0), (4, I i), (5, I (fF s).1), (6, I (fF s).2)], [], [], m⟩) :
  A cf133 (.loop lb133_0) Q [(0, Tx s), (2, I 0), (3, I 0), (4, I i), (5, I 0), (6, I i)] [] nx := by
 refine lpG cf133 lb133_0 [5, 6] (α := Nat × Int) (fun p _ => [(5, I p.2), (6, I p.1)]) (fun _ _ => []) (fun p _ => p.1 ≤ s.length ∧ 0 ≤ p.2 ∧ p.2 ≤ 16777217 ∧ mC (s.drop p.1) p.2 p.1 = fF s) (fun p => s.length - p.1) (cY s, 0) ⟨hle, by simp, by simp, rfl⟩ (by simp [hi]) (by simp) ?_
 rintro ⟨k, n⟩ m ⟨hk, h0, h1, hs⟩
 simp only at hk h0 h1 hs
 have out : (k < s.length → ¬ (48 ≤ bt8 s k ∧ bt8 s k ≤ 57)) → fF s = (n, k) := fun h => by
  rw [← hs]
  by_cases hlt : k < s.length
  ·obtain ⟨c, hc, hv⟩ := DB hlt
   rw [hc]
   unfold mC
   have : isDg c = false := by
    unfold isDg
    have := h hlt
    rw [Bool.and_eq_false_iff, decide_eq_false_iff_not, decide_eq_false_iff_not]
    omega
   rw [this]; rfl
  ·rw [List.drop_eq_nil_of_le (by omega)]; rfl
 by_cases hlt : k < s.length
 ·have hb := bt8_b s k
  by_cases hd : 48 ≤ bt8 s k ∧ bt8 s k ≤ 57
  ·have w1 := aS (x := 10 * n) (by omega) (by omega)
   have w2 := wru8 (x := bt8 s k - 48) (by omega) (by omega)
   have w3 := aS (x := bt8 s k - 48) (by omega) (by omega)
   have w4 := aS (x := 10 * n + (bt8 s k - 48)) (by omega) (by omega)
   have w5 := aS (x := (k : Int) + 1) (by omega) (by omega)
   simp -implicitDefEqProofs [lb133_0, hlt, hd.1, hd.2, w1, w2, w3, w4, w5]
   refine aI (k + 1, min (10 * n + (bt8 s k - 48)) 16777217) ⟨hlt, by omega, by omega, ?_⟩ (by simp; omega) (by simp) (by simp)
   rw [← hs]
   obtain ⟨c, hc, hv⟩ := DB hlt
   rw [hc, mC, if_pos, hv]
   simp [isDg]; omega
  ·have hq := hq
   rw [out (fun _ => hd)] at hq
   by_cases g1 : 48 ≤ bt8 s k
   ·have g2 : ¬ bt8 s k ≤ 57 := fun h => hd ⟨g1, h⟩
    simp -implicitDefEqProofs [lb133_0, hlt, g1, g2]
    exact hq _
   ·simp -implicitDefEqProofs [lb133_0, hlt, g1]
    exact hq _
 ·rw [out (fun h => absurd h hlt)] at hq
  simp -implicitDefEqProofs [lb133_0, hlt]
  exact hq _
theorem vZ (s : List UInt8) (hl : s.length < 2 ^ 46) : Pure Tryz.prog 133 [Tx s] (.tup [I (aJ s).1, I (aJ s).2]) := by
 have hb := AA (s.drop (cY s)) 0 (cY s) (by decide) (by decide)
 rw [show mC (s.drop (cY s)) 0 (cY s) = fF s from rfl] at hb
 refine fi133.pu (by simp) ?_
 cases hs : signed s
 ·have hn : ¬ (0 < s.length ∧ bt8 s 0 = 45) := fun h => by rw [CT.2 h] at hs; simp at hs
  have hi : cY s = 0 := by unfold cY; rw [hs]; rfl
  rw [hi] at hb
  by_cases h0 : 0 < s.length
  ·have h2 : ¬ bt8 s 0 = 45 := fun h => hn ⟨h0, by omega⟩
   simp -implicitDefEqProofs [ac133, h0, h2]
   refine qB s hl 0 (by rw [hi]; rfl) (by omega) _ (fun m => ?_)
   by_cases h3 : (fF s).2 = 0
   ·simp -implicitDefEqProofs [h3, aJ, hi]
   ·simp -implicitDefEqProofs [h3, aJ, hi, hs]
  ·simp -implicitDefEqProofs [ac133, h0]
   refine qB s hl 0 (by rw [hi]; rfl) (by omega) _ (fun m => ?_)
   by_cases h3 : (fF s).2 = 0
   ·simp -implicitDefEqProofs [h3, aJ, hi]
   ·simp -implicitDefEqProofs [h3, aJ, hi, hs]
 ·obtain ⟨h0, h2⟩ := CT.1 hs
  have hi : cY s = 1 := by unfold cY; rw [hs]; rfl
  rw [hi] at hb
  simp -implicitDefEqProofs [ac133, h0, h2]
  refine qB s hl 1 (by rw [hi]; rfl) (by omega) _ (fun m => ?_)
  by_cases h3 : (fF s).2 = 1
  ·simp -implicitDefEqProofs [h3, aJ, hi]
  ·have h4 : ¬ ((fF s).2 : Int) = 1 := by omega
   have w := aS (x := -(fF s).1) (by omega) (by omega)
   simp -implicitDefEqProofs [h3, h4, aJ, hi, hs, w]
def dc (n : Nat) : UInt8 := UInt8.ofNat (48 + n % 10)
theorem dc_n (n : Nat) : (dc n).toNat = 48 + n % 10 := by
 unfold dc
 rw [UInt8.toNat_ofNat']
 exact Nat.mod_eq_of_lt (by show 48 + n % 10 < 256; omega)
def mF : Nat → Nat → List UInt8
 | 0, n => [dc n]
 | f + 1, n => if 10 ≤ n then mF f (n / 10) ++ [dc n] else [dc n]
def f_ (n : Int) : List UInt8 := if n < 0 then 45 :: mF 8 n.natAbs else mF 8 n.natAbs
theorem pN : ∀ (f n : Nat), (mF f n).length ≤ f + 1
 | 0, n => by simp [mF]
 | f + 1, n => by
  have := pN f (n / 10)
  unfold mF
  split
  ·simp; omega
  ·simp
theorem AQ (n : Int) : (f_ n).length ≤ 10 := by
 have := pN 8 n.natAbs
 unfold f_
 split
 ·simp; omega
 ·omega
theorem DY : ∀ (f n : Nat), n < 10 ^ (f + 1) → f ≤ 8 → Pure Tryz.prog 142 [I n] (Tx (mF f n)) := by
 intro f
 induction f with
 | zero =>
  intro n hn _
  have hn : n < 10 := by simpa using hn
  refine fi142.pu (by simp) ?_
  have h0 : ¬ (n : Int) < 0 := by omega
  have h1 : ¬ (10 : Int) ≤ (n : Int) := by omega
  have w0 : ((n : Int).tmod 10) = (n : Int) % 10 := Int.tmod_eq_emod_of_nonneg (by omega)
  have w1 : IntKind.i64.wrap (48 + (n : Int) % 10) = (dc n).toNat := by rw [dc_n, aS (by omega) (by omega)]; omega
  have w2 : IntKind.u8.wrap ((dc n).toNat : Int) = (dc n).toNat := by
   have := (dc n).toNat_lt
   exact wru8 (by omega) (by omega)
  simp -implicitDefEqProofs [ac142, h0, h1, w0, w1, w2, mF]
 | succ f ih =>
  intro n hn hf
  have hp : 10 ^ (f + 1 + 1) = 10 * 10 ^ (f + 1) := by rw [Nat.pow_succ, Nat.mul_comm]
  have hd : n / 10 < 10 ^ (f + 1) := by omega
  have hc := ih (n / 10) hd (by omega)
  have hl := pN f (n / 10)
  have hadd := iM (P := Tryz.prog) (ty := 9) (l := mF f (n / 10)) (k := [dc n]) (by simp; omega)
  refine fi142.pu (by simp) ?_
  have h0 : ¬ (n : Int) < 0 := by omega
  have w0 : ((n : Int).tmod 10) = (n : Int) % 10 := Int.tmod_eq_emod_of_nonneg (by omega)
  have w1 : IntKind.i64.wrap (48 + (n : Int) % 10) = (dc n).toNat := by rw [dc_n, aS (by omega) (by omega)]; omega
  have w2 : IntKind.u8.wrap ((dc n).toNat : Int) = (dc n).toNat := by
   have := (dc n).toNat_lt
   exact wru8 (by omega) (by omega)
  have p9 : 10 ^ (f + 1) ≤ 10 ^ 9 := Nat.pow_le_pow_right (by decide) (by omega)
  by_cases h1 : 10 ≤ n
  ·have h1' : (10 : Int) ≤ (n : Int) := by omega
   have w3 : IntKind.i64.wrap ((n : Int) / 10) = (n : Int) / 10 := aS (by omega) (by omega)
   have e : ((n / 10 : Nat) : Int) = (n : Int) / 10 := by omega
   rw [e] at hc
   simp -implicitDefEqProofs [ac142, h0, h1', w0, w1, w2, w3]
   refine aG (hc) (by simp) ?_
   simp -implicitDefEqProofs [hadd]
   simp -implicitDefEqProofs [mF, h1]
  ·have h1' : ¬ (10 : Int) ≤ (n : Int) := by omega
   simp -implicitDefEqProofs [ac142, h0, h1', w0, w1, w2, mF, h1]
theorem zS (n : Int) (hn : n.natAbs < 10 ^ 9) : Pure Tryz.prog 142 [I n] (Tx (f_ n)) := by
 have hc := DY 8 n.natAbs hn (by decide)
 unfold f_
 by_cases h : n < 0
 ·rw [if_pos h]
  have e : ((n.natAbs : Nat) : Int) = -n := by omega
  rw [e] at hc
  have w := aS (x := -n) (by omega) (by omega)
  have hl := pN 8 n.natAbs
  have hadd := iM (P := Tryz.prog) (ty := 9) (l := [45]) (k := mF 8 n.natAbs) (by simp; omega)
  refine fi142.pu (by simp) ?_
  simp -implicitDefEqProofs [ac142, h, w]
  refine aG (hc) (by simp) ?_
  simp -implicitDefEqProofs [hadd]
 ·rw [if_neg h]
  have e : ((n.natAbs : Nat) : Int) = n := by omega
  rw [e] at hc
  exact hc
def vF (re im : Int) : List UInt8 := if im = 0 then f_ re else if re = 0 then f_ im ++ [105] else if 0 < im then ((f_ re ++ [43]) ++ f_ im) ++ [105] else (f_ re ++ f_ im) ++ [105]
theorem uR (re im : Int) (h1 : re.natAbs < 10 ^ 9) (h2 : im.natAbs < 10 ^ 9) : Pure Tryz.prog 135 [.agg [I re, I im]] (Tx (vF re im)) := by
 have c1 := zS re h1
 have c2 := zS im h2
 have l1 := AQ re
 have l2 := AQ im
 refine fi135.pu (by simp) ?_
 unfold vF
 by_cases a : im = 0
 ·simp -implicitDefEqProofs [ac135, a]
  refine aG (c1) (by simp) ?_
  simp -implicitDefEqProofs
 ·by_cases b : re = 0
  ·have hadd := iM (P := Tryz.prog) (ty := 9) (l := f_ im) (k := [105]) (by simp; omega)
   simp -implicitDefEqProofs [ac135, a, b]
   refine aG (c2) (by simp) ?_
   simp -implicitDefEqProofs [hadd]
  ·by_cases c : 0 < im
   ·have a1 := iM (P := Tryz.prog) (ty := 9) (l := f_ re) (k := [43]) (by simp; omega)
    have a2 := iM (P := Tryz.prog) (ty := 9) (l := f_ re ++ [43]) (k := f_ im) (by simp; omega)
    have a3 := iM (P := Tryz.prog) (ty := 9) (l := f_ re ++ 43 :: f_ im) (k := [105]) (by simp; omega)
    rw [if_neg a, if_neg b, if_pos c]
    simp -implicitDefEqProofs [ac135, a, b, c]
    refine aG (c1) (by simp) ?_
    simp -implicitDefEqProofs [a1]
    refine aG (c2) (by simp) ?_
    simp -implicitDefEqProofs [a2, a3]
   ·have a2 := iM (P := Tryz.prog) (ty := 9) (l := f_ re) (k := f_ im) (by simp; omega)
    have a3 := iM (P := Tryz.prog) (ty := 9) (l := (f_ re) ++ f_ im) (k := [105]) (by simp; omega)
    rw [if_neg a, if_neg b, if_neg c]
    simp -implicitDefEqProofs [ac135, a, b, c]
    refine aG (c1) (by simp) ?_
    simp -implicitDefEqProofs
    refine aG (c2) (by simp) ?_
    simp -implicitDefEqProofs [a2, a3]
def inB (n m : Int) : Bool := (decide (-16777216 ≤ n) && decide (n ≤ 16777216)) && (decide (-16777216 ≤ m) && decide (m ≤ 16777216))
theorem yO (n m : Int) : Pure Tryz.prog 134 [.agg [I n, I m]] (if inB n m = true then .tup [.agg [I n, I m], I 0] else .tup [.agg [I 0, I 0], I 50]) := by
 refine fi134.pu (by simp) ?_
 unfold inB
 by_cases a : -16777216 ≤ n <;> by_cases b : n ≤ 16777216 <;> by_cases c : -16777216 ≤ m <;> by_cases d : m ≤ 16777216 <;> simp -implicitDefEqProofs [ac134, a, b, c, d] <;> (first | omega | skip)
def bY (s : List UInt8) : List UInt8 := s.drop (aJ s).2
def gY (s : List UInt8) : Int × Int :=
 if bY s = [105] then (0, (aJ s).1) else if bY s = [] then ((aJ s).1, 0) else
 if bt8 (bY s) 0 = 43 then ((aJ s).1, (aJ ((bY s).tail)).1) else ((aJ s).1, (aJ (bY s)).1)
def mN (s : List UInt8) : Bool := decide (¬ (aJ s).2 = 0) && (inB (gY s).1 (gY s).2 && decide (vF (gY s).1 (gY s).2 = s))
def j8 (s : List UInt8) : Int × Int := if mN s then gY s else (0, 0)
theorem pD (s : List UInt8) : -16777217 ≤ (aJ s).1 ∧ (aJ s).1 ≤ 16777217 ∧ (aJ s).2 ≤ cY s + (s.drop (cY s)).length := by
 have hb := AA (s.drop (cY s)) 0 (cY s) (by decide) (by decide)
 rw [show mC (s.drop (cY s)) 0 (cY s) = fF s from rfl] at hb
 unfold aJ
 split
 ·simp
 ·split
  ·simp only; omega
  ·simp only; omega
theorem GN (s : List UInt8) : (aJ s).2 ≤ s.length := by
 have h := (pD s).2.2
 have hi : cY s ≤ s.length ∨ cY s = 1 ∧ s = [] := by
  unfold cY
  split
  ·cases s with
   | nil => exact .inr ⟨rfl, rfl⟩
   | cons c r => left; simp
  ·left; omega
 rcases hi with hi | ⟨hi, rfl⟩
 ·simp only [List.length_drop] at h; omega
 ·simp [cY, signed] at hi
theorem MR (s : List UInt8) (hl : s.length < 2 ^ 46) : Pure Tryz.prog 116 [Tx s] (.tup [.agg [I (j8 s).1, I (j8 s).2], I (if mN s then 0 else 10)]) := by
 have c1 := vZ s hl
 have hle := GN s
 have hb1 := pD s
 refine fi116.pu (by simp) ?_
 by_cases h0 : (aJ s).2 = 0
 ·have hk : mN s = false := by simp [mN, h0]
  rw [h0] at c1
  unfold j8
  rw [hk]
  simp -implicitDefEqProofs [ac116]
  refine aG (c1) (by simp) ?_
  simp -implicitDefEqProofs
 ·have h0' : ¬ ((aJ s).2 : Int) = 0 := by omega
  have hk : mN s = (inB (gY s).1 (gY s).2 && decide (vF (gY s).1 (gY s).2 = s)) := by simp [mN, h0]
  have fin : ∀ n : Int × Int, gY s = n → (n.1.natAbs ≤ 16777217 ∧ n.2.natAbs ≤ 16777217) → ∃ q : Bool, mN s = (inB n.1 n.2 && q) ∧ j8 s = (if inB n.1 n.2 && q then n else (0, 0)) ∧ decide (vF n.1 n.2 = s) = q := fun n hn _ => by
   refine ⟨_, ?_, ?_, rfl⟩
   ·rw [hk, hn]
   ·unfold j8; rw [hk, hn]
  have hrl : (bY s).length < 2 ^ 46 := by unfold bY; simp only [List.length_drop]; omega
  have hrest : s.drop (aJ s).2 = bY s := rfl
  have hW1 := hb1.1
  have hW2 := hb1.2.1
  have hle' : ((aJ s).2 : Int) ≤ s.length := by omega
  simp -implicitDefEqProofs [ac116]
  refine aG (c1) (by simp) ?_
  simp -implicitDefEqProofs [h0, h0', hle', hrest]
  by_cases r1 : bY s = [105]
  ·have hn : gY s = (0, (aJ s).1) := by unfold gY; rw [if_pos r1]
   simp -implicitDefEqProofs [r1]
   obtain ⟨q, e1, e2, e3⟩ := fin (0, (aJ s).1) hn ⟨by simp only; omega, by simp only; omega⟩
   simp only at e1 e2 e3
   have t1 := yO (0) ((aJ s).1)
   have t2 := uR (0) ((aJ s).1) (by omega) (by omega)
   rw [e2, e1]
   cases hB : inB (0) ((aJ s).1)
   ·rw [hB] at t1
    refine aG (t1) (by simp) ?_
    simp -implicitDefEqProofs
   ·rw [hB] at t1
    refine aG (t1) (by simp) ?_
    simp -implicitDefEqProofs
    refine aG (t2) (by simp) ?_
    simp -implicitDefEqProofs [e3]
    cases q <;> simp -implicitDefEqProofs
  ·by_cases r2 : bY s = []
   ·have hn : gY s = ((aJ s).1, 0) := by unfold gY; rw [if_neg r1, if_pos r2]
    simp -implicitDefEqProofs [r2]
    obtain ⟨q, e1, e2, e3⟩ := fin ((aJ s).1, 0) hn ⟨by simp only; omega, by simp only; omega⟩
    simp only at e1 e2 e3
    have t1 := yO ((aJ s).1) (0)
    have t2 := uR ((aJ s).1) (0) (by omega) (by omega)
    rw [e2, e1]
    cases hB : inB ((aJ s).1) (0)
    ·rw [hB] at t1
     refine aG (t1) (by simp) ?_
     simp -implicitDefEqProofs
    ·rw [hB] at t1
     refine aG (t1) (by simp) ?_
     simp -implicitDefEqProofs
     refine aG (t2) (by simp) ?_
     simp -implicitDefEqProofs [e3]
     cases q <;> simp -implicitDefEqProofs
   ·have hpos : 0 < (bY s).length := List.length_pos_iff.2 r2
    by_cases r3 : bt8 (bY s) 0 = 43
    ·have hn : gY s = ((aJ s).1, (aJ ((bY s).tail)).1) := by unfold gY; rw [if_neg r1, if_neg r2, if_pos r3]
     have c2 := vZ ((bY s).tail) (by simp only [List.length_tail]; omega)
     have hb2 := pD ((bY s).tail)
     have hge : (1 : Int) ≤ (bY s).length := by omega
     simp -implicitDefEqProofs [r1, r2, hpos, r3, hge]
     refine aG (c2) (by simp) ?_
     simp -implicitDefEqProofs
     obtain ⟨q, e1, e2, e3⟩ := fin ((aJ s).1, (aJ ((bY s).tail)).1) hn ⟨by simp only; omega, by simp only; omega⟩
     simp only at e1 e2 e3
     have t1 := yO ((aJ s).1) ((aJ ((bY s).tail)).1)
     have t2 := uR ((aJ s).1) ((aJ ((bY s).tail)).1) (by omega) (by omega)
     rw [e2, e1]
     cases hB : inB ((aJ s).1) ((aJ ((bY s).tail)).1)
     ·rw [hB] at t1
      refine aG (t1) (by simp) ?_
      simp -implicitDefEqProofs
     ·rw [hB] at t1
      refine aG (t1) (by simp) ?_
      simp -implicitDefEqProofs
      refine aG (t2) (by simp) ?_
      simp -implicitDefEqProofs [e3]
      cases q <;> simp -implicitDefEqProofs
    ·have hn : gY s = ((aJ s).1, (aJ (bY s)).1) := by unfold gY; rw [if_neg r1, if_neg r2, if_neg r3]
     have c2 := vZ (bY s) hrl
     have hb2 := pD (bY s)
     simp -implicitDefEqProofs [r1, r2, hpos, r3]
     refine aG (c2) (by simp) ?_
     simp -implicitDefEqProofs
     obtain ⟨q, e1, e2, e3⟩ := fin ((aJ s).1, (aJ (bY s)).1) hn ⟨by simp only; omega, by simp only; omega⟩
     simp only at e1 e2 e3
     have t1 := yO ((aJ s).1) ((aJ (bY s)).1)
     have t2 := uR ((aJ s).1) ((aJ (bY s)).1) (by omega) (by omega)
     rw [e2, e1]
     cases hB : inB ((aJ s).1) ((aJ (bY s)).1)
     ·rw [hB] at t1
      refine aG (t1) (by simp) ?_
      simp -implicitDefEqProofs
     ·rw [hB] at t1
      refine aG (t1) (by simp) ?_
      simp -implicitDefEqProofs
      refine aG (t2) (by simp) ?_
      simp -implicitDefEqProofs [e3]
      cases q <;> simp -implicitDefEqProofs
structure Cx where
 re : Nat
 im : Nat
deriving Inhabited, DecidableEq
def Cx.lt (z : Cx) : Prop := z.re < 2 ^ 64 ∧ z.im < 2 ^ 64
def Cx.ok (z : Cx) : Bool := EQ z.re && EQ z.im
structure Mk where
 kind : Int
 text : List UInt8
 num : Cx
 at' : Int
instance : Inhabited Mk := ⟨⟨0, [], ⟨0, 0⟩, 0⟩⟩
def aB (m : Mk) : List D := [I m.kind, Tx m.text, CX m.num.re m.num.im, I m.at']
theorem ia_Mk {l : List Mk} {mem : Mem} {j : IntKind} {i : Int} : iaD mem 4 (.sl (em aB l)) (.pl (.int j i)) = if 0 ≤ i ∧ i < l.length then some (.pt [I (l[i.toNat]?.getD default).kind, Tx (l[i.toNat]?.getD default).text, CX (l[i.toNat]?.getD default).num.re (l[i.toNat]?.getD default).num.im, I (l[i.toNat]?.getD default).at']) else none := iX fun _ => rfl
theorem imm_Mk (l : List Mk) : D.immss (em aB l) = true := gQ fun _ => rfl
theorem ER (l : List Mk) (m : Mk) : em aB l ++ [[I m.kind, Tx m.text, CX m.num.re m.num.im, I m.at']] = em aB (l ++ [m]) := fP
attribute [simp] ia_Mk imm_Mk
def ltrI (v : Int) : Bool := (decide (65 ≤ v) && decide (v ≤ 90)) || (decide (97 ≤ v) && decide (v ≤ 122))
def dgI (v : Int) : Bool := decide (48 ≤ v) && decide (v ≤ 57)
def idI (v : Int) : Bool := ltrI v || (dgI v || decide (v = 95))
def nS (v : Int) : Bool := decide (v = 9) || (decide (v = 10) || (decide (v = 13) || decide (v = 32)))
theorem H1 (v : Int) : Pure Tryz.prog 132 [By v] (B (ltrI v)) := by
 refine fi132.pu (by simp) ?_
 unfold ltrI
 by_cases a : 65 ≤ v <;> by_cases b : v ≤ 90 <;> by_cases c : 97 ≤ v <;> by_cases d : v ≤ 122 <;> simp -implicitDefEqProofs [ac132, a, b, c, d]
theorem CB (v : Int) : Pure Tryz.prog 115 [By v] (B (dgI v)) := by
 refine fi115.pu (by simp) ?_
 unfold dgI
 by_cases a : 48 ≤ v <;> by_cases b : v ≤ 57 <;> simp -implicitDefEqProofs [ac115, a, b]
theorem LN (v : Int) : Pure Tryz.prog 89 [By v] (B (nS v)) := by
 refine fi89.pu (by simp) ?_
 unfold nS
 by_cases a : v = 9 <;> by_cases b : v = 10 <;> by_cases c : v = 13 <;> by_cases d : v = 32 <;> simp -implicitDefEqProofs [ac89, a, b, c, d]
def wordsL : List (List UInt8) := [[66], [76], [78], [99, 97, 115, 101], [99, 111, 110, 106], [101, 108, 115, 101], [102, 97, 105, 108], [102, 97, 108, 115, 101], [105, 102], [105, 109], [105, 110], [108, 101, 116], [110, 105, 108], [110, 111, 116], [111, 102], [114, 101], [115, 116, 114, 105, 99, 116], [116, 104, 101, 110], [116, 114, 117, 101]]
theorem I3 : Pure Tryz.prog 136 [] (.sl (em a9 wordsL)) := by
 refine fi136.pu (by simp) ?_
 simp -implicitDefEqProofs [ac136]
 rfl
def resv (s : List UInt8) : Bool := wordsL.any fun w => decide (w = s)
theorem DV (s : List UInt8) : Pure Tryz.prog 118 [Tx s] (B (resv s)) := by
 refine fi118.pu (by simp) ?_
 unfold resv
 generalize hW : wordsL = W
 generalize hr : (W.any fun w => decide (w = s)) = r
 have hl : W.length = 19 := by rw [← hW]; rfl
 have hc := I3
 rw [hW] at hc
 simp -implicitDefEqProofs [ac118]
 refine aG (hc) (by simp) ?_
 simp -implicitDefEqProofs
 refine lpG cf118 lb118_0 [2, 4] (α := Nat) (fun i _ => [(4, I i)]) (fun _ _ => []) (fun i _ => i ≤ W.length ∧ r = (W.drop i).any (fun w => decide (w = s))) (fun i => W.length - i) 0 ⟨by omega, by rw [← hr]; rfl⟩ (by simp) (by simp) ?_
 rintro i m ⟨hi, he⟩
 simp -implicitDefEqProofs [lb118_0]
 refine ⟨fun hlt => ⟨hlt, ?_⟩, fun hge => ?_⟩
 ·have hg : W[i]?.getD default = W[i] := by rw [List.getElem?_eq_getElem hlt]; rfl
  have hd : W.drop i = W[i] :: W.drop (i + 1) := List.drop_eq_getElem_cons hlt
  rw [hd] at he
  have w1 := aS (x := (i : Int) + 1) (by omega) (by omega)
  by_cases h : W[i] = s
  ·have : r = true := by rw [he]; simp [h]
   subst this
   simp -implicitDefEqProofs [hg, h]
  ·simp -implicitDefEqProofs [hg, h, w1]
   exact aI (i + 1) ⟨hlt, by rw [he, List.any_cons, decide_eq_false h]; rfl⟩ (by omega) (by simp) (by simp)
 ·rw [List.drop_eq_nil_of_le hge] at he
  subst he
  simp -implicitDefEqProofs
def tL : Nat → List UInt8 → Nat → Nat → Nat
 | 0, _, _, n => n
 | f + 1, t, p, n => if decide (p + n < t.length) && idI (bt8 t (p + n)) then tL f t p (n + 1) else n
def runL (t : List UInt8) (p : Nat) : Nat := tL (t.length - p) t p 0
theorem C5 : ∀ (f : Nat) (t : List UInt8) (p n : Nat), p + n ≤ t.length → n ≤ tL f t p n ∧ p + tL f t p n ≤ t.length
 | 0, t, p, n, h => ⟨Nat.le_refl _, h⟩
 | f + 1, t, p, n, h => by
  unfold tL
  split
  ·rename_i hc
   simp only [Bool.and_eq_true, decide_eq_true_eq] at hc
   have := C5 f t p (n + 1) (by omega)
   omega
  ·exact ⟨Nat.le_refl _, h⟩
theorem run_c (t : List UInt8) (p : Nat) (hl : t.length < 2 ^ 46) (hp : p ≤ t.length) : Pure Tryz.prog 114 [.sl (em dM t), I p] (I (runL t p)) := by
 refine fi114.pu (by simp) ?_
 simp -implicitDefEqProofs [ac114]
 refine lpG cf114 lb114_0 [5] (α := Nat) (fun n _ => [(5, I n)]) (fun _ _ => []) (fun n _ => p + n ≤ t.length ∧ tL (t.length - p - n) t p n = runL t p) (fun n => t.length - p - n) 0 ⟨by omega, by simp [runL]⟩ (by simp) (by simp) ?_
 rintro n m ⟨hn, he⟩
 have w1 := aS (x := (p : Int) + (n : Int)) (by omega) (by omega)
 have w2 := aS (x := (n : Int) + 1) (by omega) (by omega)
 have tn : ((p : Int) + (n : Int)).toNat = p + n := by omega
 have c1 := H1 (bt8 t (p + n))
 have c2 := CB (bt8 t (p + n))
 by_cases h : p + n < t.length
 ·have h' : (p : Int) + (n : Int) < t.length := by omega
  have h0 : (0 : Int) ≤ (p : Int) + (n : Int) := by omega
  obtain ⟨f, hf⟩ : ∃ f, t.length - p - n = f + 1 := ⟨t.length - p - n - 1, by omega⟩
  have hf2 : t.length - p - (n + 1) = f := by omega
  rw [hf] at he
  unfold tL at he
  rw [decide_eq_true h, Bool.true_and] at he
  unfold idI at he
  cases a : ltrI (bt8 t (p + n)) <;> rw [a] at c1 he
  ·cases b : dgI (bt8 t (p + n)) <;> rw [b] at c2 he
   ·by_cases c : bt8 t (p + n) = 95
    ·simp -implicitDefEqProofs [lb114_0, w1, h', h0, tn]
     refine aG (c1) (by simp) ?_
     simp -implicitDefEqProofs [w1, h', h0, tn]
     refine aG (c2) (by simp) ?_
     simp -implicitDefEqProofs [w1, h', h0, tn, c, w2]
     refine aI (n + 1) ⟨by omega, ?_⟩ (by omega) (by simp) (by simp)
     rw [hf2]; simpa [c] using he
    ·have : n = runL t p := by simpa [c] using he
     rw [← this]
     simp -implicitDefEqProofs [lb114_0, w1, h', h0, tn]
     refine aG (c1) (by simp) ?_
     simp -implicitDefEqProofs [w1, h', h0, tn]
     refine aG (c2) (by simp) ?_
     simp -implicitDefEqProofs [w1, h', h0, tn, c, w2]
   ·simp -implicitDefEqProofs [lb114_0, w1, h', h0, tn]
    refine aG (c1) (by simp) ?_
    simp -implicitDefEqProofs [w1, h', h0, tn]
    refine aG (c2) (by simp) ?_
    simp -implicitDefEqProofs [w2]
    refine aI (n + 1) ⟨by omega, ?_⟩ (by omega) (by simp) (by simp)
    rw [hf2]; simpa using he
  ·simp -implicitDefEqProofs [lb114_0, w1, h', h0, tn]
   refine aG (c1) (by simp) ?_
   simp -implicitDefEqProofs [w2]
   refine aI (n + 1) ⟨by omega, ?_⟩ (by omega) (by simp) (by simp)
   rw [hf2]; simpa using he
 ·have h' : ¬ (p : Int) + (n : Int) < t.length := by omega
  have e0 : t.length - p - n = 0 := by omega
  rw [e0] at he
  have : n = runL t p := he
  rw [← this]
  simp -implicitDefEqProofs [lb114_0, w1, h']
def bP (v : Int) : Nat := if (decide (v = 40) || decide (v = 41) || decide (v = 44) || decide (v = 58) || decide (v = 59) || decide (v = 61) || decide (v = 43) || decide (v = 45) || decide (v = 42) || decide (v = 47) || decide (v = 60) || decide (v = 124)) then 1 else 0
def lV (t : List UInt8) (p : Nat) : Nat :=
 if decide (p + 1 < t.length) && ((decide (bt8 t p = 45) && decide (bt8 t (p + 1) = 62)) || (decide (bt8 t p = 61) && decide (bt8 t (p + 1) = 61))) then 2 else bP (bt8 t p)
theorem sign_c (t : List UInt8) (p : Nat) (hl : t.length < 2 ^ 46) (hp : p < t.length) : Pure Tryz.prog 119 [.sl (em dM t), I p] (I (lV t p)) := by
 refine fi119.pu (by simp) ?_
 have w1 := aS (x := (p : Int) + 1) (by omega) (by omega)
 have tn : ((p : Int) + 1).toNat = p + 1 := by omega
 have h0 : (0 : Int) ≤ (p : Int) + 1 := by omega
 have hpi : (p : Int) < t.length := by omega
 unfold lV
 generalize hu : bt8 t (p + 1) = u at *
 generalize hv : bt8 t p = v at *
 by_cases hp1 : p + 1 < t.length
 ·have hp2 : (p : Int) + 1 < t.length := by omega
  by_cases a : v = 45
  ·by_cases b : u = 62
   ·rw [if_pos (by simp [hp1, a, b])]
    simp -implicitDefEqProofs [ac119, w1, tn, h0, hp, hp2, hu, hv, a, b]
   ·rw [if_neg (by simp [hp1, a, b])]
    have e : bP v = 1 := by unfold bP; rw [a]; rfl
    rw [e]
    simp -implicitDefEqProofs [ac119, w1, tn, h0, hp, hp2, hu, hv, a, b]
  ·by_cases c : v = 61
   ·by_cases b : u = 61
    ·rw [if_pos (by simp [hp1, c, b])]
     simp -implicitDefEqProofs [ac119, w1, tn, h0, hp, hp2, hu, hv, a, c, b]
    ·rw [if_neg (by simp [hp1, c, b])]
     have e : bP v = 1 := by unfold bP; rw [c]; rfl
     rw [e]
     simp -implicitDefEqProofs [ac119, w1, tn, h0, hp, hp2, hu, hv, a, c, b]
   ·rw [if_neg (by simp [a, c])]
    by_cases h40 : v = 40
    ·have e : bP v = 1 := by unfold bP; rw [h40]; rfl
     rw [e]
     simp -implicitDefEqProofs [ac119, w1, tn, h0, hp, hp2, hu, hv, a, c, h40]
    ·
     by_cases h41 : v = 41
     ·have e : bP v = 1 := by unfold bP; rw [h41]; rfl
      rw [e]
      simp -implicitDefEqProofs [ac119, w1, tn, h0, hp, hp2, hu, hv, a, c, h40, h41]
     ·
      by_cases h44 : v = 44
      ·have e : bP v = 1 := by unfold bP; rw [h44]; rfl
       rw [e]
       simp -implicitDefEqProofs [ac119, w1, tn, h0, hp, hp2, hu, hv, a, c, h40, h41, h44]
      ·
       by_cases h58 : v = 58
       ·have e : bP v = 1 := by unfold bP; rw [h58]; rfl
        rw [e]
        simp -implicitDefEqProofs [ac119, w1, tn, h0, hp, hp2, hu, hv, a, c, h40, h41, h44, h58]
       ·
        by_cases h59 : v = 59
        ·have e : bP v = 1 := by unfold bP; rw [h59]; rfl
         rw [e]
         simp -implicitDefEqProofs [ac119, w1, tn, h0, hp, hp2, hu, hv, a, c, h40, h41, h44, h58, h59]
        ·
         have h61 : ¬ v = 61 := c
         by_cases h43 : v = 43
         ·have e : bP v = 1 := by unfold bP; rw [h43]; rfl
          rw [e]
          simp -implicitDefEqProofs [ac119, w1, tn, h0, hp, hp2, hu, hv, a, c, h40, h41, h44, h58, h59, h61, h43]
         ·
          have h45 : ¬ v = 45 := a
          by_cases h42 : v = 42
          ·have e : bP v = 1 := by unfold bP; rw [h42]; rfl
           rw [e]
           simp -implicitDefEqProofs [ac119, w1, tn, h0, hp, hp2, hu, hv, a, c, h40, h41, h44, h58, h59, h61, h43, h45, h42]
          ·
           by_cases h47 : v = 47
           ·have e : bP v = 1 := by unfold bP; rw [h47]; rfl
            rw [e]
            simp -implicitDefEqProofs [ac119, w1, tn, h0, hp, hp2, hu, hv, a, c, h40, h41, h44, h58, h59, h61, h43, h45, h42, h47]
           ·
            by_cases h60 : v = 60
            ·have e : bP v = 1 := by unfold bP; rw [h60]; rfl
             rw [e]
             simp -implicitDefEqProofs [ac119, w1, tn, h0, hp, hp2, hu, hv, a, c, h40, h41, h44, h58, h59, h61, h43, h45, h42, h47, h60]
            ·
             by_cases h124 : v = 124
             ·have e : bP v = 1 := by unfold bP; rw [h124]; rfl
              rw [e]
              simp -implicitDefEqProofs [ac119, w1, tn, h0, hp, hp2, hu, hv, a, c, h40, h41, h44, h58, h59, h61, h43, h45, h42, h47, h60, h124]
             ·
              have e : bP v = 0 := by unfold bP; simp only [h40, decide_false, Bool.or_self, h41, decide_false, Bool.or_self, h44, decide_false, Bool.or_self, h58, decide_false, Bool.or_self, h59, decide_false, Bool.or_self, h61, decide_false, Bool.or_self, h43, decide_false, Bool.or_self, h45, decide_false, Bool.or_self, h42, decide_false, Bool.or_self, h47, decide_false, Bool.or_self, h60, decide_false, Bool.or_self, h124, decide_false, Bool.or_self]; rfl
              rw [e]
              simp -implicitDefEqProofs [ac119, w1, tn, h0, hp, hp2, hu, hv, a, c, h40, h41, h44, h58, h59, h61, h43, h45, h42, h47, h60, h124]
 ·have hp2 : ¬ (p : Int) + 1 < t.length := by omega
  rw [if_neg (by simp [hp1])]
  by_cases h40 : v = 40
  ·have e : bP v = 1 := by unfold bP; rw [h40]; rfl
   rw [e]
   simp -implicitDefEqProofs [ac119, w1, tn, h0, hp, hp2, hu, hv, h40]
  ·
   by_cases h41 : v = 41
   ·have e : bP v = 1 := by unfold bP; rw [h41]; rfl
    rw [e]
    simp -implicitDefEqProofs [ac119, w1, tn, h0, hp, hp2, hu, hv, h40, h41]
   ·
    by_cases h44 : v = 44
    ·have e : bP v = 1 := by unfold bP; rw [h44]; rfl
     rw [e]
     simp -implicitDefEqProofs [ac119, w1, tn, h0, hp, hp2, hu, hv, h40, h41, h44]
    ·
     by_cases h58 : v = 58
     ·have e : bP v = 1 := by unfold bP; rw [h58]; rfl
      rw [e]
      simp -implicitDefEqProofs [ac119, w1, tn, h0, hp, hp2, hu, hv, h40, h41, h44, h58]
     ·
      by_cases h59 : v = 59
      ·have e : bP v = 1 := by unfold bP; rw [h59]; rfl
       rw [e]
       simp -implicitDefEqProofs [ac119, w1, tn, h0, hp, hp2, hu, hv, h40, h41, h44, h58, h59]
      ·
       by_cases h61 : v = 61
       ·have e : bP v = 1 := by unfold bP; rw [h61]; rfl
        rw [e]
        simp -implicitDefEqProofs [ac119, w1, tn, h0, hp, hp2, hu, hv, h40, h41, h44, h58, h59, h61]
       ·
        by_cases h43 : v = 43
        ·have e : bP v = 1 := by unfold bP; rw [h43]; rfl
         rw [e]
         simp -implicitDefEqProofs [ac119, w1, tn, h0, hp, hp2, hu, hv, h40, h41, h44, h58, h59, h61, h43]
        ·
         by_cases h45 : v = 45
         ·have e : bP v = 1 := by unfold bP; rw [h45]; rfl
          rw [e]
          simp -implicitDefEqProofs [ac119, w1, tn, h0, hp, hp2, hu, hv, h40, h41, h44, h58, h59, h61, h43, h45]
         ·
          by_cases h42 : v = 42
          ·have e : bP v = 1 := by unfold bP; rw [h42]; rfl
           rw [e]
           simp -implicitDefEqProofs [ac119, w1, tn, h0, hp, hp2, hu, hv, h40, h41, h44, h58, h59, h61, h43, h45, h42]
          ·
           by_cases h47 : v = 47
           ·have e : bP v = 1 := by unfold bP; rw [h47]; rfl
            rw [e]
            simp -implicitDefEqProofs [ac119, w1, tn, h0, hp, hp2, hu, hv, h40, h41, h44, h58, h59, h61, h43, h45, h42, h47]
           ·
            by_cases h60 : v = 60
            ·have e : bP v = 1 := by unfold bP; rw [h60]; rfl
             rw [e]
             simp -implicitDefEqProofs [ac119, w1, tn, h0, hp, hp2, hu, hv, h40, h41, h44, h58, h59, h61, h43, h45, h42, h47, h60]
            ·
             by_cases h124 : v = 124
             ·have e : bP v = 1 := by unfold bP; rw [h124]; rfl
              rw [e]
              simp -implicitDefEqProofs [ac119, w1, tn, h0, hp, hp2, hu, hv, h40, h41, h44, h58, h59, h61, h43, h45, h42, h47, h60, h124]
             ·
              have e : bP v = 0 := by unfold bP; simp only [h40, decide_false, Bool.or_self, h41, decide_false, Bool.or_self, h44, decide_false, Bool.or_self, h58, decide_false, Bool.or_self, h59, decide_false, Bool.or_self, h61, decide_false, Bool.or_self, h43, decide_false, Bool.or_self, h45, decide_false, Bool.or_self, h42, decide_false, Bool.or_self, h47, decide_false, Bool.or_self, h60, decide_false, Bool.or_self, h124, decide_false, Bool.or_self]; rfl
              rw [e]
              simp -implicitDefEqProofs [ac119, w1, tn, h0, hp, hp2, hu, hv, h40, h41, h44, h58, h59, h61, h43, h45, h42, h47, h60, h124]
def zf (n : Int) : Nat := FloatKind.f64.nearest n
theorem cvZ {n : Int} : cvD Tryz.prog 3 226 (I n) = some (FL (zf n)) := NL Tryz.underlying3 Tryz.underlying226
theorem Z7_c (a b : Int) : Pure Tryz.prog 117 [.agg [I a, I b]] (CX (zf a) (zf b)) := by
 refine fi117.pu (by simp) ?_
 simp -implicitDefEqProofs [ac117, cvZ]
def seg (t : List UInt8) (p n : Nat) : List UInt8 := (t.take (p + n)).drop p
theorem vJ {t : List UInt8} {p n : Nat} (h : p + n ≤ t.length) : (seg t p n).length = n := by
 unfold seg; simp; omega
def gP (t : List UInt8) (p : Nat) : Mk × Bool :=
 if decide (0 < runL t p) && dgI (bt8 t p) then (⟨2, seg t p (runL t p), ⟨zf (j8 (seg t p (runL t p))).1, zf (j8 (seg t p (runL t p))).2⟩, p⟩, mN (seg t p (runL t p)))
 else if decide (0 < runL t p) && decide (bt8 t p = 95) then (⟨0, seg t p (runL t p), ⟨0, 0⟩, p⟩, false)
 else if decide (0 < runL t p) then (⟨if resv (seg t p (runL t p)) then 1 else 0, seg t p (runL t p), ⟨0, 0⟩, p⟩, true)
 else (⟨3, seg t p (lV t p), ⟨0, 0⟩, p⟩, decide (0 < lV t p))
theorem CR {t : List UInt8} {p : Nat} (h : p ≤ t.length) : p + runL t p ≤ t.length := (C5 _ t p 0 (by omega)).2
theorem L6 (v : Int) : bP v ≤ 1 := by unfold bP; split <;> omega
theorem y5 {t : List UInt8} {p : Nat} (h : p < t.length) : p + lV t p ≤ t.length := by
 unfold lV
 have := L6 (bt8 t p)
 split
 ·rename_i hc
  simp only [Bool.and_eq_true, decide_eq_true_eq] at hc
  omega
 ·omega
theorem one_c (t : List UInt8) (p : Nat) (hl : t.length < 2 ^ 46) (hp : p < t.length) : Pure Tryz.prog 90 [.sl (em dM t), I p] (.tup [.agg (aB (gP t p).1), B (gP t p).2]) := by
 have hr := run_c t p hl (by omega)
 have hs := sign_c t p hl hp
 have hrl := CR (Nat.le_of_lt hp)
 have hsl := y5 hp
 have hg := vJ hrl
 have hdg := CB (bt8 t p)
 have hpn := MR (seg t p (runL t p)) (by omega)
 have hrv := DV (seg t p (runL t p))
 have e1 : List.drop p (List.take (p + runL t p) t) = seg t p (runL t p) := rfl
 have e2 : List.drop p (List.take (p + lV t p) t) = seg t p (lV t p) := rfl
 unfold gP
 generalize seg t p (runL t p) = s at *
 generalize seg t p (lV t p) = s2 at *
 generalize runL t p = n at *
 generalize lV t p = n2 at *
 have w1 := aS (x := (p : Int) + (n : Int)) (by omega) (by omega)
 have w2 := aS (x := (p : Int) + (n2 : Int)) (by omega) (by omega)
 have tn1 : ((p : Int) + (n : Int)).toNat = p + n := by omega
 have tn2 : ((p : Int) + (n2 : Int)).toNat = p + n2 := by omega
 have hpi : (p : Int) < t.length := by omega
 have b1 : (p : Int) ≤ (p : Int) + (n : Int) := by omega
 have b2 : (p : Int) + (n : Int) ≤ t.length := by omega
 have b3 : (p : Int) ≤ (p : Int) + (n2 : Int) := by omega
 have b4 : (p : Int) + (n2 : Int) ≤ t.length := by omega
 refine fi90.pu (by simp) ?_
 by_cases h0 : 0 < n
 ·cases hd : dgI (bt8 t p) <;> rw [hd] at hdg
  ·by_cases h1 : bt8 t p = 95
   ·rw [if_neg (by simp), if_pos (by simp [h0, h1])]
    simp -implicitDefEqProofs [ac90]
    refine aG (hr) (by simp) ?_
    simp -implicitDefEqProofs [w1, tn1, b1, b2, e1, h0, hp]
    refine aG (hdg) (by simp) ?_
    simp -implicitDefEqProofs [h0, hp, h1]
    rfl
   ·rw [if_neg (by simp), if_neg (by simp [h1]), if_pos (by simp [h0])]
    simp -implicitDefEqProofs [ac90]
    refine aG (hr) (by simp) ?_
    simp -implicitDefEqProofs [w1, tn1, b1, b2, e1, h0, hp]
    refine aG (hdg) (by simp) ?_
    simp -implicitDefEqProofs [h0, hp, h1]
    cases hv : resv s <;> rw [hv] at hrv
    ·refine aG (hrv) (by simp) ?_
     simp -implicitDefEqProofs
     rfl
    ·refine aG (hrv) (by simp) ?_
     simp -implicitDefEqProofs
     rfl
  ·rw [if_pos (by simp [h0])]
   have hz := Z7_c (j8 s).1 (j8 s).2
   simp -implicitDefEqProofs [ac90]
   refine aG (hr) (by simp) ?_
   simp -implicitDefEqProofs [w1, tn1, b1, b2, e1, h0, hp]
   refine aG (hdg) (by simp) ?_
   simp -implicitDefEqProofs
   cases ho : mN s <;> rw [ho] at hpn
   ·refine aG (hpn) (by simp) ?_
    simp -implicitDefEqProofs
    refine aG (hz) (by simp) ?_
    simp -implicitDefEqProofs
    rfl
   ·refine aG (hpn) (by simp) ?_
    simp -implicitDefEqProofs
    refine aG (hz) (by simp) ?_
    simp -implicitDefEqProofs
    rfl
 ·rw [if_neg (by simp [h0]), if_neg (by simp [h0]), if_neg (by simp [h0])]
  simp -implicitDefEqProofs [ac90]
  refine aG (hr) (by simp) ?_
  simp -implicitDefEqProofs [w1, tn1, b1, b2, e1, h0]
  refine aG (hs) (by simp) ?_
  simp -implicitDefEqProofs [w2, tn2, b3, b4, e2]
  rfl
def fH : Nat → List UInt8 → Nat → Nat
 | 0, _, p => p
 | f + 1, t, p => if decide (p < t.length) && !decide (bt8 t p = 10) then fH f t (p + 1) else p
def sG (t : List UInt8) : Mk := ⟨4, [], ⟨0, 0⟩, t.length⟩
def eN : Nat → List UInt8 → Nat → List Mk → List Mk × Int
 | 0, _, _, _ => ([], 0)
 | f + 1, t, p, out => if p < t.length then
   (if nS (bt8 t p) then eN f t (p + 1) out else
   if bt8 t p = 35 then eN f t (fH t.length t p) out else
   if (gP t p).2 then eN f t (p + (gP t p).1.text.length) (out ++ [(gP t p).1]) else ([], p))
  else (out ++ [sG t], -1)
def dN (t : List UInt8) : List Mk × Int := eN (t.length + 1) t 0 []
theorem nC : ∀ (f : Nat) (t : List UInt8) (p : Nat), p ≤ t.length → p ≤ fH f t p ∧ fH f t p ≤ t.length
 | 0, t, p, h => ⟨Nat.le_refl _, h⟩
 | f + 1, t, p, h => by
  unfold fH
  split
  ·rename_i hc
   simp only [Bool.and_eq_true, decide_eq_true_eq] at hc
   have := nC f t (p + 1) (by omega)
   omega
  ·exact ⟨Nat.le_refl _, h⟩
theorem IS {t : List UInt8} {p : Nat} (h : p < t.length) (hc : bt8 t p = 35) : p < fH t.length t p := by
 obtain ⟨f, hf⟩ : ∃ f, t.length = f + 1 := ⟨t.length - 1, by omega⟩
 have key : ∀ n, n = f + 1 → p < fH n t p := fun n hn => by
  rw [hn]
  unfold fH
  rw [if_pos (by simp [h, hc])]
  have := (nC f t (p + 1) (by omega)).1
  omega
 exact key _ hf
theorem vY {t : List UInt8} {p : Nat} (h : p < t.length) (ho : (gP t p).2 = true) : 0 < (gP t p).1.text.length ∧ p + (gP t p).1.text.length ≤ t.length := by
 have hr := CR (Nat.le_of_lt h)
 have hs := y5 h
 have h1 := vJ hr
 have h2 := vJ hs
 unfold gP at ho ⊢
 by_cases c1 : (decide (0 < runL t p) && dgI (bt8 t p)) = true
 ·rw [if_pos c1] at ho ⊢
  simp only [Bool.and_eq_true, decide_eq_true_eq] at c1
  simp only [h1]; omega
 ·rw [if_neg c1] at ho ⊢
  by_cases c2 : (decide (0 < runL t p) && decide (bt8 t p = 95)) = true
  ·rw [if_pos c2] at ho; simp at ho
  ·rw [if_neg c2] at ho ⊢
   by_cases c3 : decide (0 < runL t p) = true
   ·rw [if_pos c3]
    simp only [decide_eq_true_eq] at c3
    simp only [h1]; omega
   ·rw [if_neg c3] at ho ⊢
    simp only [decide_eq_true_eq] at ho
    simp only [h2]; omega
theorem HE (t : List UInt8) (p : Nat) (hl : t.length ≤ 2 ^ 20) (hp : p ≤ t.length) {mem : Mem} {nx : Nat} {d2 d3 d4 d6 d7 : D} (Q : Exit → St → Prop)
  (hq : ∀ m, nx ≤ m → Q (.exit 2) ⟨[(0, .sl (em dM t)), (2, d2), (3, d3), (4, d4), (5, I (fH (t.length - p) t p)), (6, d6), (7, d7)], [], mem, m⟩) :
  A cf61 (.loop lb61_0) Q [(0, .sl (em dM t)), (2, d2), (3, d3), (4, d4), (5, I p), (6, d6), (7, d7)] mem nx := by
 generalize hG : fH (t.length - p) t p = G at hq
 refine lpG cf61 lb61_0 [5] (α := Nat) (fun k _ => [(5, I k)]) (fun _ _ => mem) (fun k m => nx ≤ m ∧ p ≤ k ∧ k ≤ t.length ∧ fH (t.length - k) t k = G) (fun k => t.length - k) p ⟨Nat.le_refl _, Nat.le_refl _, hp, hG⟩ (by simp) (by simp) ?_
 rintro k m ⟨hm, hk0, hk, he⟩
 have w1 := aS (x := (k : Int) + 1) (by omega) (by omega)
 by_cases h : k < t.length
 ·obtain ⟨f, hf⟩ : ∃ f, t.length - k = f + 1 := ⟨t.length - k - 1, by omega⟩
  have hf2 : t.length - (k + 1) = f := by omega
  rw [hf] at he
  unfold fH at he
  by_cases hc : bt8 t k = 10
  ·rw [if_neg (by simp [hc])] at he
   rw [← he] at hq
   simp -implicitDefEqProofs [lb61_0, h, hc]
   exact hq _ (by omega)
  ·rw [if_pos (by simp [h, hc])] at he
   simp -implicitDefEqProofs [lb61_0, h, hc, w1]
   refine aI (k + 1) ⟨by omega, by omega, h, by rw [hf2]; exact he⟩ (by omega) (by simp) (by simp)
 ·have hf : t.length - k = 0 := by omega
  rw [hf] at he
  have he : k = G := he
  subst he
  simp -implicitDefEqProofs [lb61_0, h]
  exact hq _ (by omega)
theorem uY : ∀ (f g : Nat) (t : List UInt8) (p : Nat), t.length - p ≤ f → t.length - p ≤ g → fH f t p = fH g t p
 | 0, g, t, p, hf, hg => by
  cases g with
  | zero => rfl
  | succ g =>
   unfold fH
   rw [if_neg (by simp; omega)]
 | f + 1, 0, t, p, hf, hg => by
  unfold fH
  rw [if_neg (by simp; omega)]
 | f + 1, g + 1, t, p, hf, hg => by
  unfold fH
  split
  ·rename_i hc
   simp only [Bool.and_eq_true, decide_eq_true_eq] at hc
   exact uY f g t (p + 1) (by omega) (by omega)
  ·rfl
theorem CI (t : List UInt8) (hl : t.length ≤ 2 ^ 20) : Pure Tryz.prog 61 [.sl (em dM t)] (.tup [.sl (em aB (dN t).1), I (dN t).2]) := by
 refine fi61.pu (by simp) ?_
 generalize hR : dN t = R
 simp -implicitDefEqProofs [ac61]
 refine cW (j := 4) (k := 4) rfl (.inl rfl) ?_
 refine lpG cf61 lb61_1 [2, 3, 4, 5, 6, 7] (α := Nat × List Mk) (fun s _ => [(4, .osl 4 s.2.length 0 s.2.length), (5, I s.1)]) (fun s _ => [(4, .arr s.2.length 4 (em aB s.2))]) (fun s m => 4 < m ∧ s.1 ≤ t.length ∧ s.2.length ≤ s.1 ∧ ∃ f, t.length - s.1 < f ∧ eN f t s.1 s.2 = R) (fun s => t.length - s.1) (0, []) ⟨by omega, by simp, by simp, t.length + 1, by simp, hR⟩ (by simp) (by simp) ?_
 rintro ⟨p, out⟩ m ⟨hm, hp, ho, f, hf, hR⟩
 simp only at hp ho hf hR
 have hz : ∀ {f : Nat}, t.length - p < f → ∃ g, f = g + 1 := fun {f} h => ⟨f - 1, by omega⟩
 obtain ⟨g, rfl⟩ := hz hf
 unfold eN at hR
 have w1 := aS (x := (p : Int) + 1) (by omega) (by omega)
 by_cases hlt : p < t.length
 ·rw [if_pos hlt] at hR
  have hbl := LN (bt8 t p)
  cases hb : nS (bt8 t p) <;> rw [hb] at hbl hR
  ·rw [if_neg (by decide)] at hR
   by_cases hc : bt8 t p = 35
   ·rw [if_pos hc] at hR
    have h1 := IS hlt hc
    have h2 := (nC t.length t p hp).2
    have e := uY t.length (t.length - p) t p (by omega) (Nat.le_refl _)
    simp -implicitDefEqProofs [lb61_1, hlt]
    refine aG (hbl) (by simp) ?_
    simp -implicitDefEqProofs [hlt, hc]
    refine HE t p hl hp _ (fun m2 hm2 => ?_)
    rw [← e]
    simp -implicitDefEqProofs
    refine aI (fH t.length t p, out) ⟨by omega, h2, by simp only; omega, g, by simp only; omega, hR⟩ (by simp only; omega) (by simp) (by simp)
   ·rw [if_neg hc] at hR
    have h1 := one_c t p (by omega) hlt
    cases hok : (gP t p).2 <;> rw [hok] at h1 hR
    ·rw [if_neg (by decide)] at hR
     subst hR
     generalize (gP t p).1 = k at *
     simp only [aB] at h1
     simp -implicitDefEqProofs [lb61_1, hlt]
     refine aG (hbl) (by simp) ?_
     simp -implicitDefEqProofs [hlt, hc]
     refine aG (h1) (by simp) ?_
     simp -implicitDefEqProofs
    ·rw [if_pos rfl] at hR
     obtain ⟨h2, h3⟩ := vY hlt hok
     have w2 := aS (x := (p : Int) + ((gP t p).1.text.length : Int)) (by omega) (by omega)
     generalize (gP t p).1 = k at *
     simp only [aB] at h1
     simp -implicitDefEqProofs [lb61_1, hlt]
     refine aG (hbl) (by simp) ?_
     simp -implicitDefEqProofs [hlt, hc]
     refine aG (h1) (by simp) ?_
     simp -implicitDefEqProofs [w2]
     refine ⟨by omega, aI (p + k.text.length, out ++ [k]) ⟨by omega, h3, by simp; omega, g, by simp only; omega, hR⟩ (by simp only; omega) (by simp) ?_⟩
     rw [ER]
     refine aN ?_ (by simp [look])
     simp
  ·rw [if_pos rfl] at hR
   simp -implicitDefEqProofs [lb61_1, hlt]
   refine aG (hbl) (by simp) ?_
   simp -implicitDefEqProofs [w1]
   refine aI (p + 1, out) ⟨by omega, hlt, by simp only; omega, g, by simp only; omega, hR⟩ (by simp only; omega) (by simp) (by simp)
 ·rw [if_neg hlt] at hR
  subst hR
  have ha : em aB out ++ [[I 4, .pl (.string (ByteArray.mk (Array.mk []))), CX 0 0, I t.length]] = em aB (out ++ [sG t]) := ER out (sG t)
  have hl2 : out.length + 1 = (out ++ [sG t]).length := by simp
  simp -implicitDefEqProofs [lb61_1, hlt, ha]
  exact ⟨by omega, by rw [hl2, List.take_length]⟩
def MOk (l : List Mk) : Prop := 0 < l.length ∧ ∀ i, i < l.length → (l[i]?.getD default).kind ≠ 4 → i + 1 < l.length
theorem oC : ∀ (f : Nat) (t : List UInt8) (p : Nat) (out : List Mk), (eN f t p out).2 < 0 → MOk (eN f t p out).1
 | 0, t, p, out, h => by simp [eN] at h
 | f + 1, t, p, out, h => by
  unfold eN at h ⊢
  by_cases c1 : p < t.length
  ·rw [if_pos c1] at h ⊢
   by_cases c2 : nS (bt8 t p) = true
   ·rw [if_pos c2] at h ⊢; exact oC f _ _ _ h
   ·rw [if_neg c2] at h ⊢
    by_cases c3 : bt8 t p = 35
    ·rw [if_pos c3] at h ⊢; exact oC f _ _ _ h
    ·rw [if_neg c3] at h ⊢
     by_cases c4 : (gP t p).2 = true
     ·rw [if_pos c4] at h ⊢; exact oC f _ _ _ h
     ·rw [if_neg c4] at h; simp only at h; omega
  ·rw [if_neg c1] at h ⊢
   refine ⟨by simp, fun i hi hk => ?_⟩
   simp only [List.length_append, List.length_cons, List.length_nil] at hi ⊢
   by_cases e : i = out.length
   ·subst e
    simp [sG] at hk
   ·omega
theorem mK : ∀ (f : Nat) (t : List UInt8) (p : Nat) (out : List Mk), p ≤ t.length → out.length ≤ p → (eN f t p out).1.length ≤ t.length + 1
 | 0, t, p, out, _, _ => by simp [eN]
 | f + 1, t, p, out, hp, ho => by
  unfold eN
  by_cases c1 : p < t.length
  ·rw [if_pos c1]
   by_cases c2 : nS (bt8 t p) = true
   ·rw [if_pos c2]; exact mK f _ _ _ (by omega) (by omega)
   ·rw [if_neg c2]
    by_cases c3 : bt8 t p = 35
    ·rw [if_pos c3]
     have := nC t.length t p hp
     exact mK f _ _ _ (by omega) (by omega)
    ·rw [if_neg c3]
     by_cases c4 : (gP t p).2 = true
     ·rw [if_pos c4]
      have := vY c1 c4
      exact mK f _ _ _ (by omega) (by simp; omega)
     ·rw [if_neg c4]; simp
  ·rw [if_neg c1]; simp; omega
end Go.Fx.YtlhdpfaohphbaaaGreat
namespace Go.Fx
open Go
section
variable {α : Type}
@[simp] theorem jO {i : Nat} {b : α} : ∀ {m : List (Nat × α)}, look (upd m i b) i = (look m i).map fun _ => b
 | [] => rfl
 | (k, x) :: m => by
  by_cases h : k = i
  ·simp [upd, look, h]
  ·simp only [upd, look, h, if_false]; exact jO
@[simp] theorem jV {i : Nat} {a b : α} : ∀ {m : List (Nat × α)}, upd (upd m i a) i b = upd m i b
 | [] => rfl
 | (k, x) :: m => by
  by_cases h : k = i
  ·simp [upd, h]
  ·simp only [upd, h, if_false]; rw [jV]
theorem cB {i j : Nat} {b : α} (h : j ≠ i) {m : List (Nat × α)} : look (upd m i b) j = look m j := bC b h m
theorem aH {i j : Nat} {b : α} : ∀ {m : List (Nat × α)}, look m j = none → look (upd m i b) j = none
 | [], _ => rfl
 | (k, x) :: m, h => by
  simp only [look] at h
  by_cases hk : k = j
  ·simp [hk] at h
  ·simp only [hk, if_false] at h
   by_cases hi : k = i
   ·simp only [upd, hi, if_true, look]
    subst hi
    simp [hk, h]
   ·simp only [upd, hi, if_false, look, hk]
    exact aH h
theorem cQ {i : Nat} {b : α} : ∀ {m : List (Nat × α)}, look m i = some b → upd m i b = m
 | [], h => rfl
 | (k, x) :: m, h => by
  simp only [look] at h
  by_cases hk : k = i
  ·simp only [hk, if_true, Option.some.injEq] at h; simp [upd, hk, h]
  ·simp only [hk, if_false] at h
   simp only [upd, hk, if_false]; rw [cQ h]
end
theorem neA {i a c : Nat} (h : i < a) : (a + c = i) = False := eq_false (by omega)
theorem neC {i a : Nat} (h : i < a) : (a = i) = False := eq_false (by omega)
theorem neE {L m b : Nat} (hm : L ≤ m) (h : b < L) : (m = b) = False := eq_false (by omega)
theorem ltF {L m b : Nat} (hm : L ≤ m) (h : b < L) : (b < m) = True := eq_true (by omega)
theorem nfc {p : Prop} (h : p) {L m : Nat} (hm : L ≤ m) : p ∧ (∀ b, b < L → (m = b) = False) ∧ (∀ b, b < L → (b < m) = True) := ⟨h, fun _ k => neE hm k, fun _ k => ltF hm k⟩
theorem ltA {i a c : Nat} (h : i < a) : (i < a + c) = True := eq_true (by omega)
section
variable {P : Program} {f : FuncId} {args : List D} {mem : Mem} {nx : Nat} {K K' : KD}
def KFrz (K : KD) : KD := fun d m n => ∃ mf mk d', cD m mf ∧ cD m mk ∧ (∀ i, look mf i = none ∨ look mk i = none) ∧ frz mf 100 d = some d' ∧ K d' mk n
theorem bK (h : bO P f args mem nx (KFrz K)) : bO P f args mem nx K := by
 refine ⟨h.1, fun S φ w xs hm hx => (h.2 S φ w xs hm hx).mono ?_⟩
 rintro e w' ⟨v, d, mem', nx', S', φ', he, ⟨mf, mk, d', g1, g2, gd, gf, gk⟩, hn, hm', hr, hst, hx', hlow⟩
 have hmf : MSim S' φ' mf nx' w' := gA hm' (gI g1) (Nat.le_refl _)
 have hmk0 : MSim S' φ' mk nx' w' := gA hm' (gI g2) (Nat.le_refl _)
 have hS2 : ∀ b, SF S' φ' mf b → b < w'.heap.size := by
  rintro b (h | ⟨i, blk, l, _, k2, k3, rfl⟩)
  ·exact hm'.sub b h
  ·exact hm'.lt i l k2 k3
 have hmk : MSim (SF S' φ' mf) φ' mk nx' w' := ⟨fun i blk hi => by
   obtain ⟨l, k1, k2, k3⟩ := hmk0.mem i blk hi
   refine ⟨l, k1, fun hr hs => ?_, BRep.mono jI (fun _ => rfl) blk k3⟩
   rcases hs with hs | ⟨j, blk', l', j1, j2, j3, j4⟩
   ·exact k2 hr hs
   ·have := hm'.inj j i l' l j2 k1 j3 hr j4
    subst this
    rcases gd j with e | e
    ·rw [e] at j1; simp at j1
    ·rw [e] at hi; simp at hi, hm'.inj, hm'.lt, hm'.fresh, hS2⟩
 have hst2 : Stays w' S' φ' w' (SF S' φ' mf) φ' := jI
 refine ⟨v, d', mk, nx', SF S' φ' mf, φ', he, gk, hn, hmk, Rep.mono (φ' := φ') ⟨fun _ h => h, fun _ _ _ => rfl, fun _ _ h => by simp [cN] at h⟩ _ _ (jU hmf 100 d d' _ gf hr),
  ⟨fun b hb => .inl (hst.sub b hb), hst.cell, hst.loc⟩, ⟨fun b hb => .inl (hx'.sub b hb), fun b hb ho => hx'.keep b hb ho, hx'.size, fun b hb ho => hx'.own b hb ?_, fun b hb => ?_, hx'.os, hx'.output, hx'.tape⟩, hlow⟩
 ·obtain ⟨i, blk, l, k1, k2, k3, k4⟩ := ho
  exact ⟨i, blk, l, g2 i blk k1, k2, k3, k4⟩
 ·rcases hb with h | ⟨i, blk, l, k1, k2, k3, k4⟩
  ·exact hx'.news b h
  ·by_cases hlt : b < w.heap.size
   ·exact .inr (.inr (hx'.own b hlt ⟨i, blk, l, g1 i blk k1, k2, k3, k4⟩))
   ·exact .inr (.inl (by omega))
theorem DT {m : Mem} {L : Nat} {b : Blk} (h : look m L = some b) : cD m [(L, b)] := fun i x hx => by
 simp only [look] at hx
 split at hx
 ·rename_i e
  simp only [Option.some.injEq] at hx
  rw [← e, ← hx]; exact h
 ·simp at hx
theorem eX {m m0 : Mem} {d d' : D} {n : Nat} (h1 : cD m m0) (h2 : frz [] 100 d = some d') (h3 : K d' m0 n) : ∃ mem', cD m mem' ∧ KFrz K d mem' n :=
 ⟨m0, h1, [], m0, d', iO _, aF _, fun _ => .inl rfl, h2, h3⟩
theorem nZ {m mk : Mem} {d d' : D} {n : Nat} (L : Nat) (b : Blk) (hL : look m L = some b) (h1 : cD m mk) (hn : look mk L = none) (h2 : frz [(L, b)] 100 d = some d') (h3 : K d' mk n) : ∃ mem', cD m mem' ∧ KFrz K d mem' n :=
 ⟨m, aF _, [(L, b)], mk, d', DT hL, h1, fun i => by
  by_cases e : L = i
  ·subst e; exact .inr hn
  ·left; simp [look, e], h2, h3⟩
end
end Go.Fx
namespace Go.Fx.YtlhdpfaohphbaaaGreat
open Go Go.Fx Go.Proofs Go.Fx.Flt
inductive Ex where
 | mk (op : Int) (name tail : List UInt8) (type : Int) (num : Cx) (args : List Ex) (at' : Int)
namespace Ex
def op : Ex → Int | mk o _ _ _ _ _ _ => o
def name : Ex → List UInt8 | mk _ n _ _ _ _ _ => n
def tail : Ex → List UInt8 | mk _ _ t _ _ _ _ => t
def type : Ex → Int | mk _ _ _ t _ _ _ => t
def num : Ex → Cx | mk _ _ _ _ z _ _ => z
def args : Ex → List Ex | mk _ _ _ _ _ a _ => a
def at' : Ex → Int | mk _ _ _ _ _ _ p => p
end Ex
def ex0 : Ex := .mk 0 [] [] 0 ⟨0, 0⟩ [] 0
instance : Inhabited Ex := ⟨ex0⟩
mutual
def aQ : Ex → List D
 | .mk o n t ty z ar p => [I o, Tx n, Tx t, I ty, CX z.re z.im, .sl (oV ar), I p]
def oV : List Ex → List (List D)
 | [] => []
 | e :: es => aQ e :: oV es
end
theorem rA : ∀ (l : List Ex), oV l = em aQ l
 | [] => rfl
 | e :: es => by unfold oV em; rw [rA es]; rfl
theorem aA : ∀ (e : Ex), aQ e = [I e.op, Tx e.name, Tx e.tail, I e.type, CX e.num.re e.num.im, .sl (em aQ e.args), I e.at']
 | .mk o n t ty z ar p => by unfold aQ; rw [rA]; rfl
theorem bE (o : Int) (n t : List UInt8) (ty : Int) (z : Cx) (ar : List Ex) (p : Int) : aQ (.mk o n t ty z ar p) = [I o, Tx n, Tx t, I ty, CX z.re z.im, .sl (em aQ ar), I p] := aA _
mutual
theorem imm_Ex : ∀ (e : Ex), D.imms (aQ e) = true
 | .mk o n t ty z ar p => by
  unfold aQ
  have := wA ar
  simp [D.imms, D.imm, this]
theorem wA : ∀ (l : List Ex), D.immss (oV l) = true
 | [] => rfl
 | e :: es => by
  unfold oV
  simp [D.immss, imm_Ex e, wA es]
end
theorem LW (l : List Ex) : D.immss (em aQ l) = true := by rw [← rA]; exact wA l
theorem ia_Ex {l : List Ex} {mem : Mem} {j : IntKind} {i : Int} : iaD mem 7 (.sl (em aQ l)) (.pl (.int j i)) = if 0 ≤ i ∧ i < l.length then some (.pt [I (l[i.toNat]?.getD default).op, Tx (l[i.toNat]?.getD default).name, Tx (l[i.toNat]?.getD default).tail, I (l[i.toNat]?.getD default).type, CX (l[i.toNat]?.getD default).num.re (l[i.toNat]?.getD default).num.im, .sl (em aQ (l[i.toNat]?.getD default).args), I (l[i.toNat]?.getD default).at']) else none := by
 rw [← aA]
 exact iX fun e => by rw [aA]; rfl
theorem A_ (l : List Ex) (e : Ex) : em aQ l ++ [aQ e] = em aQ (l ++ [e]) := fP
attribute [simp] ia_Ex LW
structure Pm where
 name : List UInt8
 type : Int
 at' : Int
instance : Inhabited Pm := ⟨⟨[], 0, 0⟩⟩
def bG (p : Pm) : List D := [Tx p.name, I p.type, I p.at']
theorem imm_Pm (l : List Pm) : D.immss (em bG l) = true := gQ fun _ => rfl
theorem ia_Pm {l : List Pm} {mem : Mem} {j : IntKind} {i : Int} : iaD mem 3 (.sl (em bG l)) (.pl (.int j i)) = if 0 ≤ i ∧ i < l.length then some (.pt [Tx (l[i.toNat]?.getD default).name, I (l[i.toNat]?.getD default).type, I (l[i.toNat]?.getD default).at']) else none := iX fun _ => rfl
theorem o4 (l : List Pm) (p : Pm) : em bG l ++ [[Tx p.name, I p.type, I p.at']] = em bG (l ++ [p]) := fP
attribute [simp] imm_Pm ia_Pm
structure Fn where
 name : List UInt8
 params : List Pm
 type : Int
 body : Ex
 at' : Int
instance : Inhabited Fn := ⟨⟨[], [], 0, default, 0⟩⟩
def aY (f : Fn) : List D := [Tx f.name, .sl (em bG f.params), I f.type] ++ aQ f.body ++ [I f.at']
structure Rd where
 ms : List Mk
 at' : Nat
 why : Int
 wh : Int
 lT : Int
 lF : Int
 lA : Int
 lN : Int
 nest : Int
def aC (r : Rd) : List D := [.sl (em aB r.ms), I r.at', I r.why, I r.wh, I r.lT, I r.lF, I r.lA, I r.lN, I r.nest]
namespace Rd
def next (r : Rd) : Mk := r.ms[r.at']?.getD default
def fail (r : Rd) (w : Int) : Rd := if r.why = 0 then { r with why := w, wh := r.next.at' } else r
def is (r : Rd) (s : List UInt8) : Bool := decide (r.why = 0) && ((decide (r.next.kind = 1) || decide (r.next.kind = 3)) && decide (r.next.text = s))
def adv (r : Rd) : Rd := { r with at' := r.at' + 1 }
def want (r : Rd) (s : List UInt8) : Rd := if r.is s then r.adv else r.fail 21
def bad (r : Rd) : Bool := !decide (r.why = 0) || !decide (r.next.kind = 0)
def name (r : Rd) : Mk × Rd := if r.bad then (default, r.fail 21) else (r.next, r.adv)
def typ (r : Rd) : Int × Rd := if r.is [78] then (1, r.adv) else if r.is [66] then (2, r.adv) else if r.is [76] then (3, r.adv) else (0, r.fail 21)
structure ok (r : Rd) : Prop where
 ms : MOk r.ms
 lt : r.at' < r.ms.length
 len : r.ms.length ≤ 2 ^ 21
 n0 : 0 ≤ r.nest
 n1 : r.nest ≤ 2 ^ 40
 l1 : r.lN ≤ 2 ^ 40
end Rd
def two (op : Int) (a b : Ex) (m : Mk) : Ex := .mk op [] [] 0 ⟨0, 0⟩ [a, b] m.at'
def b_ (s : List UInt8) : Int :=
 if s = [116, 114, 117, 101] then 2 else if s = [102, 97, 108, 115, 101] then 3 else if s = [110, 105, 108] then 4 else if s = [102, 97, 105, 108] then 5 else
 if s = [110, 111, 116] then 14 else if s = [114, 101] then 15 else if s = [105, 109] then 16 else if s = [99, 111, 110, 106] then 17 else 0
def binds (r : Rd) : Bool := r.is [108, 101, 116] || (r.is [115, 116, 114, 105, 99, 116] || r.is [99, 97, 115, 101])
abbrev PR := Option (Ex × Rd)
mutual
def bM : Nat → Rd → PR
 | 0, _ => none
 | n + 1, r =>
  let b := binds r
  let r1 := if b && decide (r.lN ≤ r.nest) then r.fail 23 else r
  if r1.why ≠ 0 then some (ex0, r1) else
  if b = false ∧ r1.is [105, 102] = false then iP n r1 else
  let r2 := (if b then { r1 with nest := r1.nest + 1 } else r1).adv
  let res : PR := if r.next.text = [105, 102] then (cL n [[], [116, 104, 101, 110], [101, 108, 115, 101]] r2).map fun (l, q) => (.mk 19 [] [] 0 ⟨0, 0⟩ l r.next.at', q)
   else if r.next.text = [99, 97, 115, 101] then eJ n r2 r.next.at'
   else (cL n [[61], [105, 110]] r2.name.2.typ.2).map fun (l, q) => (.mk (if r.next.text = [115, 116, 114, 105, 99, 116] then 22 else 21) r2.name.1.text [] r2.name.2.typ.1 ⟨0, 0⟩ l r.next.at', q)
  res.map fun (e, q) => (e, if b then { q with nest := q.nest - 1 } else q)
def iP : Nat → Rd → PR
 | 0, _ => none
 | n + 1, r => (iZ n r).bind fun (a, r1) => if r1.is [58] then (iP n r1.adv).map fun (b, r2) => (two 18 a b r1.next, r2) else some (a, r1)
def iZ : Nat → Rd → PR
 | 0, _ => none
 | n + 1, r => (j0 n r).bind fun (a, r1) => if r1.is [61, 61] || r1.is [60] then (j0 n r1.adv).map fun (b, r2) => (two (if r1.is [60] then 13 else 12) a b r1.next, r2) else some (a, r1)
def j0 : Nat → Rd → PR
 | 0, _ => none
 | n + 1, r => (eF n r).bind fun (a, r1) => h9 n a r1
def h9 : Nat → Ex → Rd → PR
 | 0, _, _ => none
 | n + 1, a, r => if r.is [43] || r.is [45] then (eF n r.adv).bind fun (b, r2) => h9 n (two (if r.next.text = [45] then 9 else 8) a b r.next) r2 else some (a, r)
def eF : Nat → Rd → PR
 | 0, _ => none
 | n + 1, r => (eD n r).bind fun (a, r1) => fO n a r1
def fO : Nat → Ex → Rd → PR
 | 0, _, _ => none
 | n + 1, a, r => if r.is [42] || r.is [47] then (eD n r.adv).bind fun (b, r2) => fO n (two (if r.next.text = [47] then 11 else 10) a b r.next) r2 else some (a, r)
def eD : Nat → Rd → PR
 | 0, _ => none
 | n + 1, r =>
  if r.why ≠ 0 then some (ex0, r) else
  if r.next.kind = 2 then some (.mk 1 [] [] 0 r.next.num [] r.next.at', r.adv) else
  if r.next.kind = 0 then iE n r.next r.adv else
  if r.is [40] then (bM n r.adv).map fun (e, q) => (e, q.want [41]) else
  if ¬ r.next.kind = 1 ∨ b_ r.next.text = 0 then some (ex0, r.fail 21) else
  if b_ r.next.text = 5 then some (.mk 5 [] [] r.adv.typ.1 ⟨0, 0⟩ [] r.next.at', r.adv.typ.2) else
  if 14 ≤ b_ r.next.text then (bM n (r.adv.want [40])).map fun (x, q) => (.mk (b_ r.next.text) [] [] 0 ⟨0, 0⟩ [x] r.next.at', q.want [41]) else
  some (.mk (b_ r.next.text) [] [] 0 ⟨0, 0⟩ [] r.next.at', r.adv)
def iE : Nat → Mk → Rd → PR
 | 0, _, _ => none
 | n + 1, m, r => if r.is [40] then (e_ n [] r.adv).map fun (l, q) => (.mk 7 m.text [] 0 ⟨0, 0⟩ l m.at', q.want [41]) else some (.mk 6 m.text [] 0 ⟨0, 0⟩ [] m.at', r)
def e_ : Nat → List Ex → Rd → Option (List Ex × Rd)
 | 0, _, _ => none
 | n + 1, l, r => if r.why = 0 ∧ r.is [41] = false then (bM n (if l = [] then r else r.want [44])).bind fun (x, q) => e_ n (l ++ [x]) q else some (l, r)
def cL : Nat → List (List UInt8) → Rd → Option (List Ex × Rd)
 | 0, _, _ => none
 | n + 1, [], r => some ([], r)
 | n + 1, s :: ss, r => (bM n (if s = [] then r else r.want s)).bind fun (x, q) => (cL n ss q).map fun (l, q2) => (x :: l, q2)
def eJ : Nat → Rd → Int → PR
 | 0, _, _ => none
 | n + 1, r, p => (bM n r).bind fun (x, r1) => (bM n (((r1.want [111, 102]).want [110, 105, 108]).want [45, 62])).bind fun (a, r2) =>
   let h := (r2.want [124]).name
   let t := (h.2.want [58]).name
   (bM n (t.2.want [45, 62])).map fun (b, r3) => (.mk 20 h.1.text t.1.text 0 ⟨0, 0⟩ [x, a, b] p, r3)
end
open Go Go.Fx Go.Proofs Go.Fx.Flt
def RC (f : FuncId) (args : List D) (r r' : Rd) (res : D) : Prop :=
 ∀ ⦃id : Nat⦄ ⦃mem : Mem⦄ ⦃nx : Nat⦄ ⦃K : KD⦄, look mem id = some (.box (aC r)) → id < nx → (∀ nx', nx ≤ nx' → K res (upd mem id (.box (aC r'))) nx') → bO Tryz.prog f (.opt id 0 :: args) mem nx K
def RC0 (f : FuncId) (args : List D) (r : Rd) (res : D) : Prop :=
 ∀ ⦃id : Nat⦄ ⦃mem : Mem⦄ ⦃nx : Nat⦄ ⦃K : KD⦄, look mem id = some (.box (aC r)) → id < nx → (∀ nx', nx ≤ nx' → K res mem nx') → bO Tryz.prog f (.opt id 0 :: args) mem nx K
theorem gV {r : Rd} (h : r.ok) : RC0 91 [] r (.agg (aB r.next)) := by
 intro id mem nx K hl hi hk
 refine fi91.ct (by simp) fun hfr => ?_
 have hlt := h.lt
 have hg : r.ms[r.at'] = r.next := by unfold Rd.next; rw [List.getElem?_eq_getElem hlt]; rfl
 simp -implicitDefEqProofs (maxDischargeDepth := 80) [ac91, hl, hi, neC hi, neA, ltA, aC, aB, hlt, hg]
 exact ⟨mem, (by repeat (first | exact aF _ | refine aE ?_ (aH (hfr _ (by omega))) | refine aE ?_ (hfr _ (by omega)))), hk _ (by omega)⟩
theorem nK {r : Rd} (h : r.ok) (w : Int) : RC 120 [I w] r (r.fail w) (.tup []) := by
 intro id mem nx K hl hi hk
 refine fi120.ct (by simp) fun hfr => ?_
 unfold Rd.fail at hk
 by_cases hw : r.why = 0
 ·rw [if_pos hw] at hk
  have hn : RC0 91 [] { r with why := w } (.agg (aB r.next)) := gV (r := { r with why := w }) ⟨h.ms, h.lt, h.len, h.n0, h.n1, h.l1⟩
  simp -implicitDefEqProofs (maxDischargeDepth := 80) [ac120, hl, hi, neC hi, neA, ltA, aC, aB, hw]
  refine aD ((hn) (by simp -implicitDefEqProofs (maxDischargeDepth := 80) [hl, hi, neC hi, neA, ltA, aC, aB]) (by omega) (fun n1 hn1 => ?_))
  have in1 : id < n1 := by omega
  have Kn1 := nfc trivial hn1
  simp -implicitDefEqProofs (maxDischargeDepth := 80) [hl, hi, neC hi, neA, ltA, aC, aB, Kn1]
  exact ⟨_, (by repeat (first | exact aF _ | refine aE ?_ (aH (hfr _ (by omega))) | refine aE ?_ (hfr _ (by omega)))), hk _ (by omega)⟩
 ·rw [if_neg hw, cQ hl] at hk
  simp -implicitDefEqProofs (maxDischargeDepth := 80) [ac120, hl, hi, neC hi, neA, ltA, aC, aB, hw]
  exact ⟨_, (by repeat (first | exact aF _ | refine aE ?_ (aH (hfr _ (by omega))) | refine aE ?_ (hfr _ (by omega)))), hk _ (by omega)⟩
namespace Rd
@[simp] theorem adv_ms {r : Rd} : r.adv.ms = r.ms := rfl
@[simp] theorem adv_at {r : Rd} : r.adv.at' = r.at' + 1 := rfl
@[simp] theorem adv_why {r : Rd} : r.adv.why = r.why := rfl
@[simp] theorem adv_wh {r : Rd} : r.adv.wh = r.wh := rfl
@[simp] theorem adv_lT {r : Rd} : r.adv.lT = r.lT := rfl
@[simp] theorem adv_lF {r : Rd} : r.adv.lF = r.lF := rfl
@[simp] theorem adv_lA {r : Rd} : r.adv.lA = r.lA := rfl
@[simp] theorem adv_lN {r : Rd} : r.adv.lN = r.lN := rfl
@[simp] theorem adv_nest {r : Rd} : r.adv.nest = r.nest := rfl
theorem ok_fail {r : Rd} (h : r.ok) (w : Int) : (r.fail w).ok := by
 unfold fail
 split
 ·exact ⟨h.ms, h.lt, h.len, h.n0, h.n1, h.l1⟩
 ·exact h
theorem ok_adv {r : Rd} (h : r.ok) (hk : r.next.kind ≠ 4) : r.adv.ok := ⟨h.ms, h.ms.2 _ h.lt hk, h.len, h.n0, h.n1, h.l1⟩
theorem is_kind {r : Rd} {s : List UInt8} (h : r.is s = true) : r.why = 0 ∧ (r.next.kind = 1 ∨ r.next.kind = 3) ∧ r.next.text = s := by
 unfold is at h
 simpa using h
theorem is_4 {r : Rd} {s : List UInt8} (h : r.is s = true) : r.next.kind ≠ 4 := by
 have := (is_kind h).2.1
 omega
theorem ok_want {r : Rd} (h : r.ok) (s : List UInt8) : (r.want s).ok := by
 unfold want
 cases hs : r.is s
 ·exact ok_fail h _
 ·exact ok_adv h (is_4 hs)
theorem ok_name {r : Rd} (h : r.ok) : r.name.2.ok := by
 unfold name
 cases hb : r.bad
 ·refine ok_adv h ?_
  unfold bad at hb
  simp at hb
  omega
 ·exact ok_fail h _
theorem ok_typ {r : Rd} (h : r.ok) : r.typ.2.ok := by
 unfold typ
 cases h1 : r.is [78]
 ·cases h2 : r.is [66]
  ·cases h3 : r.is [76]
   ·exact ok_fail h _
   ·exact ok_adv h (is_4 h3)
  ·exact ok_adv h (is_4 h2)
 ·exact ok_adv h (is_4 h1)
end Rd
theorem mB {r : Rd} (h : r.ok) (s : List UInt8) : RC0 123 [Tx s] r (B (r.is s)) := by
 intro id mem nx K hl hi hk
 refine fi123.ct (by simp) fun hfr => ?_
 unfold Rd.is at hk
 have hn := gV h
 by_cases h1 : r.why = 0 <;> by_cases h2 : r.next.kind = 1 <;> by_cases h3 : r.next.kind = 3 <;> by_cases h4 : r.next.text = s <;> simp only [h1, h2, h3, h4, decide_true, decide_false, Bool.true_and, Bool.and_true, Bool.false_and, Bool.or_true, Bool.true_or, Bool.or_false, Bool.and_false, if_true, if_false] at hk
 all_goals
  simp -implicitDefEqProofs (maxDischargeDepth := 80) [ac123, hl, hi, neC hi, neA, ltA, aC, aB]
  refine aD ((hn) (by simp -implicitDefEqProofs (maxDischargeDepth := 80) [hl, hi, neC hi, neA, ltA, aC, aB]) (by omega) (fun n1 hn1 => ?_))
  have in1 : id < n1 := by omega
  have Kn1 := nfc trivial hn1
  simp -implicitDefEqProofs (maxDischargeDepth := 80) [hl, hi, neC hi, neA, ltA, aC, aB, Kn1, h1, h2, h3, h4]
  exact ⟨mem, (by repeat (first | exact aF _ | refine aE ?_ (aH (hfr _ (by omega))) | refine aE ?_ (hfr _ (by omega)))), hk _ (by omega)⟩
theorem jZ {r : Rd} (h : r.ok) (s : List UInt8) : RC 137 [Tx s] r (if r.is s then r.adv else r) (B (r.is s)) := by
 intro id mem nx K hl hi hk
 refine fi137.ct (by simp) fun hfr => ?_
 have hc := mB h s
 have hl2 := h.lt
 have hl3 := h.len
 have w := aS (x := (r.at' : Int) + 1) (by omega) (by omega)
 cases hs : r.is s <;> rw [hs] at hk hc
 ·rw [if_neg (by decide), cQ hl] at hk
  simp -implicitDefEqProofs (maxDischargeDepth := 80) [ac137, hl, hi, neC hi, neA, ltA, aC, aB]
  refine aD ((hc) (by simp -implicitDefEqProofs (maxDischargeDepth := 80) [hl, hi, neC hi, neA, ltA, aC, aB]) (by omega) (fun n1 hn1 => ?_))
  have in1 : id < n1 := by omega
  have Kn1 := nfc trivial hn1
  simp -implicitDefEqProofs (maxDischargeDepth := 80) [hl, hi, neC hi, neA, ltA, aC, aB, Kn1]
  exact ⟨mem, (by repeat (first | exact aF _ | refine aE ?_ (aH (hfr _ (by omega))) | refine aE ?_ (hfr _ (by omega)))), hk _ (by omega)⟩
 ·rw [if_pos rfl] at hk
  simp -implicitDefEqProofs (maxDischargeDepth := 80) [ac137, hl, hi, neC hi, neA, ltA, aC, aB]
  refine aD ((hc) (by simp -implicitDefEqProofs (maxDischargeDepth := 80) [hl, hi, neC hi, neA, ltA, aC, aB]) (by omega) (fun n1 hn1 => ?_))
  have in1 : id < n1 := by omega
  have Kn1 := nfc trivial hn1
  simp -implicitDefEqProofs (maxDischargeDepth := 80) [hl, hi, neC hi, neA, ltA, aC, aB, Kn1, w]
  exact ⟨_, (by repeat (first | exact aF _ | refine aE ?_ (aH (hfr _ (by omega))) | refine aE ?_ (hfr _ (by omega)))), hk _ (by omega)⟩
theorem d_ {r : Rd} (h : r.ok) (s : List UInt8) : RC 122 [Tx s] r (r.want s) (.tup []) := by
 intro id mem nx K hl hi hk
 refine fi122.ct (by simp) fun hfr => ?_
 have hc := jZ h s
 have hf := nK h 21
 unfold Rd.want at hk
 cases hs : r.is s <;> rw [hs] at hk hc
 ·rw [if_neg (by decide)] at hk hc
  simp -implicitDefEqProofs (maxDischargeDepth := 80) [ac122, hl, hi, neC hi, neA, ltA, aC, aB]
  refine aD ((hc) (by simp -implicitDefEqProofs (maxDischargeDepth := 80) [hl, hi, neC hi, neA, ltA, aC, aB]) (by omega) (fun n1 hn1 => ?_))
  have in1 : id < n1 := by omega
  have Kn1 := nfc trivial hn1
  simp -implicitDefEqProofs (maxDischargeDepth := 80) [hl, hi, neC hi, neA, ltA, aC, aB, Kn1]
  refine aD ((hf) (by simp -implicitDefEqProofs (maxDischargeDepth := 80) [hl, hi, neC hi, neA, ltA, aC, aB, Kn1]) (by omega) (fun n2 hn2 => ?_))
  have in2 : id < n2 := by omega
  have Kn2 := nfc Kn1 hn2
  simp -implicitDefEqProofs (maxDischargeDepth := 80) [hl, hi, neC hi, neA, ltA, aC, aB, Kn2]
  exact ⟨_, (by repeat (first | exact aF _ | refine aE ?_ (aH (hfr _ (by omega))) | refine aE ?_ (hfr _ (by omega)))), hk _ (by omega)⟩
 ·rw [if_pos rfl] at hk hc
  simp -implicitDefEqProofs (maxDischargeDepth := 80) [ac122, hl, hi, neC hi, neA, ltA, aC, aB]
  refine aD ((hc) (by simp -implicitDefEqProofs (maxDischargeDepth := 80) [hl, hi, neC hi, neA, ltA, aC, aB]) (by omega) (fun n1 hn1 => ?_))
  have in1 : id < n1 := by omega
  have Kn1 := nfc trivial hn1
  simp -implicitDefEqProofs (maxDischargeDepth := 80) [hl, hi, neC hi, neA, ltA, aC, aB, Kn1]
  exact ⟨_, (by repeat (first | exact aF _ | refine aE ?_ (aH (hfr _ (by omega))) | refine aE ?_ (hfr _ (by omega)))), hk _ (by omega)⟩
theorem o9 {r : Rd} (h : r.ok) : RC 121 [] r r.name.2 (.agg (aB r.name.1)) := by
 intro id mem nx K hl hi hk
 refine fi121.ct (by simp) fun hfr => ?_
 have hn := gV h
 have hf := nK h 21
 have hl2 := h.lt
 have hl3 := h.len
 have w := aS (x := (r.at' : Int) + 1) (by omega) (by omega)
 unfold Rd.name Rd.bad at hk
 by_cases h1 : r.why = 0
 ·by_cases h2 : r.next.kind = 0
  ·rw [if_neg (by simp [h1, h2])] at hk
   simp -implicitDefEqProofs (maxDischargeDepth := 80) [ac121, hl, hi, neC hi, neA, ltA, aC, aB]
   refine aD ((hn) (by simp -implicitDefEqProofs (maxDischargeDepth := 80) [hl, hi, neC hi, neA, ltA, aC, aB]) (by omega) (fun n1 hn1 => ?_))
   have in1 : id < n1 := by omega
   have Kn1 := nfc trivial hn1
   simp -implicitDefEqProofs (maxDischargeDepth := 80) [hl, hi, neC hi, neA, ltA, aC, aB, Kn1, h1, h2, w]
   simp [aB, h2, aC, Rd.adv, h1] at hk
   exact ⟨_, (by repeat (first | exact aF _ | refine aE ?_ (aH (hfr _ (by omega))) | refine aE ?_ (hfr _ (by omega)))), hk _ (by omega)⟩
  ·rw [if_pos (by simp [h1, h2])] at hk
   simp -implicitDefEqProofs (maxDischargeDepth := 80) [ac121, hl, hi, neC hi, neA, ltA, aC, aB]
   refine aD ((hn) (by simp -implicitDefEqProofs (maxDischargeDepth := 80) [hl, hi, neC hi, neA, ltA, aC, aB]) (by omega) (fun n1 hn1 => ?_))
   have in1 : id < n1 := by omega
   have Kn1 := nfc trivial hn1
   simp -implicitDefEqProofs (maxDischargeDepth := 80) [hl, hi, neC hi, neA, ltA, aC, aB, Kn1, h1, h2]
   refine aD ((hf) (by simp -implicitDefEqProofs (maxDischargeDepth := 80) [hl, hi, neC hi, neA, ltA, aC, aB, Kn1]) (by omega) (fun n2 hn2 => ?_))
   have in2 : id < n2 := by omega
   have Kn2 := nfc Kn1 hn2
   simp -implicitDefEqProofs (maxDischargeDepth := 80) [hl, hi, neC hi, neA, ltA, aC, aB, Kn2]
   exact ⟨_, (by repeat (first | exact aF _ | refine aE ?_ (aH (hfr _ (by omega))) | refine aE ?_ (hfr _ (by omega)))), hk _ (by omega)⟩
 ·rw [if_pos (by simp [h1])] at hk
  simp -implicitDefEqProofs (maxDischargeDepth := 80) [ac121, hl, hi, neC hi, neA, ltA, aC, aB]
  refine aD ((hn) (by simp -implicitDefEqProofs (maxDischargeDepth := 80) [hl, hi, neC hi, neA, ltA, aC, aB]) (by omega) (fun n1 hn1 => ?_))
  have in1 : id < n1 := by omega
  have Kn1 := nfc trivial hn1
  simp -implicitDefEqProofs (maxDischargeDepth := 80) [hl, hi, neC hi, neA, ltA, aC, aB, Kn1, h1]
  refine aD ((hf) (by simp -implicitDefEqProofs (maxDischargeDepth := 80) [hl, hi, neC hi, neA, ltA, aC, aB, Kn1]) (by omega) (fun n2 hn2 => ?_))
  have in2 : id < n2 := by omega
  have Kn2 := nfc Kn1 hn2
  simp -implicitDefEqProofs (maxDischargeDepth := 80) [hl, hi, neC hi, neA, ltA, aC, aB, Kn2]
  exact ⟨_, (by repeat (first | exact aF _ | refine aE ?_ (aH (hfr _ (by omega))) | refine aE ?_ (hfr _ (by omega)))), hk _ (by omega)⟩
theorem wi1' : IntKind.i64.wrap 1 = 1 := by decide
theorem wi2' : IntKind.i64.wrap 2 = 2 := by decide
theorem wi3' : IntKind.i64.wrap 3 = 3 := by decide
theorem uE {r : Rd} (h : r.ok) : RC 124 [] r r.typ.2 (I r.typ.1) := by
 intro id mem nx K hl hi hk
 refine fi124.ct (by simp) fun hfr => ?_
 have c1 := jZ h [78]
 have c2 := jZ h [66]
 have c3 := jZ h [76]
 have hf := nK h 21
 unfold Rd.typ at hk
 have hu := cQ hl
 simp only [aC] at hu
 simp -implicitDefEqProofs (maxDischargeDepth := 80) [ac124, hl, hi, neC hi, neA, ltA, aC, aB]
 refine lpG cf124 lb124_0 [2, 4] (α := Nat) (fun i _ => [(4, I i)]) (fun _ _ => mem) (fun i m => nx ≤ m ∧ i ≤ 3 ∧ (0 < i → r.is [78] = false) ∧ (1 < i → r.is [66] = false) ∧ (2 < i → r.is [76] = false)) (fun i => 3 - i) 0 ⟨by omega, by omega, by omega, by omega, by omega⟩ (by simp) (by simp) ?_
 rintro i m ⟨hm, hi3, g1, g2, g3⟩
 have im : id < m := by omega
 have : i = 0 ∨ i = 1 ∨ i = 2 ∨ i = 3 := by omega
 rcases this with rfl | rfl | rfl | rfl
 ·cases hs : r.is [78] <;> rw [hs] at hk c1
  ·rw [if_neg (by decide)] at c1
   simp -implicitDefEqProofs (maxDischargeDepth := 80) [lb124_0, hl, hi, neC hi, neA, ltA, aC, aB, im, iaD]
   refine aD ((c1) (by simp -implicitDefEqProofs (maxDischargeDepth := 80) [hl, hi, neC hi, neA, ltA, aC, aB]) (by omega) (fun n1 hn1 => ?_))
   have in1 : id < n1 := by omega
   have Kn1 := nfc trivial hn1
   simp -implicitDefEqProofs (maxDischargeDepth := 80) [hl, hi, neC hi, neA, ltA, aC, aB, Kn1, wi1']
   rw [hu]
   exact aI 1 ⟨by omega, by omega, by omega, by omega⟩ (by omega) (by simp) (by simp)
  ·rw [if_pos rfl] at hk c1
   simp -implicitDefEqProofs (maxDischargeDepth := 80) [lb124_0, hl, hi, neC hi, neA, ltA, aC, aB, im, iaD]
   refine aD ((c1) (by simp -implicitDefEqProofs (maxDischargeDepth := 80) [hl, hi, neC hi, neA, ltA, aC, aB]) (by omega) (fun n1 hn1 => ?_))
   have in1 : id < n1 := by omega
   have Kn1 := nfc trivial hn1
   simp -implicitDefEqProofs (maxDischargeDepth := 80) [hl, hi, neC hi, neA, ltA, aC, aB, Kn1, wi1']
   exact ⟨_, (by repeat (first | exact aF _ | refine aE ?_ (aH (hfr _ (by omega))) | refine aE ?_ (hfr _ (by omega)))), hk _ (by omega)⟩
 ·rw [g1 (by omega), if_neg (by decide)] at hk
  cases hs : r.is [66] <;> rw [hs] at hk c2
  ·rw [if_neg (by decide)] at c2
   simp -implicitDefEqProofs (maxDischargeDepth := 80) [lb124_0, hl, hi, neC hi, neA, ltA, aC, aB, im, iaD]
   refine aD ((c2) (by simp -implicitDefEqProofs (maxDischargeDepth := 80) [hl, hi, neC hi, neA, ltA, aC, aB]) (by omega) (fun n1 hn1 => ?_))
   have in1 : id < n1 := by omega
   have Kn1 := nfc trivial hn1
   simp -implicitDefEqProofs (maxDischargeDepth := 80) [hl, hi, neC hi, neA, ltA, aC, aB, Kn1, wi2']
   rw [hu]
   exact aI 2 ⟨by omega, by omega, fun _ => g1 (by omega), by omega⟩ (by omega) (by simp) (by simp)
  ·rw [if_pos rfl] at hk c2
   simp -implicitDefEqProofs (maxDischargeDepth := 80) [lb124_0, hl, hi, neC hi, neA, ltA, aC, aB, im, iaD]
   refine aD ((c2) (by simp -implicitDefEqProofs (maxDischargeDepth := 80) [hl, hi, neC hi, neA, ltA, aC, aB]) (by omega) (fun n1 hn1 => ?_))
   have in1 : id < n1 := by omega
   have Kn1 := nfc trivial hn1
   simp -implicitDefEqProofs (maxDischargeDepth := 80) [hl, hi, neC hi, neA, ltA, aC, aB, Kn1, wi2']
   exact ⟨_, (by repeat (first | exact aF _ | refine aE ?_ (aH (hfr _ (by omega))) | refine aE ?_ (hfr _ (by omega)))), hk _ (by omega)⟩
 ·rw [g1 (by omega), if_neg (by decide), g2 (by omega), if_neg (by decide)] at hk
  cases hs : r.is [76] <;> rw [hs] at hk c3
  ·rw [if_neg (by decide)] at c3
   simp -implicitDefEqProofs (maxDischargeDepth := 80) [lb124_0, hl, hi, neC hi, neA, ltA, aC, aB, im, iaD]
   refine aD ((c3) (by simp -implicitDefEqProofs (maxDischargeDepth := 80) [hl, hi, neC hi, neA, ltA, aC, aB]) (by omega) (fun n1 hn1 => ?_))
   have in1 : id < n1 := by omega
   have Kn1 := nfc trivial hn1
   simp -implicitDefEqProofs (maxDischargeDepth := 80) [hl, hi, neC hi, neA, ltA, aC, aB, Kn1, wi3']
   rw [hu]
   exact aI 3 ⟨by omega, by omega, fun _ => g1 (by omega), fun _ => g2 (by omega)⟩ (by omega) (by simp) (by simp)
  ·rw [if_pos rfl] at hk c3
   simp -implicitDefEqProofs (maxDischargeDepth := 80) [lb124_0, hl, hi, neC hi, neA, ltA, aC, aB, im, iaD]
   refine aD ((c3) (by simp -implicitDefEqProofs (maxDischargeDepth := 80) [hl, hi, neC hi, neA, ltA, aC, aB]) (by omega) (fun n1 hn1 => ?_))
   have in1 : id < n1 := by omega
   have Kn1 := nfc trivial hn1
   simp -implicitDefEqProofs (maxDischargeDepth := 80) [hl, hi, neC hi, neA, ltA, aC, aB, Kn1, wi3']
   exact ⟨_, (by repeat (first | exact aF _ | refine aE ?_ (aH (hfr _ (by omega))) | refine aE ?_ (hfr _ (by omega)))), hk _ (by omega)⟩
 ·rw [g1 (by omega), if_neg (by decide), g2 (by omega), if_neg (by decide), g3 (by omega), if_neg (by decide)] at hk
  simp -implicitDefEqProofs (maxDischargeDepth := 80) [lb124_0, hl, hi, neC hi, neA, ltA, aC, aB, im]
  refine aD ((hf) (by simp -implicitDefEqProofs (maxDischargeDepth := 80) [hl, hi, neC hi, neA, ltA, aC, aB]) (by omega) (fun n1 hn1 => ?_))
  have in1 : id < n1 := by omega
  have Kn1 := nfc trivial hn1
  simp -implicitDefEqProofs (maxDischargeDepth := 80) [hl, hi, neC hi, neA, ltA, aC, aB, Kn1]
  exact ⟨_, (by repeat (first | exact aF _ | refine aE ?_ (aH (hfr _ (by omega))) | refine aE ?_ (hfr _ (by omega)))), hk _ (by omega)⟩
open Go Go.Fx Go.Proofs Go.Fx.Flt
def EC (f : FuncId) (args : List D) (run : PR) (r : Rd) : Prop := ∀ e r', run = some (e, r') → r'.ok ∧ r'.nest = r.nest ∧ RC f args r r' (.agg (aQ e))
theorem em_1 {α : Type} {enc : α → List D} {a : α} : em enc [a] = [enc a] := rfl
theorem em_2 {α : Type} {enc : α → List D} {a b : α} : em enc [a, b] = [enc a, enc b] := rfl
theorem em_3 {α : Type} {enc : α → List D} {a b c : α} : em enc [a, b, c] = [enc a, enc b, enc c] := rfl
theorem pO (op : Int) (a b : Ex) (m : Mk) : Pure Tryz.prog 144 [I op, .agg (aQ a), .agg (aQ b), .agg (aB m)] (.agg (aQ (two op a b m))) := by
 refine fi144.pu (by simp) ?_
 simp only [two, bE, em_2]
 simp only [aA, aB]
 simp -implicitDefEqProofs (maxDischargeDepth := 80) [ac144]
theorem jR {r : Rd} {w : Int} : (r.fail w).nest = r.nest := by unfold Rd.fail; split <;> rfl
theorem nest_want {r : Rd} {s : List UInt8} : (r.want s).nest = r.nest := by
 unfold Rd.want
 split
 ·rfl
 ·exact jR
theorem n_ {r : Rd} : r.name.2.nest = r.nest := by
 unfold Rd.name
 split
 ·exact jR
 ·rfl
theorem t5 {r : Rd} : r.typ.2.nest = r.nest := by
 unfold Rd.typ
 split
 ·rfl
 ·split
  ·rfl
  ·split
   ·rfl
   ·exact jR
theorem cons_s {n : Nat} (h1 : ∀ r, r.ok → EC 143 [] (iZ n r) r) (h2 : ∀ r, r.ok → EC 138 [] (iP n r) r) :
  ∀ r, r.ok → EC 138 [] (iP (n + 1) r) r := by
 intro r h e r' hrun
 unfold iP at hrun
 cases hc : iZ n r with
 | none => rw [hc] at hrun; simp at hrun
 | some p =>
  obtain ⟨a, r1⟩ := p
  rw [hc] at hrun
  simp only [Option.bind_some] at hrun
  obtain ⟨k1, n1, c1⟩ := h1 r h a r1 hc
  have cn := gV k1
  have ct := jZ k1 [58]
  simp only [aA, aB] at c1 cn
  cases hs : r1.is [58] <;> rw [hs] at hrun ct
  ·simp only [Bool.false_eq_true, if_false, Option.some.injEq, Prod.mk.injEq] at hrun ct
   obtain ⟨rfl, rfl⟩ := hrun
   refine ⟨k1, n1, ?_⟩
   intro id mem nx K hl hi hk
   simp only [aA] at hk
   refine fi138.ct (by simp) fun hfr => ?_
   simp -implicitDefEqProofs (maxDischargeDepth := 80) [ac138, hl, hi, neC hi, neA, ltA, aC, aB, aA]
   refine aD ((c1) (by simp -implicitDefEqProofs (maxDischargeDepth := 80) [hl, hi, neC hi, neA, ltA, aC, aB, aA]) (by omega) (fun m1 hm1 => ?_))
   have im1 : id < m1 := by omega
   have Km1 := nfc trivial hm1
   simp -implicitDefEqProofs (maxDischargeDepth := 80) [hl, hi, neC hi, neA, ltA, aC, aB, aA, Km1]
   refine aD ((cn) (by simp -implicitDefEqProofs (maxDischargeDepth := 80) [hl, hi, neC hi, neA, ltA, aC, aB, aA, Km1]) (by omega) (fun m2 hm2 => ?_))
   have im2 : id < m2 := by omega
   have Km2 := nfc Km1 hm2
   simp -implicitDefEqProofs (maxDischargeDepth := 80) [hl, hi, neC hi, neA, ltA, aC, aB, aA, Km2]
   refine aD ((ct) (by simp -implicitDefEqProofs (maxDischargeDepth := 80) [hl, hi, neC hi, neA, ltA, aC, aB, aA, Km2]) (by omega) (fun m3 hm3 => ?_))
   have im3 : id < m3 := by omega
   have Km3 := nfc Km2 hm3
   simp -implicitDefEqProofs (maxDischargeDepth := 80) [hl, hi, neC hi, neA, ltA, aC, aB, aA, Km3]
   exact ⟨_, (by repeat (first | exact aF _ | refine aE ?_ (aH (hfr _ (by omega))) | refine aE ?_ (hfr _ (by omega)))), hk _ (by omega)⟩
  ·simp only [if_true, Option.map_eq_some_iff, Prod.mk.injEq] at hrun ct
   obtain ⟨⟨b, r2⟩, hb, rfl, rfl⟩ := hrun
   obtain ⟨k2, n2, c2⟩ := h2 r1.adv (Rd.ok_adv k1 (Rd.is_4 hs)) b r2 hb
   have c3 := pO 18 a b r1.next
   simp only [aA, aB] at c2 c3
   refine ⟨k2, n2.trans n1, ?_⟩
   intro id mem nx K hl hi hk
   simp only [aA] at hk
   refine fi138.ct (by simp) fun hfr => ?_
   simp -implicitDefEqProofs (maxDischargeDepth := 80) [ac138, hl, hi, neC hi, neA, ltA, aC, aB, aA]
   refine aD ((c1) (by simp -implicitDefEqProofs (maxDischargeDepth := 80) [hl, hi, neC hi, neA, ltA, aC, aB, aA]) (by omega) (fun m1 hm1 => ?_))
   have im1 : id < m1 := by omega
   have Km1 := nfc trivial hm1
   simp -implicitDefEqProofs (maxDischargeDepth := 80) [hl, hi, neC hi, neA, ltA, aC, aB, aA, Km1]
   refine aD ((cn) (by simp -implicitDefEqProofs (maxDischargeDepth := 80) [hl, hi, neC hi, neA, ltA, aC, aB, aA, Km1]) (by omega) (fun m2 hm2 => ?_))
   have im2 : id < m2 := by omega
   have Km2 := nfc Km1 hm2
   simp -implicitDefEqProofs (maxDischargeDepth := 80) [hl, hi, neC hi, neA, ltA, aC, aB, aA, Km2]
   refine aD ((ct) (by simp -implicitDefEqProofs (maxDischargeDepth := 80) [hl, hi, neC hi, neA, ltA, aC, aB, aA, Km2]) (by omega) (fun m3 hm3 => ?_))
   have im3 : id < m3 := by omega
   have Km3 := nfc Km2 hm3
   simp -implicitDefEqProofs (maxDischargeDepth := 80) [hl, hi, neC hi, neA, ltA, aC, aB, aA, Km3]
   refine aD ((c2) (by simp -implicitDefEqProofs (maxDischargeDepth := 80) [hl, hi, neC hi, neA, ltA, aC, aB, aA, Km3]) (by omega) (fun m4 hm4 => ?_))
   have im4 : id < m4 := by omega
   have Km4 := nfc Km3 hm4
   simp -implicitDefEqProofs (maxDischargeDepth := 80) [hl, hi, neC hi, neA, ltA, aC, aB, aA, Km4]
   refine aG (c3) (by simp) ?_
   simp -implicitDefEqProofs (maxDischargeDepth := 80) [hl, hi, neC hi, neA, ltA, aC, aB, aA, Km4]
   exact ⟨_, (by repeat (first | exact aF _ | refine aE ?_ (aH (hfr _ (by omega))) | refine aE ?_ (hfr _ (by omega)))), hk _ (by omega)⟩
theorem comp_s {n : Nat} (h1 : ∀ r, r.ok → EC 145 [] (j0 n r) r) :
  ∀ r, r.ok → EC 143 [] (iZ (n + 1) r) r := by
 intro r h e r' hrun
 unfold iZ at hrun
 cases hc : j0 n r with
 | none => rw [hc] at hrun; simp at hrun
 | some p =>
  obtain ⟨a, r1⟩ := p
  rw [hc] at hrun
  simp only [Option.bind_some] at hrun
  obtain ⟨k1, n1, c1⟩ := h1 r h a r1 hc
  have cn := gV k1
  have ci := mB k1 [60]
  have ct := jZ k1 [61, 61]
  have cu := jZ k1 [60]
  simp only [aA, aB] at c1 cn
  cases hs : r1.is [61, 61] <;> rw [hs] at hrun ct
  ·cases hu : r1.is [60] <;> rw [hu] at hrun cu ci
   ·simp only [Bool.false_eq_true, if_false, Bool.or_self, Option.some.injEq, Prod.mk.injEq] at hrun ct cu
    obtain ⟨rfl, rfl⟩ := hrun
    refine ⟨k1, n1, ?_⟩
    intro id mem nx K hl hi hk
    simp only [aA] at hk
    refine fi143.ct (by simp) fun hfr => ?_
    simp -implicitDefEqProofs (maxDischargeDepth := 80) [ac143, hl, hi, neC hi, neA, ltA, aC, aB, aA]
    refine aD ((c1) (by simp -implicitDefEqProofs (maxDischargeDepth := 80) [hl, hi, neC hi, neA, ltA, aC, aB, aA]) (by omega) (fun m1 hm1 => ?_))
    have im1 : id < m1 := by omega
    have Km1 := nfc trivial hm1
    simp -implicitDefEqProofs (maxDischargeDepth := 80) [hl, hi, neC hi, neA, ltA, aC, aB, aA, Km1]
    refine aD ((cn) (by simp -implicitDefEqProofs (maxDischargeDepth := 80) [hl, hi, neC hi, neA, ltA, aC, aB, aA, Km1]) (by omega) (fun m2 hm2 => ?_))
    have im2 : id < m2 := by omega
    have Km2 := nfc Km1 hm2
    simp -implicitDefEqProofs (maxDischargeDepth := 80) [hl, hi, neC hi, neA, ltA, aC, aB, aA, Km2]
    refine aD ((ci) (by simp -implicitDefEqProofs (maxDischargeDepth := 80) [hl, hi, neC hi, neA, ltA, aC, aB, aA, Km2]) (by omega) (fun m3 hm3 => ?_))
    have im3 : id < m3 := by omega
    have Km3 := nfc Km2 hm3
    simp -implicitDefEqProofs (maxDischargeDepth := 80) [hl, hi, neC hi, neA, ltA, aC, aB, aA, Km3]
    refine aD ((ct) (by simp -implicitDefEqProofs (maxDischargeDepth := 80) [hl, hi, neC hi, neA, ltA, aC, aB, aA, Km3]) (by omega) (fun m4 hm4 => ?_))
    have im4 : id < m4 := by omega
    have Km4 := nfc Km3 hm4
    simp -implicitDefEqProofs (maxDischargeDepth := 80) [hl, hi, neC hi, neA, ltA, aC, aB, aA, Km4]
    refine aD ((cu) (by simp -implicitDefEqProofs (maxDischargeDepth := 80) [hl, hi, neC hi, neA, ltA, aC, aB, aA, Km4]) (by omega) (fun m5 hm5 => ?_))
    have im5 : id < m5 := by omega
    have Km5 := nfc Km4 hm5
    simp -implicitDefEqProofs (maxDischargeDepth := 80) [hl, hi, neC hi, neA, ltA, aC, aB, aA, Km5]
    exact ⟨_, (by repeat (first | exact aF _ | refine aE ?_ (aH (hfr _ (by omega))) | refine aE ?_ (hfr _ (by omega)))), hk _ (by omega)⟩
   ·simp only [Bool.or_true, Bool.false_eq_true, if_false, if_true, Option.map_eq_some_iff, Prod.mk.injEq] at hrun ct cu
    obtain ⟨⟨b, r2⟩, hb, rfl, rfl⟩ := hrun
    obtain ⟨k2, n2, c2⟩ := h1 r1.adv (Rd.ok_adv k1 (Rd.is_4 hu)) b r2 hb
    have c3 := pO 13 a b r1.next
    simp only [aA, aB] at c2 c3
    refine ⟨k2, n2.trans n1, ?_⟩
    intro id mem nx K hl hi hk
    simp only [aA] at hk
    refine fi143.ct (by simp) fun hfr => ?_
    simp -implicitDefEqProofs (maxDischargeDepth := 80) [ac143, hl, hi, neC hi, neA, ltA, aC, aB, aA]
    refine aD ((c1) (by simp -implicitDefEqProofs (maxDischargeDepth := 80) [hl, hi, neC hi, neA, ltA, aC, aB, aA]) (by omega) (fun m1 hm1 => ?_))
    have im1 : id < m1 := by omega
    have Km1 := nfc trivial hm1
    simp -implicitDefEqProofs (maxDischargeDepth := 80) [hl, hi, neC hi, neA, ltA, aC, aB, aA, Km1]
    refine aD ((cn) (by simp -implicitDefEqProofs (maxDischargeDepth := 80) [hl, hi, neC hi, neA, ltA, aC, aB, aA, Km1]) (by omega) (fun m2 hm2 => ?_))
    have im2 : id < m2 := by omega
    have Km2 := nfc Km1 hm2
    simp -implicitDefEqProofs (maxDischargeDepth := 80) [hl, hi, neC hi, neA, ltA, aC, aB, aA, Km2]
    refine aD ((ci) (by simp -implicitDefEqProofs (maxDischargeDepth := 80) [hl, hi, neC hi, neA, ltA, aC, aB, aA, Km2]) (by omega) (fun m3 hm3 => ?_))
    have im3 : id < m3 := by omega
    have Km3 := nfc Km2 hm3
    simp -implicitDefEqProofs (maxDischargeDepth := 80) [hl, hi, neC hi, neA, ltA, aC, aB, aA, Km3]
    refine aD ((ct) (by simp -implicitDefEqProofs (maxDischargeDepth := 80) [hl, hi, neC hi, neA, ltA, aC, aB, aA, Km3]) (by omega) (fun m4 hm4 => ?_))
    have im4 : id < m4 := by omega
    have Km4 := nfc Km3 hm4
    simp -implicitDefEqProofs (maxDischargeDepth := 80) [hl, hi, neC hi, neA, ltA, aC, aB, aA, Km4]
    refine aD ((cu) (by simp -implicitDefEqProofs (maxDischargeDepth := 80) [hl, hi, neC hi, neA, ltA, aC, aB, aA, Km4]) (by omega) (fun m5 hm5 => ?_))
    have im5 : id < m5 := by omega
    have Km5 := nfc Km4 hm5
    simp -implicitDefEqProofs (maxDischargeDepth := 80) [hl, hi, neC hi, neA, ltA, aC, aB, aA, Km5]
    refine aD ((c2) (by simp -implicitDefEqProofs (maxDischargeDepth := 80) [hl, hi, neC hi, neA, ltA, aC, aB, aA, Km5]) (by omega) (fun m6 hm6 => ?_))
    have im6 : id < m6 := by omega
    have Km6 := nfc Km5 hm6
    simp -implicitDefEqProofs (maxDischargeDepth := 80) [hl, hi, neC hi, neA, ltA, aC, aB, aA, Km6]
    refine aG (c3) (by simp) ?_
    simp -implicitDefEqProofs (maxDischargeDepth := 80) [hl, hi, neC hi, neA, ltA, aC, aB, aA, Km6]
    exact ⟨_, (by repeat (first | exact aF _ | refine aE ?_ (aH (hfr _ (by omega))) | refine aE ?_ (hfr _ (by omega)))), hk _ (by omega)⟩
  ·have hu : r1.is [60] = false := by
    cases hu : r1.is [60]
    ·rfl
    ·have := (Rd.is_kind hs).2.2
     rw [(Rd.is_kind hu).2.2] at this
     simp at this
   rw [hu] at hrun ci
   simp only [Bool.or_false, Bool.false_eq_true, if_false, if_true, Option.map_eq_some_iff, Prod.mk.injEq] at hrun ct
   obtain ⟨⟨b, r2⟩, hb, rfl, rfl⟩ := hrun
   obtain ⟨k2, n2, c2⟩ := h1 r1.adv (Rd.ok_adv k1 (Rd.is_4 hs)) b r2 hb
   have c3 := pO 12 a b r1.next
   simp only [aA, aB] at c2 c3
   refine ⟨k2, n2.trans n1, ?_⟩
   intro id mem nx K hl hi hk
   simp only [aA] at hk
   refine fi143.ct (by simp) fun hfr => ?_
   simp -implicitDefEqProofs (maxDischargeDepth := 80) [ac143, hl, hi, neC hi, neA, ltA, aC, aB, aA]
   refine aD ((c1) (by simp -implicitDefEqProofs (maxDischargeDepth := 80) [hl, hi, neC hi, neA, ltA, aC, aB, aA]) (by omega) (fun m1 hm1 => ?_))
   have im1 : id < m1 := by omega
   have Km1 := nfc trivial hm1
   simp -implicitDefEqProofs (maxDischargeDepth := 80) [hl, hi, neC hi, neA, ltA, aC, aB, aA, Km1]
   refine aD ((cn) (by simp -implicitDefEqProofs (maxDischargeDepth := 80) [hl, hi, neC hi, neA, ltA, aC, aB, aA, Km1]) (by omega) (fun m2 hm2 => ?_))
   have im2 : id < m2 := by omega
   have Km2 := nfc Km1 hm2
   simp -implicitDefEqProofs (maxDischargeDepth := 80) [hl, hi, neC hi, neA, ltA, aC, aB, aA, Km2]
   refine aD ((ci) (by simp -implicitDefEqProofs (maxDischargeDepth := 80) [hl, hi, neC hi, neA, ltA, aC, aB, aA, Km2]) (by omega) (fun m3 hm3 => ?_))
   have im3 : id < m3 := by omega
   have Km3 := nfc Km2 hm3
   simp -implicitDefEqProofs (maxDischargeDepth := 80) [hl, hi, neC hi, neA, ltA, aC, aB, aA, Km3]
   refine aD ((ct) (by simp -implicitDefEqProofs (maxDischargeDepth := 80) [hl, hi, neC hi, neA, ltA, aC, aB, aA, Km3]) (by omega) (fun m4 hm4 => ?_))
   have im4 : id < m4 := by omega
   have Km4 := nfc Km3 hm4
   simp -implicitDefEqProofs (maxDischargeDepth := 80) [hl, hi, neC hi, neA, ltA, aC, aB, aA, Km4]
   refine aD ((c2) (by simp -implicitDefEqProofs (maxDischargeDepth := 80) [hl, hi, neC hi, neA, ltA, aC, aB, aA, Km4]) (by omega) (fun m6 hm6 => ?_))
   have im6 : id < m6 := by omega
   have Km6 := nfc Km4 hm6
   simp -implicitDefEqProofs (maxDischargeDepth := 80) [hl, hi, neC hi, neA, ltA, aC, aB, aA, Km6]
   refine aG (c3) (by simp) ?_
   simp -implicitDefEqProofs (maxDischargeDepth := 80) [hl, hi, neC hi, neA, ltA, aC, aB, aA, Km6]
   exact ⟨_, (by repeat (first | exact aF _ | refine aE ?_ (aH (hfr _ (by omega))) | refine aE ?_ (hfr _ (by omega)))), hk _ (by omega)⟩
theorem MG {N : Nat} (h1 : ∀ k, k < N → ∀ r, r.ok → EC 146 [] (eF k r) r) : ∀ n a (r : Rd) e r', n ≤ N → r.ok → h9 n a r = some (e, r') → r'.ok ∧ r'.nest = r.nest := by
 intro n
 induction n with
 | zero => intro a r e r' _ _ h; simp [h9] at h
 | succ n ih =>
  intro a r e r' hn h hrun
  unfold h9 at hrun
  split at hrun
  ·rename_i hs
   cases hc : eF n r.adv with
   | none => rw [hc] at hrun; simp at hrun
   | some p =>
    obtain ⟨b, r2⟩ := p
    rw [hc] at hrun
    simp only [Option.bind_some] at hrun
    have h4 : r.next.kind ≠ 4 := by
     rcases Bool.or_eq_true_iff.1 hs with h | h
     ·exact Rd.is_4 h
     ·exact Rd.is_4 h
    obtain ⟨k2, n2, _⟩ := h1 n (by omega) r.adv (Rd.ok_adv h h4) b r2 hc
    obtain ⟨k3, n3⟩ := ih _ r2 e r' (by omega) k2 hrun
    exact ⟨k3, n3.trans n2⟩
  ·simp only [Option.some.injEq, Prod.mk.injEq] at hrun
   obtain ⟨_, rfl⟩ := hrun
   exact ⟨h, rfl⟩
theorem sum_s {n : Nat} (h1 : ∀ k, k ≤ n → ∀ r, r.ok → EC 146 [] (eF k r) r) :
  ∀ r, r.ok → EC 145 [] (j0 (n + 1) r) r := by
 intro r h e r' hrun
 unfold j0 at hrun
 cases hc : eF n r with
 | none => rw [hc] at hrun; simp at hrun
 | some p =>
  obtain ⟨a, r1⟩ := p
  rw [hc] at hrun
  simp only [Option.bind_some] at hrun
  obtain ⟨k1, n1, c1⟩ := h1 n (Nat.le_refl _) r h a r1 hc
  obtain ⟨k9, n9⟩ := MG (N := n) (fun k hk => h1 k (by omega)) n a r1 e r' (Nat.le_refl _) k1 hrun
  refine ⟨k9, n9.trans n1, ?_⟩
  simp only [aA] at c1
  intro id mem nx K hl hi hk
  simp only [aA] at hk
  refine fi145.ct (by simp) fun hfr => ?_
  simp -implicitDefEqProofs (maxDischargeDepth := 80) [ac145, hl, hi, neC hi, neA, ltA, aC, aB, aA]
  refine aD ((c1) (by simp -implicitDefEqProofs (maxDischargeDepth := 80) [hl, hi, neC hi, neA, ltA, aC, aB, aA]) (by omega) (fun m1 hm1 => ?_))
  have im1 : id < m1 := by omega
  have Km1 := nfc trivial hm1
  simp -implicitDefEqProofs (maxDischargeDepth := 80) [hl, hi, neC hi, neA, ltA, aC, aB, aA, Km1]
  refine lpG cf145 lb145_0 [4, 5, 6] (α := Nat × Ex × Rd) (fun _ _ => []) (fun s _ => (nx + 1 + 2, .box (aQ s.2.1)) :: (nx, .box [I 0, Tx [], Tx [], I 0, CX 0 0, .pl (.slice none 0 0), I 0]) :: upd mem id (.box (aC s.2.2)))
   (fun s m => nx + 1 + 3 ≤ m ∧ s.1 ≤ n ∧ s.2.2.ok ∧ h9 s.1 s.2.1 s.2.2 = some (e, r')) (fun s => s.1) (n, a, r1) ⟨by omega, Nat.le_refl _, k1, hrun⟩ (by simp) (by simp [aA, aC]) ?_
  rintro ⟨f, x, q⟩ m ⟨hm, hf, hq, hrun⟩
  have Km := nfc Km1 hm
  simp only at hf hq hrun
  cases f with
  | zero => simp [h9] at hrun
  | succ f =>
   unfold h9 at hrun
   have ci := mB hq [43]
   have cj := mB hq [45]
   have cn := gV hq
   simp only [aB] at cn
   have hl2 := hq.lt
   have hl3 := hq.len
   have w := aS (x := (q.at' : Int) + 1) (by omega) (by omega)
   have step : ∀ b r2, q.next.kind ≠ 4 → eF f q.adv = some (b, r2) → r2.ok ∧ RC 146 [] q.adv r2 (.agg (aQ b)) := fun b r2 h4 hb => by
    obtain ⟨k2, _, c2⟩ := h1 f (by omega) q.adv (Rd.ok_adv hq h4) b r2 hb
    exact ⟨k2, c2⟩
   have body : (q.is [43] || q.is [45]) = true → ∃ b r2, (r2.ok ∧ RC 146 [] q.adv r2 (.agg (aQ b))) ∧ h9 f (two (if q.next.text = [45] then 9 else 8) x b q.next) r2 = some (e, r') := fun hs => by
    rw [if_pos hs] at hrun
    cases hc : eF f q.adv with
    | none => rw [hc] at hrun; simp at hrun
    | some p =>
     rw [hc] at hrun
     refine ⟨p.1, p.2, step p.1 p.2 ?_ hc, hrun⟩
     rcases Bool.or_eq_true_iff.1 hs with h | h
     ·exact Rd.is_4 h
     ·exact Rd.is_4 h
   cases hs : q.is [43] <;> rw [hs] at ci
   ·cases hu : q.is [45] <;> rw [hu] at cj
    ·rw [hs, hu, if_neg (by decide)] at hrun
     simp only [Option.some.injEq, Prod.mk.injEq] at hrun
     obtain ⟨rfl, rfl⟩ := hrun
     simp -implicitDefEqProofs (maxDischargeDepth := 80) [lb145_0, hl, hi, neC hi, neA, ltA, aC, aB, aA, Km]
     refine aD ((ci) (by simp -implicitDefEqProofs (maxDischargeDepth := 80) [hl, hi, neC hi, neA, ltA, aC, aB, aA, Km]) (by omega) (fun m2 hm2 => ?_))
     have im2 : id < m2 := by omega
     have Km2 := nfc Km hm2
     simp -implicitDefEqProofs (maxDischargeDepth := 80) [hl, hi, neC hi, neA, ltA, aC, aB, aA, Km2]
     refine aD ((cj) (by simp -implicitDefEqProofs (maxDischargeDepth := 80) [hl, hi, neC hi, neA, ltA, aC, aB, aA, Km2]) (by omega) (fun m3 hm3 => ?_))
     have im3 : id < m3 := by omega
     have Km3 := nfc Km2 hm3
     simp -implicitDefEqProofs (maxDischargeDepth := 80) [hl, hi, neC hi, neA, ltA, aC, aB, aA, Km3]
     exact ⟨_, (by repeat (first | exact aF _ | refine aE ?_ (aH (hfr _ (by omega))) | refine aE ?_ (hfr _ (by omega)))), hk _ (by omega)⟩
    ·obtain ⟨b, r2, ⟨k2, c2⟩, hrun2⟩ := body (by rw [hu]; simp)
     have ht : q.next.text = [45] := (Rd.is_kind hu).2.2
     rw [if_pos ht] at hrun2
     have c3 := pO 9 x b q.next
     simp only [aA, aB] at c2 c3
     rw [ht] at c3 cn
     simp -implicitDefEqProofs (maxDischargeDepth := 80) [lb145_0, hl, hi, neC hi, neA, ltA, aC, aB, aA, Km]
     refine aD ((ci) (by simp -implicitDefEqProofs (maxDischargeDepth := 80) [hl, hi, neC hi, neA, ltA, aC, aB, aA, Km]) (by omega) (fun m2 hm2 => ?_))
     have im2 : id < m2 := by omega
     have Km2 := nfc Km hm2
     simp -implicitDefEqProofs (maxDischargeDepth := 80) [hl, hi, neC hi, neA, ltA, aC, aB, aA, Km2]
     refine aD ((cj) (by simp -implicitDefEqProofs (maxDischargeDepth := 80) [hl, hi, neC hi, neA, ltA, aC, aB, aA, Km2]) (by omega) (fun m3 hm3 => ?_))
     have im3 : id < m3 := by omega
     have Km3 := nfc Km2 hm3
     simp -implicitDefEqProofs (maxDischargeDepth := 80) [hl, hi, neC hi, neA, ltA, aC, aB, aA, Km3]
     refine aD ((cn) (by simp -implicitDefEqProofs (maxDischargeDepth := 80) [hl, hi, neC hi, neA, ltA, aC, aB, aA, Km3]) (by omega) (fun m4 hm4 => ?_))
     have im4 : id < m4 := by omega
     have Km4 := nfc Km3 hm4
     simp -implicitDefEqProofs (maxDischargeDepth := 80) [hl, hi, neC hi, neA, ltA, aC, aB, aA, Km4, w]
     refine aD ((c2) (by simp -implicitDefEqProofs (maxDischargeDepth := 80) [hl, hi, neC hi, neA, ltA, aC, aB, aA, Km4]) (by omega) (fun m5 hm5 => ?_))
     have im5 : id < m5 := by omega
     have Km5 := nfc Km4 hm5
     simp -implicitDefEqProofs (maxDischargeDepth := 80) [hl, hi, neC hi, neA, ltA, aC, aB, aA, Km5]
     refine aG (c3) (by simp) ?_
     simp -implicitDefEqProofs (maxDischargeDepth := 80) [hl, hi, neC hi, neA, ltA, aC, aB, aA, Km5]
     refine aI (f, two 9 x b q.next, r2) ⟨by omega, by simp only; omega, k2, hrun2⟩ (by simp only; omega) (by simp) ?_
     simp only [aA, aC]
     exact (by repeat (first | exact aK _ | refine aN ?_ (by simp only [look]; repeat (first | rw [if_neg (by omega)] | exact aH (hfr _ (by omega)) | exact hfr _ (by omega)))))
   ·obtain ⟨b, r2, ⟨k2, c2⟩, hrun2⟩ := body (by rw [hs]; rfl)
    have ht : q.next.text = [43] := (Rd.is_kind hs).2.2
    have ht2 : ¬ q.next.text = [45] := by rw [ht]; simp
    rw [if_neg ht2] at hrun2
    have c3 := pO 8 x b q.next
    simp only [aA, aB] at c2 c3
    rw [ht] at c3 cn
    simp -implicitDefEqProofs (maxDischargeDepth := 80) [lb145_0, hl, hi, neC hi, neA, ltA, aC, aB, aA, Km]
    refine aD ((ci) (by simp -implicitDefEqProofs (maxDischargeDepth := 80) [hl, hi, neC hi, neA, ltA, aC, aB, aA, Km]) (by omega) (fun m2 hm2 => ?_))
    have im2 : id < m2 := by omega
    have Km2 := nfc Km hm2
    simp -implicitDefEqProofs (maxDischargeDepth := 80) [hl, hi, neC hi, neA, ltA, aC, aB, aA, Km2]
    refine aD ((cn) (by simp -implicitDefEqProofs (maxDischargeDepth := 80) [hl, hi, neC hi, neA, ltA, aC, aB, aA, Km2]) (by omega) (fun m4 hm4 => ?_))
    have im4 : id < m4 := by omega
    have Km4 := nfc Km2 hm4
    simp -implicitDefEqProofs (maxDischargeDepth := 80) [hl, hi, neC hi, neA, ltA, aC, aB, aA, Km4, w]
    refine aD ((c2) (by simp -implicitDefEqProofs (maxDischargeDepth := 80) [hl, hi, neC hi, neA, ltA, aC, aB, aA, Km4]) (by omega) (fun m5 hm5 => ?_))
    have im5 : id < m5 := by omega
    have Km5 := nfc Km4 hm5
    simp -implicitDefEqProofs (maxDischargeDepth := 80) [hl, hi, neC hi, neA, ltA, aC, aB, aA, Km5]
    refine aG (c3) (by simp) ?_
    simp -implicitDefEqProofs (maxDischargeDepth := 80) [hl, hi, neC hi, neA, ltA, aC, aB, aA, Km5]
    refine aI (f, two 8 x b q.next, r2) ⟨by omega, by simp only; omega, k2, hrun2⟩ (by simp only; omega) (by simp) ?_
    simp only [aA, aC]
    exact (by repeat (first | exact aK _ | refine aN ?_ (by simp only [look]; repeat (first | rw [if_neg (by omega)] | exact aH (hfr _ (by omega)) | exact hfr _ (by omega)))))
theorem KG {N : Nat} (h1 : ∀ k, k < N → ∀ r, r.ok → EC 147 [] (eD k r) r) : ∀ n a (r : Rd) e r', n ≤ N → r.ok → fO n a r = some (e, r') → r'.ok ∧ r'.nest = r.nest := by
 intro n
 induction n with
 | zero => intro a r e r' _ _ h; simp [fO] at h
 | succ n ih =>
  intro a r e r' hn h hrun
  unfold fO at hrun
  split at hrun
  ·rename_i hs
   cases hc : eD n r.adv with
   | none => rw [hc] at hrun; simp at hrun
   | some p =>
    obtain ⟨b, r2⟩ := p
    rw [hc] at hrun
    simp only [Option.bind_some] at hrun
    have h4 : r.next.kind ≠ 4 := by
     rcases Bool.or_eq_true_iff.1 hs with h | h
     ·exact Rd.is_4 h
     ·exact Rd.is_4 h
    obtain ⟨k2, n2, _⟩ := h1 n (by omega) r.adv (Rd.ok_adv h h4) b r2 hc
    obtain ⟨k3, n3⟩ := ih _ r2 e r' (by omega) k2 hrun
    exact ⟨k3, n3.trans n2⟩
  ·simp only [Option.some.injEq, Prod.mk.injEq] at hrun
   obtain ⟨_, rfl⟩ := hrun
   exact ⟨h, rfl⟩
theorem term_s {n : Nat} (h1 : ∀ k, k ≤ n → ∀ r, r.ok → EC 147 [] (eD k r) r) :
  ∀ r, r.ok → EC 146 [] (eF (n + 1) r) r := by
 intro r h e r' hrun
 unfold eF at hrun
 cases hc : eD n r with
 | none => rw [hc] at hrun; simp at hrun
 | some p =>
  obtain ⟨a, r1⟩ := p
  rw [hc] at hrun
  simp only [Option.bind_some] at hrun
  obtain ⟨k1, n1, c1⟩ := h1 n (Nat.le_refl _) r h a r1 hc
  obtain ⟨k9, n9⟩ := KG (N := n) (fun k hk => h1 k (by omega)) n a r1 e r' (Nat.le_refl _) k1 hrun
  refine ⟨k9, n9.trans n1, ?_⟩
  simp only [aA] at c1
  intro id mem nx K hl hi hk
  simp only [aA] at hk
  refine fi146.ct (by simp) fun hfr => ?_
  simp -implicitDefEqProofs (maxDischargeDepth := 80) [ac146, hl, hi, neC hi, neA, ltA, aC, aB, aA]
  refine aD ((c1) (by simp -implicitDefEqProofs (maxDischargeDepth := 80) [hl, hi, neC hi, neA, ltA, aC, aB, aA]) (by omega) (fun m1 hm1 => ?_))
  have im1 : id < m1 := by omega
  have Km1 := nfc trivial hm1
  simp -implicitDefEqProofs (maxDischargeDepth := 80) [hl, hi, neC hi, neA, ltA, aC, aB, aA, Km1]
  refine lpG cf146 lb146_0 [4, 5, 6] (α := Nat × Ex × Rd) (fun _ _ => []) (fun s _ => (nx + 1 + 2, .box (aQ s.2.1)) :: (nx, .box [I 0, Tx [], Tx [], I 0, CX 0 0, .pl (.slice none 0 0), I 0]) :: upd mem id (.box (aC s.2.2)))
   (fun s m => nx + 1 + 3 ≤ m ∧ s.1 ≤ n ∧ s.2.2.ok ∧ fO s.1 s.2.1 s.2.2 = some (e, r')) (fun s => s.1) (n, a, r1) ⟨by omega, Nat.le_refl _, k1, hrun⟩ (by simp) (by simp [aA, aC]) ?_
  rintro ⟨f, x, q⟩ m ⟨hm, hf, hq, hrun⟩
  have Km := nfc Km1 hm
  simp only at hf hq hrun
  cases f with
  | zero => simp [fO] at hrun
  | succ f =>
   unfold fO at hrun
   have ci := mB hq [42]
   have cj := mB hq [47]
   have cn := gV hq
   simp only [aB] at cn
   have hl2 := hq.lt
   have hl3 := hq.len
   have w := aS (x := (q.at' : Int) + 1) (by omega) (by omega)
   have step : ∀ b r2, q.next.kind ≠ 4 → eD f q.adv = some (b, r2) → r2.ok ∧ RC 147 [] q.adv r2 (.agg (aQ b)) := fun b r2 h4 hb => by
    obtain ⟨k2, _, c2⟩ := h1 f (by omega) q.adv (Rd.ok_adv hq h4) b r2 hb
    exact ⟨k2, c2⟩
   have body : (q.is [42] || q.is [47]) = true → ∃ b r2, (r2.ok ∧ RC 147 [] q.adv r2 (.agg (aQ b))) ∧ fO f (two (if q.next.text = [47] then 11 else 10) x b q.next) r2 = some (e, r') := fun hs => by
    rw [if_pos hs] at hrun
    cases hc : eD f q.adv with
    | none => rw [hc] at hrun; simp at hrun
    | some p =>
     rw [hc] at hrun
     refine ⟨p.1, p.2, step p.1 p.2 ?_ hc, hrun⟩
     rcases Bool.or_eq_true_iff.1 hs with h | h
     ·exact Rd.is_4 h
     ·exact Rd.is_4 h
   cases hs : q.is [42] <;> rw [hs] at ci
   ·cases hu : q.is [47] <;> rw [hu] at cj
    ·rw [hs, hu, if_neg (by decide)] at hrun
     simp only [Option.some.injEq, Prod.mk.injEq] at hrun
     obtain ⟨rfl, rfl⟩ := hrun
     simp -implicitDefEqProofs (maxDischargeDepth := 80) [lb146_0, hl, hi, neC hi, neA, ltA, aC, aB, aA, Km]
     refine aD ((ci) (by simp -implicitDefEqProofs (maxDischargeDepth := 80) [hl, hi, neC hi, neA, ltA, aC, aB, aA, Km]) (by omega) (fun m2 hm2 => ?_))
     have im2 : id < m2 := by omega
     have Km2 := nfc Km hm2
     simp -implicitDefEqProofs (maxDischargeDepth := 80) [hl, hi, neC hi, neA, ltA, aC, aB, aA, Km2]
     refine aD ((cj) (by simp -implicitDefEqProofs (maxDischargeDepth := 80) [hl, hi, neC hi, neA, ltA, aC, aB, aA, Km2]) (by omega) (fun m3 hm3 => ?_))
     have im3 : id < m3 := by omega
     have Km3 := nfc Km2 hm3
     simp -implicitDefEqProofs (maxDischargeDepth := 80) [hl, hi, neC hi, neA, ltA, aC, aB, aA, Km3]
     exact ⟨_, (by repeat (first | exact aF _ | refine aE ?_ (aH (hfr _ (by omega))) | refine aE ?_ (hfr _ (by omega)))), hk _ (by omega)⟩
    ·obtain ⟨b, r2, ⟨k2, c2⟩, hrun2⟩ := body (by rw [hu]; simp)
     have ht : q.next.text = [47] := (Rd.is_kind hu).2.2
     rw [if_pos ht] at hrun2
     have c3 := pO 11 x b q.next
     simp only [aA, aB] at c2 c3
     rw [ht] at c3 cn
     simp -implicitDefEqProofs (maxDischargeDepth := 80) [lb146_0, hl, hi, neC hi, neA, ltA, aC, aB, aA, Km]
     refine aD ((ci) (by simp -implicitDefEqProofs (maxDischargeDepth := 80) [hl, hi, neC hi, neA, ltA, aC, aB, aA, Km]) (by omega) (fun m2 hm2 => ?_))
     have im2 : id < m2 := by omega
     have Km2 := nfc Km hm2
     simp -implicitDefEqProofs (maxDischargeDepth := 80) [hl, hi, neC hi, neA, ltA, aC, aB, aA, Km2]
     refine aD ((cj) (by simp -implicitDefEqProofs (maxDischargeDepth := 80) [hl, hi, neC hi, neA, ltA, aC, aB, aA, Km2]) (by omega) (fun m3 hm3 => ?_))
     have im3 : id < m3 := by omega
     have Km3 := nfc Km2 hm3
     simp -implicitDefEqProofs (maxDischargeDepth := 80) [hl, hi, neC hi, neA, ltA, aC, aB, aA, Km3]
     refine aD ((cn) (by simp -implicitDefEqProofs (maxDischargeDepth := 80) [hl, hi, neC hi, neA, ltA, aC, aB, aA, Km3]) (by omega) (fun m4 hm4 => ?_))
     have im4 : id < m4 := by omega
     have Km4 := nfc Km3 hm4
     simp -implicitDefEqProofs (maxDischargeDepth := 80) [hl, hi, neC hi, neA, ltA, aC, aB, aA, Km4, w]
     refine aD ((c2) (by simp -implicitDefEqProofs (maxDischargeDepth := 80) [hl, hi, neC hi, neA, ltA, aC, aB, aA, Km4]) (by omega) (fun m5 hm5 => ?_))
     have im5 : id < m5 := by omega
     have Km5 := nfc Km4 hm5
     simp -implicitDefEqProofs (maxDischargeDepth := 80) [hl, hi, neC hi, neA, ltA, aC, aB, aA, Km5]
     refine aG (c3) (by simp) ?_
     simp -implicitDefEqProofs (maxDischargeDepth := 80) [hl, hi, neC hi, neA, ltA, aC, aB, aA, Km5]
     refine aI (f, two 11 x b q.next, r2) ⟨by omega, by simp only; omega, k2, hrun2⟩ (by simp only; omega) (by simp) ?_
     simp only [aA, aC]
     exact (by repeat (first | exact aK _ | refine aN ?_ (by simp only [look]; repeat (first | rw [if_neg (by omega)] | exact aH (hfr _ (by omega)) | exact hfr _ (by omega)))))
   ·obtain ⟨b, r2, ⟨k2, c2⟩, hrun2⟩ := body (by rw [hs]; rfl)
    have ht : q.next.text = [42] := (Rd.is_kind hs).2.2
    have ht2 : ¬ q.next.text = [47] := by rw [ht]; simp
    rw [if_neg ht2] at hrun2
    have c3 := pO 10 x b q.next
    simp only [aA, aB] at c2 c3
    rw [ht] at c3 cn
    simp -implicitDefEqProofs (maxDischargeDepth := 80) [lb146_0, hl, hi, neC hi, neA, ltA, aC, aB, aA, Km]
    refine aD ((ci) (by simp -implicitDefEqProofs (maxDischargeDepth := 80) [hl, hi, neC hi, neA, ltA, aC, aB, aA, Km]) (by omega) (fun m2 hm2 => ?_))
    have im2 : id < m2 := by omega
    have Km2 := nfc Km hm2
    simp -implicitDefEqProofs (maxDischargeDepth := 80) [hl, hi, neC hi, neA, ltA, aC, aB, aA, Km2]
    refine aD ((cn) (by simp -implicitDefEqProofs (maxDischargeDepth := 80) [hl, hi, neC hi, neA, ltA, aC, aB, aA, Km2]) (by omega) (fun m4 hm4 => ?_))
    have im4 : id < m4 := by omega
    have Km4 := nfc Km2 hm4
    simp -implicitDefEqProofs (maxDischargeDepth := 80) [hl, hi, neC hi, neA, ltA, aC, aB, aA, Km4, w]
    refine aD ((c2) (by simp -implicitDefEqProofs (maxDischargeDepth := 80) [hl, hi, neC hi, neA, ltA, aC, aB, aA, Km4]) (by omega) (fun m5 hm5 => ?_))
    have im5 : id < m5 := by omega
    have Km5 := nfc Km4 hm5
    simp -implicitDefEqProofs (maxDischargeDepth := 80) [hl, hi, neC hi, neA, ltA, aC, aB, aA, Km5]
    refine aG (c3) (by simp) ?_
    simp -implicitDefEqProofs (maxDischargeDepth := 80) [hl, hi, neC hi, neA, ltA, aC, aB, aA, Km5]
    refine aI (f, two 10 x b q.next, r2) ⟨by omega, by simp only; omega, k2, hrun2⟩ (by simp only; omega) (by simp) ?_
    simp only [aA, aC]
    exact (by repeat (first | exact aK _ | refine aN ?_ (by simp only [look]; repeat (first | rw [if_neg (by omega)] | exact aH (hfr _ (by omega)) | exact hfr _ (by omega)))))
theorem word_c (s : List UInt8) : Pure Tryz.prog 149 [Tx s] (I (b_ s)) := by
 refine fi149.pu (by simp) ?_
 unfold b_
 by_cases h0 : s = [116, 114, 117, 101]
 ·subst h0; simp -implicitDefEqProofs (maxDischargeDepth := 80) [ac149]
 ·
  by_cases h1 : s = [102, 97, 108, 115, 101]
  ·subst h1; simp -implicitDefEqProofs (maxDischargeDepth := 80) [ac149]
  ·
   by_cases h2 : s = [110, 105, 108]
   ·subst h2; simp -implicitDefEqProofs (maxDischargeDepth := 80) [ac149]
   ·
    by_cases h3 : s = [102, 97, 105, 108]
    ·subst h3; simp -implicitDefEqProofs (maxDischargeDepth := 80) [ac149]
    ·
     by_cases h4 : s = [110, 111, 116]
     ·subst h4; simp -implicitDefEqProofs (maxDischargeDepth := 80) [ac149]
     ·
      by_cases h5 : s = [114, 101]
      ·subst h5; simp -implicitDefEqProofs (maxDischargeDepth := 80) [ac149]
      ·
       by_cases h6 : s = [105, 109]
       ·subst h6; simp -implicitDefEqProofs (maxDischargeDepth := 80) [ac149]
       ·
        by_cases h7 : s = [99, 111, 110, 106]
        ·subst h7; simp -implicitDefEqProofs (maxDischargeDepth := 80) [ac149]
        ·
         simp -implicitDefEqProofs (maxDischargeDepth := 80) [ac149, h0, h1, h2, h3, h4, h5, h6, h7]
set_option maxHeartbeats 4000000
theorem nJ (s : List UInt8) : b_ s = 0 ∨ b_ s = 2 ∨ b_ s = 3 ∨ b_ s = 4 ∨ b_ s = 5 ∨ b_ s = 14 ∨ b_ s = 15 ∨ b_ s = 16 ∨ b_ s = 17 := by
 unfold b_
 repeat' split
 all_goals simp
theorem unit_s {n : Nat} (h1 : ∀ r, r.ok → EC 125 [] (bM n r) r) (h2 : ∀ m r, r.ok → EC 148 [.agg (aB m)] (iE n m r) r) :
  ∀ r, r.ok → EC 147 [] (eD (n + 1) r) r := by
 intro r h e r' hrun
 have cn := gV h
 simp only [aB] at cn
 have hl2 := h.lt
 have hl3 := h.len
 have w := aS (x := (r.at' : Int) + 1) (by omega) (by omega)
 have ct := jZ h [40]
 have cw := word_c r.next.text
 have cf := nK h 21
 unfold eD at hrun
 by_cases g1 : r.why = 0
 ·rw [if_neg (by simp [g1])] at hrun
  have KF1 := And.intro trivial (g1)
  by_cases g2 : r.next.kind = 2
  ·rw [if_pos g2] at hrun
   simp only [Option.some.injEq, Prod.mk.injEq] at hrun
   obtain ⟨rfl, rfl⟩ := hrun
   refine ⟨Rd.ok_adv h (by omega), rfl, ?_⟩
   intro id mem nx K hl hi hk
   simp [bE, aC, g1] at hk
   refine bK ?_
   refine fi147.ct (by simp) fun hfr => ?_
   simp -implicitDefEqProofs (maxDischargeDepth := 80) [ac147, hl, hi, neC hi, neA, ltA, aC, aB, aA, KF1]
   refine aD ((cn) (by simp -implicitDefEqProofs (maxDischargeDepth := 80) [hl, hi, neC hi, neA, ltA, aC, aB, aA, KF1]) (by omega) (fun m1 hm1 => ?_))
   have im1 : id < m1 := by omega
   have Km1 := nfc KF1 hm1
   simp -implicitDefEqProofs (maxDischargeDepth := 80) [hl, hi, neC hi, neA, ltA, aC, aB, aA, Km1, g1, g2, w]
   exact eX (by repeat (first | exact aF _ | refine aE ?_ (aH (hfr _ (by omega))) | refine aE ?_ (hfr _ (by omega)))) (by simp [frz]) (hk _ (by omega))
  ·rw [if_neg g2] at hrun
   by_cases g3 : r.next.kind = 0
   ·rw [if_pos g3] at hrun
    obtain ⟨k2, n2, c2⟩ := h2 r.next r.adv (Rd.ok_adv h (by omega)) e r' hrun
    refine ⟨k2, n2, ?_⟩
    intro id mem nx K hl hi hk
    simp only [aA, aB, g3] at hk c2
    refine bK ?_
    refine fi147.ct (by simp) fun hfr => ?_
    simp -implicitDefEqProofs (maxDischargeDepth := 80) [ac147, hl, hi, neC hi, neA, ltA, aC, aB, aA, KF1]
    refine aD ((cn) (by simp -implicitDefEqProofs (maxDischargeDepth := 80) [hl, hi, neC hi, neA, ltA, aC, aB, aA, KF1]) (by omega) (fun m1 hm1 => ?_))
    have im1 : id < m1 := by omega
    have Km1 := nfc KF1 hm1
    simp -implicitDefEqProofs (maxDischargeDepth := 80) [hl, hi, neC hi, neA, ltA, aC, aB, aA, Km1, g1, g2, g3, w]
    refine aD ((c2) (by simp -implicitDefEqProofs (maxDischargeDepth := 80) [hl, hi, neC hi, neA, ltA, aC, aB, aA, Km1]) (by omega) (fun m2 hm2 => ?_))
    have im2 : id < m2 := by omega
    have Km2 := nfc Km1 hm2
    simp -implicitDefEqProofs (maxDischargeDepth := 80) [hl, hi, neC hi, neA, ltA, aC, aB, aA, Km2]
    exact eX (by repeat (first | exact aF _ | refine aE ?_ (aH (hfr _ (by omega))) | refine aE ?_ (hfr _ (by omega)))) (by simp [frz]) (hk _ (by omega))
   ·rw [if_neg g3] at hrun
    cases g4 : r.is [40] <;> rw [g4] at hrun ct
    ·rw [if_neg (by decide)] at hrun ct
     by_cases g5 : r.next.kind = 1
     ·by_cases g6 : b_ r.next.text = 0
      ·rw [if_pos (.inr g6)] at hrun
       simp only [Option.some.injEq, Prod.mk.injEq] at hrun
       obtain ⟨rfl, rfl⟩ := hrun
       refine ⟨Rd.ok_fail h _, jR, ?_⟩
       intro id mem nx K hl hi hk
       simp only [ex0, bE] at hk
       refine bK ?_
       refine fi147.ct (by simp) fun hfr => ?_
       simp -implicitDefEqProofs (maxDischargeDepth := 80) [ac147, hl, hi, neC hi, neA, ltA, aC, aB, aA, KF1]
       refine aD ((cn) (by simp -implicitDefEqProofs (maxDischargeDepth := 80) [hl, hi, neC hi, neA, ltA, aC, aB, aA, KF1]) (by omega) (fun m1 hm1 => ?_))
       have im1 : id < m1 := by omega
       have Km1 := nfc KF1 hm1
       simp -implicitDefEqProofs (maxDischargeDepth := 80) [hl, hi, neC hi, neA, ltA, aC, aB, aA, Km1, g1, g2, g3, g5]
       refine aD ((ct) (by simp -implicitDefEqProofs (maxDischargeDepth := 80) [hl, hi, neC hi, neA, ltA, aC, aB, aA, Km1]) (by omega) (fun m2 hm2 => ?_))
       have im2 : id < m2 := by omega
       have Km2 := nfc Km1 hm2
       simp -implicitDefEqProofs (maxDischargeDepth := 80) [hl, hi, neC hi, neA, ltA, aC, aB, aA, Km2]
       refine aG (cw) (by simp) ?_
       simp -implicitDefEqProofs (maxDischargeDepth := 80) [hl, hi, neC hi, neA, ltA, aC, aB, aA, Km2, g5, g6]
       refine aD ((cf) (by simp -implicitDefEqProofs (maxDischargeDepth := 80) [hl, hi, neC hi, neA, ltA, aC, aB, aA, Km2]) (by omega) (fun m3 hm3 => ?_))
       have im3 : id < m3 := by omega
       have Km3 := nfc Km2 hm3
       simp -implicitDefEqProofs (maxDischargeDepth := 80) [hl, hi, neC hi, neA, ltA, aC, aB, aA, Km3]
       exact eX (by repeat (first | exact aF _ | refine aE ?_ (aH (hfr _ (by omega))) | refine aE ?_ (hfr _ (by omega)))) (by simp [frz]) (hk _ (by omega))
      ·rw [if_neg (by simp [g5, g6])] at hrun
       have ka : r.adv.ok := Rd.ok_adv h (by omega)
       by_cases g7 : b_ r.next.text = 5
       ·rw [if_pos g7] at hrun
        simp only [Option.some.injEq, Prod.mk.injEq] at hrun
        obtain ⟨rfl, rfl⟩ := hrun
        have cy := uE ka
        rw [g7] at cw
        refine ⟨Rd.ok_typ ka, t5, ?_⟩
        intro id mem nx K hl hi hk
        simp only [bE] at hk
        refine bK ?_
        refine fi147.ct (by simp) fun hfr => ?_
        simp -implicitDefEqProofs (maxDischargeDepth := 80) [ac147, hl, hi, neC hi, neA, ltA, aC, aB, aA, KF1]
        refine aD ((cn) (by simp -implicitDefEqProofs (maxDischargeDepth := 80) [hl, hi, neC hi, neA, ltA, aC, aB, aA, KF1]) (by omega) (fun m1 hm1 => ?_))
        have im1 : id < m1 := by omega
        have Km1 := nfc KF1 hm1
        simp -implicitDefEqProofs (maxDischargeDepth := 80) [hl, hi, neC hi, neA, ltA, aC, aB, aA, Km1, g1, g2, g3, g5]
        refine aD ((ct) (by simp -implicitDefEqProofs (maxDischargeDepth := 80) [hl, hi, neC hi, neA, ltA, aC, aB, aA, Km1]) (by omega) (fun m2 hm2 => ?_))
        have im2 : id < m2 := by omega
        have Km2 := nfc Km1 hm2
        simp -implicitDefEqProofs (maxDischargeDepth := 80) [hl, hi, neC hi, neA, ltA, aC, aB, aA, Km2]
        refine aG (cw) (by simp) ?_
        simp -implicitDefEqProofs (maxDischargeDepth := 80) [hl, hi, neC hi, neA, ltA, aC, aB, aA, Km2, g5, w]
        refine aG (cw) (by simp) ?_
        simp -implicitDefEqProofs (maxDischargeDepth := 80) [hl, hi, neC hi, neA, ltA, aC, aB, aA, Km2]
        refine aD ((cy) (by simp -implicitDefEqProofs (maxDischargeDepth := 80) [hl, hi, neC hi, neA, ltA, aC, aB, aA, Km2]) (by omega) (fun m3 hm3 => ?_))
        have im3 : id < m3 := by omega
        have Km3 := nfc Km2 hm3
        simp -implicitDefEqProofs (maxDischargeDepth := 80) [hl, hi, neC hi, neA, ltA, aC, aB, aA, Km3]
        exact eX (by repeat (first | exact aF _ | refine aE ?_ (aH (hfr _ (by omega))) | refine aE ?_ (hfr _ (by omega)))) (by simp [frz]) (hk _ (by omega))
       ·rw [if_neg g7] at hrun
        by_cases g8 : 14 ≤ b_ r.next.text
        ·rw [if_pos g8] at hrun
         simp only [Option.map_eq_some_iff, Prod.mk.injEq] at hrun
         obtain ⟨⟨x, q⟩, hx, rfl, rfl⟩ := hrun
         have cy := d_ ka [40]
         obtain ⟨k2, n2, c2⟩ := h1 (r.adv.want [40]) (Rd.ok_want ka _) x q hx
         have cz := d_ k2 [41]
         have hv : b_ r.next.text = 14 ∨ b_ r.next.text = 15 ∨ b_ r.next.text = 16 ∨ b_ r.next.text = 17 := by
          have := nJ r.next.text
          omega
         refine ⟨Rd.ok_want k2 _, nest_want.trans (n2.trans nest_want), ?_⟩
         intro id mem nx K hl hi hk
         simp only [bE, em_1] at hk
         simp only [aA] at hk c2
         generalize b_ r.next.text = v at *
         refine bK ?_
         refine fi147.ct (by simp) fun hfr => ?_
         rcases hv with rfl | rfl | rfl | rfl
         all_goals
          simp -implicitDefEqProofs (maxDischargeDepth := 80) [ac147, hl, hi, neC hi, neA, ltA, aC, aB, aA, KF1]
          refine aD ((cn) (by simp -implicitDefEqProofs (maxDischargeDepth := 80) [hl, hi, neC hi, neA, ltA, aC, aB, aA, KF1]) (by omega) (fun m1 hm1 => ?_))
          have im1 : id < m1 := by omega
          have Km1 := nfc KF1 hm1
          simp -implicitDefEqProofs (maxDischargeDepth := 80) [hl, hi, neC hi, neA, ltA, aC, aB, aA, Km1, g1, g2, g3, g5]
          refine aD ((ct) (by simp -implicitDefEqProofs (maxDischargeDepth := 80) [hl, hi, neC hi, neA, ltA, aC, aB, aA, Km1]) (by omega) (fun m2 hm2 => ?_))
          have im2 : id < m2 := by omega
          have Km2 := nfc Km1 hm2
          simp -implicitDefEqProofs (maxDischargeDepth := 80) [hl, hi, neC hi, neA, ltA, aC, aB, aA, Km2]
          refine aG (cw) (by simp) ?_
          simp -implicitDefEqProofs (maxDischargeDepth := 80) [hl, hi, neC hi, neA, ltA, aC, aB, aA, Km2, g5, w]
          refine aG (cw) (by simp) ?_
          simp -implicitDefEqProofs (maxDischargeDepth := 80) [hl, hi, neC hi, neA, ltA, aC, aB, aA, Km2]
          refine aD ((cy) (by simp -implicitDefEqProofs (maxDischargeDepth := 80) [hl, hi, neC hi, neA, ltA, aC, aB, aA, Km2]) (by omega) (fun m3 hm3 => ?_))
          have im3 : id < m3 := by omega
          have Km3 := nfc Km2 hm3
          simp -implicitDefEqProofs (maxDischargeDepth := 80) [hl, hi, neC hi, neA, ltA, aC, aB, aA, Km3]
          refine aD ((c2) (by simp -implicitDefEqProofs (maxDischargeDepth := 80) [hl, hi, neC hi, neA, ltA, aC, aB, aA, Km3]) (by omega) (fun m4 hm4 => ?_))
          have im4 : id < m4 := by omega
          have Km4 := nfc Km3 hm4
          simp -implicitDefEqProofs (maxDischargeDepth := 80) [hl, hi, neC hi, neA, ltA, aC, aB, aA, Km4]
          refine aD ((cz) (by simp -implicitDefEqProofs (maxDischargeDepth := 80) [hl, hi, neC hi, neA, ltA, aC, aB, aA, Km4]) (by omega) (fun m5 hm5 => ?_))
          have im5 : id < m5 := by omega
          have Km5 := nfc Km4 hm5
          simp -implicitDefEqProofs (maxDischargeDepth := 80) [hl, hi, neC hi, neA, ltA, aC, aB, aA, Km5]
          exact eX (by repeat (first | exact aF _ | refine aE ?_ (aH (hfr _ (by omega))) | refine aE ?_ (hfr _ (by omega)))) (by simp [frz]) (hk _ (by omega))
        ·rw [if_neg g8] at hrun
         simp only [Option.some.injEq, Prod.mk.injEq] at hrun
         obtain ⟨rfl, rfl⟩ := hrun
         have hv : b_ r.next.text = 2 ∨ b_ r.next.text = 3 ∨ b_ r.next.text = 4 := by
          have := nJ r.next.text
          omega
         refine ⟨ka, rfl, ?_⟩
         intro id mem nx K hl hi hk
         simp [bE, aC, g1] at hk
         generalize b_ r.next.text = v at *
         refine bK ?_
         refine fi147.ct (by simp) fun hfr => ?_
         rcases hv with rfl | rfl | rfl
         all_goals
          simp -implicitDefEqProofs (maxDischargeDepth := 80) [ac147, hl, hi, neC hi, neA, ltA, aC, aB, aA, KF1]
          refine aD ((cn) (by simp -implicitDefEqProofs (maxDischargeDepth := 80) [hl, hi, neC hi, neA, ltA, aC, aB, aA, KF1]) (by omega) (fun m1 hm1 => ?_))
          have im1 : id < m1 := by omega
          have Km1 := nfc KF1 hm1
          simp -implicitDefEqProofs (maxDischargeDepth := 80) [hl, hi, neC hi, neA, ltA, aC, aB, aA, Km1, g1, g2, g3, g5]
          refine aD ((ct) (by simp -implicitDefEqProofs (maxDischargeDepth := 80) [hl, hi, neC hi, neA, ltA, aC, aB, aA, Km1]) (by omega) (fun m2 hm2 => ?_))
          have im2 : id < m2 := by omega
          have Km2 := nfc Km1 hm2
          simp -implicitDefEqProofs (maxDischargeDepth := 80) [hl, hi, neC hi, neA, ltA, aC, aB, aA, Km2]
          refine aG (cw) (by simp) ?_
          simp -implicitDefEqProofs (maxDischargeDepth := 80) [hl, hi, neC hi, neA, ltA, aC, aB, aA, Km2, g5, w]
          refine aG (cw) (by simp) ?_
          simp -implicitDefEqProofs (maxDischargeDepth := 80) [hl, hi, neC hi, neA, ltA, aC, aB, aA, Km2]
          exact eX (by repeat (first | exact aF _ | refine aE ?_ (aH (hfr _ (by omega))) | refine aE ?_ (hfr _ (by omega)))) (by simp [frz]) (hk _ (by omega))
     ·rw [if_pos (.inl g5)] at hrun
      simp only [Option.some.injEq, Prod.mk.injEq] at hrun
      obtain ⟨rfl, rfl⟩ := hrun
      refine ⟨Rd.ok_fail h _, jR, ?_⟩
      intro id mem nx K hl hi hk
      simp only [ex0, bE] at hk
      refine bK ?_
      refine fi147.ct (by simp) fun hfr => ?_
      simp -implicitDefEqProofs (maxDischargeDepth := 80) [ac147, hl, hi, neC hi, neA, ltA, aC, aB, aA, KF1]
      refine aD ((cn) (by simp -implicitDefEqProofs (maxDischargeDepth := 80) [hl, hi, neC hi, neA, ltA, aC, aB, aA, KF1]) (by omega) (fun m1 hm1 => ?_))
      have im1 : id < m1 := by omega
      have Km1 := nfc KF1 hm1
      simp -implicitDefEqProofs (maxDischargeDepth := 80) [hl, hi, neC hi, neA, ltA, aC, aB, aA, Km1, g1, g2, g3, g5]
      refine aD ((ct) (by simp -implicitDefEqProofs (maxDischargeDepth := 80) [hl, hi, neC hi, neA, ltA, aC, aB, aA, Km1]) (by omega) (fun m2 hm2 => ?_))
      have im2 : id < m2 := by omega
      have Km2 := nfc Km1 hm2
      simp -implicitDefEqProofs (maxDischargeDepth := 80) [hl, hi, neC hi, neA, ltA, aC, aB, aA, Km2, g5]
      refine aD ((cf) (by simp -implicitDefEqProofs (maxDischargeDepth := 80) [hl, hi, neC hi, neA, ltA, aC, aB, aA, Km2]) (by omega) (fun m3 hm3 => ?_))
      have im3 : id < m3 := by omega
      have Km3 := nfc Km2 hm3
      simp -implicitDefEqProofs (maxDischargeDepth := 80) [hl, hi, neC hi, neA, ltA, aC, aB, aA, Km3]
      exact eX (by repeat (first | exact aF _ | refine aE ?_ (aH (hfr _ (by omega))) | refine aE ?_ (hfr _ (by omega)))) (by simp [frz]) (hk _ (by omega))
    ·rw [if_pos rfl] at hrun ct
     simp only [Option.map_eq_some_iff, Prod.mk.injEq] at hrun
     obtain ⟨⟨x, q⟩, hx, rfl, rfl⟩ := hrun
     obtain ⟨k2, n2, c2⟩ := h1 r.adv (Rd.ok_adv h (Rd.is_4 g4)) x q hx
     have cz := d_ k2 [41]
     refine ⟨Rd.ok_want k2 _, nest_want.trans n2, ?_⟩
     intro id mem nx K hl hi hk
     simp only [aA] at hk c2
     refine bK ?_
     refine fi147.ct (by simp) fun hfr => ?_
     simp -implicitDefEqProofs (maxDischargeDepth := 80) [ac147, hl, hi, neC hi, neA, ltA, aC, aB, aA, KF1]
     refine aD ((cn) (by simp -implicitDefEqProofs (maxDischargeDepth := 80) [hl, hi, neC hi, neA, ltA, aC, aB, aA, KF1]) (by omega) (fun m1 hm1 => ?_))
     have im1 : id < m1 := by omega
     have Km1 := nfc KF1 hm1
     simp -implicitDefEqProofs (maxDischargeDepth := 80) [hl, hi, neC hi, neA, ltA, aC, aB, aA, Km1, g1, g2, g3]
     refine aD ((ct) (by simp -implicitDefEqProofs (maxDischargeDepth := 80) [hl, hi, neC hi, neA, ltA, aC, aB, aA, Km1]) (by omega) (fun m2 hm2 => ?_))
     have im2 : id < m2 := by omega
     have Km2 := nfc Km1 hm2
     simp -implicitDefEqProofs (maxDischargeDepth := 80) [hl, hi, neC hi, neA, ltA, aC, aB, aA, Km2]
     refine aD ((c2) (by simp -implicitDefEqProofs (maxDischargeDepth := 80) [hl, hi, neC hi, neA, ltA, aC, aB, aA, Km2]) (by omega) (fun m3 hm3 => ?_))
     have im3 : id < m3 := by omega
     have Km3 := nfc Km2 hm3
     simp -implicitDefEqProofs (maxDischargeDepth := 80) [hl, hi, neC hi, neA, ltA, aC, aB, aA, Km3]
     refine aD ((cz) (by simp -implicitDefEqProofs (maxDischargeDepth := 80) [hl, hi, neC hi, neA, ltA, aC, aB, aA, Km3]) (by omega) (fun m4 hm4 => ?_))
     have im4 : id < m4 := by omega
     have Km4 := nfc Km3 hm4
     simp -implicitDefEqProofs (maxDischargeDepth := 80) [hl, hi, neC hi, neA, ltA, aC, aB, aA, Km4]
     exact eX (by repeat (first | exact aF _ | refine aE ?_ (aH (hfr _ (by omega))) | refine aE ?_ (hfr _ (by omega)))) (by simp [frz]) (hk _ (by omega))
 ·rw [if_pos g1] at hrun
  simp only [Option.some.injEq, Prod.mk.injEq] at hrun
  obtain ⟨rfl, rfl⟩ := hrun
  refine ⟨h, rfl, ?_⟩
  intro id mem nx K hl hi hk
  rw [cQ hl] at hk
  simp only [ex0, bE] at hk
  refine bK ?_
  refine fi147.ct (by simp) fun hfr => ?_
  simp -implicitDefEqProofs (maxDischargeDepth := 80) [ac147, hl, hi, neC hi, neA, ltA, aC, aB, aA]
  refine aD ((cn) (by simp -implicitDefEqProofs (maxDischargeDepth := 80) [hl, hi, neC hi, neA, ltA, aC, aB, aA]) (by omega) (fun m1 hm1 => ?_))
  have im1 : id < m1 := by omega
  have Km1 := nfc trivial hm1
  simp -implicitDefEqProofs (maxDischargeDepth := 80) [hl, hi, neC hi, neA, ltA, aC, aB, aA, Km1, g1]
  exact eX (by repeat (first | exact aF _ | refine aE ?_ (aH (hfr _ (by omega))) | refine aE ?_ (hfr _ (by omega)))) (by simp [frz]) (hk _ (by omega))
theorem HU {N : Nat} (h1 : ∀ k, k < N → ∀ r, r.ok → EC 125 [] (bM k r) r) : ∀ n l (r : Rd) L r', n ≤ N → r.ok → e_ n l r = some (L, r') → r'.ok ∧ r'.nest = r.nest := by
 intro n
 induction n with
 | zero => intro a r e r' _ _ h; simp [e_] at h
 | succ n ih =>
  intro l r L r' hn h hrun
  unfold e_ at hrun
  split at hrun
  ·have hq : (if l = [] then r else r.want [44]).ok ∧ (if l = [] then r else r.want [44]).nest = r.nest := by
    split
    ·exact ⟨h, rfl⟩
    ·exact ⟨Rd.ok_want h _, nest_want⟩
   cases hc : bM n (if l = [] then r else r.want [44]) with
   | none => rw [hc] at hrun; simp at hrun
   | some p =>
    rw [hc] at hrun
    obtain ⟨k2, n2, _⟩ := h1 n (by omega) _ hq.1 p.1 p.2 hc
    obtain ⟨k3, n3⟩ := ih _ p.2 L r' (by omega) k2 hrun
    exact ⟨k3, n3.trans (n2.trans hq.2)⟩
  ·simp only [Option.some.injEq, Prod.mk.injEq] at hrun
   obtain ⟨_, rfl⟩ := hrun
   exact ⟨h, rfl⟩
theorem LM {n : Nat} (hN : n ≤ 2 ^ 40) (h1 : ∀ k, k ≤ n → ∀ r, r.ok → EC 125 [] (bM k r) r) :
  ∀ m r, r.ok → EC 148 [.agg (aB m)] (iE (n + 1) m r) r := by
 intro mk r h e r' hrun
 have ct := jZ h [40]
 unfold iE at hrun
 cases hs : r.is [40] <;> rw [hs] at hrun ct
 ·simp only [Bool.false_eq_true, if_false, Option.some.injEq, Prod.mk.injEq] at hrun ct
  obtain ⟨rfl, rfl⟩ := hrun
  refine ⟨h, rfl, ?_⟩
  intro id mem nx K hl hi hk
  simp only [bE] at hk
  refine bK ?_
  refine fi148.ct (by simp) fun hfr => ?_
  simp -implicitDefEqProofs (maxDischargeDepth := 80) [ac148, hl, hi, neC hi, neA, ltA, aC, aB, aA]
  refine aD ((ct) (by simp -implicitDefEqProofs (maxDischargeDepth := 80) [hl, hi, neC hi, neA, ltA, aC, aB, aA]) (by omega) (fun m1 hm1 => ?_))
  have im1 : id < m1 := by omega
  have Km1 := nfc trivial hm1
  simp -implicitDefEqProofs (maxDischargeDepth := 80) [hl, hi, neC hi, neA, ltA, aC, aB, aA, Km1]
  exact eX (by repeat (first | exact aF _ | refine aE ?_ (aH (hfr _ (by omega))) | refine aE ?_ (hfr _ (by omega)))) (by simp [frz]) (hk _ (by omega))
 ·simp only [if_true, Option.map_eq_some_iff, Prod.mk.injEq] at hrun ct
  obtain ⟨⟨L, q⟩, hL, rfl, rfl⟩ := hrun
  have ha := Rd.ok_adv h (Rd.is_4 hs)
  obtain ⟨k9, n9⟩ := HU (N := n) (fun k hk => h1 k (by omega)) n [] r.adv L q (Nat.le_refl _) ha hL
  have cz := d_ k9 [41]
  refine ⟨Rd.ok_want k9 _, nest_want.trans n9, ?_⟩
  intro id mem nx K hl hi hk
  simp only [bE] at hk
  refine bK ?_
  refine fi148.ct (by simp) fun hfr => ?_
  simp -implicitDefEqProofs (maxDischargeDepth := 80) [ac148, hl, hi, neC hi, neA, ltA, aC, aB, aA]
  refine aD ((ct) (by simp -implicitDefEqProofs (maxDischargeDepth := 80) [hl, hi, neC hi, neA, ltA, aC, aB, aA]) (by omega) (fun m1 hm1 => ?_))
  have im1 : id < m1 := by omega
  have Km1 := nfc trivial hm1
  simp -implicitDefEqProofs (maxDischargeDepth := 80) [hl, hi, neC hi, neA, ltA, aC, aB, aA, Km1]
  refine oM (id := m1 + 5) (off := 5) (k := 7) (by rw [a8, if_pos rfl]) rfl (.inl rfl) ?_
  refine lpG cf148 lb148_0 [6] (α := Nat × List Ex × Rd) (fun _ _ => []) (fun s _ => (m1 + 7, .arr s.2.1.length 7 (em aQ s.2.1)) :: (m1 + 5, .box [I 7, Tx mk.text, Tx [], I 0, CX 0 0, .osl (m1 + 7) s.2.1.length 0 s.2.1.length, I mk.at']) :: (nx + 1, .box [I 0, Tx [], Tx [], I 0, CX 0 0, .pl (.slice none 0 0), I 0]) :: upd mem id (.box (aC s.2.2)))
   (fun s m => m1 + 8 ≤ m ∧ s.1 + s.2.1.length ≤ n ∧ s.2.2.ok ∧ e_ s.1 s.2.1 s.2.2 = some (L, q)) (fun s => s.1) (n, [], r.adv) ⟨by omega, by simp, ha, hL⟩ (by simp) (by simp [aC]) ?_
  rintro ⟨f, l, y⟩ m ⟨hm, hf, hy, hrun⟩
  have Km := nfc Km1 hm
  simp only at hf hy hrun
  cases f with
  | zero => simp [e_] at hrun
  | succ f =>
   unfold e_ at hrun
   have ci := mB hy [41]
   have cw := d_ hy [44]
   have bd : (l.length + 1) * 96 ≤ 3 * 2 ^ 46 := by omega
   by_cases g1 : y.why = 0
   ·have hw := hy
    have KF1 := And.intro Km (g1)
    cases hi2 : y.is [41] <;> rw [hi2] at ci
    ·rw [if_pos ⟨g1, hi2⟩] at hrun
     by_cases h0 : l = []
     ·subst h0
      rw [if_pos rfl] at hrun
      cases hc : bM f y with
      | none => rw [hc] at hrun; simp at hrun
      | some p =>
       rw [hc] at hrun
       obtain ⟨k2, _, c2⟩ := h1 f (by omega) y hy p.1 p.2 hc
       simp only [aA] at c2
       simp -implicitDefEqProofs (maxDischargeDepth := 80) [lb148_0, hl, hi, neC hi, neA, ltA, aC, aB, aA, KF1]
       refine aD ((ci) (by simp -implicitDefEqProofs (maxDischargeDepth := 80) [hl, hi, neC hi, neA, ltA, aC, aB, aA, KF1]) (by omega) (fun m2 hm2 => ?_))
       have im2 : id < m2 := by omega
       have Km2 := nfc KF1 hm2
       simp -implicitDefEqProofs (maxDischargeDepth := 80) [hl, hi, neC hi, neA, ltA, aC, aB, aA, Km2]
       refine aD ((c2) (by simp -implicitDefEqProofs (maxDischargeDepth := 80) [hl, hi, neC hi, neA, ltA, aC, aB, aA, Km2]) (by omega) (fun m3 hm3 => ?_))
       have im3 : id < m3 := by omega
       have Km3 := nfc Km2 hm3
       simp -implicitDefEqProofs (maxDischargeDepth := 80) [hl, hi, neC hi, neA, ltA, aC, aB, aA, Km3]
       refine aI (f, [p.1], p.2) ⟨by omega, by simp only [List.length_cons, List.length_nil] at hf ⊢; omega, k2, hrun⟩ (by simp only; omega) (by simp) ?_
       simp only [em_1, aA, List.length_cons, List.length_nil]
       exact (by repeat (first | exact aK _ | refine aN ?_ (by simp only [look]; repeat (first | rw [if_neg (by omega)] | exact aH (hfr _ (by omega)) | exact hfr _ (by omega)))))
     ·rw [if_neg h0] at hrun
      have hpos := List.length_pos_iff.2 h0
      cases hc : bM f (y.want [44]) with
      | none => rw [hc] at hrun; simp at hrun
      | some p =>
       rw [hc] at hrun
       obtain ⟨k2, _, c2⟩ := h1 f (by omega) _ (Rd.ok_want hy _) p.1 p.2 hc
       simp only [aA] at c2
       simp -implicitDefEqProofs (maxDischargeDepth := 80) [lb148_0, hl, hi, neC hi, neA, ltA, aC, aB, aA, KF1]
       refine aD ((ci) (by simp -implicitDefEqProofs (maxDischargeDepth := 80) [hl, hi, neC hi, neA, ltA, aC, aB, aA, KF1]) (by omega) (fun m2 hm2 => ?_))
       have im2 : id < m2 := by omega
       have Km2 := nfc KF1 hm2
       simp -implicitDefEqProofs (maxDischargeDepth := 80) [hl, hi, neC hi, neA, ltA, aC, aB, aA, Km2, hpos]
       refine aD ((cw) (by simp -implicitDefEqProofs (maxDischargeDepth := 80) [hl, hi, neC hi, neA, ltA, aC, aB, aA, Km2]) (by omega) (fun m4 hm4 => ?_))
       have im4 : id < m4 := by omega
       have Km4 := nfc Km2 hm4
       simp -implicitDefEqProofs (maxDischargeDepth := 80) [hl, hi, neC hi, neA, ltA, aC, aB, aA, Km4]
       refine aD ((c2) (by simp -implicitDefEqProofs (maxDischargeDepth := 80) [hl, hi, neC hi, neA, ltA, aC, aB, aA, Km4]) (by omega) (fun m3 hm3 => ?_))
       have im3 : id < m3 := by omega
       have Km3 := nfc Km4 hm3
       simp -implicitDefEqProofs (maxDischargeDepth := 80) [hl, hi, neC hi, neA, ltA, aC, aB, aA, Km3]
       have hap := A_ l p.1
       rw [aA p.1] at hap
       refine ⟨by omega, aI (f, l ++ [p.1], p.2) ⟨by omega, by simp only [List.length_append, List.length_cons, List.length_nil]; omega, k2, hrun⟩ (by simp only; omega) (by simp) ?_⟩
       rw [hap]
       simp only [List.length_append, List.length_cons, List.length_nil, Nat.zero_add]
       exact (by repeat (first | exact aK _ | refine aN ?_ (by simp only [look]; repeat (first | rw [if_neg (by omega)] | exact aH (hfr _ (by omega)) | exact hfr _ (by omega)))))
    ·rw [if_neg (by simp [hi2])] at hrun
     simp only [Option.some.injEq, Prod.mk.injEq] at hrun
     obtain ⟨rfl, rfl⟩ := hrun
     simp -implicitDefEqProofs (maxDischargeDepth := 80) [lb148_0, hl, hi, neC hi, neA, ltA, aC, aB, aA, KF1, g1]
     refine aD ((ci) (by simp -implicitDefEqProofs (maxDischargeDepth := 80) [hl, hi, neC hi, neA, ltA, aC, aB, aA, KF1]) (by omega) (fun m2 hm2 => ?_))
     have im2 : id < m2 := by omega
     have Km2 := nfc KF1 hm2
     simp -implicitDefEqProofs (maxDischargeDepth := 80) [hl, hi, neC hi, neA, ltA, aC, aB, aA, Km2]
     refine aD ((cz) (by simp -implicitDefEqProofs (maxDischargeDepth := 80) [hl, hi, neC hi, neA, ltA, aC, aB, aA, Km2]) (by omega) (fun m3 hm3 => ?_))
     have im3 : id < m3 := by omega
     have Km3 := nfc Km2 hm3
     simp -implicitDefEqProofs (maxDischargeDepth := 80) [hl, hi, neC hi, neA, ltA, aC, aB, aA, Km3]
     exact nZ (m1 + 7) _ (by simp -implicitDefEqProofs (maxDischargeDepth := 80) [hl, hi, neC hi, neA, ltA, aC, aB, aA, Km3]; rfl) (by repeat (first | exact aF _ | refine aE ?_ (aH (hfr _ (by omega))) | refine aE ?_ (hfr _ (by omega)))) (aH (hfr _ (by omega))) (by simp [frz, look, List.take_of_length_le]) (hk _ (by omega))
   ·rw [if_neg (by simp [g1])] at hrun
    simp only [Option.some.injEq, Prod.mk.injEq] at hrun
    obtain ⟨rfl, rfl⟩ := hrun
    simp -implicitDefEqProofs (maxDischargeDepth := 80) [lb148_0, hl, hi, neC hi, neA, ltA, aC, aB, aA, Km, g1]
    refine aD ((cz) (by simp -implicitDefEqProofs (maxDischargeDepth := 80) [hl, hi, neC hi, neA, ltA, aC, aB, aA, Km]) (by omega) (fun m3 hm3 => ?_))
    have im3 : id < m3 := by omega
    have Km3 := nfc Km hm3
    simp -implicitDefEqProofs (maxDischargeDepth := 80) [hl, hi, neC hi, neA, ltA, aC, aB, aA, Km3]
    exact nZ (m1 + 7) _ (by simp -implicitDefEqProofs (maxDischargeDepth := 80) [hl, hi, neC hi, neA, ltA, aC, aB, aA, Km3]; rfl) (by repeat (first | exact aF _ | refine aE ?_ (aH (hfr _ (by omega))) | refine aE ?_ (hfr _ (by omega)))) (aH (hfr _ (by omega))) (by simp [frz, look, List.take_of_length_le]) (hk _ (by omega))
theorem G8 {N : Nat} (h1 : ∀ k, k < N → ∀ r, r.ok → EC 125 [] (bM k r) r) : ∀ n ss (r : Rd) L r', n ≤ N → r.ok → cL n ss r = some (L, r') → r'.ok ∧ r'.nest = r.nest := by
 intro n
 induction n with
 | zero => intro ss r L r' _ _ h; simp [cL] at h
 | succ n ih =>
  intro ss r L r' hn h hrun
  cases ss with
  | nil =>
   simp only [cL, Option.some.injEq, Prod.mk.injEq] at hrun
   obtain ⟨_, rfl⟩ := hrun
   exact ⟨h, rfl⟩
  | cons s ss =>
   unfold cL at hrun
   have hq : (if s = [] then r else r.want s).ok ∧ (if s = [] then r else r.want s).nest = r.nest := by
    split
    ·exact ⟨h, rfl⟩
    ·exact ⟨Rd.ok_want h _, nest_want⟩
   cases hc : bM n (if s = [] then r else r.want s) with
   | none => rw [hc] at hrun; simp at hrun
   | some p =>
    rw [hc] at hrun
    simp only [Option.bind_some, Option.map_eq_some_iff, Prod.mk.injEq] at hrun
    obtain ⟨q2, hq2, _, rfl⟩ := hrun
    obtain ⟨k2, n2, _⟩ := h1 n (by omega) _ hq.1 p.1 p.2 hc
    obtain ⟨k3, n3⟩ := ih ss p.2 q2.1 q2.2 (by omega) k2 hq2
    exact ⟨k3, n3.trans (n2.trans hq.2)⟩
theorem NP {n : Nat} (h1 : ∀ k, k < n → ∀ r, r.ok → EC 125 [] (bM k r) r) (ss : List (List UInt8)) (hss : ss.length ≤ 100) (r : Rd) (h : r.ok) (L : List Ex) (r' : Rd)
  (hrun : cL n ss r = some (L, r')) : r'.ok ∧ r'.nest = r.nest ∧ RC 139 [.sl (em a9 ss)] r r' (.sl (em aQ L)) := by
 obtain ⟨k9, n9⟩ := G8 h1 n ss r L r' (Nat.le_refl _) h hrun
 refine ⟨k9, n9, ?_⟩
 intro id mem nx K hl hi hk
 refine bK ?_
 refine fi139.ct (by simp) fun hfr => ?_
 simp -implicitDefEqProofs (maxDischargeDepth := 80) [ac139, hl, hi, neC hi, neA, ltA, aC, aB, aA]
 refine cW (j := 5) (k := 7) rfl (.inl rfl) ?_
 generalize hB : nx + 1 + 1 + 1 = B0
 refine lpG cf139 lb139_0 [5, 6, 7] (α := Nat × Nat × List Ex × Rd) (fun s _ => [(5, .osl B0 s.2.2.1.length 0 s.2.2.1.length), (6, I s.2.1)]) (fun s _ => (B0, .arr s.2.2.1.length 7 (em aQ s.2.2.1)) :: upd mem id (.box (aC s.2.2.2)))
  (fun s m => B0 < m ∧ s.1 ≤ n ∧ s.2.2.1.length = s.2.1 ∧ s.2.1 ≤ ss.length ∧ s.2.2.2.ok ∧ ∃ L2, cL s.1 (ss.drop s.2.1) s.2.2.2 = some (L2, r') ∧ s.2.2.1 ++ L2 = L) (fun s => s.1) (n, 0, [], r) ⟨by omega, Nat.le_refl _, rfl, by simp, h, L, hrun, rfl⟩ (by simp) (by simp [cQ hl]) ?_
 rintro ⟨f, i, l, y⟩ m ⟨hm, hf, hli, his, hy, L2, hrun, hL⟩
 have Km := nfc trivial hm
 simp only at hf hli his hy hrun hL
 have iB : id < B0 := by omega
 have KF1 := And.intro Km (iB)
 have KF2 := And.intro KF1 (neC iB)
 cases f with
 | zero => simp [cL] at hrun
 | succ f =>
  by_cases hlt : i < ss.length
  ·have hd : ss.drop i = ss[i] :: ss.drop (i + 1) := List.drop_eq_getElem_cons hlt
   have hg : ss[i]?.getD default = ss[i] := by rw [List.getElem?_eq_getElem hlt]; rfl
   rw [hd] at hrun
   unfold cL at hrun
   have w1 := aS (x := (i : Int) + 1) (by omega) (by omega)
   have cw := d_ hy ss[i]
   by_cases h0 : ss[i] = []
   ·rw [if_pos h0] at hrun
    cases hc : bM f y with
    | none => rw [hc] at hrun; simp at hrun
    | some p =>
     rw [hc] at hrun
     simp only [Option.bind_some, Option.map_eq_some_iff, Prod.mk.injEq] at hrun
     obtain ⟨q2, hq2, rfl, rfl⟩ := hrun
     obtain ⟨k2, _, c2⟩ := h1 f (by omega) y hy p.1 p.2 hc
     simp only [aA] at c2
     simp -implicitDefEqProofs (maxDischargeDepth := 80) [lb139_0, hl, hi, neC hi, neA, ltA, aC, aB, aA, KF2, hlt, hg, h0]
     refine aD ((c2) (by simp -implicitDefEqProofs (maxDischargeDepth := 80) [hl, hi, neC hi, neA, ltA, aC, aB, aA, KF2]) (by omega) (fun m3 hm3 => ?_))
     have im3 : id < m3 := by omega
     have Km3 := nfc KF2 hm3
     simp -implicitDefEqProofs (maxDischargeDepth := 80) [hl, hi, neC hi, neA, ltA, aC, aB, aA, Km3, hlt, hg, h0, w1]
     have hap := A_ l p.1
     rw [aA p.1] at hap
     have hl1 : (l ++ [p.1]).length = l.length + 1 := by simp
     refine ⟨by omega, aI (f, i + 1, l ++ [p.1], p.2) ⟨by omega, by simp only; omega, by simp only; omega, by simp only; omega, k2, q2.1, hq2, by simpa using hL⟩ (by simp only; omega) (by simp) ?_⟩
     rw [hap]
     simp only [List.length_append, List.length_cons, List.length_nil, Nat.zero_add]
     exact (by repeat (first | exact aK _ | refine aN ?_ (by simp only [look]; repeat (first | rw [if_neg (by omega)] | exact aH (hfr _ (by omega)) | exact hfr _ (by omega)))))
   ·rw [if_neg h0] at hrun
    cases hc : bM f (y.want ss[i]) with
    | none => rw [hc] at hrun; simp at hrun
    | some p =>
     rw [hc] at hrun
     simp only [Option.bind_some, Option.map_eq_some_iff, Prod.mk.injEq] at hrun
     obtain ⟨q2, hq2, rfl, rfl⟩ := hrun
     obtain ⟨k2, _, c2⟩ := h1 f (by omega) _ (Rd.ok_want hy _) p.1 p.2 hc
     simp only [aA] at c2
     simp -implicitDefEqProofs (maxDischargeDepth := 80) [lb139_0, hl, hi, neC hi, neA, ltA, aC, aB, aA, KF2, hlt, hg, h0]
     refine aD ((cw) (by simp -implicitDefEqProofs (maxDischargeDepth := 80) [hl, hi, neC hi, neA, ltA, aC, aB, aA, KF2]) (by omega) (fun m2 hm2 => ?_))
     have im2 : id < m2 := by omega
     have Km2 := nfc KF2 hm2
     simp -implicitDefEqProofs (maxDischargeDepth := 80) [hl, hi, neC hi, neA, ltA, aC, aB, aA, Km2]
     refine aD ((c2) (by simp -implicitDefEqProofs (maxDischargeDepth := 80) [hl, hi, neC hi, neA, ltA, aC, aB, aA, Km2]) (by omega) (fun m3 hm3 => ?_))
     have im3 : id < m3 := by omega
     have Km3 := nfc Km2 hm3
     simp -implicitDefEqProofs (maxDischargeDepth := 80) [hl, hi, neC hi, neA, ltA, aC, aB, aA, Km3, hlt, hg, h0, w1]
     have hap := A_ l p.1
     rw [aA p.1] at hap
     have hl1 : (l ++ [p.1]).length = l.length + 1 := by simp
     refine ⟨by omega, aI (f, i + 1, l ++ [p.1], p.2) ⟨by omega, by simp only; omega, by simp only; omega, by simp only; omega, k2, q2.1, hq2, by simpa using hL⟩ (by simp only; omega) (by simp) ?_⟩
     rw [hap]
     simp only [List.length_append, List.length_cons, List.length_nil, Nat.zero_add]
     exact (by repeat (first | exact aK _ | refine aN ?_ (by simp only [look]; repeat (first | rw [if_neg (by omega)] | exact aH (hfr _ (by omega)) | exact hfr _ (by omega)))))
  ·have he : ss.drop i = [] := List.drop_eq_nil_of_le (by omega)
   rw [he] at hrun
   simp only [cL, Option.some.injEq, Prod.mk.injEq] at hrun
   obtain ⟨rfl, rfl⟩ := hrun
   simp only [List.append_nil] at hL
   subst hL
   simp -implicitDefEqProofs (maxDischargeDepth := 80) [lb139_0, hl, hi, neC hi, neA, ltA, aC, aB, aA, KF2, hlt]
   exact nZ B0 _ (by simp -implicitDefEqProofs (maxDischargeDepth := 80) [hl, hi, neC hi, neA, ltA, aC, aB, aA, KF2]; rfl) (by repeat (first | exact aF _ | refine aE ?_ (aH (hfr _ (by omega))) | refine aE ?_ (hfr _ (by omega)))) (aH (hfr _ (by omega))) (by simp [frz, look, List.take_of_length_le]) (hk _ (by omega))
theorem upd_comm {α : Type} {i j : Nat} (h : i ≠ j) {a b : α} : ∀ {m : List (Nat × α)}, upd (upd m i a) j b = upd (upd m j b) i a
 | [] => rfl
 | (k, x) :: m => by
  by_cases h1 : k = i
  ·subst h1
   simp [upd, h]
  ·by_cases h2 : k = j
   ·subst h2
    simp [upd, h1]
   ·simp only [upd, h1, h2, if_false]; rw [upd_comm h]
theorem DJ {n : Nat} (h1 : ∀ r, r.ok → EC 125 [] (bM n r) r) (r : Rd) (h : r.ok) (p : Int) (e : Ex) (r' : Rd) (hrun : eJ (n + 1) r p = some (e, r')) :
  r'.ok ∧ r'.nest = r.nest ∧ ∀ (id id2 : Nat) (mem : Mem) (nx : Nat) (K : KD), look mem id = some (.box (aC r)) → id < nx → look mem id2 = some (.box [I 0, Tx [], Tx [], I 0, CX 0 0, .pl (.slice none 0 0), I p]) → id2 < nx → id ≠ id2 →
   (∀ nx', nx ≤ nx' → K (.tup []) (upd (upd mem id2 (.box (aQ e))) id (.box (aC r'))) nx') → bO Tryz.prog 140 [.opt id 0, .opt id2 0] mem nx K := by
 unfold eJ at hrun
 cases hc1 : bM n r with
 | none => rw [hc1] at hrun; simp at hrun
 | some q1 =>
  obtain ⟨x, r1⟩ := q1
  rw [hc1] at hrun
  simp only [Option.bind_some] at hrun
  obtain ⟨k1, n1, c1⟩ := h1 r h x r1 hc1
  have w1 := d_ k1 [111, 102]
  have kw1 := Rd.ok_want k1 [111, 102]
  have w2 := d_ kw1 [110, 105, 108]
  have kw2 := Rd.ok_want kw1 [110, 105, 108]
  have w3 := d_ kw2 [45, 62]
  have kw3 := Rd.ok_want kw2 [45, 62]
  have n3 : (((r1.want [111, 102]).want [110, 105, 108]).want [45, 62]).nest = r.nest := by rw [nest_want, nest_want, nest_want, n1]
  generalize r1.want [111, 102] = s1 at *
  generalize s1.want [110, 105, 108] = s2 at *
  generalize s2.want [45, 62] = s3 at *
  cases hc2 : bM n s3 with
  | none => rw [hc2] at hrun; simp at hrun
  | some q2 =>
   obtain ⟨a, r2⟩ := q2
   rw [hc2] at hrun
   simp only [Option.bind_some] at hrun
   obtain ⟨k2, n2, c2⟩ := h1 s3 kw3 a r2 hc2
   have w4 := d_ k2 [124]
   have kw4 := Rd.ok_want k2 [124]
   have w5 := o9 kw4
   have kw5 := Rd.ok_name kw4
   have n5 : (r2.want [124]).name.2.nest = r.nest := by rw [n_, nest_want, n2, n3]
   generalize r2.want [124] = s4 at *
   generalize s4.name.1 = hd at *
   generalize s4.name.2 = s5 at *
   have w6 := d_ kw5 [58]
   have kw6 := Rd.ok_want kw5 [58]
   have w7 := o9 kw6
   have kw7 := Rd.ok_name kw6
   have n7 : (s5.want [58]).name.2.nest = r.nest := by rw [n_, nest_want, n5]
   generalize s5.want [58] = s6 at *
   generalize s6.name.1 = tl at *
   generalize s6.name.2 = s7 at *
   have w8 := d_ kw7 [45, 62]
   have kw8 := Rd.ok_want kw7 [45, 62]
   have n8 : (s7.want [45, 62]).nest = r.nest := by rw [nest_want, n7]
   generalize s7.want [45, 62] = s8 at *
   simp only [Option.map_eq_some_iff, Prod.mk.injEq] at hrun
   obtain ⟨⟨b, r3⟩, hc3, rfl, rfl⟩ := hrun
   obtain ⟨k3, n9, c3⟩ := h1 s8 kw8 b r3 hc3
   refine ⟨k3, n9.trans n8, ?_⟩
   intro id id2 mem nx K hl hi hl2 hi2 hne hk
   simp only [bE, em_3] at hk
   simp only [aA] at hk c1 c2 c3
   simp only [aB] at w5 w7
   refine fi140.ct (by simp) fun hfr => ?_
   have hA : ∀ (m : Mem) (q : Blk), look (upd m id q) id2 = look m id2 := fun m q => cB (Ne.symm hne)
   have hB : ∀ (m : Mem) (q : Blk), look (upd m id2 q) id = look m id := fun m q => cB hne
   have hC : ∀ (m : Mem) (q q2 : Blk), upd (upd m id q) id2 q2 = upd (upd m id2 q2) id q := fun m q q2 => upd_comm hne
   have KF3 := And.intro trivial (hA)
   have KF4 := And.intro KF3 (hB)
   have KF5 := And.intro KF4 (hC)
   have KF6 := And.intro KF5 (hl2)
   have KF7 := And.intro KF6 (hi2)
   have KF8 := And.intro KF7 (neC hi2)
   simp -implicitDefEqProofs (maxDischargeDepth := 80) [ac140, hl, hi, neC hi, neA, ltA, aC, aB, aA, KF8]
   refine aD ((c1) (by simp -implicitDefEqProofs (maxDischargeDepth := 80) [hl, hi, neC hi, neA, ltA, aC, aB, aA, KF8]) (by omega) (fun m1 hm1 => ?_))
   have im1 : id < m1 := by omega
   have Km1 := nfc KF8 hm1
   simp -implicitDefEqProofs (maxDischargeDepth := 80) [hl, hi, neC hi, neA, ltA, aC, aB, aA, Km1]
   refine aD ((w1) (by simp -implicitDefEqProofs (maxDischargeDepth := 80) [hl, hi, neC hi, neA, ltA, aC, aB, aA, Km1]) (by omega) (fun m2 hm2 => ?_))
   have im2 : id < m2 := by omega
   have Km2 := nfc Km1 hm2
   simp -implicitDefEqProofs (maxDischargeDepth := 80) [hl, hi, neC hi, neA, ltA, aC, aB, aA, Km2]
   refine aD ((w2) (by simp -implicitDefEqProofs (maxDischargeDepth := 80) [hl, hi, neC hi, neA, ltA, aC, aB, aA, Km2]) (by omega) (fun m3 hm3 => ?_))
   have im3 : id < m3 := by omega
   have Km3 := nfc Km2 hm3
   simp -implicitDefEqProofs (maxDischargeDepth := 80) [hl, hi, neC hi, neA, ltA, aC, aB, aA, Km3]
   refine aD ((w3) (by simp -implicitDefEqProofs (maxDischargeDepth := 80) [hl, hi, neC hi, neA, ltA, aC, aB, aA, Km3]) (by omega) (fun m4 hm4 => ?_))
   have im4 : id < m4 := by omega
   have Km4 := nfc Km3 hm4
   simp -implicitDefEqProofs (maxDischargeDepth := 80) [hl, hi, neC hi, neA, ltA, aC, aB, aA, Km4]
   refine aD ((c2) (by simp -implicitDefEqProofs (maxDischargeDepth := 80) [hl, hi, neC hi, neA, ltA, aC, aB, aA, Km4]) (by omega) (fun m5 hm5 => ?_))
   have im5 : id < m5 := by omega
   have Km5 := nfc Km4 hm5
   simp -implicitDefEqProofs (maxDischargeDepth := 80) [hl, hi, neC hi, neA, ltA, aC, aB, aA, Km5]
   refine aD ((w4) (by simp -implicitDefEqProofs (maxDischargeDepth := 80) [hl, hi, neC hi, neA, ltA, aC, aB, aA, Km5]) (by omega) (fun m6 hm6 => ?_))
   have im6 : id < m6 := by omega
   have Km6 := nfc Km5 hm6
   simp -implicitDefEqProofs (maxDischargeDepth := 80) [hl, hi, neC hi, neA, ltA, aC, aB, aA, Km6]
   refine aD ((w5) (by simp -implicitDefEqProofs (maxDischargeDepth := 80) [hl, hi, neC hi, neA, ltA, aC, aB, aA, Km6]) (by omega) (fun m7 hm7 => ?_))
   have im7 : id < m7 := by omega
   have Km7 := nfc Km6 hm7
   simp -implicitDefEqProofs (maxDischargeDepth := 80) [hl, hi, neC hi, neA, ltA, aC, aB, aA, Km7]
   refine aD ((w6) (by simp -implicitDefEqProofs (maxDischargeDepth := 80) [hl, hi, neC hi, neA, ltA, aC, aB, aA, Km7]) (by omega) (fun m8 hm8 => ?_))
   have im8 : id < m8 := by omega
   have Km8 := nfc Km7 hm8
   simp -implicitDefEqProofs (maxDischargeDepth := 80) [hl, hi, neC hi, neA, ltA, aC, aB, aA, Km8]
   refine aD ((w7) (by simp -implicitDefEqProofs (maxDischargeDepth := 80) [hl, hi, neC hi, neA, ltA, aC, aB, aA, Km8]) (by omega) (fun m9 hm9 => ?_))
   have im9 : id < m9 := by omega
   have Km9 := nfc Km8 hm9
   simp -implicitDefEqProofs (maxDischargeDepth := 80) [hl, hi, neC hi, neA, ltA, aC, aB, aA, Km9]
   refine aD ((w8) (by simp -implicitDefEqProofs (maxDischargeDepth := 80) [hl, hi, neC hi, neA, ltA, aC, aB, aA, Km9]) (by omega) (fun m10 hm10 => ?_))
   have im10 : id < m10 := by omega
   have Km10 := nfc Km9 hm10
   simp -implicitDefEqProofs (maxDischargeDepth := 80) [hl, hi, neC hi, neA, ltA, aC, aB, aA, Km10]
   refine aD ((c3) (by simp -implicitDefEqProofs (maxDischargeDepth := 80) [hl, hi, neC hi, neA, ltA, aC, aB, aA, Km10]) (by omega) (fun m11 hm11 => ?_))
   have im11 : id < m11 := by omega
   have Km11 := nfc Km10 hm11
   simp -implicitDefEqProofs (maxDischargeDepth := 80) [hl, hi, neC hi, neA, ltA, aC, aB, aA, Km11]
   exact ⟨_, by repeat (first | exact aF _ | refine aE ?_ (aH (aH (hfr _ (by omega))))), hk _ (by omega)⟩
theorem expr_s {n : Nat} (hN : n ≤ 2 ^ 40) (h0 : ∀ r, r.ok → EC 138 [] (iP n r) r)
  (h1 : ∀ ss r L r', ss.length ≤ 100 → r.ok → cL n ss r = some (L, r') → r'.ok ∧ r'.nest = r.nest ∧ RC 139 [.sl (em a9 ss)] r r' (.sl (em aQ L)))
  (h2 : ∀ (r : Rd) (p : Int) (e : Ex) (r' : Rd), r.ok → eJ n r p = some (e, r') → r'.ok ∧ r'.nest = r.nest ∧ ∀ (id id2 : Nat) (mem : Mem) (nx : Nat) (K : KD), look mem id = some (.box (aC r)) → id < nx → look mem id2 = some (.box [I 0, Tx [], Tx [], I 0, CX 0 0, .pl (.slice none 0 0), I p]) → id2 < nx → id ≠ id2 →
   (∀ nx', nx ≤ nx' → K (.tup []) (upd (upd mem id2 (.box (aQ e))) id (.box (aC r'))) nx') → bO Tryz.prog 140 [.opt id 0, .opt id2 0] mem nx K) :
  ∀ r, r.ok → EC 125 [] (bM (n + 1) r) r := by
 intro r h e r' hrun
 have cn := gV h
 simp only [aB] at cn
 have hl2 := h.lt
 have hl3 := h.len
 have hn0 := h.n0
 have hn1 := h.n1
 have hL := h.l1
 have w := aS (x := (r.at' : Int) + 1) (by omega) (by omega)
 have wn := aS (x := r.nest + 1) (by omega) (by omega)
 have wm := aS (x := r.nest) (by omega) (by omega)
 have i1 := mB h [108, 101, 116]
 have i2 := mB h [115, 116, 114, 105, 99, 116]
 have i3 := mB h [99, 97, 115, 101]
 have i4 := mB h [105, 102]
 have cf := nK h 23
 unfold bM at hrun
 simp only at hrun
 cases hb : binds r
 ·have hbs := hb
  unfold binds at hbs
  simp only [Bool.or_eq_false_iff] at hbs
  obtain ⟨b1, b2, b3⟩ := hbs
  rw [b1] at i1
  rw [b2] at i2
  rw [b3] at i3
  simp only [hb, Bool.false_and, Bool.false_eq_true, if_false] at hrun
  by_cases g1 : r.why = 0
  ·rw [if_neg (by simp [g1])] at hrun
   have KF1 := And.intro trivial (g1)
   cases hif : r.is [105, 102] <;> rw [hif] at i4
   ·rw [if_pos ⟨trivial, hif⟩] at hrun
    obtain ⟨k2, n2, c2⟩ := h0 r h e r' hrun
    refine ⟨k2, n2, ?_⟩
    intro id mem nx K hl hi hk
    simp only [aA] at hk c2
    refine bK ?_
    refine fi125.ct (by simp) fun hfr => ?_
    simp -implicitDefEqProofs (maxDischargeDepth := 80) [ac125, hl, hi, neC hi, neA, ltA, aC, aB, aA, KF1]
    refine aD ((cn) (by simp -implicitDefEqProofs (maxDischargeDepth := 80) [hl, hi, neC hi, neA, ltA, aC, aB, aA, KF1]) (by omega) (fun m1 hm1 => ?_))
    have im1 : id < m1 := by omega
    have Km1 := nfc KF1 hm1
    simp -implicitDefEqProofs (maxDischargeDepth := 80) [hl, hi, neC hi, neA, ltA, aC, aB, aA, Km1]
    refine aD ((i1) (by simp -implicitDefEqProofs (maxDischargeDepth := 80) [hl, hi, neC hi, neA, ltA, aC, aB, aA, Km1]) (by omega) (fun m2 hm2 => ?_))
    have im2 : id < m2 := by omega
    have Km2 := nfc Km1 hm2
    simp -implicitDefEqProofs (maxDischargeDepth := 80) [hl, hi, neC hi, neA, ltA, aC, aB, aA, Km2]
    refine aD ((i2) (by simp -implicitDefEqProofs (maxDischargeDepth := 80) [hl, hi, neC hi, neA, ltA, aC, aB, aA, Km2]) (by omega) (fun m3 hm3 => ?_))
    have im3 : id < m3 := by omega
    have Km3 := nfc Km2 hm3
    simp -implicitDefEqProofs (maxDischargeDepth := 80) [hl, hi, neC hi, neA, ltA, aC, aB, aA, Km3]
    refine aD ((i3) (by simp -implicitDefEqProofs (maxDischargeDepth := 80) [hl, hi, neC hi, neA, ltA, aC, aB, aA, Km3]) (by omega) (fun m4 hm4 => ?_))
    have im4 : id < m4 := by omega
    have Km4 := nfc Km3 hm4
    simp -implicitDefEqProofs (maxDischargeDepth := 80) [hl, hi, neC hi, neA, ltA, aC, aB, aA, Km4]
    refine aD ((i4) (by simp -implicitDefEqProofs (maxDischargeDepth := 80) [hl, hi, neC hi, neA, ltA, aC, aB, aA, Km4]) (by omega) (fun m5 hm5 => ?_))
    have im5 : id < m5 := by omega
    have Km5 := nfc Km4 hm5
    simp -implicitDefEqProofs (maxDischargeDepth := 80) [hl, hi, neC hi, neA, ltA, aC, aB, aA, Km5]
    refine aD ((c2) (by simp -implicitDefEqProofs (maxDischargeDepth := 80) [hl, hi, neC hi, neA, ltA, aC, aB, aA, Km5]) (by omega) (fun m6 hm6 => ?_))
    have im6 : id < m6 := by omega
    have Km6 := nfc Km5 hm6
    simp -implicitDefEqProofs (maxDischargeDepth := 80) [hl, hi, neC hi, neA, ltA, aC, aB, aA, Km6]
    exact eX (by repeat (first | exact aF _ | refine aE ?_ (aH (hfr _ (by omega))) | refine aE ?_ (hfr _ (by omega)))) (by simp [frz]) (hk _ (by omega))
   ·have ht := (Rd.is_kind hif).2.2
    rw [if_neg (by simp [hif]), if_pos ht] at hrun
    simp only [Option.map_eq_some_iff, Prod.mk.injEq] at hrun
    obtain ⟨⟨e1, q1⟩, ⟨⟨L, q⟩, hp, rfl, rfl⟩, rfl, rfl⟩ := hrun
    obtain ⟨k2, n2, c2⟩ := h1 _ r.adv L q (by simp) (Rd.ok_adv h (Rd.is_4 hif)) hp
    rw [em_3] at c2
    refine ⟨k2, n2, ?_⟩
    intro id mem nx K hl hi hk
    simp only [bE] at hk
    rw [ht] at cn
    refine bK ?_
    refine fi125.ct (by simp) fun hfr => ?_
    simp -implicitDefEqProofs (maxDischargeDepth := 80) [ac125, hl, hi, neC hi, neA, ltA, aC, aB, aA, KF1]
    refine aD ((cn) (by simp -implicitDefEqProofs (maxDischargeDepth := 80) [hl, hi, neC hi, neA, ltA, aC, aB, aA, KF1]) (by omega) (fun m1 hm1 => ?_))
    have im1 : id < m1 := by omega
    have Km1 := nfc KF1 hm1
    simp -implicitDefEqProofs (maxDischargeDepth := 80) [hl, hi, neC hi, neA, ltA, aC, aB, aA, Km1]
    refine aD ((i1) (by simp -implicitDefEqProofs (maxDischargeDepth := 80) [hl, hi, neC hi, neA, ltA, aC, aB, aA, Km1]) (by omega) (fun m2 hm2 => ?_))
    have im2 : id < m2 := by omega
    have Km2 := nfc Km1 hm2
    simp -implicitDefEqProofs (maxDischargeDepth := 80) [hl, hi, neC hi, neA, ltA, aC, aB, aA, Km2]
    refine aD ((i2) (by simp -implicitDefEqProofs (maxDischargeDepth := 80) [hl, hi, neC hi, neA, ltA, aC, aB, aA, Km2]) (by omega) (fun m3 hm3 => ?_))
    have im3 : id < m3 := by omega
    have Km3 := nfc Km2 hm3
    simp -implicitDefEqProofs (maxDischargeDepth := 80) [hl, hi, neC hi, neA, ltA, aC, aB, aA, Km3]
    refine aD ((i3) (by simp -implicitDefEqProofs (maxDischargeDepth := 80) [hl, hi, neC hi, neA, ltA, aC, aB, aA, Km3]) (by omega) (fun m4 hm4 => ?_))
    have im4 : id < m4 := by omega
    have Km4 := nfc Km3 hm4
    simp -implicitDefEqProofs (maxDischargeDepth := 80) [hl, hi, neC hi, neA, ltA, aC, aB, aA, Km4]
    refine aD ((i4) (by simp -implicitDefEqProofs (maxDischargeDepth := 80) [hl, hi, neC hi, neA, ltA, aC, aB, aA, Km4]) (by omega) (fun m5 hm5 => ?_))
    have im5 : id < m5 := by omega
    have Km5 := nfc Km4 hm5
    simp -implicitDefEqProofs (maxDischargeDepth := 80) [hl, hi, neC hi, neA, ltA, aC, aB, aA, Km5, w]
    refine aD ((c2) (by simp -implicitDefEqProofs (maxDischargeDepth := 80) [hl, hi, neC hi, neA, ltA, aC, aB, aA, Km5]) (by omega) (fun m6 hm6 => ?_))
    have im6 : id < m6 := by omega
    have Km6 := nfc Km5 hm6
    simp -implicitDefEqProofs (maxDischargeDepth := 80) [hl, hi, neC hi, neA, ltA, aC, aB, aA, Km6]
    exact eX (by repeat (first | exact aF _ | refine aE ?_ (aH (hfr _ (by omega))) | refine aE ?_ (hfr _ (by omega)))) (by simp [frz]) (hk _ (by omega))
  ·rw [if_pos g1] at hrun
   simp only [Option.some.injEq, Prod.mk.injEq] at hrun
   obtain ⟨rfl, rfl⟩ := hrun
   refine ⟨h, rfl, ?_⟩
   intro id mem nx K hl hi hk
   rw [cQ hl] at hk
   simp only [ex0, bE] at hk
   refine bK ?_
   refine fi125.ct (by simp) fun hfr => ?_
   simp -implicitDefEqProofs (maxDischargeDepth := 80) [ac125, hl, hi, neC hi, neA, ltA, aC, aB, aA]
   refine aD ((cn) (by simp -implicitDefEqProofs (maxDischargeDepth := 80) [hl, hi, neC hi, neA, ltA, aC, aB, aA]) (by omega) (fun m1 hm1 => ?_))
   have im1 : id < m1 := by omega
   have Km1 := nfc trivial hm1
   simp -implicitDefEqProofs (maxDischargeDepth := 80) [hl, hi, neC hi, neA, ltA, aC, aB, aA, Km1]
   refine aD ((i1) (by simp -implicitDefEqProofs (maxDischargeDepth := 80) [hl, hi, neC hi, neA, ltA, aC, aB, aA, Km1]) (by omega) (fun m2 hm2 => ?_))
   have im2 : id < m2 := by omega
   have Km2 := nfc Km1 hm2
   simp -implicitDefEqProofs (maxDischargeDepth := 80) [hl, hi, neC hi, neA, ltA, aC, aB, aA, Km2]
   refine aD ((i2) (by simp -implicitDefEqProofs (maxDischargeDepth := 80) [hl, hi, neC hi, neA, ltA, aC, aB, aA, Km2]) (by omega) (fun m3 hm3 => ?_))
   have im3 : id < m3 := by omega
   have Km3 := nfc Km2 hm3
   simp -implicitDefEqProofs (maxDischargeDepth := 80) [hl, hi, neC hi, neA, ltA, aC, aB, aA, Km3]
   refine aD ((i3) (by simp -implicitDefEqProofs (maxDischargeDepth := 80) [hl, hi, neC hi, neA, ltA, aC, aB, aA, Km3]) (by omega) (fun m4 hm4 => ?_))
   have im4 : id < m4 := by omega
   have Km4 := nfc Km3 hm4
   simp -implicitDefEqProofs (maxDischargeDepth := 80) [hl, hi, neC hi, neA, ltA, aC, aB, aA, Km4, g1]
   exact eX (by repeat (first | exact aF _ | refine aE ?_ (aH (hfr _ (by omega))) | refine aE ?_ (hfr _ (by omega)))) (by simp [frz]) (hk _ (by omega))
 ·have g1 : r.why = 0 := by
   have hbs := hb
   unfold binds at hbs
   simp only [Bool.or_eq_true] at hbs
   rcases hbs with h | h | h
   ·exact (Rd.is_kind h).1
   ·exact (Rd.is_kind h).1
   ·exact (Rd.is_kind h).1
  have KF2 := And.intro trivial (g1)
  have h4 : r.next.kind ≠ 4 := by
   have hbs := hb
   unfold binds at hbs
   simp only [Bool.or_eq_true] at hbs
   rcases hbs with h | h | h
   ·exact Rd.is_4 h
   ·exact Rd.is_4 h
   ·exact Rd.is_4 h
  by_cases g2 : r.lN ≤ r.nest
  ·have hrun2 : e = ex0 ∧ r' = r.fail 23 := by
    simp only [hb, Bool.true_and, g2, decide_true, if_true] at hrun
    rw [if_pos (by simp [Rd.fail, g1])] at hrun
    simp only [Option.some.injEq, Prod.mk.injEq] at hrun
    exact ⟨hrun.1.symm, hrun.2.symm⟩
   obtain ⟨rfl, rfl⟩ := hrun2
   have hwhy : ¬ (r.fail 23).why = 0 := by simp [Rd.fail, g1]
   refine ⟨Rd.ok_fail h _, jR, ?_⟩
   intro id mem nx K hl hi hk
   simp only [ex0, bE] at hk
   cases b1 : r.is [108, 101, 116] <;> rw [b1] at i1
   ·cases b2 : r.is [115, 116, 114, 105, 99, 116] <;> rw [b2] at i2
    ·have b3 : r.is [99, 97, 115, 101] = true := by
      unfold binds at hb; rw [b1, b2] at hb; simpa using hb
     rw [b3] at i3
     refine bK ?_
     refine fi125.ct (by simp) fun hfr => ?_
     simp -implicitDefEqProofs (maxDischargeDepth := 80) [ac125, hl, hi, neC hi, neA, ltA, aC, aB, aA, KF2]
     refine aD ((cn) (by simp -implicitDefEqProofs (maxDischargeDepth := 80) [hl, hi, neC hi, neA, ltA, aC, aB, aA, KF2]) (by omega) (fun m1 hm1 => ?_))
     have im1 : id < m1 := by omega
     have Km1 := nfc KF2 hm1
     simp -implicitDefEqProofs (maxDischargeDepth := 80) [hl, hi, neC hi, neA, ltA, aC, aB, aA, Km1]
     refine aD ((i1) (by simp -implicitDefEqProofs (maxDischargeDepth := 80) [hl, hi, neC hi, neA, ltA, aC, aB, aA, Km1]) (by omega) (fun m2 hm2 => ?_))
     have im2 : id < m2 := by omega
     have Km2 := nfc Km1 hm2
     simp -implicitDefEqProofs (maxDischargeDepth := 80) [hl, hi, neC hi, neA, ltA, aC, aB, aA, Km2]
     refine aD ((i2) (by simp -implicitDefEqProofs (maxDischargeDepth := 80) [hl, hi, neC hi, neA, ltA, aC, aB, aA, Km2]) (by omega) (fun m3 hm3 => ?_))
     have im3 : id < m3 := by omega
     have Km3 := nfc Km2 hm3
     simp -implicitDefEqProofs (maxDischargeDepth := 80) [hl, hi, neC hi, neA, ltA, aC, aB, aA, Km3]
     refine aD ((i3) (by simp -implicitDefEqProofs (maxDischargeDepth := 80) [hl, hi, neC hi, neA, ltA, aC, aB, aA, Km3]) (by omega) (fun m4 hm4 => ?_))
     have im4 : id < m4 := by omega
     have Km4 := nfc Km3 hm4
     simp -implicitDefEqProofs (maxDischargeDepth := 80) [hl, hi, neC hi, neA, ltA, aC, aB, aA, Km4, g2]
     refine aD ((cf) (by simp -implicitDefEqProofs (maxDischargeDepth := 80) [hl, hi, neC hi, neA, ltA, aC, aB, aA, Km4]) (by omega) (fun m5 hm5 => ?_))
     have im5 : id < m5 := by omega
     have Km5 := nfc Km4 hm5
     simp -implicitDefEqProofs (maxDischargeDepth := 80) [hl, hi, neC hi, neA, ltA, aC, aB, aA, Km5, hwhy]
     exact eX (by repeat (first | exact aF _ | refine aE ?_ (aH (hfr _ (by omega))) | refine aE ?_ (hfr _ (by omega)))) (by simp [frz]) (hk _ (by omega))
    ·refine bK ?_
     refine fi125.ct (by simp) fun hfr => ?_
     simp -implicitDefEqProofs (maxDischargeDepth := 80) [ac125, hl, hi, neC hi, neA, ltA, aC, aB, aA, KF2]
     refine aD ((cn) (by simp -implicitDefEqProofs (maxDischargeDepth := 80) [hl, hi, neC hi, neA, ltA, aC, aB, aA, KF2]) (by omega) (fun m1 hm1 => ?_))
     have im1 : id < m1 := by omega
     have Km1 := nfc KF2 hm1
     simp -implicitDefEqProofs (maxDischargeDepth := 80) [hl, hi, neC hi, neA, ltA, aC, aB, aA, Km1]
     refine aD ((i1) (by simp -implicitDefEqProofs (maxDischargeDepth := 80) [hl, hi, neC hi, neA, ltA, aC, aB, aA, Km1]) (by omega) (fun m2 hm2 => ?_))
     have im2 : id < m2 := by omega
     have Km2 := nfc Km1 hm2
     simp -implicitDefEqProofs (maxDischargeDepth := 80) [hl, hi, neC hi, neA, ltA, aC, aB, aA, Km2]
     refine aD ((i2) (by simp -implicitDefEqProofs (maxDischargeDepth := 80) [hl, hi, neC hi, neA, ltA, aC, aB, aA, Km2]) (by omega) (fun m3 hm3 => ?_))
     have im3 : id < m3 := by omega
     have Km3 := nfc Km2 hm3
     simp -implicitDefEqProofs (maxDischargeDepth := 80) [hl, hi, neC hi, neA, ltA, aC, aB, aA, Km3, g2]
     refine aD ((cf) (by simp -implicitDefEqProofs (maxDischargeDepth := 80) [hl, hi, neC hi, neA, ltA, aC, aB, aA, Km3]) (by omega) (fun m5 hm5 => ?_))
     have im5 : id < m5 := by omega
     have Km5 := nfc Km3 hm5
     simp -implicitDefEqProofs (maxDischargeDepth := 80) [hl, hi, neC hi, neA, ltA, aC, aB, aA, Km5, hwhy]
     exact eX (by repeat (first | exact aF _ | refine aE ?_ (aH (hfr _ (by omega))) | refine aE ?_ (hfr _ (by omega)))) (by simp [frz]) (hk _ (by omega))
   ·refine bK ?_
    refine fi125.ct (by simp) fun hfr => ?_
    simp -implicitDefEqProofs (maxDischargeDepth := 80) [ac125, hl, hi, neC hi, neA, ltA, aC, aB, aA, KF2]
    refine aD ((cn) (by simp -implicitDefEqProofs (maxDischargeDepth := 80) [hl, hi, neC hi, neA, ltA, aC, aB, aA, KF2]) (by omega) (fun m1 hm1 => ?_))
    have im1 : id < m1 := by omega
    have Km1 := nfc KF2 hm1
    simp -implicitDefEqProofs (maxDischargeDepth := 80) [hl, hi, neC hi, neA, ltA, aC, aB, aA, Km1]
    refine aD ((i1) (by simp -implicitDefEqProofs (maxDischargeDepth := 80) [hl, hi, neC hi, neA, ltA, aC, aB, aA, Km1]) (by omega) (fun m2 hm2 => ?_))
    have im2 : id < m2 := by omega
    have Km2 := nfc Km1 hm2
    simp -implicitDefEqProofs (maxDischargeDepth := 80) [hl, hi, neC hi, neA, ltA, aC, aB, aA, Km2, g2]
    refine aD ((cf) (by simp -implicitDefEqProofs (maxDischargeDepth := 80) [hl, hi, neC hi, neA, ltA, aC, aB, aA, Km2]) (by omega) (fun m5 hm5 => ?_))
    have im5 : id < m5 := by omega
    have Km5 := nfc Km2 hm5
    simp -implicitDefEqProofs (maxDischargeDepth := 80) [hl, hi, neC hi, neA, ltA, aC, aB, aA, Km5, hwhy]
    exact eX (by repeat (first | exact aF _ | refine aE ?_ (aH (hfr _ (by omega))) | refine aE ?_ (hfr _ (by omega)))) (by simp [frz]) (hk _ (by omega))
  ·simp only [hb, Bool.true_and, g2, decide_false, if_false, if_true, Bool.false_eq_true, Bool.true_eq_false, false_and] at hrun
   rw [if_neg (by simp [g1])] at hrun
   obtain ⟨rd, hrd⟩ : ∃ rd : Rd, rd = Rd.adv { r with nest := r.nest + 1 } := ⟨_, rfl⟩
   have krd : rd.ok := by
    rw [hrd]
    exact ⟨h.ms, h.ms.2 _ h.lt h4, h.len, by show 0 ≤ r.nest + 1; omega, by show r.nest + 1 ≤ 2 ^ 40; omega, h.l1⟩
   have nrd : rd.nest = r.nest + 1 := by rw [hrd]; rfl
   rw [← hrd] at hrun
   have f1 : rd.ms = r.ms := by rw [hrd]; rfl
   have f2 : (rd.at' : Int) = (r.at' : Int) + 1 := by rw [hrd]; simp
   have f3 : rd.why = 0 := by rw [hrd]; exact g1
   have f4 : rd.wh = r.wh := by rw [hrd]; rfl
   have f5 : rd.lT = r.lT := by rw [hrd]; rfl
   have f6 : rd.lF = r.lF := by rw [hrd]; rfl
   have f7 : rd.lA = r.lA := by rw [hrd]; rfl
   have f8 : rd.lN = r.lN := by rw [hrd]; rfl
   clear hrd
   have KF3 := And.intro KF2 (f1)
   have KF4 := And.intro KF3 (f2)
   have KF5 := And.intro KF4 (f3)
   have KF6 := And.intro KF5 (f4)
   have KF7 := And.intro KF6 (f5)
   have KF8 := And.intro KF7 (f6)
   have KF9 := And.intro KF8 (f7)
   have KF10 := And.intro KF9 (f8)
   have KF11 := And.intro KF10 (nrd)
   cases b1 : r.is [108, 101, 116] <;> rw [b1] at i1
   ·cases b2 : r.is [115, 116, 114, 105, 99, 116] <;> rw [b2] at i2
    ·have b3 : r.is [99, 97, 115, 101] = true := by
      unfold binds at hb; rw [b1, b2] at hb; simpa using hb
     rw [b3] at i3
     have ht : r.next.text = [99, 97, 115, 101] := (Rd.is_kind b3).2.2
     have t1 : ¬ r.next.text = [105, 102] := by rw [ht]; simp
     rw [if_neg t1, if_pos ht] at hrun
     simp only [Option.map_eq_some_iff, Prod.mk.injEq] at hrun
     obtain ⟨⟨e1, q⟩, hp, rfl, rfl⟩ := hrun
     obtain ⟨k2, n2, cb⟩ := h2 rd r.next.at' e1 q krd hp
     have nq : q.nest = r.nest + 1 := by rw [n2, nrd]
     refine ⟨⟨k2.ms, k2.lt, k2.len, by simp only; omega, by simp only; omega, k2.l1⟩, by simp only; omega, ?_⟩
     intro id mem nx K hl hi hk
     simp only [aA] at hk
     simp [aC, nq] at hk
     rw [ht] at cn
     refine bK ?_
     refine fi125.ct (by simp) fun hfr => ?_
     simp -implicitDefEqProofs (maxDischargeDepth := 80) [ac125, hl, hi, neC hi, neA, ltA, aC, aB, aA, KF11]
     refine aD ((cn) (by simp -implicitDefEqProofs (maxDischargeDepth := 80) [hl, hi, neC hi, neA, ltA, aC, aB, aA, KF11]) (by omega) (fun m1 hm1 => ?_))
     have im1 : id < m1 := by omega
     have Km1 := nfc KF11 hm1
     simp -implicitDefEqProofs (maxDischargeDepth := 80) [hl, hi, neC hi, neA, ltA, aC, aB, aA, Km1]
     refine aD ((i1) (by simp -implicitDefEqProofs (maxDischargeDepth := 80) [hl, hi, neC hi, neA, ltA, aC, aB, aA, Km1]) (by omega) (fun m2 hm2 => ?_))
     have im2 : id < m2 := by omega
     have Km2 := nfc Km1 hm2
     simp -implicitDefEqProofs (maxDischargeDepth := 80) [hl, hi, neC hi, neA, ltA, aC, aB, aA, Km2]
     refine aD ((i2) (by simp -implicitDefEqProofs (maxDischargeDepth := 80) [hl, hi, neC hi, neA, ltA, aC, aB, aA, Km2]) (by omega) (fun m3 hm3 => ?_))
     have im3 : id < m3 := by omega
     have Km3 := nfc Km2 hm3
     simp -implicitDefEqProofs (maxDischargeDepth := 80) [hl, hi, neC hi, neA, ltA, aC, aB, aA, Km3]
     refine aD ((i3) (by simp -implicitDefEqProofs (maxDischargeDepth := 80) [hl, hi, neC hi, neA, ltA, aC, aB, aA, Km3]) (by omega) (fun m4 hm4 => ?_))
     have im4 : id < m4 := by omega
     have Km4 := nfc Km3 hm4
     simp -implicitDefEqProofs (maxDischargeDepth := 80) [hl, hi, neC hi, neA, ltA, aC, aB, aA, Km4, g2, wn, w]
     refine aD (cb id _ _ _ _ (by simp -implicitDefEqProofs (maxDischargeDepth := 80) [hl, hi, neC hi, neA, ltA, aC, aB, aA, Km4]) (by omega) (by simp -implicitDefEqProofs (maxDischargeDepth := 80) [hl, hi, neC hi, neA, ltA, aC, aB, aA, Km4]) (by omega) (by omega) (fun m6 hm6 => ?_))
     have Km6 := nfc Km4 hm6
     simp -implicitDefEqProofs (maxDischargeDepth := 80) [hl, hi, neC hi, neA, ltA, aC, aB, aA, Km6, nq, wm]
     exact eX (by repeat (first | exact aF _ | refine aE ?_ (aH (hfr _ (by omega))) | refine aE ?_ (hfr _ (by omega)))) (by simp [frz]) (hk _ (by omega))
    ·have ht : r.next.text = [115, 116, 114, 105, 99, 116] := (Rd.is_kind b2).2.2
     have t1 : ¬ r.next.text = [105, 102] := by rw [ht]; simp
     have t2 : ¬ r.next.text = [99, 97, 115, 101] := by rw [ht]; simp
     rw [if_neg t1, if_neg t2] at hrun
     rw [if_pos ht] at hrun
     simp only [Option.map_map, Option.map_eq_some_iff, Function.comp_def, Prod.mk.injEq] at hrun
     obtain ⟨⟨L, q⟩, hp, rfl, rfl⟩ := hrun
     have w5 := o9 krd
     have kw5 := Rd.ok_name krd
     have n5 : rd.name.2.nest = rd.nest := n_
     have w6 := uE kw5
     have kw6 := Rd.ok_typ kw5
     have n6 : rd.name.2.typ.2.nest = rd.nest := by rw [t5, n5]
     generalize rd.name.1 = hd at *
     generalize rd.name.2 = s5 at *
     generalize s5.typ.1 = ty at *
     generalize s5.typ.2 = s6 at *
     obtain ⟨k2, n2, c2⟩ := h1 _ s6 L q (by simp) kw6 hp
     rw [em_2] at c2
     have nq : q.nest = r.nest + 1 := by rw [n2, n6, nrd]
     refine ⟨⟨k2.ms, k2.lt, k2.len, by simp only; omega, by simp only; omega, k2.l1⟩, by simp only; omega, ?_⟩
     intro id mem nx K hl hi hk
     simp only [bE] at hk
     simp [aC, nq] at hk
     simp only [aB] at w5
     rw [ht] at cn
     refine bK ?_
     refine fi125.ct (by simp) fun hfr => ?_
     simp -implicitDefEqProofs (maxDischargeDepth := 80) [ac125, hl, hi, neC hi, neA, ltA, aC, aB, aA, KF11]
     refine aD ((cn) (by simp -implicitDefEqProofs (maxDischargeDepth := 80) [hl, hi, neC hi, neA, ltA, aC, aB, aA, KF11]) (by omega) (fun m1 hm1 => ?_))
     have im1 : id < m1 := by omega
     have Km1 := nfc KF11 hm1
     simp -implicitDefEqProofs (maxDischargeDepth := 80) [hl, hi, neC hi, neA, ltA, aC, aB, aA, Km1]
     refine aD ((i1) (by simp -implicitDefEqProofs (maxDischargeDepth := 80) [hl, hi, neC hi, neA, ltA, aC, aB, aA, Km1]) (by omega) (fun m2 hm2 => ?_))
     have im2 : id < m2 := by omega
     have Km2 := nfc Km1 hm2
     simp -implicitDefEqProofs (maxDischargeDepth := 80) [hl, hi, neC hi, neA, ltA, aC, aB, aA, Km2]
     refine aD ((i2) (by simp -implicitDefEqProofs (maxDischargeDepth := 80) [hl, hi, neC hi, neA, ltA, aC, aB, aA, Km2]) (by omega) (fun m3 hm3 => ?_))
     have im3 : id < m3 := by omega
     have Km3 := nfc Km2 hm3
     simp -implicitDefEqProofs (maxDischargeDepth := 80) [hl, hi, neC hi, neA, ltA, aC, aB, aA, Km3, g2, wn, w]
     refine aD ((w5) (by simp -implicitDefEqProofs (maxDischargeDepth := 80) [hl, hi, neC hi, neA, ltA, aC, aB, aA, Km3]) (by omega) (fun m6 hm6 => ?_))
     have im6 : id < m6 := by omega
     have Km6 := nfc Km3 hm6
     simp -implicitDefEqProofs (maxDischargeDepth := 80) [hl, hi, neC hi, neA, ltA, aC, aB, aA, Km6]
     refine aD ((w6) (by simp -implicitDefEqProofs (maxDischargeDepth := 80) [hl, hi, neC hi, neA, ltA, aC, aB, aA, Km6]) (by omega) (fun m7 hm7 => ?_))
     have im7 : id < m7 := by omega
     have Km7 := nfc Km6 hm7
     simp -implicitDefEqProofs (maxDischargeDepth := 80) [hl, hi, neC hi, neA, ltA, aC, aB, aA, Km7]
     refine aD ((c2) (by simp -implicitDefEqProofs (maxDischargeDepth := 80) [hl, hi, neC hi, neA, ltA, aC, aB, aA, Km7]) (by omega) (fun m8 hm8 => ?_))
     have im8 : id < m8 := by omega
     have Km8 := nfc Km7 hm8
     simp -implicitDefEqProofs (maxDischargeDepth := 80) [hl, hi, neC hi, neA, ltA, aC, aB, aA, Km8, nq, wm]
     exact eX (by repeat (first | exact aF _ | refine aE ?_ (aH (hfr _ (by omega))) | refine aE ?_ (hfr _ (by omega)))) (by simp [frz]) (hk _ (by omega))
   ·have ht : r.next.text = [108, 101, 116] := (Rd.is_kind b1).2.2
    have t1 : ¬ r.next.text = [105, 102] := by rw [ht]; simp
    have t2 : ¬ r.next.text = [99, 97, 115, 101] := by rw [ht]; simp
    have t3 : ¬ r.next.text = [115, 116, 114, 105, 99, 116] := by rw [ht]; simp
    rw [if_neg t1, if_neg t2] at hrun
    rw [if_neg t3] at hrun
    simp only [Option.map_map, Option.map_eq_some_iff, Function.comp_def, Prod.mk.injEq] at hrun
    obtain ⟨⟨L, q⟩, hp, rfl, rfl⟩ := hrun
    have w5 := o9 krd
    have kw5 := Rd.ok_name krd
    have n5 : rd.name.2.nest = rd.nest := n_
    have w6 := uE kw5
    have kw6 := Rd.ok_typ kw5
    have n6 : rd.name.2.typ.2.nest = rd.nest := by rw [t5, n5]
    generalize rd.name.1 = hd at *
    generalize rd.name.2 = s5 at *
    generalize s5.typ.1 = ty at *
    generalize s5.typ.2 = s6 at *
    obtain ⟨k2, n2, c2⟩ := h1 _ s6 L q (by simp) kw6 hp
    rw [em_2] at c2
    have nq : q.nest = r.nest + 1 := by rw [n2, n6, nrd]
    refine ⟨⟨k2.ms, k2.lt, k2.len, by simp only; omega, by simp only; omega, k2.l1⟩, by simp only; omega, ?_⟩
    intro id mem nx K hl hi hk
    simp only [bE] at hk
    simp [aC, nq] at hk
    simp only [aB] at w5
    rw [ht] at cn
    refine bK ?_
    refine fi125.ct (by simp) fun hfr => ?_
    simp -implicitDefEqProofs (maxDischargeDepth := 80) [ac125, hl, hi, neC hi, neA, ltA, aC, aB, aA, KF11]
    refine aD ((cn) (by simp -implicitDefEqProofs (maxDischargeDepth := 80) [hl, hi, neC hi, neA, ltA, aC, aB, aA, KF11]) (by omega) (fun m1 hm1 => ?_))
    have im1 : id < m1 := by omega
    have Km1 := nfc KF11 hm1
    simp -implicitDefEqProofs (maxDischargeDepth := 80) [hl, hi, neC hi, neA, ltA, aC, aB, aA, Km1]
    refine aD ((i1) (by simp -implicitDefEqProofs (maxDischargeDepth := 80) [hl, hi, neC hi, neA, ltA, aC, aB, aA, Km1]) (by omega) (fun m2 hm2 => ?_))
    have im2 : id < m2 := by omega
    have Km2 := nfc Km1 hm2
    simp -implicitDefEqProofs (maxDischargeDepth := 80) [hl, hi, neC hi, neA, ltA, aC, aB, aA, Km2, g2, wn, w]
    refine aD ((w5) (by simp -implicitDefEqProofs (maxDischargeDepth := 80) [hl, hi, neC hi, neA, ltA, aC, aB, aA, Km2]) (by omega) (fun m6 hm6 => ?_))
    have im6 : id < m6 := by omega
    have Km6 := nfc Km2 hm6
    simp -implicitDefEqProofs (maxDischargeDepth := 80) [hl, hi, neC hi, neA, ltA, aC, aB, aA, Km6]
    refine aD ((w6) (by simp -implicitDefEqProofs (maxDischargeDepth := 80) [hl, hi, neC hi, neA, ltA, aC, aB, aA, Km6]) (by omega) (fun m7 hm7 => ?_))
    have im7 : id < m7 := by omega
    have Km7 := nfc Km6 hm7
    simp -implicitDefEqProofs (maxDischargeDepth := 80) [hl, hi, neC hi, neA, ltA, aC, aB, aA, Km7]
    refine aD ((c2) (by simp -implicitDefEqProofs (maxDischargeDepth := 80) [hl, hi, neC hi, neA, ltA, aC, aB, aA, Km7]) (by omega) (fun m8 hm8 => ?_))
    have im8 : id < m8 := by omega
    have Km8 := nfc Km7 hm8
    simp -implicitDefEqProofs (maxDischargeDepth := 80) [hl, hi, neC hi, neA, ltA, aC, aB, aA, Km8, nq, wm]
    exact eX (by repeat (first | exact aF _ | refine aE ?_ (aH (hfr _ (by omega))) | refine aE ?_ (hfr _ (by omega)))) (by simp [frz]) (hk _ (by omega))
structure PGood (k : Nat) : Prop where
 expr : ∀ r, r.ok → EC 125 [] (bM k r) r
 cons : ∀ r, r.ok → EC 138 [] (iP k r) r
 comp : ∀ r, r.ok → EC 143 [] (iZ k r) r
 sum : ∀ r, r.ok → EC 145 [] (j0 k r) r
 term : ∀ r, r.ok → EC 146 [] (eF k r) r
 unit : ∀ r, r.ok → EC 147 [] (eD k r) r
 named : ∀ m r, r.ok → EC 148 [.agg (aB m)] (iE k m r) r
theorem all_c : ∀ n, n ≤ 2 ^ 40 → PGood n := by
 intro n
 induction n using Nat.strongRecOn with
 | _ n ih =>
  intro hn
  cases n with
  | zero =>
   refine ⟨?_, ?_, ?_, ?_, ?_, ?_, ?_⟩
   ·intro r _ e r' h; simp [bM] at h
   ·intro r _ e r' h; simp [iP] at h
   ·intro r _ e r' h; simp [iZ] at h
   ·intro r _ e r' h; simp [j0] at h
   ·intro r _ e r' h; simp [eF] at h
   ·intro r _ e r' h; simp [eD] at h
   ·intro m r _ e r' h; simp [iE] at h
  | succ n =>
   have g : ∀ k, k ≤ n → PGood k := fun k hk => ih k (by omega) (by omega)
   have gn := g n (Nat.le_refl _)
   refine ⟨?_, cons_s gn.comp gn.cons, comp_s gn.sum, sum_s fun k hk => (g k hk).term, term_s fun k hk => (g k hk).unit, unit_s gn.expr gn.named, LM (by omega) fun k hk => (g k hk).expr⟩
   refine expr_s (by omega) gn.cons ?_ ?_
   ·intro ss r L r' hss h hrun
    exact NP (fun k hk => (g k (by omega)).expr) ss hss r h L r' hrun
   ·intro r p e r' h hrun
    cases n with
    | zero => simp [eJ] at hrun
    | succ n => exact DJ (g n (by omega)).expr r h p e r' hrun
theorem F5 {n : Nat} (hn : n ≤ 2 ^ 40) {r : Rd} (h : r.ok) {e : Ex} {r' : Rd} (hrun : bM n r = some (e, r')) : r'.ok ∧ r'.nest = r.nest ∧ RC 125 [] r r' (.agg (aQ e)) := (all_c n hn).expr r h e r' hrun
end Go.Fx.YtlhdpfaohphbaaaGreat

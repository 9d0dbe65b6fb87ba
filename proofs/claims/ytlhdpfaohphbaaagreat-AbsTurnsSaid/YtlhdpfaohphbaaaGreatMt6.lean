/- The law AbsTurns: what stands around a body.. No condition. -/
import Derived.Test.YtlhdpfaohphbaaaGreatMt5
import Derived.Test.YtlhdpfaohphbaaaGreatRows
set_option linter.all false
set_option maxRecDepth 100000
set_option maxHeartbeats 8000000
namespace Go.Fx.YtlhdpfaohphbaaaGreat
open Go Go.Fx Go.Proofs Go.Fx.Flt Rows
def t17 : List UInt8 := [103, 40, 108, 32, 76, 41, 58, 76, 61, 108, 59, 102, 40, 108, 32, 76, 41, 58, 78, 61, 99, 97, 115, 101, 32, 108, 32, 111, 102, 32, 110, 105, 108, 45, 62, 49, 124, 104, 58, 116, 45, 62, 104, 59, 107, 40, 108, 32, 76, 41, 58, 76, 61, 103, 40, 49, 58, 108, 41, 59]
def s17 : List UInt8 := [0, 1, 2, 3, 0, 0, 0, 0, 0, 1, 2, 3]
def m17 : List Mk := [⟨0, [103], ⟨0, 0⟩, 0⟩,
 ⟨3, [40], ⟨0, 0⟩, 1⟩,
 ⟨0, [108], ⟨0, 0⟩, 2⟩,
 ⟨1, [76], ⟨0, 0⟩, 4⟩,
 ⟨3, [41], ⟨0, 0⟩, 5⟩,
 ⟨3, [58], ⟨0, 0⟩, 6⟩,
 ⟨1, [76], ⟨0, 0⟩, 7⟩,
 ⟨3, [61], ⟨0, 0⟩, 8⟩,
 ⟨0, [108], ⟨0, 0⟩, 9⟩,
 ⟨3, [59], ⟨0, 0⟩, 10⟩,
 ⟨0, [102], ⟨0, 0⟩, 11⟩,
 ⟨3, [40], ⟨0, 0⟩, 12⟩,
 ⟨0, [108], ⟨0, 0⟩, 13⟩,
 ⟨1, [76], ⟨0, 0⟩, 15⟩,
 ⟨3, [41], ⟨0, 0⟩, 16⟩,
 ⟨3, [58], ⟨0, 0⟩, 17⟩,
 ⟨1, [78], ⟨0, 0⟩, 18⟩,
 ⟨3, [61], ⟨0, 0⟩, 19⟩,
 ⟨1, [99, 97, 115, 101], ⟨0, 0⟩, 20⟩,
 ⟨0, [108], ⟨0, 0⟩, 25⟩,
 ⟨1, [111, 102], ⟨0, 0⟩, 27⟩,
 ⟨1, [110, 105, 108], ⟨0, 0⟩, 30⟩,
 ⟨3, [45, 62], ⟨0, 0⟩, 33⟩,
 ⟨2, [49], ⟨4607182418800017408, 0⟩, 35⟩,
 ⟨3, [124], ⟨0, 0⟩, 36⟩,
 ⟨0, [104], ⟨0, 0⟩, 37⟩,
 ⟨3, [58], ⟨0, 0⟩, 38⟩,
 ⟨0, [116], ⟨0, 0⟩, 39⟩,
 ⟨3, [45, 62], ⟨0, 0⟩, 40⟩,
 ⟨0, [104], ⟨0, 0⟩, 42⟩,
 ⟨3, [59], ⟨0, 0⟩, 43⟩,
 ⟨0, [107], ⟨0, 0⟩, 44⟩,
 ⟨3, [40], ⟨0, 0⟩, 45⟩,
 ⟨0, [108], ⟨0, 0⟩, 46⟩,
 ⟨1, [76], ⟨0, 0⟩, 48⟩,
 ⟨3, [41], ⟨0, 0⟩, 49⟩,
 ⟨3, [58], ⟨0, 0⟩, 50⟩,
 ⟨1, [76], ⟨0, 0⟩, 51⟩,
 ⟨3, [61], ⟨0, 0⟩, 52⟩,
 ⟨0, [103], ⟨0, 0⟩, 53⟩,
 ⟨3, [40], ⟨0, 0⟩, 54⟩,
 ⟨2, [49], ⟨4607182418800017408, 0⟩, 55⟩,
 ⟨3, [58], ⟨0, 0⟩, 56⟩,
 ⟨0, [108], ⟨0, 0⟩, 57⟩,
 ⟨3, [41], ⟨0, 0⟩, 58⟩,
 ⟨3, [59], ⟨0, 0⟩, 59⟩,
 ⟨4, [], ⟨0, 0⟩, 60⟩]
theorem E1 : dN t17 = (m17, (dN t17).2) := by rfl
def oO (k : Nat) (nest : Int) : Rd := ⟨m17, k, 0, 0, 32768, 32768, 32768, 32768, nest⟩
def g17 : Fn := ⟨[103], [⟨[108], 3, 2⟩], 3, (.mk 6 [108] [] 0 ⟨0, 0⟩ [] 9), 0⟩
def f17 : Fn := ⟨[102], [⟨[108], 3, 13⟩], 1, (.mk 20 [104] [116] 0 ⟨0, 0⟩ [(.mk 6 [108] [] 0 ⟨0, 0⟩ [] 25), (.mk 1 [] [] 0 ⟨4607182418800017408, 0⟩ [] 35), (.mk 6 [104] [] 0 ⟨0, 0⟩ [] 42)] 20), 11⟩
def k17 : Fn := ⟨[107], [⟨[108], 3, 46⟩], 3, (.mk 7 [103] [] 0 ⟨0, 0⟩ [(.mk 18 [] [] 0 ⟨0, 0⟩ [(.mk 1 [] [] 0 ⟨4607182418800017408, 0⟩ [] 55), (.mk 6 [108] [] 0 ⟨0, 0⟩ [] 57)] 56)] 53), 44⟩
def L17 : List Fn := [g17, f17, k17]
theorem d17a : kH 42 (oO 0 0) 0 = some (g17, oO 10 0) := by rfl
theorem d17b : kH 41 (oO 10 0) 1 = some (f17, oO 31 0) := by rfl
theorem d17c : kH 40 (oO 31 0) 2 = some (k17, oO 46 0) := by rfl
theorem pR {n : Nat} {l : List Fn} {r q : Rd} {f : Fn} (h : kH n r l.length = some (f, q)) (h1 : r.why = 0) (h2 : l = [] ∨ r.next.kind ≠ 4) : eP (n + 1) l r = eP n (l ++ [f]) q := by
 conv => lhs; unfold eP
 rw [if_pos ⟨h1, h2⟩, h, Option.bind_some]
theorem E3 {n : Nat} {l : List Fn} {r : Rd} (h1 : l ≠ []) (h2 : r.next.kind = 4) : eP (n + 1) l r = some (l, r) := by
 unfold eP
 rw [if_neg (fun h => h.2.elim h1 (fun h => h h2))]
theorem pp17 : eP 43 [] (oO 0 0) = some (L17, oO 46 0) := by
 rw [pR (n := 42) d17a rfl (.inl rfl), pR (n := 41) d17b rfl (.inr (by decide)), pR (n := 40) d17c rfl (.inr (by decide)), E3 (n := 39) (by simp) (by decide)]
 rfl
theorem rd017 : rd0 t17 32768 32768 32768 32768 = oO 0 0 := by unfold rd0 oO; rw [E1]
theorem FF : vI t17 L17 0 0 := NE t17 (by decide) (by decide) (n := 43) (by decide) (by rw [rd017]; exact pp17) (by decide) (by rw [E1]; decide)
theorem ty17 : gW L17 = (0, 0) := by decide
theorem nF : qQ L17 := ⟨by decide, by decide⟩
theorem BN : (fI (b8 f17) [2]).2 = 0 ∧ (fI (b8 k17) [2]).2 = 0 ∧ (fI (b8 f17) [0]).2 = 0 := by decide
theorem AD : bI f17.body ≤ 6 ∧ bI k17.body ≤ 6 := by decide
theorem pt17a : kY L17 (dK L17 s17 0) f17 [2] = 1 := by decide
theorem pt17b : kY L17 (dK L17 s17 0) k17 [2] = 2 := by decide
theorem pt17c : kY L17 (dK L17 s17 0) f17 [0] = 0 := by decide
theorem lit17 : em dM t17 = [[By 103], [By 40], [By 108], [By 32], [By 76], [By 41], [By 58], [By 76], [By 61], [By 108], [By 59], [By 102], [By 40], [By 108], [By 32], [By 76], [By 41], [By 58], [By 78], [By 61], [By 99], [By 97], [By 115], [By 101], [By 32], [By 108], [By 32], [By 111], [By 102], [By 32], [By 110], [By 105], [By 108], [By 45], [By 62], [By 49], [By 124], [By 104], [By 58], [By 116], [By 45], [By 62], [By 104], [By 59], [By 107], [By 40], [By 108], [By 32], [By 76], [By 41], [By 58], [By 76], [By 61], [By 103], [By 40], [By 49], [By 58], [By 108], [By 41], [By 59]] := rfl
theorem lits17 : em dM s17 = [[By 0], [By 1], [By 2], [By 3], [By 0], [By 0], [By 0], [By 0], [By 0], [By 1], [By 2], [By 3]] := rfl
theorem I_ {t : List UInt8} {L : List Fn} {w : Int} (h : mW t L w) : qQ L := ⟨h.2.1, h.2.2.2⟩
theorem tI {P : List Fn} {T : List Tt} {i : Int} {tu : List Int} {f : Fn} {v : Int} (hok : SeeOk P T) (h0 : 0 ≤ i) (h1 : i < P.length) (hf : nR P i = f) (hn : (fI (b8 f) tu).2 = 0) (h6 : bI f.body ≤ 6) (hv : kY P T f tu = v) : jY P T i tu = (v, 0) := by
 unfold jY
 rw [if_pos hok, if_neg (by omega), hf, if_neg (by simpa using hn), if_neg (by omega), hv]
theorem wT : Pure Tryz.prog 8 [] (B true) := by
 have hk : dT L17 := FF.2.1 rfl
 have hr := zV FF
 have hs : mW t17 L17 0 := ⟨rfl, nF.1, by decide, nF.2⟩
 rw [show jF t17 L17 0 = true by simp [jF, hs]] at hr
 have ht := BB hk nF s17 (by decide)
 have hok := zP hk nF s17 (by rw [ty17])
 have htw := CP hk nF s17
 have htl : (dK L17 s17 0).length < 2 ^ 44 := by rw [nB]; decide
 have hb : ∀ (i : Int) (tu : List Int), tu.length < 2 ^ 48 → _ := fun i tu h => KZ hk htl htw i tu h
 have b1 := hb 1 [2] (by decide)
 have b2 := hb 2 [2] (by decide)
 have b3 := hb 1 [0] (by decide)
 rw [tI (f := f17) hok (by decide) (by decide) rfl BN.1 AD.1 pt17a] at b1
 rw [tI (f := k17) hok (by decide) (by decide) rfl BN.2.1 AD.2 pt17b] at b2
 rw [tI (f := f17) hok (by decide) (by decide) rfl BN.2.2 AD.1 pt17c] at b3
 have e1 : em bH [2] = [[I 2]] := rfl
 have e0 : em bH [0] = [[I 0]] := rfl
 rw [e1] at b1 b2
 rw [e0] at b3
 rw [lits17] at ht
 rw [lit17] at hr
 generalize dK L17 s17 0 = T at *
 generalize L17 = L at *
 refine fi8.pu (by simp) ?_
 simp -implicitDefEqProofs [ac8]
 refine aG hr (by simp) ?_
 simp -implicitDefEqProofs
 refine aG ht (by simp) ?_
 simp -implicitDefEqProofs
 refine aG (b1) (by simp) ?_
 simp -implicitDefEqProofs
 refine aG (b2) (by simp) ?_
 simp -implicitDefEqProofs
 refine aG (b3) (by simp) ?_
 simp -implicitDefEqProofs
set_option maxHeartbeats 4000000
theorem wt_ty {n : Nat} {ds : List D} (h : Wt Tryz.prog n 25 ds) : ∃ z, ds = bH z ∧ True := by
 cases n with
 | zero => exact h.elim
 | succ n =>
  simp only [Wt, Tryz.underlying25] at h
  obtain ⟨z, rfl, _⟩ := h
  exact ⟨z, rfl, trivial⟩
theorem wt_pt {n : Nat} {ds : List D} (h : Wt Tryz.prog n 49 ds) : ∃ z, ds = bH z ∧ True := by
 cases n with
 | zero => exact h.elim
 | succ n =>
  simp only [Wt, Tryz.underlying49] at h
  obtain ⟨z, rfl, _⟩ := h
  exact ⟨z, rfl, trivial⟩
theorem wt_tys {n : Nat} {ds : List D} (h : Wt Tryz.prog n 24 ds) : ∃ l : List Int, ds = [.sl (em bH l)] ∧ l.length < 2 ^ 44 := by
 cases n with
 | zero => exact h.elim
 | succ n =>
  simp only [Wt, Tryz.underlying24] at h
  obtain ⟨es, rfl, hl, he⟩ := h
  obtain ⟨l, rfl, _⟩ := sL (enc := bH) (p := fun _ => True) fun c hc => wt_ty (he c hc)
  refine ⟨l, rfl, ?_⟩
  have hb : Tryz.prog.bytesOf 25 = 8 := by kernel_rfl
  rw [hb, uF] at hl
  unfold reachBytes at hl
  omega
theorem wt_pts {n : Nat} {ds : List D} (h : Wt Tryz.prog n 58 ds) : ∃ l : List Int, ds = [.sl (em bH l)] ∧ l.length < 2 ^ 44 := by
 cases n with
 | zero => exact h.elim
 | succ n =>
  simp only [Wt, Tryz.underlying58] at h
  obtain ⟨es, rfl, hl, he⟩ := h
  obtain ⟨l, rfl, _⟩ := sL (enc := bH) (p := fun _ => True) fun c hc => wt_pt (he c hc)
  refine ⟨l, rfl, ?_⟩
  have hb : Tryz.prog.bytesOf 49 = 8 := by kernel_rfl
  rw [hb, uF] at hl
  unfold reachBytes at hl
  omega
theorem K1 {x : D} (h : Arg Tryz.prog 58 x) : ∃ l : List Int, x = .sl (em bH l) ∧ l.length < 2 ^ 44 := by
 obtain ⟨n, ds, h, k⟩ := h
 simp only [Tryz.underlying58] at k
 obtain ⟨l, rfl, h1⟩ := wt_pts h
 simp only [List.cons.injEq, and_true] at k
 exact ⟨l, k.symm, h1⟩
set_option maxRecDepth 1000000
set_option maxHeartbeats 0
noncomputable def cf18 : Cfg := ⟨Tryz.prog, 21, [0, 1, 2, 3, 4, 5, 6], []⟩
noncomputable def ac18 : AC :=
 (.seq (.reg [JN 2 0, JN 3 1, JI 4 0]) (.seq (.reg [JG 8 0 2, JE 9 1 8, JG 10 1 2, JD 11 1 10, JG 12 2 2, JD 13 1 12, JF 14 7 3, JO 15 (.pc (.f 11) [.t 9, .t 11, .t 13, .t 14]), JC 7 15, JK 16 0 7, JK 17 1 7, JB 5 16, JB 6 17]) (.seq (.ifr [JA 18 6, JO 19 (.bin .neq 52 (.t 18) (JT 0))] (.t 19) (.seq (.reg [JI 4 (-1)]) .ret) .skip) (.seq (.reg [JA 20 5, JB 4 20]) .ret))))
theorem fi18 : FI Tryz.prog 18 cf18 ac18 [.t 4] [0, 1, 2, 3, 4, 5, 6] 21 := FI_of (c := Tryz.f18.body.getD .skip) Tryz.func18 (by kernel_rfl) (by rfl) (by rfl) (by kernel_rfl) (by kernel_rfl) rfl rfl rfl
@[simp] theorem cfP18 : cf18.P = Tryz.prog := (rfl)
noncomputable def cf4 : Cfg := ⟨Tryz.prog, 281, [0, 1, 2, 3, 8, 9, 10, 11, 12, 13, 14, 15, 16, 17, 18, 19, 20, 21, 22, 23, 24, 25, 26, 237], [108]⟩
noncomputable def lb4_0 : AC :=
 .seq (.ifr [JA 67 14, JG 68 1 11, JD 69 1 68, JO 70 (.len false (.t 69)), JO 71 (.bin .lss 3 (.t 67) (.t 70))] (.t 71) .skip (.exit 0)) (.seq (.block 1 (.seq (.reg [JG 74 1 11, JD 75 1 74, JA 76 14, JL 77 3 75 76, JH 78 0 77, JD 79 1 78, JG 80 1 11, JD 81 1 80, JA 82 14, JL 83 3 81 82, JH 84 1 83, JD 85 1 84, JO 86 (.bld [JU, JV, JV] [(0, 1, .t 79), (1, 1, .t 85)]), JP 15 (.al [JU, JV, JV]), JQ (.st 3 (.g 15) (.t 86))]) (.seq (.ifr [JA 87 14, JA 88 3, JO 89 (.len false (.t 88)), JO 90 (.bin .lss 3 (.t 87) (.t 89)), JC 91 90, JS 92 91 (.fa 1 (.g 15)), JS 93 91 (.ld false 1 (.t 92)), JS 94 91 (.mv (.g 3)), JS 95 91 (.mv (.g 14)), JS 96 91 (.ia 1 (.t 94) (.t 95)), JS 97 91 (.ld false 1 (.t 96)), JS 98 91 (.pc (.f 15) [.t 93, .t 97]), JO 99 (.pick (.t 91) (.t 98) JY)] (.t 99) (.reg [JA 100 3, JA 101 14, JL 102 1 100 101, JD 103 1 102, JG 104 2 15, JQ (.st 1 (.t 104) (.t 103))]) .skip) (.reg [JA 105 13, JF 106 3 15, JO 107 (.bsl 3 1 [JU, JV, JV] [(0, 3, .t 106)]), JO 108 (.app 3 32 [JU, JV, JV] (.t 105) (.t 107)), JB 13 108])))) (.reg [JA 72 14, JO 73 (.bin .add 3 (.t 72) (JT 1)), JB 14 73]))
noncomputable def ac4 : AC :=
 (.seq (.reg [JP 8 (.mv JY)]) (.seq (.ifr [JO 27 (.pc (.f 8) []), JO 28 (.un .not (.t 27))] (.t 28) (.seq (.reg [JP 8 (.mv JY)]) .ret) .skip) (.seq (.reg [JA 30 0, JO 31 (.pc (.f 9) [.t 30]), JC 29 31, JK 32 0 29, JK 33 1 29, JP 9 (.al [JW]), JQ (.st 1 (.g 9) (.t 32)), JB 10 33]) (.seq (.ifr [JA 34 10, JO 35 (.un .not (.t 34)), JC 36 35, JR 37 36 (.ld true 1 (.g 9)), JR 38 36 (.pc (.f 13) [.t 37]), JR 39 36 (.fld false 1 0 (.t 38)), JR 40 36 (.bin .neq 52 (.t 39) (JT 0)), JO 41 (.pick (.t 36) JX (.t 40))] (.t 41) (.seq (.reg [JP 8 (.mv JX)]) .ret) .skip) (.seq (.reg [JA 42 2, JG 43 0 9, JD 44 1 43, JO 45 (.len false (.t 44)), JO 46 (.bin .rem 3 (.t 42) (.t 45)), JG 47 0 9, JD 48 1 47, JO 49 (.len false (.t 48)), JO 50 (.bin .add 3 (.t 46) (.t 49)), JG 51 0 9, JD 52 1 51, JO 53 (.len false (.t 52)), JO 54 (.bin .rem 3 (.t 50) (.t 53)), JB 2 54]) (.seq (.reg [JG 55 0 9, JD 56 1 55, JA 57 2, JL 58 11 56 57, JE 59 11 58, JP 11 (.al [JU, JW, JV, JV, JU, JU, JV, .complex .f64 0 0, JW, JV, JV]), JQ (.st 11 (.g 11) (.t 59))]) (.seq (.ifr [JG 60 3 11, JE 61 7 60, JO 62 (.pc (.f 14) [.t 61]), JO 63 (.bin .geq 3 (.t 62) (JT 6))] (.t 63) (.seq (.reg [JP 8 (.mv JX)]) .ret) .skip) (.seq (.reg [JF 64 1 9, JA 65 1, JO 66 (.pc (.f 10) [.t 64, .t 65]), JB 12 66]) (.seq (.reg [JP 13 (.mv (.c (.slice none 0 0)))]) (.seq (.seq (.reg [JI 14 0]) (.block 0 (.loop lb4_0))) (.seq (.reg [JF 109 11 11, JO 110 (.pc (.f 16) [.t 109]), JB 16 110]) (.seq (.ifr [JA 111 16, JO 112 (.pc (.f 17) [.t 111, .c (.string (ByteArray.mk (Array.mk [122, 122])))])] (.t 112) (.seq (.reg [JP 8 (.mv JX)]) .ret) .skip) (.seq (.reg [JF 114 1 9, JA 115 12, JA 116 13, JG 117 3 11, JE 118 7 117, JO 119 (.pc (.f 11) [.t 114, .t 115, .t 116, .t 118]), JC 113 119, JK 120 0 113, JK 121 1 113, JB 17 120, JB 18 121]) (.seq (.reg [JF 122 1 9, JA 123 12, JA 124 13, JO 125 (.bld [JW, JW, JW] [(0, 1, .t 122), (1, 1, .t 123), (2, 1, .t 124)]), JP 19 (.al [JW, JW, JW]), JQ (.st 3 (.g 19) (.t 125))]) (.seq (.reg [JG 126 2 11, JD 127 1 126, JO 128 (.bld [JV, JU, JU, JV, .complex .f64 0 0, JW, JV] [(0, 1, .c (.int .i64 5)), (3, 1, .t 127)]), JP 20 (.al [JV, JU, JU, JV, .complex .f64 0 0, JW, JV]), JQ (.st 7 (.g 20) (.t 128))]) (.seq (.reg [JO 129 (.bld [JV, JU, JU, JV, .complex .f64 0 0, JW, JV] [(0, 1, .c (.int .i64 2))]), JP 21 (.al [JV, JU, JU, JV, .complex .f64 0 0, JW, JV]), JQ (.st 7 (.g 21) (.t 129))]) (.seq (.reg [JO 130 (.bld [JV, JU, JU, JV, .complex .f64 0 0, JW, JV] [(0, 1, .c (.int .i64 5)), (3, 1, .c (.int .i64 2))]), JP 22 (.al [JV, JU, JU, JV, .complex .f64 0 0, JW, JV]), JQ (.st 7 (.g 22) (.t 130))]) (.seq (.reg [JO 131 (.bld [JV, JU, JU, JV, .complex .f64 0 0, JW, JV] [(0, 1, .c (.int .i64 1)), (4, 1, .c (.complex .f64 4607182418800017408 0))]), JP 23 (.al [JV, JU, JU, JV, .complex .f64 0 0, JW, JV]), JQ (.st 7 (.g 23) (.t 131))]) (.seq (.reg [JF 132 7 23, JO 133 (.bld [JV, JU, JU, JV, .complex .f64 0 0, JW, JV] [(0, 1, .c (.int .i64 4))]), JO 134 (.bsl 7 2 [JV, JU, JU, JV, .complex .f64 0 0, JW, JV] [(0, 7, .t 132), (7, 7, .t 133)]), JO 135 (.bld [JV, JU, JU, JV, .complex .f64 0 0, JW, JV] [(0, 1, .c (.int .i64 18)), (5, 1, .t 134)]), JP 24 (.al [JV, JU, JU, JV, .complex .f64 0 0, JW, JV]), JQ (.st 7 (.g 24) (.t 135))]) (.seq (.reg [JI 25 0]) (.seq (.ifr [JA 136 17, JO 137 (.bin .gtr 49 (.t 136) (JT 0))] (.t 137) (.reg [JI 25 1]) .skip) (.seq (.reg [JO 138 (.bld [JV, JU, JU, JV, .complex .f64 0 0, JW, JV] [(0, 1, .c (.int .i64 6)), (1, 1, .c (.string (ByteArray.mk (Array.mk [122, 122]))))]), JP 26 (.al [JV, JU, JU, JV, .complex .f64 0 0, JW, JV]), JQ (.st 7 (.g 26) (.t 138))]) (.seq (.ifr [JA 139 18, JO 140 (.bin .neq 52 (.t 139) (JT 0)), JC 141 140, JR 142 141 (.ld true 3 (.g 19)), JR 143 141 (.ld true 7 (.g 21)), JR 144 141 (.fa 3 (.g 11)), JR 145 141 (.ld true 7 (.t 144)), JR 146 141 (.ld true 7 (.g 20)), JR 147 141 (.bsl 7 3 [JV, JU, JU, JV, .complex .f64 0 0, JW, JV] [(0, 7, .t 143), (7, 7, .t 145), (14, 7, .t 146)]), JR 148 141 (.bld [JV, JU, JU, JV, .complex .f64 0 0, JW, JV] [(0, 1, .c (.int .i64 19)), (5, 1, .t 147)]), JR 149 141 (.pc (.f 18) [.t 142, .t 148]), JR 150 141 (.mv (.g 17)), JR 151 141 (.bin .neq 49 (.t 149) (.t 150)), JO 152 (.pick (.t 141) JX (.t 151)), JC 153 152, JR 154 153 (.ld true 3 (.g 19)), JR 155 153 (.ld true 7 (.g 22)), JR 156 153 (.fa 3 (.g 11)), JR 157 153 (.ld true 7 (.t 156)), JR 158 153 (.fa 3 (.g 11)), JR 159 153 (.ld true 7 (.t 158)), JR 160 153 (.bsl 7 3 [JV, JU, JU, JV, .complex .f64 0 0, JW, JV] [(0, 7, .t 155), (7, 7, .t 157), (14, 7, .t 159)]), JR 161 153 (.bld [JV, JU, JU, JV, .complex .f64 0 0, JW, JV] [(0, 1, .c (.int .i64 19)), (5, 1, .t 160)]), JR 162 153 (.pc (.f 18) [.t 154, .t 161]), JR 163 153 (.bin .neq 49 (.t 162) (JT 0)), JO 164 (.pick (.t 153) JX (.t 163)), JC 165 164, JR 166 165 (.ld true 3 (.g 19)), JR 167 165 (.fa 2 (.g 11)), JR 168 165 (.ld false 1 (.t 167)), JR 169 165 (.fa 3 (.g 11)), JR 170 165 (.ld true 7 (.t 169)), JR 171 165 (.ld true 7 (.g 26)), JR 172 165 (.bsl 7 2 [JV, JU, JU, JV, .complex .f64 0 0, JW, JV] [(0, 7, .t 170), (7, 7, .t 171)]), JR 173 165 (.bld [JV, JU, JU, JV, .complex .f64 0 0, JW, JV] [(0, 1, .c (.int .i64 21)), (1, 1, .c (.string (ByteArray.mk (Array.mk [122, 122])))), (3, 1, .t 168), (5, 1, .t 172)]), JR 174 165 (.pc (.f 18) [.t 166, .t 173]), JR 175 165 (.mv (.g 17)), JR 176 165 (.bin .neq 49 (.t 174) (.t 175)), JO 177 (.pick (.t 165) JX (.t 176))] (.t 177) (.seq (.reg [JP 8 (.mv JY)]) .ret) .skip) (.seq (.ifr [JF 178 3 19, JG 179 2 11, JD 180 1 179, JG 181 3 11, JE 182 7 181, JF 183 7 23, JO 184 (.bsl 7 2 [JV, JU, JU, JV, .complex .f64 0 0, JW, JV] [(0, 7, .t 182), (7, 7, .t 183)]), JO 185 (.bld [JV, JU, JU, JV, .complex .f64 0 0, JW, JV] [(0, 1, .c (.int .i64 22)), (1, 1, .c (.string (ByteArray.mk (Array.mk [122, 122])))), (3, 1, .t 180), (5, 1, .t 184)]), JO 186 (.pc (.f 18) [.t 178, .t 185]), JA 187 25, JO 188 (.bin .neq 49 (.t 186) (.t 187)), JC 189 188, JR 190 189 (.ld true 3 (.g 19)), JR 191 189 (.fa 2 (.g 11)), JR 192 189 (.ld false 1 (.t 191)), JR 193 189 (.ld true 7 (.g 20)), JR 194 189 (.fa 3 (.g 11)), JR 195 189 (.ld true 7 (.t 194)), JR 196 189 (.bsl 7 2 [JV, JU, JU, JV, .complex .f64 0 0, JW, JV] [(0, 7, .t 193), (7, 7, .t 195)]), JR 197 189 (.bld [JV, JU, JU, JV, .complex .f64 0 0, JW, JV] [(0, 1, .c (.int .i64 21)), (1, 1, .c (.string (ByteArray.mk (Array.mk [122, 122])))), (3, 1, .t 192), (5, 1, .t 196)]), JR 198 189 (.pc (.f 18) [.t 190, .t 197]), JR 199 189 (.mv (.g 17)), JR 200 189 (.bin .neq 49 (.t 198) (.t 199)), JO 201 (.pick (.t 189) JX (.t 200)), JC 202 201, JR 203 202 (.ld true 3 (.g 19)), JR 204 202 (.fa 2 (.g 11)), JR 205 202 (.ld false 1 (.t 204)), JR 206 202 (.ld true 7 (.g 20)), JR 207 202 (.fa 3 (.g 11)), JR 208 202 (.ld true 7 (.t 207)), JR 209 202 (.bsl 7 2 [JV, JU, JU, JV, .complex .f64 0 0, JW, JV] [(0, 7, .t 206), (7, 7, .t 208)]), JR 210 202 (.bld [JV, JU, JU, JV, .complex .f64 0 0, JW, JV] [(0, 1, .c (.int .i64 22)), (1, 1, .c (.string (ByteArray.mk (Array.mk [122, 122])))), (3, 1, .t 205), (5, 1, .t 209)]), JR 211 202 (.pc (.f 18) [.t 203, .t 210]), JR 212 202 (.bin .neq 49 (.t 211) (JT 0)), JO 213 (.pick (.t 202) JX (.t 212))] (.t 213) (.seq (.reg [JP 8 (.mv JY)]) .ret) .skip) (.seq (.ifr [JF 214 3 19, JF 215 7 24, JF 216 7 20, JG 217 3 11, JE 218 7 217, JO 219 (.bsl 7 3 [JV, JU, JU, JV, .complex .f64 0 0, JW, JV] [(0, 7, .t 215), (7, 7, .t 216), (14, 7, .t 218)]), JO 220 (.bld [JV, JU, JU, JV, .complex .f64 0 0, JW, JV] [(0, 1, .c (.int .i64 20)), (1, 1, .c (.string (ByteArray.mk (Array.mk [122, 122])))), (2, 1, .c (.string (ByteArray.mk (Array.mk [122, 122])))), (5, 1, .t 219)]), JO 221 (.pc (.f 18) [.t 214, .t 220]), JA 222 17, JO 223 (.bin .neq 49 (.t 221) (.t 222)), JC 224 223, JR 225 224 (.ld true 3 (.g 19)), JR 226 224 (.bld [JV, JU, JU, JV, .complex .f64 0 0, JW, JV] [(0, 1, .c (.int .i64 4))]), JR 227 224 (.fa 3 (.g 11)), JR 228 224 (.ld true 7 (.t 227)), JR 229 224 (.ld true 7 (.g 20)), JR 230 224 (.bsl 7 3 [JV, JU, JU, JV, .complex .f64 0 0, JW, JV] [(0, 7, .t 226), (7, 7, .t 228), (14, 7, .t 229)]), JR 231 224 (.bld [JV, JU, JU, JV, .complex .f64 0 0, JW, JV] [(0, 1, .c (.int .i64 20)), (1, 1, .c (.string (ByteArray.mk (Array.mk [122, 122])))), (2, 1, .c (.string (ByteArray.mk (Array.mk [122, 122])))), (5, 1, .t 230)]), JR 232 224 (.pc (.f 18) [.t 225, .t 231]), JR 233 224 (.mv (.g 17)), JR 234 224 (.bin .neq 49 (.t 232) (.t 233)), JO 235 (.pick (.t 224) JX (.t 234))] (.t 235) (.seq (.reg [JP 8 (.mv JY)]) .ret) .skip) (.seq (.seq (.reg [JG 236 2 11, JP 237 (.ld false 1 (.t 236))]) (.block 2 (.ifr [JO 239 (.bin .eql 25 (.g 237) (JT 1)), JC 238 239] (.t 238) (.seq (.reg [JF 240 3 19, JF 241 7 23, JG 242 3 11, JE 243 7 242, JO 244 (.bsl 7 2 [JV, JU, JU, JV, .complex .f64 0 0, JW, JV] [(0, 7, .t 241), (7, 7, .t 243)]), JO 245 (.bld [JV, JU, JU, JV, .complex .f64 0 0, JW, JV] [(0, 1, .c (.int .i64 10)), (5, 1, .t 244)]), JO 246 (.pc (.f 18) [.t 240, .t 245]), JA 247 17, JO 248 (.bin .eql 49 (.t 246) (.t 247)), JC 249 248, JS 250 249 (.ld true 3 (.g 19)), JS 251 249 (.fa 3 (.g 11)), JS 252 249 (.ld true 7 (.t 251)), JS 253 249 (.bld [JV, JU, JU, JV, .complex .f64 0 0, JW, JV] [(0, 1, .c (.int .i64 4))]), JS 254 249 (.bsl 7 2 [JV, JU, JU, JV, .complex .f64 0 0, JW, JV] [(0, 7, .t 252), (7, 7, .t 253)]), JS 255 249 (.bld [JV, JU, JU, JV, .complex .f64 0 0, JW, JV] [(0, 1, .c (.int .i64 18)), (5, 1, .t 254)]), JS 256 249 (.pc (.f 18) [.t 250, .t 255]), JS 257 249 (.mv (.g 17)), JS 258 249 (.bin .add 49 (JT 2) (.t 257)), JS 259 249 (.bin .eql 49 (.t 256) (.t 258)), JO 260 (.pick (.t 249) (.t 259) JY), JB 8 260]) .ret) (.ifr [JO 262 (.bin .eql 25 (.g 237) (JT 3)), JC 261 262] (.t 261) (.seq (.reg [JF 263 3 19, JF 264 7 23, JG 265 3 11, JE 266 7 265, JO 267 (.bsl 7 2 [JV, JU, JU, JV, .complex .f64 0 0, JW, JV] [(0, 7, .t 264), (7, 7, .t 266)]), JO 268 (.bld [JV, JU, JU, JV, .complex .f64 0 0, JW, JV] [(0, 1, .c (.int .i64 18)), (5, 1, .t 267)]), JO 269 (.pc (.f 18) [.t 263, .t 268]), JA 270 17, JO 271 (.bi .max [.c (.int .i64 1), .t 270]), JO 272 (.bin .eql 49 (.t 269) (.t 271)), JB 8 272]) .ret) .skip)))) (.seq (.reg [JF 273 3 19, JG 274 3 11, JE 275 7 274, JO 276 (.bsl 7 1 [JV, JU, JU, JV, .complex .f64 0 0, JW, JV] [(0, 7, .t 275)]), JO 277 (.bld [JV, JU, JU, JV, .complex .f64 0 0, JW, JV] [(0, 1, .c (.int .i64 14)), (5, 1, .t 276)]), JO 278 (.pc (.f 18) [.t 273, .t 277]), JA 279 17, JO 280 (.bin .eql 49 (.t 278) (.t 279)), JB 8 280]) .ret)))))))))))))))))))))))))))
theorem fi4 : FI Tryz.prog 4 cf4 ac4 [.t 8] [0, 1, 2, 3, 8, 9, 10, 11, 12, 13, 14, 15, 16, 17, 18, 19, 20, 21, 22, 23, 24, 25, 26, 237] 281 := FI_of (c := Tryz.f4.body.getD .skip) Tryz.func4 (by kernel_rfl) (by rfl) (by rfl) (by kernel_rfl) (by kernel_rfl) rfl rfl rfl
@[simp] theorem cfP4 : cf4.P = Tryz.prog := (rfl)
set_option maxRecDepth 100000
set_option maxHeartbeats 8000000
theorem z_ {P : List Fn} {T : List Tt} {l : List Pm} {E : Ex} {t p : Int} (hok : SeeOk P T) (hl : ∀ b ∈ l, ck b.type b.at' = 0) (h : i9 P (aZ P T) (cJ l) (nmB l) E t p) : o_ P T l E = (p, 0) := by
 have ho := (GJ (P := P) (env := cJ l) h.sh h.ty).2 h.want
 unfold o_
 rw [if_pos ⟨hok, hl, by rw [ho]⟩, if_neg (by have := h.nest; omega), h.pt]
theorem ask_c {P : List Fn} {T : List Tt} (hk : dT P) (hT : T.length < 2 ^ 44) (hw : TW T) (l : List Pm) (hl : l.length ≤ 2 ^ 42 + 2 ^ 39) (hok : SeeOk P T) (hc : ∀ b ∈ l, ck b.type b.at' = 0) {E : Ex} {t p : Int} (h : i9 P (aZ P T) (cJ l) (nmB l) E t p) (hz : size E ≤ 2 ^ 38) :
  Pure Tryz.prog 18 [.agg [.sl (em aY P), .sl (em fQ T), .sl (em bG l)], .agg (aQ E)] (I p) := by
 have hE := BL hk hT hw l hl E h.sh hz
 rw [z_ hok hc h] at hE
 refine fi18.pu (by simp) ?_
 simp only [aA] at hE ⊢
 simp -implicitDefEqProofs [ac18]
 refine aG hE (by simp) ?_
 simp -implicitDefEqProofs
def qV (pts : List Int) (t : Int) (k : Nat) : Int := if k < pts.length ∧ 0 ≤ pts[k]?.getD 0 ∧ pts[k]?.getD 0 ≤ tp t then pts[k]?.getD 0 else 0
def nms (ps : List Pm) (pts : List Int) : List Pm := (List.range ps.length).map fun k => ⟨(ps[k]?.getD default).name, (ps[k]?.getD default).type, qV pts (ps[k]?.getD default).type k⟩
theorem MD {pts : List Int} {t : Int} {k : Nat} (ht : a_ t) : ck t (qV pts t k) = 0 := by
 unfold qV
 split
 ·rename_i h; exact z8.2 ⟨ht, h.2⟩
 ·have := nW ht
  exact z8.2 ⟨ht, by unfold Pin; omega⟩
theorem nms_ok {ps : List Pm} {pts : List Int} (h : ∀ p ∈ ps, a_ p.type) : ∀ b ∈ nms ps pts, ck b.type b.at' = 0 := by
 intro b hb
 unfold nms at hb
 obtain ⟨k, hk, rfl⟩ := List.mem_map.1 hb
 have hk2 : k < ps.length := by simpa using hk
 rw [List.getElem?_eq_getElem hk2]
 exact MD (t := ps[k].type) (h _ (List.getElem_mem hk2))
theorem CG (ps : List Pm) (pts : List Int) : (nms ps pts).length = ps.length := by simp [nms]
theorem II : ∀ (a b : List Pm), a.map (fun x => (x.name, x.type)) = b.map (fun x => (x.name, x.type)) → ∀ n, eQ a n = eQ b n := by
 have key : ∀ (a b : List Pm), a.map (fun x => (x.name, x.type)) = b.map (fun x => (x.name, x.type)) → ∀ n, eU a n = eU b n := by
  intro a
  induction a with
  | nil =>
   intro b h n
   cases b with
   | nil => rfl
   | cons y b => simp at h
  | cons x a ih =>
   intro b h n
   cases b with
   | nil => simp at h
   | cons y b =>
    simp only [List.map_cons, List.cons.injEq, Prod.mk.injEq] at h
    unfold eU
    rw [h.1.1, h.1.2, ih b h.2 n]
 intro a b h n
 unfold eQ
 exact key _ _ (by rw [List.map_reverse, List.map_reverse, h]) n
theorem M4 (ps : List Pm) (pts : List Int) : ∀ n, eQ (cJ (nms ps pts)) n = eQ ps n := by
 refine II _ _ (List.ext_getElem (by simp [CG]) fun k h1 h2 => ?_)
 have hk : k < ps.length := by simpa using h2
 simp [cJ, nms, hk]
mutual
theorem AH {z : List UInt8} (hz : z ≠ []) : ∀ e : Ex, z ∉ bD e → noN z e
 | .mk op n tl ty c args p, h => by
  unfold bD at h
  unfold noN
  simp only [List.mem_append, not_or] at h
  refine ⟨fun e => ?_, CU hz args h.2⟩
  have h1 := h.1.1
  rw [e, if_neg hz] at h1
  simp at h1
theorem CU {z : List UInt8} (hz : z ≠ []) : ∀ l : List Ex, z ∉ bZ l → pI z l
 | [], _ => by unfold pI; trivial
 | x :: xs, h => by
  unfold bZ at h
  simp only [List.mem_append, not_or] at h
  unfold pI
  exact ⟨AH hz x h.1, CU hz xs h.2⟩
end
theorem law_AbsTurns : ∀ xs, Args Tryz.prog Tryz.f4.params.toList xs → Pure Tryz.prog 4 xs (B true) := by
 intro xs h
 rw [Tryz.params4] at h
 simp only [Args] at h
 obtain ⟨x, r, rfl, hx, y, r2, rfl, hy, z, r3, rfl, hz, u, r4, rfl, hu, rfl⟩ := h
 obtain ⟨t, rfl, ht⟩ := wN hx
 obtain ⟨s, rfl, hs⟩ := wN hy
 obtain ⟨i, rfl, hi64⟩ := MF hz
 obtain ⟨pts, rfl, hpts⟩ := K1 hu
 obtain ⟨L, w, p, hr⟩ := M5 t ht
 have hc := zV hr
 refine fi4.pu (by simp) ?_
 by_cases hsm : mW t L w
 ·rw [show jF t L w = true by simp [jF, hsm]] at hc
  have hk := hr.2.1 hsm.1
  have hS := I_ hsm
  obtain ⟨hPT, hPl, hsz⟩ := jT hk
  have htc := IE (y8 hk).2 hPl hsz
  rw [← I4 hk] at htc
  simp -implicitDefEqProofs [ac4]
  refine aG (wT) (by simp) ?_
  simp -implicitDefEqProofs
  refine aG hc (by simp) ?_
  simp -implicitDefEqProofs
  refine aG htc (by simp) ?_
  by_cases h0 : (gW L).1 = 0
  ·have hpos : 0 < L.length := by
    obtain ⟨_, _, _, _, _, _, _, _, hne⟩ := hk
    cases L with
    | nil => exact absurd rfl hne
    | cons a b => simp
   have hL40 := hS.1
   have hn0 : ¬ (L.length : Int) = 0 := by omega
   have hb1 : -(L.length : Int) < i.tmod L.length ∧ i.tmod L.length < L.length := ⟨Int.lt_tmod_of_pos i (by omega), Int.tmod_lt_of_pos i (by omega)⟩
   have w1 := aS (x := i.tmod L.length + L.length) (by omega) (by omega)
   obtain ⟨c, hcc⟩ : ∃ c : Nat, (i.tmod L.length + L.length).tmod L.length = c := ⟨((i.tmod L.length + L.length).tmod L.length).toNat, by
    have := Int.tmod_nonneg (a := i.tmod L.length + L.length) (L.length : Int) (by omega)
    omega⟩
   have hcl : c < L.length := by
    have := Int.tmod_lt_of_pos (i.tmod L.length + L.length) (show (0 : Int) < L.length by omega)
    omega
   have hcli : (c : Int) < (L.length : Int) := by omega
   obtain ⟨f, hf⟩ : ∃ f, L[c] = f := ⟨_, rfl⟩
   have hfm : f ∈ L := by rw [← hf]; exact List.getElem_mem hcl
   obtain ⟨g1, g2, g3⟩ := hsz f hfm
   have hne := (AX f.body (by omega)).2
   have hLne : ¬ L = [] := fun e => by rw [e] at hpos; simp at hpos
   simp -implicitDefEqProofs [h0, hn0, hLne, w1, hcc, hcli, hcl, hf]
   refine aG hne (by simp) ?_
   by_cases h6 : 6 ≤ bI f.body
   ·have h6i : (6 : Int) ≤ (bI f.body : Int) := by omega
    simp -implicitDefEqProofs [h6i]
   ·have h6i : ¬ (6 : Int) ≤ (bI f.body : Int) := by omega
    have hTb := BB hk hS s hs
    simp -implicitDefEqProofs [h6i]
    refine aG hTb (by simp) ?_
    simp -implicitDefEqProofs
    have htw := CP hk hS s
    have htl : (dK L s 0).length < 2 ^ 44 := by rw [nB]; omega
    have hok := zP hk hS s h0
    generalize dK L s 0 = T at *
    have hck := nms_ok (ps := f.params) (pts := pts) (fun p hp => (hPT f hfm).2 p hp)
    have hnl := CG f.params pts
    have hng : ∀ k (h : k < f.params.length), (nms f.params pts)[k]? = some ⟨f.params[k].name, f.params[k].type, qV pts f.params[k].type k⟩ := fun k h => by
     unfold nms
     rw [List.getElem?_map, List.getElem?_range h]
     simp only [Option.map_some]
     rw [List.getElem?_eq_getElem h]; rfl
    have henv := M4 f.params pts
    generalize nms f.params pts = nl at *
    refine cW (j := 13) (k := 3) rfl (.inl rfl) ?_
    refine jD ?_
    refine lpG cf4 lb4_0 [13, 14, 15] (α := Nat × Nat × List Pm) (fun z _ => [(13, .osl 50 z.2.1 0 z.2.2.length), (14, I z.1)]) (fun z _ => [(50, .arr z.2.1 3 (em bG z.2.2)), (38, .box [Tx f.name, .sl (em bG f.params), I f.type, I f.body.op, Tx f.body.name, Tx f.body.tail, I f.body.type, CX f.body.num.re f.body.num.im, .sl (em aQ f.body.args), I f.body.at', I f.at']), (8, .box [.sl (em aY L)])]) (fun z k => 50 < k ∧ z.1 ≤ f.params.length ∧ z.2.2 = nl.take z.1) (fun z => f.params.length - z.1) (0, 0, []) ⟨by omega, by omega, by simp⟩ (by simp [upd]) (by simp) ?_
    rintro ⟨k, v, l⟩ n1 ⟨hn1, hk1, hl⟩
    simp only at hn1 hk1 hl
    have hll : l.length = k := by rw [hl, List.length_take]; omega
    by_cases hkp : k < f.params.length
    ·have hkpi : (k : Int) < (f.params.length : Int) := by omega
     have w2 := aS (x := (k : Int) + 1) (by omega) (by omega)
     have b1 : (l.length + 1) * 32 ≤ 3 * 2 ^ 46 := by omega
     have hg := hng k hkp
     obtain ⟨x, hx⟩ : ∃ x, f.params[k] = x := ⟨_, rfl⟩
     rw [hx] at hg
     have hnext : l ++ [⟨x.name, x.type, qV pts x.type k⟩] = nl.take (k + 1) := by rw [List.take_add_one, hg, ← hl]; rfl
     have y1 : (n1 = 32) = False := eq_false (by omega)
     have y2 : (n1 = 20) = False := eq_false (by omega)
     have hap : ∀ q : Int, em bG l ++ [[Tx x.name, I x.type, I q]] = em bG (l ++ [⟨x.name, x.type, q⟩]) := fun q => o4 l ⟨x.name, x.type, q⟩
     by_cases hkt : k < pts.length
     ·have hkti : (k : Int) < (pts.length : Int) := by omega
      obtain ⟨a, ha⟩ : ∃ a, pts[k] = a := ⟨_, rfl⟩
      have hpa : qV pts x.type k = if 0 ≤ a ∧ a ≤ tp x.type then a else 0 := by
       unfold qV
       rw [List.getElem?_eq_getElem hkt, ha]
       simp [hkt]
      simp -implicitDefEqProofs [lb4_0, hkpi, hkp, hx, hkti, hkt, ha]
      refine aG (Is_c x.type a) (by simp) ?_
      by_cases his : 0 ≤ a ∧ a ≤ tp x.type
      ·rw [if_pos his] at hpa
       rw [hpa] at hnext
       simp -implicitDefEqProofs [his.1, his.2, hkti, hkt, ha, y1, y2, b1, hap, w2]
       exact aI (k + 1, v + 1, l ++ [⟨x.name, x.type, a⟩]) ⟨by omega, hkp, hnext⟩ (by simp only; omega) (by simp) (aN (aK _) (by rw [a8, if_neg (by omega), a8, if_neg (by omega), a8, if_neg (by omega)]; rfl))
      ·rw [if_neg his] at hpa
       rw [hpa] at hnext
       have hd : decide (0 ≤ a ∧ a ≤ tp x.type) = false := decide_eq_false his
       rw [hd]
       simp -implicitDefEqProofs [y1, y2, b1, hap, w2]
       exact aI (k + 1, v + 1, l ++ [⟨x.name, x.type, 0⟩]) ⟨by omega, hkp, hnext⟩ (by simp only; omega) (by simp) (aN (aK _) (by rw [a8, if_neg (by omega), a8, if_neg (by omega), a8, if_neg (by omega)]; rfl))
     ·have hkti : ¬ (k : Int) < (pts.length : Int) := by omega
      have hpa : qV pts x.type k = 0 := by unfold qV; rw [if_neg (fun g => hkt g.1)]
      rw [hpa] at hnext
      simp -implicitDefEqProofs [lb4_0, hkpi, hkp, hx, hkti, hkt, y1, y2, b1, hap, w2]
      exact aI (k + 1, v + 1, l ++ [⟨x.name, x.type, 0⟩]) ⟨by omega, hkp, hnext⟩ (by simp only; omega) (by simp) (aN (aK _) (by rw [a8, if_neg (by omega), a8, if_neg (by omega), a8, if_neg (by omega)]; rfl))
    ·have hkf : k = f.params.length := by omega
     subst hkf
     have hlf : l = nl := by rw [hl, ← hnl, List.take_length]
     subst hlf
     simp -implicitDefEqProofs [lb4_0]
     refine mH (j := 13) (d := .osl 50 v 0 l.length) (d' := .sl (em bG l)) [(50, .arr v 3 (em bG l))] [(38, .box [Tx f.name, .sl (em bG f.params), I f.type, I f.body.op, Tx f.body.name, Tx f.body.tail, I f.body.type, CX f.body.num.re f.body.num.im, .sl (em aQ f.body.args), I f.body.at', I f.at']), (8, .box [.sl (em aY L)])] rfl (by simp [frz, look, List.take_of_length_le]) (lL (iO _)) (aE (aF _) rfl) (fun j => by
      by_cases e : 50 = j
      ·subst e; right; rfl
      ·left; rw [a8, if_neg e]; rfl) ?_
     simp -implicitDefEqProofs [upd]
     refine aG (LB f g1 g2) (by simp) ?_
     simp -implicitDefEqProofs
     have hal : (fJ (p_ f) []).length < 2 ^ 40 := by
      have h1 := zH (p_ f) []
      have h2 := lO f.body
      unfold p_ at h1
      simp only [List.length_append, List.length_cons, List.length_map, List.length_nil] at h1
      unfold p_
      omega
     refine aG (yK (fJ (p_ f) []) dZ hal) (by simp) ?_
     by_cases hz : dR (fJ (p_ f) []) dZ = true
     ·simp -implicitDefEqProofs [hz]
     ·simp -implicitDefEqProofs [hz]
      have hnw : dZ ∉ bD f.body := fun g => hz ((tY _ _).2 ((AY dZ _ _).2 (.inl (by unfold p_; exact List.mem_append_right _ g))))
      have hwl : a7 L (cJ l) f.body f.type = [] := by
       rw [nY f.body (cJ l) f.params f.type (AH (by decide) _ hnw) (fun n _ => henv n)]
       exact (pL h0).2 f hfm
      have hty := (hPT f hfm).1
      have hV := AS (hok.tabs htw)
      obtain ⟨own, ho⟩ : ∃ q, ptF (aZ L T) f.body (nmB l) = q := ⟨_, rfl⟩
      have b : Body17 L (aZ L T) (cJ l) (nmB l) f.body f.type own := ⟨g3, hty, hwl, by omega, ho, by rw [← ho]; exact D_ hPT hV f.body g3 hty hwl (EnvR.binds l hck), AH (by decide) _ hnw⟩
      have hpin := b.pin
      have hll2 : l.length ≤ 2 ^ 42 + 2 ^ 39 := by omega
      have hE := BL hk htl htw l hll2 f.body g3 (by omega)
      rw [z_ hok hck (⟨g3, hty, hwl, by omega, ho⟩ : i9 L (aZ L T) (cJ l) (nmB l) f.body f.type own)] at hE
      have ask := fun (E : Ex) (t p : Int) (h : i9 L (aZ L T) (cJ l) (nmB l) E t p) (hz : size E ≤ 2 ^ 38) => ask_c hk htl htw l hll2 hok hck h hz
      have hs21 := ((kD hk).2 f hfm).1
      have A1 := ask _ _ _ (B8 b).1 (by simp [size, aV, ifX, tT, dL]; omega)
      have A2 := ask _ _ _ (B8 b).2 (by simp [size, aV, ifX, noX]; omega)
      have A3 := ask _ _ _ (z9 b).1 (by simp [size, aV, kX, zzX]; omega)
      have A4 := ask _ _ _ (z9 b).2 (by simp [size, aV, kX, dL]; omega)
      have A5 := ask _ _ _ (AR b).1 (by simp [size, aV, lH, dG]; omega)
      have A6 := ask _ _ _ (AR b).2 (by simp [size, aV, lH, dL]; omega)
      have A7 := ask _ _ _ (BK b).1 (by simp [size, aV, kW, oG, dG, eO, dL]; omega)
      have A8 := ask _ _ _ (BK b).2 (by simp [size, aV, kW, eO, dL]; omega)
      simp only [aA] at hE
      refine aG hE (by simp) ?_
      have hex : ∀ (op : Int) (n tl : List UInt8) (ty : Int) (z : Cx) (args : List Ex) (p : Int), aQ (.mk op n tl ty z args p) = [I op, Tx n, Tx tl, I ty, CX z.re z.im, .sl (em aQ args), I p] := fun op n tl ty z args p => by rw [aA]; rfl
      have heb : aQ f.body = [I f.body.op, Tx f.body.name, Tx f.body.tail, I f.body.type, CX f.body.num.re f.body.num.im, .sl (em aQ f.body.args), I f.body.at'] := aA f.body
      have hem : ∀ l : List Ex, em aQ l = l.map aQ := fun l => rfl
      simp only [ifX, kX, lH, kW, tT, noX, dG, eO, zzX, dL, oG, hex, hem, List.map, heb] at A1 A2 A3 A4 A5 A6 A7 A8
      have hnx : ∀ m : Nat, m ≤ 50 → (n1 = m) = False := fun m hm => eq_false (by omega)
      by_cases ho0 : 0 < own
      ·rw [if_pos ho0] at A5
       simp -implicitDefEqProofs [hnx, Nat.add_assoc, ho0]
       refine aG (bS (by repeat (first | exact cE | exact cZ | exact bT | exact rLe2.nil | exact rLc.nil | exact rLe.refl | exact rLc.refl | exact rLe2.refl | apply bN | apply cH | apply cF | apply cX | apply rLe2.cons | apply rLc.cons)) A1) (by simp) ?_
       simp -implicitDefEqProofs [hnx, Nat.add_assoc, ho0]
       refine aG (bS (by repeat (first | exact cE | exact cZ | exact bT | exact rLe2.nil | exact rLc.nil | exact rLe.refl | exact rLc.refl | exact rLe2.refl | apply bN | apply cH | apply cF | apply cX | apply rLe2.cons | apply rLc.cons)) A2) (by simp) ?_
       simp -implicitDefEqProofs [hnx, Nat.add_assoc, ho0]
       refine aG (bS (by repeat (first | exact cE | exact cZ | exact bT | exact rLe2.nil | exact rLc.nil | exact rLe.refl | exact rLc.refl | exact rLe2.refl | apply bN | apply cH | apply cF | apply cX | apply rLe2.cons | apply rLc.cons)) A3) (by simp) ?_
       simp -implicitDefEqProofs [hnx, Nat.add_assoc, ho0]
       refine aG (bS (by repeat (first | exact cE | exact cZ | exact bT | exact rLe2.nil | exact rLc.nil | exact rLe.refl | exact rLc.refl | exact rLe2.refl | apply bN | apply cH | apply cF | apply cX | apply rLe2.cons | apply rLc.cons)) A5) (by simp) ?_
       simp -implicitDefEqProofs [hnx, Nat.add_assoc, ho0]
       refine aG (bS (by repeat (first | exact cE | exact cZ | exact bT | exact rLe2.nil | exact rLc.nil | exact rLe.refl | exact rLc.refl | exact rLe2.refl | apply bN | apply cH | apply cF | apply cX | apply rLe2.cons | apply rLc.cons)) A4) (by simp) ?_
       simp -implicitDefEqProofs [hnx, Nat.add_assoc, ho0]
       refine aG (bS (by repeat (first | exact cE | exact cZ | exact bT | exact rLe2.nil | exact rLc.nil | exact rLe.refl | exact rLc.refl | exact rLe2.refl | apply bN | apply cH | apply cF | apply cX | apply rLe2.cons | apply rLc.cons)) A6) (by simp) ?_
       simp -implicitDefEqProofs [hnx, Nat.add_assoc, ho0]
       refine aG (bS (by repeat (first | exact cE | exact cZ | exact bT | exact rLe2.nil | exact rLc.nil | exact rLe.refl | exact rLc.refl | exact rLe2.refl | apply bN | apply cH | apply cF | apply cX | apply rLe2.cons | apply rLc.cons)) A7) (by simp) ?_
       simp -implicitDefEqProofs [hnx, Nat.add_assoc, ho0]
       refine aG (bS (by repeat (first | exact cE | exact cZ | exact bT | exact rLe2.nil | exact rLc.nil | exact rLe.refl | exact rLc.refl | exact rLe2.refl | apply bN | apply cH | apply cF | apply cX | apply rLe2.cons | apply rLc.cons)) A8) (by simp) ?_
       simp -implicitDefEqProofs [hnx, Nat.add_assoc, ho0]
       rcases hty with hu | hu | hu
       ·rw [hu] at b hpin
        have A9 := ask _ _ _ (uD b).1 (by simp [size, aV, kM, dG]; omega)
        have A10 := ask _ _ _ (uD b).2 (by simp [size, aV, gE, eO]; omega)
        simp only [kM, gE, lG, dG, eO, hex, hem, List.map, heb] at A9 A10
        have w9 := aS (x := 2 + own) (by unfold Pin at hpin; omega) (by unfold Pin at hpin; rw [tp_1] at hpin; omega)
        simp -implicitDefEqProofs [hnx, Nat.add_assoc, ho0, hu]
        refine aG (bS (by repeat (first | exact cE | exact cZ | exact bT | exact rLe2.nil | exact rLc.nil | exact rLe.refl | exact rLc.refl | exact rLe2.refl | apply bN | apply cH | apply cF | apply cX | apply rLe2.cons | apply rLc.cons)) A9) (by simp) ?_
        simp -implicitDefEqProofs [hnx, Nat.add_assoc, ho0, hu]
        refine aG (bS (by repeat (first | exact cE | exact cZ | exact bT | exact rLe2.nil | exact rLc.nil | exact rLe.refl | exact rLc.refl | exact rLe2.refl | apply bN | apply cH | apply cF | apply cX | apply rLe2.cons | apply rLc.cons)) A10) (by simp) ?_
        simp -implicitDefEqProofs [hnx, Nat.add_assoc, ho0, hu, w9]
       ·rw [hu] at b
        have A9 := ask _ _ _ (FT b) (by simp [size, aV, lG]; omega)
        simp only [kM, gE, lG, dG, eO, hex, hem, List.map, heb] at A9
        simp -implicitDefEqProofs [hnx, Nat.add_assoc, ho0, hu]
        refine aG (bS (by repeat (first | exact cE | exact cZ | exact bT | exact rLe2.nil | exact rLc.nil | exact rLe.refl | exact rLc.refl | exact rLe2.refl | apply bN | apply cH | apply cF | apply cX | apply rLe2.cons | apply rLc.cons)) A9) (by simp) ?_
        simp -implicitDefEqProofs [hnx, Nat.add_assoc, ho0, hu]
       ·rw [hu] at b
        have A9 := ask _ _ _ (EX b) (by simp [size, aV, gE, dG]; omega)
        simp only [kM, gE, lG, dG, eO, hex, hem, List.map, heb] at A9
        simp -implicitDefEqProofs [hnx, Nat.add_assoc, ho0, hu]
        refine aG (bS (by repeat (first | exact cE | exact cZ | exact bT | exact rLe2.nil | exact rLc.nil | exact rLe.refl | exact rLc.refl | exact rLe2.refl | apply bN | apply cH | apply cF | apply cX | apply rLe2.cons | apply rLc.cons)) A9) (by simp) ?_
        simp -implicitDefEqProofs [hnx, Nat.add_assoc, ho0, hu]
      ·rw [if_neg ho0] at A5
       simp -implicitDefEqProofs [hnx, Nat.add_assoc, ho0]
       refine aG (bS (by repeat (first | exact cE | exact cZ | exact bT | exact rLe2.nil | exact rLc.nil | exact rLe.refl | exact rLc.refl | exact rLe2.refl | apply bN | apply cH | apply cF | apply cX | apply rLe2.cons | apply rLc.cons)) A1) (by simp) ?_
       simp -implicitDefEqProofs [hnx, Nat.add_assoc, ho0]
       refine aG (bS (by repeat (first | exact cE | exact cZ | exact bT | exact rLe2.nil | exact rLc.nil | exact rLe.refl | exact rLc.refl | exact rLe2.refl | apply bN | apply cH | apply cF | apply cX | apply rLe2.cons | apply rLc.cons)) A2) (by simp) ?_
       simp -implicitDefEqProofs [hnx, Nat.add_assoc, ho0]
       refine aG (bS (by repeat (first | exact cE | exact cZ | exact bT | exact rLe2.nil | exact rLc.nil | exact rLe.refl | exact rLc.refl | exact rLe2.refl | apply bN | apply cH | apply cF | apply cX | apply rLe2.cons | apply rLc.cons)) A3) (by simp) ?_
       simp -implicitDefEqProofs [hnx, Nat.add_assoc, ho0]
       refine aG (bS (by repeat (first | exact cE | exact cZ | exact bT | exact rLe2.nil | exact rLc.nil | exact rLe.refl | exact rLc.refl | exact rLe2.refl | apply bN | apply cH | apply cF | apply cX | apply rLe2.cons | apply rLc.cons)) A5) (by simp) ?_
       simp -implicitDefEqProofs [hnx, Nat.add_assoc, ho0]
       refine aG (bS (by repeat (first | exact cE | exact cZ | exact bT | exact rLe2.nil | exact rLc.nil | exact rLe.refl | exact rLc.refl | exact rLe2.refl | apply bN | apply cH | apply cF | apply cX | apply rLe2.cons | apply rLc.cons)) A4) (by simp) ?_
       simp -implicitDefEqProofs [hnx, Nat.add_assoc, ho0]
       refine aG (bS (by repeat (first | exact cE | exact cZ | exact bT | exact rLe2.nil | exact rLc.nil | exact rLe.refl | exact rLc.refl | exact rLe2.refl | apply bN | apply cH | apply cF | apply cX | apply rLe2.cons | apply rLc.cons)) A6) (by simp) ?_
       simp -implicitDefEqProofs [hnx, Nat.add_assoc, ho0]
       refine aG (bS (by repeat (first | exact cE | exact cZ | exact bT | exact rLe2.nil | exact rLc.nil | exact rLe.refl | exact rLc.refl | exact rLe2.refl | apply bN | apply cH | apply cF | apply cX | apply rLe2.cons | apply rLc.cons)) A7) (by simp) ?_
       simp -implicitDefEqProofs [hnx, Nat.add_assoc, ho0]
       refine aG (bS (by repeat (first | exact cE | exact cZ | exact bT | exact rLe2.nil | exact rLc.nil | exact rLe.refl | exact rLc.refl | exact rLe2.refl | apply bN | apply cH | apply cF | apply cX | apply rLe2.cons | apply rLc.cons)) A8) (by simp) ?_
       simp -implicitDefEqProofs [hnx, Nat.add_assoc, ho0]
       rcases hty with hu | hu | hu
       ·rw [hu] at b hpin
        have A9 := ask _ _ _ (uD b).1 (by simp [size, aV, kM, dG]; omega)
        have A10 := ask _ _ _ (uD b).2 (by simp [size, aV, gE, eO]; omega)
        simp only [kM, gE, lG, dG, eO, hex, hem, List.map, heb] at A9 A10
        have w9 := aS (x := 2 + own) (by unfold Pin at hpin; omega) (by unfold Pin at hpin; rw [tp_1] at hpin; omega)
        simp -implicitDefEqProofs [hnx, Nat.add_assoc, ho0, hu]
        refine aG (bS (by repeat (first | exact cE | exact cZ | exact bT | exact rLe2.nil | exact rLc.nil | exact rLe.refl | exact rLc.refl | exact rLe2.refl | apply bN | apply cH | apply cF | apply cX | apply rLe2.cons | apply rLc.cons)) A9) (by simp) ?_
        simp -implicitDefEqProofs [hnx, Nat.add_assoc, ho0, hu]
        refine aG (bS (by repeat (first | exact cE | exact cZ | exact bT | exact rLe2.nil | exact rLc.nil | exact rLe.refl | exact rLc.refl | exact rLe2.refl | apply bN | apply cH | apply cF | apply cX | apply rLe2.cons | apply rLc.cons)) A10) (by simp) ?_
        simp -implicitDefEqProofs [hnx, Nat.add_assoc, ho0, hu, w9]
       ·rw [hu] at b
        have A9 := ask _ _ _ (FT b) (by simp [size, aV, lG]; omega)
        simp only [kM, gE, lG, dG, eO, hex, hem, List.map, heb] at A9
        simp -implicitDefEqProofs [hnx, Nat.add_assoc, ho0, hu]
        refine aG (bS (by repeat (first | exact cE | exact cZ | exact bT | exact rLe2.nil | exact rLc.nil | exact rLe.refl | exact rLc.refl | exact rLe2.refl | apply bN | apply cH | apply cF | apply cX | apply rLe2.cons | apply rLc.cons)) A9) (by simp) ?_
        simp -implicitDefEqProofs [hnx, Nat.add_assoc, ho0, hu]
       ·rw [hu] at b
        have A9 := ask _ _ _ (EX b) (by simp [size, aV, gE, dG]; omega)
        simp only [kM, gE, lG, dG, eO, hex, hem, List.map, heb] at A9
        simp -implicitDefEqProofs [hnx, Nat.add_assoc, ho0, hu]
        refine aG (bS (by repeat (first | exact cE | exact cZ | exact bT | exact rLe2.nil | exact rLc.nil | exact rLe.refl | exact rLc.refl | exact rLe2.refl | apply bN | apply cH | apply cF | apply cX | apply rLe2.cons | apply rLc.cons)) A9) (by simp) ?_
        simp -implicitDefEqProofs [hnx, Nat.add_assoc, ho0, hu]
  ·simp -implicitDefEqProofs [h0]
 ·rw [show jF t L w = false by simp [jF, hsm]] at hc
  simp -implicitDefEqProofs [ac4]
  refine aG (wT) (by simp) ?_
  simp -implicitDefEqProofs
  refine aG hc (by simp) ?_
  simp -implicitDefEqProofs
end Go.Fx.YtlhdpfaohphbaaaGreat
set_option maxRecDepth 1000000
namespace Go.Proofs.YtlhdpfaohphbaaaGreat.RowAbsTurns
open Go Go.Fx Go.Proofs Go.Proofs.YtlhdpfaohphbaaaGreat
theorem fnRow : RowFn Tryz.checked 4 Tryz.f4 Rows.absTurnsSpec (Tryz.f4.resultTypes.getD 0 0) where
 own := by kernel_rfl
 noInit := by kernel_rfl
 func := Tryz.func4
 laid := by kernel_rfl
 params := by kernel_rfl
 res := by kernel_rfl
 bool := by kernel_rfl
 vars := rfl
 spec := by
  intro H ds h
  have h' : ds.length = 4 := h.trans (by kernel_rfl)
  match ds, h' with
  | [d0, d1, d2, d3], _ => rfl
theorem over : Rows.absTurnsRow.holds Tryz.pinned (OpenSpec.ofChange Rows.absTurnsSpec) :=
 OpenClaim.holds_of_wide 4 Tryz.f4 rfl rfl rfl rfl rfl rfl rfl ⟨rfl, rfl, rfl, rfl, rfl⟩ rfl rfl rfl rfl rfl (by kernel_rfl) Tryz.func4 (by kernel_rfl)
  (of_decide_eq_true (by kernel_rfl)) (by unfold Func.isWrapper; first | (rw [if_pos (by decide +kernel)]; kernel_rfl) | (rw [if_neg (by decide +kernel)]; exact ⟨rfl, rfl⟩))
  (fun os started H enc _ => row_of fnRow started (ChangeSpec.witness6 (enc := enc) (C := Tryz.checked) false ⟨#[], #[.slice none 0 0, .slice none 0 0, .int .i64 0, .slice none 0 0], []⟩ 8 (by kernel_rfl) (by kernel_rfl) (by kernel_rfl) (by kernel_rfl)) Go.Fx.YtlhdpfaohphbaaaGreat.law_AbsTurns)
theorem proved : Rows.AbsTurnsSaid := over
end Go.Proofs.YtlhdpfaohphbaaaGreat.RowAbsTurns
namespace Go.Proofs.YtlhdpfaohphbaaaGreat
theorem absTurns_holds : Rows.AbsTurnsSaid := RowAbsTurns.proved
#print axioms absTurns_holds
end Go.Proofs.YtlhdpfaohphbaaaGreat

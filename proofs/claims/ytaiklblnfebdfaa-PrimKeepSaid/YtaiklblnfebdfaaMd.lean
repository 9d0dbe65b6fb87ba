/-
  math.Mod of floats that are whole numbers.
-/
import Derived.Test.YtaiklblnfebdfaaCodeModf
import Derived.Test.YtaiklblnfebdfaaAr
import Derived.Test.YtaiklblnfebdfaaXF
set_option linter.all false
namespace Go.Fx.Ytaiklblnfebdfaa
open Go Go.Fx Go.Proofs Go.Fx.Flt
theorem fromb_e {b : Nat} {n : Int} (h : n = b) : Extn Try.prog 40 [U n] (FL b) := by
  subst h
  have := frombits_e (b : Int)
  rwa [Int.toNat_natCast] at this
theorem Abs_c {s : Bool} {N : Nat} (h : N < 2 ^ 53) : Pure Try.prog 57 [FL (Fz s N)] (FL (Fz false N)) := by
  refine pu57 (by simp) ?_
  simp -implicitDefEqProofs [ac57]
  refine pcE_of (bits_e _) (by simp) ?_
  simp -implicitDefEqProofs
  have e : bClr .u64 (Fz s N : Int) 9223372036854775808 = ((Fz false N : Nat) : Int) := by rw [bClr_sgn (Fz_lt h).1, Fz_mod h]
  refine pcE_of (fromb_e e) (by simp) ?_
  simp -implicitDefEqProofs
theorem IsInf_c {s : Bool} {N : Nat} (h : N < 2 ^ 53) : Pure Try.prog 54 [FL (Fz s N), I 0] (B false) := by
  refine pu54 (by simp) ?_
  simp -implicitDefEqProofs [ac54]
  refine pcK_of (Abs_c h) (by simp) ?_
  simp -implicitDefEqProofs
  rw [order_top (s := false) h]
theorem IsNaN_c {s : Bool} {N : Nat} (h : N < 2 ^ 53) : Pure Try.prog 55 [FL (Fz s N)] (B false) := by
  refine pu55 (by simp) ?_
  have hw : isW (Fz s N) (sg s N) := ⟨s, N, h, rfl, rfl⟩
  have := eqF_W hw hw
  simp -implicitDefEqProofs [ac55, this]
theorem normalize_c {N : Nat} (h0 : N ≠ 0) (h : N < 2 ^ 53) : Pure Try.prog 65 [FL (Fz false N)] (.tup [FL (Fz false N), I 0]) := by
  refine pu65 (by simp) ?_
  have := order_least h0 h
  simp -implicitDefEqProofs [ac65]
  refine pcK_of (Abs_c h) (by simp) ?_
  simp -implicitDefEqProofs
  simp -implicitDefEqProofs [this]
/-- The bits of a whole number above 0. -/
theorem bitsP {N : Nat} (h0 : N ≠ 0) (h : N < 2 ^ 53) : ∃ fr : Nat, fr < 2 ^ 52 ∧ Fz false N = (N.log2 + 1023) * 2 ^ 52 + fr ∧ mN N = 2 ^ 52 + fr ∧ N.log2 ≤ 52 := by
  obtain ⟨b1, b2⟩ := mN_b h0 h
  have := Fz_pos h0
  refine ⟨mN N - 2 ^ 52, by omega, ?_, by omega, log_lt h0 h⟩
  rw [this]; omega
theorem Ebits {E fr : Nat} (hE : E < 2048) (hf : fr < 2 ^ 52) : bShr .u64 ((E * 2 ^ 52 + fr : Nat) : Int) 52 = (E : Int) := by
  rw [shr_nonneg .u64 _ (p := 52) (q := 52) rfl (by simp [IntKind.bits])]
  omega
theorem Emask {E : Nat} (hE : E < 2048) : bAnd .u64 (E : Int) 2047 = (E : Int) := by
  have := bAnd_mask (E : Int) 11 (by decide)
  have e : (2 : Int) ^ 11 - 1 = 2047 := by decide
  rw [e] at this
  rw [this]; omega
theorem Eclr {E fr : Nat} (hE : E < 2048) (hf : fr < 2 ^ 52) (hs : E * 2 ^ 52 + fr < 2 ^ 63) : bClr .u64 ((E * 2 ^ 52 + fr : Nat) : Int) 9218868437227405312 = (fr : Int) := by
  rw [bClr_exp hs]; congr 1; omega
theorem Eor {E fr : Nat} (hE : E < 2048) (hf : fr < 2 ^ 52) : bOr .u64 (fr : Int) ((E : Int) * 2 ^ 52) = ((E * 2 ^ 52 + fr : Nat) : Int) := by
  rw [bOr_add (by omega) (by omega) (by omega) (by omega)]
  omega
theorem frexp_c {N : Nat} (h0 : N ≠ 0) (h : N < 2 ^ 53) : Pure Try.prog 62 [FL (Fz false N)] (.tup [FL (fracF N), I ((N.log2 : Int) + 1)]) := by
  refine pu62 (by simp) ?_
  have hw : isW (Fz false N) (N : Int) := ⟨false, N, h, rfl, rfl⟩
  have hz := eqF_W hw isW_zero
  have hz' : eqF (Fz false N) 0 = false := by rw [hz]; simp [h0]
  simp -implicitDefEqProofs [ac62, hz']
  refine pcK_of (IsInf_c h) (by simp) ?_
  simp -implicitDefEqProofs
  refine pcK_of (IsNaN_c h) (by simp) ?_
  simp -implicitDefEqProofs
  refine pcK_of (normalize_c h0 h) (by simp) ?_
  simp -implicitDefEqProofs
  refine pcE_of (bits_e _) (by simp) ?_
  simp -implicitDefEqProofs
  obtain ⟨fr, hf, e1, e2, hl⟩ := bitsP h0 h
  have a1 : bOr .u64 (bClr .u64 (Fz false N : Int) 9218868437227405312) 4602678819172646912 = ((fracF N : Nat) : Int) := by
    rw [e1, Eclr (by omega) hf (by omega)]
    have : (4602678819172646912 : Int) = ((1022 : Nat) : Int) * 2 ^ 52 := by decide
    rw [this, Eor (by decide) hf]
    unfold fracF
    rw [e2]; congr 1; omega
  have a2 : bAnd .u64 (bShr .u64 (Fz false N : Int) 52) 2047 = ((N.log2 + 1023 : Nat) : Int) := by
    rw [e1, Ebits (by omega) hf, Emask (by omega)]
  rw [a1, a2]
  refine pcE_of (fromb_e rfl) (by simp) ?_
  simp -implicitDefEqProofs
  rw [wr64 (x := ((N.log2 : Int) + 1023)) (by omega) (by omega), wr64 (x := ((N.log2 : Int) + 1023 - 1023)) (by omega) (by omega), wr64 (x := (N.log2 : Int) + 1023 - 1023 + 1) (by omega) (by omega), wr64 (by omega) (by omega)]
  omega
theorem Frexp_c {N : Nat} (h0 : N ≠ 0) (h : N < 2 ^ 53) : Pure Try.prog 58 [FL (Fz false N)] (.tup [FL (fracF N), I ((N.log2 : Int) + 1)]) := by
  refine pu58 (by simp) ?_
  simp -implicitDefEqProofs [ac58]
  refine pcK_of (frexp_c h0 h) (by simp) ?_
  simp -implicitDefEqProofs
theorem ldexp_c {N k : Nat} (h0 : N ≠ 0) (hk : N * 2 ^ k < 2 ^ 53) : Pure Try.prog 64 [FL (Fz false N), I (k : Int)] (FL (Fz false (N * 2 ^ k))) := by
  refine pu64 (by simp) ?_
  have h : N < 2 ^ 53 := Nat.lt_of_le_of_lt (Nat.le_mul_of_pos_right N (Nat.two_pow_pos k)) hk
  have hw : isW (Fz false N) (N : Int) := ⟨false, N, h, rfl, rfl⟩
  have hz := eqF_W hw isW_zero
  have hz' : eqF (Fz false N) 0 = false := by rw [hz]; simp [h0]
  simp -implicitDefEqProofs [ac64, hz']
  refine pcK_of (IsInf_c h) (by simp) ?_
  simp -implicitDefEqProofs
  refine pcK_of (IsNaN_c h) (by simp) ?_
  simp -implicitDefEqProofs
  refine pcK_of (normalize_c h0 h) (by simp) ?_
  simp -implicitDefEqProofs
  refine pcE_of (bits_e _) (by simp) ?_
  simp -implicitDefEqProofs
  obtain ⟨fr, hf, e1, e2, hl⟩ := bitsP h0 h
  have hl2 : N.log2 + k ≤ 52 := by
    have h1 := log_lt (Nat.mul_ne_zero h0 (Nat.ne_of_gt (Nat.two_pow_pos k))) hk
    rwa [log_mul h0] at h1
  obtain ⟨E, hE⟩ : ∃ E : Int, E = k + N.log2 := ⟨_, rfl⟩
  have e3 : IntKind.i64.wrap (IntKind.i64.wrap (k : Int) + IntKind.i64.wrap (bAnd .i64 (IntKind.i64.wrap (bShr .u64 (Fz false N : Int) 52)) 2047 - 1023)) = E := by
    rw [e1, Ebits (by omega) hf, wr64 (x := ((N.log2 + 1023 : Nat) : Int)) (by omega) (by omega), bAnd_i64 (by omega), wr64 (x := (k : Int)) (by omega) (by omega), wr64 (x := ((N.log2 + 1023 : Nat) : Int) - 1023) (by omega) (by omega), wr64 (by omega) (by omega)]
    omega
  rw [e3]
  have g1 : ¬ E < -1075 := by omega
  have g2 : ¬ 1023 < E := by omega
  have g3 : ¬ E < -1022 := by omega
  have g1' : -1075 ≤ E := by omega
  have g2' : E ≤ 1023 := by omega
  have g3' : -1022 ≤ E := by omega
  simp -implicitDefEqProofs [g1, g2, g3, g1', g2', g3']
  have a1 : bOr .u64 (bClr .u64 (Fz false N : Int) 9218868437227405312) (bShl .u64 (IntKind.u64.wrap (IntKind.i64.wrap (E + 1023))) 52) = ((Fz false (N * 2 ^ k) : Nat) : Int) := by
    rw [wr64 (x := E + 1023) (by omega) (by omega), wru64 (by omega) (by omega), shl_nonneg (x := E + 1023) (p := 52) (q := 52) rfl (by omega) (by omega) (by omega), e1, Eclr (by omega) hf (by omega)]
    have : E + 1023 = ((N.log2 + k + 1023 : Nat) : Int) := by omega
    rw [this, Eor (by omega) hf, Fz_shl h0 hk, e2]
    exact congrArg Nat.cast (by omega)
  have w1 : isW 4607182418800017408 1 := by
    have := isW_Fi (n := 1) (by decide)
    have e : Fi 1 = 4607182418800017408 := by decide
    rwa [e] at this
  have w2 : isW (Fz false (N * 2 ^ k)) ((N * 2 ^ k : Nat) : Int) := ⟨false, _, hk, rfl, rfl⟩
  obtain ⟨r, m1, m2⟩ := mul_W w1 w2 (by rw [Int.one_mul, Int.natAbs_natCast]; exact hk)
  rw [Int.one_mul] at m2
  have hr := isW_pos m2 (by have := Nat.mul_ne_zero h0 (Nat.ne_of_gt (Nat.two_pow_pos k)); omega)
  rw [Fi_nat] at hr
  subst hr
  rw [a1]
  refine pcE_of (fromb_e rfl) (by simp) ?_
  simp -implicitDefEqProofs [bin_mulF m1]
theorem Ldexp_c {N k : Nat} (h0 : N ≠ 0) (hk : N * 2 ^ k < 2 ^ 53) : Pure Try.prog 59 [FL (Fz false N), I (k : Int)] (FL (Fz false (N * 2 ^ k))) := by
  refine pu59 (by simp) ?_
  simp -implicitDefEqProofs [ac59]
  refine pcK_of (ldexp_c h0 hk) (by simp) ?_
  simp -implicitDefEqProofs
/-- The step of mod: the greatest power of two times Y that R surely has. -/
theorem step {R Y : Nat} (hY : Y ≠ 0) (hR : R < 2 ^ 53) (h : Y ≤ R) : ∃ k : Nat, (if mN R < mN Y then (R.log2 : Int) - Y.log2 - 1 else (R.log2 : Int) - Y.log2) = k ∧ Y * 2 ^ k ≤ R := by
  have hR0 : R ≠ 0 := by omega
  obtain ⟨a1, a2⟩ := mN_b hR0 hR
  obtain ⟨b1, b2⟩ := mN_b hY (Nat.lt_of_le_of_lt h hR)
  have lR := log_lt hR0 hR
  have lY := log_lt hY (Nat.lt_of_le_of_lt h hR)
  obtain ⟨r1, r2⟩ := log_bounds hR0
  obtain ⟨y1, y2⟩ := log_bounds hY
  have hll : Y.log2 ≤ R.log2 := by
    have : 2 ^ Y.log2 < 2 ^ (R.log2 + 1) := by omega
    have := (Nat.pow_lt_pow_iff_right (by decide : 1 < 2)).1 this
    omega
  have pos := Nat.two_pow_pos (52 - R.log2)
  by_cases hm : mN R < mN Y
  · rw [if_pos hm]
    have hne : Y.log2 ≠ R.log2 := by
      intro he
      unfold mN at hm
      rw [he] at hm
      have := Nat.lt_of_mul_lt_mul_right hm
      omega
    refine ⟨R.log2 - Y.log2 - 1, by omega, ?_⟩
    have : Y * 2 ^ (R.log2 - Y.log2 - 1) < 2 ^ (Y.log2 + 1) * 2 ^ (R.log2 - Y.log2 - 1) := Nat.mul_lt_mul_of_pos_right y2 (Nat.two_pow_pos _)
    rw [← Nat.pow_add, show Y.log2 + 1 + (R.log2 - Y.log2 - 1) = R.log2 by omega] at this
    omega
  · rw [if_neg hm]
    refine ⟨R.log2 - Y.log2, by omega, ?_⟩
    have e : Y * 2 ^ (R.log2 - Y.log2) * 2 ^ (52 - R.log2) = mN Y := by
      unfold mN
      rw [Nat.mul_assoc, ← Nat.pow_add]
      congr 2; omega
    have : Y * 2 ^ (R.log2 - Y.log2) * 2 ^ (52 - R.log2) ≤ R * 2 ^ (52 - R.log2) := by rw [e]; unfold mN at hm ⊢; omega
    exact Nat.le_of_mul_le_mul_right this pos

theorem sub_pos {N M : Nat} (hN : N < 2 ^ 53) (h : M ≤ N) : f.sub (Fz false N) (Fz false M) = some (Fz false (N - M)) := by
  obtain ⟨r, h1, h2⟩ := sum_Z (Z_Fz (s := false) hN) (opp_Z (Z_Fz (s := false) (Nat.lt_of_le_of_lt h hN)))
  have e : sg false N + sg (!false) M = ((N - M : Nat) : Int) := by simp [sg]; omega
  rw [e, Int.natAbs_natCast] at h1
  unfold Ieee.Format.sub
  rw [h1]
  have e2 : (if ((N - M : Nat) : Int) = 0 then false && !false else decide (((N - M : Nat) : Int) < 0)) = false := by
    by_cases h0 : ((N - M : Nat) : Int) = 0
    · rw [if_pos h0]; rfl
    · rw [if_neg h0]; simp
  rw [e2]
  show some (f.nearest _ _ _) = _
  rw [nearest_Fz (by omega) (by omega)]
/-- What mod answers. -/
def modW (a : Nat) (X : Int) (Y : Nat) : Nat := if X = 0 then a else if X < 0 then ngF (Fz false (X.natAbs % Y)) else Fz false (X.natAbs % Y)
theorem modW_W {a : Nat} {X : Int} {Y : Nat} (ha : isW a X) (hY : Y ≠ 0) (hY2 : Y < 2 ^ 53) : isW (modW a X Y) (X.tmod Y) := by
  have hm : X.natAbs % Y < Y := Nat.mod_lt _ (by omega)
  have w : isW (Fz false (X.natAbs % Y)) ((X.natAbs % Y : Nat) : Int) := ⟨false, _, by omega, rfl, rfl⟩
  unfold modW
  by_cases h0 : X = 0
  · rw [if_pos h0]; subst h0; simpa using ha
  · rw [if_neg h0]
    by_cases h1 : X < 0
    · rw [if_pos h1]
      have := neg_W w
      obtain ⟨n, rfl⟩ : ∃ n : Nat, X = -(n : Int) := ⟨X.natAbs, by omega⟩
      rw [Int.neg_tmod, Int.tmod_eq_emod_of_nonneg (by omega)]
      simpa using this
    · rw [if_neg h1]
      obtain ⟨n, rfl⟩ : ∃ n : Nat, X = (n : Int) := ⟨X.natAbs, by omega⟩
      rw [Int.tmod_eq_emod_of_nonneg (by omega)]
      simpa using w
def ModInv (X : Int) (Y R : Nat) : Prop := R < 2 ^ 53 ∧ R % Y = X.natAbs % Y
theorem mod_c {a : Nat} {X : Int} {Y : Nat} (ha : isW a X) (hY : Y ≠ 0) (hY2 : Y < 2 ^ 53) : Pure Try.prog 50 [FL a, FL (Fz false Y)] (FL (modW a X Y)) := by
  have hX : X.natAbs < 2 ^ 53 := by
    obtain ⟨s, N, hN, _, rfl⟩ := ha
    rw [sg_abs]; exact hN
  have wY : isW (Fz false Y) (Y : Int) := ⟨false, Y, hY2, rfl, rfl⟩
  have z1 : eqF (Fz false Y) 0 = false := by rw [eqF_W wY isW_zero]; simp [hY]
  have z2 : ltF a 0 = decide (X < 0) := ltF_W ha isW_zero
  have i1 : Pure Try.prog 54 [FL a, I 0] (B false) := by
    obtain ⟨s, N, hN, rfl, _⟩ := ha
    exact IsInf_c hN
  have i2 : Pure Try.prog 55 [FL a] (B false) := by
    obtain ⟨s, N, hN, rfl, _⟩ := ha
    exact IsNaN_c hN
  refine pu50 (by simp) ?_
  by_cases h0 : X = 0
  · subst h0
    have g : geF a (Fz false Y) = false := by rw [geF_W ha wY]; simp; omega
    simp -implicitDefEqProofs [ac50, z1]
    refine pcK_of (i1) (by simp) ?_
    simp -implicitDefEqProofs
    refine pcK_of (i2) (by simp) ?_
    simp -implicitDefEqProofs
    refine pcK_of (IsNaN_c hY2) (by simp) ?_
    simp -implicitDefEqProofs
    refine pcK_of (Abs_c hY2) (by simp) ?_
    simp -implicitDefEqProofs
    refine pcK_of (Frexp_c hY hY2) (by simp) ?_
    simp -implicitDefEqProofs [z2]
    refine lp50_0 (α := Nat) (fun _ _ => [(7, FL a)]) (fun _ _ => []) (fun _ _ => True) (fun _ => 0) 0 trivial (by simp) (by simp) ?_
    rintro _ nx _
    simp -implicitDefEqProofs [lb50_0, g, z2, modW]
  · by_cases h1 : X < 0
    · have e0 : ngF a = Fz false X.natAbs := by
        have := isW_pos (neg_W ha) (by omega)
        rw [this, show -X = (X.natAbs : Int) by omega, Fi_nat]
      have em : modW a X Y = ngF (Fz false (X.natAbs % Y)) := by unfold modW; rw [if_neg h0, if_pos h1]
      rw [em]
      simp -implicitDefEqProofs [ac50, z1]
      refine pcK_of (i1) (by simp) ?_
      simp -implicitDefEqProofs
      refine pcK_of (i2) (by simp) ?_
      simp -implicitDefEqProofs
      refine pcK_of (IsNaN_c hY2) (by simp) ?_
      simp -implicitDefEqProofs
      refine pcK_of (Abs_c hY2) (by simp) ?_
      simp -implicitDefEqProofs
      refine pcK_of (Frexp_c hY hY2) (by simp) ?_
      simp -implicitDefEqProofs [z2, h1, e0]
      refine lp50_0 (α := Nat) (fun R _ => [(7, FL (Fz false R))]) (fun _ _ => []) (fun R _ => ModInv X Y R) (fun R => R) X.natAbs ⟨hX, rfl⟩ (by simp) (by simp) ?_
      rintro R nx ⟨hR, hm⟩
      have wR : isW (Fz false R) (R : Int) := ⟨false, R, hR, rfl, rfl⟩
      have g : geF (Fz false R) (Fz false Y) = decide ((Y : Int) ≤ R) := geF_W wR wY
      simp -implicitDefEqProofs [lb50_0, g]
      refine ⟨fun hle => ?_, fun hlt => ?_⟩
      · have hR0 : R ≠ 0 := by omega
        have lR := log_lt hR0 hR
        have lY := log_lt hY hY2
        have hf := ltF_frac hR0 hR hY hY2
        obtain ⟨k, hk1, hk2⟩ := step hY hR hle
        have hs := sub_pos hR hk2
        have hlow := Nat.le_mul_of_pos_right Y (Nat.two_pow_pos k)
        have hinv : ModInv X Y (R - Y * 2 ^ k) := ⟨by omega, by rw [Nat.sub_mul_mod hk2]; exact hm⟩
        refine pcK_of (Frexp_c hR0 hR) (by simp) ?_
        simp -implicitDefEqProofs [hf]
        by_cases hm2 : mN R < mN Y
        · rw [if_pos hm2] at hk1
          have ek : IntKind.i64.wrap (IntKind.i64.wrap (R.log2 : Int) - (Y.log2 + 1)) = (k : Int) := by
            rw [wr64 (x := (R.log2 : Int)) (by omega) (by omega), wr64 (by omega) (by omega)]; omega
          have hm3 : ¬ mN Y ≤ mN R := by omega
          simp -implicitDefEqProofs [hm2, hm3]
          rw [ek]
          refine pcK_of (Ldexp_c hY (Nat.lt_of_le_of_lt hk2 hR)) (by simp) ?_
          simp -implicitDefEqProofs [bin_subF hs]
          exact again_of (R - Y * 2 ^ k) hinv (by omega) (by simp) (by simp)
        · rw [if_neg hm2] at hk1
          have ek : IntKind.i64.wrap ((R.log2 : Int) + 1 - (Y.log2 + 1)) = (k : Int) := by
            rw [wr64 (by omega) (by omega)]; omega
          have hm3 : mN Y ≤ mN R := by omega
          simp -implicitDefEqProofs [hm2, hm3]
          rw [ek]
          refine pcK_of (Ldexp_c hY (Nat.lt_of_le_of_lt hk2 hR)) (by simp) ?_
          simp -implicitDefEqProofs [bin_subF hs]
          exact again_of (R - Y * 2 ^ k) hinv (by omega) (by simp) (by simp)
      · have e : R = X.natAbs % Y := by rw [← hm, Nat.mod_eq_of_lt hlt]
        simp -implicitDefEqProofs [z2, h1, ← e]
    · have e0 : a = Fz false X.natAbs := by
        have := isW_pos ha (by omega)
        rw [this]
        have : X = (X.natAbs : Int) := by omega
        rw [this, Fi_nat, Int.natAbs_natCast]
      have em : modW a X Y = Fz false (X.natAbs % Y) := by unfold modW; rw [if_neg h0, if_neg h1]
      rw [em]
      simp -implicitDefEqProofs [ac50, z1]
      refine pcK_of (i1) (by simp) ?_
      simp -implicitDefEqProofs
      refine pcK_of (i2) (by simp) ?_
      simp -implicitDefEqProofs
      refine pcK_of (IsNaN_c hY2) (by simp) ?_
      simp -implicitDefEqProofs
      refine pcK_of (Abs_c hY2) (by simp) ?_
      simp -implicitDefEqProofs
      refine pcK_of (Frexp_c hY hY2) (by simp) ?_
      simp -implicitDefEqProofs [z2, h1]
      refine lp50_0 (α := Nat) (fun R _ => [(7, FL (Fz false R))]) (fun _ _ => []) (fun R _ => ModInv X Y R) (fun R => R) X.natAbs ⟨hX, rfl⟩ (by simp [e0]) (by simp) ?_
      rintro R nx ⟨hR, hm⟩
      have wR : isW (Fz false R) (R : Int) := ⟨false, R, hR, rfl, rfl⟩
      have g : geF (Fz false R) (Fz false Y) = decide ((Y : Int) ≤ R) := geF_W wR wY
      simp -implicitDefEqProofs [lb50_0, g]
      refine ⟨fun hle => ?_, fun hlt => ?_⟩
      · have hR0 : R ≠ 0 := by omega
        have lR := log_lt hR0 hR
        have lY := log_lt hY hY2
        have hf := ltF_frac hR0 hR hY hY2
        obtain ⟨k, hk1, hk2⟩ := step hY hR hle
        have hs := sub_pos hR hk2
        have hlow := Nat.le_mul_of_pos_right Y (Nat.two_pow_pos k)
        have hinv : ModInv X Y (R - Y * 2 ^ k) := ⟨by omega, by rw [Nat.sub_mul_mod hk2]; exact hm⟩
        refine pcK_of (Frexp_c hR0 hR) (by simp) ?_
        simp -implicitDefEqProofs [hf]
        by_cases hm2 : mN R < mN Y
        · rw [if_pos hm2] at hk1
          have ek : IntKind.i64.wrap (IntKind.i64.wrap (R.log2 : Int) - (Y.log2 + 1)) = (k : Int) := by
            rw [wr64 (x := (R.log2 : Int)) (by omega) (by omega), wr64 (by omega) (by omega)]; omega
          have hm3 : ¬ mN Y ≤ mN R := by omega
          simp -implicitDefEqProofs [hm2, hm3]
          rw [ek]
          refine pcK_of (Ldexp_c hY (Nat.lt_of_le_of_lt hk2 hR)) (by simp) ?_
          simp -implicitDefEqProofs [bin_subF hs]
          exact again_of (R - Y * 2 ^ k) hinv (by omega) (by simp) (by simp)
        · rw [if_neg hm2] at hk1
          have ek : IntKind.i64.wrap ((R.log2 : Int) + 1 - (Y.log2 + 1)) = (k : Int) := by
            rw [wr64 (by omega) (by omega)]; omega
          have hm3 : mN Y ≤ mN R := by omega
          simp -implicitDefEqProofs [hm2, hm3]
          rw [ek]
          refine pcK_of (Ldexp_c hY (Nat.lt_of_le_of_lt hk2 hR)) (by simp) ?_
          simp -implicitDefEqProofs [bin_subF hs]
          exact again_of (R - Y * 2 ^ k) hinv (by omega) (by simp) (by simp)
      · have e : R = X.natAbs % Y := by rw [← hm, Nat.mod_eq_of_lt hlt]
        simp -implicitDefEqProofs [z2, h1, ← e]
theorem Mod_c {a : Nat} {X : Int} {Y : Nat} (ha : isW a X) (hY : Y ≠ 0) (hY2 : Y < 2 ^ 53) : Pure Try.prog 43 [FL a, FL (Fz false Y)] (FL (modW a X Y)) := by
  refine pu43 (by simp) ?_
  simp -implicitDefEqProofs [ac43]
  refine pcK_of (mod_c ha hY hY2) (by simp) ?_
  simp -implicitDefEqProofs
end Go.Fx.Ytaiklblnfebdfaa

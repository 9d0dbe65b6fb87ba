/-
  Whole numbers as floats of 64 bits: the plain law.
-/
import Derived.Laws.FloatArith
import Derived.Test.YtaiklblnfebdfaaNum
set_option linter.all false
namespace Go.Fx.Flt
open Go Ieee

abbrev f : Format := Ieee.double
/-- The float of a sign and a whole number below 2^53. -/
def Fz (s : Bool) (N : Nat) : Nat := f.word s (if N = 0 then 0 else (N.log2 + 1022) * 2 ^ 52 + N * 2 ^ (52 - N.log2))
def Fi (n : Int) : Nat := Fz (decide (n < 0)) n.natAbs

theorem fb : f.fractionBits = 52 := rfl
theorem fl : f.leastPlace = -1074 := by decide
theorem fbin : f.binade = 2 ^ 52 := rfl
theorem finf : f.infRung = 2047 * 2 ^ 52 := by decide
theorem fsw : f.signWeight = 2 ^ 63 := by decide

theorem log_bounds {N : Nat} (h : N ≠ 0) : 2 ^ N.log2 ≤ N ∧ N < 2 ^ (N.log2 + 1) := ⟨Nat.log2_self_le h, Nat.lt_log2_self⟩
theorem log_mul {N p : Nat} (h : N ≠ 0) : (N * 2 ^ p).log2 = N.log2 + p := by
  have hp : 0 < 2 ^ p := Nat.two_pow_pos p
  have h0 : N * 2 ^ p ≠ 0 := Nat.mul_ne_zero h (by omega)
  rw [Nat.log2_eq_iff h0]
  obtain ⟨h1, h2⟩ := log_bounds h
  refine ⟨?_, ?_⟩
  · rw [Nat.pow_add]; exact Nat.mul_le_mul_right _ h1
  · rw [show N.log2 + p + 1 = N.log2 + 1 + p by omega, Nat.pow_add]; exact Nat.mul_lt_mul_of_pos_right h2 hp
theorem log_lt {N : Nat} (h : N ≠ 0) (hN : N < 2 ^ 53) : N.log2 ≤ 52 := by
  have := (Nat.log2_lt h).2 hN
  omega
theorem mant {N : Nat} (h : N ≠ 0) (hN : N < 2 ^ 53) : 2 ^ 52 ≤ N * 2 ^ (52 - N.log2) ∧ N * 2 ^ (52 - N.log2) < 2 ^ 53 := by
  have hl := log_lt h hN
  obtain ⟨h1, h2⟩ := log_bounds h
  refine ⟨?_, ?_⟩
  · calc 2 ^ 52 = 2 ^ N.log2 * 2 ^ (52 - N.log2) := by rw [← Nat.pow_add]; congr 1; omega
      _ ≤ _ := Nat.mul_le_mul_right _ h1
  · calc N * 2 ^ (52 - N.log2) < 2 ^ (N.log2 + 1) * 2 ^ (52 - N.log2) := Nat.mul_lt_mul_of_pos_right h2 (Nat.two_pow_pos _)
      _ = 2 ^ 53 := by rw [← Nat.pow_add]; congr 1; omega

theorem read_zero {s : Bool} : f.read (Fz s 0) = .number s 0 (-1074) := by cases s <;> decide
set_option maxRecDepth 4000 in
set_option exponentiation.threshold 2000 in
theorem read_Fz {s : Bool} {N : Nat} (hN : N < 2 ^ 53) : ∃ p : Nat, f.read (Fz s N) = .number s (N * 2 ^ p) (-(p : Int)) ∧ (N ≠ 0 → p ≤ 52) := by
  by_cases h : N = 0
  · subst h
    refine ⟨1074, ?_, fun h => absurd rfl h⟩
    rw [read_zero, Nat.zero_mul]; rfl
  · have hl := log_lt h hN
    obtain ⟨m1, m2⟩ := mant h hN
    refine ⟨52 - N.log2, ?_, fun _ => by omega⟩
    unfold Fz
    rw [if_neg h]
    generalize hM : N * 2 ^ (52 - N.log2) = M at *
    have hr : (N.log2 + 1022) * 2 ^ 52 + M < 2 ^ 63 := by
      have : (N.log2 + 1022) * 2 ^ 52 ≤ 1074 * 2 ^ 52 := Nat.mul_le_mul_right _ (by omega)
      omega
    have hw1 : (f.word s ((N.log2 + 1022) * 2 ^ 52 + M)) / 2 ^ 63 % 2 = if s then 1 else 0 := by
      unfold Format.word
      rw [fsw]
      cases s
      · simp only [Bool.false_eq_true, if_false]; omega
      · simp only [if_true]; omega
    have hw2 : (f.word s ((N.log2 + 1022) * 2 ^ 52 + M)) % 2 ^ 63 = (N.log2 + 1022) * 2 ^ 52 + M := by
      unfold Format.word
      rw [fsw]
      cases s
      · simp only [Bool.false_eq_true, if_false]; omega
      · simp only [if_true]; omega
    unfold Format.read
    simp only [fsw, hw1, hw2, fbin, finf, fl]
    rw [if_neg (by omega), if_pos (by omega)]
    have e1 : ((if s = true then 1 else 0) == 1) = s := by cases s <;> rfl
    have e2 : 2 ^ 52 + ((N.log2 + 1022) * 2 ^ 52 + M) % 2 ^ 52 = M := by omega
    have e3 : ((N.log2 + 1022) * 2 ^ 52 + M) / 2 ^ 52 = N.log2 + 1023 := by omega
    rw [e1, e2, e3]
    have e4 : (-1074 : Int) + ((N.log2 + 1023 - 1 : Nat) : Int) = -((52 - N.log2 : Nat) : Int) := by omega
    rw [e4]

theorem cut_zero (way : Toward) (s : Bool) (n : Nat) : way.cut s n 0 = n := by
  unfold Toward.cut
  simp only [Nat.zero_min, Nat.shiftLeft_zero, Nat.div_one, Nat.mod_one]
  cases way <;> simp
theorem cut_exact (way : Toward) (s : Bool) {N p d : Nat} (h : N ≠ 0) (hd : d ≤ p) : way.cut s (N * 2 ^ p) d = N * 2 ^ (p - d) := by
  unfold Toward.cut
  have hl := log_mul (p := p) h
  have hm : min d ((N * 2 ^ p).log2 + 2) = d := by omega
  simp only [hm, Nat.one_shiftLeft]
  have e : N * 2 ^ p = N * 2 ^ (p - d) * 2 ^ d := by rw [Nat.mul_assoc, ← Nat.pow_add]; congr 2; omega
  rw [e, Nat.mul_div_cancel _ (Nat.two_pow_pos d), Nat.mul_mod_left]
  have hp := Nat.two_pow_pos d
  cases way
  · have h1 : decide (2 ^ d < 2 * 0) = false := by simp
    have h2 : ((2 ^ d : Nat) == 2 * 0) = false := by rw [beq_eq_false_iff_ne]; omega
    simp [h1, h2]
  · simp
  · simp
  · simp

/-- A whole number that the format has is written as it is. -/
theorem nearest_Fz {s : Bool} {N p : Nat} (hN : N < 2 ^ 53) (hp : p ≤ 100000) : f.nearest s (N * 2 ^ p) (-(p : Int)) = Fz s N := by
  unfold Format.nearest Fz
  by_cases h : N = 0
  · subst h; simp
  · have hl := log_lt h hN
    have hpp := Nat.two_pow_pos p
    obtain ⟨m1, m2⟩ := mant h hN
    have h0 : N * 2 ^ p ≠ 0 := Nat.mul_ne_zero h (by omega)
    rw [if_neg h0, if_neg h]
    simp only [log_mul h, fb, fl, fbin, finf]
    have hlast : max (-(p : Int) + ((N.log2 + p : Nat) : Int) - (52 : Nat)) (-1074) = (N.log2 : Int) - 52 := by omega
    rw [hlast]
    have hk : Toward.even.cut s ((N * 2 ^ p) <<< (-(p : Int) - ((N.log2 : Int) - 52)).toNat) (((N.log2 : Int) - 52) - -(p : Int)).toNat = N * 2 ^ (52 - N.log2) := by
      by_cases hc : p ≤ 52 - N.log2
      · rw [show (((N.log2 : Int) - 52) - -(p : Int)).toNat = 0 by omega, cut_zero, Nat.shiftLeft_eq, Nat.mul_assoc, ← Nat.pow_add]
        congr 2; omega
      · rw [show (-(p : Int) - ((N.log2 : Int) - 52)).toNat = 0 by omega, Nat.shiftLeft_zero, show (((N.log2 : Int) - 52) - -(p : Int)).toNat = p - (52 - N.log2) by omega, cut_exact _ _ h (by omega)]
        congr 2; omega
    rw [hk]
    congr 1
    have : ((N.log2 : Int) - 52 - -1074).toNat = N.log2 + 1022 := by omega
    rw [this]
    have : (N.log2 + 1022) * 2 ^ 52 ≤ 1074 * 2 ^ 52 := Nat.mul_le_mul_right _ (by omega)
    omega

theorem ofInt_Fi {n : Int} (h : n.natAbs < 2 ^ 53) : FloatKind.f64.nearest n = Fi n := by
  have := nearest_Fz (s := decide (n < 0)) (p := 0) h (by omega)
  simpa [FloatKind.nearest, FloatKind.encode, Format.write, FloatKind.format, Fi] using this

/-! #### What floats stand for -/
def Z (d : Datum) (s : Bool) (N : Nat) : Prop := ∃ p : Nat, d = .number s (N * 2 ^ p) (-(p : Int)) ∧ p ≤ 1074 ∧ (N ≠ 0 → p ≤ 200)
def sg (s : Bool) (N : Nat) : Int := if s then -(N : Int) else N

set_option exponentiation.threshold 2000 in
theorem Z_Fz {s : Bool} {N : Nat} (hN : N < 2 ^ 53) : Z (f.read (Fz s N)) s N := by
  by_cases h : N = 0
  · subst h
    refine ⟨1074, ?_, by omega, fun h => absurd rfl h⟩
    rw [read_zero, Nat.zero_mul]; rfl
  · obtain ⟨p, h1, h2⟩ := read_Fz (s := s) hN
    have := h2 h
    exact ⟨p, h1, by omega, fun _ => by omega⟩

theorem signed_Z {s : Bool} {N p q : Nat} (h : p ≤ q) : Ieee.signed s (N * 2 ^ p) ((-(p : Int)) - (-(q : Int))).toNat = sg s N * 2 ^ q := by
  have e : ((-(p : Int)) - (-(q : Int))).toNat = q - p := by omega
  unfold Ieee.signed sg
  rw [e, Nat.shiftLeft_eq, Nat.mul_assoc, ← Nat.pow_add, show p + (q - p) = q by omega]
  cases s
  · simp
  · simp [Int.neg_mul]

/-- The order of floats is that of the numbers. -/
theorem order_Z {d e : Datum} {s t : Bool} {N M : Nat} (hd : Z d s N) (he : Z e t M) : d.order e = some (compare (sg s N) (sg t M)) := by
  obtain ⟨p, rfl, _⟩ := hd
  obtain ⟨q, rfl, _⟩ := he
  simp only [Datum.order]
  have key : ∀ r : Nat, min (-(p : Int)) (-(q : Int)) = -(r : Int) → p ≤ r → q ≤ r → compare (Ieee.signed s (N * 2 ^ p) (-(p : Int) - min (-(p : Int)) (-(q : Int))).toNat) (Ieee.signed t (M * 2 ^ q) (-(q : Int) - min (-(p : Int)) (-(q : Int))).toNat) = compare (sg s N) (sg t M) := by
    intro r hr h1 h2
    rw [hr, signed_Z h1, signed_Z h2]
    have hp : (0 : Int) < 2 ^ r := by exact_mod_cast Nat.two_pow_pos r
    generalize sg s N = a
    generalize sg t M = b
    simp only [compare, compareOfLessAndEq]
    have e1 : a * 2 ^ r < b * 2 ^ r ↔ a < b := Int.mul_lt_mul_right hp
    have e2 : a * 2 ^ r = b * 2 ^ r ↔ a = b := ⟨fun h => Int.eq_of_mul_eq_mul_right (by omega) h, fun h => by rw [h]⟩
    simp only [e1, e2]
  by_cases hpq : p ≤ q
  · rw [key q (by omega) hpq (Nat.le_refl _)]
  · rw [key p (by omega) (Nat.le_refl _) (by omega)]

/-- The sum. -/
theorem sum_Z {d e : Datum} {s t : Bool} {N M : Nat} (hd : Z d s N) (he : Z e t M) : ∃ r : Nat, d.sum e = some (.number (if sg s N + sg t M = 0 then s && t else decide (sg s N + sg t M < 0)) ((sg s N + sg t M).natAbs * 2 ^ r) (-(r : Int))) ∧ r ≤ 1074 := by
  obtain ⟨p, rfl, hp1, _⟩ := hd
  obtain ⟨q, rfl, hq1, _⟩ := he
  have key : ∀ r : Nat, min (-(p : Int)) (-(q : Int)) = -(r : Int) → p ≤ r → q ≤ r → r ≤ 1074 → ∃ r : Nat, (Datum.number s (N * 2 ^ p) (-(p : Int))).sum (.number t (M * 2 ^ q) (-(q : Int))) = some (.number (if sg s N + sg t M = 0 then s && t else decide (sg s N + sg t M < 0)) ((sg s N + sg t M).natAbs * 2 ^ r) (-(r : Int))) ∧ r ≤ 1074 := by
    intro r hr h1 h2 h3
    refine ⟨r, ?_, h3⟩
    simp only [Datum.sum]
    rw [hr, signed_Z h1, signed_Z h2, ← Int.add_mul]
    have hp : (0 : Int) < 2 ^ r := by exact_mod_cast Nat.two_pow_pos r
    generalize sg s N + sg t M = a
    have e0 : a * 2 ^ r = 0 ↔ a = 0 := by
      constructor
      · intro h; rcases Int.mul_eq_zero.1 h with h | h
        · exact h
        · omega
      · intro h; rw [h, Int.zero_mul]
    have e1 : a * 2 ^ r < 0 ↔ a < 0 := by
      have : a * 2 ^ r < 0 * 2 ^ r ↔ a < 0 := Int.mul_lt_mul_right hp
      rwa [Int.zero_mul] at this
    have e2 : (a * 2 ^ r).natAbs = a.natAbs * 2 ^ r := by
      rw [Int.natAbs_mul, Int.natAbs_pow]; rfl
    rw [e2]
    by_cases h0 : a = 0
    · simp [h0]
    · rw [if_neg h0, if_neg (fun h => h0 (e0.1 h))]
      congr 2
      simp only [e1]
  by_cases hpq : p ≤ q
  · exact key q (by omega) hpq (Nat.le_refl _) hq1
  · exact key p (by omega) (Nat.le_refl _) (by omega) hp1

/-! #### Which floats are whole -/
theorem word_lt {s : Bool} {r : Nat} (h : r < 2 ^ 63) : f.word s r < 2 ^ 64 ∧ (f.word s r) / 2 ^ 63 % 2 = (if s then 1 else 0) ∧ (f.word s r) % 2 ^ 63 = r := by
  unfold Format.word
  rw [fsw]
  cases s
  · simp only [Bool.false_eq_true, if_false]; omega
  · simp only [if_true]; omega
theorem word_of {b : Nat} (h : b < 2 ^ 64) : b = f.word (b / 2 ^ 63 % 2 == 1) (b % 2 ^ 63) := by
  unfold Format.word
  rw [fsw]
  by_cases hb : b / 2 ^ 63 % 2 = 1
  · rw [hb]; simp; omega
  · have : ((b / 2 ^ 63 % 2) == 1) = false := by rw [beq_eq_false_iff_ne]; exact hb
    rw [this]; simp; omega

/-- What a float's word reads as. -/
theorem read_cases {b : Nat} (h : b < 2 ^ 64) : (∃ s r, r < 2 ^ 52 ∧ b = f.word s r ∧ f.read b = .number s r (-1074)) ∨
    (∃ s E F, 1 ≤ E ∧ E ≤ 2046 ∧ F < 2 ^ 52 ∧ b = f.word s (E * 2 ^ 52 + F) ∧ f.read b = .number s (2 ^ 52 + F) ((E : Int) - 1075)) ∨ (∃ s, f.read b = .infinity s) ∨ ∃ s t, f.read b = .nan s t := by
  have hw := word_of h
  generalize hs : ((b / 2 ^ 63 % 2) == 1) = s at hw
  have hr : b % 2 ^ 63 < 2 ^ 63 := Nat.mod_lt _ (by decide)
  unfold Format.read
  simp only [fsw, fbin, finf, fl, hs]
  by_cases h1 : b % 2 ^ 63 < 2 ^ 52
  · rw [if_pos h1]
    exact .inl ⟨s, _, h1, hw, rfl⟩
  · rw [if_neg h1]
    by_cases h2 : b % 2 ^ 63 < 2047 * 2 ^ 52
    · rw [if_pos h2]
      refine .inr (.inl ⟨s, b % 2 ^ 63 / 2 ^ 52, b % 2 ^ 63 % 2 ^ 52, by omega, by omega, Nat.mod_lt _ (by decide), ?_, ?_⟩)
      · rw [Nat.div_add_mod']; exact hw
      · congr 1; omega
    · rw [if_neg h2]
      by_cases h3 : b % 2 ^ 63 = 2047 * 2 ^ 52
      · rw [if_pos h3]; exact .inr (.inr (.inl ⟨s, rfl⟩))
      · rw [if_neg h3]; exact .inr (.inr (.inr ⟨s, _, rfl⟩))

/-- One word a whole number. -/
theorem canon {b : Nat} {s : Bool} {m d N : Nat} (h : b < 2 ^ 64) (hr : f.read b = .number s m (-(d : Int))) (hm : m = N * 2 ^ d) (hN : N < 2 ^ 53) : b = Fz s N := by
  rcases read_cases h with ⟨s', r, h1, h2, h3⟩ | ⟨s', E, F, h1, h1', h2, h3, h4⟩ | ⟨s', h3⟩ | ⟨s', t, h3⟩
  · rw [h3] at hr
    simp only [Datum.number.injEq] at hr
    obtain ⟨rfl, rfl, hd⟩ := hr
    have hd : d = 1074 := by omega
    have : N = 0 := by
      apply Classical.byContradiction
      intro hn
      have h5 : 2 ^ 52 ≤ 2 ^ d := Nat.pow_le_pow_right (by decide) (by omega)
      have h6 : 1 * 2 ^ d ≤ N * 2 ^ d := Nat.mul_le_mul_right _ (by omega)
      omega
    subst this
    rw [Nat.zero_mul] at hm; subst hm
    rw [h2]; unfold Fz; rw [if_pos rfl]
  · rw [h4] at hr
    simp only [Datum.number.injEq] at hr
    obtain ⟨rfl, rfl, hd⟩ := hr
    have hn : N ≠ 0 := by
      rintro rfl
      rw [Nat.zero_mul] at hm; omega
    have hlog : N.log2 + d = 52 := by
      have e1 := log_mul (p := d) hn
      rw [← hm] at e1
      have e2 : (2 ^ 52 + F).log2 = 52 := (Nat.log2_eq_iff (by omega)).2 ⟨by omega, by omega⟩
      omega
    rw [h3]
    unfold Fz
    rw [if_neg hn, show 52 - N.log2 = d by omega, ← hm]
    have : E * 2 ^ 52 + F = (N.log2 + 1022) * 2 ^ 52 + (2 ^ 52 + F) := by
      have : E = N.log2 + 1023 := by omega
      rw [this, show N.log2 + 1023 = N.log2 + 1022 + 1 from rfl, Nat.add_mul, Nat.one_mul, Nat.add_assoc]
    rw [this]
  · rw [h3] at hr; simp at hr
  · rw [h3] at hr; simp at hr

def geF (a b : Nat) : Bool := f.order a b == some .gt || f.order a b == some .eq
def leF (a b : Nat) : Bool := f.order a b == some .lt || f.order a b == some .eq
def eqF (a b : Nat) : Bool := f.order a b == some .eq
def ltF (a b : Nat) : Bool := f.order a b == some .lt
def gtF (a b : Nat) : Bool := f.order a b == some .gt
def truncF (b : Nat) : Nat := f.write ((f.read b).integral .zero)

theorem order_F {s t : Bool} {N M : Nat} (h1 : N < 2 ^ 53) (h2 : M < 2 ^ 53) : f.order (Fz s N) (Fz t M) = some (compare (sg s N) (sg t M)) := order_Z (Z_Fz h1) (Z_Fz h2)
theorem sg_Fi (n : Int) : sg (decide (n < 0)) n.natAbs = n := by
  unfold sg
  by_cases h : n < 0
  · simp [h]; omega
  · simp [h]; omega
theorem order_Fi {a b : Int} (h1 : a.natAbs < 2 ^ 53) (h2 : b.natAbs < 2 ^ 53) : f.order (Fi a) (Fi b) = some (compare a b) := by
  have := order_F (s := decide (a < 0)) (t := decide (b < 0)) h1 h2
  rw [sg_Fi, sg_Fi] at this; exact this
theorem cmp_gt {a b : Int} : compare a b = .gt ↔ b < a := by
  rw [Int.compare_eq_gt]
theorem cmp_lt {a b : Int} : compare a b = .lt ↔ a < b := by
  rw [Int.compare_eq_lt]
theorem cmp_eq {a b : Int} : compare a b = .eq ↔ a = b := by
  rw [Int.compare_eq_eq]
theorem geF_Fi {a b : Int} (h1 : a.natAbs < 2 ^ 53) (h2 : b.natAbs < 2 ^ 53) : geF (Fi a) (Fi b) = decide (b ≤ a) := by
  unfold geF
  rw [order_Fi h1 h2, Bool.eq_iff_iff]
  simp only [Bool.or_eq_true, beq_iff_eq, Option.some.injEq, cmp_gt, cmp_eq, decide_eq_true_eq]; omega
theorem leF_Fi {a b : Int} (h1 : a.natAbs < 2 ^ 53) (h2 : b.natAbs < 2 ^ 53) : leF (Fi a) (Fi b) = decide (a ≤ b) := by
  unfold leF
  rw [order_Fi h1 h2, Bool.eq_iff_iff]
  simp only [Bool.or_eq_true, beq_iff_eq, Option.some.injEq, cmp_lt, cmp_eq, decide_eq_true_eq]; omega
theorem eqF_Fi {a b : Int} (h1 : a.natAbs < 2 ^ 53) (h2 : b.natAbs < 2 ^ 53) : eqF (Fi a) (Fi b) = decide (a = b) := by
  unfold eqF
  rw [order_Fi h1 h2, Bool.eq_iff_iff]
  simp only [beq_iff_eq, Option.some.injEq, cmp_eq, decide_eq_true_eq]

theorem integral_Z {d : Datum} {s : Bool} {N : Nat} (h : Z d s N) : d.integral .zero = .number s N 0 := by
  obtain ⟨p, rfl, hp1, hp2⟩ := h
  simp only [Datum.integral]
  have e1 : (-(p : Int)).toNat = 0 := by omega
  have e2 : (- -(p : Int)).toNat = p := by omega
  rw [e1, e2, Nat.shiftLeft_zero]
  by_cases hn : N = 0
  · subst hn
    rw [Nat.zero_mul]
    congr 1
    unfold Toward.cut; simp
  · rw [cut_exact _ _ hn (Nat.le_refl _), Nat.sub_self, Nat.pow_zero, Nat.mul_one]
theorem truncF_Fz {s : Bool} {N : Nat} (h : N < 2 ^ 53) : truncF (Fz s N) = Fz s N := by
  unfold truncF
  rw [integral_Z (Z_Fz h)]
  have := nearest_Fz (s := s) (p := 0) h (by omega)
  simpa [Format.write] using this
theorem toInt_F {s : Bool} {N : Nat} (h : N < 2 ^ 53) : (f.read (Fz s N)).toInt .zero = some (sg s N) := by
  unfold Datum.toInt
  rw [integral_Z (Z_Fz h)]
  unfold Ieee.signed sg
  simp
end Go.Fx.Flt

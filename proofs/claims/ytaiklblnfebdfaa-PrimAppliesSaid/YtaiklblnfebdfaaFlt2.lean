/-
  The floats that are numbers of the program: whole, within the bound, no -0.
-/
import Derived.Test.YtaiklblnfebdfaaFlt
set_option linter.all false
namespace Go.Fx.Flt
open Go Ieee

theorem signed_mul {s : Bool} {m k : Nat} : Ieee.signed s m k = sg s (m * 2 ^ k) := by
  unfold Ieee.signed sg
  rw [Nat.shiftLeft_eq]
theorem sg_inj {s : Bool} {a b : Nat} (h : sg s a = sg s b) : a = b := by
  unfold sg at h
  cases s
  · simp only [Bool.false_eq_true, if_false] at h; omega
  · simp only [if_true] at h; omega

theorem order_eq {s : Bool} {m m' d d' : Nat} (h : (Datum.number s m (-(d : Int))).order (.number s m' (-(d' : Int))) = some .eq) : m * 2 ^ d' = m' * 2 ^ d := by
  simp only [Datum.order, Option.some.injEq, cmp_eq] at h
  by_cases hd : d ≤ d'
  · rw [show min (-(d : Int)) (-(d' : Int)) = -(d' : Int) by omega, show (-(d : Int) - -(d' : Int)).toNat = d' - d by omega, show (-(d' : Int) - -(d' : Int)).toNat = 0 by omega, signed_mul, signed_mul] at h
    have := sg_inj h
    rw [Nat.pow_zero, Nat.mul_one] at this
    rw [← this, Nat.mul_assoc, ← Nat.pow_add]
    congr 2; omega
  · rw [show min (-(d : Int)) (-(d' : Int)) = -(d : Int) by omega, show (-(d : Int) - -(d : Int)).toNat = 0 by omega, show (-(d' : Int) - -(d : Int)).toNat = d - d' by omega, signed_mul, signed_mul] at h
    have := sg_inj h
    rw [Nat.pow_zero, Nat.mul_one] at this
    rw [this, Nat.mul_assoc, ← Nat.pow_add]
    congr 2; omega

theorem cut_div {s : Bool} {m d : Nat} (hm : m < 2 ^ 53) : Toward.zero.cut s m d = m / 2 ^ d := by
  unfold Toward.cut
  simp only [Bool.toNat_false, Nat.add_zero, Nat.one_shiftLeft]
  by_cases h : d ≤ m.log2 + 2
  · rw [Nat.min_eq_left h]
  · rw [Nat.min_eq_right (by omega)]
    have h1 : m < 2 ^ (m.log2 + 2) := by
      by_cases h0 : m = 0
      · subst h0; exact Nat.two_pow_pos _
      · have := (log_bounds h0).2
        have h2 : 2 ^ (m.log2 + 1) ≤ 2 ^ (m.log2 + 2) := Nat.pow_le_pow_right (by decide) (by omega)
        omega
    have h2 : 2 ^ (m.log2 + 2) ≤ 2 ^ d := Nat.pow_le_pow_right (by decide) (by omega)
    rw [Nat.div_eq_of_lt h1, Nat.div_eq_of_lt (by omega)]

abbrev cm : Nat := 13938640846711685120
abbrev cM : Nat := 4715268809856909312
theorem cm_Fi : Fi (-16777216) = cm := by decide
theorem cM_Fi : Fi 16777216 = cM := by decide
theorem Fi_0 : Fi 0 = 0 := by decide
theorem read_cM : f.read cM = .number false (2 ^ 52) (-28) := by decide
theorem read_cm : f.read cm = .number true (2 ^ 52) (-28) := by decide

theorem big_out {s : Bool} {m e : Nat} (hm : 2 ^ 52 ≤ m) : (s = false → (Datum.number s m (e : Int)).order (.number false (2 ^ 52) (-28)) = some .gt) ∧ (s = true → (Datum.number s m (e : Int)).order (.number true (2 ^ 52) (-28)) = some .lt) := by
  have hb : min (e : Int) (-28) = -28 := by omega
  have e1 : ((e : Int) - -28).toNat = e + 28 := by omega
  have hp : 2 ^ 28 ≤ 2 ^ (e + 28) := Nat.pow_le_pow_right (by decide) (by omega)
  have h1 : 2 ^ 52 * 2 ^ 28 ≤ m * 2 ^ (e + 28) := Nat.mul_le_mul hm hp
  refine ⟨?_, ?_⟩
  · rintro rfl
    simp only [Datum.order, hb, e1, signed_mul, Option.some.injEq, cmp_gt, sg]
    simp only [Bool.false_eq_true, if_false]
    have : (-28 - -28 : Int).toNat = 0 := by decide
    rw [this]; omega
  · rintro rfl
    simp only [Datum.order, hb, e1, signed_mul, Option.some.injEq, cmp_lt, sg]
    simp only [if_true]
    have : (-28 - -28 : Int).toNat = 0 := by decide
    rw [this]; omega

/-- A float within the bound has a whole part, and is it if it is equal to it. -/
theorem range_int {b : Nat} (hb : b < 2 ^ 64) (h1 : geF b cm = true) (h2 : leF b cM = true) : ∃ s K, K < 2 ^ 53 ∧ (f.read b).integral .zero = .number s K 0 ∧ (eqF b (Fz s K) = true → K ≤ 16777216 ∧ b = Fz s K) := by
  have fin : ∀ s K, b = Fz s K → K < 2 ^ 53 → K ≤ 16777216 := by
    rintro s K rfl hK
    rw [← cm_Fi] at h1; rw [← cM_Fi] at h2
    have o1 := order_F (s := s) (t := true) hK (show (16777216 : Nat) < 2 ^ 53 by decide)
    have o2 := order_F (s := s) (t := false) hK (show (16777216 : Nat) < 2 ^ 53 by decide)
    have f1 : Fi (-16777216) = Fz true 16777216 := rfl
    have f2 : Fi 16777216 = Fz false 16777216 := rfl
    rw [f1] at h1; rw [f2] at h2
    unfold geF at h1
    unfold leF at h2
    rw [o1] at h1; rw [o2] at h2
    simp only [Bool.or_eq_true, beq_iff_eq, Option.some.injEq, cmp_gt, cmp_lt, cmp_eq, sg] at h1 h2
    cases s
    · simp only [Bool.false_eq_true, if_false] at h2; omega
    · simp only [if_true] at h1; omega
  rcases read_cases hb with ⟨s, r, g1, g2, g3⟩ | ⟨s, E, F, g1, g1', g2, g3, g4⟩ | ⟨s, g3⟩ | ⟨s, t, g3⟩
  · have hr : f.read b = .number s r (-((1074 : Nat) : Int)) := g3
    have hi : (f.read b).integral .zero = .number s (r / 2 ^ 1074) 0 := by
      rw [hr]
      simp only [Datum.integral]
      rw [show (-((1074 : Nat) : Int)).toNat = 0 by omega, show (- -((1074 : Nat) : Int)).toNat = 1074 by omega, Nat.shiftLeft_zero, cut_div (by omega)]
    have hK : r / 2 ^ 1074 < 2 ^ 53 := Nat.lt_of_le_of_lt (Nat.div_le_self _ _) (by omega)
    refine ⟨s, _, hK, hi, fun he => ?_⟩
    obtain ⟨p, q1, q2, q3⟩ := Z_Fz (s := s) hK
    unfold eqF Format.order at he
    rw [hr, q1, beq_iff_eq] at he
    have hm := order_eq he
    have hm2 : r = r / 2 ^ 1074 * 2 ^ 1074 := by
      have hp := Nat.two_pow_pos p
      refine Nat.eq_of_mul_eq_mul_right hp ?_
      rw [hm, Nat.mul_assoc, Nat.mul_assoc, Nat.mul_comm (2 ^ p)]
    have hc := canon hb hr hm2 hK
    exact ⟨fin _ _ hc hK, hc⟩
  · by_cases hE : 1075 ≤ E
    · exfalso
      have hbig := big_out (s := s) (m := 2 ^ 52 + F) (e := E - 1075) (by omega)
      have hre : f.read b = .number s (2 ^ 52 + F) ((E - 1075 : Nat) : Int) := by rw [g4]; congr 1; omega
      cases s
      · unfold leF Format.order at h2
        rw [read_cM, hre, hbig.1 rfl] at h2; simp at h2
      · unfold geF Format.order at h1
        rw [read_cm, hre, hbig.2 rfl] at h1; simp at h1
    · obtain ⟨d, hd⟩ : ∃ d : Nat, d = 1075 - E := ⟨_, rfl⟩
      have hr : f.read b = .number s (2 ^ 52 + F) (-(d : Int)) := by rw [g4]; congr 1; omega
      have hi : (f.read b).integral .zero = .number s ((2 ^ 52 + F) / 2 ^ d) 0 := by
        rw [hr]
        simp only [Datum.integral]
        rw [show (-(d : Int)).toNat = 0 by omega, show (- -(d : Int)).toNat = d by omega, Nat.shiftLeft_zero, cut_div (by omega)]
      have hK : (2 ^ 52 + F) / 2 ^ d < 2 ^ 53 := Nat.lt_of_le_of_lt (Nat.div_le_self _ _) (by omega)
      refine ⟨s, _, hK, hi, fun he => ?_⟩
      obtain ⟨p, q1, q2, q3⟩ := Z_Fz (s := s) hK
      unfold eqF Format.order at he
      rw [hr, q1, beq_iff_eq] at he
      have hm := order_eq he
      have hm2 : 2 ^ 52 + F = (2 ^ 52 + F) / 2 ^ d * 2 ^ d := by
        have hp := Nat.two_pow_pos p
        refine Nat.eq_of_mul_eq_mul_right hp ?_
        rw [hm, Nat.mul_assoc, Nat.mul_assoc, Nat.mul_comm (2 ^ p)]
      have hc := canon hb hr hm2 hK
      exact ⟨fin _ _ hc hK, hc⟩
  · exfalso
    cases s
    · unfold leF Format.order at h2
      rw [read_cM, g3] at h2; simp [Datum.order] at h2
    · unfold geF Format.order at h1
      rw [read_cm, g3] at h1; simp [Datum.order] at h1
  · exfalso
    unfold leF Format.order at h2
    rw [g3] at h2; simp [Datum.order] at h2

theorem whole_of {b : Nat} (hb : b < 2 ^ 64) (h1 : geF b cm = true) (h2 : leF b cM = true) (h3 : ∀ s K, K < 2 ^ 53 → (f.read b).integral .zero = .number s K 0 → eqF b (Fz s K) = true) : ∃ s K, K ≤ 16777216 ∧ b = Fz s K :=
  let ⟨s, K, hK, hi, hf⟩ := range_int hb h1 h2
  ⟨s, K, hf (h3 s K hK hi)⟩

theorem Fz_Fi {s : Bool} {K : Nat} (h : K ≠ 0 ∨ s = false) : Fz s K = Fi (sg s K) := by
  unfold Fi
  have h1 : (sg s K).natAbs = K := by unfold sg; cases s <;> simp
  have h2 : decide (sg s K < 0) = s := by
    unfold sg
    cases s
    · simp
    · have : K ≠ 0 := by simpa using h
      simp; omega
  rw [h1, h2]
theorem sg_abs {s : Bool} {K : Nat} : (sg s K).natAbs = K := by unfold sg; cases s <;> simp
theorem Fz_lt {s : Bool} {K : Nat} (h : K < 2 ^ 53) : Fz s K < 2 ^ 64 ∧ (Fz s K < 2 ^ 63 ↔ s = false) := by
  have hr : (if K = 0 then 0 else (K.log2 + 1022) * 2 ^ 52 + K * 2 ^ (52 - K.log2)) < 2 ^ 63 := by
    split
    · decide
    · rename_i h0
      have := log_lt h0 h
      obtain ⟨m1, m2⟩ := mant h0 h
      have : (K.log2 + 1022) * 2 ^ 52 ≤ 1074 * 2 ^ 52 := Nat.mul_le_mul_right _ (by omega)
      omega
  obtain ⟨w1, w2, w3⟩ := word_lt (s := s) hr
  have e : Fz s K = f.word s (if K = 0 then 0 else (K.log2 + 1022) * 2 ^ 52 + K * 2 ^ (52 - K.log2)) := rfl
  rw [← e] at w1 w2
  refine ⟨w1, ?_⟩
  generalize Fz s K = x at *
  cases s
  · simp only [Bool.false_eq_true, if_false] at w2; constructor
    · intro _; rfl
    · intro _; omega
  · simp only [if_true] at w2; constructor
    · intro h; omega
    · intro h; simp at h

/-- The bits of a number of the program's. -/
def Pl (b : Nat) (n : Int) : Prop := b = Fi n ∧ n.natAbs ≤ 16777216

def plainB (b : Nat) : Bool := geF b cm && (leF b cM && (eqF b (truncF b) && (!eqF b 0 || decide (b < 2 ^ 63))))
theorem plainB_yes {b : Nat} {n : Int} (h : Pl b n) : plainB b = true := by
  obtain ⟨rfl, hn⟩ := h
  have h1 : n.natAbs < 2 ^ 53 := by omega
  unfold plainB
  rw [← cm_Fi, ← cM_Fi, geF_Fi h1 (by decide), leF_Fi h1 (by decide)]
  have e0 : eqF (Fi n) 0 = decide (n = 0) := by
    have := eqF_Fi (a := n) (b := 0) h1 (by decide)
    rwa [Fi_0] at this
  have e1 : truncF (Fi n) = Fi n := truncF_Fz h1
  rw [e0, e1, eqF_Fi h1 h1]
  have e2 := (Fz_lt (s := decide (n < 0)) h1).2
  have e3 : (Fi n < 2 ^ 63) ↔ ¬ n < 0 := by
    unfold Fi; rw [e2]; simp
  have e4 : decide (Fi n < 2 ^ 63) = decide (¬ n < 0) := by simp only [e3]
  rw [e4]
  have a1 : decide (-16777216 ≤ n) = true := decide_eq_true (by omega)
  have a2 : decide (n ≤ 16777216) = true := decide_eq_true (by omega)
  rw [a1, a2]
  by_cases h0 : n = 0
  · subst h0; decide
  · simp [h0]
theorem plainB_of {b : Nat} (hb : b < 2 ^ 64) (h : plainB b = true) : ∃ n, Pl b n := by
  unfold plainB at h
  simp only [Bool.and_eq_true, Bool.or_eq_true, Bool.not_eq_true', decide_eq_true_eq] at h
  obtain ⟨h1, h2, h3, h4⟩ := h
  obtain ⟨s, K, hK, rfl⟩ := whole_of hb h1 h2 (fun s K hK hi => by
    unfold truncF at h3
    rw [hi] at h3
    have := nearest_Fz (s := s) (p := 0) hK (by omega)
    simp only [Nat.pow_zero, Nat.mul_one] at this
    have hw : f.write (.number s K 0) = Fz s K := this
    rwa [hw] at h3)
  have hK' : K < 2 ^ 53 := by omega
  refine ⟨sg s K, Fz_Fi ?_, by rw [sg_abs]; exact hK⟩
  by_cases h0 : K = 0
  · right
    rcases h4 with h4 | h4
    · subst h0
      exfalso
      have := order_F (s := s) (t := false) (N := 0) (M := 0) (by decide) (by decide)
      have e0 : Fz false 0 = 0 := by decide
      rw [e0] at this
      unfold eqF at h4
      rw [this] at h4
      unfold sg at h4
      cases s <;> simp [compare, compareOfLessAndEq] at h4
    · exact (Fz_lt hK').2.1 h4
  · exact .inl h0

theorem order_swap (d e : Datum) (h : d.order e = some .eq) : e.order d = some .eq := by
  cases d <;> cases e <;> simp only [Datum.order, Option.some.injEq] at h ⊢ <;> try simp at h
  · rename_i s m i t n j
    try rw [cmp_eq] at h
    rw [cmp_eq, Int.min_comm (j : Int) i]
    exact h.symm
  · split at h <;> simp at h
  · split at h <;> simp at h
  · rename_i s t
    cases s <;> cases t <;> simp_all <;> decide
theorem eqF_swap {a b : Nat} (h : eqF a b = true) : eqF b a = true := by
  unfold eqF Format.order at h ⊢
  rw [beq_iff_eq] at h ⊢
  exact order_swap _ _ h
theorem order_zero (d : Datum) (s t : Bool) (e : Int) : d.order (.number s 0 e) = d.order (.number t 0 e) := by
  have h : ∀ (s : Bool) k, Ieee.signed s 0 k = 0 := fun s k => by unfold Ieee.signed; cases s <;> simp
  cases d <;> simp [Datum.order, h]

/-- The number that a float stands for. -/
def nv (b : Nat) : Int := ((f.read b).toInt .zero).getD 0
theorem nv_Fi {n : Int} (h : n.natAbs < 2 ^ 53) : nv (Fi n) = n := by
  unfold nv Fi
  rw [toInt_F h, Option.getD_some, sg_Fi]
theorem Pl_nv {b : Nat} {n : Int} (h : Pl b n) : nv b = n := by
  obtain ⟨rfl, hn⟩ := h
  exact nv_Fi (by omega)
theorem plain_Pl {b : Nat} (hb : b < 2 ^ 64) (h : plainB b = true) : Pl b (nv b) := by
  obtain ⟨n, hn⟩ := plainB_of hb h
  rw [Pl_nv hn]; exact hn

/-- A float that is no number of the program's, yet in its bounds and no -0: its whole part is another one. -/
theorem part_no {b : Nat} (hb : b < 2 ^ 64) (hp : plainB b = false) (h1 : geF b cm = true) (h2 : leF b cM = true) (h4 : eqF b 0 = true → b = 0) :
    ∃ n : Int, n.natAbs < 2 ^ 53 ∧ (f.read b).toInt .zero = some n ∧ eqF (Fi n) b = false := by
  obtain ⟨s, K, hK, hi, hf⟩ := range_int hb h1 h2
  have ht : (f.read b).toInt .zero = some (sg s K) := by
    unfold Datum.toInt
    rw [hi]
    simp only [signed_mul, Nat.pow_zero, Nat.mul_one]
  refine ⟨sg s K, by rw [sg_abs]; exact hK, ht, ?_⟩
  cases he : eqF (Fi (sg s K)) b with
  | false => rfl
  | true =>
    exfalso
    have he2 := eqF_swap he
    have hc : eqF b (Fz s K) = true := by
      by_cases h0 : K ≠ 0 ∨ s = false
      · rw [Fz_Fi h0]; exact he2
      · have hK0 : K = 0 := by
          apply Classical.byContradiction
          intro h; exact h0 (.inl h)
        subst hK0
        have e1 : sg s 0 = 0 := by unfold sg; cases s <;> simp
        rw [e1] at he2
        unfold eqF Format.order at he2 ⊢
        rw [read_zero, order_zero _ s false]
        have : Fi 0 = Fz false 0 := rfl
        rw [this, read_zero] at he2
        exact he2
    obtain ⟨g1, g2⟩ := hf hc
    have hpl : ∃ n, Pl b n := by
      by_cases h0 : K ≠ 0 ∨ s = false
      · exact ⟨sg s K, g2.trans (Fz_Fi h0), by rw [sg_abs]; exact g1⟩
      · have hK0 : K = 0 := by
          apply Classical.byContradiction
          intro h; exact h0 (.inl h)
        subst hK0
        have : b = 0 := h4 (by
          rw [g2]
          cases s <;> decide)
        exact ⟨0, by rw [this]; decide, by decide⟩
    obtain ⟨n, hn⟩ := hpl
    rw [plainB_yes hn] at hp; simp at hp
end Go.Fx.Flt

/-
  Floats of 64 bits that are whole numbers (either zero is 0): sums, differences, products, exact quotients, comparisons.
-/
import Derived.Test.YtaiklblnfebdfaaFlt2
set_option linter.all false
namespace Go.Fx.Flt
open Go Ieee
/-- b is the float of the whole number n (either zero for 0). -/
def isW (b : Nat) (n : Int) : Prop := ∃ s N, N < 2 ^ 53 ∧ b = Fz s N ∧ sg s N = n
theorem isW_Fi {n : Int} (h : n.natAbs < 2 ^ 53) : isW (Fi n) n := ⟨_, _, h, rfl, sg_Fi n⟩
theorem isW_zero : isW 0 0 := ⟨false, 0, by decide, by decide, rfl⟩
theorem isW_lt {b : Nat} {n : Int} (h : isW b n) : b < 2 ^ 64 := by
  obtain ⟨s, N, hN, rfl, _⟩ := h
  exact (Fz_lt hN).1
theorem isW_Pl {b : Nat} {n : Int} (h : Pl b n) : isW b n := by
  obtain ⟨rfl, h⟩ := h
  exact isW_Fi (by omega)
theorem Fz_abs {a : Int} {s : Bool} (h : a ≠ 0) : Fz (decide (a < 0)) a.natAbs = Fi a := rfl
theorem sgn_abs {a : Int} : sg (decide (a < 0)) a.natAbs = a := sg_Fi a
theorem add_W {a b : Nat} {n m : Int} (ha : isW a n) (hb : isW b m) (h : (n + m).natAbs < 2 ^ 53) : ∃ r, f.add a b = some r ∧ isW r (n + m) := by
  obtain ⟨s, N, hN, rfl, rfl⟩ := ha
  obtain ⟨t, M, hM, rfl, rfl⟩ := hb
  obtain ⟨r, h1, h2⟩ := sum_Z (Z_Fz (s := s) hN) (Z_Fz (s := t) hM)
  unfold Format.add
  rw [h1]
  refine ⟨_, rfl, if sg s N + sg t M = 0 then s && t else decide (sg s N + sg t M < 0), _, h, ?_, ?_⟩
  · exact nearest_Fz h (by omega)
  · by_cases h0 : sg s N + sg t M = 0
    · rw [h0]; cases s <;> cases t <;> rfl
    · rw [if_neg h0]; exact sgn_abs
/-- With +0 added there is no -0. -/
theorem add_0 {a : Nat} {n : Int} (ha : isW a n) : f.add a 0 = some (Fi n) := by
  obtain ⟨s, N, hN, rfl, rfl⟩ := ha
  have hz : Z (f.read 0) false 0 := by
    have := Z_Fz (s := false) (N := 0) (by decide)
    have e : Fz false 0 = 0 := by decide
    rwa [e] at this
  obtain ⟨r, h1, h2⟩ := sum_Z (Z_Fz (s := s) hN) hz
  have e : sg s N + sg false 0 = sg s N := by simp [sg]
  rw [e] at h1
  unfold Format.add
  rw [h1]
  have h : (sg s N).natAbs < 2 ^ 53 := by rw [sg_abs]; exact hN
  have := nearest_Fz (s := if sg s N = 0 then s && false else decide (sg s N < 0)) h (show r ≤ 100000 by omega)
  show some (f.nearest _ _ _) = _
  rw [this]
  unfold Fi
  congr 2
  by_cases h0 : sg s N = 0
  · rw [if_pos h0, h0]; simp
  · rw [if_neg h0]
theorem opp_Z {d : Datum} {s : Bool} {N : Nat} (h : Z d s N) : Z d.opposite (!s) N := by
  obtain ⟨p, rfl, h1, h2⟩ := h
  exact ⟨p, rfl, h1, h2⟩
theorem sg_not {s : Bool} {N : Nat} : sg (!s) N = - sg s N := by cases s <;> simp [sg]
theorem sub_W {a b : Nat} {n m : Int} (ha : isW a n) (hb : isW b m) (h : (n - m).natAbs < 2 ^ 53) : ∃ r, f.sub a b = some r ∧ isW r (n - m) := by
  obtain ⟨s, N, hN, rfl, rfl⟩ := ha
  obtain ⟨t, M, hM, rfl, rfl⟩ := hb
  obtain ⟨r, h1, h2⟩ := sum_Z (Z_Fz (s := s) hN) (opp_Z (Z_Fz (s := t) hM))
  rw [sg_not, ← Int.sub_eq_add_neg] at h1
  unfold Format.sub
  rw [h1]
  refine ⟨_, rfl, if sg s N - sg t M = 0 then s && !t else decide (sg s N - sg t M < 0), _, h, ?_, ?_⟩
  · exact nearest_Fz h (by omega)
  · by_cases h0 : sg s N - sg t M = 0
    · rw [h0]; cases s <;> cases t <;> rfl
    · rw [if_neg h0]; exact sgn_abs
theorem sg_mul {s t : Bool} {N M : Nat} : sg (s ^^ t) (N * M) = sg s N * sg t M := by
  cases s <;> cases t <;> simp [sg, Int.neg_mul, Int.mul_neg]
theorem mul_W {a b : Nat} {n m : Int} (ha : isW a n) (hb : isW b m) (h : (n * m).natAbs < 2 ^ 53) : ∃ r, f.mul a b = some r ∧ isW r (n * m) := by
  obtain ⟨s, N, hN, rfl, rfl⟩ := ha
  obtain ⟨t, M, hM, rfl, rfl⟩ := hb
  obtain ⟨p, h1, p1, _⟩ := Z_Fz (s := s) hN
  obtain ⟨q, h2, q1, _⟩ := Z_Fz (s := t) hM
  unfold Format.mul
  rw [h1, h2]
  have hNM : N * M < 2 ^ 53 := by rwa [Int.natAbs_mul, sg_abs, sg_abs] at h
  refine ⟨_, rfl, s ^^ t, N * M, hNM, ?_, sg_mul⟩
  show f.nearest (s ^^ t) (N * 2 ^ p * (M * 2 ^ q)) (-(p : Int) + -(q : Int)) = _
  have e : N * 2 ^ p * (M * 2 ^ q) = N * M * 2 ^ (p + q) := by rw [Nat.pow_add]; simp only [Nat.mul_assoc, Nat.mul_left_comm]
  rw [e, show -(p : Int) + -(q : Int) = -((p + q : Nat) : Int) by omega]
  exact nearest_Fz hNM (by omega)
theorem nearest_none {s : Bool} {e : Int} : f.nearest s 0 e = Fz s 0 := by unfold Format.nearest Fz; simp
/-- A quotient that comes out. -/
theorem div_W {a b : Nat} {n m : Int} (ha : isW a (n * m)) (hb : isW b m) (hm : m ≠ 0) : ∃ r, f.div a b = some r ∧ isW r n := by
  obtain ⟨s, N, hN, rfl, h1⟩ := ha
  obtain ⟨t, M, hM, rfl, rfl⟩ := hb
  have hM0 : M ≠ 0 := fun h => hm (by rw [h]; cases t <;> rfl)
  obtain ⟨K, rfl, hK⟩ : ∃ K, N = K * M ∧ K = n.natAbs := ⟨n.natAbs, by
    have := congrArg Int.natAbs h1
    rwa [sg_abs, Int.natAbs_mul, sg_abs] at this, rfl⟩
  have hKl : K < 2 ^ 53 := Nat.lt_of_le_of_lt (Nat.le_mul_of_pos_right K (by omega)) hN
  have hs : K ≠ 0 → sg (s ^^ t) K = n := by
    intro h0
    have h2 : sg (s ^^ t) K * sg t M = n * sg t M := by
      rw [← sg_mul, ← h1]
      congr 1
      cases s <;> cases t <;> rfl
    exact Int.eq_of_mul_eq_mul_right hm h2
  obtain ⟨p, r1, p1, p2⟩ := Z_Fz (s := s) hN
  obtain ⟨q, r2, q1, q2⟩ := Z_Fz (s := t) hM
  have q3 := q2 hM0
  unfold Format.div
  rw [r1, r2]
  have hn0 : M * 2 ^ q ≠ 0 := Nat.mul_ne_zero hM0 (Nat.ne_of_gt (Nat.two_pow_pos q))
  simp only [Datum.quotient, if_neg hn0, Option.map_some]
  refine ⟨_, rfl, s ^^ t, K, hKl, ?_, ?_⟩
  · by_cases h0 : K = 0
    · subst h0
      simp only [Nat.zero_mul, Nat.zero_shiftLeft, Nat.zero_div, Nat.zero_mod]
      exact nearest_none
    · have hKM : K * M ≠ 0 := Nat.mul_ne_zero h0 hM0
      have p3 := p2 hKM
      generalize hmore : f.fractionBits + 2 + (M * 2 ^ q).log2 - (K * M * 2 ^ p).log2 = more
      have hlog : (K * M).log2 ≤ 52 := log_lt hKM hN
      have hlogM : M.log2 ≤ 52 := log_lt hM0 hM
      rw [log_mul hM0, log_mul hKM, fb] at hmore
      have hge : q ≤ p + more := by omega
      have e1 : (K * M * 2 ^ p) <<< more = K * 2 ^ (p + more - q) * (M * 2 ^ q) := by
        rw [Nat.shiftLeft_eq, Nat.mul_assoc, ← Nat.pow_add]
        have : 2 ^ (p + more) = 2 ^ (p + more - q) * 2 ^ q := by rw [← Nat.pow_add]; congr 1; omega
        rw [this]; simp only [Nat.mul_assoc, Nat.mul_left_comm]
      have hpos : 0 < M * 2 ^ q := Nat.pos_of_ne_zero hn0
      rw [e1, Nat.mul_div_cancel _ hpos, Nat.mul_mod_left]
      have e2 : 2 * (K * 2 ^ (p + more - q)) + (0 != 0).toNat = K * 2 ^ (p + more - q + 1) := by
        rw [Nat.pow_succ]; simp only [bne_self_eq_false, Bool.toNat_false, Nat.add_zero]
        rw [Nat.mul_comm 2, Nat.mul_assoc]
      rw [e2]
      have e3 : -(p : Int) - -(q : Int) - (more : Int) - 1 = -((p + more - q + 1 : Nat) : Int) := by omega
      rw [e3]
      exact nearest_Fz hKl (by omega)
  · by_cases h0 : K = 0
    · have : n = 0 := by omega
      rw [this, h0]; cases s <;> cases t <;> rfl
    · exact hs h0
theorem order_W {a b : Nat} {n m : Int} (ha : isW a n) (hb : isW b m) : f.order a b = some (compare n m) := by
  obtain ⟨s, N, hN, rfl, rfl⟩ := ha
  obtain ⟨t, M, hM, rfl, rfl⟩ := hb
  exact order_F hN hM
theorem eqF_W {a b : Nat} {n m : Int} (ha : isW a n) (hb : isW b m) : eqF a b = decide (n = m) := by
  unfold eqF; rw [order_W ha hb]
  by_cases h : n = m
  · rw [cmp_eq.2 h]; simp [h]
  · have : compare n m ≠ .eq := fun h2 => h (cmp_eq.1 h2)
    cases h2 : compare n m <;> simp_all
theorem ltF_W {a b : Nat} {n m : Int} (ha : isW a n) (hb : isW b m) : ltF a b = decide (n < m) := by
  unfold ltF; rw [order_W ha hb]
  by_cases h : n < m
  · rw [cmp_lt.2 h]; simp [h]
  · have : compare n m ≠ .lt := fun h2 => h (cmp_lt.1 h2)
    cases h2 : compare n m <;> simp_all
theorem geF_W {a b : Nat} {n m : Int} (ha : isW a n) (hb : isW b m) : geF a b = decide (m ≤ n) := by
  unfold geF; rw [order_W ha hb]
  rcases Int.lt_trichotomy n m with h | h | h
  · rw [cmp_lt.2 h]; simp; omega
  · rw [cmp_eq.2 h]; simp; omega
  · rw [cmp_gt.2 h]; simp; omega
end Go.Fx.Flt

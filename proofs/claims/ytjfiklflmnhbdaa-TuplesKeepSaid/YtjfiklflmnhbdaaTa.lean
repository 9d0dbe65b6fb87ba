/-
  Tuples: Count, Number, Tuple of the program and of the reference.
-/
import Derived.Test.YtjfiklflmnhbdaaCodeTup
import Derived.Test.YtjfiklflmnhbdaaPt0
import Derived.Test.YtjfiklflmnhbdaaBk
set_option linter.all false
set_option maxRecDepth 100000
set_option maxHeartbeats 4000000
namespace Go.Fx.Ytjfiklflmnhbdaa
open Go Go.Fx Go.Proofs
/-! ### Plain -/
def okT (ts : List Int) : Prop := ∀ t ∈ ts, 0 ≤ tp t
instance (ts : List Int) : Decidable (okT ts) := by unfold okT; infer_instance
def pr : List Int → Int
  | [] => 1
  | t :: ts => (tp t + 1) * pr ts
def cntF (ts : List Int) : Int × Int := if okT ts then (if 4096 < pr ts then (0, 22) else (pr ts, 0)) else (0, 3)
theorem pr_cons (t : Int) (ts : List Int) : pr (t :: ts) = (tp t + 1) * pr ts := rfl
theorem tp_is (t : Int) : tp t = -1 ∨ tp t = 1 ∨ tp t = 3 := by
  rcases tp_cases t with ⟨_, h⟩ | ⟨_, h⟩ | ⟨_, h⟩ | ⟨_, _, _, h⟩ <;> simp [h]
theorem pr_nn : ∀ (ts : List Int), 0 ≤ pr ts
  | [] => by simp [pr]
  | t :: ts => by
    unfold pr
    rcases tp_is t with h | h | h <;> rw [h] <;> have := pr_nn ts <;> omega
theorem okT_tl {t : Int} {ts : List Int} (h : okT (t :: ts)) : 0 ≤ tp t ∧ okT ts := ⟨h t (by simp), fun u hu => h u (by simp [hu])⟩
theorem okT_drop {ts : List Int} (h : okT ts) (i : Nat) : okT (ts.drop i) := fun t ht => h t (List.mem_of_mem_drop ht)
theorem pr_pos : ∀ {ts : List Int}, okT ts → 1 ≤ pr ts
  | [], _ => by simp [pr]
  | t :: ts, h => by
    unfold pr
    obtain ⟨h1, h2⟩ := okT_tl h
    have := pr_pos h2
    rcases tp_is t with h | h | h <;> rw [h] <;> omega
theorem min_mul {a P : Int} (hP : 0 ≤ P) : min (min a 4097 * P) 4097 = min (a * P) 4097 := by
  by_cases h : a ≤ 4097
  · have e : min a 4097 = a := Int.min_eq_left h
    rw [e]
  · have e : min a 4097 = 4097 := Int.min_eq_right (by omega)
    rw [e]
    by_cases h0 : P = 0
    · subst h0; simp
    · have h1 : 4097 * 1 ≤ 4097 * P := Int.mul_le_mul_of_nonneg_left (by omega) (by omega)
      have h2 : 4097 * P ≤ a * P := Int.mul_le_mul_of_nonneg_right (by omega) hP
      omega
theorem drop_at {l : List Int} {i : Nat} (h : i < l.length) : l.drop i = l[i] :: l.drop (i + 1) := List.drop_eq_getElem_cons h
theorem wrS {x : Int} (h1 : -100000 ≤ x) (h2 : x ≤ 100000) : IntKind.i64.wrap x = x := wr64 (by omega) (by omega)
/-! ### Count -/
theorem size_c (t : Int) : Pure Try.prog 32 [I t] (.tup [I (if tp t < 0 then 1 else tp t + 1), I (if tp t < 0 then 3 else 0)]) := by
  refine pu32 (by simp) ?_
  simp -implicitDefEqProofs [ac32]
  refine pcK_of (Top_c t) (by simp) ?_
  simp -implicitDefEqProofs
  have w := wrS (x := tp t + 1) (by have := tp_is t; omega) (by have := tp_is t; omega)
  by_cases h : tp t < 0
  · simp -implicitDefEqProofs [topF, h]
    decide
  · simp -implicitDefEqProofs [topF, h, w]
theorem Count_c16 (ts : List Int) (hl : ts.length < 2 ^ 48) : Pure Try.prog 10 [.sl (em encI ts)] (.tup [I (cntF ts).1, I (cntF ts).2]) := by
  refine pu10 (by simp) ?_
  simp -implicitDefEqProofs [ac10]
  refine lp10_0 (α := Nat × Int) (fun s _ => [(2, .top), (3, .top), (4, I s.2), (6, .top), (7, .top), (8, .top), (11, I s.1)]) (fun s _ => []) (fun s k => s.1 ≤ ts.length ∧ okT (ts.take s.1) ∧ 1 ≤ s.2 ∧ s.2 ≤ 4097 ∧ min (s.2 * pr (ts.drop s.1)) 4097 = min (pr ts) 4097) (fun s => ts.length - s.1) (0, 1) ⟨by simp, by simp [okT], by simp, by simp, by simp⟩ (by simp) (by simp) ?_
  rintro ⟨i, n⟩ k ⟨hi, ho, hn1, hn2, hp⟩
  simp only at hi ho hn1 hn2 hp
  by_cases hlt : i < ts.length
  · obtain ⟨t, ht⟩ : ∃ t, ts[i] = t := ⟨_, rfl⟩
    rw [drop_at hlt, ht] at hp
    rw [pr_cons] at hp
    have w1 := wr64 (x := (i : Int) + 1) (by omega) (by omega)
    simp -implicitDefEqProofs [lb10_0, hlt, ht]
    refine pcK_of (size_c t) (by simp) ?_
    simp -implicitDefEqProofs
    by_cases hb : tp t < 0
    · have hno : ¬ okT ts := fun h => by have := h t (ht ▸ List.getElem_mem hlt); omega
      have hb1 : ¬ 0 ≤ tp t := by omega
      simp -implicitDefEqProofs [hb, hb1, cntF, hno]
    · have hb1 : 0 ≤ tp t := by omega
      have hk : 2 ≤ tp t + 1 ∧ tp t + 1 ≤ 4 := by have := tp_is t; omega
      have hm : 0 ≤ n * (tp t + 1) ∧ n * (tp t + 1) ≤ 20000 ∧ 1 ≤ n * (tp t + 1) := by
        obtain ⟨h1, h2⟩ := hk
        rcases tp_is t with h | h | h <;> rw [h] <;> omega
      have w2 := wrS (x := n * (tp t + 1)) (by omega) (by omega)
      simp -implicitDefEqProofs [hb, hb1, w1, w2]
      refine again_of (i + 1, min (n * (tp t + 1)) 4097) ⟨hlt, ?_, by simp only; omega, by simp only; omega, ?_⟩ (by simp only; omega) (by simp) (by simp)
      · simp only
        rw [List.take_succ_eq_append_getElem hlt, ht]
        intro u hu
        rcases List.mem_append.1 hu with h | h
        · exact ho u h
        · simp only [List.mem_singleton] at h; subst h; omega
      · simp only
        rw [min_mul (pr_nn _), Int.mul_assoc]
        exact hp
  · have hil : i = ts.length := by omega
    subst hil
    rw [List.take_length] at ho
    rw [List.drop_length] at hp
    simp only [pr, Int.mul_one] at hp
    have hnl : ¬ (ts.length < ts.length) := by omega
    by_cases hbig : 4096 < n
    · have : 4096 < pr ts := by omega
      simp -implicitDefEqProofs [lb10_0, hbig, cntF, ho, this]
    · have h1 : ¬ 4096 < pr ts := by omega
      have h2 : n = pr ts := by omega
      subst h2
      simp -implicitDefEqProofs [lb10_0, cntF, ho, h1]
theorem refCount_c16 (ts : List Int) (hl : ts.length < 2 ^ 48) : Pure Try.prog 11 [.sl (em encI ts)] (.tup [I (cntF ts).1, I (cntF ts).2]) := by
  refine pu11 (by simp) ?_
  simp -implicitDefEqProofs [ac11]
  refine lp11_1 (α := Nat) (fun s _ => [(2, .top), (3, .top), (4, I s)]) (fun s _ => []) (fun s k => s ≤ ts.length ∧ okT (ts.take s)) (fun s => ts.length - s) 0 ⟨by simp, by simp [okT]⟩ (by simp) (by simp) ?_
  rintro i k ⟨hi, ho⟩
  by_cases hlt : i < ts.length
  · obtain ⟨t, ht⟩ : ∃ t, ts[i] = t := ⟨_, rfl⟩
    have w1 := wr64 (x := (i : Int) + 1) (by omega) (by omega)
    simp -implicitDefEqProofs [lb11_1, hlt, ht]
    refine pcK_of (refTop_c t) (by simp) ?_
    simp -implicitDefEqProofs
    by_cases hb : tp t < 0
    · have hno : ¬ okT ts := fun h => by have := h t (ht ▸ List.getElem_mem hlt); omega
      have hb1 : ¬ 0 ≤ tp t := by omega
      simp -implicitDefEqProofs [hb, hb1, cntF, hno]
    · have hb1 : 0 ≤ tp t := by omega
      simp -implicitDefEqProofs [hb, hb1, w1]
      refine again_of (i + 1) ⟨hlt, ?_⟩ (by omega) (by simp) (by simp)
      rw [List.take_succ_eq_append_getElem hlt, ht]
      intro u hu
      rcases List.mem_append.1 hu with h | h
      · exact ho u h
      · simp only [List.mem_singleton] at h; subst h; omega
  · have hil : i = ts.length := by omega
    subst hil
    rw [List.take_length] at ho
    simp -implicitDefEqProofs [lb11_1]
    refine lp11_0 (α := Nat × Int) (fun s _ => [(2, .top), (3, .top), (5, I s.2), (6, I s.1)]) (fun s _ => []) (fun s k => s.1 ≤ ts.length ∧ 1 ≤ s.2 ∧ s.2 ≤ 4096 ∧ s.2 * pr (ts.drop s.1) = pr ts) (fun s => ts.length - s.1) (0, 1) ⟨by simp, by simp, by simp, by simp⟩ (by simp) (by simp) ?_
    rintro ⟨i, n⟩ k ⟨hi, hn1, hn2, hp⟩
    simp only at hi hn1 hn2 hp
    by_cases hlt : i < ts.length
    · obtain ⟨t, ht⟩ : ∃ t, ts[i] = t := ⟨_, rfl⟩
      have hto : 0 ≤ tp t := ho t (ht ▸ List.getElem_mem hlt)
      rw [drop_at hlt, ht] at hp
      rw [pr_cons] at hp
      have hP := pr_pos (okT_drop ho (i + 1))
      have w1 := wr64 (x := (i : Int) + 1) (by omega) (by omega)
      have w0 := wrS (x := tp t + 1) (by omega) (by have := tp_is t; omega)
      have hm : 1 ≤ n * (tp t + 1) ∧ n * (tp t + 1) ≤ 20000 := by
        rcases tp_is t with h | h | h <;> rw [h] <;> omega
      have w2 := wrS (x := n * (tp t + 1)) (by omega) (by omega)
      simp -implicitDefEqProofs [lb11_0, hlt, ht]
      refine pcK_of (refTop_c t) (by simp) ?_
      simp -implicitDefEqProofs
      rw [← Int.mul_assoc] at hp
      by_cases hbig : 4096 < n * (tp t + 1)
      · have : 4096 < pr ts := by
          have : n * (tp t + 1) * 1 ≤ n * (tp t + 1) * pr (ts.drop (i + 1)) := Int.mul_le_mul_of_nonneg_left hP (by omega)
          omega
        simp -implicitDefEqProofs [w0, w2, hbig, Int.not_le.2 hbig, cntF, ho, this]
      · simp -implicitDefEqProofs [w0, w1, w2, hbig, Int.not_lt.1 hbig]
        exact again_of (i + 1, n * (tp t + 1)) ⟨hlt, hm.1, by simp only; omega, hp⟩ (by simp only; omega) (by simp) (by simp)
    · rw [List.drop_eq_nil_of_le (by omega)] at hp
      simp only [pr, Int.mul_one] at hp
      subst hp
      have h1 : ¬ 4096 < pr ts := by omega
      simp -implicitDefEqProofs [lb11_0, hlt, cntF, ho, h1]
theorem cntF_ok {ts : List Int} (h : (cntF ts).2 = 0) : okT ts ∧ pr ts ≤ 4096 ∧ (cntF ts).1 = pr ts := by
  unfold cntF at h ⊢
  by_cases h1 : okT ts
  · rw [if_pos h1] at h ⊢
    by_cases h2 : 4096 < pr ts
    · rw [if_pos h2] at h; simp at h
    · rw [if_neg h2]; exact ⟨h1, by omega, rfl⟩
  · rw [if_neg h1] at h; simp at h
/-! ### Number -/
def vl : List Int → List Int → Int → Int
  | t :: ts, p :: ps, a => vl ts ps (a * (tp t + 1) + p)
  | _, _, a => a
def inT : List Int → List Int → Bool
  | t :: ts, p :: ps => decide (0 ≤ p ∧ p ≤ tp t) && inT ts ps
  | [], [] => true
  | _, _ => false
theorem inT_cons (t p : Int) (ts ps : List Int) : inT (t :: ts) (p :: ps) = (decide (0 ≤ p ∧ p ≤ tp t) && inT ts ps) := rfl
theorem vl_cons (t p a : Int) (ts ps : List Int) : vl (t :: ts) (p :: ps) a = vl ts ps (a * (tp t + 1) + p) := rfl
theorem inT_nil : inT [] [] = true := rfl
theorem vl_nil (a : Int) : vl [] [] a = a := rfl
def numF (ts ps : List Int) : Int × Int := if (cntF ts).2 ≠ 0 then (0, (cntF ts).2) else if ps.length ≠ ts.length then (0, 3) else if inT ts ps then (vl ts ps 0, 0) else (0, 2)
theorem num_step {a k p P N : Int} (ha : 0 ≤ a) (h : (a + 1) * (k * P) ≤ N) (hp : 0 ≤ p) (hk : p < k) (hP : 1 ≤ P) : 0 ≤ a * k + p ∧ (a * k + p + 1) * P ≤ N ∧ a * k + p < N + 1 := by
  have h0 : 0 ≤ a * k := Int.mul_nonneg ha (by omega)
  have e : (a + 1) * k = a * k + k := by rw [Int.add_mul, Int.one_mul]
  have h1 : (a * k + p + 1) * P ≤ ((a + 1) * k) * P := Int.mul_le_mul_of_nonneg_right (by omega) (by omega)
  rw [Int.mul_assoc] at h1
  have h2 : (a * k + p + 1) * 1 ≤ (a * k + p + 1) * P := Int.mul_le_mul_of_nonneg_left hP (by omega)
  omega
theorem Number_c (ts ps : List Int) (hl : ts.length < 2 ^ 48) (hl2 : ps.length < 2 ^ 48) : Pure Try.prog 12 [.sl (em encI ts), .sl (em encI ps)] (.tup [I (numF ts ps).1, I (numF ts ps).2]) := by
  refine pu12 (by simp) ?_
  simp -implicitDefEqProofs [ac12]
  refine pcK_of (Count_c16 ts hl) (by simp) ?_
  simp -implicitDefEqProofs
  by_cases he : (cntF ts).2 = 0
  · obtain ⟨ho, hp96, _⟩ := cntF_ok he
    by_cases hlen : ps.length = ts.length
    · have hlen2 : (ps.length : Int) = (ts.length : Int) := by omega
      simp -implicitDefEqProofs [he, hlen2]
      refine lp12_0 (α := Nat × Int) (fun s _ => [(4, .top), (5, .top), (8, I s.2), (9, .top), (10, .top), (11, .top), (12, .top), (29, I s.1)]) (fun s _ => []) (fun s k => s.1 ≤ ps.length ∧ 0 ≤ s.2 ∧ (s.2 + 1) * pr (ts.drop s.1) ≤ pr ts ∧ inT (ts.drop s.1) (ps.drop s.1) = inT ts ps ∧ vl (ts.drop s.1) (ps.drop s.1) s.2 = vl ts ps 0) (fun s => ps.length - s.1) (0, 0) ⟨by simp, by simp, by simp, by simp, by simp⟩ (by simp) (by simp) ?_
      rintro ⟨i, a⟩ k ⟨hi, ha, hb, hin, hv⟩
      simp only at hi ha hb hin hv
      by_cases hlt : i < ps.length
      · have hlt2 : i < ts.length := by omega
        obtain ⟨t, ht⟩ : ∃ t, ts[i] = t := ⟨_, rfl⟩
        obtain ⟨p, hp⟩ : ∃ p, ps[i] = p := ⟨_, rfl⟩
        have hto : 0 ≤ tp t := ho t (ht ▸ List.getElem_mem hlt2)
        rw [drop_at hlt2, ht] at hb hin hv
        rw [drop_at hlt, hp] at hin hv
        rw [pr_cons] at hb
        rw [inT_cons] at hin
        rw [vl_cons] at hv
        have hP := pr_pos (okT_drop ho (i + 1))
        have w1 := wr64 (x := (i : Int) + 1) (by omega) (by omega)
        have hltn : (i : Int) < (ts.length : Int) := by omega
        simp -implicitDefEqProofs [lb12_0, hlt, hlt2, ht, hp, hltn]
        refine pcK_of (Check15_c t p) (by simp) ?_
        simp -implicitDefEqProofs
        by_cases hc : 0 ≤ p ∧ p ≤ tp t
        · have hck : ck t p = 0 := ck_ok.2 hc
          obtain ⟨s1, s2, s3⟩ := num_step ha hb hc.1 (by omega) hP
          have hak : 0 ≤ a * (tp t + 1) := Int.mul_nonneg ha (by omega)
          have w2 := wrS (x := a * (tp t + 1)) (by omega) (by omega)
          have w3 := wrS (x := a * (tp t + 1) + p) (by omega) (by omega)
          have hnb : ¬ tp t < 0 := by omega
          simp -implicitDefEqProofs [hck, hlt2, ht, hltn]
          refine pcK_of (size_c t) (by simp) ?_
          simp -implicitDefEqProofs [hnb, w1, w2, w3]
          exact again_of (i + 1, a * (tp t + 1) + p) ⟨hlt, s1, s2, by simpa [hc] using hin, hv⟩ (by simp only; omega) (by simp) (by simp)
        · have hck : ck t p = 2 := by unfold ck; rw [if_neg (by omega), if_neg hc]
          have hno : inT ts ps = false := by rw [← hin]; simp [hc]
          simp -implicitDefEqProofs [hck, numF, he, hlen, hno]
      · rw [List.drop_eq_nil_of_le (by omega), List.drop_eq_nil_of_le (by omega)] at hin hv
        rw [inT_nil] at hin
        rw [vl_nil] at hv
        have hlt2 : ¬ i < ts.length := by omega
        simp -implicitDefEqProofs [lb12_0, hlt2, numF, he, hlen, hin.symm, hv.symm]
    · have hlen2 : ¬ (ps.length : Int) = (ts.length : Int) := by omega
      simp -implicitDefEqProofs [he, hlen2, numF, hlen]
  · simp -implicitDefEqProofs [he, numF]
theorem refNumber_c (ts ps : List Int) (hl : ts.length < 2 ^ 48) (hl2 : ps.length < 2 ^ 48) : Pure Try.prog 13 [.sl (em encI ts), .sl (em encI ps)] (.tup [I (numF ts ps).1, I (numF ts ps).2]) := by
  refine pu13 (by simp) ?_
  simp -implicitDefEqProofs [ac13]
  refine pcK_of (refCount_c16 ts hl) (by simp) ?_
  simp -implicitDefEqProofs
  by_cases he : (cntF ts).2 = 0
  · obtain ⟨ho, hp96, _⟩ := cntF_ok he
    by_cases hlen : ps.length = ts.length
    · have hlen2 : (ps.length : Int) = (ts.length : Int) := by omega
      simp -implicitDefEqProofs [he, hlen2]
      refine lp13_0 (α := Nat × Int) (fun s _ => [(4, .top), (5, .top), (8, I s.2), (9, I s.1)]) (fun s _ => []) (fun s k => s.1 ≤ ts.length ∧ 0 ≤ s.2 ∧ (s.2 + 1) * pr (ts.drop s.1) ≤ pr ts ∧ inT (ts.drop s.1) (ps.drop s.1) = inT ts ps ∧ vl (ts.drop s.1) (ps.drop s.1) s.2 = vl ts ps 0) (fun s => ts.length - s.1) (0, 0) ⟨by simp, by simp, by simp, by simp, by simp⟩ (by simp) (by simp) ?_
      rintro ⟨i, a⟩ k ⟨hi, ha, hb, hin, hv⟩
      simp only at hi ha hb hin hv
      by_cases hlt2 : i < ts.length
      · have hlt : i < ps.length := by omega
        obtain ⟨t, ht⟩ : ∃ t, ts[i] = t := ⟨_, rfl⟩
        obtain ⟨p, hp⟩ : ∃ p, ps[i] = p := ⟨_, rfl⟩
        have hto : 0 ≤ tp t := ho t (ht ▸ List.getElem_mem hlt2)
        rw [drop_at hlt2, ht] at hb hin hv
        rw [drop_at hlt, hp] at hin hv
        rw [pr_cons] at hb
        rw [inT_cons] at hin
        rw [vl_cons] at hv
        have hP := pr_pos (okT_drop ho (i + 1))
        have w1 := wr64 (x := (i : Int) + 1) (by omega) (by omega)
        have hltn : (i : Int) < (ps.length : Int) := by omega
        simp -implicitDefEqProofs [lb13_0, hlt, hlt2, ht, hp, hltn]
        by_cases hc : 0 ≤ p ∧ p ≤ tp t
        · refine pcK_of (Is_c t p) (by simp) ?_
          simp -implicitDefEqProofs [hc.1, hc.2]
          obtain ⟨s1, s2, s3⟩ := num_step ha hb hc.1 (by omega) hP
          have hak : 0 ≤ a * (tp t + 1) := Int.mul_nonneg ha (by omega)
          have w0 := wrS (x := tp t + 1) (by omega) (by have := tp_is t; omega)
          have w2 := wrS (x := a * (tp t + 1)) (by omega) (by omega)
          have w3 := wrS (x := a * (tp t + 1) + p) (by omega) (by omega)
          simp -implicitDefEqProofs [hc, hlt2, ht]
          refine pcK_of (refTop_c t) (by simp) ?_
          simp -implicitDefEqProofs [w0, w1, w2, w3, hlt, hp, hltn]
          exact again_of (i + 1, a * (tp t + 1) + p) ⟨by simp only; omega, s1, s2, by simpa [hc] using hin, hv⟩ (by simp only; omega) (by simp) (by simp)
        · have hno : inT ts ps = false := by rw [← hin]; simp [hc]
          refine pcK_of (Is_c t p) (by simp) ?_
          rw [show decide (0 ≤ p ∧ p ≤ tp t) = false by simpa using hc]
          simp -implicitDefEqProofs [numF, he, hlen, hno]
      · rw [List.drop_eq_nil_of_le (by omega), List.drop_eq_nil_of_le (by omega)] at hin hv
        rw [inT_nil] at hin
        rw [vl_nil] at hv
        simp -implicitDefEqProofs [lb13_0, hlt2, numF, he, hlen, hin.symm, hv.symm]
    · have hlen2 : ¬ (ps.length : Int) = (ts.length : Int) := by omega
      simp -implicitDefEqProofs [he, hlen2, numF, hlen]
  · simp -implicitDefEqProofs [he, numF]
end Go.Fx.Ytjfiklflmnhbdaa

/-
  Tuples and numbers: one to one, in order; tables that rise. Plain.
-/
import Derived.Test.YtjfiklflmnhbdaaTe
set_option linter.all false
set_option maxRecDepth 100000
set_option maxHeartbeats 4000000
namespace Go.Fx.Ytjfiklflmnhbdaa
open Go Go.Fx Go.Proofs Rows
theorem vl_lin : ∀ (ts x : List Int) (a : Int), inT ts x = true → vl ts x a = a * pr ts + vl ts x 0
  | [], [], a, _ => by simp [vl, pr]
  | [], p :: x, a, h => by simp [inT] at h
  | t :: ts, [], a, h => by simp [inT] at h
  | t :: ts, p :: x, a, h => by
    rw [inT_cons] at h
    simp only [Bool.and_eq_true] at h
    rw [vl_cons, vl_cons, vl_lin ts x _ h.2, vl_lin ts x (0 * (tp t + 1) + p) h.2, pr_cons, Int.add_mul, Int.mul_assoc]
    have : (0 * (tp t + 1) + p) * pr ts = p * pr ts := by congr 1; omega
    omega
theorem dg_per : ∀ (ts : List Int) (a v : Int), okT ts → dg ts (a * pr ts + v) = dg ts v
  | [], a, v, _ => rfl
  | t :: ts, a, v, h => by
    obtain ⟨h1, h2⟩ := okT_tl h
    have hP := pr_pos h2
    unfold dg
    rw [pr_cons]
    have e : a * ((tp t + 1) * pr ts) + v = v + (a * (tp t + 1)) * pr ts := by rw [Int.mul_assoc]; omega
    rw [e, Int.add_mul_ediv_right _ _ (by omega), Int.add_mul_emod_self_right]
    congr 1
    rw [Int.add_comm, dg_per ts _ v h2]
theorem dg_vl : ∀ (ts x : List Int), okT ts → inT ts x = true → dg ts (vl ts x 0) = x
  | [], [], _, _ => rfl
  | [], p :: x, _, h => by simp [inT] at h
  | t :: ts, [], _, h => by simp [inT] at h
  | t :: ts, p :: x, ho, h => by
    obtain ⟨h1, h2⟩ := okT_tl ho
    rw [inT_cons] at h
    simp only [Bool.and_eq_true, decide_eq_true_eq] at h
    obtain ⟨⟨g0, g1⟩, g2⟩ := h
    have hP := pr_pos h2
    have hv := inT_vl ts x 0 g2 (Int.le_refl 0)
    simp only [Int.zero_mul, Int.zero_add, Int.one_mul] at hv
    have e : vl (t :: ts) (p :: x) 0 = p * pr ts + vl ts x 0 := by
      rw [vl_cons, vl_lin ts x _ g2]
      congr 2; omega
    unfold dg
    rw [e, dg_per ts p _ h2, dg_vl ts x h2 g2]
    congr 1
    have e2 : (p * pr ts + vl ts x 0) / pr ts = p := by
      rw [Int.add_comm, Int.add_mul_ediv_right _ _ (by omega), Int.ediv_eq_zero_of_lt hv.1 hv.2]; omega
    rw [e2, Int.emod_eq_of_lt g0 (by omega)]
theorem vl_of_dg {ts : List Int} {n : Int} (ho : okT ts) (h0 : 0 ≤ n) (hn : n < pr ts) : vl ts (dg ts n) 0 = n := by
  rw [vl_dg n 0 ho, Int.zero_mul, Int.zero_add, Int.emod_eq_of_lt h0 hn]
theorem vl_mono : ∀ (ts x y : List Int) (a b : Int), inT ts x = true → inT ts y = true → (∀ i, i < x.length → x[i]?.getD 0 ≤ y[i]?.getD 0) → a ≤ b → 0 ≤ a → vl ts x a ≤ vl ts y b
  | [], [], [], a, b, _, _, _, hab, _ => hab
  | [], [], p :: y, a, b, _, h, _, _, _ => by simp [inT] at h
  | [], p :: x, y, a, b, h, _, _, _, _ => by simp [inT] at h
  | t :: ts, [], y, a, b, h, _, _, _, _ => by simp [inT] at h
  | t :: ts, p :: x, [], a, b, _, h, _, _, _ => by simp [inT] at h
  | t :: ts, p :: x, q :: y, a, b, hx, hy, hle, hab, h0 => by
    rw [inT_cons] at hx hy
    simp only [Bool.and_eq_true, decide_eq_true_eq] at hx hy
    have hpq := hle 0 (by simp)
    simp only [List.getElem?_cons_zero, Option.getD_some] at hpq
    rw [vl_cons, vl_cons]
    have hk : a * (tp t + 1) ≤ b * (tp t + 1) := Int.mul_le_mul_of_nonneg_right hab (by omega)
    have hk0 : 0 ≤ a * (tp t + 1) := Int.mul_nonneg h0 (by omega)
    exact vl_mono ts x y _ _ hx.2 hy.2 (fun i hi => by have := hle (i + 1) (by simpa using hi); simpa using this) (by omega) (by omega)
/-- Where all steps rise, all pairs do. -/
theorem rises_mono {ps l : List Int} {n : Int} (ho : okT ps) (hn : n = pr ps) (hr : RisesOk ps l n) : ∀ (k : Nat) (x y : List Int), inT ps x = true → inT ps y = true → (∀ i, i < x.length → x[i]?.getD 0 ≤ y[i]?.getD 0) → (vl ps y 0 - vl ps x 0).toNat ≤ k → cellN l (vl ps x 0).toNat ≤ cellN l (vl ps y 0).toNat := by
  intro k
  induction k with
  | zero =>
    intro x y hx hy hle hk
    have := vl_mono ps x y 0 0 hx hy hle (Int.le_refl 0) (Int.le_refl 0)
    have e : vl ps x 0 = vl ps y 0 := by omega
    rw [e]; exact Int.le_refl _
  | succ k ih =>
    intro x y hx hy hle hk
    by_cases hne : x = y
    · rw [hne]; exact Int.le_refl _
    · have hlx := inT_len hx
      have hly := inT_len hy
      obtain ⟨i, hi, hlt⟩ : ∃ i, i < x.length ∧ x[i]?.getD 0 < y[i]?.getD 0 := by
        apply Classical.byContradiction
        intro hno
        apply hne
        apply List.ext_getElem (by omega)
        intro i h1 h2
        have a := hle i h1
        have b : ¬ x[i]?.getD 0 < y[i]?.getD 0 := fun g => hno ⟨i, h1, g⟩
        rw [List.getElem?_eq_getElem h1, List.getElem?_eq_getElem h2] at a b
        simp only [Option.getD_some] at a b
        omega
      have hip : i < ps.length := by omega
      obtain ⟨t, ht⟩ : ∃ t, ps[i] = t := ⟨_, rfl⟩
      have hvx := inT_vl ps x 0 hx (Int.le_refl 0)
      simp only [Int.zero_mul, Int.zero_add, Int.one_mul] at hvx
      have hdx := dg_vl ps x ho hx
      have hat := dg_at (n := vl ps x 0) hip ht
      rw [hdx] at hat
      have hxi : x[i]?.getD 0 = vl ps x 0 / pr (ps.drop (i + 1)) % (tp t + 1) := by rw [hat]; rfl
      have hyi : y[i]?.getD 0 ≤ tp t := by
        have : ∀ (ts z : List Int) (j : Nat) (u : Int), inT ts z = true → ts[j]? = some u → z[j]?.getD 0 ≤ tp u := by
          intro ts
          induction ts with
          | nil => intro z j u _ hu; simp at hu
          | cons v vs ihv =>
            intro z j u hz hu
            cases z with
            | nil => simp [inT] at hz
            | cons q z =>
              rw [inT_cons] at hz
              simp only [Bool.and_eq_true, decide_eq_true_eq] at hz
              cases j with
              | zero => simp only [List.getElem?_cons_zero, Option.some.injEq] at hu; subst hu; simpa using hz.1.2
              | succ j => simpa using ihv z j u hz.2 (by simpa using hu)
        exact this ps y i t hy (by rw [List.getElem?_eq_getElem hip, ht])
      have hd : vl ps x 0 / pr (ps.drop (i + 1)) % (tp t + 1) < tp t := by omega
      obtain ⟨u1, u2, u3⟩ := dg_up ho hvx.1 hvx.2 hip ht hd
      rw [hdx, ← hxi] at u1 u2
      have hP := pr_pos (okT_drop ho (i + 1))
      have hstep := hr i t (by rw [List.getElem?_eq_getElem hip, ht]) (vl ps x 0).toNat (by omega) (by rw [Int.toNat_of_nonneg hvx.1]; exact hd)
      have hle2 : ∀ j, j < (x.set i (x[i]?.getD 0 + 1)).length → (x.set i (x[i]?.getD 0 + 1))[j]?.getD 0 ≤ y[j]?.getD 0 := by
        intro j hj
        rw [List.length_set] at hj
        by_cases e : i = j
        · subst e
          rw [List.getElem?_set_self (by omega)]
          simp only [Option.getD_some]; omega
        · rw [List.getElem?_set_ne e]; exact hle j hj
      have hmon := vl_mono ps _ y 0 0 u1 hy hle2 (Int.le_refl 0) (Int.le_refl 0)
      have := ih _ y u1 hy hle2 (by omega)
      rw [u2] at this hmon
      have e : (vl ps x 0 + pr (ps.drop (i + 1))).toNat = (vl ps x 0).toNat + (pr (ps.drop (i + 1))).toNat := by omega
      rw [e] at this
      omega
/-- A number brought into its bounds. -/
theorem into_in (n N : Int) (hN : 1 ≤ N) (h96 : N ≤ 4096) : 0 ≤ (n.tmod N + N).tmod N ∧ (n.tmod N + N).tmod N < N ∧ -100000 ≤ n.tmod N + N ∧ n.tmod N + N ≤ 100000 ∧ ¬ N = 0 := by
  have h1 := Int.lt_tmod_of_pos n (by omega : 0 < N)
  have h2 := Int.tmod_lt_of_pos n (by omega : 0 < N)
  have h3 : 0 ≤ n.tmod N + N := by omega
  exact ⟨Int.tmod_nonneg _ h3, Int.tmod_lt_of_pos _ (by omega), by omega, by omega, by omega⟩
end Go.Fx.Ytjfiklflmnhbdaa

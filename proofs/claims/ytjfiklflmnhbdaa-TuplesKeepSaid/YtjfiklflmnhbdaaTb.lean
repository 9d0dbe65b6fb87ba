/-
  Tuples: Tuple, of the program (a range over slices.Backward) and of the reference.
-/
import Derived.Test.YtjfiklflmnhbdaaTa
set_option linter.all false
set_option maxRecDepth 100000
set_option maxHeartbeats 4000000
namespace Go.Fx.Ytjfiklflmnhbdaa
open Go Go.Fx Go.Proofs
/-- A number's digits. -/
def dg : List Int → Int → List Int
  | [], _ => []
  | t :: ts, n => (n / pr ts % (tp t + 1)) :: dg ts n
theorem dg_len (n : Int) : ∀ (ts : List Int), (dg ts n).length = ts.length
  | [] => rfl
  | t :: ts => by simp [dg, dg_len n ts]
def tupF (ts : List Int) (n : Int) : List Int × Int := if (cntF ts).2 ≠ 0 then ([], (cntF ts).2) else if n < 0 ∨ pr ts ≤ n then ([], 2) else (dg ts n, 0)
/-- One digit more, from the end. -/
theorem dg_step {ts : List Int} {i : Nat} {t n : Int} (hlt : i < ts.length) (ht : ts[i] = t) : (List.replicate (i + 1) (0 : Int) ++ dg (ts.drop (i + 1)) n).set i (n / pr (ts.drop (i + 1)) % (tp t + 1)) = List.replicate i 0 ++ dg (ts.drop i) n := by
  rw [drop_at hlt, ht, List.replicate_succ', List.append_assoc, List.set_append_right (h := by simp)]
  simp [dg]
theorem pr_step {ts : List Int} {i : Nat} {t : Int} (hlt : i < ts.length) (ht : ts[i] = t) : pr (ts.drop i) = (tp t + 1) * pr (ts.drop (i + 1)) := by
  rw [drop_at hlt, ht]; rfl
theorem div_step {n P k : Int} (hP : 0 ≤ P) : n / P / k = n / (k * P) := by rw [Int.ediv_ediv_of_nonneg hP, Int.mul_comm]
theorem div_in {n P N : Int} (h0 : 0 ≤ n) (h1 : n ≤ 4096) (hP : 1 ≤ P) : 0 ≤ n / P ∧ n / P ≤ 4096 := by
  have a := Int.ediv_nonneg h0 (by omega : 0 ≤ P)
  have b := Int.ediv_le_self P h0
  omega
theorem Tuple_t (ts : List Int) (n : Int) (hl : ts.length < 2 ^ 44) {mem : Mem} {nx : Nat} {K : KD}
    (hy : (tupF ts n).2 = 0 → ∀ id ver nx', nx ≤ id → id < nx' → K (.tup [.osl id ver 0 ts.length, I 0]) ((id, .arr ver 1 (em encI (dg ts n))) :: mem) nx')
    (hn : (tupF ts n).2 ≠ 0 → ∀ nx', nx ≤ nx' → K (.tup [.pl (.slice none 0 0), I (tupF ts n).2]) mem nx') :
    CallT Try.prog 14 [.sl (em encI ts), I n] mem nx K := by
  refine ct14 (by simp) fun hfr => ?_
  simp -implicitDefEqProofs [ac14]
  refine pcK_of (Count_c16 ts (by omega)) (by simp) ?_
  simp -implicitDefEqProofs
  unfold tupF at hy hn
  by_cases he : (cntF ts).2 = 0
  · obtain ⟨ho, hp96, hp1⟩ := cntF_ok he
    have e0 : ¬ (cntF ts).2 ≠ 0 := fun g => g he
    rw [if_neg e0] at hy hn
    by_cases hn0 : n < 0
    · rw [if_pos (.inl hn0)] at hn
      have hn0' : ¬ 0 ≤ n := by omega
      simp -implicitDefEqProofs [he, hp1, hn0, hn0']
      exact ⟨_, memSub_skip (memSub_refl _) (hfr nx (by omega)), hn (by simp) _ (by omega)⟩
    · have hn0' : 0 ≤ n := by omega
      by_cases hn1 : pr ts ≤ n
      · rw [if_pos (.inr hn1)] at hn
        have hn1' : ¬ n < pr ts := by omega
        simp -implicitDefEqProofs [he, hp1, hn0, hn0', hn1, hn1']
        exact ⟨_, memSub_skip (memSub_refl _) (hfr nx (by omega)), hn (by simp) _ (by omega)⟩
      · rw [if_neg (by omega)] at hy
        have hn1' : n < pr ts := by omega
        have hb : (ts.length : Int) * 8 ≤ 140737488355328 := by omega
        simp -implicitDefEqProofs [he, hp1, hn0, hn0', hn1, hn1', hb]
        refine pcK_of (back_c ts) (by simp) ?_
        simp -implicitDefEqProofs
        obtain ⟨qb, hqb⟩ : ∃ qb, qb = nx + 3 + 7 + 2 + 7 + 3 := ⟨_, rfl⟩
        obtain ⟨qa, hqa⟩ : ∃ qa, qa = nx + 3 + 7 + 2 + 7 + 2 := ⟨_, rfl⟩
        rw [← hqb, ← hqa]
        have f1 : (qb = qa) = False := eq_false (by omega)
        have f2 : (qb = nx) = False := eq_false (by omega)
        have f3 : (qa = nx) = False := eq_false (by omega)
        have f4 : (nx = qb) = False := eq_false (by omega)
        have f5 : (nx = qa) = False := eq_false (by omega)
        have f6 : (qa = qb) = False := eq_false (by omega)
        refine A_rfn_of (f := 55) (caps := [.pt [.sl (em encI ts)]]) (xs := backs ts) (fun i m k => qb < k ∧ m = (qb, .box [.osl qa 0 0 ts.length]) :: (qa, .arr 0 1 (em encI (List.replicate (ts.length - i) 0 ++ dg (ts.drop (ts.length - i)) n))) :: (nx, .box [I (n / pr (ts.drop (ts.length - i)))]) :: mem) rfl (back_iter ts (by omega)) (by decide) (fun y hy => ?_) ⟨by omega, ?_⟩ ?_ ?_
        · unfold backs at hy
          obtain ⟨j, _, rfl⟩ := List.mem_map.1 hy
          rfl
        · simp [pr, dg]
        · rintro i y mem' nx' hy ⟨hk, rfl⟩ hnx
          have hi : i < ts.length := by
            have := (List.getElem?_eq_some_iff.1 hy).1
            rwa [backs_len] at this
          rw [backs_at ts hi, Option.some.injEq] at hy
          subst hy
          obtain ⟨j, hj⟩ : ∃ j, j = ts.length - 1 - i := ⟨_, rfl⟩
          have hjm : ts.length - i = j + 1 := by omega
          have hjl : j < ts.length := by omega
          have hji : ts.length - (i + 1) = j := by omega
          rw [← hj, hjm]
          obtain ⟨t, ht⟩ : ∃ t, ts[j] = t := ⟨_, rfl⟩
          have ht2 : ts[j]?.getD 0 = t := by rw [List.getElem?_eq_getElem hjl]; exact ht
          have hto : 0 ≤ tp t := ho t (ht ▸ List.getElem_mem hjl)
          have hP := pr_pos (okT_drop ho (j + 1))
          obtain ⟨d1, d2⟩ := div_in (N := 0) hn0' (by omega) hP
          have hstep := dg_step (n := n) hjl ht
          have hpr := pr_step hjl ht
          have hdiv : n / pr (ts.drop (j + 1)) / (tp t + 1) = n / pr (ts.drop j) := by rw [hpr, div_step (by omega)]
          have hlen : (List.replicate (j + 1) (0 : Int) ++ dg (ts.drop (j + 1)) n).length = ts.length := by simp [dg_len]; omega
          generalize List.replicate (j + 1) (0 : Int) ++ dg (ts.drop (j + 1)) n = old at *
          generalize n / pr (ts.drop (j + 1)) = q at *
          have hk0 : ¬ tp t + 1 = 0 := by omega
          have hnt : ¬ tp t < 0 := by omega
          have e1 : q.tmod (tp t + 1) = q % (tp t + 1) := Int.tmod_eq_emod_of_nonneg d1
          have e2 : q.tdiv (tp t + 1) = q / (tp t + 1) := Int.tdiv_eq_ediv_of_nonneg d1
          have d3 := Int.ediv_le_self (tp t + 1) d1
          have d4 := Int.ediv_nonneg d1 (by omega : 0 ≤ tp t + 1)
          have w2 := wrS (x := q / (tp t + 1)) (by omega) (by omega)
          simp only [putEs]
          simp -implicitDefEqProofs [asgQ, ht2]
          refine pcK_of (size_c t) (by simp) ?_
          simp -implicitDefEqProofs
          simp -implicitDefEqProofs [hnt, hto, hk0, e1, e2, w2, f1, f2, f3, f4, f5, f6, hlen, hjl, rndQ]
          exact ⟨_, memLe_refl _, _, Nat.le_refl _, by omega, by rw [hji, ← hstep, ← hdiv]⟩
        · rintro mem' nx' ⟨hk, rfl⟩ hnx
          rw [backs_len, Nat.sub_self]
          simp -implicitDefEqProofs [f1, f2, f3, f4, f5, f6]
          refine ⟨(qa, .arr 0 1 (em encI (dg ts n))) :: mem, memSub_skip (memSub_cons (memSub_skip (memSub_refl _) (hfr nx (by omega)))) ?_, hy rfl qa 0 _ (by omega) (by omega)⟩
          simp only [look]
          rw [if_neg (by omega)]
          exact hfr qb (by omega)
  · have e0 : (cntF ts).2 ≠ 0 := he
    rw [if_pos e0] at hn
    simp -implicitDefEqProofs [he]
    exact ⟨_, memSub_skip (memSub_refl _) (hfr nx (by omega)), hn (by simpa using he) _ (by omega)⟩
theorem refTuple_t (ts : List Int) (n : Int) (hl : ts.length < 2 ^ 44) {mem : Mem} {nx : Nat} {K : KD}
    (hy : (tupF ts n).2 = 0 → ∀ id ver nx', nx ≤ id → id < nx' → K (.tup [.osl id ver 0 ts.length, I 0]) ((id, .arr ver 1 (em encI (dg ts n))) :: mem) nx')
    (hn : (tupF ts n).2 ≠ 0 → ∀ nx', nx ≤ nx' → K (.tup [.pl (.slice none 0 0), I (tupF ts n).2]) mem nx') :
    CallT Try.prog 15 [.sl (em encI ts), I n] mem nx K := by
  refine ct15 (by simp) fun hfr => ?_
  simp -implicitDefEqProofs [ac15]
  refine pcK_of (refCount_c16 ts (by omega)) (by simp) ?_
  simp -implicitDefEqProofs
  unfold tupF at hy hn
  by_cases he : (cntF ts).2 = 0
  · obtain ⟨ho, hp96, hp1⟩ := cntF_ok he
    have e0 : ¬ (cntF ts).2 ≠ 0 := fun g => g he
    rw [if_neg e0] at hy hn
    by_cases hn0 : n < 0
    · rw [if_pos (.inl hn0)] at hn
      have hn0' : ¬ 0 ≤ n := by omega
      simp -implicitDefEqProofs [he, hp1, hn0, hn0']
      exact ⟨_, memSub_refl _, hn (by simp) _ (by omega)⟩
    · have hn0' : 0 ≤ n := by omega
      by_cases hn1 : pr ts ≤ n
      · rw [if_pos (.inr hn1)] at hn
        have hn1' : ¬ n < pr ts := by omega
        simp -implicitDefEqProofs [he, hp1, hn0, hn0', hn1, hn1']
        exact ⟨_, memSub_refl _, hn (by simp) _ (by omega)⟩
      · rw [if_neg (by omega)] at hy
        have hn1' : n < pr ts := by omega
        have hb : (ts.length : Int) * 8 ≤ 140737488355328 := by omega
        have w0 := wr64 (x := (ts.length : Int) - 1) (by omega) (by omega)
        simp -implicitDefEqProofs [he, hp1, hn0, hn0', hn1, hn1', hb, w0]
        obtain ⟨qa, hqa⟩ : ∃ qa, qa = nx + 2 + 7 + 2 + 7 + 2 := ⟨_, rfl⟩
        rw [← hqa]
        refine lp15_0 (α := Nat) (fun m _ => [(1, I (n / pr (ts.drop m))), (9, I ((m : Int) - 1)), (10, .top)]) (fun m _ => (qa, .arr 0 1 (em encI (List.replicate m 0 ++ dg (ts.drop m) n))) :: mem) (fun m k => qa < k ∧ m ≤ ts.length) (fun m => m) ts.length ⟨by omega, Nat.le_refl _⟩ (by simp [pr]) (by simp [dg]) ?_
        rintro m k ⟨hk, hm⟩
        cases m with
        | zero =>
          simp -implicitDefEqProofs [lb15_0]
          exact ⟨_, memSub_refl _, hy rfl qa 0 _ (by omega) (by omega)⟩
        | succ j =>
          have hjl : j < ts.length := by omega
          have hji : ((j + 1 : Nat) : Int) - 1 = j := by omega
          obtain ⟨t, ht⟩ : ∃ t, ts[j] = t := ⟨_, rfl⟩
          have hto : 0 ≤ tp t := ho t (ht ▸ List.getElem_mem hjl)
          have hP := pr_pos (okT_drop ho (j + 1))
          obtain ⟨d1, d2⟩ := div_in (N := 0) hn0' (by omega) hP
          have hstep := dg_step (n := n) hjl ht
          have hpr := pr_step hjl ht
          have hdiv : n / pr (ts.drop (j + 1)) / (tp t + 1) = n / pr (ts.drop j) := by rw [hpr, div_step (by omega)]
          have hlen : (List.replicate (j + 1) (0 : Int) ++ dg (ts.drop (j + 1)) n).length = ts.length := by simp [dg_len]; omega
          generalize List.replicate (j + 1) (0 : Int) ++ dg (ts.drop (j + 1)) n = old at *
          generalize n / pr (ts.drop (j + 1)) = q at *
          have hk0 : ¬ tp t + 1 = 0 := by omega
          have e1 : q.tmod (tp t + 1) = q % (tp t + 1) := Int.tmod_eq_emod_of_nonneg d1
          have e2 : q.tdiv (tp t + 1) = q / (tp t + 1) := Int.tdiv_eq_ediv_of_nonneg d1
          have d3 := Int.ediv_le_self (tp t + 1) d1
          have d4 := Int.ediv_nonneg d1 (by omega : 0 ≤ tp t + 1)
          have w2 := wrS (x := q / (tp t + 1)) (by omega) (by omega)
          have w3 := wrS (x := tp t + 1) (by omega) (by have := tp_is t; omega)
          have w4 := wr64 (x := (j : Int) - 1) (by omega) (by omega)
          simp -implicitDefEqProofs [lb15_0, hji, hjl, ht]
          refine pcK_of (refTop_c t) (by simp) ?_
          simp -implicitDefEqProofs [w3, hk0, e1, e2, w2, w4, hlen, hjl]
          refine again_of j ⟨by omega, by omega⟩ (by omega) ?_ ?_
          · rw [← hdiv]; simp
          · rw [← hstep]; exact memLe_refl _
  · have e0 : (cntF ts).2 ≠ 0 := he
    rw [if_pos e0] at hn
    simp -implicitDefEqProofs [he]
    exact ⟨_, memSub_refl _, hn (by simpa using he) _ (by omega)⟩
theorem tupF_len {ts : List Int} {n : Int} (h : (tupF ts n).2 = 0) : (tupF ts n).1 = dg ts n := by
  unfold tupF at h ⊢
  by_cases h1 : (cntF ts).2 ≠ 0
  · rw [if_pos h1] at h; exact absurd h h1
  · rw [if_neg h1] at h ⊢
    by_cases h2 : n < 0 ∨ pr ts ≤ n
    · rw [if_pos h2] at h; simp at h
    · rw [if_neg h2]
theorem tupF_no {ts : List Int} {n : Int} (h : (tupF ts n).2 ≠ 0) : (tupF ts n).1 = [] := by
  unfold tupF at h ⊢
  by_cases h1 : (cntF ts).2 ≠ 0
  · rw [if_pos h1]
  · rw [if_neg h1] at h ⊢
    by_cases h2 : n < 0 ∨ pr ts ≤ n
    · rw [if_pos h2]
    · rw [if_neg h2] at h; simp at h
theorem Tuple_c (ts : List Int) (n : Int) (hl : ts.length < 2 ^ 44) : Pure Try.prog 14 [.sl (em encI ts), I n] (.tup [.sl (em encI (tupF ts n).1), I (tupF ts n).2]) := by
  refine Pure_of_CallT (by simp) (Tuple_t ts n hl (fun h id ver nx' _ _ => ?_) (fun h nx' _ => ?_))
  · rw [tupF_len h, h]
    simp [look, List.take_of_length_le, dg_len]
  · rw [tupF_no h]; simp
theorem refTuple_c (ts : List Int) (n : Int) (hl : ts.length < 2 ^ 44) : Pure Try.prog 15 [.sl (em encI ts), I n] (.tup [.sl (em encI (tupF ts n).1), I (tupF ts n).2]) := by
  refine Pure_of_CallT (by simp) (refTuple_t ts n hl (fun h id ver nx' _ _ => ?_) (fun h nx' _ => ?_))
  · rw [tupF_len h, h]
    simp [look, List.take_of_length_le, dg_len]
  · rw [tupF_no h]; simp
end Go.Fx.Ytjfiklflmnhbdaa

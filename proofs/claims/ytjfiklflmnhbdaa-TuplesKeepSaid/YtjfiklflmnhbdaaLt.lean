/-
  Layer 16: the laws' small functions; TuplesNumbers, TuplesTables, TuplesOne.
-/
import Derived.Test.YtjfiklflmnhbdaaTf
import Derived.Test.YtjfiklflmnhbdaaCodeL16
set_option linter.all false
set_option maxRecDepth 100000
set_option maxHeartbeats 4000000
namespace Go.Fx.Ytjfiklflmnhbdaa
open Go Go.Fx Go.Proofs Rows
theorem same_c16 (a b : List Int) (ha : a.length < 2 ^ 48) : Pure Try.prog 16 [.sl (em encI a), .sl (em encI b)] (B (decide (a = b))) := by
  refine pu16 (by simp) ?_
  by_cases hl : a.length = b.length
  · have hl2 : (a.length : Int) = (b.length : Int) := by omega
    simp -implicitDefEqProofs [ac16, hl2]
    generalize hR : decide (a = b) = R
    refine lp16_0 (α := Nat) (fun s _ => [(4, .top), (5, I s)]) (fun s _ => []) (fun s k => s ≤ a.length ∧ a.take s = b.take s) (fun s => a.length - s) 0 ⟨by simp, by simp⟩ (by simp) (by simp) ?_
    rintro i k ⟨hi, hc⟩
    by_cases hlt : i < a.length
    · have hlt2 : i < b.length := by omega
      have w1 := wr64 (x := (i : Int) + 1) (by omega) (by omega)
      obtain ⟨p, hp⟩ : ∃ p, a[i] = p := ⟨_, rfl⟩
      obtain ⟨q, hq⟩ : ∃ q, b[i] = q := ⟨_, rfl⟩
      by_cases he : p = q
      · simp -implicitDefEqProofs [lb16_0, hlt, hlt2, hl2, hp, hq, he, w1]
        exact again_of (i + 1) ⟨hlt, take_succ_eq hlt hlt2 hc (by rw [List.getElem?_eq_getElem hlt, List.getElem?_eq_getElem hlt2, hp, hq, he])⟩ (by omega) (by simp) (by simp)
      · have hno : R = false := by
          rw [← hR, decide_eq_false_iff_not]
          rintro rfl
          rw [hp] at hq
          exact he hq
        subst hno
        simp -implicitDefEqProofs [lb16_0, hlt, hlt2, hl2, hp, hq, he]
    · have hil : i = a.length := by omega
      subst hil
      rw [List.take_length, hl, List.take_length] at hc
      have hyes : R = true := by rw [← hR, decide_eq_true_eq]; exact hc
      subst hyes
      have hlt2 : ¬ a.length < b.length := by omega
      simp -implicitDefEqProofs [lb16_0, hlt, hlt2, hl2]
  · have hl2 : ¬ (a.length : Int) = (b.length : Int) := by omega
    have e : decide (a = b) = false := by rw [decide_eq_false_iff_not]; exact fun h => hl (by rw [h])
    rw [e]
    simp -implicitDefEqProofs [ac16, hl2]
theorem copiedT_c (ps : List Int) (t n : Int) (l : List Int) (hl : ps.length < 2 ^ 44) (hb : l.length < 2 ^ 44) : Pure Try.prog 21 [tb ps t n l] (tb ps t n l) := by
  refine pu21 (by simp) ?_
  have b1 : ps.length * 8 ≤ 211106232532992 := by omega
  have b2 : l.length * 8 ≤ 211106232532992 := by omega
  simp -implicitDefEqProofs [ac21, b1, b2]
/-! ### awake -/
theorem aw1 : numF [1, 3, 2] [1, 2, 0] = (12, 0) := by decide
theorem aw2 : cntF [1, 3, 2] = (16, 0) := by decide
theorem aw3 : tupF [1, 3, 2] 13 = ([1, 2, 1], 0) := by decide
theorem aw4 : cntF [3] = (4, 0) := by decide
theorem aw5 : newT [3] 1 = (tb [3] 1 4 [0], 0) := by
  have h : ¬ tp 1 < 0 := by decide
  have e : pr [3] = 4 := by decide
  unfold newT
  rw [aw4, if_neg (by simp), if_neg h, e]
  rfl
theorem aw6 {v : Int} (hv : v = 0 ∨ v = 64) : TabOk [3] 1 4 [v] := by
  refine ⟨by decide, by decide, by decide, ?_, ?_⟩
  · rcases hv with rfl | rfl <;> · unfold Good; decide
  · show ∀ i, i < 4 → cellN [v] i ≤ tp 1
    rcases hv with rfl | rfl <;> decide
theorem aw7 : numF [3] [3] = (3, 0) := by decide
theorem aw8 : setF [3] 1 4 [0] [3] 1 = (tb [3] 1 4 [64], 0) := by
  have hpl : placeF [3] 1 4 [0] [3] = (3, 0) := by unfold placeF; rw [if_pos (aw6 (.inl rfl)), aw7]
  unfold setF
  rw [hpl, if_neg (by simp), if_pos (by decide)]
  rfl
theorem aw9 : atF [3] 1 4 [64] [3] = (1, 0) := by
  have hpl : placeF [3] 1 4 [64] [3] = (3, 0) := by unfold placeF; rw [if_pos (aw6 (.inr rfl)), aw7]
  unfold atF
  rw [hpl, if_neg (by simp)]
  rfl
theorem aw10 : risesF [3] 1 4 [64] = (true, 0) := by
  have hr : RisesOk [3] [64] 4 := by
    intro i t ht m hm
    cases i with
    | zero =>
      have e : (pr (([3] : List Int).drop 1)).toNat = 1 := by decide
      rw [e]
      revert m
      show ∀ m, m < 4 → _ → cellN [64] m ≤ cellN [64] (m + 1)
      intro m hm
      match m, hm with
      | 0, _ => intro _; decide
      | 1, _ => intro _; decide
      | 2, _ => intro _; decide
      | 3, _ =>
        simp only [List.getElem?_cons_zero, Option.some.injEq] at ht
        subst ht
        intro h
        exact absurd h (by decide)
    | succ i => simp at ht
  unfold risesF
  rw [if_pos (aw6 (.inr rfl))]
  simp [hr]
theorem aw11 : tabE [3] 1 4 [64] = 0 := by unfold tabE; rw [if_pos (aw6 (.inr rfl))]
theorem awW (v : Int) (h : v = 0 ∨ v = 64) : AllW [v] := fun u hu => by
  simp only [List.mem_singleton] at hu
  subst hu
  rcases h with rfl | rfl <;> · unfold W64; decide
theorem awake_c16 : Pure Try.prog 9 [] (B true) := by
  refine pu9 (by simp) ?_
  have h1 := Number_c [1, 3, 2] [1, 2, 0] (by decide) (by decide)
  have h2 := New_c16 [3] 1 (by decide)
  have h3 := Set_c16 [3] 1 4 [0] [3] 1 (awW 0 (.inl rfl)) (by decide) (by decide)
  have h4 := At_c16 [3] 1 4 [64] [3] (awW 64 (.inr rfl)) (by decide) (by decide)
  have h5 := Rises_c [3] 1 4 [64] (awW 64 (.inr rfl)) (by decide)
  have h6 := Count_c16 [1, 3, 2] (by decide)
  have h7 := Tuple_c [1, 3, 2] 13 (by decide)
  have h8 := same_c16 [1, 2, 1] [1, 2, 1] (by decide)
  have h9 := Check_c16 [3] 1 4 [64] (awW 64 (.inr rfl)) (by decide)
  rw [aw1] at h1
  rw [aw5] at h2
  rw [aw8] at h3
  rw [aw9] at h4
  rw [aw10] at h5
  rw [aw2] at h6
  rw [aw3] at h7
  rw [aw11] at h9
  simp only [em, encI, encU, List.map_cons, List.map_nil] at h1 h2 h3 h4 h5 h6 h7 h8 h9
  simp -implicitDefEqProofs [ac9]
  refine pcK_of (h1) (by simp) ?_
  simp -implicitDefEqProofs
  refine pcK_of (h2) (by simp) ?_
  simp -implicitDefEqProofs
  refine pcK_of (h3) (by simp) ?_
  simp -implicitDefEqProofs
  refine pcK_of (h4) (by simp) ?_
  simp -implicitDefEqProofs
  refine pcK_of (h5) (by simp) ?_
  simp -implicitDefEqProofs
  refine pcK_of (h6) (by simp) ?_
  simp -implicitDefEqProofs
  refine pcK_of (h7) (by simp) ?_
  simp -implicitDefEqProofs [em]
  refine pcK_of (h8) (by simp) ?_
  simp -implicitDefEqProofs
  refine pcK_of (h9) (by simp) ?_
  simp -implicitDefEqProofs
/-! ### Arguments -/
theorem wt_ty {n : Nat} {ds : List D} (h : Wt Try.prog n 38 ds) : ∃ z, ds = encI z ∧ True := by
  cases n with
  | zero => exact h.elim
  | succ n =>
    simp only [Wt, Try.underlying38] at h
    obtain ⟨z, rfl, _⟩ := h
    exact ⟨z, rfl, trivial⟩
theorem wt_pt {n : Nat} {ds : List D} (h : Wt Try.prog n 54 ds) : ∃ z, ds = encI z ∧ True := by
  cases n with
  | zero => exact h.elim
  | succ n =>
    simp only [Wt, Try.underlying54] at h
    obtain ⟨z, rfl, _⟩ := h
    exact ⟨z, rfl, trivial⟩
theorem wt_tys {n : Nat} {ds : List D} (h : Wt Try.prog n 22 ds) : ∃ l : List Int, ds = [.sl (em encI l)] ∧ l.length < 2 ^ 44 := by
  cases n with
  | zero => exact h.elim
  | succ n =>
    simp only [Wt, Try.underlying22] at h
    obtain ⟨es, rfl, hl, he⟩ := h
    obtain ⟨l, rfl, _⟩ := lift_em (enc := encI) (p := fun _ => True) fun c hc => wt_ty (he c hc)
    refine ⟨l, rfl, ?_⟩
    have hb : Try.prog.bytesOf 38 = 8 := by kernel_rfl
    rw [hb, em_len] at hl
    unfold reachBytes at hl
    omega
theorem wt_pts {n : Nat} {ds : List D} (h : Wt Try.prog n 23 ds) : ∃ l : List Int, ds = [.sl (em encI l)] ∧ l.length < 2 ^ 44 := by
  cases n with
  | zero => exact h.elim
  | succ n =>
    simp only [Wt, Try.underlying23] at h
    obtain ⟨es, rfl, hl, he⟩ := h
    obtain ⟨l, rfl, _⟩ := lift_em (enc := encI) (p := fun _ => True) fun c hc => wt_pt (he c hc)
    refine ⟨l, rfl, ?_⟩
    have hb : Try.prog.bytesOf 54 = 8 := by kernel_rfl
    rw [hb, em_len] at hl
    unfold reachBytes at hl
    omega
theorem arg_tys {x : D} (h : Arg Try.prog 22 x) : ∃ l : List Int, x = .sl (em encI l) ∧ l.length < 2 ^ 44 := by
  obtain ⟨n, ds, h, k⟩ := h
  simp only [Try.underlying22] at k
  obtain ⟨l, rfl, h1⟩ := wt_tys h
  simp only [List.cons.injEq, and_true] at k
  exact ⟨l, k.symm, h1⟩
theorem arg_pts {x : D} (h : Arg Try.prog 23 x) : ∃ l : List Int, x = .sl (em encI l) ∧ l.length < 2 ^ 44 := by
  obtain ⟨n, ds, h, k⟩ := h
  simp only [Try.underlying23] at k
  obtain ⟨l, rfl, h1⟩ := wt_pts h
  simp only [List.cons.injEq, and_true] at k
  exact ⟨l, k.symm, h1⟩
theorem wt_row {n : Nat} {ds : List D} (h : Wt Try.prog n 41 ds) : ∃ n l, ds = [I n, .sl (em encU l)] ∧ AllW l ∧ l.length < 2 ^ 44 := by
  cases n with
  | zero => exact h.elim
  | succ n =>
    simp only [Wt, Try.underlying41, WtS, List.map] at h
    obtain ⟨c, r, rfl, h1, c2, r2, rfl, h2, rfl⟩ := h
    obtain ⟨z, rfl, hz⟩ := wt_i64 h1
    obtain ⟨l, rfl, hl, hu⟩ := wt_bits h2
    refine ⟨z, l, by simp, fun u hu2 => wfW (hu u hu2), ?_⟩
    unfold reachBytes at hl
    omega
theorem arg_table {x : D} (h : Arg Try.prog 43 x) : ∃ ps t n l, x = tb ps t n l ∧ ps.length < 2 ^ 44 ∧ AllW l ∧ l.length < 2 ^ 44 := by
  obtain ⟨n, ds, h, k⟩ := h
  cases n with
  | zero => exact h.elim
  | succ n =>
    simp only [Wt, Try.underlying43, WtS, List.map] at h k
    obtain ⟨c, r, rfl, h1, c2, r2, rfl, h2, c3, r3, rfl, h3, rfl⟩ := h
    obtain ⟨ps, rfl, hp⟩ := wt_tys h1
    obtain ⟨t, rfl, _⟩ := wt_ty h2
    obtain ⟨m, l, rfl, hw, hl⟩ := wt_row h3
    exact ⟨ps, t, m, l, by simpa [tb, tbC] using k, hp, hw, hl⟩
theorem law_TuplesNumbers : ∀ xs, Args Try.prog Try.f3.params.toList xs → Pure Try.prog 3 xs (B true) := by
  intro xs h
  rw [Try.params3] at h
  simp only [Args] at h
  obtain ⟨x, r, rfl, hx, y, r2, rfl, hy, z, r3, rfl, hz, rfl⟩ := h
  obtain ⟨ps, rfl, hp⟩ := arg_tys hx
  obtain ⟨tu, rfl, ht⟩ := arg_pts hy
  obtain ⟨n, rfl, _⟩ := arg_int hz
  have hlen : (tupF ps n).1.length < 2 ^ 48 := by
    by_cases h : (tupF ps n).2 = 0
    · rw [tupF_len h, dg_len]; omega
    · rw [tupF_no h]; simp
  refine pu3 (by simp) ?_
  simp -implicitDefEqProofs [ac3]
  refine pcK_of (awake_c16) (by simp) ?_
  simp -implicitDefEqProofs
  refine pcK_of (Count_c16 ps (by omega)) (by simp) ?_
  simp -implicitDefEqProofs
  refine pcK_of (refCount_c16 ps (by omega)) (by simp) ?_
  simp -implicitDefEqProofs
  refine pcK_of (Number_c ps tu (by omega) (by omega)) (by simp) ?_
  simp -implicitDefEqProofs
  refine pcK_of (refNumber_c ps tu (by omega) (by omega)) (by simp) ?_
  simp -implicitDefEqProofs
  refine pcK_of (Tuple_c ps n hp) (by simp) ?_
  simp -implicitDefEqProofs
  refine pcK_of (refTuple_c ps n hp) (by simp) ?_
  simp -implicitDefEqProofs
  refine pcK_of (same_c16 (tupF ps n).1 (tupF ps n).1 hlen) (by simp) ?_
  simp -implicitDefEqProofs
end Go.Fx.Ytjfiklflmnhbdaa

/-
  Tables: the reference's Of, At, Set; Same, Below; numbers and digits. Plain laws of digits.
-/
import Derived.Test.YtjfiklflmnhbdaaTc
set_option linter.all false
set_option maxRecDepth 100000
set_option maxHeartbeats 4000000
namespace Go.Fx.Ytjfiklflmnhbdaa
open Go Go.Fx Go.Proofs Rows
theorem Points_y {ps : List Int} {t n : Int} {l : List Int} (w : AllW l) (hl : ps.length < 2 ^ 44) (h : TabOk ps t n l) : Pure Try.prog 19 [tb ps t n l] (.tup [.sl (em encI (cl n l)), B true]) := by
  refine Pure_of_CallT (by simp) (Points_t ps t n l w hl (fun _ id ver nx' _ _ => ?_) (fun h2 nx' _ => absurd h h2))
  simp [look, List.take_of_length_le, cl]
theorem Points_n {ps : List Int} {t n : Int} {l : List Int} (w : AllW l) (hl : ps.length < 2 ^ 44) (h : ¬ TabOk ps t n l) : Pure Try.prog 19 [tb ps t n l] (.tup [.sl [], B false]) := by
  refine Pure_of_CallT (by simp) (Points_t ps t n l w hl (fun h2 id ver nx' _ _ => absurd h2 h) (fun _ nx' _ => ?_))
  simp
theorem Of_c16 (ps : List Int) (t : Int) (cs : List Int) (h4 : ∀ c ∈ cs, Cell4 c) (hc : cs.length ≤ 4096) (hl : ps.length < 2 ^ 44) : Pure Try.prog 48 [.sl (em encI ps), I t, .sl (em encI cs)] (tb ps t cs.length (packL cs)) := by
  refine pu48 (by simp) ?_
  simp -implicitDefEqProofs [ac48]
  refine pcK_of (copied_c16 ps hl) (by simp) ?_
  simp -implicitDefEqProofs
  refine pcK_of (Pack_c cs h4 hc) (by simp) ?_
  simp -implicitDefEqProofs
theorem refAt_c16 (ps : List Int) (t n : Int) (l tu : List Int) (w : AllW l) (hl : ps.length < 2 ^ 44) (hu : tu.length < 2 ^ 48) : Pure Try.prog 24 [tb ps t n l, .sl (em encI tu)] (.tup [I (atF ps t n l tu).1, I (atF ps t n l tu).2]) := by
  refine pu24 (by simp) ?_
  simp -implicitDefEqProofs [ac24]
  by_cases h : TabOk ps t n l
  · refine pcK_of (Points_y w hl h) (by simp) ?_
    simp -implicitDefEqProofs
    refine pcK_of (refNumber_c ps tu (by omega) hu) (by simp) ?_
    simp -implicitDefEqProofs
    have hpl : placeF ps t n l tu = numF ps tu := by unfold placeF; rw [if_pos h]
    unfold atF
    rw [hpl]
    by_cases he : (numF ps tu).2 = 0
    · obtain ⟨g1, g2, _⟩ := num_in he
      rw [← h.2.2.1] at g2
      have g0 : 0 ≤ n := h.2.2.2.1.1
      have hi : (numF ps tu).1.toNat < n.toNat := by omega
      have hN := Int.max_eq_left g0
      have hI := Int.max_eq_left g1
      have hget := cl_getD (l := l) hi
      have hget2 : ∀ h, (cl n l)[(numF ps tu).1.toNat]'h = cellN l (numF ps tu).1.toNat := fun h => by
        have := cl_get (l := l) hi
        rw [List.getElem?_eq_getElem h] at this
        exact Option.some.inj this
      simp -implicitDefEqProofs [he, g1, g2, hi, hN, hI, hget, hget2, cl_get hi]
    · simp -implicitDefEqProofs [he]
  · refine pcK_of (Points_n w hl h) (by simp) ?_
    simp -implicitDefEqProofs
    have hpl : placeF ps t n l tu = (0, 3) := by unfold placeF; rw [if_neg h]
    simp -implicitDefEqProofs [atF, hpl]
theorem refSet_c16 (ps : List Int) (t n : Int) (l tu : List Int) (p : Int) (w : AllW l) (hl : ps.length < 2 ^ 44) (hu : tu.length < 2 ^ 48) : Pure Try.prog 26 [tb ps t n l, .sl (em encI tu), I p] (.tup [(setF ps t n l tu p).1, I (setF ps t n l tu p).2]) := by
  refine pu26 (by simp) ?_
  simp -implicitDefEqProofs [ac26]
  refine clK_of (Points_t ps t n l w hl (fun h id ver nx' h1 h2 => ?_) fun h nx' h1 => ?_)
  · have hpl : placeF ps t n l tu = numF ps tu := by unfold placeF; rw [if_pos h]
    unfold setF
    rw [hpl]
    have hid : ¬ id = 1 := by omega
    have hid2 : ¬ 1 = id := by omega
    simp -implicitDefEqProofs
    refine pcK_of (refNumber_c ps tu (by omega) hu) (by simp) ?_
    simp -implicitDefEqProofs
    by_cases he : (numF ps tu).2 = 0
    · obtain ⟨g1, g2, _⟩ := num_in he
      have g := h.2.2.2.1
      rw [← h.2.2.1] at g2
      have g0 : 0 ≤ n := g.1
      have hi : (numF ps tu).1.toNat < n.toNat := by omega
      have hN := Int.max_eq_left g0
      have hI := Int.max_eq_left g1
      simp -implicitDefEqProofs [he]
      refine pcK_of (Is_c t p) (by simp) ?_
      by_cases hc : 0 ≤ p ∧ p ≤ tp t
      · rw [show decide (0 ≤ p ∧ p ≤ tp t) = true by simpa using hc, if_pos hc]
        have hp3 : p ≤ 3 := by have := tp_is t; omega
        simp -implicitDefEqProofs [g1, g2, hi, hN, hI, hid, hid2]
        have hput := cl_put w g hc.1 hp3 hi
        have hgood := putL_good w g hc.1 hp3 hi
        have hW := putL_W (v := p) (i := (numF ps tu).1.toNat) w
        have hlen : ((cl n l).set (numF ps tu).1.toNat p).length = n.toNat := by simp
        have hOf := Of_c16 ps t ((cl n l).set (numF ps tu).1.toNat p) (by rw [hput]; exact cl_cell) (by rw [hlen]; have := g.2.1; omega) hl
        have hres : packL ((cl n l).set (numF ps tu).1.toNat p) = putL l (numF ps tu).1.toNat p := by rw [hput, pack_cl hgood hW]
        rw [hlen, hres] at hOf
        refine clK_of (CallT_frz (mf := [(id, .arr ver 1 (em encI ((cl n l).set (numF ps tu).1.toNat p)))]) (mk := [(1, .box [.pl (.slice none 0 0), I 0, I 0, .pl (.slice none 0 0)])]) (memSub_cons (memSub_nil _)) (memSub_skip (memSub_refl _) (by simp only [look]; rw [if_neg (by omega)])) (fun j => by
          simp only [look]
          by_cases e : id = j
          · right; rw [if_neg (by omega)]
          · left; rw [if_neg e]) (args' := [.sl (em encI ps), I t, .sl (em encI ((cl n l).set (numF ps tu).1.toNat p))]) (by simp [List.take_of_length_le]) hOf ?_)
        simp -implicitDefEqProofs [hN]
      · rw [show decide (0 ≤ p ∧ p ≤ tp t) = false by simpa using hc, if_neg hc]
        simp -implicitDefEqProofs [hid, hid2]
    · simp -implicitDefEqProofs [he, hid, hid2]
  · have hpl : placeF ps t n l tu = (0, 3) := by unfold placeF; rw [if_neg h]
    simp -implicitDefEqProofs [setF, hpl]
theorem below_c (a b : List Int) (hl : a.length = b.length) (ha : a.length < 2 ^ 48) : Pure Try.prog 49 [.sl (em encI a), .sl (em encI b)] (B (decide (∀ i, i < a.length → a[i]?.getD 0 ≤ b[i]?.getD 0))) := by
  refine pu49 (by simp) ?_
  simp -implicitDefEqProofs [ac49]
  generalize hR : decide (∀ i, i < a.length → a[i]?.getD 0 ≤ b[i]?.getD 0) = R
  refine lp49_0 (α := Nat) (fun s _ => [(4, .top), (5, I s)]) (fun s _ => []) (fun s k => s ≤ a.length ∧ ∀ i, i < s → a[i]?.getD 0 ≤ b[i]?.getD 0) (fun s => a.length - s) 0 ⟨by simp, by simp⟩ (by simp) (by simp) ?_
  rintro i k ⟨hi, hc⟩
  by_cases hlt : i < a.length
  · have hlt2 : i < b.length := by omega
    have w1 := wr64 (x := (i : Int) + 1) (by omega) (by omega)
    obtain ⟨p, hp⟩ : ∃ p, a[i] = p := ⟨_, rfl⟩
    obtain ⟨q, hq⟩ : ∃ q, b[i] = q := ⟨_, rfl⟩
    have hp2 : a[i]?.getD 0 = p := by rw [List.getElem?_eq_getElem hlt]; exact hp
    have hq2 : b[i]?.getD 0 = q := by rw [List.getElem?_eq_getElem hlt2]; exact hq
    by_cases hbig : q < p
    · have hno : R = false := by
        rw [← hR, decide_eq_false_iff_not]
        intro h
        have := h i hlt
        rw [hp2, hq2] at this
        omega
      subst hno
      simp -implicitDefEqProofs [lb49_0, hlt, hlt2, hp, hq, hbig, Int.not_le.2 hbig]
    · simp -implicitDefEqProofs [lb49_0, hlt, hlt2, hp, hq, hbig, Int.not_lt.1 hbig, w1]
      refine again_of (i + 1) ⟨hlt, fun j hj => ?_⟩ (by omega) (by simp) (by simp)
      by_cases e : j = i
      · subst e; rw [hp2, hq2]; omega
      · exact hc j (by omega)
  · have hyes : R = true := by
      rw [← hR, decide_eq_true_eq]
      exact fun j hj => hc j (by omega)
    subst hyes
    simp -implicitDefEqProofs [lb49_0, hlt]
def belowL (a b : List Int) : Prop := a.length = b.length ∧ ∀ i, i < a.length → a[i]?.getD 0 ≤ b[i]?.getD 0
instance (a b : List Int) : Decidable (belowL a b) := by unfold belowL; infer_instance
theorem Below_c16 (a b : List Int) (ha : a.length < 2 ^ 48) : Pure Try.prog 29 [.sl (em encI a), .sl (em encI b)] (B (decide (belowL a b))) := by
  refine pu29 (by simp) ?_
  by_cases hl : a.length = b.length
  · have hl2 : (a.length : Int) = (b.length : Int) := by omega
    have e : decide (belowL a b) = decide (∀ i, i < a.length → a[i]?.getD 0 ≤ b[i]?.getD 0) := by
      rw [Bool.eq_iff_iff]; simp [belowL, hl]
    rw [e]
    simp -implicitDefEqProofs [ac29, hl2]
    refine pcK_of (below_c a b hl ha) (by simp) ?_
    simp -implicitDefEqProofs
  · have hl2 : ¬ (a.length : Int) = (b.length : Int) := by omega
    have e : decide (belowL a b) = false := by simp [belowL, hl]
    rw [e]
    simp -implicitDefEqProofs [ac29, hl2]
theorem Same_c16 (ps ps' : List Int) (t t' n n' : Int) (l l' : List Int) (h1 : ps.length < 2 ^ 48) (h2 : l.length < 2 ^ 48) : Pure Try.prog 22 [tb ps t n l, tb ps' t' n' l'] (B (decide (ps = ps' ∧ t = t' ∧ n = n' ∧ l = l'))) := by
  refine pu22 (by simp) ?_
  generalize hR : decide (ps = ps' ∧ t = t' ∧ n = n' ∧ l = l') = R
  by_cases ht : t = t'
  · by_cases hl : ps.length = ps'.length
    · have hl2 : (ps.length : Int) = (ps'.length : Int) := by omega
      by_cases hr : n = n' ∧ l = l'
      · have hrow := Same_c n n' l l' (by omega)
        rw [show decide (n = n' ∧ l = l') = true by simpa using hr] at hrow
        simp -implicitDefEqProofs [ac22, ht, hl2]
        refine pcK_of (hrow) (by simp) ?_
        simp -implicitDefEqProofs
        refine lp22_0 (α := Nat) (fun s _ => [(4, .top), (5, I s)]) (fun s _ => []) (fun s k => s ≤ ps.length ∧ ps.take s = ps'.take s) (fun s => ps.length - s) 0 ⟨by simp, by simp⟩ (by simp) (by simp) ?_
        rintro i k ⟨hi, hc⟩
        by_cases hlt : i < ps.length
        · have hlt2 : i < ps'.length := by omega
          have w1 := wr64 (x := (i : Int) + 1) (by omega) (by omega)
          obtain ⟨p, hp⟩ : ∃ p, ps[i] = p := ⟨_, rfl⟩
          obtain ⟨q, hq⟩ : ∃ q, ps'[i] = q := ⟨_, rfl⟩
          by_cases he : p = q
          · simp -implicitDefEqProofs [lb22_0, hlt, hlt2, hl2, hp, hq, he, w1]
            exact again_of (i + 1) ⟨hlt, take_succ_eq hlt hlt2 hc (by rw [List.getElem?_eq_getElem hlt, List.getElem?_eq_getElem hlt2, hp, hq, he])⟩ (by omega) (by simp) (by simp)
          · have hno : R = false := by
              rw [← hR, decide_eq_false_iff_not]
              rintro ⟨rfl, _⟩
              rw [hp] at hq
              exact he hq
            subst hno
            simp -implicitDefEqProofs [lb22_0, hlt, hlt2, hl2, hp, hq, he]
        · have hil : i = ps.length := by omega
          subst hil
          rw [List.take_length, hl, List.take_length] at hc
          have hyes : R = true := by rw [← hR, decide_eq_true_eq]; exact ⟨hc, ht, hr⟩
          subst hyes
          have hlt2 : ¬ ps.length < ps'.length := by omega
          simp -implicitDefEqProofs [lb22_0, hlt, hlt2, hl2]
      · have hrow := Same_c n n' l l' (by omega)
        rw [show decide (n = n' ∧ l = l') = false by simpa using hr] at hrow
        have hno : R = false := by rw [← hR, decide_eq_false_iff_not]; exact fun h => hr h.2.2
        subst hno
        simp -implicitDefEqProofs [ac22, ht, hl2]
        refine pcK_of (hrow) (by simp) ?_
        simp -implicitDefEqProofs
    · have hl2 : ¬ (ps.length : Int) = (ps'.length : Int) := by omega
      have hno : R = false := by rw [← hR, decide_eq_false_iff_not]; exact fun h => hl (by rw [h.1])
      subst hno
      simp -implicitDefEqProofs [ac22, ht, hl2]
  · have hno : R = false := by rw [← hR, decide_eq_false_iff_not]; exact fun h => ht h.2.1
    subst hno
    simp -implicitDefEqProofs [ac22, ht]
/-! ### Digits -/
theorem mod_mul {n P k : Int} (hP : 0 ≤ P) : n % (k * P) = (n / P % k) * P + n % P := by
  have e1 : n % (k * P) = n - k * P * (n / (k * P)) := Int.emod_def ..
  have e2 : n / P % k = n / P - k * (n / P / k) := Int.emod_def ..
  have e3 : n % P = n - P * (n / P) := Int.emod_def ..
  rw [e1, e2, e3, div_step hP, Int.sub_mul, Int.mul_comm (n / P) P, Int.mul_assoc k, Int.mul_assoc k, Int.mul_comm P (n / (k * P))]
  omega
theorem dg_in : ∀ {ts : List Int} (n : Int), okT ts → 0 ≤ n → inT ts (dg ts n) = true
  | [], n, _, _ => rfl
  | t :: ts, n, h, h0 => by
    obtain ⟨h1, h2⟩ := okT_tl h
    unfold dg
    rw [inT_cons, dg_in n h2 h0, Bool.and_true, decide_eq_true_eq]
    have a := Int.emod_nonneg (n / pr ts) (by omega : tp t + 1 ≠ 0)
    have b := Int.emod_lt_of_pos (n / pr ts) (by omega : 0 < tp t + 1)
    omega
theorem vl_dg : ∀ {ts : List Int} (n a : Int), okT ts → vl ts (dg ts n) a = a * pr ts + n % pr ts
  | [], n, a, _ => by simp [vl, pr, Int.emod_one]
  | t :: ts, n, a, h => by
    obtain ⟨h1, h2⟩ := okT_tl h
    unfold dg
    rw [vl_cons, vl_dg n _ h2, pr_cons, mod_mul (pr_nn ts), Int.add_mul, Int.mul_assoc]
    omega
theorem vl_set : ∀ (ts ds : List Int) (i : Nat) (a : Int), ts.length = ds.length → i < ts.length → vl ts (ds.set i (ds[i]?.getD 0 + 1)) a = vl ts ds a + pr (ts.drop (i + 1))
  | [], ds, i, a, hl, hi => by simp at hi
  | t :: ts, [], i, a, hl, hi => by simp at hl
  | t :: ts, d :: ds, 0, a, hl, hi => by
    simp only [List.set_cons_zero, List.getElem?_cons_zero, Option.getD_some, List.drop_succ_cons, List.drop_zero, vl_cons]
    have key : ∀ (ts ds : List Int) (a : Int), ts.length = ds.length → vl ts ds (a + 1) = vl ts ds a + pr ts := by
      intro ts
      induction ts with
      | nil => intro ds a hl; cases ds with
        | nil => simp [vl, pr]
        | cons d ds => simp at hl
      | cons t ts ih =>
        intro ds a hl
        cases ds with
        | nil => simp at hl
        | cons d ds =>
          simp only [List.length_cons, Nat.add_right_cancel_iff] at hl
          have key2 : ∀ (k : Nat) (b : Int), vl ts ds (b + k) = vl ts ds b + k * pr ts := by
            intro k
            induction k with
            | zero => intro b; simp
            | succ k ihk =>
              intro b
              have e : b + ((k + 1 : Nat) : Int) = (b + k) + 1 := by omega
              rw [e, ih ds _ hl, ihk b]
              have e2 : ((k + 1 : Nat) : Int) * pr ts = (k : Int) * pr ts + pr ts := by rw [Int.natCast_add, Int.add_mul]; simp
              omega
          have ht := tp_is t
          rw [vl_cons, vl_cons, pr_cons]
          have e : (a + 1) * (tp t + 1) + d = (a * (tp t + 1) + d) + ((tp t + 1).toNat : Int) := by
            rw [Int.add_mul, Int.one_mul]; omega
          rw [e, key2]
          have e3 : ((tp t + 1).toNat : Int) = tp t + 1 := by omega
          rw [e3]
    have e : a * (tp t + 1) + (d + 1) = (a * (tp t + 1) + d) + 1 := by omega
    rw [e]
    exact key ts ds _ (by simpa using hl)
  | t :: ts, d :: ds, i + 1, a, hl, hi => by
    simp only [List.set_cons_succ, List.getElem?_cons_succ, List.drop_succ_cons, vl_cons]
    exact vl_set ts ds i _ (by simpa using hl) (by simpa using hi)
theorem inT_set : ∀ (ts ds : List Int) (i : Nat) (t : Int), inT ts ds = true → ts[i]? = some t → ds[i]?.getD 0 + 1 ≤ tp t → inT ts (ds.set i (ds[i]?.getD 0 + 1)) = true
  | [], ds, i, t, h, ht, hd => by simp at ht
  | t :: ts, [], i, u, h, ht, hd => by simp [inT] at h
  | t :: ts, d :: ds, 0, u, h, ht, hd => by
    simp only [List.getElem?_cons_zero, Option.some.injEq] at ht
    subst ht
    rw [inT_cons] at h
    simp only [Bool.and_eq_true, decide_eq_true_eq] at h
    simp only [List.set_cons_zero, List.getElem?_cons_zero, Option.getD_some] at hd ⊢
    rw [inT_cons, h.2, Bool.and_true, decide_eq_true_eq]
    omega
  | t :: ts, d :: ds, i + 1, u, h, ht, hd => by
    simp only [List.getElem?_cons_succ] at ht
    rw [inT_cons] at h
    simp only [Bool.and_eq_true, decide_eq_true_eq] at h
    simp only [List.set_cons_succ, List.getElem?_cons_succ] at hd ⊢
    rw [inT_cons, inT_set ts ds i u h.2 ht hd, Bool.and_true, decide_eq_true_eq]
    exact h.1
theorem inT_len : ∀ {ts ds : List Int}, inT ts ds = true → ds.length = ts.length
  | [], [], _ => rfl
  | [], d :: ds, h => by simp [inT] at h
  | t :: ts, [], h => by simp [inT] at h
  | t :: ts, d :: ds, h => by
    rw [inT_cons] at h
    simp only [Bool.and_eq_true] at h
    simp [inT_len h.2]
theorem dg_at {ts : List Int} {i : Nat} {t n : Int} (hi : i < ts.length) (ht : ts[i] = t) : (dg ts n)[i]? = some (n / pr (ts.drop (i + 1)) % (tp t + 1)) := by
  induction ts generalizing i with
  | nil => simp at hi
  | cons u us ih =>
    cases i with
    | zero =>
      simp only [List.getElem_cons_zero] at ht
      subst ht
      simp [dg]
    | succ i =>
      simp only [List.getElem_cons_succ] at ht
      simp only [dg, List.getElem?_cons_succ, List.drop_succ_cons]
      exact ih (by simpa using hi) ht
/-- One greater at one place. -/
theorem dg_up {ts : List Int} {i : Nat} {t n : Int} (ho : okT ts) (h0 : 0 ≤ n) (hn : n < pr ts) (hi : i < ts.length) (ht : ts[i] = t) (hd : n / pr (ts.drop (i + 1)) % (tp t + 1) < tp t) :
    inT ts ((dg ts n).set i (n / pr (ts.drop (i + 1)) % (tp t + 1) + 1)) = true ∧ vl ts ((dg ts n).set i (n / pr (ts.drop (i + 1)) % (tp t + 1) + 1)) 0 = n + pr (ts.drop (i + 1)) ∧ n + pr (ts.drop (i + 1)) < pr ts := by
  have hat := dg_at (n := n) hi ht
  have hin := dg_in n ho h0
  have hv := vl_dg n 0 ho
  rw [Int.zero_mul, Int.zero_add, Int.emod_eq_of_lt h0 hn] at hv
  have e : (dg ts n)[i]?.getD 0 = n / pr (ts.drop (i + 1)) % (tp t + 1) := by rw [hat]; rfl
  have h1 := inT_set ts (dg ts n) i t hin (by rw [List.getElem?_eq_getElem hi, ht]) (by rw [e]; omega)
  have h2 := vl_set ts (dg ts n) i 0 (by rw [dg_len]) hi
  rw [e] at h1 h2
  have h3 := (inT_vl ts _ 0 h1 (Int.le_refl 0)).2
  rw [h2, hv] at h3
  refine ⟨h1, by rw [h2, hv], by simpa using h3⟩
/-! ### Rises -/
/-- No tuple's point is above that of one greater by one at one place. -/
def RisesOk (ps : List Int) (l : List Int) (n : Int) : Prop := ∀ i t, ps[i]? = some t → ∀ m : Nat, m < n.toNat → (m : Int) / pr (ps.drop (i + 1)) % (tp t + 1) < tp t → cellN l m ≤ cellN l (m + (pr (ps.drop (i + 1))).toNat)
open Classical in
noncomputable def risesF (ps : List Int) (t n : Int) (l : List Int) : Bool × Int := if TabOk ps t n l then (decide (RisesOk ps l n), 0) else (false, 3)
open Classical in
theorem Rises_c (ps : List Int) (t n : Int) (l : List Int) (w : AllW l) (hl : ps.length < 2 ^ 44) : Pure Try.prog 27 [tb ps t n l] (.tup [B (risesF ps t n l).1, I (risesF ps t n l).2]) := by
  refine pu27 (by simp) ?_
  simp -implicitDefEqProofs [ac27]
  refine pcK_of (Check_c16 ps t n l w hl) (by simp) ?_
  simp -implicitDefEqProofs
  unfold risesF
  by_cases h : TabOk ps t n l
  · have h0 := h
    obtain ⟨he, ht0, hn, hg, _⟩ := h
    obtain ⟨ho, hp96, _⟩ := cntF_ok he
    have hn0 : 0 ≤ n := hg.1
    rw [if_pos h0]
    obtain ⟨R, hR⟩ : ∃ R : Bool, decide (RisesOk ps l n) = R := ⟨_, rfl⟩
    rw [hR]
    simp -implicitDefEqProofs [tabE, h0]
    refine pcK_of (back_c ps) (by simp) ?_
    simp -implicitDefEqProofs
    refine A_rfn_of (f := 55) (caps := [.pt [.sl (em encI ps)]]) (xs := backs ps) (fun i m k => 9 ≤ k ∧ m = [(8, .box [I (pr (ps.drop (ps.length - i)))]), (2, .box [I 0]), (1, .box [B false])] ∧ ∀ j u, ps.length - i ≤ j → ps[j]? = some u → ∀ m : Nat, m < n.toNat → (m : Int) / pr (ps.drop (j + 1)) % (tp u + 1) < tp u → cellN l m ≤ cellN l (m + (pr (ps.drop (j + 1))).toNat)) rfl (back_iter ps (by omega)) (by decide) (fun y hy => ?_) ⟨by omega, ?_, ?_⟩ ?_ ?_
    · unfold backs at hy
      obtain ⟨j, _, rfl⟩ := List.mem_map.1 hy
      rfl
    · simp [pr]
    · intro j u hj hu
      rw [List.getElem?_eq_none (by omega)] at hu
      simp at hu
    · rintro i y mem' nx' hy ⟨hk, rfl, hdone⟩ hnx
      have hi : i < ps.length := by
        have := (List.getElem?_eq_some_iff.1 hy).1
        rwa [backs_len] at this
      rw [backs_at ps hi, Option.some.injEq] at hy
      subst hy
      obtain ⟨j, hj⟩ : ∃ j, j = ps.length - 1 - i := ⟨_, rfl⟩
      have hjm : ps.length - i = j + 1 := by omega
      have hjl : j < ps.length := by omega
      have hji : ps.length - (i + 1) = j := by omega
      rw [← hj, hjm]
      rw [hjm] at hdone
      obtain ⟨u, hu⟩ : ∃ u, ps[j] = u := ⟨_, rfl⟩
      have hu2 : ps[j]?.getD 0 = u := by rw [List.getElem?_eq_getElem hjl]; exact hu
      have hu3 : ps[j]? = some u := by rw [List.getElem?_eq_getElem hjl, hu]
      have huo : 0 ≤ tp u := ho u (hu ▸ List.getElem_mem hjl)
      have hti := tp_is u
      have hP := pr_pos (okT_drop ho (j + 1))
      have hpr := pr_step hjl hu
      have hup := fun (m : Int) (h1 : 0 ≤ m) (h2 : m < pr ps) (h3 : m / pr (ps.drop (j + 1)) % (tp u + 1) < tp u) => (dg_up ho h1 h2 hjl hu h3).2.2
      have hPk : pr (ps.drop (j + 1)) * (tp u + 1) = pr (ps.drop j) := by rw [hpr, Int.mul_comm]
      have hle : pr (ps.drop j) ≤ pr ps := by
        have : ∀ (ts : List Int) (j : Nat), okT ts → pr (ts.drop j) ≤ pr ts := by
          intro ts
          induction ts with
          | nil => intro j _; simp
          | cons t ts ih =>
            intro j ho
            cases j with
            | zero => simp
            | succ j =>
              obtain ⟨h1, h2⟩ := okT_tl ho
              have := ih j h2
              rw [List.drop_succ_cons, pr_cons]
              have hpp := pr_pos h2
              have : 1 * pr ts ≤ (tp t + 1) * pr ts := Int.mul_le_mul_of_nonneg_right (by omega) (by omega)
              omega
        exact this ps j ho
      have hq1 : pr (ps.drop (j + 1)) ≤ 4096 := by
        have : pr (ps.drop (j + 1)) * 1 ≤ pr (ps.drop (j + 1)) * (tp u + 1) := Int.mul_le_mul_of_nonneg_left (by omega) (by omega)
        omega
      have hdone2 : ∀ (hall : ∀ m : Nat, m < n.toNat → (m : Int) / pr (ps.drop (j + 1)) % (tp u + 1) < tp u → cellN l m ≤ cellN l (m + (pr (ps.drop (j + 1))).toNat)), ∀ k v, j ≤ k → ps[k]? = some v → ∀ m : Nat, m < n.toNat → (m : Int) / pr (ps.drop (k + 1)) % (tp v + 1) < tp v → cellN l m ≤ cellN l (m + (pr (ps.drop (k + 1))).toNat) := by
        intro hall k v hk hv
        by_cases e : k = j
        · subst e
          rw [hu3, Option.some.injEq] at hv
          subst hv
          exact hall
        · exact hdone k v (by omega) hv
      have hbad : ∀ m : Nat, m < n.toNat → (m : Int) / pr (ps.drop (j + 1)) % (tp u + 1) < tp u → ¬ cellN l m ≤ cellN l (m + (pr (ps.drop (j + 1))).toNat) → R = false := by
        intro m h1 h2 h3
        rw [← hR, decide_eq_false_iff_not]
        exact fun h => h3 (h j u hu3 m h1 h2)
      generalize pr (ps.drop (j + 1)) = P at *
      have hnu : ¬ tp u < 0 := by omega
      have w1 := wrS (x := tp u + 1 - 1) (by omega) (by omega)
      have hPn : 0 ≤ P * (tp u + 1) := Int.mul_nonneg (by omega) (by omega)
      have w2 := wrS (x := P * (tp u + 1)) (by omega) (by omega)
      have hk0 : ¬ tp u + 1 = 0 := by omega
      have hP0 : ¬ P = 0 := by omega
      simp only [putEs]
      simp -implicitDefEqProofs [asgQ, hu2]
      refine pcK_of (size_c u) (by simp) ?_
      simp -implicitDefEqProofs [hnu, huo]
      refine lp27_0 (α := Nat) (fun s _ => [(10, .top), (11, .top), (13, .top), (33, I s)]) (fun s _ => [(8, .box [I P]), (2, .box [I 0]), (1, .box [B false])]) (fun s k => 9 ≤ k ∧ nx' ≤ k ∧ (s : Int) ≤ n ∧ ∀ m : Nat, m < s → (m : Int) / P % (tp u + 1) < tp u → cellN l m ≤ cellN l (m + P.toNat)) (fun s => n.toNat - s) 0 ⟨by omega, by omega, by omega, by simp⟩ (by simp) (memLe_refl _) ?_
      rintro s k ⟨hk1, hk2, hs, hall⟩
      by_cases hlt : (s : Int) < n
      · have hsn : s < n.toNat := by omega
        have d1 : 0 ≤ (s : Int) / P := Int.ediv_nonneg (by omega) (by omega)
        have d2 := Int.ediv_le_self P (by omega : 0 ≤ (s : Int))
        have e1 : (s : Int).tdiv P = (s : Int) / P := Int.tdiv_eq_ediv_of_nonneg (by omega)
        have e2 : ((s : Int) / P).tmod (tp u + 1) = (s : Int) / P % (tp u + 1) := Int.tmod_eq_emod_of_nonneg d1
        have w3 := wrS (x := (s : Int) / P) (by omega) (by omega)
        have w4 := wrS (x := (s : Int) + 1) (by omega) (by omega)
        have r1 := Int.emod_nonneg ((s : Int) / P) (by omega : tp u + 1 ≠ 0)
        have r2 := Int.emod_lt_of_pos ((s : Int) / P) (by omega : 0 < tp u + 1)
        have hs0 : (0 : Int) ≤ s := by omega
        by_cases hd : (s : Int) / P % (tp u + 1) = tp u
        · have e3 : tp u + 1 - 1 = tp u := by omega
          rw [e3] at w1
          simp -implicitDefEqProofs [lb27_0, hlt, hP0, hk0, e1, w3, e2, e3, w1, hd, w4, hnu, huo]
          refine again_of (s + 1) ⟨by omega, by omega, by omega, fun m hm hmd => ?_⟩ (by omega) (by simp) (memLe_refl _)
          by_cases e : m = s
          · subst e; omega
          · exact hall m (by omega) hmd
        · have hd2 : (s : Int) / P % (tp u + 1) < tp u := by omega
          have hin := hup s hs0 (by omega) hd2
          have hin2 : (s : Int) + P < n := by omega
          have w5 := wrS (x := (s : Int) + P) (by omega) (by omega)
          have h0P : 0 ≤ (s : Int) + P := by omega
          have hnat : ((s : Int) + P).toNat = s + P.toNat := by omega
          have e3 : tp u + 1 - 1 = tp u := by omega
          rw [e3] at w1
          simp -implicitDefEqProofs [lb27_0, hlt, hP0, hk0, e1, w3, e2, e3, w1, hd, hnu, huo]
          refine pcK_of (Get_c n s l) (by simp) ?_
          simp -implicitDefEqProofs [getF, hg, hs0, hlt]
          rw [w5]
          refine pcK_of (Get_c n (s + P) l) (by simp) ?_
          simp -implicitDefEqProofs [getF, hg, h0P, hin2, hnat]
          by_cases hbig : cellN l (s + P.toNat) < cellN l s
          · have := hbad s hsn hd2 (by omega)
            subst this
            simp -implicitDefEqProofs [hbig, Int.not_le.2 hbig, rndQ]
          · simp -implicitDefEqProofs [hbig, Int.not_lt.1 hbig, w4]
            refine again_of (s + 1) ⟨by omega, by omega, by omega, fun m hm hmd => ?_⟩ (by omega) (by simp) (memLe_refl _)
            by_cases e : m = s
            · subst e; omega
            · exact hall m (by omega) hmd
      · simp -implicitDefEqProofs [lb27_0, hlt, w2, rndQ]
        refine ⟨_, memLe_refl _, _, Nat.le_refl _, by omega, by rw [hji, ← hPk], ?_⟩
        exact fun j' u' hj' hu' m hm hd => hdone2 (fun m hm => hall m (by omega)) j' u' (by omega) hu' m (by omega) hd
    · rintro mem' nx' ⟨hk, rfl, hdone⟩ hnx
      have hyes : R = true := by
        rw [← hR, decide_eq_true_eq]
        intro i u hu m h1 h2
        exact hdone i u (by rw [backs_len]; omega) hu m h1 h2
      subst hyes
      simp -implicitDefEqProofs
  · rw [if_neg h]
    simp -implicitDefEqProofs [tabE, h]
end Go.Fx.Ytjfiklflmnhbdaa

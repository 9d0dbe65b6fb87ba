/-
  Tables: copies, New, Check, place, At, Set; the reference's copied, New, Points, Of, At, Set; Same.
-/
import Derived.Test.YtjfiklflmnhbdaaTb
import Derived.Test.YtjfiklflmnhbdaaRk
set_option linter.all false
set_option maxRecDepth 100000
set_option maxHeartbeats 4000000
namespace Go.Fx.Ytjfiklflmnhbdaa
open Go Go.Fx Go.Proofs
theorem em_els16 {α : Type} {enc : α → List D} {k : Nat} {l : List α} {mem : Mem} (h : ∀ x, (enc x).all D.cell = true) (hk : ∀ x, (enc x).length = k) : els mem k (.sl (em enc l)) = some (em enc l) := by
  show (if ((em enc l).all fun e => e.length == k && e.all D.cell) = true then some (em enc l) else none) = _
  rw [if_pos (em_els h hk)]
theorem els_16 {l : List Int} {mem : Mem} : els mem 1 (.sl (em encI l)) = some (em encI l) := em_els16 (fun x => rfl) (fun x => rfl)
/-- A table's cells. -/
abbrev tbC (ps : List Int) (t n : Int) (l : List Int) : List D := [.sl (em encI ps), I t, I n, .sl (em encU l)]
abbrev tb (ps : List Int) (t n : Int) (l : List Int) : D := .agg (tbC ps t n l)
theorem copied_c16 (l : List Int) (hl : l.length < 2 ^ 44) : Pure Try.prog 40 [.sl (em encI l)] (.sl (em encI l)) := by
  refine pu40 (by simp) ?_
  have b1 : l.length * 8 ≤ 3 * 2 ^ 46 := by omega
  simp -implicitDefEqProofs [-els, els_16, ac40, b1]
theorem Clone_c (l : List Int) (hl : l.length < 2 ^ 44) : Pure Try.prog 38 [.sl (em encI l)] (.sl (em encI l)) := by
  by_cases he : l = []
  · subst he
    refine Pure_slice ?_ (fun p c => ?_) (fun h => absurd rfl h)
    · refine pu38 (by simp) ?_
      simp -implicitDefEqProofs [ac38, bin_slZ Try.underlying22]
    · refine pu38 (by simp) ?_
      simp -implicitDefEqProofs [ac38, bin_slP Try.underlying22]
  · have hne : em encI l ≠ [] := by cases l with
      | nil => exact absurd rfl he
      | cons a l => simp [em]
    have b1 : l.length * 8 ≤ 3 * 2 ^ 46 := by omega
    refine pu38 (by simp) ?_
    simp -implicitDefEqProofs [-els, els_16, ac38, bin_slN Try.underlying22 hne, b1]
def newT (ps : List Int) (t : Int) : D × Int := if (cntF ps).2 ≠ 0 then (tb [] 0 0 [], (cntF ps).2) else if tp t < 0 then (tb [] 0 0 [], 3) else (tb ps t (pr ps) (List.replicate ((pr ps + 31) / 32).toNat 0), 0)
theorem New_c16 (ps : List Int) (t : Int) (hl : ps.length < 2 ^ 44) : Pure Try.prog 17 [.sl (em encI ps), I t] (.tup [(newT ps t).1, I (newT ps t).2]) := by
  refine pu17 (by simp) ?_
  simp -implicitDefEqProofs [ac17]
  refine pcK_of (Count_c16 ps (by omega)) (by simp) ?_
  simp -implicitDefEqProofs
  unfold newT
  by_cases he : (cntF ps).2 = 0
  · obtain ⟨ho, hp96, hp1⟩ := cntF_ok he
    have hpos := pr_pos ho
    simp -implicitDefEqProofs [he, hp1]
    refine pcK_of (size_c t) (by simp) ?_
    simp -implicitDefEqProofs
    by_cases hb : tp t < 0
    · have hb1 : ¬ 0 ≤ tp t := by omega
      simp -implicitDefEqProofs [hb, hb1]
    · have hb1 : 0 ≤ tp t := by omega
      have hN : 0 ≤ pr ps ∧ pr ps ≤ 4096 := by omega
      simp -implicitDefEqProofs [hb, hb1]
      refine pcK_of (New_c (pr ps)) (by simp) ?_
      simp -implicitDefEqProofs [newF, hN.1, hN.2, tup2]
      refine pcK_of (Clone_c ps hl) (by simp) ?_
      simp -implicitDefEqProofs
  · simp -implicitDefEqProofs [he]
theorem refNew_c16 (ps : List Int) (t : Int) (hl : ps.length < 2 ^ 44) : Pure Try.prog 18 [.sl (em encI ps), I t] (.tup [(newT ps t).1, I (newT ps t).2]) := by
  refine pu18 (by simp) ?_
  simp -implicitDefEqProofs [ac18]
  refine pcK_of (refCount_c16 ps (by omega)) (by simp) ?_
  simp -implicitDefEqProofs
  unfold newT
  by_cases he : (cntF ps).2 = 0
  · obtain ⟨ho, hp96, hp1⟩ := cntF_ok he
    have hpos := pr_pos ho
    simp -implicitDefEqProofs [he, hp1]
    refine pcK_of (refTop_c t) (by simp) ?_
    simp -implicitDefEqProofs
    by_cases hb : tp t < 0
    · have hb1 : ¬ 0 ≤ tp t := by omega
      simp -implicitDefEqProofs [hb, hb1]
    · have hb1 : 0 ≤ tp t := by omega
      have hN : 0 ≤ pr ps ∧ pr ps ≤ 4096 := by omega
      simp -implicitDefEqProofs [hb, hb1]
      refine pcK_of (refNew_c (pr ps)) (by simp) ?_
      simp -implicitDefEqProofs [newF, hN.1, hN.2, tup2]
      refine pcK_of (copied_c16 ps hl) (by simp) ?_
      simp -implicitDefEqProofs
  · simp -implicitDefEqProofs [he]
/-! ### A table that is one -/
/-- Its tuples are as many as its cells; no cell is above its type's top. -/
def TabOk (ps : List Int) (t n : Int) (l : List Int) : Prop := (cntF ps).2 = 0 ∧ 0 ≤ tp t ∧ n = pr ps ∧ Good n l ∧ ∀ i, i < n.toNat → cellN l i ≤ tp t
open Classical in
noncomputable def tabE (ps : List Int) (t n : Int) (l : List Int) : Int := if TabOk ps t n l then 0 else 3
theorem cells_top {l : List Int} {n t : Int} (ht : 0 ≤ tp t) (hc : ∀ v : Int, tp t + 1 ≤ v → v < 4 → cntTo l v n.toNat = 0) : ∀ i, i < n.toNat → cellN l i ≤ tp t := by
  intro i hi
  have hb := cellN_b l i
  apply Classical.byContradiction
  intro h
  have := hc (cellN l i) (by omega) hb.2
  unfold cntTo at this
  rw [List.countP_eq_zero] at this
  have := this i (by simpa using hi)
  simp at this
theorem cells_top' {l : List Int} {n t v : Int} (h : ∀ i, i < n.toNat → cellN l i ≤ tp t) (hv : tp t < v) : cntTo l v n.toNat = 0 := by
  unfold cntTo
  rw [List.countP_eq_zero]
  intro i hi
  have := h i (by simpa using hi)
  simp
  omega
theorem Check_c16 (ps : List Int) (t n : Int) (l : List Int) (w : AllW l) (hl : ps.length < 2 ^ 44) : Pure Try.prog 20 [tb ps t n l] (I (tabE ps t n l)) := by
  refine pu20 (by simp) ?_
  simp -implicitDefEqProofs [ac20]
  refine pcK_of (Count_c16 ps (by omega)) (by simp) ?_
  simp -implicitDefEqProofs
  refine pcK_of (size_c t) (by simp) ?_
  simp -implicitDefEqProofs
  by_cases he : (cntF ps).2 = 0
  · obtain ⟨ho, hp96, hp1⟩ := cntF_ok he
    by_cases hb : tp t < 0
    · have hno : ¬ TabOk ps t n l := fun h => by have := h.2.1; omega
      have hb1 : ¬ 0 ≤ tp t := by omega
      simp -implicitDefEqProofs [he, hb, hb1, hp1, tabE, hno]
    · have hb1 : 0 ≤ tp t := by omega
      by_cases hn : n = pr ps
      · by_cases hg : Good n l
        · have hck : checkF n l = 0 := checkF_ok.2 hg
          simp -implicitDefEqProofs [he, hb, hb1, hp1, hn]
          rw [← hn]
          refine pcK_of (Check_c n l) (by simp) ?_
          simp -implicitDefEqProofs [hck]
          generalize hR : tabE ps t n l = R
          refine lp20_0 (α := Nat) (fun s _ => [(2, .top), (7, I (tp t + 1 + s)), (8, .top)]) (fun s _ => []) (fun s k => tp t + 1 + s ≤ 4 ∧ ∀ v : Int, tp t + 1 ≤ v → v < tp t + 1 + s → cntTo l v n.toNat = 0) (fun s => 4 - s) 0 ⟨by have := tp_is t; omega, fun v h1 h2 => by omega⟩ (by simp) (by simp) ?_
          rintro s k ⟨hs, hc⟩
          have hti := tp_is t
          by_cases hlt : tp t + 1 + (s : Int) < 4
          · have w1 := wrS (x := tp t + 1 + (s : Int) + 1) (by omega) (by omega)
            have hv : 0 ≤ tp t + 1 + (s : Int) ∧ tp t + 1 + (s : Int) ≤ 3 := by omega
            simp -implicitDefEqProofs [lb20_0, hlt, Int.not_le.2 hlt]
            refine pcK_of (Count_c w (tp t + 1 + s)) (by simp) ?_
            simp -implicitDefEqProofs [countF, hg, hv.1, hv.2]
            by_cases hz : cntTo l (tp t + 1 + s) n.toNat = 0
            · simp -implicitDefEqProofs [hz, w1]
              refine again_of (s + 1) ⟨by omega, fun v h1 h2 => ?_⟩ (by omega) (by simp; exact .inl (by rw [Int.add_assoc _ (s : Int) 1])) (by simp)
              by_cases e : v = tp t + 1 + s
              · rw [e]; exact hz
              · exact hc v h1 (by omega)
            · have hno : ¬ TabOk ps t n l := fun h => hz (cells_top' h.2.2.2.2 (by omega))
              have hpos : 0 < cntTo l (tp t + 1 + s) n.toNat := by omega
              rw [tabE, if_neg hno] at hR
              subst hR
              simp -implicitDefEqProofs [hpos, hz]
          · have hyes : TabOk ps t n l := ⟨he, by omega, hn, hg, cells_top (by omega) fun v h1 h2 => hc v h1 (by omega)⟩
            rw [tabE, if_pos hyes] at hR
            subst hR
            simp -implicitDefEqProofs [lb20_0, hlt, Int.not_lt.1 hlt]
        · have hck : checkF n l = 3 := by unfold checkF; rw [if_neg hg]
          have hno : ¬ TabOk ps t n l := fun h => hg h.2.2.2.1
          simp -implicitDefEqProofs [he, hb, hb1, hp1, hn]
          rw [← hn]
          refine pcK_of (Check_c n l) (by simp) ?_
          simp -implicitDefEqProofs [hck, tabE, hno]
      · have hno : ¬ TabOk ps t n l := fun h => hn h.2.2.1
        simp -implicitDefEqProofs [he, hb, hb1, hp1, hn, tabE, hno]
  · have hno : ¬ TabOk ps t n l := fun h => he h.1
    simp -implicitDefEqProofs [he, tabE, hno]
open Classical in
noncomputable def placeF (ps : List Int) (t n : Int) (l tu : List Int) : Int × Int := if TabOk ps t n l then numF ps tu else (0, 3)
theorem place_c (ps : List Int) (t n : Int) (l tu : List Int) (w : AllW l) (hl : ps.length < 2 ^ 44) (hu : tu.length < 2 ^ 48) : Pure Try.prog 45 [tb ps t n l, .sl (em encI tu)] (.tup [I (placeF ps t n l tu).1, I (placeF ps t n l tu).2]) := by
  refine pu45 (by simp) ?_
  simp -implicitDefEqProofs [ac45]
  refine pcK_of (Check_c16 ps t n l w hl) (by simp) ?_
  simp -implicitDefEqProofs
  by_cases h : TabOk ps t n l
  · simp -implicitDefEqProofs [tabE, h]
    refine pcK_of (Number_c ps tu (by omega) hu) (by simp) ?_
    simp -implicitDefEqProofs [placeF, h]
  · simp -implicitDefEqProofs [tabE, h, placeF]
theorem inT_vl : ∀ (ts ps : List Int) (a : Int), inT ts ps = true → 0 ≤ a → a * pr ts ≤ vl ts ps a ∧ vl ts ps a < (a + 1) * pr ts
  | [], ps, a, h, ha => by
    cases ps with
    | nil => simp [vl, pr]; omega
    | cons p ps => simp [inT] at h
  | t :: ts, [], a, h, ha => by simp [inT] at h
  | t :: ts, p :: ps, a, h, ha => by
    unfold inT at h
    simp only [Bool.and_eq_true, decide_eq_true_eq] at h
    obtain ⟨⟨h0, h1⟩, h2⟩ := h
    have hk : 0 ≤ a * (tp t + 1) := Int.mul_nonneg ha (by omega)
    obtain ⟨g1, g2⟩ := inT_vl ts ps (a * (tp t + 1) + p) h2 (by omega)
    unfold vl pr
    have hP := pr_nn ts
    have e1 : (a + 1) * ((tp t + 1) * pr ts) = (a * (tp t + 1) + (tp t + 1)) * pr ts := by rw [← Int.mul_assoc, Int.add_mul a 1, Int.one_mul]
    have e2 : a * ((tp t + 1) * pr ts) = (a * (tp t + 1)) * pr ts := by rw [Int.mul_assoc]
    have m1 : (a * (tp t + 1)) * pr ts ≤ (a * (tp t + 1) + p) * pr ts := Int.mul_le_mul_of_nonneg_right (by omega) hP
    have m2 : (a * (tp t + 1) + p + 1) * pr ts ≤ (a * (tp t + 1) + (tp t + 1)) * pr ts := Int.mul_le_mul_of_nonneg_right (by omega) hP
    omega
theorem num_in {ps tu : List Int} (h : (numF ps tu).2 = 0) : 0 ≤ (numF ps tu).1 ∧ (numF ps tu).1 < pr ps ∧ (cntF ps).2 = 0 ∧ tu.length = ps.length ∧ inT ps tu = true ∧ (numF ps tu).1 = vl ps tu 0 := by
  unfold numF at h ⊢
  by_cases h1 : (cntF ps).2 = 0
  · rw [if_neg (fun g => g h1)] at h ⊢
    by_cases h2 : tu.length = ps.length
    · rw [if_neg (fun g => g h2)] at h ⊢
      by_cases h3 : inT ps tu = true
      · rw [if_pos h3]
        have := inT_vl ps tu 0 h3 (Int.le_refl 0)
        simp only [Int.zero_mul, Int.zero_add, Int.one_mul] at this
        exact ⟨this.1, this.2, h1, h2, h3, rfl⟩
      · rw [if_neg h3] at h; simp at h
    · rw [if_pos h2] at h; simp at h
  · rw [if_pos h1] at h; exact absurd h h1
noncomputable def atF (ps : List Int) (t n : Int) (l tu : List Int) : Int × Int := if (placeF ps t n l tu).2 ≠ 0 then (0, (placeF ps t n l tu).2) else (cellN l (placeF ps t n l tu).1.toNat, 0)
theorem place_in {ps : List Int} {t n : Int} {l tu : List Int} (h : (placeF ps t n l tu).2 = 0) : TabOk ps t n l ∧ placeF ps t n l tu = numF ps tu ∧ 0 ≤ (placeF ps t n l tu).1 ∧ (placeF ps t n l tu).1 < n := by
  unfold placeF at h ⊢
  by_cases h1 : TabOk ps t n l
  · rw [if_pos h1] at h ⊢
    obtain ⟨g1, g2, _⟩ := num_in h
    exact ⟨h1, rfl, g1, by rw [h1.2.2.1]; exact g2⟩
  · rw [if_neg h1] at h; simp at h
theorem At_c16 (ps : List Int) (t n : Int) (l tu : List Int) (w : AllW l) (hl : ps.length < 2 ^ 44) (hu : tu.length < 2 ^ 48) : Pure Try.prog 23 [tb ps t n l, .sl (em encI tu)] (.tup [I (atF ps t n l tu).1, I (atF ps t n l tu).2]) := by
  refine pu23 (by simp) ?_
  simp -implicitDefEqProofs [ac23]
  refine pcK_of (place_c ps t n l tu w hl hu) (by simp) ?_
  simp -implicitDefEqProofs
  unfold atF
  by_cases h : (placeF ps t n l tu).2 = 0
  · obtain ⟨h1, _, h3, h4⟩ := place_in h
    have hg := h1.2.2.2.1
    simp -implicitDefEqProofs [h]
    refine pcK_of (Get_c n (placeF ps t n l tu).1 l) (by simp) ?_
    simp -implicitDefEqProofs [getF, hg, h3, h4]
  · simp -implicitDefEqProofs [h]
noncomputable def setF (ps : List Int) (t n : Int) (l tu : List Int) (p : Int) : D × Int := if (placeF ps t n l tu).2 ≠ 0 then (tb [] 0 0 [], (placeF ps t n l tu).2) else if 0 ≤ p ∧ p ≤ tp t then (tb ps t n (putL l (placeF ps t n l tu).1.toNat p), 0) else (tb [] 0 0 [], 2)
theorem Set_c16 (ps : List Int) (t n : Int) (l tu : List Int) (p : Int) (w : AllW l) (hl : ps.length < 2 ^ 44) (hu : tu.length < 2 ^ 48) : Pure Try.prog 25 [tb ps t n l, .sl (em encI tu), I p] (.tup [(setF ps t n l tu p).1, I (setF ps t n l tu p).2]) := by
  refine pu25 (by simp) ?_
  simp -implicitDefEqProofs [ac25]
  refine pcK_of (place_c ps t n l tu w hl hu) (by simp) ?_
  simp -implicitDefEqProofs
  unfold setF
  by_cases h : (placeF ps t n l tu).2 = 0
  · obtain ⟨h1, _, h3, h4⟩ := place_in h
    have hg := h1.2.2.2.1
    have htop := h1.2.1
    simp -implicitDefEqProofs [h]
    refine pcK_of (Check15_c t p) (by simp) ?_
    simp -implicitDefEqProofs
    by_cases hc : 0 ≤ p ∧ p ≤ tp t
    · rw [if_pos hc]
      have hck : ck t p = 0 := ck_ok.2 hc
      have hp3 : p ≤ 3 := by have := tp_is t; omega
      simp -implicitDefEqProofs [hck, hc.1, hc.2]
      refine pcK_of (Put_c n (placeF ps t n l tu).1 p l) (by simp) ?_
      simp -implicitDefEqProofs [putF, hg, h3, h4, hc.1, hp3, tup2]
      refine pcK_of (Clone_c ps hl) (by simp) ?_
      simp -implicitDefEqProofs
    · rw [if_neg hc]
      have hck : ck t p = 2 := by unfold ck; rw [if_neg (by omega), if_neg hc]
      simp -implicitDefEqProofs [hck]
  · simp -implicitDefEqProofs [h]
/-! ### The reference's tables -/
theorem tab_iff {ps : List Int} {t n : Int} {l : List Int} : TabOk ps t n l ↔ (cntF ps).2 = 0 ∧ Good n l ∧ n = (cntF ps).1 ∧ 0 ≤ tp t ∧ ∀ i, i < n.toNat → cellN l i ≤ tp t := by
  constructor
  · rintro ⟨h1, h2, h3, h4, h5⟩
    exact ⟨h1, h4, by rw [(cntF_ok h1).2.2]; exact h3, h2, h5⟩
  · rintro ⟨h1, h2, h3, h4, h5⟩
    exact ⟨h1, h4, by rw [(cntF_ok h1).2.2] at h3; exact h3, h2, h5⟩
theorem Points_t (ps : List Int) (t n : Int) (l : List Int) (w : AllW l) (hl : ps.length < 2 ^ 44) {mem : Mem} {nx : Nat} {K : KD}
    (hy : TabOk ps t n l → ∀ id ver nx', nx ≤ id → id < nx' → K (.tup [.osl id ver 0 n.toNat, B true]) ((id, .arr ver 1 (em encI (cl n l))) :: mem) nx')
    (hn : ¬ TabOk ps t n l → ∀ nx', nx ≤ nx' → K (.tup [.pl (.slice none 0 0), B false]) mem nx') :
    CallT Try.prog 19 [tb ps t n l] mem nx K := by
  refine ct19 (by simp) fun hfr => ?_
  rw [tab_iff] at hy hn
  simp -implicitDefEqProofs [ac19]
  refine pcK_of (refCount_c16 ps (by omega)) (by simp) ?_
  simp -implicitDefEqProofs
  generalize cntF ps = C at *
  refine clK_of (Cells_t n l (fun hok id ver nx' h1 h2 => ?_) fun hno nx' h1 => ?_)
  · have g := (good_ok w).2 hok
    have h0 := g.1
    have h96 := g.2.1
    have hN := Int.max_eq_left h0
    simp -implicitDefEqProofs
    by_cases he : C.2 = 0
    · by_cases hnc : n = C.1
      · simp -implicitDefEqProofs [he, ← hnc, hN]
        refine pcK_of (refTop_c t) (by simp) ?_
        simp -implicitDefEqProofs
        by_cases hb : tp t < 0
        · have hno : ¬ (C.2 = 0 ∧ Good n l ∧ n = C.1 ∧ 0 ≤ tp t ∧ ∀ i, i < n.toNat → cellN l i ≤ tp t) := fun h => by omega
          have hb1 : ¬ 0 ≤ tp t := by omega
          simp -implicitDefEqProofs [hb, hb1]
          exact ⟨mem, memSub_skip (memSub_refl _) (hfr id (by omega)), hn hno _ (by omega)⟩
        · have hb1 : 0 ≤ tp t := by omega
          simp -implicitDefEqProofs [hb, hb1]
          refine lp19_0 (α := Nat) (fun s _ => [(2, .top), (3, .top), (8, I s)]) (fun s _ => (id, .arr ver 1 (em encI (cl n l))) :: mem) (fun s k => id < k ∧ (s : Int) ≤ n ∧ ∀ i, i < s → cellN l i ≤ tp t) (fun s => n.toNat - s) 0 ⟨by omega, by omega, by simp⟩ (by simp) (memLe_refl _) ?_
          rintro s k ⟨hk, hs, hc⟩
          by_cases hlt : (s : Int) < n
          · have hsn : s < n.toNat := by omega
            have w1 := wr64 (x := (s : Int) + 1) (by omega) (by omega)
            have hget := cl_getD (l := l) hsn
            have hget2 : (cl n l)[s]? = some (cellN l s) := cl_get hsn
            have hget3 : ∀ h, (cl n l)[s]'h = cellN l s := fun h => by
              have := hget2
              rw [List.getElem?_eq_getElem h] at this
              exact Option.some.inj this
            simp -implicitDefEqProofs [lb19_0, hlt, hsn, hN, hget, hget2, hget3, Int.not_le.2 hlt]
            refine pcK_of (refTop_c t) (by simp) ?_
            simp -implicitDefEqProofs
            by_cases hbig : tp t < cellN l s
            · have hno : ¬ (C.2 = 0 ∧ Good n l ∧ n = C.1 ∧ 0 ≤ tp t ∧ ∀ i, i < n.toNat → cellN l i ≤ tp t) := fun h => by have := h.2.2.2.2 s hsn; omega
              simp -implicitDefEqProofs [hbig, Int.not_le.2 hbig]
              exact ⟨mem, memSub_skip (memSub_refl _) (hfr id (by omega)), hn hno _ (by omega)⟩
            · simp -implicitDefEqProofs [hbig, Int.not_lt.1 hbig, w1]
              refine again_of (s + 1) ⟨by omega, by omega, fun i hi => ?_⟩ (by omega) (by simp) (memLe_refl _)
              by_cases e : i = s
              · subst e; omega
              · exact hc i (by omega)
          · simp -implicitDefEqProofs [lb19_0, hlt, Int.not_lt.1 hlt]
            exact ⟨_, memSub_refl _, hy ⟨he, g, hnc, hb1, fun i hi => hc i (by omega)⟩ id ver _ (by omega) (by omega)⟩
      · have hno : ¬ (C.2 = 0 ∧ Good n l ∧ n = C.1 ∧ 0 ≤ tp t ∧ ∀ i, i < n.toNat → cellN l i ≤ tp t) := fun h => hnc h.2.2.1
        simp -implicitDefEqProofs [he, hnc, hN]
        exact ⟨mem, memSub_skip (memSub_refl _) (hfr id (by omega)), hn hno _ (by omega)⟩
    · have hno : ¬ (C.2 = 0 ∧ Good n l ∧ n = C.1 ∧ 0 ≤ tp t ∧ ∀ i, i < n.toNat → cellN l i ≤ tp t) := fun h => he h.1
      simp -implicitDefEqProofs [he]
      exact ⟨mem, memSub_skip (memSub_refl _) (hfr id (by omega)), hn hno _ (by omega)⟩
  · have hno2 : ¬ (C.2 = 0 ∧ Good n l ∧ n = C.1 ∧ 0 ≤ tp t ∧ ∀ i, i < n.toNat → cellN l i ≤ tp t) := fun h => hno ((good_ok w).1 h.2.1)
    by_cases he : C.2 = 0
    · simp -implicitDefEqProofs [he]
      exact ⟨mem, memSub_refl _, hn hno2 _ (by omega)⟩
    · simp -implicitDefEqProofs [he]
      exact ⟨mem, memSub_refl _, hn hno2 _ (by omega)⟩
end Go.Fx.Ytjfiklflmnhbdaa

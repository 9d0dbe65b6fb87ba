/-
  points.Own and the reference's.
-/
import Derived.Test.YtalinonmjhdmaaaCodeOwn
import Derived.Test.YtalinonmjhdmaaaVb
import Derived.Test.YtalinonmjhdmaaaLPoints
import Derived.Test.YtalinonmjhdmaaaXE
set_option linter.all false
namespace Go.Fx.Ytalinonmjhdmaaa
open Go Go.Fx Go.Proofs Go.Fx.Flt
def Vl.zero (v : Vl) : Bool := decide (v.ty = 0) && (v.num.nought && (!v.bool && decide (v.list = [])))
def encA (k : Int) (v : Vl) (h : Int) : List D := [I k] ++ encV v ++ [I h]
def ownF (t k h : Int) (v : Vl) : Int × Int :=
  if tp t < 0 then (0, 3) else
  if k = 1 then (if v.zero then (0, 0) else (0, 40)) else
  if v.ok = true ∧ v.ty = t then
    (if k = 0 then (tp t, 0) else if k = 2 ∧ t = 3 then (1, 0) else if k = 3 ∧ t = 3 ∧ 0 ≤ h ∧ h < v.list.length then (2, 0) else (0, 40))
  else (0, 40)
theorem Own_c (t k h : Int) (v : Vl) (hv : v.lt) : Pure Try.prog 21 [I t, .agg (encA k v h)] (.tup [I (ownF t k h v).1, I (ownF t k h v).2]) := by
  refine pu21 (by simp) ?_
  have hT := Top_c t
  unfold topF at hT
  have hck := ValueCheck_c v hv
  unfold encV at hck
  have hno : v.num.nought = (eqF v.num.re 0 && eqF v.num.im 0) := rfl
  obtain ⟨r, hr⟩ : ∃ r, r = v.ok := ⟨_, rfl⟩
  rw [← hr] at hck
  by_cases h0 : tp t < 0
  · rw [if_pos h0] at hT
    simp -implicitDefEqProofs [ac21, encA, encV]
    refine pcK_of (hT) (by simp) ?_
    simp -implicitDefEqProofs
    simp -implicitDefEqProofs [ownF, h0]
  · rw [if_neg h0] at hT
    by_cases h1 : k = 1
    · subst h1
      obtain ⟨q, hq⟩ : ∃ q, q = v.zero := ⟨_, rfl⟩
      have hown : ownF t 1 h v = if q = true then (0, 0) else (0, 40) := by unfold ownF; rw [if_neg h0, if_pos rfl, hq]
      rw [hown]
      unfold Vl.zero at hq
      rw [hno] at hq
      simp -implicitDefEqProofs [ac21, encA, encV]
      refine pcK_of (hT) (by simp) ?_
      simp -implicitDefEqProofs
      by_cases h2 : v.ty = 0 <;> cases h3 : eqF v.num.re 0 <;> cases h4 : eqF v.num.im 0 <;> cases h5 : v.bool <;> by_cases h6 : v.list = [] <;> rw [h3, h4, h5] at hq <;> simp -implicitDefEqProofs [h2, h6] at hq <;> simp -implicitDefEqProofs [h2, h6, hq, List.length_pos_iff]
    · have hown : ownF t k h v = if r = true ∧ v.ty = t then (if k = 0 then (tp t, 0) else if k = 2 ∧ t = 3 then (1, 0) else if k = 3 ∧ t = 3 ∧ 0 ≤ h ∧ h < v.list.length then (2, 0) else (0, 40)) else (0, 40) := by unfold ownF; rw [if_neg h0, if_neg h1, hr]
      rw [hown]
      clear hr
      cases r
      · simp -implicitDefEqProofs [ac21, encA, encV]
        refine pcK_of (hT) (by simp) ?_
        simp -implicitDefEqProofs
        simp -implicitDefEqProofs [h1]
        refine pcK_of (hck) (by simp) ?_
        simp -implicitDefEqProofs
      · by_cases h2 : v.ty = t
        · simp -implicitDefEqProofs [ac21, encA, encV]
          refine pcK_of (hT) (by simp) ?_
          simp -implicitDefEqProofs
          simp -implicitDefEqProofs [h1]
          refine pcK_of (hck) (by simp) ?_
          simp -implicitDefEqProofs
          by_cases h3 : k = 0
          · simp -implicitDefEqProofs [h2, h3]
          · by_cases h4 : k = 2
            · by_cases h5 : t = 3 <;> simp -implicitDefEqProofs [h2, h3, h4, h5]
            · by_cases h6 : k = 3
              · by_cases h5 : t = 3 <;> by_cases h7 : 0 ≤ h <;> by_cases h8 : h < v.list.length <;> simp -implicitDefEqProofs [h2, h3, h4, h5, h6, h7, h8]
              · simp -implicitDefEqProofs [h2, h3, h4, h6]
        · simp -implicitDefEqProofs [ac21, encA, encV]
          refine pcK_of (hT) (by simp) ?_
          simp -implicitDefEqProofs
          simp -implicitDefEqProofs [h1]
          refine pcK_of (hck) (by simp) ?_
          simp -implicitDefEqProofs
          simp -implicitDefEqProofs [h2]

def v0 : Vl := ⟨0, ⟨0, 0⟩, false, []⟩
theorem v0_lt : v0.lt := ⟨⟨by decide, by decide⟩, fun z hz => by simp [v0] at hz, by decide⟩
theorem Whole0_c (v : Vl) (hv : v.lt) : Pure Try.prog 29 [.agg (encV v), .agg (encV v0)] (B v.zero) := by
  have hno : v.num.nought = (eqF v.num.re 0 && eqF v.num.im 0) := rfl
  have hval := RefValid_c v hv
  have hval0 := RefValid_c v0 v0_lt
  have hok0 : v0.ok = false := by simp [Vl.ok, v0]
  rw [hok0] at hval0
  have h00 : eqF 0 0 = true := by decide
  unfold encV at hval hval0
  unfold v0 at hval0 ⊢
  by_cases h2 : v.ty = 0
  · refine pu29 (by simp) ?_
    obtain ⟨q, hq⟩ : ∃ q, q = v.zero := ⟨_, rfl⟩
    rw [← hq]
    unfold Vl.zero at hq
    rw [hno] at hq
    cases h3 : eqF v.num.re 0 <;> cases h4 : eqF v.num.im 0 <;> cases h5 : v.bool <;> by_cases h6 : v.list = [] <;> rw [h3, h4, h5] at hq <;> simp -implicitDefEqProofs [h2, h6] at hq <;> simp -implicitDefEqProofs [ac29, encV, h2, h3, h4, h5, h6, hq, h00]
  · have hz : v.zero = false := by simp [Vl.zero, h2]
    rw [hz]
    have hsame : Pure Try.prog 32 [.agg (encV v), .agg (encV ⟨0, ⟨0, 0⟩, false, []⟩)] (B false) := by
      refine pu32 (by simp) ?_
      simp -implicitDefEqProofs [ac32, encV]
      refine pcK_of (hval) (by simp) ?_
      simp -implicitDefEqProofs
      cases hk : v.ok
      · simp -implicitDefEqProofs
      · simp -implicitDefEqProofs
        refine pcK_of (hval0) (by simp) ?_
        simp -implicitDefEqProofs
    unfold encV at hsame
    refine pu29 (by simp) ?_
    simp -implicitDefEqProofs [ac29, encV, h2]
    refine pcK_of (hsame) (by simp) ?_
    simp -implicitDefEqProofs

abbrev v0D : D := .agg [I 0, CX 0 0, B false, .pl (.slice none 0 0)]
theorem Whole0N_c (v : Vl) (hv : v.lt) : Pure Try.prog 29 [.agg (encV v), v0D] (B v.zero) :=
  Pure_arg (by unfold v0D; (repeat (first | exact rLe_nil | exact rLe_zs | exact rLes_nil | apply rLes_cons | apply rLe_agg | apply rLe_tup | exact rLe.refl))) (Whole0_c v hv)
def fitF (t k h : Int) (v : Vl) : Bool :=
  if k = 0 then v.ok && decide (v.ty = t) else if k = 1 then v.zero else
  if k = 2 then v.ok && (decide (v.ty = 3) && decide (t = 3)) else
  if k = 3 then v.ok && (decide (v.ty = 3) && (decide (t = 3) && (decide (0 ≤ h) && decide (h < v.list.length)))) else false
theorem Fits_c (t k h : Int) (v : Vl) (hv : v.lt) : Pure Try.prog 25 [.agg (encA k v h), I t] (B (fitF t k h v)) := by
  refine pu25 (by simp) ?_
  have hval := RefValid_c v hv
  have hwh := Whole0N_c v hv
  unfold encV at hval hwh
  unfold fitF
  by_cases h1 : k = 0
  · subst h1
    rw [if_pos rfl]
    simp -implicitDefEqProofs [ac25, encA, encV]
    refine pcK_of (hval) (by simp) ?_
    simp -implicitDefEqProofs
    cases v.ok <;> by_cases h2 : v.ty = t <;> simp -implicitDefEqProofs [h2]
  · rw [if_neg h1]
    by_cases h2 : k = 1
    · subst h2
      rw [if_pos rfl]
      simp -implicitDefEqProofs [ac25, encA, encV]
      refine pcK_of (hwh) (by simp) ?_
      simp -implicitDefEqProofs
    · rw [if_neg h2]
      by_cases h3 : k = 2
      · subst h3
        rw [if_pos rfl]
        simp -implicitDefEqProofs [ac25, encA, encV]
        refine pcK_of (hval) (by simp) ?_
        simp -implicitDefEqProofs
        cases v.ok <;> by_cases h4 : v.ty = 3 <;> by_cases h5 : t = 3 <;> simp -implicitDefEqProofs [h4, h5]
      · rw [if_neg h3]
        by_cases h4 : k = 3
        · subst h4
          rw [if_pos rfl]
          simp -implicitDefEqProofs [ac25, encA, encV]
          refine pcK_of (hval) (by simp) ?_
          simp -implicitDefEqProofs
          cases v.ok <;> by_cases h4 : v.ty = 3 <;> by_cases h5 : t = 3 <;> by_cases h6 : 0 ≤ h <;> by_cases h7 : h < v.list.length <;> simp -implicitDefEqProofs [h4, h5, h6, h7] <;> omega
        · rw [if_neg h4]
          simp -implicitDefEqProofs [ac25, encA, encV, h1, h2, h3, h4]
def rownF (t k h : Int) (v : Vl) : Int × Int :=
  if tp t < 0 then (0, 3) else if fitF t k h v = true then (if k = 1 then (0, 0) else if k = 2 then (1, 0) else if k = 3 then (2, 0) else (tp t, 0)) else (0, 40)
theorem refOwn_c (t k h : Int) (v : Vl) (hv : v.lt) : Pure Try.prog 22 [I t, .agg (encA k v h)] (.tup [I (rownF t k h v).1, I (rownF t k h v).2]) := by
  refine pu22 (by simp) ?_
  have hT := refTop_c t
  have hF := Fits_c t k h v hv
  unfold encA encV at hF
  unfold rownF
  simp -implicitDefEqProofs [ac22, encA, encV]
  refine pcK_of (hT) (by simp) ?_
  simp -implicitDefEqProofs
  by_cases h0 : tp t < 0
  · have h0' : ¬ 0 ≤ tp t := by omega
    simp -implicitDefEqProofs [h0, h0']
  · have h0' : 0 ≤ tp t := by omega
    simp -implicitDefEqProofs [h0, h0']
    refine pcK_of (hF) (by simp) ?_
    simp -implicitDefEqProofs
    cases hf : fitF t k h v
    · simp -implicitDefEqProofs
    · by_cases h1 : k = 1
      · simp -implicitDefEqProofs [h1]
      · by_cases h2 : k = 2
        · simp -implicitDefEqProofs [h2]
        · by_cases h3 : k = 3
          · simp -implicitDefEqProofs [h3]
          · simp -implicitDefEqProofs [h1, h2, h3]
            refine pcK_of (hT) (by simp) ?_
            simp -implicitDefEqProofs
theorem own_eq (t k h : Int) (v : Vl) : ownF t k h v = rownF t k h v := by
  unfold ownF rownF fitF
  by_cases h0 : tp t < 0
  · simp [h0]
  · rw [if_neg h0, if_neg h0]
    by_cases h1 : k = 0
    · subst h1; simp
    · by_cases h2 : k = 1
      · subst h2; simp
      · by_cases h3 : k = 2
        · subst h3
          by_cases h4 : t = 3
          · subst h4; cases v.ok <;> by_cases h5 : v.ty = 3 <;> simp [h5]
          · simp [h4]
        · by_cases h4 : k = 3
          · subst h4
            by_cases h4 : t = 3
            · subst h4; cases v.ok <;> by_cases h5 : v.ty = 3 <;> by_cases h6 : 0 ≤ h <;> by_cases h7 : h < v.list.length <;> simp [h5, h6, h7]
            · simp [h4]
          · simp [h1, h2, h3, h4]

theorem arg_Raw {x : D} (h : Arg Try.prog 54 x) : ∃ (k hl : Int) (v : Vi), x = .agg ([I k, I hl] ++ encVi v) ∧ v.lt ∧ (Lit.int .i64 hl).wf = true := by
  obtain ⟨n, ds, h, k⟩ := h
  cases n with
  | zero => exact h.elim
  | succ n =>
    simp only [Wt, Try.underlying54, WtS, List.map] at h k
    obtain ⟨c, r, rfl, h1, c2, r2, rfl, h2, c3, r3, rfl, h3, rfl⟩ := h
    obtain ⟨a, rfl, _⟩ := wt_i64 h1
    obtain ⟨b, rfl, hb⟩ := wt_i64 h2
    obtain ⟨v, rfl, hv, _⟩ := wt_Val h3
    exact ⟨a, b, v, by simpa [encVi] using k, hv, hb⟩

theorem law_PointsOwn : ∀ xs, Args Try.prog Try.f5.params.toList xs → Pure Try.prog 5 xs (B true) := by
  intro xs h
  rw [Try.params5] at h
  simp only [Args] at h
  obtain ⟨x, r, rfl, hx, y, r2, rfl, hy, rfl⟩ := h
  obtain ⟨t, rfl, ht⟩ := arg_int hx
  obtain ⟨k, hl, v, rfl, hv, hh⟩ := arg_Raw hy
  refine pu5 (by simp) ?_
  simp -implicitDefEqProofs [ac5, encVi]
  refine pcK_of (awake15_c) (by simp) ?_
  simp -implicitDefEqProofs
  have hV := V_c v hv
  unfold encVi encV at hV
  refine pcK_of (hV) (by simp) ?_
  simp -implicitDefEqProofs
  have ha := Own_c t k hl v.v (Vi.v_lt hv)
  have hb := refOwn_c t k hl v.v (Vi.v_lt hv)
  rw [← own_eq] at hb
  have ha0 : Pure Try.prog 21 [I t, .agg [I k, I 0, CX 0 0, B false, .pl (.slice none 0 0), I hl]] (.tup [I (ownF t k hl v0).1, I (ownF t k hl v0).2]) := Pure_arg (by (repeat (first | exact rLe_nil | exact rLe_zs | exact rLes_nil | apply rLes_cons | apply rLe_agg | apply rLe_tup | exact rLe.refl))) (Own_c t k hl v0 v0_lt)
  have hb0 : Pure Try.prog 22 [I t, .agg [I k, I 0, CX 0 0, B false, .pl (.slice none 0 0), I hl]] (.tup [I (ownF t k hl v0).1, I (ownF t k hl v0).2]) := by
    rw [own_eq]; exact Pure_arg (by (repeat (first | exact rLe_nil | exact rLe_zs | exact rLes_nil | apply rLes_cons | apply rLe_agg | apply rLe_tup | exact rLe.refl))) (refOwn_c t k hl v0 v0_lt)
  unfold encA encV at ha hb
  by_cases h1 : k = 1
  · by_cases h2 : hl.tmod 4 = 0
    · simp -implicitDefEqProofs [h1, h2]
      subst h1
      refine pcK_of (ha) (by simp) ?_
      simp -implicitDefEqProofs
      refine pcK_of (hb) (by simp) ?_
      simp -implicitDefEqProofs
    · simp -implicitDefEqProofs [h1, h2]
      subst h1
      refine pcK_of (ha0) (by simp) ?_
      simp -implicitDefEqProofs
      refine pcK_of (hb0) (by simp) ?_
      simp -implicitDefEqProofs
  · simp -implicitDefEqProofs [h1]
    refine pcK_of (ha) (by simp) ?_
    simp -implicitDefEqProofs
    refine pcK_of (hb) (by simp) ?_
    simp -implicitDefEqProofs
end Go.Fx.Ytalinonmjhdmaaa

/-
  Layer 16: TuplesJoin.
-/
import Derived.Test.YtjfiklflmnhbdaaLt
set_option linter.all false
set_option maxRecDepth 100000
set_option maxHeartbeats 4000000
namespace Go.Fx.Ytjfiklflmnhbdaa
open Go Go.Fx Go.Proofs Rows
theorem good_idx {n : Int} {l : List Int} (g : Good n l) {i : Nat} (h : i < n.toNat) : i < 32 * l.length := by
  have := g.2.2.1
  omega
/-- One more at one place is still within the tuples. -/
theorem up_in {ps : List Int} {i : Nat} {t : Int} {m : Nat} (ho : okT ps) (hm : m < (pr ps).toNat) (hi : ps[i]? = some t) (hd : (m : Int) / pr (ps.drop (i + 1)) % (tp t + 1) < tp t) : m + (pr (ps.drop (i + 1))).toNat < (pr ps).toNat := by
  obtain ⟨h1, h2⟩ := List.getElem?_eq_some_iff.1 hi
  have := (dg_up (n := m) ho (by omega) (by omega) h1 h2 hd).2.2
  have := pr_pos (okT_drop ho (i + 1))
  omega
theorem tab_jn {ps : List Int} {t n : Int} {l k : List Int} (w1 : AllW l) (w2 : AllW k) (h1 : TabOk ps t n l) (h2 : TabOk ps t n k) : TabOk ps t n (jn l k) := by
  obtain ⟨a1, a2, a3, a4, a5⟩ := h1
  obtain ⟨b1, b2, b3, b4, b5⟩ := h2
  refine ⟨a1, a2, a3, good_jn w1 w2 a4 b4, fun i hi => ?_⟩
  rw [jn_cell w1 w2 (good_same a4 b4) (good_idx a4 hi)]
  have := a5 i hi
  have := b5 i hi
  omega
theorem tab_mt {ps : List Int} {t n : Int} {l k : List Int} (w1 : AllW l) (w2 : AllW k) (h1 : TabOk ps t n l) (h2 : TabOk ps t n k) : TabOk ps t n (mt l k) := by
  obtain ⟨a1, a2, a3, a4, a5⟩ := h1
  obtain ⟨b1, b2, b3, b4, b5⟩ := h2
  refine ⟨a1, a2, a3, good_mt w1 w2 a4 b4, fun i hi => ?_⟩
  rw [mt_cell w1 w2 (good_same a4 b4) (good_idx a4 hi)]
  have := a5 i hi
  have := b5 i hi
  omega
theorem rises_jn {ps : List Int} {t n : Int} {l k : List Int} (w1 : AllW l) (w2 : AllW k) (h1 : TabOk ps t n l) (h2 : TabOk ps t n k) (r1 : RisesOk ps l n) (r2 : RisesOk ps k n) : RisesOk ps (jn l k) n := by
  obtain ⟨a1, a2, a3, a4, a5⟩ := h1
  obtain ⟨b1, b2, b3, b4, b5⟩ := h2
  have ho := (cntF_ok a1).1
  intro i u hu m hm hd
  have h3 := r1 i u hu m hm hd
  have h4 := r2 i u hu m hm hd
  have h5 := up_in ho (by rw [← a3]; exact hm) hu hd
  rw [← a3] at h5
  rw [jn_cell w1 w2 (good_same a4 b4) (good_idx a4 hm), jn_cell w1 w2 (good_same a4 b4) (good_idx a4 h5)]
  omega
theorem rises_mt {ps : List Int} {t n : Int} {l k : List Int} (w1 : AllW l) (w2 : AllW k) (h1 : TabOk ps t n l) (h2 : TabOk ps t n k) (r1 : RisesOk ps l n) (r2 : RisesOk ps k n) : RisesOk ps (mt l k) n := by
  obtain ⟨a1, a2, a3, a4, a5⟩ := h1
  obtain ⟨b1, b2, b3, b4, b5⟩ := h2
  have ho := (cntF_ok a1).1
  intro i u hu m hm hd
  have h3 := r1 i u hu m hm hd
  have h4 := r2 i u hu m hm hd
  have h5 := up_in ho (by rw [← a3]; exact hm) hu hd
  rw [← a3] at h5
  rw [mt_cell w1 w2 (good_same a4 b4) (good_idx a4 hm), mt_cell w1 w2 (good_same a4 b4) (good_idx a4 h5)]
  omega
open Classical in
theorem law_TuplesJoin : ∀ xs, Args Try.prog Try.f8.params.toList xs → Pure Try.prog 8 xs (B true) := by
  intro xs h
  rw [Try.params8] at h
  simp only [Args] at h
  obtain ⟨x, r, rfl, hx, y, r2, rfl, hy, rfl⟩ := h
  obtain ⟨ps, t, n, l, rfl, hp, w1, hl⟩ := arg_table hx
  obtain ⟨ps', t', m, k, rfl, hp', w2, hk⟩ := arg_table hy
  refine pu8 (by simp) ?_
  simp -implicitDefEqProofs [ac8]
  refine pcK_of (awake_c16) (by simp) ?_
  simp -implicitDefEqProofs
  have R1 := Rises_c ps t n l w1 hp
  have R2 := Rises_c ps t m k w2 hp
  by_cases h1 : TabOk ps t n l
  · rw [risesF, if_pos h1] at R1
    by_cases h2 : TabOk ps t m k
    · rw [risesF, if_pos h2] at R2
      have hnm : n = m := by rw [h1.2.2.1, h2.2.2.1]
      subst hnm
      have hT : Two n l n k := ⟨h1.2.2.2.1, h2.2.2.2.1, rfl⟩
      have wj : AllW (jn l k) := AllW_zip (f := joinW) (fun _ _ => joinW_W) w1 w2
      have wm : AllW (mt l k) := AllW_zip (f := meetW) (fun _ _ => meetW_W) w1 w2
      have tj := tab_jn w1 w2 h1 h2
      have tm := tab_mt w1 w2 h1 h2
      have R3 := Rises_c ps t n (jn l k) wj hp
      have R4 := Rises_c ps t n (mt l k) wm hp
      have C3 := Check_c16 ps t n (jn l k) wj hp
      have C4 := Check_c16 ps t n (mt l k) wm hp
      rw [risesF, if_pos tj] at R3
      rw [risesF, if_pos tm] at R4
      rw [tabE, if_pos tj] at C3
      rw [tabE, if_pos tm] at C4
      refine pcK_of (R1) (by simp) ?_
      simp -implicitDefEqProofs
      refine pcK_of (R2) (by simp) ?_
      simp -implicitDefEqProofs
      have J := Join_yes hT
      have M := Meet_yes hT
      rw [tup2] at J M
      refine pcK_of (J) (by simp) ?_
      simp -implicitDefEqProofs
      refine pcK_of (M) (by simp) ?_
      simp -implicitDefEqProofs
      by_cases g1 : RisesOk ps l n
      · by_cases g2 : RisesOk ps k n
        · have g3 := rises_jn w1 w2 h1 h2 g1 g2
          have g4 := rises_mt w1 w2 h1 h2 g1 g2
          simp -implicitDefEqProofs [g1, g2]
          refine pcK_of (R3) (by simp) ?_
          simp -implicitDefEqProofs
          refine pcK_of (R4) (by simp) ?_
          simp -implicitDefEqProofs
          refine pcK_of (C3) (by simp) ?_
          simp -implicitDefEqProofs
          refine pcK_of (C4) (by simp) ?_
          simp -implicitDefEqProofs [g3, g4]
        · simp -implicitDefEqProofs [g1, g2]
          refine pcK_of (R3) (by simp) ?_
          simp -implicitDefEqProofs
          refine pcK_of (R4) (by simp) ?_
          simp -implicitDefEqProofs
          refine pcK_of (C3) (by simp) ?_
          simp -implicitDefEqProofs
          refine pcK_of (C4) (by simp) ?_
          simp -implicitDefEqProofs
      · simp -implicitDefEqProofs [g1]
        refine pcK_of (R3) (by simp) ?_
        simp -implicitDefEqProofs
        refine pcK_of (R4) (by simp) ?_
        simp -implicitDefEqProofs
        refine pcK_of (C3) (by simp) ?_
        simp -implicitDefEqProofs
        refine pcK_of (C4) (by simp) ?_
        simp -implicitDefEqProofs
    · rw [risesF, if_neg h2] at R2
      refine pcK_of (R1) (by simp) ?_
      simp -implicitDefEqProofs
      refine pcK_of (R2) (by simp) ?_
      simp -implicitDefEqProofs
  · rw [risesF, if_neg h1] at R1
    refine pcK_of (R1) (by simp) ?_
    simp -implicitDefEqProofs
    by_cases h2 : TabOk ps t m k
    · rw [risesF, if_pos h2] at R2
      refine pcK_of (R2) (by simp) ?_
      simp -implicitDefEqProofs
    · rw [risesF, if_neg h2] at R2
      refine pcK_of (R2) (by simp) ?_
      simp -implicitDefEqProofs
end Go.Fx.Ytjfiklflmnhbdaa

import Derived.Test.YtaghjpoijodgfaaRg
import Derived.Test.YtaghjpoijodgfaaLMakes
set_option linter.all false
namespace Go.Fx.Ytaghjpoijodgfaa
open Go Go.Fx Go.Proofs Go.Fx.Rows
theorem law_Lattice : ∀ xs, Args Try.prog Try.f6.params.toList xs → Pure Try.prog 6 xs (B true) := by
  intro xs h
  rw [Try.params6] at h
  simp only [Args] at h
  obtain ⟨x, r, rfl, hx, y, r2, rfl, hy, z, r3, rfl, hz, rfl⟩ := h
  obtain ⟨n, l, rfl, _, hl0, hlb⟩ := arg_row hx
  obtain ⟨m, k, rfl, _, hk0, hkb⟩ := arg_row hy
  obtain ⟨p, q, rfl, _, hq0, hqb⟩ := arg_row hz
  have hl : AllW l := fun u hu => wfW (hl0 u hu)
  have hk : AllW k := fun u hu => wfW (hk0 u hu)
  have hq : AllW q := fun u hu => wfW (hq0 u hu)
  refine pu6 (by simp) ?_
  simp -implicitDefEqProofs [ac6]
  refine pcK_of awake_c (by simp) ?_
  simp -implicitDefEqProofs
  by_cases ht : Two n l m k
  · refine pcK_of (Join_yes ht) (by simp) ?_
    simp -implicitDefEqProofs [tup2]
    refine pcK_of (Meet_yes ht) (by simp) ?_
    simp -implicitDefEqProofs [tup2]
    obtain ⟨gl, gk, rfl⟩ := ht
    have hlk := good_same gl gk
    have gj := good_jn hl hk gl gk
    have gm := good_mt hl hk gl gk
    have wj : AllW (jn l k) := AllW_zip (fun _ _ => joinW_W) hl hk
    have wm : AllW (mt l k) := AllW_zip (fun _ _ => meetW_W) hl hk
    refine pcK_of (Join_yes ⟨gk, gl, rfl⟩) (by simp) ?_
    simp -implicitDefEqProofs [tup2]
    refine pcK_of (Meet_yes ⟨gk, gl, rfl⟩) (by simp) ?_
    simp -implicitDefEqProofs [tup2]
    have e1 : leL l (jn l k) = true := leL_jn hlk hl hk
    have e2 : leL k (jn l k) = true := by rw [jn_comm hl hk]; exact leL_jn hlk.symm hk hl
    have e3 : leL (mt l k) l = true := mt_leL hlk hl hk
    have e4 : leL (mt l k) k = true := by rw [mt_comm hl hk]; exact mt_leL hlk.symm hk hl
    have b60 : (2 : Nat) ^ 60 = 1152921504606846976 := by decide
    have ll := good_len gl
    have lj := good_len gj
    have lm := good_len gm
    refine pcK_of (Below_yes ⟨gl, gj, rfl⟩) (by simp) ?_
    simp -implicitDefEqProofs [e1]
    refine pcK_of (Below_yes ⟨gk, gj, rfl⟩) (by simp) ?_
    simp -implicitDefEqProofs [e2]
    refine pcK_of (Below_yes ⟨gm, gl, rfl⟩) (by simp) ?_
    simp -implicitDefEqProofs [e3]
    refine pcK_of (Below_yes ⟨gm, gk, rfl⟩) (by simp) ?_
    simp -implicitDefEqProofs [e4]
    refine pcK_of (Meet_yes ⟨gl, gj, rfl⟩) (by simp) ?_
    simp -implicitDefEqProofs [tup2]
    refine pcK_of (Join_yes ⟨gl, gm, rfl⟩) (by simp) ?_
    simp -implicitDefEqProofs [tup2]
    refine pcK_of (Same_c n n (jn l k) (jn k l) (by omega)) (by simp) ?_
    simp -implicitDefEqProofs [jn_comm hk hl]
    refine pcK_of (Same_c n n (mt l k) (mt k l) (by omega)) (by simp) ?_
    simp -implicitDefEqProofs [mt_comm hk hl]
    refine pcK_of (Same_c n n (mt l (jn l k)) l (by have := good_len (good_mt hl wj gl gj); omega)) (by simp) ?_
    simp -implicitDefEqProofs [mt_jn hlk hl hk]
    refine pcK_of (Same_c n n (jn l (mt l k)) l (by have := good_len (good_jn hl wm gl gm); omega)) (by simp) ?_
    simp -implicitDefEqProofs [jn_mt hlk hl hk]
    by_cases hz : Good p q ∧ n = p
    · obtain ⟨gq, rfl⟩ := hz
      have hlq := good_same gl gq
      have f1 := jn_le hlk hlq hl hk hq
      have f2 := le_mt hlk hlq hl hk hq
      refine pcK_of (Below_yes ⟨gl, gq, rfl⟩) (by simp) ?_
      simp -implicitDefEqProofs
      refine pcK_of (Below_yes ⟨gk, gq, rfl⟩) (by simp) ?_
      simp -implicitDefEqProofs
      refine pcK_of (Below_yes ⟨gj, gq, rfl⟩) (by simp) ?_
      simp -implicitDefEqProofs
      refine pcK_of (Below_yes ⟨gq, gl, rfl⟩) (by simp) ?_
      simp -implicitDefEqProofs
      refine pcK_of (Below_yes ⟨gq, gk, rfl⟩) (by simp) ?_
      simp -implicitDefEqProofs
      refine pcK_of (Below_yes ⟨gq, gm, rfl⟩) (by simp) ?_
      have f1' : leL (jn l k) q = (leL l q && leL k q) := by rw [Bool.eq_iff_iff]; simpa using f1
      have f2' : leL q (mt l k) = (leL q l && leL q k) := by rw [Bool.eq_iff_iff]; simpa using f2
      rw [f1', f2']
      generalize leL l q = b1
      generalize leL k q = b2
      generalize leL q l = b3
      generalize leL q k = b4
      cases b1 <;> cases b2 <;> cases b3 <;> cases b4 <;> simp -implicitDefEqProofs [bin_eqlB Try.underlying4]
    · have n1 : ¬ Two n l p q := fun h => hz ⟨h.2.1, h.2.2⟩
      have n2 : ¬ Two n k p q := fun h => hz ⟨h.2.1, h.2.2⟩
      have n3 : ¬ Two n (jn l k) p q := fun h => hz ⟨h.2.1, h.2.2⟩
      have n4 : ¬ Two p q n l := fun h => hz ⟨h.1, h.2.2.symm⟩
      have n5 : ¬ Two p q n k := fun h => hz ⟨h.1, h.2.2.symm⟩
      have n6 : ¬ Two p q n (mt l k) := fun h => hz ⟨h.1, h.2.2.symm⟩
      refine pcK_of (Below_no n1) (by simp) ?_
      simp -implicitDefEqProofs
      refine pcK_of (Below_no n2) (by simp) ?_
      simp -implicitDefEqProofs
      refine pcK_of (Below_no n3) (by simp) ?_
      simp -implicitDefEqProofs
      refine pcK_of (Below_no n4) (by simp) ?_
      simp -implicitDefEqProofs
      refine pcK_of (Below_no n5) (by simp) ?_
      simp -implicitDefEqProofs
      refine pcK_of (Below_no n6) (by simp) ?_
      simp -implicitDefEqProofs
  · refine pcK_of (Join_no ht) (by simp) ?_
    simp -implicitDefEqProofs [tup2]
    refine pcK_of (Meet_no ht) (by simp) ?_
    simp -implicitDefEqProofs [tup2]
theorem law_Order : ∀ xs, Args Try.prog Try.f7.params.toList xs → Pure Try.prog 7 xs (B true) := by
  intro xs h
  rw [Try.params7] at h
  simp only [Args] at h
  obtain ⟨x, r, rfl, hx, y, r2, rfl, hy, z, r3, rfl, hz, rfl⟩ := h
  obtain ⟨n, l, rfl, _, hl0, hlb⟩ := arg_row hx
  obtain ⟨m, k, rfl, _, hk0, hkb⟩ := arg_row hy
  obtain ⟨p, q, rfl, _, hq0, hqb⟩ := arg_row hz
  have hl : AllW l := fun u hu => wfW (hl0 u hu)
  have hk : AllW k := fun u hu => wfW (hk0 u hu)
  have hq : AllW q := fun u hu => wfW (hq0 u hu)
  refine pu7 (by simp) ?_
  simp -implicitDefEqProofs [ac7]
  refine pcK_of awake_c (by simp) ?_
  simp -implicitDefEqProofs
  by_cases ht : Two n l m k
  · have ht' : Two m k n l := ⟨ht.2.1, ht.1, ht.2.2.symm⟩
    refine pcK_of (Below_yes ht) (by simp) ?_
    simp -implicitDefEqProofs
    refine pcK_of (Below_yes ht') (by simp) ?_
    simp -implicitDefEqProofs
    obtain ⟨gl, gk, rfl⟩ := ht
    have hlk := good_same gl gk
    have gj := good_jn hl hk gl gk
    have gm := good_mt hl hk gl gk
    have e1 := leL_iff_jn hlk hl hk
    have e2 := leL_iff_mt hlk hl hk
    have e3 : (leL l k && leL k l) = decide (l = k) := by
      rw [Bool.eq_iff_iff]
      simp only [Bool.and_eq_true, decide_eq_true_eq]
      exact ⟨fun h => leL_anti hlk hl hk h.1 h.2, fun h => by subst h; exact ⟨leL_refl hl, leL_refl hl⟩⟩
    have e1' : leL l k = decide (jn l k = k) := by rw [Bool.eq_iff_iff]; simpa using e1
    have e2' : leL l k = decide (mt l k = l) := by rw [Bool.eq_iff_iff]; simpa using e2
    have b60 : (2 : Nat) ^ 60 = 1152921504606846976 := by decide
    have ll := good_len gl
    have lj := good_len gj
    have lm := good_len gm
    refine pcK_of (Below_yes ⟨gl, gl, rfl⟩) (by simp) ?_
    simp -implicitDefEqProofs [leL_refl hl]
    refine pcK_of (Join_yes ⟨gl, gk, rfl⟩) (by simp) ?_
    simp -implicitDefEqProofs [tup2]
    refine pcK_of (Meet_yes ⟨gl, gk, rfl⟩) (by simp) ?_
    have s1 : Pure Try.prog 20 [row n l, row n k] (B (leL l k && leL k l)) := by
      have := Same_c n n l k (by omega)
      rw [e3]; simpa using this
    have s2 : Pure Try.prog 20 [row n (jn l k), row n k] (B (leL l k)) := by
      have := Same_c n n (jn l k) k (by omega)
      rw [e1']; simpa using this
    have s3 : Pure Try.prog 20 [row n (mt l k), row n l] (B (leL l k)) := by
      have := Same_c n n (mt l k) l (by omega)
      rw [e2']; simpa using this
    have tr : Good n q → leL l k = true → leL k q = true → leL l q = true := fun gq => leL_trans hlk (good_same gk gq) hl hk hq
    clear e1 e2 e3 e1' e2'
    simp -implicitDefEqProofs [tup2]
    generalize leL l k = b1 at s1 s2 s3 tr ⊢
    generalize leL k l = b2 at s1 ⊢
    cases b1
    · simp -implicitDefEqProofs
      refine pcK_of s1 (by simp) ?_
      simp -implicitDefEqProofs
      refine pcK_of s2 (by simp) ?_
      simp -implicitDefEqProofs
      refine pcK_of s3 (by simp) ?_
      simp -implicitDefEqProofs
      by_cases hz : Good p q ∧ n = p
      · obtain ⟨gq, rfl⟩ := hz
        refine pcK_of (Below_yes ⟨gk, gq, rfl⟩) (by simp) ?_
        simp -implicitDefEqProofs
        refine pcK_of (Below_yes ⟨gl, gq, rfl⟩) (by simp) ?_
        simp -implicitDefEqProofs
      · refine pcK_of (Below_no (fun h : Two n k p q => hz ⟨h.2.1, h.2.2⟩)) (by simp) ?_
        simp -implicitDefEqProofs
        refine pcK_of (Below_no (fun h : Two n l p q => hz ⟨h.2.1, h.2.2⟩)) (by simp) ?_
        simp -implicitDefEqProofs
    · simp -implicitDefEqProofs
      refine pcK_of s1 (by simp) ?_
      simp -implicitDefEqProofs
      refine pcK_of s2 (by simp) ?_
      simp -implicitDefEqProofs
      refine pcK_of s3 (by simp) ?_
      simp -implicitDefEqProofs
      by_cases hz : Good p q ∧ n = p
      · obtain ⟨gq, rfl⟩ := hz
        have tr' := tr gq rfl
        refine pcK_of (Below_yes ⟨gk, gq, rfl⟩) (by simp) ?_
        simp -implicitDefEqProofs
        refine pcK_of (Below_yes ⟨gl, gq, rfl⟩) (by simp) ?_
        simp -implicitDefEqProofs
        exact tr'
      · refine pcK_of (Below_no (fun h : Two n k p q => hz ⟨h.2.1, h.2.2⟩)) (by simp) ?_
        simp -implicitDefEqProofs
        refine pcK_of (Below_no (fun h : Two n l p q => hz ⟨h.2.1, h.2.2⟩)) (by simp) ?_
        simp -implicitDefEqProofs
  · have ht' : ¬ Two m k n l := fun h => ht ⟨h.2.1, h.1, h.2.2.symm⟩
    refine pcK_of (Below_no ht) (by simp) ?_
    simp -implicitDefEqProofs
    refine pcK_of (Below_no ht') (by simp) ?_
    simp -implicitDefEqProofs
end Go.Fx.Ytaghjpoijodgfaa

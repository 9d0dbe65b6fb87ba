import Derived.Test.YtaghjpoijodgfaaT9
set_option linter.all false
namespace Go.Fx.Ytaghjpoijodgfaa
open Go Go.Fx Go.Proofs Go.Fx.Rows
@[simp] theorem beqB {a b : Bool} : binD Try.prog .eql 4 (.pl (.bool a)) (.pl (.bool b)) = some (.pl (.bool (decide (a = b)))) := bin_eqlB Try.underlying4
@[simp] theorem bneB {a b : Bool} : binD Try.prog .neq 4 (.pl (.bool a)) (.pl (.bool b)) = some (.pl (.bool (!decide (a = b)))) := bin_neqB Try.underlying4
theorem law_Order : ∀ xs, Args Try.prog Try.f7.params.toList xs → Pure Try.prog 7 xs (B true) := by
  intro xs h
  rw [Try.params7] at h
  simp only [Args] at h
  obtain ⟨x, r, rfl, hx, y, r2, rfl, hy, z, r3, rfl, hz, rfl⟩ := h
  obtain ⟨n, l, rfl, _, hl0, hlb⟩ := arg_row hx
  obtain ⟨m, k, rfl, _, hk0, hkb⟩ := arg_row hy
  obtain ⟨p, q, rfl, _, hq0, hqb⟩ := arg_row hz
  have hl : AllW l := fun u hu => wfW (hl0 u hu)
  have hk : AllW k := fun u hu => wfW (hk0 u hu)
  have hq : AllW q := fun u hu => wfW (hq0 u hu)
  refine pu7 (by simp) ?_
  simp -implicitDefEqProofs [ac7]
  refine pcK_of awake_c (by simp) ?_
  simp -implicitDefEqProofs
  by_cases ht : Two n l m k
  · have ht' : Two m k n l := ⟨ht.2.1, ht.1, ht.2.2.symm⟩
    refine pcK_of (Below_yes ht) (by simp) ?_
    simp -implicitDefEqProofs
    refine pcK_of (Below_yes ht') (by simp) ?_
    simp -implicitDefEqProofs
    obtain ⟨gl, gk, rfl⟩ := ht
    have hlk := good_same gl gk
    have gj := good_jn hl hk gl gk
    have gm := good_mt hl hk gl gk
    have e1 := leL_iff_jn hlk hl hk
    have e2 := leL_iff_mt hlk hl hk
    have e3 : (leL l k && leL k l) = decide (l = k) := by
      rw [Bool.eq_iff_iff]
      simp only [Bool.and_eq_true, decide_eq_true_eq]
      exact ⟨fun h => leL_anti hlk hl hk h.1 h.2, fun h => by subst h; exact ⟨leL_refl hl, leL_refl hl⟩⟩
    have e1' : leL l k = decide (jn l k = k) := by rw [Bool.eq_iff_iff]; simpa using e1
    have e2' : leL l k = decide (mt l k = l) := by rw [Bool.eq_iff_iff]; simpa using e2
    have b60 : (2 : Nat) ^ 60 = 1152921504606846976 := by decide
    have ll := good_len gl
    have lj := good_len gj
    have lm := good_len gm
    refine pcK_of (Below_yes ⟨gl, gl, rfl⟩) (by simp) ?_
    simp -implicitDefEqProofs [leL_refl hl]
    refine pcK_of (Join_yes ⟨gl, gk, rfl⟩) (by simp) ?_
    simp -implicitDefEqProofs [tup2]
    refine pcK_of (Meet_yes ⟨gl, gk, rfl⟩) (by simp) ?_
    have s1 : Pure Try.prog 20 [row n l, row n k] (B (leL l k && leL k l)) := by
      have := Same_c n n l k (by omega)
      rw [e3]; simpa using this
    have s2 : Pure Try.prog 20 [row n (jn l k), row n k] (B (leL l k)) := by
      have := Same_c n n (jn l k) k (by omega)
      rw [e1']; simpa using this
    have s3 : Pure Try.prog 20 [row n (mt l k), row n l] (B (leL l k)) := by
      have := Same_c n n (mt l k) l (by omega)
      rw [e2']; simpa using this
    have tr : Good n q → leL l k = true → leL k q = true → leL l q = true := fun gq => leL_trans hlk (good_same gk gq) hl hk hq
    clear e1 e2 e3 e1' e2'
    simp -implicitDefEqProofs [tup2]
    generalize leL l k = b1 at s1 s2 s3 tr ⊢
    generalize leL k l = b2 at s1 ⊢
    cases b1
    · simp -implicitDefEqProofs
      refine pcK_of s1 (by simp) ?_
      simp -implicitDefEqProofs
      refine pcK_of s2 (by simp) ?_
      simp -implicitDefEqProofs
      refine pcK_of s3 (by simp) ?_
      simp -implicitDefEqProofs
      by_cases hz : Good p q ∧ n = p
      · obtain ⟨gq, rfl⟩ := hz
        refine pcK_of (Below_yes ⟨gk, gq, rfl⟩) (by simp) ?_
        simp -implicitDefEqProofs
        refine pcK_of (Below_yes ⟨gl, gq, rfl⟩) (by simp) ?_
        simp -implicitDefEqProofs
      · refine pcK_of (Below_no (fun h : Two n k p q => hz ⟨h.2.1, h.2.2⟩)) (by simp) ?_
        simp -implicitDefEqProofs
        refine pcK_of (Below_no (fun h : Two n l p q => hz ⟨h.2.1, h.2.2⟩)) (by simp) ?_
        simp -implicitDefEqProofs
    · simp -implicitDefEqProofs
      refine pcK_of s1 (by simp) ?_
      simp -implicitDefEqProofs
      refine pcK_of s2 (by simp) ?_
      simp -implicitDefEqProofs
      refine pcK_of s3 (by simp) ?_
      simp -implicitDefEqProofs
      by_cases hz : Good p q ∧ n = p
      · obtain ⟨gq, rfl⟩ := hz
        have tr' := tr gq rfl
        refine pcK_of (Below_yes ⟨gk, gq, rfl⟩) (by simp) ?_
        simp -implicitDefEqProofs
        refine pcK_of (Below_yes ⟨gl, gq, rfl⟩) (by simp) ?_
        simp -implicitDefEqProofs
        exact tr'
      · refine pcK_of (Below_no (fun h : Two n k p q => hz ⟨h.2.1, h.2.2⟩)) (by simp) ?_
        simp -implicitDefEqProofs
        refine pcK_of (Below_no (fun h : Two n l p q => hz ⟨h.2.1, h.2.2⟩)) (by simp) ?_
        simp -implicitDefEqProofs
  · have ht' : ¬ Two m k n l := fun h => ht ⟨h.2.1, h.1, h.2.2.symm⟩
    refine pcK_of (Below_no ht) (by simp) ?_
    simp -implicitDefEqProofs
    refine pcK_of (Below_no ht') (by simp) ?_
    simp -implicitDefEqProofs
end Go.Fx.Ytaghjpoijodgfaa

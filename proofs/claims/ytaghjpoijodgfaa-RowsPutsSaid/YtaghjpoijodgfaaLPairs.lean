import Derived.Test.YtaghjpoijodgfaaLLat
import Derived.Test.YtaghjpoijodgfaaRk
set_option linter.all false
namespace Go.Fx.Ytaghjpoijodgfaa
open Go Go.Fx Go.Proofs Go.Fx.Rows
section
variable {n m : Int} {l k : List Int}
theorem refBelow_yes (w1 : AllW l) (w2 : AllW k) (h : Two n l m k) : Pure Try.prog 22 [row n l, row m k] (.tup [B (leL l k), I 0]) := by
  have := refBelow_c (n := n) (m := m) w1 w2; rwa [belowF, if_pos h] at this
theorem refBelow_no (w1 : AllW l) (w2 : AllW k) (h : ¬ Two n l m k) : Pure Try.prog 22 [row n l, row m k] (.tup [B false, I 3]) := by
  have := refBelow_c (n := n) (m := m) w1 w2; rwa [belowF, if_neg h] at this
theorem refJoin_yes (w1 : AllW l) (w2 : AllW k) (h : Two n l m k) : Pure Try.prog 23 [row n l, row m k] (tup2 n (jn l k) 0) := by
  have := refJoin_c (n := n) (m := m) w1 w2; rwa [bothF, if_pos h] at this
theorem refJoin_no (w1 : AllW l) (w2 : AllW k) (h : ¬ Two n l m k) : Pure Try.prog 23 [row n l, row m k] (tup2 0 [] 3) := by
  have := refJoin_c (n := n) (m := m) w1 w2; rwa [bothF, if_neg h] at this
theorem refMeet_yes (w1 : AllW l) (w2 : AllW k) (h : Two n l m k) : Pure Try.prog 24 [row n l, row m k] (tup2 n (mt l k) 0) := by
  have := refMeet_c (n := n) (m := m) w1 w2; rwa [bothF, if_pos h] at this
theorem refMeet_no (w1 : AllW l) (w2 : AllW k) (h : ¬ Two n l m k) : Pure Try.prog 24 [row n l, row m k] (tup2 0 [] 3) := by
  have := refMeet_c (n := n) (m := m) w1 w2; rwa [bothF, if_neg h] at this
end
theorem law_Pairs : ∀ xs, Args Try.prog Try.f5.params.toList xs → Pure Try.prog 5 xs (B true) := by
  intro xs h
  rw [Try.params5] at h
  simp only [Args] at h
  obtain ⟨x, r, rfl, hx, y, r2, rfl, hy, rfl⟩ := h
  obtain ⟨n, l, rfl, _, hl0, hlb⟩ := arg_row hx
  obtain ⟨m, k, rfl, _, hk0, hkb⟩ := arg_row hy
  have hl : AllW l := fun u hu => wfW (hl0 u hu)
  have hk : AllW k := fun u hu => wfW (hk0 u hu)
  refine pu5 (by simp) ?_
  simp -implicitDefEqProofs [ac5]
  refine pcK_of (awake_c) (by simp) ?_
  simp -implicitDefEqProofs
  by_cases ht : Two n l m k
  · have gl := good_len (good_jn hl hk ht.1 (ht.2.2 ▸ ht.2.1))
    have gm := good_len (good_mt hl hk ht.1 (ht.2.2 ▸ ht.2.1))
    refine pcK_of (copied_c n l hlb) (by simp) ?_
    simp -implicitDefEqProofs
    refine pcK_of (copied_c m k hkb) (by simp) ?_
    simp -implicitDefEqProofs
    refine pcK_of (Below_yes ht) (by simp) ?_
    simp -implicitDefEqProofs
    refine pcK_of (refBelow_yes hl hk ht) (by simp) ?_
    simp -implicitDefEqProofs
    refine pcK_of (copied_c n l hlb) (by simp) ?_
    simp -implicitDefEqProofs
    refine pcK_of (copied_c m k hkb) (by simp) ?_
    simp -implicitDefEqProofs
    refine pcK_of (Join_yes ht) (by simp) ?_
    simp -implicitDefEqProofs [tup2]
    refine pcK_of (refJoin_yes hl hk ht) (by simp) ?_
    simp -implicitDefEqProofs [tup2]
    refine pcK_of (copied_c n l hlb) (by simp) ?_
    simp -implicitDefEqProofs
    refine pcK_of (copied_c m k hkb) (by simp) ?_
    simp -implicitDefEqProofs
    refine pcK_of (Meet_yes ht) (by simp) ?_
    simp -implicitDefEqProofs [tup2]
    refine pcK_of (refMeet_yes hl hk ht) (by simp) ?_
    simp -implicitDefEqProofs [tup2]
    refine pcK_of (told_c n n 0 0 (jn l k) (jn l k) (by omega)) (by simp) ?_
    simp -implicitDefEqProofs
    refine pcK_of (told_c n n 0 0 (mt l k) (mt l k) (by omega)) (by simp) ?_
    simp -implicitDefEqProofs
  · refine pcK_of (copied_c n l hlb) (by simp) ?_
    simp -implicitDefEqProofs
    refine pcK_of (copied_c m k hkb) (by simp) ?_
    simp -implicitDefEqProofs
    refine pcK_of (Below_no ht) (by simp) ?_
    simp -implicitDefEqProofs
    refine pcK_of (refBelow_no hl hk ht) (by simp) ?_
    simp -implicitDefEqProofs
    refine pcK_of (copied_c n l hlb) (by simp) ?_
    simp -implicitDefEqProofs
    refine pcK_of (copied_c m k hkb) (by simp) ?_
    simp -implicitDefEqProofs
    refine pcK_of (Join_no ht) (by simp) ?_
    simp -implicitDefEqProofs [tup2]
    refine pcK_of (refJoin_no hl hk ht) (by simp) ?_
    simp -implicitDefEqProofs [tup2]
    refine pcK_of (copied_c n l hlb) (by simp) ?_
    simp -implicitDefEqProofs
    refine pcK_of (copied_c m k hkb) (by simp) ?_
    simp -implicitDefEqProofs
    refine pcK_of (Meet_no ht) (by simp) ?_
    simp -implicitDefEqProofs [tup2]
    refine pcK_of (refMeet_no hl hk ht) (by simp) ?_
    simp -implicitDefEqProofs [tup2]
    refine pcK_of (told_c 0 0 3 3 [] [] (by simp)) (by simp) ?_
    simp -implicitDefEqProofs
    refine pcK_of (told_c 0 0 3 3 [] [] (by simp)) (by simp) ?_
    simp -implicitDefEqProofs

theorem law_Cells : ∀ xs, Args Try.prog Try.f8.params.toList xs → Pure Try.prog 8 xs (B true) := by
  intro xs h
  rw [Try.params8] at h
  simp only [Args] at h
  obtain ⟨x, r, rfl, hx, y, r2, rfl, hy, z, r3, rfl, hz, rfl⟩ := h
  obtain ⟨n, l, rfl, _, hl0, hlb⟩ := arg_row hx
  obtain ⟨i, rfl, _⟩ := arg_int hy
  obtain ⟨v, rfl, _⟩ := arg_int hz
  have hl : AllW l := fun u hu => wfW (hl0 u hu)
  refine pu8 (by simp) ?_
  simp -implicitDefEqProofs [ac8]
  refine pcK_of (awake_c) (by simp) ?_
  simp -implicitDefEqProofs
  refine pcK_of (copied_c n l hlb) (by simp) ?_
  simp -implicitDefEqProofs
  obtain ⟨a, e, hg⟩ : ∃ a e, getF n l i = .tup [I a, I e] := by unfold getF; split <;> (try split) <;> exact ⟨_, _, rfl⟩
  obtain ⟨p, q, f, hp, hq⟩ : ∃ p q f, putF n l i v = tup2 p q f ∧ q.length < 2 ^ 60 := by
    unfold putF
    split
    · rename_i g
      split
      · exact ⟨_, _, _, rfl, by have := good_len g; simp [putL]; omega⟩
      · exact ⟨_, _, _, rfl, by simp⟩
    · exact ⟨_, _, _, rfl, by simp⟩
  obtain ⟨b, d, hc⟩ : ∃ a e, countF n l v = .tup [I a, I e] := by unfold countF; split <;> (try split) <;> exact ⟨_, _, rfl⟩
  refine pcK_of (hg ▸ Get_c n i l) (by simp) ?_
  simp -implicitDefEqProofs
  refine pcK_of (hg ▸ refGet_c hl i) (by simp) ?_
  simp -implicitDefEqProofs
  refine pcK_of (copied_c n l hlb) (by simp) ?_
  simp -implicitDefEqProofs
  refine pcK_of (hp ▸ Put_c n i v l) (by simp) ?_
  simp -implicitDefEqProofs [tup2]
  refine pcK_of (hp ▸ refPut_c hl i v) (by simp) ?_
  simp -implicitDefEqProofs [tup2]
  refine pcK_of (copied_c n l hlb) (by simp) ?_
  simp -implicitDefEqProofs
  refine pcK_of (hc ▸ Count_c hl v) (by simp) ?_
  simp -implicitDefEqProofs
  refine pcK_of (hc ▸ refCount_c hl v) (by simp) ?_
  simp -implicitDefEqProofs
  refine pcK_of (told_c p p f f q q hq) (by simp) ?_
  simp -implicitDefEqProofs
end Go.Fx.Ytaghjpoijodgfaa

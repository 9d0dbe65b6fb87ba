import Derived.Test.YtaghjpoijodgfaaRe2
import Derived.Test.YtaghjpoijodgfaaCodeL02
set_option linter.all false
namespace Go.Fx.Ytaghjpoijodgfaa
open Go Go.Fx Go.Proofs Go.Fx.Rows

theorem copied_c (n : Int) (l : List Int) (hl : l.length * 8 ≤ reachBytes) : Pure Try.prog 16 [row n l] (row n l) := by
  refine pu16 (by simp) ?_
  simp -implicitDefEqProofs [ac16, row]
  simp only [reachBytes] at hl
  omega
theorem told_c (n m e f : Int) (l k : List Int) (hl : l.length < 2 ^ 60) : Pure Try.prog 14 [row n l, I e, row m k, I f] (B (decide (e = f ∧ n = m ∧ l = k))) := by
  refine pu14 (by simp) ?_
  simp -implicitDefEqProofs [ac14, row]
  refine ⟨fun h => ?_, by simp_all⟩
  refine pcK_of (Same_c n m l k hl) (by simp) ?_
  simp -implicitDefEqProofs [h]
theorem awake_put : putF 33 [0, 0] 32 3 = tup2 33 [0, 3] 0 := by kernel_rfl
theorem awake_get : getF 33 [0, 3] 32 = .tup [I 3, I 0] := by kernel_rfl
theorem awake_c : Pure Try.prog 10 [] (B true) := by
  refine pu10 (by simp) ?_
  simp -implicitDefEqProofs [ac10]
  refine pcK_of (New_c 33) (by simp) ?_
  simp -implicitDefEqProofs [newF, tup2]
  refine pcK_of (awake_put ▸ Put_c 33 32 3 [0, 0]) (by simp) ?_
  simp -implicitDefEqProofs [tup2]
  refine pcK_of (awake_get ▸ Get_c 33 32 [0, 3]) (by simp) ?_
  simp -implicitDefEqProofs

theorem law_Makes : ∀ xs, Args Try.prog Try.f3.params.toList xs → Pure Try.prog 3 xs (B true) := by
  intro xs h
  rw [Try.params3] at h
  simp only [Args] at h
  obtain ⟨x, r, rfl, hx, y, r2, rfl, hy, rfl⟩ := h
  obtain ⟨n, rfl, hn⟩ := arg_int hx
  obtain ⟨m, l, rfl, hm, hl, hb⟩ := arg_row hy
  have hgc := good_cells (n := m) hl
  refine pu3 (by simp) ?_
  simp -implicitDefEqProofs [ac3]
  refine pcK_of awake_c (by simp) ?_
  simp -implicitDefEqProofs
  obtain ⟨a, k, e, he, hk⟩ : ∃ a k e, newF n = tup2 a k e ∧ k.length < 2 ^ 60 := by
    unfold newF
    split
    · exact ⟨_, _, _, rfl, by simp; omega⟩
    · exact ⟨_, _, _, rfl, by simp⟩
  obtain ⟨cs, hcs⟩ : ∃ cs, cellsF m l = .tup [.sl (em encI cs), B (decide (Good m l))] := by
    by_cases hg : Good m l
    · exact ⟨(List.range m.toNat).map (cellN l), by rw [cellsF_yes (hgc.1 hg)]; simp [hg]⟩
    · exact ⟨[], by rw [cellsF_no (fun h => hg (hgc.2 h))]; simp [hg]⟩
  refine pcK_of (he ▸ New_c n) (by simp) ?_
  simp -implicitDefEqProofs [tup2]
  refine pcK_of (he ▸ refNew_c n) (by simp) ?_
  simp -implicitDefEqProofs [tup2]
  refine pcK_of (hcs ▸ Cells_c m l) (by simp) ?_
  simp -implicitDefEqProofs
  refine pcK_of (told_c a a e e k k hk) (by simp) ?_
  simp -implicitDefEqProofs
  refine pcK_of (copied_c m l hb) (by simp) ?_
  simp -implicitDefEqProofs
  refine pcK_of (Check_c m l) (by simp) ?_
  simp -implicitDefEqProofs [bin_eqlB Try.underlying4, checkF_ok]
  intro hg
  refine pcK_of (copied_c m l hb) (by simp) ?_
  simp -implicitDefEqProofs
  refine pcK_of (Check_c m l) (by simp) ?_
  simp -implicitDefEqProofs [checkF, hg]
end Go.Fx.Ytaghjpoijodgfaa

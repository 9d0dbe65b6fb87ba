import Derived.Test.YtjfiklflmnhbdaaRd
set_option linter.all false
namespace Go.Fx.Ytjfiklflmnhbdaa
open Go Go.Fx Go.Proofs Go.Fx.Rows

theorem refNew_c (n : Int) : Pure Try.prog 39 [I n] (newF n) := by
  refine pu39 (by simp) ?_
  simp -implicitDefEqProofs [ac39, row]
  refine ⟨fun h0 => ⟨fun h1 => ?_, fun h1 => ?_⟩, fun h0 => ?_⟩
  · have : ¬ n ≤ 4096 := by omega
    simp [newF, tup2, this]
  · refine ⟨⟨h0, by omega⟩, ?_⟩
    refine pcK_of (Pack_c (List.replicate n.toNat 0) (fun c hc => by rw [List.mem_replicate] at hc; rw [hc.2]; exact ⟨by decide, by decide⟩) (by simp; omega)) (by simp) ?_
    have e : ((n.toNat + 31) / 32) = ((n + 31) / 32).toNat := by omega
    simp -implicitDefEqProofs [newF, tup2, h0, h1, packL_zero, e]
    omega
  · have : ¬ 0 ≤ n := by omega
    simp [newF, tup2, this]

def getF (n : Int) (l : List Int) (i : Int) : D := if Good n l then (if 0 ≤ i ∧ i < n then .tup [I (cellN l i.toNat), I 0] else .tup [I 0, I 2]) else .tup [I 0, I 3]
theorem checkF_ok {n : Int} {l : List Int} : checkF n l = 0 ↔ Good n l := by unfold checkF; split <;> simp [*]

theorem Get_c (n i : Int) (l : List Int) : Pure Try.prog 46 [row n l, I i] (getF n l i) := by
  refine pu46 (by simp) ?_
  simp -implicitDefEqProofs [ac46, row]
  refine pcK_of (Check_c n l) (by simp) ?_
  simp -implicitDefEqProofs [cv_int Try.underlying68 Try.underlying3, checkF_ok]
  refine ⟨fun hg => ?_, fun hg => ⟨fun h0 => ⟨fun h1 => ?_, fun h1 => ?_⟩, fun h0 => ?_⟩⟩
  · simp [getF, hg, checkF]
  · simp [getF, hg, h0]; omega
  · have hg' := hg
    obtain ⟨g1, g2, g3, _⟩ := hg'
    have e1 : i.tdiv 32 = i / 32 := Int.tdiv_eq_ediv_of_nonneg h0
    have e2 : i.tmod 32 = i % 32 := Int.tmod_eq_emod_of_nonneg h0
    have e3 : (i / 32).toNat = i.toNat / 32 := by omega
    have e4 : (2 : Int) * (i % 32) = ((2 * (i.toNat % 32) : Nat) : Int) := by omega
    have hb : ∀ j, 0 ≤ cellN l j ∧ cellN l j < 4 := fun j => ⟨Int.emod_nonneg _ (by decide), Int.emod_lt_of_pos _ (by decide)⟩
    have hb' := hb i.toNat
    have e5 : bAnd .u64 (bShr .u64 (l[i.toNat / 32]?.getD 0) ((2 * (i.toNat % 32) : Nat) : Int)) 3 = cellN l i.toNat := by
      rw [bAnd3, shr_nonneg _ _ rfl (by simp only [IntKind.bits]; omega), Int.pow_mul]; rfl
    rw [e1, e2, wr64 (x := i / 32) (by omega) (by omega), wr64 (x := 2 * (i % 32)) (by omega) (by omega), e3, e4, e5, wr64 (by omega) (by omega)]
    refine ⟨⟨by omega, by omega⟩, by omega, ?_⟩
    simp [getF, hg, h0, h1]
  · have : ¬ 0 ≤ i := by omega
    simp [getF, hg, this]

/-- A word in which a cell is put. -/
def putW (u : Int) (j : Nat) (v : Int) : Int := bOr .u64 (bClr .u64 u (bShl .u64 3 ((2 * j : Nat) : Int))) (bShl .u64 v ((2 * j : Nat) : Int))
def putL (l : List Int) (i : Nat) (v : Int) : List Int := l.set (i / 32) (putW (l[i / 32]?.getD 0) (i % 32) v)
def putF (n : Int) (l : List Int) (i v : Int) : D := if Good n l then (if 0 ≤ i ∧ i < n ∧ 0 ≤ v ∧ v ≤ 3 then tup2 n (putL l i.toNat v) 0 else tup2 0 [] 2) else tup2 0 [] 3
theorem Put_c (n i v : Int) (l : List Int) : Pure Try.prog 47 [row n l, I i, I v] (putF n l i v) := by
  refine pu47 (by simp) ?_
  simp -implicitDefEqProofs [ac47, row]
  refine pcK_of (Check_c n l) (by simp) ?_
  simp -implicitDefEqProofs [cv_int Try.underlying3 Try.underlying68, checkF_ok]
  refine ⟨fun hg => ?_, fun hg => ⟨fun h0 => ⟨fun h1 => ⟨fun h2 => ⟨fun h3 => ?_, fun h3 => ?_⟩, fun h2 => ?_⟩, fun h1 => ?_⟩, fun h0 => ?_⟩⟩
  · simp [putF, tup2, hg, checkF]
  · have : ¬ v ≤ 3 := by omega
    simp [putF, tup2, hg, this]
  · have hg' := hg
    obtain ⟨g1, g2, g3, _⟩ := hg'
    have e1 : i.tdiv 32 = i / 32 := Int.tdiv_eq_ediv_of_nonneg h0
    have e2 : i.tmod 32 = i % 32 := Int.tmod_eq_emod_of_nonneg h0
    have e3 : (i / 32).toNat = i.toNat / 32 := by omega
    have e4 : (2 : Int) * (i % 32) = ((2 * (i.toNat % 32) : Nat) : Int) := by omega
    rw [e1, e2, wr64 (x := i / 32) (by omega) (by omega), wr64 (x := 2 * (i % 32)) (by omega) (by omega), e3, e4, wru64 h2 (by omega)]
    refine ⟨by omega, ⟨by omega, by omega⟩, by omega, by omega, ⟨by omega, by omega⟩, by omega, ?_⟩
    rw [List.take_of_length_le (by simp)]
    simp only [putF, hg, h0, h1, h2, h3, if_true, and_self, tup2, putL, putW]
  · have : ¬ 0 ≤ v := by omega
    simp [putF, tup2, hg, this]
  · have : ¬ i < n := by omega
    simp [putF, tup2, hg, this]
  · have : ¬ 0 ≤ i := by omega
    simp [putF, tup2, hg, this]


end Go.Fx.Ytjfiklflmnhbdaa

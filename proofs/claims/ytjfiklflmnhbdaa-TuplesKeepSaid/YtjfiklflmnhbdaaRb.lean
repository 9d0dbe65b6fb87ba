import Derived.Test.YtjfiklflmnhbdaaRa
set_option linter.all false
namespace Go.Fx.Ytjfiklflmnhbdaa
open Go Go.Fx Go.Proofs
abbrev zrow : D := row 0 []
theorem words_c {n : Int} (h0 : 0 ≤ n) (h1 : n ≤ 4096) : Pure Try.prog 56 [I n] (I ((n + 31) / 32)) := by
  refine pu56 (by simp) ?_
  simp -implicitDefEqProofs [ac56]
  rw [wr64 (x := n + 31) (by omega) (by omega), Int.tdiv_eq_ediv_of_nonneg (by omega), wr64 (by omega) (by omega)]



def Good (n : Int) (l : List Int) : Prop := 0 ≤ n ∧ n ≤ 4096 ∧ (l.length : Int) = (n + 31) / 32 ∧ (0 < n % 32 → l[l.length - 1]?.getD 0 / 4 ^ (n % 32).toNat = 0)
instance (n : Int) (l : List Int) : Decidable (Good n l) := by unfold Good; infer_instance
def checkF (n : Int) (l : List Int) : Int := if Good n l then 0 else 3

theorem shr4 (x : Int) {p : Int} (h0 : 0 ≤ p) (h1 : p < 32) : bShr .u64 x (IntKind.i64.wrap (2 * p)) = x / 4 ^ p.toNat := by
  unfold bShr
  rw [wr64 (by omega) (by omega)]
  have : min (2 * p).toNat IntKind.u64.bits = 2 * p.toNat := by simp only [IntKind.bits]; omega
  rw [this, Int.pow_mul]
  exact Int.fdiv_eq_ediv_of_nonneg _ (Int.pow_nonneg (by decide))

theorem Check_c (n : Int) (l : List Int) : Pure Try.prog 42 [row n l] (I (checkF n l)) := by
  refine pu42 (by simp) ?_
  simp -implicitDefEqProofs [ac42, row]
  refine ⟨fun h0 => ⟨fun h1 => ?_, fun h1 => ?_⟩, fun h0 => ?_⟩
  · refine pcK_of (words_c h0 h1) (by simp) ?_
    simp -implicitDefEqProofs
    refine ⟨fun hne => ?_, fun heq => ?_⟩
    · simp [checkF, Good, hne]
    · rw [Int.tmod_eq_emod_of_nonneg h0]
      refine ⟨fun hp => ?_, fun hp => ?_⟩
      · have e1 : IntKind.i64.wrap (↑l.length - 1) = ↑l.length - 1 := wr64 (by omega) (by omega)
        have e2 : ((l.length : Int) - 1).toNat = l.length - 1 := by omega
        rw [shr4 _ (by omega) (by omega), e1, e2, wr64 (by omega) (by omega)]
        refine ⟨by omega, by omega, fun h => ?_, fun h => ?_⟩
        · simp [checkF, Good, hp, h]
        · simp [checkF, Good, h0, h1, heq, h]
      · have : ¬ 0 < n % 32 := by omega
        simp [checkF, Good, h0, h1, heq, this]
  · simp [checkF, Good]; omega
  · simp [checkF, Good]; omega

def tup2 (n : Int) (l : List Int) (e : Int) : D := .tup [row n l, I e]
def newF (n : Int) : D := if 0 ≤ n ∧ n ≤ 4096 then tup2 n (List.replicate ((n + 31) / 32).toNat 0) 0 else tup2 0 [] 2
theorem New_c (n : Int) : Pure Try.prog 37 [I n] (newF n) := by
  refine pu37 (by simp) ?_
  simp -implicitDefEqProofs [ac37, row]
  refine ⟨fun h0 => ⟨fun h1 => ?_, fun h1 => ?_⟩, fun h0 => ?_⟩
  · have : ¬ n ≤ 4096 := by omega
    simp [newF, tup2, this]
  · refine pcK_of (words_c h0 h1) (by simp) ?_
    simp -implicitDefEqProofs [newF, tup2, h0, h1]
    omega
  · have : ¬ 0 ≤ n := by omega
    simp [newF, tup2, this]

end Go.Fx.Ytjfiklflmnhbdaa

/-
  fathomref04.Parse: contract.
-/
import Derived.Test.YthbainhddfajfaaPA
set_option linter.all false
set_option maxRecDepth 100000
set_option maxHeartbeats 4000000
namespace Go.Fx.Ythbainhddfajfaa
open Go Go.Fx Go.Proofs Go.Fx.Flt
/-- The reader at the head of a text. -/
def rd0 (t : List UInt8) (lt lF lA lN : Int) : Rd := ⟨(marksL t).1, 0, 0, 0, lt, lF, lA, lN, 0⟩
abbrev limD (a b c d : Int) : D := .agg [I a, I b, I c, I d]
abbrev resD (l : List Fn) (w p : Int) : D := .tup [.agg [.sl (em encFn l)], .agg [I w, I p]]
theorem wide_c : Pure Try.prog 18 [] (limD 32768 32768 32768 32768) := by
  refine pu18 (by simp) ?_
  simp -implicitDefEqProofs [ac18]
theorem rd0_ok {t : List UInt8} {lt lF lA lN : Int} (ht : t.length ≤ 2 ^ 20) (hm : (marksL t).2 < 0) (hN : lN ≤ 2 ^ 40) : (rd0 t lt lF lA lN).ok := by
  have h := marksF_ok (t.length + 1) t 0 [] hm
  have hl := marksF_len (t.length + 1) t 0 [] (by omega) (by simp)
  exact ⟨h, h.1, by show (marksL t).1.length ≤ 2 ^ 21; unfold marksL; omega, by show (0 : Int) ≤ 0; omega, by show (0 : Int) ≤ 2 ^ 40; omega, hN⟩
theorem mm32 : min (max (32768 : Int) 0) 32768 = 32768 := by decide
/-- A text under the widest limits. -/
theorem Parse_big (t : List UInt8) (ht : t.length < 2 ^ 48) (h : 32768 < t.length) : Pure Try.prog 17 [.sl (em encB t), limD 32768 32768 32768 32768] (resD [] 22 32768) := by
  refine pu17 (by simp) ?_
  have h1 : (32768 : Int) < t.length := by omega
  simp -implicitDefEqProofs [ac17, mm32, h1]
theorem Parse_bad (t : List UInt8) (ht : t.length ≤ 32768) (hm : ¬ (marksL t).2 < 0) : Pure Try.prog 17 [.sl (em encB t), limD 32768 32768 32768 32768] (resD [] 20 (marksL t).2) := by
  refine pu17 (by simp) ?_
  have h1 : ¬ (32768 : Int) < t.length := by omega
  have h2 : (0 : Int) ≤ (marksL t).2 := by omega
  have hc := Marks_c t (by omega)
  simp -implicitDefEqProofs [ac17, mm32, h1]
  refine pcK_of (hc) (by simp) ?_
  simp -implicitDefEqProofs [h2]
theorem Parse_ok (t : List UInt8) (ht : t.length ≤ 32768) (hm : (marksL t).2 < 0) {n : Nat} (hN : n ≤ 2 ^ 40) {L : List Fn} {r : Rd} (hp : progF n [] (rd0 t 32768 32768 32768 32768) = some (L, r)) :
    Pure Try.prog 17 [.sl (em encB t), limD 32768 32768 32768 32768] (if r.why = 0 then resD L 0 0 else resD [] r.why r.wh) := by
  have h1 : ¬ (32768 : Int) < t.length := by omega
  have h2 : ¬ (0 : Int) ≤ (marksL t).2 := by omega
  have hc := Marks_c t (by omega)
  have hpr := program_c hN _ (rd0_ok (by omega) hm (by omega)) L r hp
  refine pu17 (by simp) ?_
  simp -implicitDefEqProofs [ac17, mm32, h1]
  refine pcK_of (hc) (by simp) ?_
  simp -implicitDefEqProofs [h2]
  refine clK_of (hpr (by simp [look, encRd, rd0]) (by omega) (fun m1 hm1 => ?_))
  by_cases hw : r.why = 0
  · simp -implicitDefEqProofs [hw, encRd]
  · simp -implicitDefEqProofs [hw, encRd]
end Go.Fx.Ythbainhddfajfaa

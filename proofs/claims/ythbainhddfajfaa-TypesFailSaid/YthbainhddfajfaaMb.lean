/-
  Marks: fathomref03.one and Marks.
-/
import Derived.Test.YthbainhddfajfaaMa
set_option linter.all false
set_option maxRecDepth 100000
namespace Go.Fx.Ythbainhddfajfaa
open Go Go.Fx Go.Proofs Go.Fx.Flt
def zf (n : Int) : Nat := FloatKind.f64.nearest n
theorem cvZ {n : Int} : cvD Try.prog 3 123 (I n) = some (FL (zf n)) := cv_intF Try.underlying3 Try.underlying123
theorem Z7_c (a b : Int) : Pure Try.prog 58 [.agg [I a, I b]] (CX (zf a) (zf b)) := by
  refine pu58 (by simp) ?_
  simp -implicitDefEqProofs [ac58, cvZ]
def seg (t : List UInt8) (p n : Nat) : List UInt8 := (t.take (p + n)).drop p
theorem seg_len {t : List UInt8} {p n : Nat} (h : p + n ≤ t.length) : (seg t p n).length = n := by
  unfold seg; simp; omega
def oneF (t : List UInt8) (p : Nat) : Mk × Bool :=
  if decide (0 < runL t p) && dgI (bt8 t p) then (⟨2, seg t p (runL t p), ⟨zf (parseN (seg t p (runL t p))).1, zf (parseN (seg t p (runL t p))).2⟩, p⟩, numOk (seg t p (runL t p)))
  else if decide (0 < runL t p) && decide (bt8 t p = 95) then (⟨0, seg t p (runL t p), ⟨0, 0⟩, p⟩, false)
  else if decide (0 < runL t p) then (⟨if resv (seg t p (runL t p)) then 1 else 0, seg t p (runL t p), ⟨0, 0⟩, p⟩, true)
  else (⟨3, seg t p (signL t p), ⟨0, 0⟩, p⟩, decide (0 < signL t p))
theorem runL_le {t : List UInt8} {p : Nat} (h : p ≤ t.length) : p + runL t p ≤ t.length := (runF_le _ t p 0 (by omega)).2
theorem sgn1_le (v : Int) : sgn1 v ≤ 1 := by unfold sgn1; split <;> omega
theorem signL_le {t : List UInt8} {p : Nat} (h : p < t.length) : p + signL t p ≤ t.length := by
  unfold signL
  have := sgn1_le (bt8 t p)
  split
  · rename_i hc
    simp only [Bool.and_eq_true, decide_eq_true_eq] at hc
    omega
  · omega
theorem one_c (t : List UInt8) (p : Nat) (hl : t.length < 2 ^ 46) (hp : p < t.length) : Pure Try.prog 47 [.sl (em encB t), I p] (.tup [.agg (encMk (oneF t p).1), B (oneF t p).2]) := by
  have hr := run_c t p hl (by omega)
  have hs := sign_c t p hl hp
  have hrl := runL_le (Nat.le_of_lt hp)
  have hsl := signL_le hp
  have hg := seg_len hrl
  have hdg := digit_c (bt8 t p)
  have hpn := Parse_c (seg t p (runL t p)) (by omega)
  have hrv := reserved_c (seg t p (runL t p))
  have e1 : List.drop p (List.take (p + runL t p) t) = seg t p (runL t p) := rfl
  have e2 : List.drop p (List.take (p + signL t p) t) = seg t p (signL t p) := rfl
  unfold oneF
  generalize seg t p (runL t p) = s at *
  generalize seg t p (signL t p) = s2 at *
  generalize runL t p = n at *
  generalize signL t p = n2 at *
  have w1 := wr64 (x := (p : Int) + (n : Int)) (by omega) (by omega)
  have w2 := wr64 (x := (p : Int) + (n2 : Int)) (by omega) (by omega)
  have tn1 : ((p : Int) + (n : Int)).toNat = p + n := by omega
  have tn2 : ((p : Int) + (n2 : Int)).toNat = p + n2 := by omega
  have hpi : (p : Int) < t.length := by omega
  have b1 : (p : Int) ≤ (p : Int) + (n : Int) := by omega
  have b2 : (p : Int) + (n : Int) ≤ t.length := by omega
  have b3 : (p : Int) ≤ (p : Int) + (n2 : Int) := by omega
  have b4 : (p : Int) + (n2 : Int) ≤ t.length := by omega
  refine pu47 (by simp) ?_
  by_cases h0 : 0 < n
  · cases hd : dgI (bt8 t p) <;> rw [hd] at hdg
    · by_cases h1 : bt8 t p = 95
      · rw [if_neg (by simp), if_pos (by simp [h0, h1])]
        simp -implicitDefEqProofs [ac47]
        refine pcK_of (hr) (by simp) ?_
        simp -implicitDefEqProofs [w1, tn1, b1, b2, e1, h0, hp]
        refine pcK_of (hdg) (by simp) ?_
        simp -implicitDefEqProofs [h0, hp, h1]
        rfl
      · rw [if_neg (by simp), if_neg (by simp [h1]), if_pos (by simp [h0])]
        simp -implicitDefEqProofs [ac47]
        refine pcK_of (hr) (by simp) ?_
        simp -implicitDefEqProofs [w1, tn1, b1, b2, e1, h0, hp]
        refine pcK_of (hdg) (by simp) ?_
        simp -implicitDefEqProofs [h0, hp, h1]
        cases hv : resv s <;> rw [hv] at hrv
        · refine pcK_of (hrv) (by simp) ?_
          simp -implicitDefEqProofs
          rfl
        · refine pcK_of (hrv) (by simp) ?_
          simp -implicitDefEqProofs
          rfl
    · rw [if_pos (by simp [h0])]
      have hz := Z7_c (parseN s).1 (parseN s).2
      simp -implicitDefEqProofs [ac47]
      refine pcK_of (hr) (by simp) ?_
      simp -implicitDefEqProofs [w1, tn1, b1, b2, e1, h0, hp]
      refine pcK_of (hdg) (by simp) ?_
      simp -implicitDefEqProofs
      cases ho : numOk s <;> rw [ho] at hpn
      · refine pcK_of (hpn) (by simp) ?_
        simp -implicitDefEqProofs
        refine pcK_of (hz) (by simp) ?_
        simp -implicitDefEqProofs
        rfl
      · refine pcK_of (hpn) (by simp) ?_
        simp -implicitDefEqProofs
        refine pcK_of (hz) (by simp) ?_
        simp -implicitDefEqProofs
        rfl
  · rw [if_neg (by simp [h0]), if_neg (by simp [h0]), if_neg (by simp [h0])]
    simp -implicitDefEqProofs [ac47]
    refine pcK_of (hr) (by simp) ?_
    simp -implicitDefEqProofs [w1, tn1, b1, b2, e1, h0]
    refine pcK_of (hs) (by simp) ?_
    simp -implicitDefEqProofs [w2, tn2, b3, b4, e2]
    rfl
end Go.Fx.Ythbainhddfajfaa

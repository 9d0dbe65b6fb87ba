/-
  Layer 7: TypesTurn.
-/
import Derived.Test.YthbainhddfajfaaLj
import Derived.Test.YthbainhddfajfaaCodeL7b
set_option linter.all false
set_option maxRecDepth 100000
set_option maxHeartbeats 4000000
namespace Go.Fx.Ythbainhddfajfaa
open Go Go.Fx Go.Proofs Go.Fx.Flt
theorem cvTB {l : List UInt8} : cvD Try.prog 9 22 (Tx l) = some (.sl (em encB l)) := cv_TB (by kernel_rfl) (by kernel_rfl)
theorem wt_str {n : Nat} {ds : List D} (h : Wt Try.prog n 9 ds) : ∃ l : List UInt8, ds = [Tx l] ∧ l.length < 2 ^ 48 := by
  cases n with
  | zero => exact h.elim
  | succ n =>
    simp only [Wt, Try.underlying9] at h
    obtain ⟨s, rfl, hl⟩ := h
    refine ⟨s.data.toList, rfl, ?_⟩
    have : s.size = s.data.toList.length := rfl
    unfold reachBytes at hl
    omega
theorem arg_str {x : D} (h : Arg Try.prog 9 x) : ∃ l : List UInt8, x = Tx l ∧ l.length < 2 ^ 48 := by
  obtain ⟨n, ds, h, k⟩ := h
  simp only [Try.underlying9] at k
  obtain ⟨l, rfl, h1⟩ := wt_str h
  simp only [List.cons.injEq, and_true] at k
  exact ⟨l, k.symm, h1⟩
theorem Parse_huge (t : List UInt8) (ht : t.length < 2 ^ 60) (h : 32768 < t.length) : Pure Try.prog 17 [.sl (em encB t), limD 32768 32768 32768 32768] (resD [] 22 32768) := by
  refine pu17 (by simp) ?_
  have h1 : (32768 : Int) < t.length := by omega
  simp -implicitDefEqProofs [ac17, mm32, h1]
theorem read_any (t : List UInt8) (ht : t.length < 2 ^ 60) : ∃ L w p, ReadAs t L w p := by
  by_cases h : 32768 < t.length
  · exact ⟨[], 22, 32768, Parse_huge t ht h, fun h => absurd h (by decide), fun _ => rfl⟩
  · exact read_as t (by omega)
section
variable {P : List Fn} {env : List Pm} {x y z : Ex}
abbrev exC (e : Ex) : List D := [I e.op, Tx e.name, Tx e.tail, I e.type, CX e.num.re e.num.im, .sl (em encEx e.args), I e.at']
theorem em2 : em encEx [x, y] = [encEx x, encEx y] := rfl
theorem em3 : em encEx [x, y, z] = [encEx x, encEx y, encEx z] := rfl
theorem twoE_c {o : Int} (hP : P.length < 2 ^ 40) (hz : env.length + 2 * (1 + (size x + (size y + 0))) ≤ 2 ^ 40) (hs : Sh (.mk o [] [] 0 ⟨0, 0⟩ [x, y] 0)) {R : Int × Int} (hR : ofF P env (.mk o [] [] 0 ⟨0, 0⟩ [x, y] 0) = R) :
    Pure Try.prog 13 [.agg [.sl (em encFn P)], .sl (em encPm env), .agg [I o, Tx [], Tx [], I 0, CX 0 0, .sl [exC x, exC y], I 0]] (.tup [I R.1, I R.2]) := by
  have h := Of_c P env (.mk o [] [] 0 ⟨0, 0⟩ [x, y] 0) hP hz hs
  rw [hR, encEx_mk, em2, encEx_eq x, encEx_eq y] at h
  exact h
theorem threeE_c {o : Int} (hP : P.length < 2 ^ 40) (hz : env.length + 2 * (1 + (size x + (size y + (size z + 0)))) ≤ 2 ^ 40) (hs : Sh (.mk o [] [] 0 ⟨0, 0⟩ [x, y, z] 0)) {R : Int × Int} (hR : ofF P env (.mk o [] [] 0 ⟨0, 0⟩ [x, y, z] 0) = R) :
    Pure Try.prog 13 [.agg [.sl (em encFn P)], .sl (em encPm env), .agg [I o, Tx [], Tx [], I 0, CX 0 0, .sl [exC x, exC y, exC z], I 0]] (.tup [I R.1, I R.2]) := by
  have h := Of_c P env (.mk o [] [] 0 ⟨0, 0⟩ [x, y, z] 0) hP hz hs
  rw [hR, encEx_mk, em3, encEx_eq x, encEx_eq y, encEx_eq z] at h
  exact h
theorem ofF_four (P : List Fn) (env : List Pm) (e : Ex) : ofF P env e = (1, 0) ∨ ofF P env e = (2, 0) ∨ ofF P env e = (3, 0) ∨ ofF P env e = (0, 34) := by
  rcases ofF_two P env e with ⟨h1, h2⟩ | h
  · have h3 : ofF P env e = ((ofF P env e).1, 0) := by rw [← h1]
    rcases h2 with h | h | h <;> rw [h] at h3 <;> simp [h3]
  · exact .inr (.inr (.inr h))
end
theorem law_TypesTurn : ∀ xs, Args Try.prog Try.f5.params.toList xs → Pure Try.prog 5 xs (B true) := by
  intro xs h
  rw [Try.params5] at h
  simp only [Args] at h
  obtain ⟨a, r, rfl, ha, b, r2, rfl, hb, c, r3, rfl, hc, rfl⟩ := h
  obtain ⟨a, rfl, ha⟩ := arg_str ha
  obtain ⟨b, rfl, hb⟩ := arg_str hb
  obtain ⟨c, rfl, hc⟩ := arg_str hc
  obtain ⟨s1, h1⟩ : ∃ s1, s1 = [102, 40, 120, 32, 78, 44, 121, 32, 66, 44, 108, 32, 76, 41, 58, 78, 61, 40] ++ a := ⟨_, rfl⟩
  obtain ⟨s2, h2⟩ : ∃ s2, s2 = s1 ++ [10, 41, 59, 103, 40, 120, 32, 78, 44, 121, 32, 66, 44, 108, 32, 76, 41, 58, 78, 61, 40] := ⟨_, rfl⟩
  obtain ⟨s3, h3⟩ : ∃ s3, s3 = s2 ++ b := ⟨_, rfl⟩
  obtain ⟨s4, h4⟩ : ∃ s4, s4 = s3 ++ [10, 41, 59, 104, 40, 120, 32, 78, 44, 121, 32, 66, 44, 108, 32, 76, 41, 58, 78, 61, 40] := ⟨_, rfl⟩
  obtain ⟨s5, h5⟩ : ∃ s5, s5 = s4 ++ c := ⟨_, rfl⟩
  obtain ⟨s6, h6⟩ : ∃ s6, s6 = s5 ++ [10, 41, 59] := ⟨_, rfl⟩
  have l1 : s1.length = 18 + a.length := by rw [h1, List.length_append]; rfl
  have l2 : s2.length = s1.length + 21 := by rw [h2, List.length_append]; rfl
  have l3 : s3.length = s2.length + b.length := by rw [h3, List.length_append]
  have l4 : s4.length = s3.length + 21 := by rw [h4, List.length_append]; rfl
  have l5 : s5.length = s4.length + c.length := by rw [h5, List.length_append]
  have l6 : s6.length = s5.length + 3 := by rw [h6, List.length_append]; rfl
  have e1 : binD Try.prog .add 9 (Tx [102, 40, 120, 32, 78, 44, 121, 32, 66, 44, 108, 32, 76, 41, 58, 78, 61, 40]) (Tx a) = some (Tx s1) := by rw [h1]; exact bin_addT (by simp; omega)
  have e2 : binD Try.prog .add 9 (Tx s1) (Tx [10, 41, 59, 103, 40, 120, 32, 78, 44, 121, 32, 66, 44, 108, 32, 76, 41, 58, 78, 61, 40]) = some (Tx s2) := by rw [h2]; exact bin_addT (by simp; omega)
  have e3 : binD Try.prog .add 9 (Tx s2) (Tx b) = some (Tx s3) := by rw [h3]; exact bin_addT (by omega)
  have e4 : binD Try.prog .add 9 (Tx s3) (Tx [10, 41, 59, 104, 40, 120, 32, 78, 44, 121, 32, 66, 44, 108, 32, 76, 41, 58, 78, 61, 40]) = some (Tx s4) := by rw [h4]; exact bin_addT (by simp; omega)
  have e5 : binD Try.prog .add 9 (Tx s4) (Tx c) = some (Tx s5) := by rw [h5]; exact bin_addT (by omega)
  have e6 : binD Try.prog .add 9 (Tx s5) (Tx [10, 41, 59]) = some (Tx s6) := by rw [h6]; exact bin_addT (by simp; omega)
  clear h1 h2 h3 h4 h5 h6
  obtain ⟨L, w, p, hr⟩ := read_any s6 (by omega)
  have hc := read_c hr
  refine pu5 (by simp) ?_
  by_cases hw : w = 0
  · have hk := hr.2.1 hw
    obtain ⟨hPT, hPl, hPs⟩ := prog_sh hk
    have k2 := (scope_ok hk).2
    generalize ckF L = R6 at *
    have hd : decide (w = 0) = true := by simp [hw]
    rw [hd] at hc
    simp -implicitDefEqProofs [ac5]
    refine pcK_of (awake_c) (by simp) ?_
    simp -implicitDefEqProofs
    simp -implicitDefEqProofs [e1, e2, e3, e4, e5, e6, cvTB]
    by_cases hl : L.length = 3
    · have i0 : 0 < L.length := by omega
      have i1 : 1 < L.length := by omega
      have i2 : 2 < L.length := by omega
      obtain ⟨f1, g4⟩ : ∃ f, L[0] = f := ⟨_, rfl⟩
      obtain ⟨f2, g5⟩ : ∃ f, L[1] = f := ⟨_, rfl⟩
      obtain ⟨f3, g6⟩ : ∃ f, L[2] = f := ⟨_, rfl⟩
      have q1 := hPs f1 (g4 ▸ List.getElem_mem i0)
      have q2 := hPs f2 (g5 ▸ List.getElem_mem i1)
      have q3 := hPs f3 (g6 ▸ List.getElem_mem i2)
      have g0 : L.length = 3 := hl
      have g1 : L[0]?.getD default = f1 := by rw [List.getElem?_eq_getElem i0, g4]; rfl
      have g2 : L[1]?.getD default = f2 := by rw [List.getElem?_eq_getElem i1, g5]; rfl
      have g3 : L[2]?.getD default = f3 := by rw [List.getElem?_eq_getElem i2, g6]; rfl
      have g7 : (L.length : Int) = 3 := by omega
      refine pcK_of (hc) (by simp) ?_
      simp -implicitDefEqProofs [g0, g7]
      refine pcK_of (k2) (by simp) ?_
      simp -implicitDefEqProofs
      by_cases h6 : R6.1 = 0
      · have o1 := Of_c L f1.params f1.body hPl (by omega) q1.2.2
        have o2 := Of_c L f1.params f2.body hPl (by omega) q2.2.2
        have o3 := Of_c L f1.params f3.body hPl (by omega) q3.2.2
        simp only [encEx_eq] at o1 o2 o3
        have o4 := threeE_c (env := f1.params) hPl (by omega) (sh_if q1.2.2 q2.2.2 q3.2.2) (of_if q1.2.2 q2.2.2 q3.2.2)
        have o5 := twoE_c (env := f1.params) hPl (by omega) (sh_cons q1.2.2 q2.2.2) (of_cons q1.2.2 q2.2.2)
        have o6 := twoE_c (env := f1.params) hPl (by omega) (sh_less q1.2.2 q3.2.2) (of_less q1.2.2 q3.2.2)
        have o7 := twoE_c (env := f1.params) hPl (by omega) (sh_mul q3.2.2 q1.2.2) (of_mul q3.2.2 q1.2.2)
        have t1 := ofF_four L f1.params f1.body
        have t2 := ofF_four L f1.params f2.body
        have t3 := ofF_four L f1.params f3.body
        generalize ofF L f1.params f1.body = T1 at *
        generalize ofF L f1.params f2.body = T2 at *
        generalize ofF L f1.params f3.body = T3 at *
        simp -implicitDefEqProofs [h6, g0, g1, g2, g3, g4, g5, g6]
        refine pcK_of o1 (by simp) ?_
        simp -implicitDefEqProofs
        refine pcK_of o2 (by simp) ?_
        simp -implicitDefEqProofs
        refine pcK_of o3 (by simp) ?_
        simp -implicitDefEqProofs
        rcases t1 with rfl | rfl | rfl | rfl <;> rcases t2 with rfl | rfl | rfl | rfl <;> rcases t3 with rfl | rfl | rfl | rfl
        all_goals
          simp only [Int.reduceEq, and_self, and_true, true_and, and_false, false_and, if_true, if_false, reduceIte] at o4 o5 o6 o7
          refine pcK_of o4 (by simp) ?_
          simp -implicitDefEqProofs
          refine pcK_of o5 (by simp) ?_
          simp -implicitDefEqProofs
          refine pcK_of o6 (by simp) ?_
          simp -implicitDefEqProofs
          refine pcK_of o7 (by simp) ?_
          simp -implicitDefEqProofs
      · simp -implicitDefEqProofs [h6]
    · have g7 : ¬ (L.length : Int) = 3 := by omega
      refine pcK_of (hc) (by simp) ?_
      simp -implicitDefEqProofs [g7]
  · have hd : decide (w = 0) = false := by simp [hw]
    rw [hd] at hc
    simp -implicitDefEqProofs [ac5]
    refine pcK_of (awake_c) (by simp) ?_
    simp -implicitDefEqProofs
    simp -implicitDefEqProofs [e1, e2, e3, e4, e5, e6, cvTB]
    refine pcK_of (hc) (by simp) ?_
    simp -implicitDefEqProofs
end Go.Fx.Ythbainhddfajfaa

/-
  Layer 7: types' Check.
-/
import Derived.Test.YthbainhddfajfaaTyA
set_option linter.all false
set_option maxRecDepth 100000
set_option maxHeartbeats 4000000
namespace Go.Fx.Ythbainhddfajfaa
open Go Go.Fx Go.Proofs Go.Fx.Flt
def tcF (P : List Fn) : List Fn → Ft → Ft
  | [], s => s
  | f :: fs, s => tcF P fs ((wantL P f.params f.body f.type).foldl ckStep s)
def typesF (P : List Fn) : Ft := if (ckF P).1 ≠ 0 then ckF P else tcF P P (ckF P)
theorem box4 {a b d e : D} : blkLe (.box [a, b, d, e]) (.box [a, b, .top, e]) := .inr ⟨_, _, rfl, rfl, .inl rfl, .inl rfl, .inr (.inl rfl), .inl rfl, trivial⟩

theorem types_c {P : List Fn} (hS : Pure Try.prog 19 [.agg [.sl (em encFn P)]] (.agg [I (ckF P).1, I (ckF P).2])) (hP : P.length < 2 ^ 40) (hf : ∀ f ∈ P, size f.body ≤ 2 ^ 37 ∧ f.params.length ≤ 2 ^ 37 ∧ Sh f.body) :
    Pure Try.prog 10 [.agg [.sl (em encFn P)]] (.agg [I (typesF P).1, I (typesF P).2]) := by
  refine pu10 (by simp) ?_
  unfold typesF
  generalize ckF P = s0 at *
  simp -implicitDefEqProofs (maxDischargeDepth := 80) (maxSteps := 1000000) [ac10]
  refine pcK_of hS (by simp) ?_
  by_cases h0 : s0.1 = 0
  · simp -implicitDefEqProofs (maxDischargeDepth := 80) (maxSteps := 1000000) [h0]
    refine clK_of (open_c P hP 21 4 (fun hd n1 hrp hn1 => ?_))
    have e0 : s0 = (0, s0.2) := by rw [← h0]
    have h00 : (0 : Int) = s0.1 := h0.symm
    simp -implicitDefEqProofs (maxDischargeDepth := 80) (maxSteps := 1000000)
    generalize hR : tcF P P s0 = R
    refine lp10_0 (α := Nat × Ft) (fun s _ => [(6, .top), (19, I s.1)]) (fun s _ => [(20, .box [.omap 15, .sl (em encFn P), .top, .fn 21 [.opt 4 0]]), (15, .map (encSm hd)), (4, .box [I s.2.1, I s.2.2]), (1, .box [I 0, I 0])]) (fun s k => 21 ≤ k ∧ s.1 ≤ P.length ∧ tcF P (P.drop s.1) s.2 = R) (fun s => P.length - s.1) (0, s0) ⟨by omega, by simp, hR⟩ (by simp) ?_ ?_
    · rw [← h0]; exact memLe_cons' box4 (memLe_refl _)
    rintro ⟨i, s⟩ k ⟨hk, hi, hr⟩
    simp only at hi hr
    by_cases hlt : i < P.length
    · have hd1 : P.drop i = P[i] :: P.drop (i + 1) := List.drop_eq_getElem_cons hlt
      have hmem : P[i] ∈ P := List.getElem_mem hlt
      rw [hd1] at hr
      unfold tcF at hr
      obtain ⟨x, hxe⟩ : ∃ x, P[i] = x := ⟨_, rfl⟩
      rw [hxe] at hr hmem
      obtain ⟨z1, z2, z3⟩ := hf x hmem
      have w1 := wr64 (x := (i : Int) + 1) (by omega) (by omega)
      have hb : x.params.length * 32 ≤ 3 * 2 ^ 46 := by omega
      simp -implicitDefEqProofs (maxDischargeDepth := 80) (maxSteps := 1000000) [-els, els_Pm, neA, ltA, neE hk, ltF hk, lb10_0, hlt, hxe, hb]
      have hx := twant_c x.body
      unfold WT at hx
      simp only [encEx_eq] at hx
      have hb1 : k + 1 + 4 + 3 < k + 1 + 4 + 7 + 6 := by omega
      have hb2 : k + 1 + 2 ≠ k + 1 + 4 + 3 := by omega
      have hb3 : 21 ≤ k + 1 + 4 + 3 := by omega
      have hb4 : k + 1 + 2 < k + 1 + 4 + 7 + 6 := by omega
      have hb5 : 21 ≤ k + 1 + 2 := by omega
      generalize k + 1 + 4 + 7 + 6 = k2 at *
      generalize k + 1 + 4 + 3 = b at *
      generalize k + 1 + 2 = b9 at *
      have f1 : (b = b9) = False := eq_false (fun g => hb2 g.symm)
      have f2 : (b9 = b) = False := eq_false hb2
      refine clK_of (hx (c := ⟨20, b, 15, 4, P, hd, 21, fun s => [I s.1, I s.2], ckStep⟩) (env := x.params) (ver := 0) (X := []) (s := s) ⟨ck_wr _ rfl rfl rfl, hrp, hP⟩ ?_ (by omega) z3 (fun v X n hn => ?_))
      · constructor <;> first | (simp only []; omega) | simp -implicitDefEqProofs (maxDischargeDepth := 80) (maxSteps := 1000000) [neA, ltA, neE hk, ltF hk, neE hb3, neE hb5, f1, f2, C7.box, C7.arr]
      · generalize (wantL P x.params x.body x.type).foldl ckStep s = s2 at *
        simp -implicitDefEqProofs (maxDischargeDepth := 80) (maxSteps := 1000000) [neA, ltA, neE hk, ltF hk, neE hb3, neE hb5, f1, f2, mem7, C7.box, C7.arr, w1]
        exact again_of (i + 1, s2) ⟨by omega, hlt, hr⟩ (by simp only; omega) (by simp) (memLe_skip (memLe_skip (memLe_cons' box4 (memLe_refl _)) (by simp only [look]; repeat rw [if_neg (by omega)])) (by simp only [look]; repeat rw [if_neg (by omega)]))
    · rw [List.drop_eq_nil_of_le (by omega)] at hr
      unfold tcF at hr
      subst hr
      simp -implicitDefEqProofs (maxDischargeDepth := 80) (maxSteps := 1000000) [neA, ltA, neE hk, ltF hk, lb10_0, hlt]
  · simp -implicitDefEqProofs (maxDischargeDepth := 80) (maxSteps := 1000000) [h0]
end Go.Fx.Ythbainhddfajfaa

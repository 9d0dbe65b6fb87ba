/-
  scope.Check.
-/
import Derived.Test.YthbainhddfajfaaSaB
set_option linter.all false
set_option maxRecDepth 100000
set_option maxHeartbeats 4000000
namespace Go.Fx.Ythbainhddfajfaa
open Go Go.Fx Go.Proofs Go.Fx.Flt
/-- The functions' places, and the functions that stand there twice. -/
def placesF : List Fn → Nat → Sm → Ft → Sm × Ft
  | [], _, pl, s => (pl, s)
  | f :: fs, i, pl, s => if getS pl f.name > 0 then placesF fs (i + 1) pl (tellF s 30 f.at') else placesF fs (i + 1) (putS pl f.name (i + 1)) s
def parsF : List Pm → Sm → Ft → Sm × Ft
  | [], m, s => (m, s)
  | x :: xs, m, s => parsF xs (incM m x.name) (if getS m x.name > 0 then tellF s 30 x.at' else s)
def funcsF (P : List Fn) (pl : Sm) : List Fn → Ft → Ft
  | [], s => s
  | f :: fs, s => funcsF P pl fs (walkF P pl f.body (parsF f.params [] s).1 (parsF f.params [] s).2).2
def scopeF (P : List Fn) : Ft := funcsF P (placesF P 0 [] (0, 0)).1 P (placesF P 0 [] (0, 0)).2
theorem placesF_ok (P : List Fn) : ∀ (l : List Fn) (i : Nat) (pl : Sm) (s : Ft), i + l.length ≤ P.length → plOk P pl → plOk P (placesF l i pl s).1
  | [], i, pl, s, _, h => h
  | f :: fs, i, pl, s, hl, h => by
    simp only [List.length_cons] at hl
    unfold placesF
    split
    · exact placesF_ok P fs _ _ _ (by omega) h
    · refine placesF_ok P fs _ _ _ (by omega) fun n => ?_
      rw [getS_put]
      split
      · omega
      · exact h n
theorem getS_nil (n : List UInt8) : getS [] n = 0 := rfl
theorem tell_k (s : Ft) (w p : Int) {fid : Nat} {mem : Mem} {nx : Nat} {K : KD} (hl : look mem fid = some (.box [I s.1, I s.2])) (hi : fid < nx) (hk : ∀ nx', nx ≤ nx' → K (.tup []) (upd mem fid (.box [I (tellF s w p).1, I (tellF s w p).2])) nx') :
    clK Try.prog (some (.fn 30 [.opt fid 0])) (some [I w, I p]) mem nx K := clK_caps (tell_c s w p hl hi hk)

theorem scope_c (P : List Fn) (hP : P.length < 2 ^ 40) (hf : ∀ f ∈ P, size f.body ≤ 2 ^ 40 ∧ f.params.length ≤ 2 ^ 40) : Pure Try.prog 19 [.agg [.sl (em encFn P)]] (.agg [I (scopeF P).1, I (scopeF P).2]) := by
  refine pu19 (by simp) ?_
  simp -implicitDefEqProofs (maxDischargeDepth := 80) (maxSteps := 1000000) [ac19]
  generalize hR : placesF P 0 [] (0, 0) = R
  have hplR : plOk P R.1 := hR ▸ placesF_ok P P 0 [] (0, 0) (by omega) (fun n => by rw [getS_nil]; omega)
  have hfin : scopeF P = funcsF P R.1 P R.2 := by unfold scopeF; rw [hR]
  rw [hfin]
  clear hfin
  refine lp19_2 (α := Nat × Sm × Ft) (fun s _ => [(6, .top), (7, .top), (18, I s.1)]) (fun s _ => [(7, .box [.omap 6]), (6, .map (encSm s.2.1)), (4, .box [.fn 30 [.opt 2 0]]), (2, .box [I s.2.2.1, I s.2.2.2]), (1, .box [I 0, I 0]), (0, .box [.sl (em encFn P)])]) (fun s k => 13 ≤ k ∧ s.1 ≤ P.length ∧ placesF (P.drop s.1) s.1 s.2.1 s.2.2 = R) (fun s => P.length - s.1) (0, [], (0, 0)) ⟨by omega, by simp, hR⟩ (by simp) (memLe_refl _) ?_
  rintro ⟨i, pl, s⟩ k ⟨hk, hi, hr⟩
  simp only at hi hr
  by_cases hlt : i < P.length
  · have hd : P.drop i = P[i] :: P.drop (i + 1) := List.drop_eq_getElem_cons hlt
    rw [hd] at hr
    unfold placesF at hr
    obtain ⟨x, hxe⟩ : ∃ x, P[i] = x := ⟨_, rfl⟩
    rw [hxe] at hr
    have w1 := wr64 (x := (i : Int) + 1) (by omega) (by omega)
    by_cases hg : getS pl x.name > 0
    · rw [if_pos hg] at hr
      simp -implicitDefEqProofs (maxDischargeDepth := 80) (maxSteps := 1000000) [neA, ltA, neE hk, ltF hk, lb19_2, hlt, hxe, hg]
      refine tell_k s 30 x.at' (by simp -implicitDefEqProofs (maxDischargeDepth := 80) (maxSteps := 1000000) [neA, ltA, neE hk, ltF hk]) (by omega) (fun n1 hn1 => ?_)
      simp -implicitDefEqProofs (maxDischargeDepth := 80) (maxSteps := 1000000) [neA, ltA, neE hk, ltF hk, w1]
      exact again_of (i + 1, pl, tellF s 30 x.at') ⟨by omega, hlt, hr⟩ (by simp only; omega) (by simp) (memLe_skip (memLe_refl _) (by simp only [look]; repeat rw [if_neg (by omega)]))
    · rw [if_neg hg] at hr
      simp -implicitDefEqProofs (maxDischargeDepth := 80) (maxSteps := 1000000) [neA, ltA, neE hk, ltF hk, lb19_2, hlt, hxe, hg, w1]
      exact again_of (i + 1, putS pl x.name (i + 1), s) ⟨by omega, hlt, hr⟩ (by simp only; omega) (by simp) (memLe_skip (memLe_refl _) (by simp only [look]; repeat rw [if_neg (by omega)]))
  · rw [List.drop_eq_nil_of_le (by omega)] at hr
    unfold placesF at hr
    subst hr
    simp -implicitDefEqProofs (maxDischargeDepth := 80) (maxSteps := 1000000) [neA, ltA, neE hk, ltF hk, lb19_2, hlt]
    have hn : 13 ≤ k + 1 + 4 := by omega
    generalize k + 1 + 4 = nx at *
    generalize hQ : funcsF P pl P s = Q
    refine lp19_1 (α := Nat × Ft) (fun s _ => [(9, .top), (10, .top), (12, .top), (41, I s.1), (47, .top), (48, .top), (49, .top)]) (fun s _ => [(7, .box [.omap 6]), (6, .map (encSm pl)), (4, .box [.fn 30 [.opt 2 0]]), (2, .box [I s.2.1, I s.2.2]), (1, .box [I 0, I 0]), (0, .box [.sl (em encFn P)])]) (fun s k => 13 ≤ k ∧ s.1 ≤ P.length ∧ funcsF P pl (P.drop s.1) s.2 = Q) (fun s => P.length - s.1) (0, s) ⟨by omega, by simp, hQ⟩ (by simp) (memLe_refl _) ?_
    clear hQ hR hk hn
    rintro ⟨i, s⟩ k ⟨hk, hi, hr⟩
    simp only at hi hr
    by_cases hlt : i < P.length
    · have hd : P.drop i = P[i] :: P.drop (i + 1) := List.drop_eq_getElem_cons hlt
      have hmem : P[i] ∈ P := List.getElem_mem hlt
      rw [hd] at hr
      unfold funcsF at hr
      obtain ⟨x, hxe⟩ : ∃ x, P[i] = x := ⟨_, rfl⟩
      rw [hxe] at hr hmem
      have w1 := wr64 (x := (i : Int) + 1) (by omega) (by omega)
      simp -implicitDefEqProofs (maxDischargeDepth := 80) (maxSteps := 1000000) [neA, ltA, neE hk, ltF hk, neE hk, ltF hk, lb19_1, hlt, hxe]
      obtain ⟨hsx, hpx⟩ := hf x hmem
      have hm1 : 13 ≤ k + 5 := by omega
      have hb9 : 13 ≤ k + 1 + 2 := by omega
      have hmb : (k + 1 + 2 = k + 5) = False := eq_false (by omega)
      have hmb2 : (k + 5 = k + 1 + 2) = False := eq_false (by omega)
      have hk1 : k + 5 < k + 1 + 4 + 2 + 4 ∧ k + 1 + 2 < k + 1 + 4 + 2 + 4 := ⟨by omega, by omega⟩
      generalize k + 1 + 4 + 2 + 4 = k1 at *
      generalize hme : k + 5 = mid at *
      generalize hbe : k + 1 + 2 = b9 at *
      generalize hR2 : parsF x.params [] s = R2 at *
      refine lp19_0 (α := Nat × Sm × Ft) (fun s _ => [(12, .top), (49, I s.1)]) (fun s _ => [(mid, .map (encSm s.2.1)), (b9, .box (encFn x)), (7, .box [.omap 6]), (6, .map (encSm pl)), (4, .box [.fn 30 [.opt 2 0]]), (2, .box [I s.2.2.1, I s.2.2.2]), (1, .box [I 0, I 0]), (0, .box [.sl (em encFn P)])]) (fun s k2 => k1 ≤ k2 ∧ s.1 ≤ x.params.length ∧ parsF (x.params.drop s.1) s.2.1 s.2.2 = R2) (fun s => x.params.length - s.1) (0, [], s) ⟨by omega, by simp, hR2⟩ (by simp) (by rw [encFn_eq]; exact memLe_refl _) ?_
      rintro ⟨j, m, s2⟩ k2 ⟨hk2, hj, hr2⟩
      simp only at hj hr2
      have g2 : 13 ≤ k2 := by omega
      have g3 : mid < k2 := by omega
      have g4 : b9 < k2 := by omega
      by_cases hjl : j < x.params.length
      · have hd2 : x.params.drop j = x.params[j] :: x.params.drop (j + 1) := List.drop_eq_getElem_cons hjl
        rw [hd2] at hr2
        unfold parsF at hr2
        obtain ⟨y, hye⟩ : ∃ y, x.params[j] = y := ⟨_, rfl⟩
        rw [hye] at hr2
        have w2 := wr64 (x := (j : Int) + 1) (by omega) (by omega)
        by_cases hg : getS m y.name > 0
        · rw [if_pos hg] at hr2
          simp -implicitDefEqProofs (maxDischargeDepth := 80) (maxSteps := 1000000) [neA, ltA, neE hk, ltF hk, neE hk, ltF hk, lb19_0, hjl, hye, hg, neE g2, neE hm1, neE hb9, hmb, hmb2, g3, g4, neC g3, neC g4, encFn_eq]
          refine tell_k s2 30 y.at' (by simp -implicitDefEqProofs (maxDischargeDepth := 80) (maxSteps := 1000000) [neA, ltA, neE hk, ltF hk, neE hk, ltF hk, neE g2, neE hm1, neE hb9, hmb, hmb2, g3, g4, neC g3, neC g4, encFn_eq]) (by omega) (fun n1 hn1 => ?_)
          simp -implicitDefEqProofs (maxDischargeDepth := 80) (maxSteps := 1000000) [neA, ltA, neE hk, ltF hk, neE hk, ltF hk, w2, neE g2, neE hm1, neE hb9, hmb, hmb2, g3, g4, neC g3, neC g4, encFn_eq]
          exact again_of (j + 1, incM m y.name, tellF s2 30 y.at') ⟨by omega, hjl, hr2⟩ (by simp only; omega) (by simp) (by simp only [incM, encFn_eq]; exact memLe_skip (memLe_refl _) (by simp only [look]; repeat rw [if_neg (by omega)]))
        · rw [if_neg hg] at hr2
          simp -implicitDefEqProofs (maxDischargeDepth := 80) (maxSteps := 1000000) [neA, ltA, neE hk, ltF hk, neE hk, ltF hk, lb19_0, hjl, hye, hg, neE g2, neE hm1, neE hb9, hmb, hmb2, g3, g4, neC g3, neC g4, encFn_eq, w2]
          exact again_of (j + 1, incM m y.name, s2) ⟨by omega, hjl, hr2⟩ (by simp only; omega) (by simp) (by simp only [incM, encFn_eq]; exact memLe_skip (memLe_refl _) (by simp only [look]; repeat rw [if_neg (by omega)]))
      · rw [List.drop_eq_nil_of_le (by omega)] at hr2
        unfold parsF at hr2
        subst hr2
        have hx := walk_c x.body
        unfold WC at hx
        simp only [encEx_eq] at hx
        simp -implicitDefEqProofs (maxDischargeDepth := 80) (maxSteps := 1000000) [neA, ltA, neE hk, ltF hk, neE hk, ltF hk, lb19_0, hjl, neE g2, neE hm1, neE hb9, hmb, hmb2, g3, g4, neC g3, neC g4, encFn_eq]
        refine clK_of (hx (mid := mid) (fid := 2) (b5 := 7) (pid := 6) (b4 := 4) (b1 := 0) (P := P) (pl := pl) (m := m) (s := s2) ?_ hplR hP hsx (fun n3 hn3 => ?_))
        · constructor <;> first | omega | simp -implicitDefEqProofs (maxDischargeDepth := 80) (maxSteps := 1000000) [neA, ltA, neE hk, ltF hk, neE hk, ltF hk, neE g2, neE hm1, neE hb9, hmb, hmb2, g3, g4, neC g3, neC g4, encFn_eq]
        · generalize walkF P pl x.body m s2 = r3 at *
          simp -implicitDefEqProofs (maxDischargeDepth := 80) (maxSteps := 1000000) [neA, ltA, neE hk, ltF hk, neE hk, ltF hk, memS, w1, neE g2, neE hm1, neE hb9, hmb, hmb2, g3, g4, neC g3, neC g4, encFn_eq]
          exact again_of (i + 1, r3.2) ⟨by omega, hlt, hr⟩ (by simp only; omega) (by simp) (memLe_skip (memLe_skip (memLe_refl _) (by simp only [look]; repeat rw [if_neg (by omega)])) (by simp only [look]; repeat rw [if_neg (by omega)]))
    · rw [List.drop_eq_nil_of_le (by omega)] at hr
      unfold funcsF at hr
      subst hr
      simp -implicitDefEqProofs (maxDischargeDepth := 80) (maxSteps := 1000000) [neA, ltA, neE hk, ltF hk, neE hk, ltF hk, lb19_1, hlt]
end Go.Fx.Ythbainhddfajfaa

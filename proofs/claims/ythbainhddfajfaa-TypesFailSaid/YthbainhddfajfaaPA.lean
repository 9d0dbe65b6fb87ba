/-
  The parser's programs: contract.
-/
import Derived.Test.YthbainhddfajfaaP9
set_option linter.all false
set_option maxRecDepth 100000
set_option maxHeartbeats 4000000

namespace Go.Fx.Ythbainhddfajfaa
open Go Go.Fx Go.Proofs Go.Fx.Flt
theorem progF_ok {N : Nat} (hN : N ≤ 2 ^ 40) : ∀ n l (r : Rd) L r', n ≤ N → r.ok → progF n l r = some (L, r') → r'.ok := by
  intro n
  induction n with
  | zero => intro l r L r' _ _ h; simp [progF] at h
  | succ n ih =>
    intro l r L r' hn h hrun
    unfold progF at hrun
    split at hrun
    · cases hd : defF n r l.length with
      | none => rw [hd] at hrun; simp at hrun
      | some p =>
        rw [hd] at hrun
        exact ih _ p.2 L r' (by omega) (def_s (by omega) r h _ p.1 p.2 hd).1 hrun
    · simp only [Option.some.injEq, Prod.mk.injEq] at hrun
      obtain ⟨_, rfl⟩ := hrun
      exact h
theorem program_c {n : Nat} (hN : n ≤ 2 ^ 40) (r : Rd) (h : r.ok) (L : List Fn) (r' : Rd) (hp : progF n [] r = some (L, r')) : RC 29 [] r r' (.agg [.sl (em encFn L)]) := by
  intro id mem nx K hl hi hk
  refine CallT_frzR ?_
  refine ct29 (by simp) fun hfr => ?_
  simp -implicitDefEqProofs (maxDischargeDepth := 80) (maxSteps := 1000000) [ac29, hl, hi, neC hi, neA, ltA, encRd, encMk, encEx_eq]
  refine A_loop_ownM (id := nx + 1) (off := 0) (k := 11) (by rw [look_cons, if_pos rfl]) rfl (.inl rfl) ?_
  refine lp29_0 (α := Nat × List Fn × Rd) (fun _ _ => []) (fun s _ => (nx + 1 + 1, .arr s.2.1.length 11 (em encFn s.2.1)) :: (nx + 1, .box [.osl (nx + 1 + 1) s.2.1.length 0 s.2.1.length]) :: (nx, .box [.pl (.slice none 0 0)]) :: upd mem id (.box (encRd s.2.2)))
    (fun s m => nx + 1 + 2 ≤ m ∧ s.1 + s.2.1.length ≤ n ∧ s.2.2.ok ∧ progF s.1 s.2.1 s.2.2 = some (L, r')) (fun s => s.1) (n, [], r) ⟨by omega, by simp, h, hp⟩ (by simp) (by simp [upd_self hl]) ?_
  rintro ⟨f, l, y⟩ m ⟨hm, hf, hy, hrun⟩
  simp only at hf hy hrun
  cases f with
  | zero => simp [progF] at hrun
  | succ f =>
    unfold progF at hrun
    have cnx := next_c hy
    simp only [encMk] at cnx
    have go : (y.why = 0 ∧ (l = [] ∨ y.next.kind ≠ 4)) → ∃ d q, defF f y l.length = some (d, q) ∧ progF f (l ++ [d]) q = some (L, r') ∧ q.ok ∧ RC 49 [I l.length] y q (.agg (encFn d)) := fun hc => by
      rw [if_pos hc] at hrun
      cases hd : defF f y l.length with
      | none => rw [hd] at hrun; simp at hrun
      | some p =>
        rw [hd] at hrun
        obtain ⟨k1, k2⟩ := def_s (by omega) y hy _ p.1 p.2 hd
        exact ⟨p.1, p.2, rfl, hrun, k1, k2⟩
    have stop : ¬ (y.why = 0 ∧ (l = [] ∨ y.next.kind ≠ 4)) → l = L ∧ y = r' := fun hc => by
      rw [if_neg hc] at hrun
      simpa using hrun
    by_cases g1 : y.why = 0
    · have hu := g1
      by_cases h0 : l = []
      · obtain ⟨d, q, _, hrun2, kq, cd⟩ := go ⟨g1, .inl h0⟩
        subst h0
        have hap := app_Fn [] d
        simp only [encFn_eq, List.length_nil] at cd
        simp -implicitDefEqProofs (maxDischargeDepth := 80) (maxSteps := 1000000) [lb29_0, hl, hi, neC hi, neA, ltA, encRd, encMk, encEx_eq, neE hm, ltF hm, g1]
        refine clK_of ((cd) (by simp -implicitDefEqProofs (maxDischargeDepth := 80) (maxSteps := 1000000) [hl, hi, neC hi, neA, ltA, encRd, encMk, encEx_eq, neE hm, ltF hm, g1]) (by omega) (fun m2 hm2 => ?_))
        have im2 : id < m2 := by omega
        simp -implicitDefEqProofs (maxDischargeDepth := 80) (maxSteps := 1000000) [hl, hi, neC hi, neA, ltA, encRd, encMk, encEx_eq, neE hm, ltF hm, g1, neE hm2, ltF hm2]
        refine again_of (f, [d], q) ⟨by omega, by simp only [List.length_nil, List.length_cons] at hf ⊢; omega, kq, hrun2⟩ (by simp only; omega) (by simp) ?_
        simp only [em_1, encFn_eq, List.length_cons, List.length_nil, Nat.zero_add]
        exact (by repeat (first | exact memLe_refl _ | refine memLe_skip ?_ (by simp only [look]; repeat (first | rw [if_neg (by omega)] | exact look_upd_none (hfr _ (by omega)) | exact hfr _ (by omega)))))
      · have hpos := List.length_pos_iff.2 h0
        by_cases g2 : y.next.kind = 4
        · obtain ⟨rfl, rfl⟩ := stop (by simp [h0, g2])
          simp only [encRd, g1] at hk
          simp -implicitDefEqProofs (maxDischargeDepth := 80) (maxSteps := 1000000) [lb29_0, hl, hi, neC hi, neA, ltA, encRd, encMk, encEx_eq, neE hm, ltF hm, g1, h0]
          refine clK_of ((cnx) (by simp -implicitDefEqProofs (maxDischargeDepth := 80) (maxSteps := 1000000) [hl, hi, neC hi, neA, ltA, encRd, encMk, encEx_eq, neE hm, ltF hm, g1]) (by omega) (fun m2 hm2 => ?_))
          have im2 : id < m2 := by omega
          simp -implicitDefEqProofs (maxDischargeDepth := 80) (maxSteps := 1000000) [hl, hi, neC hi, neA, ltA, encRd, encMk, encEx_eq, neE hm, ltF hm, g1, neE hm2, ltF hm2, g2]
          exact kfrz1 (nx + 1 + 1) _ (by simp -implicitDefEqProofs (maxDischargeDepth := 80) (maxSteps := 1000000) [hl, hi, neC hi, neA, ltA, encRd, encMk, encEx_eq, neE hm, ltF hm, g1, neE hm2, ltF hm2]; rfl) (by repeat (first | exact memSub_refl _ | refine memSub_skip ?_ (look_upd_none (hfr _ (by omega))) | refine memSub_skip ?_ (hfr _ (by omega)))) (look_upd_none (hfr _ (by omega))) (by simp [frz, look, List.take_of_length_le]) (hk _ (by omega))
        · obtain ⟨d, q, _, hrun2, kq, cd⟩ := go ⟨g1, .inr g2⟩
          have hap := app_Fn l d
          simp only [encFn_eq] at cd
          rw [encFn_eq d] at hap
          simp -implicitDefEqProofs (maxDischargeDepth := 80) (maxSteps := 1000000) [lb29_0, hl, hi, neC hi, neA, ltA, encRd, encMk, encEx_eq, neE hm, ltF hm, g1, h0]
          refine clK_of ((cnx) (by simp -implicitDefEqProofs (maxDischargeDepth := 80) (maxSteps := 1000000) [hl, hi, neC hi, neA, ltA, encRd, encMk, encEx_eq, neE hm, ltF hm, g1]) (by omega) (fun m2 hm2 => ?_))
          have im2 : id < m2 := by omega
          simp -implicitDefEqProofs (maxDischargeDepth := 80) (maxSteps := 1000000) [hl, hi, neC hi, neA, ltA, encRd, encMk, encEx_eq, neE hm, ltF hm, g1, neE hm2, ltF hm2, g2]
          refine clK_of ((cd) (by simp -implicitDefEqProofs (maxDischargeDepth := 80) (maxSteps := 1000000) [hl, hi, neC hi, neA, ltA, encRd, encMk, encEx_eq, neE hm, ltF hm, g1, neE hm2, ltF hm2]) (by omega) (fun m3 hm3 => ?_))
          have im3 : id < m3 := by omega
          simp -implicitDefEqProofs (maxDischargeDepth := 80) (maxSteps := 1000000) [hl, hi, neC hi, neA, ltA, encRd, encMk, encEx_eq, neE hm, ltF hm, g1, neE hm2, ltF hm2, neE hm3, ltF hm3]
          refine ⟨by omega, again_of (f, l ++ [d], q) ⟨by omega, by simp only [List.length_append, List.length_cons, List.length_nil]; omega, kq, hrun2⟩ (by simp only; omega) (by simp) ?_⟩
          rw [hap]
          simp only [List.length_append, List.length_cons, List.length_nil, Nat.zero_add]
          exact (by repeat (first | exact memLe_refl _ | refine memLe_skip ?_ (by simp only [look]; repeat (first | rw [if_neg (by omega)] | exact look_upd_none (hfr _ (by omega)) | exact hfr _ (by omega)))))
    · obtain ⟨rfl, rfl⟩ := stop (by simp [g1])
      simp -implicitDefEqProofs (maxDischargeDepth := 80) (maxSteps := 1000000) [lb29_0, hl, hi, neC hi, neA, ltA, encRd, encMk, encEx_eq, neE hm, ltF hm, g1]
      exact kfrz1 (nx + 1 + 1) _ (by simp -implicitDefEqProofs (maxDischargeDepth := 80) (maxSteps := 1000000) [hl, hi, neC hi, neA, ltA, encRd, encMk, encEx_eq, neE hm, ltF hm]; rfl) (by repeat (first | exact memSub_refl _ | refine memSub_skip ?_ (look_upd_none (hfr _ (by omega))) | refine memSub_skip ?_ (hfr _ (by omega)))) (look_upd_none (hfr _ (by omega))) (by simp [frz, look, List.take_of_length_le]) (hk _ (by omega))
end Go.Fx.Ythbainhddfajfaa

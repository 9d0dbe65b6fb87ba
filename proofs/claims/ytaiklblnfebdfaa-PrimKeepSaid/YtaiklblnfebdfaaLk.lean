/-
  PrimKeep.
-/
import Derived.Test.YtaiklblnfebdfaaPn
import Derived.Test.YtaiklblnfebdfaaLa
set_option linter.all false
namespace Go.Fx.Ytaiklblnfebdfaa
open Go Go.Fx Go.Proofs Go.Fx.Flt
theorem kept_c (v : Vl) (hl : v.list.length < 2 ^ 46) : Pure Try.prog 20 [.agg (encV v), .agg (encV v)] (B true) := by
  refine pu20 (by simp) ?_
  obtain ⟨q, hq⟩ : ∃ q, (eqF v.num.re v.num.re && eqF v.num.im v.num.im) = q := ⟨_, rfl⟩
  cases q
  all_goals
    simp -implicitDefEqProofs [ac20, encV, hq]
    refine lp20_0 (α := Nat) (fun i _ => [(4, B false), (5, I i)]) (fun _ _ => []) (fun i _ => i ≤ v.list.length) (fun i => v.list.length - i) 0 (by omega) (by simp) (memLe_nil _) ?_
    rintro i n hi
    have w1 := wr64 (x := (i : Int) + 1) (by omega) (by omega)
    by_cases hlt : i < v.list.length
    · obtain ⟨z, hz⟩ : ∃ z, v.list[i] = z := ⟨_, rfl⟩
      obtain ⟨r, hr⟩ : ∃ r, (eqF z.re z.re && eqF z.im z.im) = r := ⟨_, rfl⟩
      cases r
      all_goals
        simp -implicitDefEqProofs [lb20_0, hlt, hz, hr, w1]
        exact again_of (i + 1) (by omega) (by omega) (by simp) (memLe_nil _)
    · simp -implicitDefEqProofs [lb20_0, hlt]
theorem law_PrimKeep_at (op : Int) (a b : Vi) (ha : a.lt) (hb : b.lt) : Pure Try.prog 6 [I op, .agg (encVi a), .agg (encVi b)] (B true) := by
  have hVa := V_c a ha
  have hVb := V_c b hb
  have la := Vi.v_lt ha
  have lb := Vi.v_lt hb
  have hka := kept_c a.v la.2.2
  have hkb := kept_c b.v lb.2.2
  have h77 := number10_c 4635118810238550016 0
  have e77 : eqF 4635118810238550016 4635118810238550016 = true := by decide +kernel
  have e00 : eqF 0 0 = true := by decide
  simp only [encV, encVi, rv] at hVa hVb hka hkb h77
  have hlt : ∀ w ∈ (if op.tmod 2 = 0 then [a.v] else [a.v, b.v]), w.lt := fun w hw => by
    have : w = a.v ∨ w = b.v := by
      split at hw <;> simp only [List.mem_cons, List.not_mem_nil, or_false] at hw
      · exact .inl hw
      · exact hw
    rcases this with rfl | rfl
    · exact la
    · exact lb
  have sl1 : ∀ (x y z : List D), slsD [] false 4 (.sl [x, y, z]) none (some (.pl (.int .i64 1))) = some (.sl [x]) := fun _ _ _ => rfl
  have sl2 : ∀ (x y z : List D), slsD [] false 4 (.sl [x, y, z]) none (some (.pl (.int .i64 2))) = some (.sl [x, y]) := fun _ _ _ => rfl
  have sl3 : ∀ m (x y : List D), slsD m false 4 (.sl [x, y]) none (some (.pl (.int .i64 1))) = some (.sl [x]) := fun _ _ _ => rfl
  have sl4 : ∀ m (x y : List D), slsD m false 4 (.sl [x, y]) none (some (.pl (.int .i64 2))) = some (.sl [x, y]) := fun _ _ _ => rfl
  have i0 : ∀ m (x y z : List D), x.length = 4 → iaD m 4 (.sl [x, y, z]) (.pl (.int .i64 0)) = some (.pt x) := fun m x y z h => by simp [iaD, h]
  have i1 : ∀ m (x y z : List D), y.length = 4 → iaD m 4 (.sl [x, y, z]) (.pl (.int .i64 1)) = some (.pt y) := fun m x y z h => by simp [iaD, h]
  have i2 : ∀ m (x y z : List D), z.length = 4 → iaD m 4 (.sl [x, y, z]) (.pl (.int .i64 2)) = some (.pt z) := fun m x y z h => by simp [iaD, h]
  by_cases h2 : op.tmod 2 = 0
  all_goals
    have hap := Nl.Apply_c op _ hlt (by split <;> simp)
    have hrf := refApply_c op _ hlt (by split <;> simp)
    obtain ⟨v, e, ho⟩ := out_apply op _ hlt
    have hw := ho.whole
    rw [Nl.applyD_nil, ho.1] at hap
    rw [ho.1] at hrf
    first | rw [if_pos h2] at hap hrf | rw [if_neg h2] at hap hrf
    simp only [encV, ho.2.2.1, em, List.map, Nl.nilL] at hap hrf hw
    have hw2 := Pure_arg (xs := [.agg [I v.ty, CX v.num.re v.num.im, B v.bool, .pl (.slice none 0 0)], .agg [I v.ty, CX v.num.re v.num.im, B v.bool, .sl []]]) (by (repeat (first | exact rLe_nil | exact rLe_zs | exact rLes_nil | apply rLes_cons | apply rLe_agg | apply rLe_tup | exact rLe.refl))) hw
    refine pu6 (by simp) ?_
    simp -implicitDefEqProofs [ac6, encVi]
    refine pcK_of (awake10_c) (by simp) ?_
    simp -implicitDefEqProofs
    refine pcK_of hVa (by simp) ?_
    simp -implicitDefEqProofs
    refine pcK_of hVb (by simp) ?_
    simp -implicitDefEqProofs
    refine pcK_of (h77) (by simp) ?_
    simp -implicitDefEqProofs [h2, sl1, sl2]
    refine pcK_of (hap) (by simp) ?_
    simp -implicitDefEqProofs
    refine pcK_of (hap) (by simp) ?_
    simp -implicitDefEqProofs [i0, i1, i2]
    refine pcK_of hVa (by simp) ?_
    simp -implicitDefEqProofs
    refine pcK_of (hka) (by simp) ?_
    simp -implicitDefEqProofs [i0, i1, i2]
    refine pcK_of hVb (by simp) ?_
    simp -implicitDefEqProofs
    refine pcK_of (hkb) (by simp) ?_
    simp -implicitDefEqProofs [i0, i1, i2, e77, e00]
    refine pcK_of hVa (by simp) ?_
    simp -implicitDefEqProofs
    refine pcK_of hVb (by simp) ?_
    simp -implicitDefEqProofs [sl3, sl4]
    refine pcK_of (hrf) (by simp) ?_
    simp -implicitDefEqProofs
    refine pcK_of (hw2) (by simp) ?_
    simp -implicitDefEqProofs
theorem arg_Val {x : D} (h : Arg Try.prog 37 x) : ∃ v : Vi, x = .agg (encVi v) ∧ v.lt := by
  obtain ⟨n, ds, h, k⟩ := h
  simp only [Try.underlying37] at k
  obtain ⟨v, rfl, h1, _⟩ := wt_Val h
  exact ⟨v, k, h1⟩
theorem law_PrimKeep : ∀ xs, Args Try.prog Try.f6.params.toList xs → Pure Try.prog 6 xs (B true) := by
  intro xs h
  rw [Try.params6] at h
  simp only [Args] at h
  obtain ⟨x, r, rfl, hx, y, r2, rfl, hy, z, r3, rfl, hz, rfl⟩ := h
  obtain ⟨op, rfl, _⟩ := arg_int hx
  obtain ⟨a, rfl, ha⟩ := arg_Val hy
  obtain ⟨b, rfl, hb⟩ := arg_Val hz
  exact law_PrimKeep_at op a b ha hb
end Go.Fx.Ytaiklblnfebdfaa

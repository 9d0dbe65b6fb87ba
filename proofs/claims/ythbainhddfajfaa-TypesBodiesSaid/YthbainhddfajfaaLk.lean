/-
  Layer 7: TypesBodies ..
-/
import Derived.Test.YthbainhddfajfaaLj
import Derived.Test.YthbainhddfajfaaXK
import Derived.Test.YthbainhddfajfaaCodeL7b
set_option linter.all false
set_option maxRecDepth 100000
set_option maxHeartbeats 4000000
namespace Go.Fx.Ythbainhddfajfaa
open Go Go.Fx Go.Proofs Go.Fx.Flt
theorem let_c {P : List Fn} {env : List Pm} {e : Ex} {u : Int} (hP : P.length < 2 ^ 40) (hz : env.length + 2 * size e + 10 ≤ 2 ^ 40) (hs : Sh e) (hu : tyOk u) :
    Pure Try.prog 13 [.agg [.sl (em encFn P)], .sl (em encPm env), .agg [I 22, Tx zz, Tx [], I u, CX 0 0, .sl [[I e.op, Tx e.name, Tx e.tail, I e.type, CX e.num.re e.num.im, .sl (em encEx e.args), I e.at'], [I 6, Tx zz, Tx [], I 0, CX 0 0, .pl (.slice none 0 0), I 0]], I 0]]
      (.tup [I (if (ofF P env e).2 = 0 ∧ (ofF P env e).1 = u then u else 0), I (if (ofF P env e).2 = 0 ∧ (ofF P env e).1 = u then 0 else 34)]) := by
  have h := Of_c P env (letE u e) hP (by simp only [letE, size, sizes]; omega) (sh_let hs hu)
  rw [of_let hs hu] at h
  have hr : Pure Try.prog 13 [.agg [.sl (em encFn P)], .sl (em encPm env), .agg [I 22, Tx zz, Tx [], I u, CX 0 0, .sl [[I e.op, Tx e.name, Tx e.tail, I e.type, CX e.num.re e.num.im, .sl (em encEx e.args), I e.at'], [I 6, Tx zz, Tx [], I 0, CX 0 0, .pl (.slice none 0 0), I 0]], I 0]] _ := Pure_arg ?_ h
  · by_cases hc : (ofF P env e).2 = 0 ∧ (ofF P env e).1 = u
    · simpa only [if_pos hc] using hr
    · simpa only [if_neg hc] using hr
  · simp only [letE, encEx_mk]
    refine rLes_cons rLe.refl (rLes_cons rLe.refl (rLes_cons (rLe_agg (rLes_cons rLe.refl (rLes_cons rLe.refl (rLes_cons rLe.refl (rLes_cons rLe.refl (rLes_cons rLe.refl (rLes_cons (rLe_sl ?_) rLes.refl'))))))) rLes_nil))
    simp only [em, List.map_cons, List.map_nil, encEx_eq e, encEx_mk]
    exact .cons rLc.refl (.cons (.cons rLe.refl (.cons rLe.refl (.cons rLe.refl (.cons rLe.refl (.cons rLe.refl (.cons rLe_nil rLc.refl)))))) .nil)
theorem law_TypesBodies : ∀ xs, Args Try.prog Try.f4.params.toList xs → Pure Try.prog 4 xs (B true) := by
  intro xs h
  rw [Try.params4] at h
  simp only [Args] at h
  obtain ⟨x, r, rfl, hx, rfl⟩ := h
  obtain ⟨t, rfl, ht⟩ := arg_bytes hx
  obtain ⟨L, w, p, hr⟩ := read_as t ht
  have hc := read_c hr
  refine pu4 (by simp) ?_
  by_cases hw : w = 0
  · have hk := hr.2.1 hw
    obtain ⟨hPT, hPl, hPs⟩ := prog_sh hk
    have k1 := types_c (scope_ok hk).1 hPl hPs
    have k2 := (scope_ok hk).2
    have kall := types_all hPT (fun f hf => (hPs f hf).2.2)
    generalize typesF L = R at *
    generalize ckF L = R6 at *
    have hd : decide (w = 0) = true := by simp [hw]
    rw [hd] at hc
    simp -implicitDefEqProofs [ac4]
    refine pcK_of (awake_c) (by simp) ?_
    simp -implicitDefEqProofs
    refine pcK_of (hc) (by simp) ?_
    simp -implicitDefEqProofs
    refine pcK_of (k2) (by simp) ?_
    simp -implicitDefEqProofs
    by_cases h6 : R6.1 = 0
    · have kall := kall h6
      simp -implicitDefEqProofs [h6]
      refine lp4_1 (α := Nat × Bool) (fun s _ => [(2, .top), (5, B s.2), (6, I s.1), (7, .top), (8, .top), (9, .top), (10, .top), (11, .top), (12, .top), (13, .top), (14, .top)]) (fun s _ => [(8, .box [.sl (em encFn L)])]) (fun s k => 21 ≤ k ∧ s.1 ≤ L.length ∧ (s.2 && (L.drop s.1).all (fitsF L)) = L.all (fitsF L)) (fun s => L.length - s.1) (0, true) ⟨by omega, by simp, by simp⟩ (by simp) (memLe_refl _) ?_
      rintro ⟨i, b⟩ k ⟨hk1, hi, hb⟩
      simp only at hi hb
      by_cases hlt : i < L.length
      · have hd1 : L.drop i = L[i] :: L.drop (i + 1) := List.drop_eq_getElem_cons hlt
        have hmem : L[i] ∈ L := List.getElem_mem hlt
        rw [hd1, List.all_cons] at hb
        obtain ⟨x, hxe⟩ : ∃ x, L[i] = x := ⟨_, rfl⟩
        rw [hxe] at hb hmem
        obtain ⟨z1, z2, z3⟩ := hPs x hmem
        have o1 := Of_c L x.params x.body hPl (by omega) z3
        have o2 := fun (u : Int) (hu : tyOk u) => let_c (P := L) (env := x.params) (e := x.body) (u := u) hPl (by omega) z3 hu
        simp only [encEx_eq] at o1
        have hfit : fitsF L x = (decide ((ofF L x.params x.body).2 = 0) && decide ((ofF L x.params x.body).1 = x.type)) := rfl
        have htwo := ofF_two L x.params x.body
        generalize ofF L x.params x.body = T at *
        rw [hfit] at hb
        have w1 := wr64 (x := (i : Int) + 1) (by omega) (by omega)
        have hT : (T.2 = 0 ∧ T.1 = x.type) ∨ (T.2 = 0 ∧ ¬ T.1 = x.type) ∨ (T.2 = 34 ∧ T.1 = 0) := by
          rcases htwo with h | h
          · by_cases g : T.1 = x.type
            · exact .inl ⟨h.1, g⟩
            · exact .inr (.inl ⟨h.1, g⟩)
          · rw [h]; exact .inr (.inr ⟨rfl, rfl⟩)
        clear htwo hfit
        obtain ⟨t1, t2⟩ := T
        simp only at *
        have hT2 : (t2 = 0 ∧ (t1 = x.type) = True) ∨ (t2 = 0 ∧ (t1 = x.type) = False) ∨ (t2 = 34) := by
          rcases hT with ⟨h1, h2⟩ | ⟨h1, h2⟩ | ⟨h1, h2⟩
          · exact .inl ⟨h1, eq_true h2⟩
          · exact .inr (.inl ⟨h1, eq_false h2⟩)
          · exact .inr (.inr h1)
        clear hT
        obtain ⟨fb, hfb⟩ : ∃ fb : Bool, fb = (decide (t2 = 0) && decide (t1 = x.type)) := ⟨_, rfl⟩
        rw [← hfb] at hb
        rcases hT2 with ⟨rfl, he⟩ | ⟨rfl, he⟩ | rfl <;> cases b
        all_goals
          first | simp [he] at hfb | simp at hfb
          subst hfb
          simp -implicitDefEqProofs [lb4_1, hlt, hxe, encFn_eq]
          refine pcK_of o1 (by simp) ?_
          first | simp -implicitDefEqProofs [he] | simp -implicitDefEqProofs
          obtain ⟨q, hq⟩ : ∃ q, q = k + 5 + 5 := ⟨_, rfl⟩
          rw [← hq]
          refine lp4_0 (α := Nat) (fun s _ => [(2, .top), (11, I s), (12, .top), (13, .top), (14, .top)]) (fun s _ => [(q, .box [Tx x.name, .sl (em encPm x.params), I x.type, I x.body.op, Tx x.body.name, Tx x.body.tail, I x.body.type, CX x.body.num.re x.body.num.im, .sl (em encEx x.body.args), I x.body.at', I x.at']), (8, .box [.sl (em encFn L)])]) (fun s kk => k + 11 ≤ kk ∧ 1 ≤ s ∧ s ≤ 4) (fun s => 5 - s) 1 ⟨by omega, by omega, by omega⟩ (by simp) (memLe_refl _) ?_
          rintro u kk ⟨hkk, hu1, hu2⟩
          have f1 : ∀ c d, (kk + c + d = q) = False := fun c d => eq_false (by omega)
          have f2 : ∀ c d, (kk + c + d = 8) = False := fun c d => eq_false (by omega)
          have f3 : (q = 8) = False := eq_false (by omega)
          have f4 : (kk = 0) = False := eq_false (by omega)
          by_cases hle : (u : Int) ≤ 3
          · have hty : tyOk u := by unfold tyOk; omega
            have o3 := o2 u hty
            have w2 := wr64 (x := (u : Int) + 1) (by omega) (by omega)
            by_cases hc : t1 = (u : Int)
            · simp [hc] at o3
              simp -implicitDefEqProofs [lb4_0, hle, f1, f2, f3, f4]
              refine pcK_of o3 (by simp) ?_
              simp -implicitDefEqProofs [hc, w2, f1, f2, f3, f4]
              exact again_of (u + 1) ⟨by omega, by omega, by omega⟩ (by omega) (by simp) (memLe_skip (memLe_refl _) (by simp [look, f1, f2, f3, f4]; omega))
            · simp [hc] at o3
              simp -implicitDefEqProofs [lb4_0, hle, f1, f2, f3, f4]
              refine pcK_of o3 (by simp) ?_
              simp -implicitDefEqProofs [hc, w2, f1, f2, f3, f4]
              exact again_of (u + 1) ⟨by omega, by omega, by omega⟩ (by omega) (by simp) (memLe_skip (memLe_refl _) (by simp [look, f1, f2, f3, f4]; omega))
          · simp -implicitDefEqProofs [lb4_0, hle, w1]
            first
              | exact again_of (i + 1, true) ⟨by omega, hlt, hb⟩ (by simp only; omega) (by simp) (memLe_skip (memLe_refl _) (by simp only [look]; rw [if_neg (by omega)]))
              | exact again_of (i + 1, false) ⟨by omega, hlt, hb⟩ (by simp only; omega) (by simp) (memLe_skip (memLe_refl _) (by simp only [look]; rw [if_neg (by omega)]))
      · rw [List.drop_eq_nil_of_le (by omega)] at hb
        simp only [List.all_nil, Bool.and_true] at hb
        subst hb
        simp -implicitDefEqProofs [lb4_1, hlt]
        refine pcK_of (k1) (by simp) ?_
        simp -implicitDefEqProofs
        simp -implicitDefEqProofs [kall]
    · simp -implicitDefEqProofs [h6]
  · have hd : decide (w = 0) = false := by simp [hw]
    rw [hd] at hc
    simp -implicitDefEqProofs [ac4]
    refine pcK_of (awake_c) (by simp) ?_
    simp -implicitDefEqProofs
    refine pcK_of (hc) (by simp) ?_
    simp -implicitDefEqProofs
end Go.Fx.Ythbainhddfajfaa

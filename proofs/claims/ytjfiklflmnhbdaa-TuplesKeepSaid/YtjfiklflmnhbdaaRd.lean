import Derived.Test.YtjfiklflmnhbdaaRc
import Derived.Test.YtjfiklflmnhbdaaRW
set_option linter.all false
namespace Go.Fx.Ytjfiklflmnhbdaa
open Go Go.Fx Go.Proofs Go.Fx.Rows
attribute [local simp] lb57_0
theorem Pack_c (cs : List Int) (h4 : ∀ c ∈ cs, Cell4 c) (hl : cs.length ≤ 4096) : Pure Try.prog 57 [.sl (em encI cs)] (row cs.length (packL cs)) := by
  refine pu57 (by simp) ?_
  simp -implicitDefEqProofs [ac57]
  refine A_loop_wk (α := Nat) (fun i _ => [(0, D.sl (em encI cs)), (2, D.opt 0 0), (3, D.opt 4 0), (4, I i)])
    (fun i _ => [(7, .arr ((i + 31) / 32) 1 (em encU (packL (cs.take i)))), (4, .box [I cs.length, .osl 7 ((i + 31) / 32) 0 ((i + 31) / 32)]), (0, .box [I 0, .pl (.slice none 0 0)])])
    (fun i _ => i ≤ cs.length) (fun i => cs.length - i) ⟨0, 8, by simp, by simpa [packL, upd] using Wk_ownM (C := cf57) (env := [(0, D.sl (em encI cs)), (2, D.opt 0 0), (3, D.opt 4 0), (4, I 0)]) (tl := []) (mem := [(4, .box [I cs.length, .pl (.slice none 0 0)]), (0, .box [I 0, .pl (.slice none 0 0)])]) (nx := 7) (id := 4) (off := 1) (k := 1) rfl rfl (.inl rfl)⟩ ?_
  rintro i nx hi
  have hpl : (packL (cs.take i)).length = (i + 31) / 32 := by rw [packL_len]; simp; omega
  simp -implicitDefEqProofs [cv_int Try.underlying3 Try.underlying95, cv_int Try.underlying3 Try.underlying68, hpl]
  refine ⟨fun hlt => ?_, fun hge => ?_⟩
  · have hc4 : Cell4 (cs[i]?.getD 0) := by
      rw [List.getElem?_eq_getElem hlt]; exact h4 _ (List.getElem_mem hlt)
    have hc1 := hc4.1
    have hc2 := hc4.2
    have e1 : IntKind.i64.wrap ((i : Int) / 32) = i / 32 := wr64 (by omega) (by omega)
    have e1' : ((i : Int) / 32).toNat = i / 32 := by omega
    have e2 : IntKind.u64.wrap (IntKind.i64.wrap (2 * (i : Int).tmod 32)) = ((2 * (i % 32) : Nat) : Int) := by
      rw [Int.tmod_eq_emod_of_nonneg (by omega), wr64 (by omega) (by omega), wru64 (by omega) (by omega)]; omega
    have e3 : IntKind.u64.wrap (cs[i]?.getD 0) = cs[i]?.getD 0 := wru64 hc1 (by omega)
    have e4 : IntKind.i64.wrap ((i : Int) + 1) = ((i + 1 : Nat) : Int) := by rw [wr64 (by omega) (by omega)]; omega
    have e5 : (i : Int).tmod 32 = ((i % 32 : Nat) : Int) := by rw [Int.tmod_eq_emod_of_nonneg (by omega)]; omega
    have e6 : cs.take (i + 1) = cs.take i ++ [cs[i]?.getD 0] := by rw [List.take_succ, List.getElem?_eq_getElem hlt]; rfl
    have e7 : (cs.take i).length = i := by simp; omega
    have e8 : bShl .u64 (cs[i]?.getD 0) ((2 * (i % 32) : Nat) : Int) = cs[i]?.getD 0 * 4 ^ (i % 32) := by
      have hp : (4 : Int) ^ (i % 32) ≤ 4 ^ 31 := by
        have : (4 : Nat) ^ (i % 32) ≤ 4 ^ 31 := Nat.pow_le_pow_right (by decide) (by omega)
        exact_mod_cast this
      have hb : cs[i]?.getD 0 * 4 ^ (i % 32) < 2 ^ 64 := by
        have h0 : (0 : Int) ≤ 4 ^ (i % 32) := Int.pow_nonneg (by decide)
        have : cs[i]?.getD 0 * 4 ^ (i % 32) ≤ 3 * 4 ^ 31 := Int.mul_le_mul hc2 hp h0 (by decide)
        have : (3 : Int) * 4 ^ 31 < 2 ^ 64 := by decide
        omega
      rw [shl_nonneg rfl (by omega) hc1 (by rw [Int.pow_mul]; exact hb), Int.pow_mul]
      rfl
    rw [e1, e2, e3, e4, e5, e1']
    refine ⟨fun h0 => ⟨by omega, ⟨by omega, by omega⟩, by omega, hlt, by omega, ⟨by omega, by omega⟩, by omega, ?_⟩, fun h0 => ⟨⟨by omega, by omega⟩, by omega, hlt, by omega, ⟨by omega, by omega⟩, by omega, ?_⟩⟩
    · refine again_of (i + 1) (by omega) (by omega) (envLe_refl _) ?_
      have hv : (i + 1 + 31) / 32 = (i + 31) / 32 + 1 := by omega
      have hk : i / 32 = (packL (cs.take i)).length := by rw [hpl]; omega
      rw [e8, hv, e6, packL_new (by rw [e7]; omega), List.take_of_length_le (by omega), hk]
      have h00 : i % 32 = 0 := by omega
      have hor : bOr .u64 0 (cs[i]?.getD 0 * 4 ^ 0) = cs[i]?.getD 0 := by
        have := bOr_add (a := 0) (c := cs[i]?.getD 0) (j := 0) (by decide) (by decide) hc1 (by omega)
        simpa using this
      simp only [h00, List.getElem?_append_right (Nat.le_refl _), Nat.sub_self, List.getElem?_cons_zero, Option.getD_some, hor, List.set_append_right _ _ (Nat.le_refl _), List.set_cons_zero]
      exact memLe_refl _
    · refine again_of (i + 1) (by omega) (by omega) (envLe_refl _) ?_
      have hv : (i + 1 + 31) / 32 = (i + 31) / 32 := by omega
      have hsub : ∀ x ∈ (cs.take i).drop (32 * (i / 32)), Cell4 x := fun x hx => h4 x (List.mem_of_mem_take (List.mem_of_mem_drop hx))
      have hwb := wd_bounds _ hsub
      have hdl : ((cs.take i).drop (32 * (i / 32))).length = i % 32 := by simp; omega
      rw [hdl] at hwb
      have hget : (packL (cs.take i))[i / 32]?.getD 0 = wd ((cs.take i).drop (32 * (i / 32))) := by
        rw [packL_get _ _ (by rw [e7]; omega), List.take_of_length_le (by rw [hdl]; omega)]; rfl
      have hor : bOr .u64 (wd ((cs.take i).drop (32 * (i / 32)))) (cs[i]?.getD 0 * 4 ^ (i % 32)) = wd ((cs.take i).drop (32 * (i / 32))) + cs[i]?.getD 0 * 4 ^ (i % 32) := by
        have h4p : (4 : Int) ^ (i % 32) = 2 ^ (2 * (i % 32)) := by rw [Int.pow_mul]; rfl
        rw [h4p] at hwb ⊢
        refine bOr_add hwb.1 hwb.2 hc1 ?_
        have : (2 : Int) ^ (2 * (i % 32)) ≤ 2 ^ 62 := by
          have : (2 : Nat) ^ (2 * (i % 32)) ≤ 2 ^ 62 := Nat.pow_le_pow_right (by decide) (by omega)
          exact_mod_cast this
        have hm : cs[i]?.getD 0 * 2 ^ (2 * (i % 32)) ≤ 3 * 2 ^ (2 * (i % 32)) := Int.mul_le_mul_of_nonneg_right hc2 (Int.pow_nonneg (by decide))
        omega
      rw [e8, hv, e6, packL_more (by rw [e7]; omega), e7, hget, hor]
      exact memLe_refl _
  · have e : i = cs.length := by omega
    subst e
    rw [List.take_length, List.take_of_length_le (by rw [packL_len]; exact Nat.le_refl _)]
end Go.Fx.Ytjfiklflmnhbdaa

/-
  PrimApplies.
-/
import Derived.Test.YtaiklblnfebdfaaLa
set_option linter.all false
namespace Go.Fx.Ytaiklblnfebdfaa
open Go Go.Fx Go.Proofs Go.Fx.Flt
theorem law_PrimApplies : ∀ xs, Args Try.prog Try.f3.params.toList xs → Pure Try.prog 3 xs (B true) := by
  intro xs h
  rw [Try.params3] at h
  simp only [Args] at h
  obtain ⟨x, r, rfl, hx, y, r2, rfl, hy, rfl⟩ := h
  obtain ⟨op, rfl, hop⟩ := arg_int hx
  obtain ⟨l, rfl, hlen, hl⟩ := arg_Vals hy
  have hL : ∀ v ∈ l.map Vi.v, v.lt := fun v hv => by
    obtain ⟨u, hu, rfl⟩ := List.mem_map.1 hv
    exact Vi.v_lt (hl u hu)
  have hap := Apply_c op (l.map Vi.v) hL (by simp; omega)
  have hrf := refApply_c op (l.map Vi.v) hL (by simp; omega)
  obtain ⟨v, e, ho⟩ := out_apply op _ hL
  have hw := ho.whole
  rw [ho.1] at hap hrf
  simp only [encV] at hap hrf hw
  refine pu3 (by simp) ?_
  simp -implicitDefEqProofs [ac3]
  refine pcK_of (awake10_c) (by simp) ?_
  simp -implicitDefEqProofs
  refine pcK_of (Takes_c op) (by simp) ?_
  simp -implicitDefEqProofs
  refine pcK_of (refTakes_c op) (by simp) ?_
  simp -implicitDefEqProofs
  refine A_loop_own (j := 9) (k := 4) rfl (.inl rfl) ?_
  refine A_loop_post ?_
  refine lp3_0 (α := Nat) (fun i _ => [(9, .osl 19 i 0 i), (10, I i)]) (fun i _ => [(19, .arr i 4 (em encV ((l.take i).map Vi.v)))]) (fun i m => 19 < m ∧ i ≤ l.length) (fun i => l.length - i) 0 ⟨by omega, by omega⟩ (by simp) (by simp) ?_
  rintro i m ⟨hm, hi⟩
  simp -implicitDefEqProofs [lb3_0]
  refine ⟨fun hlt => ⟨hlt, ?_⟩, fun hge => ?_⟩
  · have hg : l[i]?.getD default = l[i] := by rw [List.getElem?_eq_getElem hlt]; rfl
    have hV := V_c l[i] (hl _ (List.getElem_mem hlt))
    simp only [encV, encVi] at hV
    rw [hg]
    have w1 := wr64 (x := (i : Int) + 1) (by omega) (by omega)
    refine pcK_of (hV) (by simp) ?_
    simp -implicitDefEqProofs [w1]
    have hlt2 : i < (l.map Vi.v).length := by simpa using hlt
    have ht : (l.map Vi.v).take (i + 1) = (l.map Vi.v).take i ++ [l[i].v] := by
      rw [List.take_succ_eq_append_getElem hlt2, List.getElem_map]
    have ha : em encV (List.take i (l.map Vi.v)) ++ [[I l[i].v.ty, CX l[i].v.num.re l[i].v.num.im, B l[i].v.bool, .sl (em encC l[i].v.list)]] = em encV (List.take i (l.map Vi.v) ++ [l[i].v]) := app_V _ l[i].v
    refine ⟨⟨by omega, by omega⟩, ?_⟩
    refine again_of (i + 1) ⟨by omega, by omega⟩ (by omega) (by simp) ?_
    rw [List.take_take, Nat.min_self, ha, ht]
    exact memLe_refl _
  · have hie : i = l.length := by omega
    subst hie
    refine PostW_frz (j := 9) (d' := .sl (em encV (l.map Vi.v))) rfl (by simp [frz, look, List.take_of_length_le]) ?_
    simp -implicitDefEqProofs
    refine pcK_of (hap) (by simp) ?_
    simp -implicitDefEqProofs
    refine pcK_of (hrf) (by simp) ?_
    simp -implicitDefEqProofs
    refine pcK_of (hw) (by simp) ?_
    simp -implicitDefEqProofs
end Go.Fx.Ytaiklblnfebdfaa

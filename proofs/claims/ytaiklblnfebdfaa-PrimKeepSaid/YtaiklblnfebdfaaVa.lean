/-
  Values: the contracts of layer 9's Check and of the reference's Valid.
-/
import Derived.Test.YtaiklblnfebdfaaCodeValue
import Derived.Test.YtaiklblnfebdfaaV1
import Derived.Test.YtaiklblnfebdfaaK2
set_option linter.all false
namespace Go.Fx.Ytaiklblnfebdfaa
open Go Go.Fx Go.Proofs Go.Fx.Flt
/-- Is it 0 (or -0)? -/
def Cx.nought (z : Cx) : Bool := eqF z.re 0 && eqF z.im 0
structure Vl where
  ty : Int
  num : Cx
  bool : Bool
  list : List Cx
deriving Inhabited, DecidableEq
def encV (v : Vl) : List D := [I v.ty, CX v.num.re v.num.im, B v.bool, .sl (em encC v.list)]
def Vl.lt (v : Vl) : Prop := v.num.lt ∧ (∀ z ∈ v.list, z.lt) ∧ v.list.length < 2 ^ 46

def Vl.ok (v : Vl) : Bool :=
  if v.ty = 1 then v.num.ok && (!v.bool && v.list.isEmpty) else if v.ty = 2 then v.num.ok && (v.num.nought && v.list.isEmpty)
  else if v.ty = 3 then v.num.ok && (v.num.nought && (!v.bool && v.list.all Cx.ok)) else false

theorem ValidC (z : Cx) (h : z.lt) : Pure Try.prog 21 [CX z.re z.im] (B z.ok) := Valid_c h.1 h.2
theorem OfC (z : Cx) (h : z.lt) : ∃ n m, Pure Try.prog 32 [CX z.re z.im] (.tup [.agg [I n, I m], B z.ok]) := by
  cases ho : z.ok
  · exact ⟨0, 0, Of_no ho h.1 h.2⟩
  · simp only [Cx.ok, Bool.and_eq_true] at ho
    exact ⟨_, _, Of_yes ho.1 ho.2 h.1 h.2⟩

theorem all_take {l : List Cx} {i : Nat} (h : i < l.length) : (l.take (i + 1)).all Cx.ok = ((l.take i).all Cx.ok && (l[i]?.getD default).ok) := by
  rw [List.take_succ_eq_append_getElem h, List.all_append, List.getElem?_eq_getElem h]
  simp

/-- The first i of them are plain (and p). -/
def okTo (p : Bool) (l : List Cx) (i : Nat) : Bool := p && (l.take i).all Cx.ok
theorem okTo_zero {p : Bool} {l : List Cx} : okTo p l 0 = p := by simp [okTo]
theorem okTo_succ {p : Bool} {l : List Cx} {i : Nat} (h : i < l.length) : okTo p l (i + 1) = (okTo p l i && (l[i]?.getD default).ok) := by
  unfold okTo
  rw [all_take h, ← Bool.and_assoc]
theorem okTo_end {p : Bool} {l : List Cx} {i : Nat} (h : l.length ≤ i) : okTo p l i = (p && l.all Cx.ok) := by rw [okTo, List.take_of_length_le h]
theorem ValueCheck_c (v : Vl) (hv : v.lt) : Pure Try.prog 28 [.agg (encV v)] (I (if v.ok then 0 else 3)) := by
  obtain ⟨hn, hl, hlen⟩ := hv
  refine pu28 (by simp) ?_
  have hemp : v.list.isEmpty = decide (v.list = []) := by cases v.list <;> simp
  have hno : v.num.nought = (eqF v.num.re 0 && eqF v.num.im 0) := rfl
  obtain ⟨r, hr⟩ : ∃ r, r = v.ok := ⟨_, rfl⟩
  rw [← hr]
  unfold Vl.ok at hr
  by_cases h1 : v.ty = 1
  · rw [if_pos h1, hemp] at hr
    simp -implicitDefEqProofs [ac28, encV, h1]
    refine pcK_of (ValidC v.num hn) (by simp) ?_
    simp -implicitDefEqProofs
    cases ho : v.num.ok <;> cases hb : v.bool <;> by_cases h0 : v.list = [] <;> rw [ho, hb] at hr <;> simp -implicitDefEqProofs [h0] at hr <;> simp -implicitDefEqProofs [h0, hr]
  · by_cases h2 : v.ty = 2
    · rw [if_neg h1, if_pos h2, hemp, hno] at hr
      simp -implicitDefEqProofs [ac28, encV, h2]
      refine pcK_of (ValidC v.num hn) (by simp) ?_
      simp -implicitDefEqProofs
      cases ho : v.num.ok <;> cases hz1 : eqF v.num.re 0 <;> cases hz2 : eqF v.num.im 0 <;> by_cases h0 : v.list = [] <;> rw [ho, hz1, hz2] at hr <;> simp -implicitDefEqProofs [h0] at hr <;> simp -implicitDefEqProofs [h0, hr]
    · by_cases h3 : v.ty = 3
      · rw [if_neg h1, if_neg h2, if_pos h3] at hr
        simp -implicitDefEqProofs [ac28, encV, h3]
        refine pcK_of (ValidC v.num hn) (by simp) ?_
        simp -implicitDefEqProofs
        obtain ⟨p0, hp⟩ : ∃ p0, p0 = (v.num.ok && (v.num.nought && !v.bool)) := ⟨_, rfl⟩
        have hfin : r = (p0 && v.list.all Cx.ok) := by
          rw [hp, hr]; simp only [Bool.and_assoc]
        clear hr
        rw [hno] at hp
        cases ho : v.num.ok <;> cases hz1 : eqF v.num.re 0 <;> cases hz2 : eqF v.num.im 0 <;> cases hb : v.bool <;> rw [ho, hz1, hz2, hb] at hp <;> simp only [Bool.and_true, Bool.true_and, Bool.and_false, Bool.false_and, Bool.not_true, Bool.not_false] at hp <;> simp -implicitDefEqProofs
        all_goals
          refine lp28_0 (α := Nat) (fun i _ => [(3, B (okTo p0 v.list i)), (58, I i)]) (fun _ _ => []) (fun i _ => i ≤ v.list.length) (fun i => v.list.length - i) 0 (by simp) (by simp [hp, okTo_zero]) (by simp) ?_
          rintro i nx hi
          simp -implicitDefEqProofs [lb28_0]
          refine ⟨fun hlt => ⟨hlt, ?_⟩, fun hge => ?_⟩
          · have hg : v.list[i]?.getD default = v.list[i] := by rw [List.getElem?_eq_getElem hlt]; rfl
            have hz : v.list[i].lt := hl _ (List.getElem_mem hlt)
            have ht := okTo_succ (p := p0) hlt
            have hw := wr64 (x := (i : Int) + 1) (by omega) (by omega)
            have hcall := ValidC _ hz
            rw [hg] at ht
            cases hq : okTo p0 v.list i
            · simp -implicitDefEqProofs [hg]
              rw [hw]
              refine again_of (i + 1) (by omega) (by omega) ?_ (by simp)
              rw [ht, hq]
              simp
            · simp -implicitDefEqProofs [hg]
              refine pcK_of (hcall) (by simp) ?_
              simp -implicitDefEqProofs
              rw [hw]
              refine again_of (i + 1) (by omega) (by omega) ?_ (by simp)
              rw [ht, hq]
              simp
          · rw [okTo_end hge, ← hfin]
            cases r <;> simp -implicitDefEqProofs
      · rw [if_neg h1, if_neg h2, if_neg h3] at hr
        simp -implicitDefEqProofs [ac28, encV, h1, h2, h3, hr]

theorem isEmpty_dec {v : Vl} : v.list.isEmpty = decide (v.list = []) := by cases v.list <;> simp
theorem RefValid_c (v : Vl) (hv : v.lt) : Pure Try.prog 31 [.agg (encV v)] (B v.ok) := by
  obtain ⟨hn, hl, hlen⟩ := hv
  refine pu31 (by simp) ?_
  have hno : v.num.nought = (eqF v.num.re 0 && eqF v.num.im 0) := rfl
  obtain ⟨r, hr⟩ : ∃ r, r = v.ok := ⟨_, rfl⟩
  rw [← hr]
  unfold Vl.ok at hr
  rw [isEmpty_dec, hno] at hr
  simp -implicitDefEqProofs [ac31, encV]
  obtain ⟨n, m, hof⟩ := OfC v.num hn
  refine pcK_of (hof) (by simp) ?_
  simp -implicitDefEqProofs
  refine lp31_0 (α := Nat) (fun i _ => [(4, B (okTo v.num.ok v.list i)), (5, I i)]) (fun _ _ => []) (fun i _ => i ≤ v.list.length) (fun i => v.list.length - i) 0 (by simp) (by simp [okTo_zero]) (by simp) ?_
  rintro i nx hi
  simp -implicitDefEqProofs [lb31_0]
  refine ⟨fun hlt => ⟨hlt, ?_⟩, fun hge => ?_⟩
  · have hg : v.list[i]?.getD default = v.list[i] := by rw [List.getElem?_eq_getElem hlt]; rfl
    have hz : v.list[i].lt := hl _ (List.getElem_mem hlt)
    have ht := okTo_succ (p := v.num.ok) hlt
    have hw := wr64 (x := (i : Int) + 1) (by omega) (by omega)
    obtain ⟨n2, m2, hcall⟩ := OfC _ hz
    rw [hg] at ht
    simp -implicitDefEqProofs [hg]
    refine pcK_of (hcall) (by simp) ?_
    simp -implicitDefEqProofs
    cases hq : okTo v.num.ok v.list i
    · simp -implicitDefEqProofs
      rw [hw]
      refine again_of (i + 1) (by omega) (by omega) ?_ (by simp)
      rw [ht, hq]
      simp
    · simp -implicitDefEqProofs
      rw [hw]
      refine again_of (i + 1) (by omega) (by omega) ?_ (by simp)
      rw [ht, hq]
      simp
  · rw [okTo_end hge]
    obtain ⟨a, ha⟩ : ∃ a, a = v.list.all Cx.ok := ⟨_, rfl⟩
    have hnil : v.list = [] → a = true := fun h => by rw [ha, h]; rfl
    rw [← ha] at hr ⊢
    clear ha
    by_cases h1 : v.ty = 1
    · rw [if_pos h1] at hr
      cases ho : v.num.ok <;> cases a <;> cases hb : v.bool <;> by_cases h0 : v.list = [] <;> rw [ho, hb] at hr <;> simp -implicitDefEqProofs [h0] at hr hnil <;> simp -implicitDefEqProofs [h0, hr, h1]
    · by_cases h2 : v.ty = 2
      · rw [if_neg h1, if_pos h2] at hr
        cases ho : v.num.ok <;> cases a <;> cases hz1 : eqF v.num.re 0 <;> cases hz2 : eqF v.num.im 0 <;> by_cases h0 : v.list = [] <;> rw [ho, hz1, hz2] at hr <;> simp -implicitDefEqProofs [h0] at hr hnil <;> simp -implicitDefEqProofs [h0, hr, h2, hz1, hz2]
      · by_cases h3 : v.ty = 3
        · rw [if_neg h1, if_neg h2, if_pos h3] at hr
          cases ho : v.num.ok <;> cases a <;> cases hz1 : eqF v.num.re 0 <;> cases hz2 : eqF v.num.im 0 <;> cases hb : v.bool <;> rw [ho, hz1, hz2, hb] at hr <;> simp -implicitDefEqProofs at hr <;> simp -implicitDefEqProofs [hr, h3, hz1, hz2]
        · rw [if_neg h1, if_neg h2, if_neg h3] at hr
          simp -implicitDefEqProofs [h1, h2, h3, hr]
end Go.Fx.Ytaiklblnfebdfaa

/-
  prim.Apply.
-/
import Derived.Test.YtaiklblnfebdfaaPr
set_option linter.all false
namespace Go.Fx.Ytaiklblnfebdfaa
open Go Go.Fx Go.Proofs Go.Fx.Flt
theorem ia_V {l : List Vl} {mem : Mem} {j : IntKind} {i : Int} : iaD mem 4 (.sl (em encV l)) (.pl (.int j i)) = if 0 ≤ i ∧ i < l.length then some (.pt [I (l[i.toNat]?.getD default).ty, CX (l[i.toNat]?.getD default).num.re (l[i.toNat]?.getD default).num.im, B (l[i.toNat]?.getD default).bool, .sl (em encC (l[i.toNat]?.getD default).list)]) else none := em_ia fun _ => rfl
theorem imm_V (l : List Vl) : D.immss (em encV l) = true := em_imm fun v => by unfold encV; simp
attribute [simp] ia_V imm_V
def nx (v : Vl) : Int := nv v.num.re
def ny (v : Vl) : Int := nv v.num.im
def one (t : Int) (v : Vl) : Bool := v.ok && decide (v.ty = t)
def fnD (op : Int) (a b : Vl) : D :=
  if 8 ≤ op ∧ op ≤ 13 then opD op (nx a) (ny a) (nx b) (ny b) else if op = 14 then rs 2 0 0 (!a.bool) 0 else
  if op = 15 then rs 1 (Fi (nx a)) 0 false 0 else if op = 16 then rs 1 (Fi (ny a)) 0 false 0 else rs 1 (Fi (nx a)) (Fi (-(ny a))) false 0
def fit (op : Int) (l : List Vl) : Prop := tkN op ≠ 0 ∧ (l.length : Int) = tkN op ∧ ∀ v ∈ l, one (tkT op) v = true
open Classical in
noncomputable def applyD (op : Int) (l : List Vl) : D := if fit op l then fnD op (l[0]?.getD default) (l[1]?.getD default) else rs 0 0 0 false 3
theorem num_of {v : Vl} (hv : v.lt) (h : one 1 v = true) : v.num.re = Fi (nx v) ∧ v.num.im = Fi (ny v) ∧ inb (nx v) = true ∧ inb (ny v) = true := by
  simp only [one, Bool.and_eq_true, decide_eq_true_eq] at h
  obtain ⟨h1, h2⟩ := h
  unfold Vl.ok at h1
  rw [if_pos h2] at h1
  simp only [Bool.and_eq_true, Cx.ok] at h1
  obtain ⟨a1, a2⟩ := plain_Pl hv.1.1 h1.1.1
  obtain ⟨b1, b2⟩ := plain_Pl hv.1.2 h1.1.2
  exact ⟨a1, b1, inb_abs.2 a2, inb_abs.2 b2⟩
theorem nmR_rs (n m : Int) : ∃ t a b o e, nmR n m = rs t a b o e := by
  unfold nmR
  split
  · exact ⟨_, _, _, _, _, rfl⟩
  · exact ⟨_, _, _, _, _, rfl⟩
theorem opD_rs (op x y u v : Int) : ∃ t a b o e, opD op x y u v = rs t a b o e := by
  unfold opD
  repeat' split
  all_goals first | exact nmR_rs _ _ | exact ⟨_, _, _, _, _, rfl⟩
theorem Apply_c (op : Int) (l : List Vl) (hl : ∀ v ∈ l, v.lt) (hlen : l.length < 2 ^ 46) : Pure Try.prog 12 [I op, .sl (em encV l)] (applyD op l) := by
  refine pu12 (by simp) ?_
  simp -implicitDefEqProofs [ac12]
  refine pcK_of (Takes_c op) (by simp) ?_
  simp -implicitDefEqProofs
  by_cases h0 : tkN op = 0
  · have hf : ¬ fit op l := fun h => h.1 h0
    unfold applyD
    rw [if_neg hf]
    simp -implicitDefEqProofs [h0]
  · by_cases h1 : (l.length : Int) = tkN op
    · have hne : ¬ l = [] := by rintro rfl; simp at h1; omega
      have hpos : 0 < l.length := List.length_pos_iff.2 hne
      simp -implicitDefEqProofs [← h1, hne]
      refine lp12_0 (α := Nat) (fun i _ => [(5, I 0), (27, I i)]) (fun _ _ => [(0, .box [I 0, CX 0 0, B false, .pl (.slice none 0 0)])]) (fun i n => 0 < n ∧ i ≤ l.length ∧ ∀ v ∈ l.take i, one (tkT op) v = true) (fun i => l.length - i) 0 ⟨by omega, by omega, fun v hv => by simp at hv⟩ (by simp) (by simp) ?_
      rintro i n ⟨hn, hi, hall⟩
      simp -implicitDefEqProofs [lb12_0]
      refine ⟨fun hlt => ⟨hlt, ?_⟩, fun hge => ?_⟩
      · have hg : l[i]?.getD default = l[i] := by rw [List.getElem?_eq_getElem hlt]; rfl
        have hmem : l[i] ∈ l := List.getElem_mem hlt
        have hck := ValueCheck_c l[i] (hl _ hmem)
        unfold encV at hck
        have htk : ∀ v, v ∈ l.take (i + 1) → v ∈ l.take i ∨ v = l[i] := fun v hv => by
          rw [List.take_succ_eq_append_getElem hlt, List.mem_append, List.mem_singleton] at hv
          exact hv
        rw [hg]
        by_cases h2 : l[i].ty = tkT op
        · cases h3 : l[i].ok
          · have hf : ¬ fit op l := fun h => by
              have := h.2.2 _ hmem
              simp [one, h3] at this
            rw [h2, h3] at hck
            unfold applyD
            rw [if_neg hf]
            simp -implicitDefEqProofs [h2]
            refine pcK_of (hck) (by simp) ?_
            simp -implicitDefEqProofs
          · rw [h2, h3] at hck
            have hw := wr64 (x := (i : Int) + 1) (by omega) (by omega)
            simp -implicitDefEqProofs [h2]
            refine pcK_of (hck) (by simp) ?_
            simp -implicitDefEqProofs [hw]
            refine again_of (i + 1) ⟨by omega, by omega, fun v hv => ?_⟩ (by omega) (by simp) (memLe_skip (memLe_refl _) (by simp [look]))
            rcases htk v hv with h4 | rfl
            · exact hall v h4
            · simp [one, h2, h3]
        · have hf : ¬ fit op l := fun h => by
            have := h.2.2 _ hmem
            simp [one, h2] at this
          unfold applyD
          rw [if_neg hf]
          simp -implicitDefEqProofs [h2]
      · rw [List.take_of_length_le hge] at hall
        have hf : fit op l := ⟨h0, h1, hall⟩
        unfold applyD
        rw [if_pos hf]
        refine ⟨hpos, ?_⟩
        have ha : l[0]?.getD default ∈ l := by
          rw [List.getElem?_eq_getElem hpos]; exact List.getElem_mem hpos
        have a1 := hall _ ha
        have aL := hl _ ha
        by_cases c1 : 8 ≤ op ∧ op ≤ 13
        · have hT : tkT op = 1 := by unfold tkT; rw [if_pos c1]
          have hN : tkN op = 2 := by unfold tkN; rw [if_pos c1]
          have h1l : 1 < l.length := by omega
          have hb : l[1]?.getD default ∈ l := by
            rw [List.getElem?_eq_getElem h1l]; exact List.getElem_mem h1l
          have b1 := hall _ hb
          have bL := hl _ hb
          generalize l[0]?.getD default = a at *
          generalize l[1]?.getD default = b at *
          rw [hT] at a1 b1
          obtain ⟨e1, e2, i1, i2⟩ := num_of aL a1
          obtain ⟨e3, e4, i3, i4⟩ := num_of bL b1
          have hfn : fnD op a b = opD op (nx a) (ny a) (nx b) (ny b) := by unfold fnD; rw [if_pos c1]
          rw [hfn, e1, e2, e3, e4]
          have n1 : ¬ op = 14 := by omega
          have n2 : ¬ op = 15 := by omega
          have n3 : ¬ op = 16 := by omega
          have n4 : ¬ op = 17 := by omega
          have hc := two_c i1 i2 i3 i4 c1
          simp -implicitDefEqProofs [n1, n2, n3, n4, h1l]
          refine ⟨by omega, ?_⟩
          obtain ⟨rt, ra, rb, ro, re, hrs⟩ := opD_rs op (nx a) (ny a) (nx b) (ny b)
          rw [hrs] at hc ⊢
          refine pcK_of (hc) (by simp) ?_
          simp -implicitDefEqProofs
        · have : op = 14 ∨ op = 15 ∨ op = 16 ∨ op = 17 := by
            unfold tkN at h0
            rw [if_neg c1] at h0
            by_cases c2 : op = 14
            · exact .inl c2
            · rw [if_neg c2] at h0
              by_cases c3 : 15 ≤ op ∧ op ≤ 17
              · omega
              · rw [if_neg c3] at h0; exact absurd rfl h0
          generalize l[0]?.getD default = a at *
          rcases this with rfl | rfl | rfl | rfl
          · simp -implicitDefEqProofs [fnD, hpos]
          · have hT : tkT 15 = 1 := rfl
            rw [hT] at a1
            obtain ⟨e1, e2, i1, i2⟩ := num_of aL a1
            simp -implicitDefEqProofs [fnD]
            refine pcK_of (number_ok _ _) (by simp) ?_
            simp -implicitDefEqProofs [e1]
          · have hT : tkT 16 = 1 := rfl
            rw [hT] at a1
            obtain ⟨e1, e2, i1, i2⟩ := num_of aL a1
            simp -implicitDefEqProofs [fnD]
            refine pcK_of (number_ok _ _) (by simp) ?_
            simp -implicitDefEqProofs [e2]
          · have hT : tkT 17 = 1 := rfl
            rw [hT] at a1
            obtain ⟨e1, e2, i1, i2⟩ := num_of aL a1
            rw [e1, e2]
            simp -implicitDefEqProofs [fnD]
            refine pcK_of (Conj_c i1 i2) (by simp) ?_
            simp -implicitDefEqProofs
            refine pcK_of (number_ok _ _) (by simp) ?_
            simp -implicitDefEqProofs
    · have hf : ¬ fit op l := fun h => h1 h.2.1
      unfold applyD
      rw [if_neg hf]
      simp -implicitDefEqProofs [h0, h1]
end Go.Fx.Ytaiklblnfebdfaa

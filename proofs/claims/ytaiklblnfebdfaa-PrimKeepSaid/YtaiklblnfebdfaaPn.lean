/-
  prim.Apply once more: its answer's list is nil.
-/
import Derived.Test.YtaiklblnfebdfaaPs
import Derived.Test.YtaiklblnfebdfaaCodeL10
import Derived.Test.YtaiklblnfebdfaaXK
set_option linter.all false
namespace Go.Fx.Ytaiklblnfebdfaa.Nl
open Go Go.Fx Go.Proofs Go.Fx.Flt Go.Fx.Ytaiklblnfebdfaa
/-- A value without a list, and an error. -/
abbrev rs (t : Int) (a b : Nat) (o : Bool) (e : Int) : D := .tup [.agg [I t, CX a b, B o, .pl (.slice none 0 0)], I e]
theorem number_ok (a b : Nat) : Pure Try.prog 29 [CX a b, I 0] (rs 1 a b false 0) := by
  refine Pure_exact (by simp) ?imm (ct29 (by simp) fun _ => ?_)
  case imm => first | exact opD_imm _ _ _ _ _ | exact applyD_imm _ _ | (simp; done)
  simp -implicitDefEqProofs [ac29]
theorem number_no {a b : Nat} {e : Int} (h : e ≠ 0) : Pure Try.prog 29 [CX a b, I e] (rs 0 0 0 false e) := by
  refine Pure_exact (by simp) ?imm (ct29 (by simp) fun _ => ?_)
  case imm => first | exact opD_imm _ _ _ _ _ | exact applyD_imm _ _ | (simp; done)
  simp -implicitDefEqProofs [ac29, h]
/-- A number's answer. -/
def nmR (n m : Int) : D := if (inb n && inb m) = true then rs 1 (Fi n) (Fi m) false 0 else rs 0 0 0 false 50
def opD (op x y u v : Int) : D :=
  if op = 8 then nmR (x + u) (y + v) else if op = 9 then nmR (x - u) (y - v) else if op = 10 then nmR (x * u - y * v) (x * v + y * u) else
  if op = 11 then (if quoBad x y u v then rs 0 0 0 false 51 else nmR ((qX x y u v).tdiv (qN u v)) ((qY x y u v).tdiv (qN u v))) else
  if op = 12 then rs 2 0 0 (decide (x = u ∧ y = v)) 0 else rs 2 0 0 (decide (x < u ∨ x = u ∧ y < v)) 0
theorem nmR_rs (n m : Int) : ∃ t a b o e, nmR n m = rs t a b o e := by
  unfold nmR
  split
  · exact ⟨_, _, _, _, _, rfl⟩
  · exact ⟨_, _, _, _, _, rfl⟩
theorem opD_rs (op x y u v : Int) : ∃ t a b o e, opD op x y u v = rs t a b o e := by
  unfold opD
  repeat' split
  all_goals first | exact nmR_rs _ _ | exact ⟨_, _, _, _, _, rfl⟩
theorem opD_imm (op x y u v : Int) : D.imm (opD op x y u v) = true := by
  obtain ⟨t, a, b, o, e, h⟩ := opD_rs op x y u v
  rw [h]; simp
theorem numD_no {n m : Int} (hk : (inb n && inb m) = false) : numD n m = .tup [CX 0 0, I 50] ∧ nmR n m = rs 0 0 0 false 50 := by
  unfold numD nmR; rw [hk]; exact ⟨rfl, rfl⟩
theorem numD_yes {n m : Int} (hk : (inb n && inb m) = true) : numD n m = .tup [G n m, I 0] ∧ nmR n m = rs 1 (Fi n) (Fi m) false 0 := by
  unfold numD nmR; rw [hk]; exact ⟨rfl, rfl⟩
section
variable {x y u v : Int} (hx : inb x = true) (hy : inb y = true) (hu : inb u = true) (hv : inb v = true)
include hx hy hu hv
theorem eqG : (eqF (Fi x) (Fi u) && eqF (Fi y) (Fi v)) = decide (x = u ∧ y = v) := by
  rw [eqF_W (isW_Fi (inb_lt hx)) (isW_Fi (inb_lt hu)), eqF_W (isW_Fi (inb_lt hy)) (isW_Fi (inb_lt hv))]
  by_cases h1 : x = u <;> by_cases h2 : y = v <;> simp [h1, h2]
theorem two_c {op : Int} (h : 8 ≤ op ∧ op ≤ 13) : Pure Try.prog 30 [I op, G x y, G u v] (opD op x y u v) := by
  have : op = 8 ∨ op = 9 ∨ op = 10 ∨ op = 11 ∨ op = 12 ∨ op = 13 := by omega
  refine Pure_exact (by simp) ?imm (ct30 (by simp) fun _ => ?_)
  case imm => first | exact opD_imm _ _ _ _ _ | exact applyD_imm _ _ | (simp; done)
  have num : ∀ (n m : Int), (∃ e, numD n m = .tup [CX 0 0, I 50] ∧ nmR n m = rs 0 0 0 false 50 ∧ e = 0) ∨ (∃ e, numD n m = .tup [G n m, I 0] ∧ nmR n m = rs 1 (Fi n) (Fi m) false 0 ∧ e = 0) := fun n m => by
    cases hk : inb n && inb m
    · exact .inl ⟨0, (numD_no hk).1, (numD_no hk).2, rfl⟩
    · exact .inr ⟨0, (numD_yes hk).1, (numD_yes hk).2, rfl⟩
  rcases this with rfl | rfl | rfl | rfl | rfl | rfl
  · have hc := Add_c hx hy hu hv
    show A _ _ (Kont _ (RetC _ (fun d _ _ => d = nmR (x + u) (y + v))) _) _ _ _
    rcases num (x + u) (y + v) with ⟨_, e1, e2, _⟩ | ⟨_, e1, e2, _⟩
    · rw [e1] at hc
      rw [e2]
      simp -implicitDefEqProofs [ac30]
      refine pcK_of (hc) (by simp) ?_
      simp -implicitDefEqProofs
      refine pcK_of (number_no (by decide)) (by simp) ?_
      simp -implicitDefEqProofs
    · rw [e1] at hc
      rw [e2]
      simp -implicitDefEqProofs [ac30]
      refine pcK_of (hc) (by simp) ?_
      simp -implicitDefEqProofs
      refine pcK_of (number_ok _ _) (by simp) ?_
      simp -implicitDefEqProofs
  · have hc := Sub_c hx hy hu hv
    show A _ _ (Kont _ (RetC _ (fun d _ _ => d = nmR (x - u) (y - v))) _) _ _ _
    rcases num (x - u) (y - v) with ⟨_, e1, e2, _⟩ | ⟨_, e1, e2, _⟩
    · rw [e1] at hc
      rw [e2]
      simp -implicitDefEqProofs [ac30]
      refine pcK_of (hc) (by simp) ?_
      simp -implicitDefEqProofs
      refine pcK_of (number_no (by decide)) (by simp) ?_
      simp -implicitDefEqProofs
    · rw [e1] at hc
      rw [e2]
      simp -implicitDefEqProofs [ac30]
      refine pcK_of (hc) (by simp) ?_
      simp -implicitDefEqProofs
      refine pcK_of (number_ok _ _) (by simp) ?_
      simp -implicitDefEqProofs
  · have hc := Mul_c hx hy hu hv
    show A _ _ (Kont _ (RetC _ (fun d _ _ => d = nmR (x * u - y * v) (x * v + y * u))) _) _ _ _
    rcases num (x * u - y * v) (x * v + y * u) with ⟨_, e1, e2, _⟩ | ⟨_, e1, e2, _⟩
    · rw [e1] at hc
      rw [e2]
      simp -implicitDefEqProofs [ac30]
      refine pcK_of (hc) (by simp) ?_
      simp -implicitDefEqProofs
      refine pcK_of (number_no (by decide)) (by simp) ?_
      simp -implicitDefEqProofs
    · rw [e1] at hc
      rw [e2]
      simp -implicitDefEqProofs [ac30]
      refine pcK_of (hc) (by simp) ?_
      simp -implicitDefEqProofs
      refine pcK_of (number_ok _ _) (by simp) ?_
      simp -implicitDefEqProofs
  · have hc := Quo_c hx hy hu hv
    unfold quoD at hc
    show A _ _ (Kont _ (RetC _ (fun d _ _ => d = if quoBad x y u v then rs 0 0 0 false 51 else nmR ((qX x y u v).tdiv (qN u v)) ((qY x y u v).tdiv (qN u v)))) _) _ _ _
    by_cases hq : quoBad x y u v
    · rw [if_pos hq] at hc ⊢
      simp -implicitDefEqProofs [ac30]
      refine pcK_of (hc) (by simp) ?_
      simp -implicitDefEqProofs
      refine pcK_of (number_no (by decide)) (by simp) ?_
      simp -implicitDefEqProofs
    · rw [if_neg hq] at hc ⊢
      rcases num ((qX x y u v).tdiv (qN u v)) ((qY x y u v).tdiv (qN u v)) with ⟨_, e1, e2, _⟩ | ⟨_, e1, e2, _⟩
      · rw [e1] at hc
        rw [e2]
        simp -implicitDefEqProofs [ac30]
        refine pcK_of (hc) (by simp) ?_
        simp -implicitDefEqProofs
        refine pcK_of (number_no (by decide)) (by simp) ?_
        simp -implicitDefEqProofs
      · rw [e1] at hc
        rw [e2]
        simp -implicitDefEqProofs [ac30]
        refine pcK_of (hc) (by simp) ?_
        simp -implicitDefEqProofs
        refine pcK_of (number_ok _ _) (by simp) ?_
        simp -implicitDefEqProofs
  · show A _ _ (Kont _ (RetC _ (fun d _ _ => d = rs 2 0 0 (decide (x = u ∧ y = v)) 0)) _) _ _ _
    rw [← eqG hx hy hu hv]
    simp -implicitDefEqProofs [ac30]
  · have hc := Less_c hx hy hu hv
    show A _ _ (Kont _ (RetC _ (fun d _ _ => d = rs 2 0 0 (decide (x < u ∨ x = u ∧ y < v)) 0)) _) _ _ _
    generalize decide (x < u ∨ x = u ∧ y < v) = b at hc ⊢
    simp -implicitDefEqProofs [ac30]
    refine pcK_of (hc) (by simp) ?_
    simp -implicitDefEqProofs
end
def fnD (op : Int) (a b : Vl) : D :=
  if 8 ≤ op ∧ op ≤ 13 then opD op (nx a) (ny a) (nx b) (ny b) else if op = 14 then rs 2 0 0 (!a.bool) 0 else
  if op = 15 then rs 1 (Fi (nx a)) 0 false 0 else if op = 16 then rs 1 (Fi (ny a)) 0 false 0 else rs 1 (Fi (nx a)) (Fi (-(ny a))) false 0
open Classical in
noncomputable def applyD (op : Int) (l : List Vl) : D := if fit op l then fnD op (l[0]?.getD default) (l[1]?.getD default) else rs 0 0 0 false 3
theorem applyD_imm (op : Int) (l : List Vl) : D.imm (applyD op l) = true := by
  unfold applyD
  split
  · unfold fnD
    repeat' split
    all_goals first | exact opD_imm _ _ _ _ _ | (simp; done)
  · simp
theorem Apply_c (op : Int) (l : List Vl) (hl : ∀ v ∈ l, v.lt) (hlen : l.length < 2 ^ 46) : Pure Try.prog 12 [I op, .sl (em encV l)] (applyD op l) := by
  refine Pure_exact (by simp) ?imm (ct12 (by simp) fun _ => ?_)
  case imm => first | exact opD_imm _ _ _ _ _ | exact applyD_imm _ _ | (simp; done)
  simp -implicitDefEqProofs [ac12]
  refine pcK_of (Takes_c op) (by simp) ?_
  simp -implicitDefEqProofs
  by_cases h0 : tkN op = 0
  · have hf : ¬ fit op l := fun h => h.1 h0
    unfold applyD
    rw [if_neg hf]
    simp -implicitDefEqProofs [h0]
  · by_cases h1 : (l.length : Int) = tkN op
    · have hne : ¬ l = [] := by rintro rfl; simp at h1; omega
      have hpos : 0 < l.length := List.length_pos_iff.2 hne
      simp -implicitDefEqProofs [← h1, hne]
      refine lp12_0 (α := Nat) (fun i _ => [(5, I 0), (27, I i)]) (fun _ _ => [(0, .box [I 0, CX 0 0, B false, .pl (.slice none 0 0)])]) (fun i n => 0 < n ∧ i ≤ l.length ∧ ∀ v ∈ l.take i, one (tkT op) v = true) (fun i => l.length - i) 0 ⟨by omega, by omega, fun v hv => by simp at hv⟩ (by simp) (by simp) ?_
      rintro i n ⟨hn, hi, hall⟩
      simp -implicitDefEqProofs [lb12_0]
      refine ⟨fun hlt => ⟨hlt, ?_⟩, fun hge => ?_⟩
      · have hg : l[i]?.getD default = l[i] := by rw [List.getElem?_eq_getElem hlt]; rfl
        have hmem : l[i] ∈ l := List.getElem_mem hlt
        have hck := ValueCheck_c l[i] (hl _ hmem)
        unfold encV at hck
        have htk : ∀ v, v ∈ l.take (i + 1) → v ∈ l.take i ∨ v = l[i] := fun v hv => by
          rw [List.take_succ_eq_append_getElem hlt, List.mem_append, List.mem_singleton] at hv
          exact hv
        rw [hg]
        by_cases h2 : l[i].ty = tkT op
        · cases h3 : l[i].ok
          · have hf : ¬ fit op l := fun h => by
              have := h.2.2 _ hmem
              simp [one, h3] at this
            rw [h2, h3] at hck
            unfold applyD
            rw [if_neg hf]
            simp -implicitDefEqProofs [h2]
            refine pcK_of (hck) (by simp) ?_
            simp -implicitDefEqProofs
          · rw [h2, h3] at hck
            have hw := wr64 (x := (i : Int) + 1) (by omega) (by omega)
            simp -implicitDefEqProofs [h2]
            refine pcK_of (hck) (by simp) ?_
            simp -implicitDefEqProofs [hw]
            refine again_of (i + 1) ⟨by omega, by omega, fun v hv => ?_⟩ (by omega) (by simp) (memLe_skip (memLe_refl _) (by simp [look]))
            rcases htk v hv with h4 | rfl
            · exact hall v h4
            · simp [one, h2, h3]
        · have hf : ¬ fit op l := fun h => by
            have := h.2.2 _ hmem
            simp [one, h2] at this
          unfold applyD
          rw [if_neg hf]
          simp -implicitDefEqProofs [h2]
      · rw [List.take_of_length_le hge] at hall
        have hf : fit op l := ⟨h0, h1, hall⟩
        unfold applyD
        rw [if_pos hf]
        refine ⟨hpos, ?_⟩
        have ha : l[0]?.getD default ∈ l := by
          rw [List.getElem?_eq_getElem hpos]; exact List.getElem_mem hpos
        have a1 := hall _ ha
        have aL := hl _ ha
        by_cases c1 : 8 ≤ op ∧ op ≤ 13
        · have hT : tkT op = 1 := by unfold tkT; rw [if_pos c1]
          have hN : tkN op = 2 := by unfold tkN; rw [if_pos c1]
          have h1l : 1 < l.length := by omega
          have hb : l[1]?.getD default ∈ l := by
            rw [List.getElem?_eq_getElem h1l]; exact List.getElem_mem h1l
          have b1 := hall _ hb
          have bL := hl _ hb
          generalize l[0]?.getD default = a at *
          generalize l[1]?.getD default = b at *
          rw [hT] at a1 b1
          obtain ⟨e1, e2, i1, i2⟩ := num_of aL a1
          obtain ⟨e3, e4, i3, i4⟩ := num_of bL b1
          have hfn : fnD op a b = opD op (nx a) (ny a) (nx b) (ny b) := by unfold fnD; rw [if_pos c1]
          rw [hfn, e1, e2, e3, e4]
          have n1 : ¬ op = 14 := by omega
          have n2 : ¬ op = 15 := by omega
          have n3 : ¬ op = 16 := by omega
          have n4 : ¬ op = 17 := by omega
          have hc := two_c i1 i2 i3 i4 c1
          simp -implicitDefEqProofs [n1, n2, n3, n4, h1l]
          refine ⟨by omega, ?_⟩
          obtain ⟨rt, ra, rb, ro, re, hrs⟩ := opD_rs op (nx a) (ny a) (nx b) (ny b)
          rw [hrs] at hc ⊢
          refine pcK_of (hc) (by simp) ?_
          simp -implicitDefEqProofs
        · have : op = 14 ∨ op = 15 ∨ op = 16 ∨ op = 17 := by
            unfold tkN at h0
            rw [if_neg c1] at h0
            by_cases c2 : op = 14
            · exact .inl c2
            · rw [if_neg c2] at h0
              by_cases c3 : 15 ≤ op ∧ op ≤ 17
              · omega
              · rw [if_neg c3] at h0; exact absurd rfl h0
          generalize l[0]?.getD default = a at *
          rcases this with rfl | rfl | rfl | rfl
          · simp -implicitDefEqProofs [fnD, hpos]
          · have hT : tkT 15 = 1 := rfl
            rw [hT] at a1
            obtain ⟨e1, e2, i1, i2⟩ := num_of aL a1
            simp -implicitDefEqProofs [fnD]
            refine pcK_of (number_ok _ _) (by simp) ?_
            simp -implicitDefEqProofs [e1]
          · have hT : tkT 16 = 1 := rfl
            rw [hT] at a1
            obtain ⟨e1, e2, i1, i2⟩ := num_of aL a1
            simp -implicitDefEqProofs [fnD]
            refine pcK_of (number_ok _ _) (by simp) ?_
            simp -implicitDefEqProofs [e2]
          · have hT : tkT 17 = 1 := rfl
            rw [hT] at a1
            obtain ⟨e1, e2, i1, i2⟩ := num_of aL a1
            rw [e1, e2]
            simp -implicitDefEqProofs [fnD]
            refine pcK_of (Conj_c i1 i2) (by simp) ?_
            simp -implicitDefEqProofs
            refine pcK_of (number_ok _ _) (by simp) ?_
            simp -implicitDefEqProofs
    · have hf : ¬ fit op l := fun h => h1 h.2.1
      unfold applyD
      rw [if_neg hf]
      simp -implicitDefEqProofs [h0, h1]

/-- The same answer with a list that is nil. -/
def nilL : D → D
  | .tup [.agg [a, b, c, _], e] => .tup [.agg [a, b, c, .pl (.slice none 0 0)], e]
  | d => d
theorem nmR_nil (n m : Int) : nmR n m = nilL (Ytaiklblnfebdfaa.nmR n m) := by
  unfold nmR Ytaiklblnfebdfaa.nmR
  split <;> rfl
theorem opD_nil (op x y u v : Int) : opD op x y u v = nilL (Ytaiklblnfebdfaa.opD op x y u v) := by
  unfold opD Ytaiklblnfebdfaa.opD
  simp only [nmR_nil]
  repeat' split
  all_goals rfl
theorem fnD_nil (op : Int) (a b : Vl) : fnD op a b = nilL (Ytaiklblnfebdfaa.fnD op a b) := by
  unfold fnD Ytaiklblnfebdfaa.fnD
  simp only [opD_nil]
  repeat' split
  all_goals rfl
theorem applyD_nil (op : Int) (l : List Vl) : applyD op l = nilL (Ytaiklblnfebdfaa.applyD op l) := by
  unfold applyD Ytaiklblnfebdfaa.applyD
  by_cases h : fit op l
  · rw [if_pos h, if_pos h, fnD_nil]
  · rw [if_neg h, if_neg h]; rfl
end Go.Fx.Ytaiklblnfebdfaa.Nl

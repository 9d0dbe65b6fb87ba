import Derived.Test.YtalinonmjhdmaaaCodeL15
import Derived.Test.YtalinonmjhdmaaaPt0
set_option linter.all false
namespace Go.Fx.Ytalinonmjhdmaaa
open Go Go.Fx Go.Proofs
instance : Inhabited Br := ⟨⟨false, 0, 0⟩⟩
theorem eqBranch {b c : Bool} {h i t u : Int} : binD Try.prog .eql 39 (.agg [B b, I h, I t]) (.agg [B c, I i, I u]) = some (.pl (.bool (decide (b = c ∧ h = i ∧ t = u)))) ∧
    binD Try.prog .neq 39 (.agg [B b, I h, I t]) (.agg [B c, I i, I u]) = some (.pl (.bool (!decide (b = c ∧ h = i ∧ t = u)))) := by
  refine bin_eqlS (vs := [.bool b, .int .i64 h, .int .i64 t]) (us := [.bool c, .int .i64 i, .int .i64 u]) Try.underlying39 (by kernel_rfl) (by kernel_rfl) rfl rfl ?_
  simp [eqFs, scal, Try.underlying4, Try.underlying24]
  rw [Bool.eq_iff_iff]; simp
theorem ia_Br {l : List Br} {mem : Mem} {j : IntKind} {i : Int} : iaD mem 3 (.sl (em encBr l)) (.pl (.int j i)) = if 0 ≤ i ∧ i < l.length then some (.pt [B (l[i.toNat]?.getD default).nl, I (l[i.toNat]?.getD default).hd, I (l[i.toNat]?.getD default).tl]) else none := em_ia fun _ => rfl
theorem imm_Br (l : List Br) : D.immss (em encBr l) = true := em_imm fun _ => rfl
attribute [local simp] ia_Br imm_Br

theorem cF03 : consF 0 3 = 2 := by decide
theorem awake15_c : Pure Try.prog 6 [] (B true) := by
  refine pu6 (by simp) ?_
  simp -implicitDefEqProofs [ac6]
  refine pcK_of (Cons_yes (h := 0) (t := 3) (by omega) (by omega)) (by simp) ?_
  simp -implicitDefEqProofs [cF03]
  refine pcK_of (Top_c 3) (by simp) ?_
  simp -implicitDefEqProofs [topF, tp_3]
  refine pcK_of ((Cases_yes (p := 2) (by omega)).1) (by simp) ?_
  simp -implicitDefEqProofs
  refine pcK_of ((Word_both 3 2).1) (by simp) ?_
  simp -implicitDefEqProofs [wordF, wordS, ck, tp_3, csF, encBr, eqBranch.1]
  refine pcK_of (Check15_c 2 2) (by simp) ?_
  simp -implicitDefEqProofs [ck, tp_2]

theorem law_PointsAll : ∀ xs, Args Try.prog Try.f3.params.toList xs → Pure Try.prog 3 xs (B true) := by
  intro xs h
  rw [Try.params3] at h
  simp only [Args] at h
  obtain ⟨x, r, rfl, hx, y, r2, rfl, hy, z, r3, rfl, hz, rfl⟩ := h
  obtain ⟨t, rfl, ht⟩ := arg_int hx
  obtain ⟨p, rfl, hp⟩ := arg_int hy
  obtain ⟨q, rfl, hq⟩ := arg_int hz
  refine pu3 (by simp) ?_
  simp -implicitDefEqProofs [ac3]
  refine pcK_of (awake15_c) (by simp) ?_
  simp -implicitDefEqProofs
  have hT : ∃ a e, topF t = .tup [I a, I e] ∧ ((tp t < 0 ∧ ¬ 0 ≤ tp t ∧ a = 0 ∧ e = 3) ∨ (¬ tp t < 0 ∧ 0 ≤ tp t ∧ a = tp t ∧ e = 0)) := by
    unfold topF
    by_cases h : tp t < 0
    · rw [if_pos h]; exact ⟨_, _, rfl, .inl ⟨h, by omega, rfl, rfl⟩⟩
    · rw [if_neg h]; exact ⟨_, _, rfl, .inr ⟨h, by omega, rfl, rfl⟩⟩
  obtain ⟨a, e, hT, hae⟩ := hT
  obtain ⟨b1, hb1⟩ : ∃ b, decide (0 ≤ p ∧ p ≤ 1) = b := ⟨_, rfl⟩
  obtain ⟨b3, hb3⟩ : ∃ b, decide (0 ≤ q ∧ q ≤ 3) = b := ⟨_, rfl⟩
  obtain ⟨bL, hbL⟩ : ∃ b, decide (0 ≤ p ∧ p ≤ 3) = b := ⟨_, rfl⟩
  have hI1 : Pure Try.prog 12 [I 1, I p] (B b1) := hb1 ▸ Is_c 1 p
  have hI3 : Pure Try.prog 12 [I 3, I q] (B b3) := hb3 ▸ Is_c 3 q
  have hI3p : Pure Try.prog 12 [I 3, I p] (B bL) := hbL ▸ Is_c 3 p
  have hC : Pure Try.prog 11 [I p, I q] (.tup [I (bif b1 && b3 then consF p q else 0), I (bif b1 && b3 then 0 else 2)]) := by
    by_cases g : (0 ≤ p ∧ p ≤ 1) ∧ (0 ≤ q ∧ q ≤ 3)
    · rw [← hb1, ← hb3, decide_eq_true g.1, decide_eq_true g.2]; exact Cons_yes g.1 g.2
    · have : (b1 && b3) = false := by
        rw [← hb1, ← hb3, ← Bool.decide_and]; exact decide_eq_false g
      rw [this]; exact Cons_no g
  have hRC : b1 = true → b3 = true → Pure Try.prog 13 [I p, I q] (I (consF p q)) := fun h1 h3 => by
    rw [h1] at hb1; rw [h3] at hb3
    exact refCons_c (of_decide_eq_true hb1) (of_decide_eq_true hb3)
  have hCs : ∃ l, Pure Try.prog 14 [I p] (.tup [.sl (em encBr l), I (bif bL then 0 else 2)]) ∧ Pure Try.prog 15 [I p] (.sl (em encBr l)) ∧ l.length ≤ 2 := by
    by_cases g : 0 ≤ p ∧ p ≤ 3
    · rw [← hbL, decide_eq_true g]
      exact ⟨_, (Cases_yes g).1, (Cases_yes g).2, by unfold csF; split <;> (try split) <;> (try split) <;> simp⟩
    · rw [← hbL, decide_eq_false g]
      exact ⟨[], (Cases_no g).1, (Cases_no g).2, by simp⟩
  obtain ⟨l, hl1, hl2, hll⟩ := hCs
  have hW : ∃ s e, wordF t p = .tup [.pl (.string s), I e] := by
    unfold wordF; split <;> exact ⟨_, _, rfl⟩
  obtain ⟨s, ew, hW⟩ := hW
  have hW1 := (Word_both t p).1
  have hW2 := (Word_both t p).2
  rw [hW] at hW1 hW2
  refine pcK_of (hT ▸ Top_c t) (by simp) ?_
  simp -implicitDefEqProofs
  refine pcK_of (refTop_c t) (by simp) ?_
  simp -implicitDefEqProofs
  clear hb1 hb3 hbL
  rcases hae with ⟨h1, h2, rfl, rfl⟩ | ⟨h1, h2, rfl, rfl⟩ <;> cases b1 <;> cases b3 <;> cases bL
  all_goals
    simp -implicitDefEqProofs [h1, h2]
    refine pcK_of (Check15_c t p) (by simp) ?_
    simp -implicitDefEqProofs
    refine pcK_of (refCheck_c t p) (by simp) ?_
    simp -implicitDefEqProofs
    refine pcK_of (hC) (by simp) ?_
    simp -implicitDefEqProofs
    refine pcK_of (hI1) (by simp) ?_
    simp -implicitDefEqProofs
    try
      refine pcK_of (hI3) (by simp) ?_
      simp -implicitDefEqProofs
    try
      refine pcK_of (hRC rfl rfl) (by simp) ?_
      simp -implicitDefEqProofs
    refine pcK_of (hl1) (by simp) ?_
    simp -implicitDefEqProofs
    refine pcK_of (hl2) (by simp) ?_
    simp -implicitDefEqProofs
    refine pcK_of (hI3p) (by simp) ?_
    simp -implicitDefEqProofs
    refine lp3_0 (α := Nat) (fun i _ => [(6, B false), (19, I i)]) (fun _ _ => []) (fun i _ => i ≤ l.length) (fun i => l.length - i) 0 (by omega) (by simp) (by simp) ?_
    rintro i nx hi
    simp -implicitDefEqProofs [lb3_0]
    refine ⟨fun hlt => ⟨hlt, ?_⟩, fun hge => ?_⟩
    · simp -implicitDefEqProofs [eqBranch.2]
      rw [wr64 (by omega) (by omega)]
      exact again_of (i + 1) (by omega) (by omega) (by simp) (by simp)
    · refine pcK_of (hW1) (by simp) ?_
      simp -implicitDefEqProofs
      refine pcK_of (hW2) (by simp) ?_
      simp -implicitDefEqProofs

/-! #### Rises -/
theorem into15_c {n w : Int} (hw : 0 < w) (hw2 : w ≤ 100) (hn : (Lit.int .i64 n).wf = true) : Pure Try.prog 18 [I n, I w] (I (n % w)) := by
  have hn := i64_bounds hn
  refine pu18 (by simp) ?_
  have h0 : ¬ w = 0 := by omega
  have h1 := Int.tmod_lt_of_pos n hw
  have h2 : -w < n.tmod w := by
    by_cases h : 0 ≤ n
    · have := Int.emod_nonneg n h0
      rw [Int.tmod_eq_emod_of_nonneg h]; omega
    · have e := Int.neg_tmod (-n) w
      rw [Int.neg_neg] at e
      rw [e, Int.tmod_eq_emod_of_nonneg (by omega)]
      have := Int.emod_lt_of_pos (-n) hw
      omega
  have e1 : n.tmod w + w = n.tmod w + w * 1 := by omega
  simp -implicitDefEqProofs [ac18, h0]
  rw [wr64 (by omega) (by omega), Int.tmod_eq_emod_of_nonneg (by omega), e1, Int.add_mul_emod_self_left]
  have : n = w * n.tdiv w + n.tmod w := (Int.mul_tdiv_add_tmod n w).symm
  conv => rhs; rw [this, Int.mul_add_emod_self_left]

def cov (w : Br) (l : List Br) : Bool := l.any fun x => decide (x.nl = w.nl) && (decide (w.hd ≤ x.hd) && decide (w.tl ≤ x.tl))
def CovInv (w : Br) (l : List Br) (i : Nat) : Prop := i ≤ l.length ∧ ∀ x ∈ l.take i, (decide (x.nl = w.nl) && (decide (w.hd ≤ x.hd) && decide (w.tl ≤ x.tl))) = false
theorem covered_c (w : Br) (l : List Br) (hl : l.length < 2 ^ 60) : Pure Try.prog 19 [.agg (encBr w), .sl (em encBr l)] (B (cov w l)) := by
  refine pu19 (by simp) ?_
  simp -implicitDefEqProofs [ac19, encBr]
  refine lp19_0 (α := Nat) (fun i _ => [(4, B false), (5, I i)]) (fun _ _ => []) (fun i _ => CovInv w l i) (fun i => l.length - i) 0 (by simp [CovInv]) (by simp) (by simp) ?_
  rintro i nx hinv
  obtain ⟨hi, hall⟩ := id hinv
  simp -implicitDefEqProofs [lb19_0]
  refine ⟨fun hlt => ⟨hlt, ?_⟩, fun hge => ?_⟩
  · have hg : l[i]?.getD default = l[i] := by rw [List.getElem?_eq_getElem hlt]; rfl
    rw [hg]
    generalize hx : l[i] = x
    have hm : x ∈ l := hx ▸ List.getElem_mem hlt
    have step : (decide (x.nl = w.nl) && (decide (w.hd ≤ x.hd) && decide (w.tl ≤ x.tl))) = false → CovInv w l (i + 1) := fun h => by
      refine ⟨by omega, fun z hz => ?_⟩
      rw [List.take_succ_eq_append_getElem hlt, List.mem_append] at hz
      rcases hz with hz | hz
      · exact hall z hz
      · rw [List.mem_singleton] at hz; rw [hz, hx]; exact h
    have hw : IntKind.i64.wrap ((i : Int) + 1) = ((i + 1 : Nat) : Int) := by rw [wr64 (by omega) (by omega)]; omega
    by_cases h1 : x.nl = w.nl
    · by_cases h2 : w.hd ≤ x.hd
      · by_cases h3 : w.tl ≤ x.tl
        · have h3' : ¬ x.tl < w.tl := by omega
          have h2' : ¬ x.hd < w.hd := by omega
          simp -implicitDefEqProofs [hw, h1, h2, h3, h2', h3', hlt]
          exact (List.any_eq_true.2 ⟨x, hm, by simp [h1, h2, h3]⟩)
        · have h3' : x.tl < w.tl := by omega
          have h2' : ¬ x.hd < w.hd := by omega
          simp -implicitDefEqProofs [hw, h1, h2, h3, h2', h3', hlt]
          exact again_of (i + 1) (step (by simp [h3])) (by omega) (by simp) (by simp)
      · have h2' : x.hd < w.hd := by omega
        simp -implicitDefEqProofs [hw, h1, h2, h2', hlt]
        exact again_of (i + 1) (step (by simp [h2])) (by omega) (by simp) (by simp)
    · simp -implicitDefEqProofs [hw, h1, hlt]
      exact again_of (i + 1) (step (by simp [h1])) (by omega) (by simp) (by simp)
  · rw [List.take_of_length_le hge] at hall
    have : cov w l = false := by
      unfold cov
      rw [List.any_eq_false]
      intro x hx; rw [hall x hx]; simp
    rw [this]

theorem cov_rise : ∀ b d : Fin 4, b ≤ d → (csF (b.val : Int)).all (fun x => cov x (csF (d.val : Int))) = true := by decide
theorem cons_rise : ∀ a c : Fin 2, ∀ b d : Fin 4, a ≤ c → b ≤ d → consF (a.val : Int) (b.val : Int) ≤ consF (c.val : Int) (d.val : Int) ∧ cov ⟨false, (a.val : Int), (b.val : Int)⟩ (csF (consF (a.val : Int) (b.val : Int))) = true ∧ (0 ≤ consF (a.val : Int) (b.val : Int) ∧ consF (a.val : Int) (b.val : Int) ≤ 3) := by decide

theorem rises {a b c d : Int} (a0 : 0 ≤ a) (c0 : c ≤ 1) (b0 : 0 ≤ b) (d0 : d ≤ 3) (h1 : a ≤ c) (h2 : b ≤ d) : consF a b ≤ consF c d ∧ cov ⟨false, a, b⟩ (csF (consF a b)) = true ∧ (0 ≤ consF a b ∧ consF a b ≤ 3) ∧ (csF b).all (fun x => cov x (csF d)) = true := by
  obtain ⟨a, rfl⟩ := Int.eq_ofNat_of_zero_le a0
  obtain ⟨b, rfl⟩ := Int.eq_ofNat_of_zero_le b0
  obtain ⟨c, rfl⟩ := Int.eq_ofNat_of_zero_le (by omega : 0 ≤ c)
  obtain ⟨d, rfl⟩ := Int.eq_ofNat_of_zero_le (by omega : 0 ≤ d)
  have x1 := cons_rise ⟨a, by omega⟩ ⟨c, by omega⟩ ⟨b, by omega⟩ ⟨d, by omega⟩ (by simp; omega) (by simp; omega)
  have x2 := cov_rise ⟨b, by omega⟩ ⟨d, by omega⟩ (by simp; omega)
  exact ⟨x1.1, x1.2.1, x1.2.2, x2⟩

theorem law_PointsRise : ∀ xs, Args Try.prog Try.f4.params.toList xs → Pure Try.prog 4 xs (B true) := by
  intro xs h
  rw [Try.params4] at h
  simp only [Args] at h
  obtain ⟨x1, r, rfl, hx1, x2, r2, rfl, hx2, x3, r3, rfl, hx3, x4, r4, rfl, hx4, rfl⟩ := h
  obtain ⟨n1, rfl, h1⟩ := arg_int hx1
  obtain ⟨n2, rfl, h2⟩ := arg_int hx2
  obtain ⟨n3, rfl, h3⟩ := arg_int hx3
  obtain ⟨n4, rfl, h4⟩ := arg_int hx4
  have i1 := into15_c (w := 2) (by omega) (by omega) h1
  have i2 := into15_c (w := 4) (by omega) (by omega) h2
  have i3 := into15_c (w := 2) (by omega) (by omega) h3
  have i4 := into15_c (w := 4) (by omega) (by omega) h4
  have b1 : 0 ≤ n1 % 2 ∧ n1 % 2 ≤ 1 := by omega
  have b2 : 0 ≤ n2 % 4 ∧ n2 % 4 ≤ 3 := by omega
  have b3 : 0 ≤ n3 % 2 ∧ n3 % 2 ≤ 1 := by omega
  have b4 : 0 ≤ n4 % 4 ∧ n4 % 4 ≤ 3 := by omega
  generalize n1 % 2 = a at *
  generalize n2 % 4 = b at *
  generalize hcm : max a (n3 % 2) = c at *
  generalize hdm : max b (n4 % 4) = d at *
  have c0 : 0 ≤ c ∧ c ≤ 1 := by omega
  have d0 : 0 ≤ d ∧ d ≤ 3 := by omega
  obtain ⟨hc1, hc2, hc3, hv⟩ := rises b1.1 c0.2 b2.1 d0.2 (by omega : a ≤ c) (by omega : b ≤ d)
  have hlen : ∀ p, (csF p).length ≤ 2 := fun p => by unfold csF; split <;> (try split) <;> (try split) <;> simp
  have hlb := hlen b
  have hcc : ¬ consF c d < consF a b := by omega
  refine pu4 (by simp) ?_
  simp -implicitDefEqProofs [ac4]
  refine pcK_of (awake15_c) (by simp) ?_
  simp -implicitDefEqProofs
  refine pcK_of (i1) (by simp) ?_
  simp -implicitDefEqProofs
  refine pcK_of (i2) (by simp) ?_
  simp -implicitDefEqProofs
  refine pcK_of (i3) (by simp) ?_
  simp -implicitDefEqProofs [hcm]
  refine pcK_of (i4) (by simp) ?_
  simp -implicitDefEqProofs [hdm]
  refine pcK_of (Cons_yes b1 b2) (by simp) ?_
  simp -implicitDefEqProofs
  refine pcK_of (Cons_yes c0 d0) (by simp) ?_
  simp -implicitDefEqProofs
  refine pcK_of ((Cases_yes b2).1) (by simp) ?_
  simp -implicitDefEqProofs
  refine pcK_of ((Cases_yes d0).1) (by simp) ?_
  simp -implicitDefEqProofs
  refine pcK_of ((Cases_yes hc3).1) (by simp) ?_
  simp -implicitDefEqProofs [hcc]
  refine lp4_0 (α := Nat) (fun i _ => [(8, B false), (23, I i)]) (fun _ _ => []) (fun i _ => i ≤ (csF b).length) (fun i => (csF b).length - i) 0 (by simp) (by simp) (by simp) ?_
  rintro i nx hi
  simp -implicitDefEqProofs [lb4_0]
  refine ⟨fun hlt => ⟨hlt, ?_⟩, fun hge => ?_⟩
  · have hg : (csF b)[i]?.getD default = (csF b)[i] := by rw [List.getElem?_eq_getElem hlt]; rfl
    have ht : cov (csF b)[i] (csF d) = true := List.all_eq_true.1 hv _ (List.getElem_mem hlt)
    rw [hg]
    have hcall := covered_c (csF b)[i] (csF d) (by have := hlen d; omega)
    rw [ht] at hcall
    unfold encBr at hcall
    refine pcK_of (hcall) (by simp) ?_
    simp -implicitDefEqProofs
    rw [wr64 (by omega) (by omega)]
    exact again_of (i + 1) (by omega) (by omega) (by simp) (by simp)
  · have hcall := covered_c ⟨false, a, b⟩ (csF (consF a b)) (by have := hlen (consF a b); omega)
    rw [hc2] at hcall
    unfold encBr at hcall
    refine pcK_of (hcall) (by simp) ?_
    simp -implicitDefEqProofs
end Go.Fx.Ytalinonmjhdmaaa

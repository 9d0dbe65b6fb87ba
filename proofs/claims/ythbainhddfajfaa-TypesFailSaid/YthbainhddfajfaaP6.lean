/-
  The parser's parts and branches: contracts.
-/
import Derived.Test.YthbainhddfajfaaP5
set_option linter.all false
set_option maxRecDepth 100000
set_option maxHeartbeats 4000000

namespace Go.Fx.Ythbainhddfajfaa
open Go Go.Fx Go.Proofs Go.Fx.Flt
theorem partsL_ok {N : Nat} (h1 : ∀ k, k < N → ∀ r, r.ok → EC 66 [] (exprF k r) r) : ∀ n ss (r : Rd) L r', n ≤ N → r.ok → partsF n ss r = some (L, r') → r'.ok ∧ r'.nest = r.nest := by
  intro n
  induction n with
  | zero => intro ss r L r' _ _ h; simp [partsF] at h
  | succ n ih =>
    intro ss r L r' hn h hrun
    cases ss with
    | nil =>
      simp only [partsF, Option.some.injEq, Prod.mk.injEq] at hrun
      obtain ⟨_, rfl⟩ := hrun
      exact ⟨h, rfl⟩
    | cons s ss =>
      unfold partsF at hrun
      have hq : (if s = [] then r else r.want s).ok ∧ (if s = [] then r else r.want s).nest = r.nest := by
        split
        · exact ⟨h, rfl⟩
        · exact ⟨Rd.ok_want h _, nest_want⟩
      cases hc : exprF n (if s = [] then r else r.want s) with
      | none => rw [hc] at hrun; simp at hrun
      | some p =>
        rw [hc] at hrun
        simp only [Option.bind_some, Option.map_eq_some_iff, Prod.mk.injEq] at hrun
        obtain ⟨q2, hq2, _, rfl⟩ := hrun
        obtain ⟨k2, n2, _⟩ := h1 n (by omega) _ hq.1 p.1 p.2 hc
        obtain ⟨k3, n3⟩ := ih ss p.2 q2.1 q2.2 (by omega) k2 hq2
        exact ⟨k3, n3.trans (n2.trans hq.2)⟩
theorem parts_s {n : Nat} (h1 : ∀ k, k < n → ∀ r, r.ok → EC 66 [] (exprF k r) r) (ss : List (List UInt8)) (hss : ss.length ≤ 100) (r : Rd) (h : r.ok) (L : List Ex) (r' : Rd)
    (hrun : partsF n ss r = some (L, r')) : r'.ok ∧ r'.nest = r.nest ∧ RC 74 [.sl (em encT ss)] r r' (.sl (em encEx L)) := by
  obtain ⟨k9, n9⟩ := partsL_ok h1 n ss r L r' (Nat.le_refl _) h hrun
  refine ⟨k9, n9, ?_⟩
  intro id mem nx K hl hi hk
  refine CallT_frzR ?_
  refine ct74 (by simp) fun hfr => ?_
  simp -implicitDefEqProofs (maxDischargeDepth := 80) (maxSteps := 1000000) [ac74, hl, hi, neC hi, neA, ltA, encRd, encMk, encEx_eq]
  refine A_loop_own (j := 5) (k := 7) rfl (.inl rfl) ?_
  generalize hB : nx + 1 + 1 + 1 = B0
  refine lp74_0 (α := Nat × Nat × List Ex × Rd) (fun s _ => [(5, .osl B0 s.2.2.1.length 0 s.2.2.1.length), (6, I s.2.1)]) (fun s _ => (B0, .arr s.2.2.1.length 7 (em encEx s.2.2.1)) :: upd mem id (.box (encRd s.2.2.2)))
    (fun s m => B0 < m ∧ s.1 ≤ n ∧ s.2.2.1.length = s.2.1 ∧ s.2.1 ≤ ss.length ∧ s.2.2.2.ok ∧ ∃ L2, partsF s.1 (ss.drop s.2.1) s.2.2.2 = some (L2, r') ∧ s.2.2.1 ++ L2 = L) (fun s => s.1) (n, 0, [], r) ⟨by omega, Nat.le_refl _, rfl, by simp, h, L, hrun, rfl⟩ (by simp) (by simp [upd_self hl]) ?_
  rintro ⟨f, i, l, y⟩ m ⟨hm, hf, hli, his, hy, L2, hrun, hL⟩
  simp only at hf hli his hy hrun hL
  have iB : id < B0 := by omega
  cases f with
  | zero => simp [partsF] at hrun
  | succ f =>
    by_cases hlt : i < ss.length
    · have hd : ss.drop i = ss[i] :: ss.drop (i + 1) := List.drop_eq_getElem_cons hlt
      have hg : ss[i]?.getD default = ss[i] := by rw [List.getElem?_eq_getElem hlt]; rfl
      rw [hd] at hrun
      unfold partsF at hrun
      have w1 := wr64 (x := (i : Int) + 1) (by omega) (by omega)
      have cw := want_c hy ss[i]
      by_cases h0 : ss[i] = []
      · rw [if_pos h0] at hrun
        cases hc : exprF f y with
        | none => rw [hc] at hrun; simp at hrun
        | some p =>
          rw [hc] at hrun
          simp only [Option.bind_some, Option.map_eq_some_iff, Prod.mk.injEq] at hrun
          obtain ⟨q2, hq2, rfl, rfl⟩ := hrun
          obtain ⟨k2, _, c2⟩ := h1 f (by omega) y hy p.1 p.2 hc
          simp only [encEx_eq] at c2
          simp -implicitDefEqProofs (maxDischargeDepth := 80) (maxSteps := 1000000) [lb74_0, hl, hi, neC hi, neA, ltA, encRd, encMk, encEx_eq, neE hm, ltF hm, iB, neC iB, hlt, hg, h0]
          refine clK_of ((c2) (by simp -implicitDefEqProofs (maxDischargeDepth := 80) (maxSteps := 1000000) [hl, hi, neC hi, neA, ltA, encRd, encMk, encEx_eq, neE hm, ltF hm, iB, neC iB]) (by omega) (fun m3 hm3 => ?_))
          have im3 : id < m3 := by omega
          simp -implicitDefEqProofs (maxDischargeDepth := 80) (maxSteps := 1000000) [hl, hi, neC hi, neA, ltA, encRd, encMk, encEx_eq, neE hm, ltF hm, iB, neC iB, neE hm3, ltF hm3, hlt, hg, h0, w1]
          have hap := app_Ex l p.1
          rw [encEx_eq p.1] at hap
          have hl1 : (l ++ [p.1]).length = l.length + 1 := by simp
          refine ⟨by omega, again_of (f, i + 1, l ++ [p.1], p.2) ⟨by omega, by simp only; omega, by simp only; omega, by simp only; omega, k2, q2.1, hq2, by simpa using hL⟩ (by simp only; omega) (by simp) ?_⟩
          rw [hap]
          simp only [List.length_append, List.length_cons, List.length_nil, Nat.zero_add]
          exact (by repeat (first | exact memLe_refl _ | refine memLe_skip ?_ (by simp only [look]; repeat (first | rw [if_neg (by omega)] | exact look_upd_none (hfr _ (by omega)) | exact hfr _ (by omega)))))
      · rw [if_neg h0] at hrun
        cases hc : exprF f (y.want ss[i]) with
        | none => rw [hc] at hrun; simp at hrun
        | some p =>
          rw [hc] at hrun
          simp only [Option.bind_some, Option.map_eq_some_iff, Prod.mk.injEq] at hrun
          obtain ⟨q2, hq2, rfl, rfl⟩ := hrun
          obtain ⟨k2, _, c2⟩ := h1 f (by omega) _ (Rd.ok_want hy _) p.1 p.2 hc
          simp only [encEx_eq] at c2
          simp -implicitDefEqProofs (maxDischargeDepth := 80) (maxSteps := 1000000) [lb74_0, hl, hi, neC hi, neA, ltA, encRd, encMk, encEx_eq, neE hm, ltF hm, iB, neC iB, hlt, hg, h0]
          refine clK_of ((cw) (by simp -implicitDefEqProofs (maxDischargeDepth := 80) (maxSteps := 1000000) [hl, hi, neC hi, neA, ltA, encRd, encMk, encEx_eq, neE hm, ltF hm, iB, neC iB]) (by omega) (fun m2 hm2 => ?_))
          have im2 : id < m2 := by omega
          simp -implicitDefEqProofs (maxDischargeDepth := 80) (maxSteps := 1000000) [hl, hi, neC hi, neA, ltA, encRd, encMk, encEx_eq, neE hm, ltF hm, iB, neC iB, neE hm2, ltF hm2]
          refine clK_of ((c2) (by simp -implicitDefEqProofs (maxDischargeDepth := 80) (maxSteps := 1000000) [hl, hi, neC hi, neA, ltA, encRd, encMk, encEx_eq, neE hm, ltF hm, iB, neC iB, neE hm2, ltF hm2]) (by omega) (fun m3 hm3 => ?_))
          have im3 : id < m3 := by omega
          simp -implicitDefEqProofs (maxDischargeDepth := 80) (maxSteps := 1000000) [hl, hi, neC hi, neA, ltA, encRd, encMk, encEx_eq, neE hm, ltF hm, iB, neC iB, neE hm2, ltF hm2, neE hm3, ltF hm3, hlt, hg, h0, w1]
          have hap := app_Ex l p.1
          rw [encEx_eq p.1] at hap
          have hl1 : (l ++ [p.1]).length = l.length + 1 := by simp
          refine ⟨by omega, again_of (f, i + 1, l ++ [p.1], p.2) ⟨by omega, by simp only; omega, by simp only; omega, by simp only; omega, k2, q2.1, hq2, by simpa using hL⟩ (by simp only; omega) (by simp) ?_⟩
          rw [hap]
          simp only [List.length_append, List.length_cons, List.length_nil, Nat.zero_add]
          exact (by repeat (first | exact memLe_refl _ | refine memLe_skip ?_ (by simp only [look]; repeat (first | rw [if_neg (by omega)] | exact look_upd_none (hfr _ (by omega)) | exact hfr _ (by omega)))))
    · have he : ss.drop i = [] := List.drop_eq_nil_of_le (by omega)
      rw [he] at hrun
      simp only [partsF, Option.some.injEq, Prod.mk.injEq] at hrun
      obtain ⟨rfl, rfl⟩ := hrun
      simp only [List.append_nil] at hL
      subst hL
      simp -implicitDefEqProofs (maxDischargeDepth := 80) (maxSteps := 1000000) [lb74_0, hl, hi, neC hi, neA, ltA, encRd, encMk, encEx_eq, neE hm, ltF hm, iB, neC iB, hlt]
      exact kfrz1 B0 _ (by simp -implicitDefEqProofs (maxDischargeDepth := 80) (maxSteps := 1000000) [hl, hi, neC hi, neA, ltA, encRd, encMk, encEx_eq, neE hm, ltF hm, iB, neC iB]; rfl) (by repeat (first | exact memSub_refl _ | refine memSub_skip ?_ (look_upd_none (hfr _ (by omega))) | refine memSub_skip ?_ (hfr _ (by omega)))) (look_upd_none (hfr _ (by omega))) (by simp [frz, look, List.take_of_length_le]) (hk _ (by omega))
theorem upd_comm {α : Type} {i j : Nat} (h : i ≠ j) {a b : α} : ∀ {m : List (Nat × α)}, upd (upd m i a) j b = upd (upd m j b) i a
  | [] => rfl
  | (k, x) :: m => by
    by_cases h1 : k = i
    · subst h1
      simp [upd, h]
    · by_cases h2 : k = j
      · subst h2
        simp [upd, h1]
      · simp only [upd, h1, h2, if_false]; rw [upd_comm h]
theorem branches_s {n : Nat} (h1 : ∀ r, r.ok → EC 66 [] (exprF n r) r) (r : Rd) (h : r.ok) (p : Int) (e : Ex) (r' : Rd) (hrun : branchesF (n + 1) r p = some (e, r')) :
    r'.ok ∧ r'.nest = r.nest ∧ ∀ (id id2 : Nat) (mem : Mem) (nx : Nat) (K : KD), look mem id = some (.box (encRd r)) → id < nx → look mem id2 = some (.box [I 0, Tx [], Tx [], I 0, CX 0 0, .pl (.slice none 0 0), I p]) → id2 < nx → id ≠ id2 →
      (∀ nx', nx ≤ nx' → K (.tup []) (upd (upd mem id2 (.box (encEx e))) id (.box (encRd r'))) nx') → CallT Try.prog 75 [.opt id 0, .opt id2 0] mem nx K := by
  unfold branchesF at hrun
  cases hc1 : exprF n r with
  | none => rw [hc1] at hrun; simp at hrun
  | some q1 =>
    obtain ⟨x, r1⟩ := q1
    rw [hc1] at hrun
    simp only [Option.bind_some] at hrun
    obtain ⟨k1, n1, c1⟩ := h1 r h x r1 hc1
    have w1 := want_c k1 [111, 102]
    have kw1 := Rd.ok_want k1 [111, 102]
    have w2 := want_c kw1 [110, 105, 108]
    have kw2 := Rd.ok_want kw1 [110, 105, 108]
    have w3 := want_c kw2 [45, 62]
    have kw3 := Rd.ok_want kw2 [45, 62]
    have n3 : (((r1.want [111, 102]).want [110, 105, 108]).want [45, 62]).nest = r.nest := by rw [nest_want, nest_want, nest_want, n1]
    generalize r1.want [111, 102] = s1 at *
    generalize s1.want [110, 105, 108] = s2 at *
    generalize s2.want [45, 62] = s3 at *
    cases hc2 : exprF n s3 with
    | none => rw [hc2] at hrun; simp at hrun
    | some q2 =>
      obtain ⟨a, r2⟩ := q2
      rw [hc2] at hrun
      simp only [Option.bind_some] at hrun
      obtain ⟨k2, n2, c2⟩ := h1 s3 kw3 a r2 hc2
      have w4 := want_c k2 [124]
      have kw4 := Rd.ok_want k2 [124]
      have w5 := name_c kw4
      have kw5 := Rd.ok_name kw4
      have n5 : (r2.want [124]).name.2.nest = r.nest := by rw [nest_name, nest_want, n2, n3]
      generalize r2.want [124] = s4 at *
      generalize s4.name.1 = hd at *
      generalize s4.name.2 = s5 at *
      have w6 := want_c kw5 [58]
      have kw6 := Rd.ok_want kw5 [58]
      have w7 := name_c kw6
      have kw7 := Rd.ok_name kw6
      have n7 : (s5.want [58]).name.2.nest = r.nest := by rw [nest_name, nest_want, n5]
      generalize s5.want [58] = s6 at *
      generalize s6.name.1 = tl at *
      generalize s6.name.2 = s7 at *
      have w8 := want_c kw7 [45, 62]
      have kw8 := Rd.ok_want kw7 [45, 62]
      have n8 : (s7.want [45, 62]).nest = r.nest := by rw [nest_want, n7]
      generalize s7.want [45, 62] = s8 at *
      simp only [Option.map_eq_some_iff, Prod.mk.injEq] at hrun
      obtain ⟨⟨b, r3⟩, hc3, rfl, rfl⟩ := hrun
      obtain ⟨k3, n9, c3⟩ := h1 s8 kw8 b r3 hc3
      refine ⟨k3, n9.trans n8, ?_⟩
      intro id id2 mem nx K hl hi hl2 hi2 hne hk
      simp only [encEx_mk, em_3] at hk
      simp only [encEx_eq] at hk c1 c2 c3
      simp only [encMk] at w5 w7
      refine ct75 (by simp) fun hfr => ?_
      have hA : ∀ (m : Mem) (q : Blk), look (upd m id q) id2 = look m id2 := fun m q => look_updN (Ne.symm hne)
      have hB : ∀ (m : Mem) (q : Blk), look (upd m id2 q) id = look m id := fun m q => look_updN hne
      have hC : ∀ (m : Mem) (q q2 : Blk), upd (upd m id q) id2 q2 = upd (upd m id2 q2) id q := fun m q q2 => upd_comm hne
      simp -implicitDefEqProofs (maxDischargeDepth := 80) (maxSteps := 1000000) [ac75, hl, hi, neC hi, neA, ltA, encRd, encMk, encEx_eq, hA, hB, hC, hl2, hi2, neC hi2]
      refine clK_of ((c1) (by simp -implicitDefEqProofs (maxDischargeDepth := 80) (maxSteps := 1000000) [hl, hi, neC hi, neA, ltA, encRd, encMk, encEx_eq, hA, hB, hC, hl2, hi2, neC hi2]) (by omega) (fun m1 hm1 => ?_))
      have im1 : id < m1 := by omega
      simp -implicitDefEqProofs (maxDischargeDepth := 80) (maxSteps := 1000000) [hl, hi, neC hi, neA, ltA, encRd, encMk, encEx_eq, hA, hB, hC, hl2, hi2, neC hi2, neE hm1, ltF hm1]
      refine clK_of ((w1) (by simp -implicitDefEqProofs (maxDischargeDepth := 80) (maxSteps := 1000000) [hl, hi, neC hi, neA, ltA, encRd, encMk, encEx_eq, hA, hB, hC, hl2, hi2, neC hi2, neE hm1, ltF hm1]) (by omega) (fun m2 hm2 => ?_))
      have im2 : id < m2 := by omega
      simp -implicitDefEqProofs (maxDischargeDepth := 80) (maxSteps := 1000000) [hl, hi, neC hi, neA, ltA, encRd, encMk, encEx_eq, hA, hB, hC, hl2, hi2, neC hi2, neE hm1, ltF hm1, neE hm2, ltF hm2]
      refine clK_of ((w2) (by simp -implicitDefEqProofs (maxDischargeDepth := 80) (maxSteps := 1000000) [hl, hi, neC hi, neA, ltA, encRd, encMk, encEx_eq, hA, hB, hC, hl2, hi2, neC hi2, neE hm1, ltF hm1, neE hm2, ltF hm2]) (by omega) (fun m3 hm3 => ?_))
      have im3 : id < m3 := by omega
      simp -implicitDefEqProofs (maxDischargeDepth := 80) (maxSteps := 1000000) [hl, hi, neC hi, neA, ltA, encRd, encMk, encEx_eq, hA, hB, hC, hl2, hi2, neC hi2, neE hm1, ltF hm1, neE hm2, ltF hm2, neE hm3, ltF hm3]
      refine clK_of ((w3) (by simp -implicitDefEqProofs (maxDischargeDepth := 80) (maxSteps := 1000000) [hl, hi, neC hi, neA, ltA, encRd, encMk, encEx_eq, hA, hB, hC, hl2, hi2, neC hi2, neE hm1, ltF hm1, neE hm2, ltF hm2, neE hm3, ltF hm3]) (by omega) (fun m4 hm4 => ?_))
      have im4 : id < m4 := by omega
      simp -implicitDefEqProofs (maxDischargeDepth := 80) (maxSteps := 1000000) [hl, hi, neC hi, neA, ltA, encRd, encMk, encEx_eq, hA, hB, hC, hl2, hi2, neC hi2, neE hm1, ltF hm1, neE hm2, ltF hm2, neE hm3, ltF hm3, neE hm4, ltF hm4]
      refine clK_of ((c2) (by simp -implicitDefEqProofs (maxDischargeDepth := 80) (maxSteps := 1000000) [hl, hi, neC hi, neA, ltA, encRd, encMk, encEx_eq, hA, hB, hC, hl2, hi2, neC hi2, neE hm1, ltF hm1, neE hm2, ltF hm2, neE hm3, ltF hm3, neE hm4, ltF hm4]) (by omega) (fun m5 hm5 => ?_))
      have im5 : id < m5 := by omega
      simp -implicitDefEqProofs (maxDischargeDepth := 80) (maxSteps := 1000000) [hl, hi, neC hi, neA, ltA, encRd, encMk, encEx_eq, hA, hB, hC, hl2, hi2, neC hi2, neE hm1, ltF hm1, neE hm2, ltF hm2, neE hm3, ltF hm3, neE hm4, ltF hm4, neE hm5, ltF hm5]
      refine clK_of ((w4) (by simp -implicitDefEqProofs (maxDischargeDepth := 80) (maxSteps := 1000000) [hl, hi, neC hi, neA, ltA, encRd, encMk, encEx_eq, hA, hB, hC, hl2, hi2, neC hi2, neE hm1, ltF hm1, neE hm2, ltF hm2, neE hm3, ltF hm3, neE hm4, ltF hm4, neE hm5, ltF hm5]) (by omega) (fun m6 hm6 => ?_))
      have im6 : id < m6 := by omega
      simp -implicitDefEqProofs (maxDischargeDepth := 80) (maxSteps := 1000000) [hl, hi, neC hi, neA, ltA, encRd, encMk, encEx_eq, hA, hB, hC, hl2, hi2, neC hi2, neE hm1, ltF hm1, neE hm2, ltF hm2, neE hm3, ltF hm3, neE hm4, ltF hm4, neE hm5, ltF hm5, neE hm6, ltF hm6]
      refine clK_of ((w5) (by simp -implicitDefEqProofs (maxDischargeDepth := 80) (maxSteps := 1000000) [hl, hi, neC hi, neA, ltA, encRd, encMk, encEx_eq, hA, hB, hC, hl2, hi2, neC hi2, neE hm1, ltF hm1, neE hm2, ltF hm2, neE hm3, ltF hm3, neE hm4, ltF hm4, neE hm5, ltF hm5, neE hm6, ltF hm6]) (by omega) (fun m7 hm7 => ?_))
      have im7 : id < m7 := by omega
      simp -implicitDefEqProofs (maxDischargeDepth := 80) (maxSteps := 1000000) [hl, hi, neC hi, neA, ltA, encRd, encMk, encEx_eq, hA, hB, hC, hl2, hi2, neC hi2, neE hm1, ltF hm1, neE hm2, ltF hm2, neE hm3, ltF hm3, neE hm4, ltF hm4, neE hm5, ltF hm5, neE hm6, ltF hm6, neE hm7, ltF hm7]
      refine clK_of ((w6) (by simp -implicitDefEqProofs (maxDischargeDepth := 80) (maxSteps := 1000000) [hl, hi, neC hi, neA, ltA, encRd, encMk, encEx_eq, hA, hB, hC, hl2, hi2, neC hi2, neE hm1, ltF hm1, neE hm2, ltF hm2, neE hm3, ltF hm3, neE hm4, ltF hm4, neE hm5, ltF hm5, neE hm6, ltF hm6, neE hm7, ltF hm7]) (by omega) (fun m8 hm8 => ?_))
      have im8 : id < m8 := by omega
      simp -implicitDefEqProofs (maxDischargeDepth := 80) (maxSteps := 1000000) [hl, hi, neC hi, neA, ltA, encRd, encMk, encEx_eq, hA, hB, hC, hl2, hi2, neC hi2, neE hm1, ltF hm1, neE hm2, ltF hm2, neE hm3, ltF hm3, neE hm4, ltF hm4, neE hm5, ltF hm5, neE hm6, ltF hm6, neE hm7, ltF hm7, neE hm8, ltF hm8]
      refine clK_of ((w7) (by simp -implicitDefEqProofs (maxDischargeDepth := 80) (maxSteps := 1000000) [hl, hi, neC hi, neA, ltA, encRd, encMk, encEx_eq, hA, hB, hC, hl2, hi2, neC hi2, neE hm1, ltF hm1, neE hm2, ltF hm2, neE hm3, ltF hm3, neE hm4, ltF hm4, neE hm5, ltF hm5, neE hm6, ltF hm6, neE hm7, ltF hm7, neE hm8, ltF hm8]) (by omega) (fun m9 hm9 => ?_))
      have im9 : id < m9 := by omega
      simp -implicitDefEqProofs (maxDischargeDepth := 80) (maxSteps := 1000000) [hl, hi, neC hi, neA, ltA, encRd, encMk, encEx_eq, hA, hB, hC, hl2, hi2, neC hi2, neE hm1, ltF hm1, neE hm2, ltF hm2, neE hm3, ltF hm3, neE hm4, ltF hm4, neE hm5, ltF hm5, neE hm6, ltF hm6, neE hm7, ltF hm7, neE hm8, ltF hm8, neE hm9, ltF hm9]
      refine clK_of ((w8) (by simp -implicitDefEqProofs (maxDischargeDepth := 80) (maxSteps := 1000000) [hl, hi, neC hi, neA, ltA, encRd, encMk, encEx_eq, hA, hB, hC, hl2, hi2, neC hi2, neE hm1, ltF hm1, neE hm2, ltF hm2, neE hm3, ltF hm3, neE hm4, ltF hm4, neE hm5, ltF hm5, neE hm6, ltF hm6, neE hm7, ltF hm7, neE hm8, ltF hm8, neE hm9, ltF hm9]) (by omega) (fun m10 hm10 => ?_))
      have im10 : id < m10 := by omega
      simp -implicitDefEqProofs (maxDischargeDepth := 80) (maxSteps := 1000000) [hl, hi, neC hi, neA, ltA, encRd, encMk, encEx_eq, hA, hB, hC, hl2, hi2, neC hi2, neE hm1, ltF hm1, neE hm2, ltF hm2, neE hm3, ltF hm3, neE hm4, ltF hm4, neE hm5, ltF hm5, neE hm6, ltF hm6, neE hm7, ltF hm7, neE hm8, ltF hm8, neE hm9, ltF hm9, neE hm10, ltF hm10]
      refine clK_of ((c3) (by simp -implicitDefEqProofs (maxDischargeDepth := 80) (maxSteps := 1000000) [hl, hi, neC hi, neA, ltA, encRd, encMk, encEx_eq, hA, hB, hC, hl2, hi2, neC hi2, neE hm1, ltF hm1, neE hm2, ltF hm2, neE hm3, ltF hm3, neE hm4, ltF hm4, neE hm5, ltF hm5, neE hm6, ltF hm6, neE hm7, ltF hm7, neE hm8, ltF hm8, neE hm9, ltF hm9, neE hm10, ltF hm10]) (by omega) (fun m11 hm11 => ?_))
      have im11 : id < m11 := by omega
      simp -implicitDefEqProofs (maxDischargeDepth := 80) (maxSteps := 1000000) [hl, hi, neC hi, neA, ltA, encRd, encMk, encEx_eq, hA, hB, hC, hl2, hi2, neC hi2, neE hm1, ltF hm1, neE hm2, ltF hm2, neE hm3, ltF hm3, neE hm4, ltF hm4, neE hm5, ltF hm5, neE hm6, ltF hm6, neE hm7, ltF hm7, neE hm8, ltF hm8, neE hm9, ltF hm9, neE hm10, ltF hm10, neE hm11, ltF hm11]
      exact ⟨_, by repeat (first | exact memSub_refl _ | refine memSub_skip ?_ (look_upd_none (look_upd_none (hfr _ (by omega))))), hk _ (by omega)⟩
end Go.Fx.Ythbainhddfajfaa

/-
  fathomref10.Apply.
-/
import Derived.Test.YtaiklblnfebdfaaPa
set_option linter.all false
namespace Go.Fx.Ytaiklblnfebdfaa
open Go Go.Fx Go.Proofs Go.Fx.Flt
def encP (p : Int × Int) : List D := [I p.1, I p.2]
theorem ia_Pt {l : List (Int × Int)} {mem : Mem} {j : IntKind} {i : Int} : iaD mem 2 (.sl (em encP l)) (.pl (.int j i)) = if 0 ≤ i ∧ i < l.length then some (.pt [I (l[i.toNat]?.getD default).1, I (l[i.toNat]?.getD default).2]) else none := em_ia fun _ => rfl
theorem imm_Pt (l : List (Int × Int)) : D.immss (em encP l) = true := em_imm fun _ => rfl
theorem app_Pt (l : List (Int × Int)) (a b : Int) : em encP l ++ [[I a, I b]] = em encP (l ++ [(a, b)]) := em_app (x := ((a, b) : Int × Int))
theorem cell_Pt (l : List (Int × Int)) : (em encP l).all (fun e => e.all D.cell) = true := em_cell fun _ => rfl
theorem els_Pt (l : List (Int × Int)) : (em encP l).all (fun e => e.length == 2 && e.all D.cell) = true := em_els (fun _ => rfl) fun _ => rfl
attribute [simp] ia_Pt imm_Pt app_Pt cell_Pt els_Pt
/-- The parts of the first i values. -/
def prt (l : List Vl) : List (Int × Int) := l.map fun v => (nx v, ny v)
def ApInv (op : Int) (l : List Vl) (s : Nat × Bool × List (Int × Int)) : Prop :=
  s.1 ≤ l.length ∧ s.2.2.length = s.1 ∧ (s.2.1 = true → (∀ v ∈ l.take s.1, one (tkT op) v = true) ∧ s.2.2 = prt (l.take s.1) ∧ (l.length : Int) = tkN op ∧ tkN op ≠ 0) ∧ (s.2.1 = false → ¬ fit op l)
theorem eqNum {a b c d : Int} : binD Try.prog .eql 66 (.agg [I a, I b]) (.agg [I c, I d]) = some (.pl (.bool (decide (a = c ∧ b = d)))) := by
  refine (bin_eqlS (vs := [.int .i64 a, .int .i64 b]) (us := [.int .i64 c, .int .i64 d]) Try.underlying66 (by kernel_rfl) (by kernel_rfl) rfl rfl ?_).1
  simp [eqFs, scal, Try.underlying3]
  rw [Bool.eq_iff_iff]; simp
/-- The parts of a value's number, told if the value is right. -/
theorem OfN (v : Vl) (hv : v.lt) : ∃ n m o, Pure Try.prog 32 [CX v.num.re v.num.im] (.tup [.agg [I n, I m], B o]) ∧ (v.ok = true → n = nx v ∧ m = ny v) := by
  cases ho : v.num.ok
  · refine ⟨0, 0, false, Of_no ho hv.1.1 hv.1.2, fun h => ?_⟩
    unfold Vl.ok at h
    rw [ho] at h
    simp at h
  · simp only [Cx.ok, Bool.and_eq_true] at ho
    exact ⟨_, _, true, Of_yes ho.1 ho.2 hv.1.1 hv.1.2, fun _ => ⟨rfl, rfl⟩⟩
theorem refApply_c (op : Int) (l : List Vl) (hl : ∀ v ∈ l, v.lt) (hlen : l.length < 2 ^ 46) : Pure Try.prog 13 [I op, .sl (em encV l)] (applyD op l) := by
  refine pu13 (by simp) ?_
  obtain ⟨f0, hf0⟩ : ∃ f0 : Bool, f0 = (decide (0 < tkN op) && decide ((l.length : Int) = tkN op)) := ⟨_, rfl⟩
  have t0 : 0 ≤ tkN op := by
    unfold tkN
    by_cases a : 8 ≤ op ∧ op ≤ 13 <;> by_cases b : op = 14 <;> by_cases c : 15 ≤ op ∧ op ≤ 17 <;> simp [a, b, c]
  have t2 : tkN op ≤ 2 := by
    unfold tkN
    by_cases a : 8 ≤ op ∧ op ≤ 13 <;> by_cases b : op = 14 <;> by_cases c : 15 ≤ op ∧ op ≤ 17 <;> simp [a, b, c]
  have hinv : ApInv op l (0, f0, []) := by
    refine ⟨by simp, rfl, fun h => ⟨fun v hv => by simp at hv, rfl, ?_⟩, fun h hf => ?_⟩
    · simp only at h
      rw [h] at hf0
      have := hf0.symm
      simp only [Bool.and_eq_true, decide_eq_true_eq] at this
      exact ⟨this.2, by omega⟩
    · simp only at h
      rw [h] at hf0
      have := hf0.symm
      simp only [Bool.and_eq_false_iff, decide_eq_false_iff_not] at this
      have h1 := hf.1
      have h2 := hf.2.1
      omega
  simp -implicitDefEqProofs [ac13]
  refine pcK_of (refTakes_c op) (by simp) ?_
  simp -implicitDefEqProofs
  by_cases c : 0 < tkN op
  · have c' : ¬ tkN op ≤ 0 := by omega
    simp -implicitDefEqProofs [c, c']
    refine A_loop_own (j := 9) (k := 2) rfl (.inl rfl) ?_
    refine lp13_0 (α := Nat × Bool × List (Int × Int)) (fun s _ => [(8, B s.2.1), (9, .osl 20 s.1 0 s.1), (10, I s.1)]) (fun s _ => [(20, .arr s.1 2 (em encP s.2.2)), (0, .box [I 0, CX 0 0, B false, .pl (.slice none 0 0)])])
      (fun s m => 20 < m ∧ ApInv op l s) (fun s => 2 * (l.length - s.1) + (if s.2.1 then 1 else 0)) (0, f0, []) ⟨by omega, hinv⟩ (by simp [hf0, c]) (by simp) ?_
    rintro ⟨i, fl, zs⟩ m ⟨hm, hi, hz, hy, hno⟩
    simp only at hi hz hy hno
    cases fl
    · have hf := hno rfl
      unfold applyD
      rw [if_neg hf]
      simp -implicitDefEqProofs [lb13_0]
    · obtain ⟨h1, h2, h3, h4⟩ := hy rfl
      have w1 := wr64 (x := (i : Int) + 1) (by omega) (by omega)
      by_cases hlt : i < l.length
      · have hlt2 : (i : Int) < tkN op := by omega
        have hlt3 : ¬ tkN op ≤ (i : Int) := by omega
        have hg : l[i]?.getD default = l[i] := by rw [List.getElem?_eq_getElem hlt]; rfl
        have hmem : l[i] ∈ l := List.getElem_mem hlt
        have hval := RefValid_c l[i] (hl _ hmem)
        unfold encV at hval
        obtain ⟨n, q, o, hof, hnq⟩ := OfN l[i] (hl _ hmem)
        have hem : em encP zs ++ [[I n, I q]] = em encP (zs ++ [(n, q)]) := app_Pt zs n q
        have htk : l.take (i + 1) = l.take i ++ [l[i]] := List.take_succ_eq_append_getElem hlt
        have hlen2 : (zs ++ [(n, q)]).length = i + 1 := by simp [hz]
        have yes : one (tkT op) l[i] = true → ApInv op l (i + 1, true, zs ++ [(n, q)]) := fun h => by
          have hok : l[i].ok = true := by simp only [one, Bool.and_eq_true] at h; exact h.1
          obtain ⟨rfl, rfl⟩ := hnq hok
          refine ⟨hlt, hlen2, fun _ => ⟨fun v hv => ?_, ?_, h3, h4⟩, fun h => by simp at h⟩
          · simp only [htk, List.mem_append, List.mem_singleton] at hv
            rcases hv with hv | rfl
            · exact h1 v hv
            · exact h
          · simp only [htk, prt, List.map_append, h2]; rfl
        have no : one (tkT op) l[i] = false → ApInv op l (i + 1, false, zs ++ [(n, q)]) := fun h => by
          refine ⟨hlt, hlen2, fun h => by simp at h, fun _ hf => ?_⟩
          have := hf.2.2 _ hmem
          rw [h] at this; simp at this
        have hsz : List.take i (em encP zs) = em encP zs := List.take_of_length_le (by simp [hz])
        cases hk : l[i].ok
        · rw [hk] at hval
          have hone : one (tkT op) l[i] = false := by simp [one, hk]
          simp -implicitDefEqProofs [lb13_0, hlt, hlt2, hlt3, hg]
          refine pcK_of (hval) (by simp) ?_
          simp -implicitDefEqProofs [hlt, hg]
          refine pcK_of (hof) (by simp) ?_
          simp -implicitDefEqProofs [hz, w1, hsz]
          refine ⟨by omega, ?_⟩
          refine again_of (i + 1, false, zs ++ [(n, q)]) ⟨by omega, no hone⟩ (by simp; omega) (by simp) (memLe_skip (memLe_refl _) ?_)
          have e1 : ¬ 20 = m + 6 + 15 + 9 := by omega
          simp [look, e1]
        · rw [hk] at hval
          by_cases ht : l[i].ty = tkT op
          · have hone : one (tkT op) l[i] = true := by simp [one, hk, ht]
            rw [ht] at hval
            simp -implicitDefEqProofs [lb13_0, hlt, hlt2, hlt3, hg, ht]
            refine pcK_of (hval) (by simp) ?_
            simp -implicitDefEqProofs [hlt, hg, ht]
            refine pcK_of (hof) (by simp) ?_
            simp -implicitDefEqProofs [hz, w1, hsz]
            refine ⟨by omega, ?_⟩
            refine again_of (i + 1, true, zs ++ [(n, q)]) ⟨by omega, yes hone⟩ (by simp; omega) (by simp) (memLe_skip (memLe_refl _) ?_)
            have e1 : ¬ 20 = m + 6 + 15 + 9 := by omega
            simp [look, e1]
          · have hone : one (tkT op) l[i] = false := by simp [one, ht]
            simp -implicitDefEqProofs [lb13_0, hlt, hlt2, hlt3, hg]
            refine pcK_of (hval) (by simp) ?_
            simp -implicitDefEqProofs [hlt, hg, ht]
            refine pcK_of (hof) (by simp) ?_
            simp -implicitDefEqProofs [hz, w1, hsz]
            refine ⟨by omega, ?_⟩
            refine again_of (i + 1, false, zs ++ [(n, q)]) ⟨by omega, no hone⟩ (by simp; omega) (by simp) (memLe_skip (memLe_refl _) ?_)
            have e1 : ¬ 20 = m + 6 + 15 + 9 := by omega
            simp [look, e1]
      · have hge : l.length ≤ i := by omega
        have hie : i = l.length := by omega
        have hge2 : tkN op ≤ (i : Int) := by omega
        have hge3 : ¬ (i : Int) < tkN op := by omega
        rw [List.take_of_length_le hge] at h1 h2
        have hf : fit op l := ⟨h4, h3, h1⟩
        have hpos : 0 < l.length := by omega
        have ha : l[0]?.getD default ∈ l := by
          rw [List.getElem?_eq_getElem hpos]; exact List.getElem_mem hpos
        have a1 := h1 _ ha
        have aL := hl _ ha
        have z0 : zs[0]?.getD default = (nx (l[0]?.getD default), ny (l[0]?.getD default)) := by
          rw [h2, prt, List.getElem?_map, List.getElem?_eq_getElem hpos]; rfl
        unfold applyD
        rw [if_pos hf]
        by_cases c1 : 8 ≤ op ∧ op ≤ 13
        · have hT : tkT op = 1 := by unfold tkT; rw [if_pos c1]
          have hN : tkN op = 2 := by unfold tkN; rw [if_pos c1]
          have h1l : 1 < l.length := by omega
          have hb : l[1]?.getD default ∈ l := by
            rw [List.getElem?_eq_getElem h1l]; exact List.getElem_mem h1l
          have b1 := h1 _ hb
          have bL := hl _ hb
          have z1 : zs[1]?.getD default = (nx (l[1]?.getD default), ny (l[1]?.getD default)) := by
            rw [h2, prt, List.getElem?_map, List.getElem?_eq_getElem h1l]; rfl
          generalize l[0]?.getD default = a at *
          generalize l[1]?.getD default = b at *
          rw [hT] at a1 b1
          obtain ⟨_, _, i1, i2⟩ := num_of aL a1
          obtain ⟨_, _, i3, i4⟩ := num_of bL b1
          have hfn : fnD op a b = opD op (nx a) (ny a) (nx b) (ny b) := by unfold fnD; rw [if_pos c1]
          rw [hfn]
          have hi2 : i = 2 := by omega
          have hzs : zs = [(nx a, ny a), (nx b, ny b)] := by
            rw [hi2] at hz
            match zs, hz, z0, z1 with
            | [p, q], _, h0, h1 => simp at h0 h1; rw [h0, h1]
          clear z0 z1 h2 hy
          subst hzs
          subst hi2
          have : op = 8 ∨ op = 9 ∨ op = 10 ∨ op = 11 ∨ op = 12 ∨ op = 13 := by omega
          rcases this with rfl | rfl | rfl | rfl | rfl | rfl
          · have hc := refAdd_c i1 i2 i3 i4
            rw [show opD _ (nx a) (ny a) (nx b) (ny b) = nmR (nx a + nx b) (ny a + ny b) from rfl]
            cases hk : inb (nx a + nx b) && inb (ny a + ny b)
            · rw [(numD_no hk).2.2] at hc
              rw [(numD_no hk).2.1]
              simp -implicitDefEqProofs [lb13_0, hN, encP]
              refine pcK_of (hc) (by simp) ?_
              simp -implicitDefEqProofs
              refine pcK_of (refnumber_no (by decide)) (by simp) ?_
              simp -implicitDefEqProofs
            · rw [(numD_yes hk).2.2] at hc
              rw [(numD_yes hk).2.1]
              have hk2 := hk
              simp only [Bool.and_eq_true] at hk2
              simp -implicitDefEqProofs [lb13_0, hN, encP]
              refine pcK_of (hc) (by simp) ?_
              simp -implicitDefEqProofs
              refine pcK_of (refnumber_ok hk2.1 hk2.2) (by simp) ?_
              simp -implicitDefEqProofs
          · have hc := refSub_c i1 i2 i3 i4
            rw [show opD _ (nx a) (ny a) (nx b) (ny b) = nmR (nx a - nx b) (ny a - ny b) from rfl]
            cases hk : inb (nx a - nx b) && inb (ny a - ny b)
            · rw [(numD_no hk).2.2] at hc
              rw [(numD_no hk).2.1]
              simp -implicitDefEqProofs [lb13_0, hN, encP]
              refine pcK_of (hc) (by simp) ?_
              simp -implicitDefEqProofs
              refine pcK_of (refnumber_no (by decide)) (by simp) ?_
              simp -implicitDefEqProofs
            · rw [(numD_yes hk).2.2] at hc
              rw [(numD_yes hk).2.1]
              have hk2 := hk
              simp only [Bool.and_eq_true] at hk2
              simp -implicitDefEqProofs [lb13_0, hN, encP]
              refine pcK_of (hc) (by simp) ?_
              simp -implicitDefEqProofs
              refine pcK_of (refnumber_ok hk2.1 hk2.2) (by simp) ?_
              simp -implicitDefEqProofs
          · have hc := refMul_c i1 i2 i3 i4
            rw [show opD _ (nx a) (ny a) (nx b) (ny b) = nmR (nx a * nx b - ny a * ny b) (nx a * ny b + ny a * nx b) from rfl]
            cases hk : inb (nx a * nx b - ny a * ny b) && inb (nx a * ny b + ny a * nx b)
            · rw [(numD_no hk).2.2] at hc
              rw [(numD_no hk).2.1]
              simp -implicitDefEqProofs [lb13_0, hN, encP]
              refine pcK_of (hc) (by simp) ?_
              simp -implicitDefEqProofs
              refine pcK_of (refnumber_no (by decide)) (by simp) ?_
              simp -implicitDefEqProofs
            · rw [(numD_yes hk).2.2] at hc
              rw [(numD_yes hk).2.1]
              have hk2 := hk
              simp only [Bool.and_eq_true] at hk2
              simp -implicitDefEqProofs [lb13_0, hN, encP]
              refine pcK_of (hc) (by simp) ?_
              simp -implicitDefEqProofs
              refine pcK_of (refnumber_ok hk2.1 hk2.2) (by simp) ?_
              simp -implicitDefEqProofs
          · have hc := refQuo_c i1 i2 i3 i4
            rw [show opD 11 (nx a) (ny a) (nx b) (ny b) = (if quoBad (nx a) (ny a) (nx b) (ny b) then rs 0 0 0 false 51 else nmR ((qX (nx a) (ny a) (nx b) (ny b)).tdiv (qN (nx b) (ny b))) ((qY (nx a) (ny a) (nx b) (ny b)).tdiv (qN (nx b) (ny b)))) from rfl]
            unfold quoR at hc
            by_cases hq : quoBad (nx a) (ny a) (nx b) (ny b)
            · rw [if_pos hq] at hc ⊢
              simp -implicitDefEqProofs [lb13_0, hN, encP]
              refine pcK_of (hc) (by simp) ?_
              simp -implicitDefEqProofs
              refine pcK_of (refnumber_no (by decide)) (by simp) ?_
              simp -implicitDefEqProofs
            · rw [if_neg hq] at hc ⊢
              generalize (qX (nx a) (ny a) (nx b) (ny b)).tdiv (qN (nx b) (ny b)) = r at *
              generalize (qY (nx a) (ny a) (nx b) (ny b)).tdiv (qN (nx b) (ny b)) = t at *
              cases hk : inb r && inb t
              · rw [(numD_no hk).2.2] at hc
                rw [(numD_no hk).2.1]
                simp -implicitDefEqProofs [lb13_0, hN, encP]
                refine pcK_of (hc) (by simp) ?_
                simp -implicitDefEqProofs
                refine pcK_of (refnumber_no (by decide)) (by simp) ?_
                simp -implicitDefEqProofs
              · rw [(numD_yes hk).2.2] at hc
                rw [(numD_yes hk).2.1]
                have hk2 := hk
                simp only [Bool.and_eq_true] at hk2
                simp -implicitDefEqProofs [lb13_0, hN, encP]
                refine pcK_of (hc) (by simp) ?_
                simp -implicitDefEqProofs
                refine pcK_of (refnumber_ok hk2.1 hk2.2) (by simp) ?_
                simp -implicitDefEqProofs
          · rw [show opD 12 (nx a) (ny a) (nx b) (ny b) = rs 2 0 0 (decide (nx a = nx b ∧ ny a = ny b)) 0 from rfl]
            generalize hr : decide (nx a = nx b ∧ ny a = ny b) = r
            have he := eqNum (a := nx a) (b := ny a) (c := nx b) (d := ny b)
            rw [hr] at he
            simp -implicitDefEqProofs [lb13_0, hN, encP, he]
            refine pcK_of (truth_c r) (by simp) ?_
            simp -implicitDefEqProofs
          · rw [show opD 13 (nx a) (ny a) (nx b) (ny b) = rs 2 0 0 (decide (nx a < nx b ∨ nx a = nx b ∧ ny a < ny b)) 0 from rfl]
            have hc := refLess_c (nx a) (ny a) (nx b) (ny b)
            generalize decide (nx a < nx b ∨ nx a = nx b ∧ ny a < ny b) = r at *
            simp -implicitDefEqProofs [lb13_0, hN, encP]
            refine pcK_of (hc) (by simp) ?_
            simp -implicitDefEqProofs
            refine pcK_of (truth_c r) (by simp) ?_
            simp -implicitDefEqProofs
        · have hop : op = 14 ∨ op = 15 ∨ op = 16 ∨ op = 17 := by
            unfold tkN at h4
            rw [if_neg c1] at h4
            by_cases c2 : op = 14
            · exact .inl c2
            · rw [if_neg c2] at h4
              by_cases c3 : 15 ≤ op ∧ op ≤ 17
              · omega
              · rw [if_neg c3] at h4; exact absurd rfl h4
          have hN : tkN op = 1 := by
            unfold tkN
            rw [if_neg c1]
            rcases hop with rfl | rfl | rfl | rfl <;> rfl
          have hi2 : i = 1 := by omega
          have hl0 : l[0]?.getD default = l[0] := by rw [List.getElem?_eq_getElem hpos]; rfl
          generalize l[0]?.getD default = a at *
          have hA : l[0] = a := hl0.symm
          have hzs : zs = [(nx a, ny a)] := by
            rw [hi2] at hz
            match zs, hz, z0 with
            | [p], _, h0 => simp at h0; rw [h0]
          clear z0 h2 hy
          subst hzs
          subst hi2
          have i00 : inb 0 = true := by decide
          rcases hop with rfl | rfl | rfl | rfl
          · simp -implicitDefEqProofs [lb13_0, hN, encP, fnD, hpos, hA]
            refine pcK_of (truth_c _) (by simp) ?_
            simp -implicitDefEqProofs
          · have hT : tkT 15 = 1 := rfl
            rw [hT] at a1
            obtain ⟨e1, e2, i1, i2⟩ := num_of aL a1
            simp -implicitDefEqProofs [lb13_0, hN, encP, fnD]
            refine pcK_of (refnumber_ok i1 i00) (by simp) ?_
            simp -implicitDefEqProofs [Fi_0]
          · have hT : tkT 16 = 1 := rfl
            rw [hT] at a1
            obtain ⟨e1, e2, i1, i2⟩ := num_of aL a1
            simp -implicitDefEqProofs [lb13_0, hN, encP, fnD]
            refine pcK_of (refnumber_ok i2 i00) (by simp) ?_
            simp -implicitDefEqProofs [Fi_0]
          · have hT : tkT 17 = 1 := rfl
            rw [hT] at a1
            obtain ⟨e1, e2, i1, i2⟩ := num_of aL a1
            have b1 := inb_le i2
            have hw := wr64 (x := -(ny a)) (by omega) (by omega)
            simp -implicitDefEqProofs [lb13_0, hN, encP, fnD, hw]
            refine pcK_of (refnumber_ok i1 (neg_in i2)) (by simp) ?_
            simp -implicitDefEqProofs
  · have c' : tkN op ≤ 0 := by omega
    simp -implicitDefEqProofs [c, c']
    have hf : ¬ fit op l := fun h => by have := h.1; omega
    unfold applyD
    rw [if_neg hf]
    refine lp13_0 (α := Nat) (fun _ _ => [(8, B false), (9, .pl (.slice none 0 0)), (10, I 0)]) (fun _ _ => [(0, .box [I 0, CX 0 0, B false, .pl (.slice none 0 0)])])
      (fun _ m => 0 < m) (fun _ => 0) 0 (by omega) (by simp) (by simp) ?_
    rintro _ m hm
    simp -implicitDefEqProofs [lb13_0]
end Go.Fx.Ytaiklblnfebdfaa

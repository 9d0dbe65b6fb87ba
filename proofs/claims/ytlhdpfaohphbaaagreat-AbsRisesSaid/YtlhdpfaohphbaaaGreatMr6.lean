/- AbsRises holds: saying less of arguments never says more of the answer. No condition. -/
import Derived.Test.YtlhdpfaohphbaaaGreatMr5
import Derived.Test.YtlhdpfaohphbaaaGreatRows
set_option linter.all false
set_option maxRecDepth 100000
set_option maxHeartbeats 4000000
namespace Go.Fx.YtlhdpfaohphbaaaGreat
open Go Go.Fx Go.Proofs Go.Fx.Flt
mutual
def bQ : Ex → Nat
 | .mk op _ _ _ _ args _ => eT args + (if op = 21 ∨ op = 22 ∨ op = 20 then 1 else 0)
def eT : List Ex → Nat
 | [] => 0
 | x :: xs => max (bQ x) (eT xs)
end
mutual
theorem IB : ∀ e : Ex, bQ e ≤ size e
 | .mk op n tl ty z args p => by
  have := qP args
  unfold bQ size
  split <;> omega
theorem qP : ∀ l : List Ex, eT l ≤ bH l
 | [] => by simp [eT]
 | x :: xs => by
  have h1 := IB x
  have h2 := qP xs
  unfold eT bH; omega
end
theorem y8 : ∀ {l : List Ex} {x : Ex}, x ∈ l → size x ≤ bH l ∧ bQ x ≤ eT l
 | y :: ys, x, h => by
  unfold bH eT
  rcases List.mem_cons.1 h with rfl | h
  ·omega
  ·have := y8 h; omega
theorem HS : ∀ (l : List Ex), l.length ≤ bH l
 | [] => by simp [bH]
 | y :: ys => by
  have := HS ys
  have h : 1 ≤ size y := by cases y; unfold size; omega
  unfold bH; simp only [List.length_cons]; omega
def zU (e : Ex) : Prop := size e ≤ 2 ^ 40 → Pure Tryz.prog 71 [.agg [I e.op, Tx e.name, Tx e.tail, I e.type, CX e.num.re e.num.im, .sl (em aU e.args), I e.at']] (I (bQ e)) ∧ Pure Tryz.prog 14 [.agg [I e.op, Tx e.name, Tx e.tail, I e.type, CX e.num.re e.num.im, .sl (em aU e.args), I e.at']] (I (bQ e))
theorem IC (op : Int) (n tl : List UInt8) (ty : Int) (z : Cx) (args : List Ex) (p : Int) (ih : ∀ x ∈ args, zU x) : zU (.mk op n tl ty z args p) := by
 intro hz
 have hzs : bH args ≤ 2 ^ 40 := by unfold size at hz; omega
 have hlen := HS args
 have hb := qP args
 have ih1 : ∀ x ∈ args, Pure Tryz.prog 71 [.agg [I x.op, Tx x.name, Tx x.tail, I x.type, CX x.num.re x.num.im, .sl (em aU x.args), I x.at']] (I (bQ x)) ∧ Pure Tryz.prog 14 [.agg [I x.op, Tx x.name, Tx x.tail, I x.type, CX x.num.re x.num.im, .sl (em aU x.args), I x.at']] (I (bQ x)) := fun x hx => ih x hx (Nat.le_trans (y8 hx).1 hzs)
 have hop : op = 21 ∨ op = 22 ∨ op = 20 ∨ (op ≠ 21 ∧ op ≠ 22 ∧ op ≠ 20) := by omega
 have w1 : IntKind.i64.wrap ((eT args : Int) + 1) = eT args + 1 := aR (by omega) (by omega)
 show Pure Tryz.prog 71 [.agg [I op, Tx n, Tx tl, I ty, CX z.re z.im, .sl (em aU args), I p]] (I (bQ (.mk op n tl ty z args p))) ∧ Pure Tryz.prog 14 [.agg [I op, Tx n, Tx tl, I ty, CX z.re z.im, .sl (em aU args), I p]] (I (bQ (.mk op n tl ty z args p)))
 generalize hR : eT args = R at *
 refine ⟨?_, ?_⟩
 ·refine fi71.pu (by simp) ?_
  simp -implicitDefEqProofs [ac71]
  refine lpG cf71 lb71_0 [3, 5, 9] (α := Nat × Nat) (fun s _ => [(3, I s.2), (5, .top), (9, I s.1)]) (fun s _ => []) (fun s k => s.1 ≤ args.length ∧ max s.2 (eT (args.drop s.1)) = R) (fun s => args.length - s.1) (0, 0) ⟨by simp, by simp [hR]⟩ (by simp) (by simp) ?_
  rintro ⟨i, m⟩ k ⟨hi, hr⟩
  simp only at hi hr
  by_cases hlt : i < args.length
  ·have wi := aR (x := (i : Int) + 1) (by omega) (by omega)
   rw [List.drop_eq_getElem_cons hlt] at hr
   unfold eT at hr
   have hx := ih1 args[i] (List.getElem_mem hlt)
   obtain ⟨x, hxe⟩ : ∃ x, args[i] = x := ⟨_, rfl⟩
   rw [hxe] at hx hr
   simp -implicitDefEqProofs [lb71_0, hlt, hxe]
   refine aG hx.1 (by simp) ?_
   have hmx : ((max m (bQ x) : Nat) : Int) = max (m : Int) (bQ x : Int) := by omega
   simp -implicitDefEqProofs [wi]
   exact aK (i + 1, max m (bQ x)) ⟨hlt, by simp only; omega⟩ (by simp only; omega) (by simp [hmx]) (by simp)
  ·have hil : i = args.length := by omega
   subst hil
   rw [List.drop_length] at hr
   simp only [eT, Nat.max_zero] at hr
   subst hr
   unfold bQ
   rw [hR]
   rcases hop with rfl | rfl | rfl | ⟨o1, o2, o3⟩
   ·simp -implicitDefEqProofs [lb71_0, w1]
   ·simp -implicitDefEqProofs [lb71_0, w1]
   ·simp -implicitDefEqProofs [lb71_0, w1]
   ·simp -implicitDefEqProofs [lb71_0, o1, o2, o3]
 ·refine fi14.pu (by simp) ?_
  simp -implicitDefEqProofs [ac14]
  refine lpG cf14 lb14_0 [3, 4, 5] (α := Nat × Nat) (fun s _ => [(3, I s.2), (4, I s.1), (5, .top)]) (fun s _ => []) (fun s k => s.1 ≤ args.length ∧ max s.2 (eT (args.drop s.1)) = R) (fun s => args.length - s.1) (0, 0) ⟨by simp, by simp [hR]⟩ (by simp) (by simp) ?_
  rintro ⟨i, m⟩ k ⟨hi, hr⟩
  simp only at hi hr
  by_cases hlt : i < args.length
  ·have wi := aR (x := (i : Int) + 1) (by omega) (by omega)
   rw [List.drop_eq_getElem_cons hlt] at hr
   unfold eT at hr
   have hx := ih1 args[i] (List.getElem_mem hlt)
   obtain ⟨x, hxe⟩ : ∃ x, args[i] = x := ⟨_, rfl⟩
   rw [hxe] at hx hr
   simp -implicitDefEqProofs [lb14_0, hlt, hxe]
   refine aG hx.2 (by simp) ?_
   have hmx : ((max m (bQ x) : Nat) : Int) = max (m : Int) (bQ x : Int) := by omega
   simp -implicitDefEqProofs [wi]
   exact aK (i + 1, max m (bQ x)) ⟨hlt, by simp only; omega⟩ (by simp only; omega) (by simp [hmx]) (by simp)
  ·have hil : i = args.length := by omega
   subst hil
   rw [List.drop_length] at hr
   simp only [eT, Nat.max_zero] at hr
   subst hr
   unfold bQ
   rw [hR]
   rcases hop with rfl | rfl | rfl | ⟨o1, o2, o3⟩
   ·simp -implicitDefEqProofs [lb14_0, w1]
   ·simp -implicitDefEqProofs [lb14_0, w1]
   ·simp -implicitDefEqProofs [lb14_0, w1]
   ·simp -implicitDefEqProofs [lb14_0, o1, o2, o3]
mutual
theorem wC : ∀ e : Ex, zU e
 | .mk op n tl ty z args p => IC op n tl ty z args p (DD args)
theorem DD : ∀ l : List Ex, ∀ x ∈ l, zU x
 | [], x, h => by simp at h
 | y :: ys, x, h => by
  rcases List.mem_cons.1 h with e | h
  ·rw [e]; exact wC y
  ·exact DD ys x h
end
theorem xX (e : Ex) (hz : size e ≤ 2 ^ 40) : Pure Tryz.prog 38 [.agg [I e.op, Tx e.name, Tx e.tail, I e.type, CX e.num.re e.num.im, .sl (em aU e.args), I e.at']] (I (if 6 < bQ e then 23 else 0)) := by
 refine fi38.pu (by simp) ?_
 simp -implicitDefEqProofs [ac38]
 refine aG (wC e hz).1 (by simp) ?_
 by_cases h : 6 < bQ e
 ·have h2 : (6 : Int) < (bQ e : Int) := by omega
  simp -implicitDefEqProofs [h, h2]
 ·have h2 : ¬ (6 : Int) < (bQ e : Int) := by omega
  simp -implicitDefEqProofs [h, h2]
set_option maxHeartbeats 8000000
open Rows
def nmB (l : List Pm) : Nls := (l.map fun b => (b.name, b.at')).reverse
def envB (l : List Pm) : List Pm := l.map fun b => ⟨b.name, b.type, 0⟩
theorem ck_pin {t p : Int} : ck t p = 0 ↔ aJ t ∧ Pin t p := by
 unfold ck Pin aJ
 constructor
 ·intro h
  split at h
  ·omega
  ·split at h
   ·rename_i h1 h2
    refine ⟨?_, h2⟩
    unfold tp at h1
    split at h1
    ·rename_i e; exact .inl e
    ·split at h1
     ·rename_i e; exact .inr (.inl e)
     ·split at h1
      ·rename_i e; exact .inr (.inr e)
      ·omega
   ·omega
 ·rintro ⟨h1, h2⟩
  have := mI h1
  rw [if_neg (by omega), if_pos h2]
theorem EnvR.binds : ∀ (l : List Pm), (∀ b ∈ l, ck b.type b.at' = 0) → EnvR (envB l) (nmB l) := by
 have key : ∀ (l env : List Pm) (N : Nls), (∀ b ∈ l, ck b.type b.at' = 0) → EnvR env N → EnvR (env ++ envB l) (nmB l ++ N) := by
  intro l
  induction l with
  | nil => intro env N _ h; simpa [nmB, envB] using h
  | cons x l ih =>
   intro env N hl h
   have hx := (ck_pin.1 (hl x (by simp))).2
   have h2 := ih (env ++ [⟨x.name, x.type, 0⟩]) ((x.name, x.at') :: N) (fun b hb => hl b (by simp [hb])) (EnvR.one h hx)
   have e1 : env ++ [⟨x.name, x.type, 0⟩] ++ envB l = env ++ envB (x :: l) := by simp [envB]
   have e2 : nmB l ++ (x.name, x.at') :: N = nmB (x :: l) ++ N := by simp [nmB]
   rw [e1, e2] at h2
   exact h2
 intro l h
 have := key l [] [] h EnvR.nil
 simpa using this
set_option maxHeartbeats 4000000
open Classical in
theorem EX (ps : List Int) (t n : Int) (l : List Int) (w : dV l) (hl : ps.length < 2 ^ 44) : Pure Tryz.prog 27 [tb ps t n l] (.tup [B (sQ ps t n l).1, I (sQ ps t n l).2]) := by
 refine fi27.pu (by simp) ?_
 simp -implicitDefEqProofs [ac27]
 unfold sQ
 by_cases h : fZ ps t n l
 ·refine aG (vB w hl h) (by simp) ?_
  simp -implicitDefEqProofs
  have h0 := h
  obtain ⟨he, ht0, hn, hg, _⟩ := h
  obtain ⟨ho, hp96, _⟩ := cX he
  have hn0 : 0 ≤ n := hg.1
  have hN := Int.max_eq_left hn0
  rw [if_pos h0]
  obtain ⟨R, hR⟩ : ∃ R : Bool, decide (fS ps l n) = R := ⟨_, rfl⟩
  rw [hR]
  refine lpG cf27 lb27_1 [2, 3, 6, 7, 9, 10] (α := Nat) (fun s _ => [(2, .top), (3, .top), (6, I s), (7, .top), (9, .top), (10, .top)]) (fun s _ => []) (fun s k => (s : Int) ≤ n ∧ ∀ m : Nat, m < s → ∀ i u, ps[i]? = some u → (m : Int) / pr (ps.drop (i + 1)) % (tp u + 1) < tp u → aV l m ≤ aV l (m + (pr (ps.drop (i + 1))).toNat)) (fun s => n.toNat - s) 0 ⟨by omega, by simp⟩ (by simp) (rZ _) ?_
  rintro s k ⟨hs, hall⟩
  by_cases hlt : (s : Int) < n
  ·have hsn : s < n.toNat := by omega
   have hs0 : (0 : Int) ≤ s := by omega
   have htup : (fN ps s).2 = 0 := by unfold fN; rw [if_neg (fun g => g he), if_neg (by omega)]
   have w4 := wrS (x := (s : Int) + 1) (by omega) (by omega)
   have hgs : ∀ h, (cl n l)[s]'h = aV l s := fun h => by
    have := mS (l := l) hsn
    rw [List.getElem?_eq_getElem h] at this
    exact Option.some.inj this
   simp -implicitDefEqProofs [lb27_1, hlt, hN]
   refine aD (v9 ps s hl (fun _ id ver nx' h1 h2 => ?_) (fun hno => absurd htup hno))
   simp -implicitDefEqProofs
   have hdl : (dg ps s).length = ps.length := iT _ _
   refine lpG cf27 lb27_0 [2, 3, 9, 10] (α := Nat) (fun i _ => [(2, .top), (3, .top), (9, I i), (10, .top)]) (fun i _ => [(id, .arr ver 1 (em aT (dg ps s)))]) (fun i k' => id < k' ∧ i ≤ ps.length ∧ ∀ j u, j < i → ps[j]? = some u → (s : Int) / pr (ps.drop (j + 1)) % (tp u + 1) < tp u → aV l s ≤ aV l (s + (pr (ps.drop (j + 1))).toNat)) (fun i => ps.length - i) 0 ⟨by omega, by omega, by simp⟩ (by simp) (aI _) ?_
   rintro i k' ⟨hk, hi, hin⟩
   by_cases hil : i < ps.length
   ·obtain ⟨u, hu⟩ : ∃ u, ps[i] = u := ⟨_, rfl⟩
    have hu3 : ps[i]? = some u := by rw [List.getElem?_eq_getElem hil, hu]
    have huo : 0 ≤ tp u := ho u (hu ▸ List.getElem_mem hil)
    have hti := fK u
    have hP := cZ (fF ho (i + 1))
    have hat := tO (n := (s : Int)) hil hu
    have hup := wS (i := i) (t := u) ho hs0 (by omega : (s : Int) < pr ps) hil hu
    have r1 := Int.emod_nonneg ((s : Int) / pr (ps.drop (i + 1))) (by omega : tp u + 1 ≠ 0)
    have r2 := Int.emod_lt_of_pos ((s : Int) / pr (ps.drop (i + 1))) (by omega : 0 < tp u + 1)
    have hstep : ∀ (hok : (s : Int) / pr (ps.drop (i + 1)) % (tp u + 1) < tp u → aV l s ≤ aV l (s + (pr (ps.drop (i + 1))).toNat)), ∀ j v, j < i + 1 → ps[j]? = some v → (s : Int) / pr (ps.drop (j + 1)) % (tp v + 1) < tp v → aV l s ≤ aV l (s + (pr (ps.drop (j + 1))).toNat) := by
     intro hok j v hj hv
     by_cases e : j = i
     ·subst e
      rw [hu3, Option.some.injEq] at hv
      subst hv
      exact hok
     ·exact hin j v (by omega) hv
    have hbad : (s : Int) / pr (ps.drop (i + 1)) % (tp u + 1) < tp u → ¬ aV l s ≤ aV l (s + (pr (ps.drop (i + 1))).toNat) → R = false := by
     intro h2 h3
     rw [← hR, decide_eq_false_iff_not]
     exact fun h => h3 (h i u hu3 s hsn h2)
    generalize pr (ps.drop (i + 1)) = P at *
    generalize (s : Int) / P % (tp u + 1) = d at *
    have hget : ∀ h, (dg ps s)[i]'h = d := fun h => by
     rw [List.getElem?_eq_getElem h] at hat
     exact Option.some.inj hat
    have w1 := wrS (x := d + 1) (by omega) (by omega)
    have w2 := wrS (x := d + 1 - 1) (by omega) (by omega)
    have w3 := aR (x := (i : Int) + 1) (by omega) (by omega)
    have hil2 : i < (dg ps s).length := by omega
    simp -implicitDefEqProofs [lb27_0, hil, hil2, hdl, hu, hat, hget]
    rw [w1]
    refine aG (Is_c u (d + 1)) (by simp) ?_
    by_cases hc : d < tp u
    ·obtain ⟨u1, u2, u3⟩ := hup hc
     rw [show decide (0 ≤ d + 1 ∧ d + 1 ≤ tp u) = true by simp; omega]
     have hnum : dC ps ((dg ps s).set i (d + 1)) = ((s : Int) + P, 0) := by
      unfold dC
      rw [if_neg (fun g => g he), if_neg (by simp [hdl]), if_pos u1, u2]
     have hNum := t7 ps ((dg ps s).set i (d + 1)) (by omega) (by simp [hdl]; omega)
     rw [hnum] at hNum
     have hset2 : (dg ps s).set i d = dg ps s := by
      have e := hget hil2
      rw [← e]
      exact List.set_getElem_self hil2
     have hset : (((dg ps s).set i (d + 1)).set i d) = dg ps s := by
      rw [List.set_set, hset2]
     have w5 := wrS (x := d) (by omega) (by omega)
     have hnP : (s : Int) + P < n := by omega
     have h0P : 0 ≤ (s : Int) + P := by omega
     have hnat : ((s : Int) + P).toNat = s + P.toNat := by omega
     have hsP : s + P.toNat < n.toNat := by omega
     have hgP : ∀ h, (cl n l)[s + P.toNat]'h = aV l (s + P.toNat) := fun h => by
      have := mS (l := l) hsP
      rw [List.getElem?_eq_getElem h] at this
      exact Option.some.inj this
     have e3 : d + 1 - 1 = d := by omega
     simp -implicitDefEqProofs [hil, hil2, hdl, hat, hget, w1]
     refine aD (vO (mf := [(id, .arr ver 1 (em aT ((dg ps s).set i (d + 1))))]) (args' := [.sl (em aT ps), .sl (em aT ((dg ps s).set i (d + 1)))]) (d0 := .tup [I ((s : Int) + P), I 0]) rfl (aE _) (by simp [hdl, List.take_of_length_le]) hNum ?_)
     simp -implicitDefEqProofs [hil, hil2, hdl, w2, w5, e3, hset, hset2, hN, hlt, hsn, hgs, hnP, h0P, hnat, hsP, hgP]
     by_cases hbig : aV l (s + P.toNat) < aV l s
     ·have := hbad hc (by omega)
      subst this
      simp -implicitDefEqProofs [hbig, Int.not_le.2 hbig]
     ·simp -implicitDefEqProofs [hbig, Int.not_lt.1 hbig, w3]
      exact aK (i + 1) ⟨by omega, hil, hstep fun _ => by omega⟩ (by omega) (by simp) (aI _)
    ·rw [show decide (0 ≤ d + 1 ∧ d + 1 ≤ tp u) = false by simp; omega]
     simp -implicitDefEqProofs [w3]
     exact aK (i + 1) ⟨by omega, hil, hstep fun h => absurd h hc⟩ (by omega) (by simp) (aI _)
   ·simp -implicitDefEqProofs [lb27_0, hil, hdl, w4]
    refine aK (s + 1) ⟨by omega, fun m hm j u hu => ?_⟩ (by omega) (by simp) (rZ _)
    by_cases e : m = s
    ·subst e
     have := (List.getElem?_eq_some_iff.1 hu).1
     exact hin j u (by omega) hu
    ·exact hall m (by omega) j u hu
  ·have hyes : R = true := by
    rw [← hR, decide_eq_true_eq]
    intro i u hu m h1 h2
    exact hall m (by omega) i u hu h2
   subst hyes
   simp -implicitDefEqProofs [lb27_1, hlt, hN, Int.not_lt.1 hlt]
 ·refine aG (LM w hl h) (by simp) ?_
  simp -implicitDefEqProofs
  rw [if_neg h]
  simp -implicitDefEqProofs
theorem B2 : ∀ (ts x : List Int) (a : Int), inT ts x = true → vl ts x a = a * pr ts + vl ts x 0
 | [], [], a, _ => by simp [vl, pr]
 | [], p :: x, a, h => by simp [inT] at h
 | t :: ts, [], a, h => by simp [inT] at h
 | t :: ts, p :: x, a, h => by
  rw [dL] at h
  simp only [Bool.and_eq_true] at h
  rw [fT, fT, B2 ts x _ h.2, B2 ts x (0 * (tp t + 1) + p) h.2, kE, Int.add_mul, Int.mul_assoc]
  have : (0 * (tp t + 1) + p) * pr ts = p * pr ts := by congr 1; omega
  omega
theorem HF : ∀ (ts : List Int) (a v : Int), okT ts → dg ts (a * pr ts + v) = dg ts v
 | [], a, v, _ => rfl
 | t :: ts, a, v, h => by
  obtain ⟨h1, h2⟩ := sW h
  have hP := cZ h2
  unfold dg
  rw [kE]
  have e : a * ((tp t + 1) * pr ts) + v = v + (a * (tp t + 1)) * pr ts := by rw [Int.mul_assoc]; omega
  rw [e, Int.add_mul_ediv_right _ _ (by omega), Int.add_mul_emod_self_right]
  congr 1
  rw [Int.add_comm, HF ts _ v h2]
theorem EE : ∀ (ts x : List Int), okT ts → inT ts x = true → dg ts (vl ts x 0) = x
 | [], [], _, _ => rfl
 | [], p :: x, _, h => by simp [inT] at h
 | t :: ts, [], _, h => by simp [inT] at h
 | t :: ts, p :: x, ho, h => by
  obtain ⟨h1, h2⟩ := sW ho
  rw [dL] at h
  simp only [Bool.and_eq_true, decide_eq_true_eq] at h
  obtain ⟨⟨g0, g1⟩, g2⟩ := h
  have hP := cZ h2
  have hv := oG ts x 0 g2 (Int.le_refl 0)
  simp only [Int.zero_mul, Int.zero_add, Int.one_mul] at hv
  have e : vl (t :: ts) (p :: x) 0 = p * pr ts + vl ts x 0 := by
   rw [fT, B2 ts x _ g2]
   congr 2; omega
  unfold dg
  rw [e, HF ts p _ h2, EE ts x h2 g2]
  congr 1
  have e2 : (p * pr ts + vl ts x 0) / pr ts = p := by
   rw [Int.add_comm, Int.add_mul_ediv_right _ _ (by omega), Int.ediv_eq_zero_of_lt hv.1 hv.2]; omega
  rw [e2, Int.emod_eq_of_lt g0 (by omega)]
theorem K0 {ts : List Int} {n : Int} (ho : okT ts) (h0 : 0 ≤ n) (hn : n < pr ts) : vl ts (dg ts n) 0 = n := by
 rw [E9 n 0 ho, Int.zero_mul, Int.zero_add, Int.emod_eq_of_lt h0 hn]
theorem wY : ∀ (ts x y : List Int) (a b : Int), inT ts x = true → inT ts y = true → (∀ i, i < x.length → x[i]?.getD 0 ≤ y[i]?.getD 0) → a ≤ b → 0 ≤ a → vl ts x a ≤ vl ts y b
 | [], [], [], a, b, _, _, _, hab, _ => hab
 | [], [], p :: y, a, b, _, h, _, _, _ => by simp [inT] at h
 | [], p :: x, y, a, b, h, _, _, _, _ => by simp [inT] at h
 | t :: ts, [], y, a, b, h, _, _, _, _ => by simp [inT] at h
 | t :: ts, p :: x, [], a, b, _, h, _, _, _ => by simp [inT] at h
 | t :: ts, p :: x, q :: y, a, b, hx, hy, hle, hab, h0 => by
  rw [dL] at hx hy
  simp only [Bool.and_eq_true, decide_eq_true_eq] at hx hy
  have hpq := hle 0 (by simp)
  simp only [List.getElem?_cons_zero, Option.getD_some] at hpq
  rw [fT, fT]
  have hk : a * (tp t + 1) ≤ b * (tp t + 1) := Int.mul_le_mul_of_nonneg_right hab (by omega)
  have hk0 : 0 ≤ a * (tp t + 1) := Int.mul_nonneg h0 (by omega)
  exact wY ts x y _ _ hx.2 hy.2 (fun i hi => by have := hle (i + 1) (by simpa using hi); simpa using this) (by omega) (by omega)
theorem EN {ps l : List Int} {n : Int} (ho : okT ps) (hn : n = pr ps) (hr : fS ps l n) : ∀ (k : Nat) (x y : List Int), inT ps x = true → inT ps y = true → (∀ i, i < x.length → x[i]?.getD 0 ≤ y[i]?.getD 0) → (vl ps y 0 - vl ps x 0).toNat ≤ k → aV l (vl ps x 0).toNat ≤ aV l (vl ps y 0).toNat := by
 intro k
 induction k with
 | zero =>
  intro x y hx hy hle hk
  have := wY ps x y 0 0 hx hy hle (Int.le_refl 0) (Int.le_refl 0)
  have e : vl ps x 0 = vl ps y 0 := by omega
  rw [e]; exact Int.le_refl _
 | succ k ih =>
  intro x y hx hy hle hk
  by_cases hne : x = y
  ·rw [hne]; exact Int.le_refl _
  ·have hlx := lK hx
   have hly := lK hy
   obtain ⟨i, hi, hlt⟩ : ∃ i, i < x.length ∧ x[i]?.getD 0 < y[i]?.getD 0 := by
    apply Classical.byContradiction
    intro hno
    apply hne
    apply List.ext_getElem (by omega)
    intro i h1 h2
    have a := hle i h1
    have b : ¬ x[i]?.getD 0 < y[i]?.getD 0 := fun g => hno ⟨i, h1, g⟩
    rw [List.getElem?_eq_getElem h1, List.getElem?_eq_getElem h2] at a b
    simp only [Option.getD_some] at a b
    omega
   have hip : i < ps.length := by omega
   obtain ⟨t, ht⟩ : ∃ t, ps[i] = t := ⟨_, rfl⟩
   have hvx := oG ps x 0 hx (Int.le_refl 0)
   simp only [Int.zero_mul, Int.zero_add, Int.one_mul] at hvx
   have hdx := EE ps x ho hx
   have hat := tO (n := vl ps x 0) hip ht
   rw [hdx] at hat
   have hxi : x[i]?.getD 0 = vl ps x 0 / pr (ps.drop (i + 1)) % (tp t + 1) := by rw [hat]; rfl
   have hyi : y[i]?.getD 0 ≤ tp t := by
    have : ∀ (ts z : List Int) (j : Nat) (u : Int), inT ts z = true → ts[j]? = some u → z[j]?.getD 0 ≤ tp u := by
     intro ts
     induction ts with
     | nil => intro z j u _ hu; simp at hu
     | cons v vs ihv =>
      intro z j u hz hu
      cases z with
      | nil => simp [inT] at hz
      | cons q z =>
       rw [dL] at hz
       simp only [Bool.and_eq_true, decide_eq_true_eq] at hz
       cases j with
       | zero => simp only [List.getElem?_cons_zero, Option.some.injEq] at hu; subst hu; simpa using hz.1.2
       | succ j => simpa using ihv z j u hz.2 (by simpa using hu)
    exact this ps y i t hy (by rw [List.getElem?_eq_getElem hip, ht])
   have hd : vl ps x 0 / pr (ps.drop (i + 1)) % (tp t + 1) < tp t := by omega
   obtain ⟨u1, u2, u3⟩ := wS ho hvx.1 hvx.2 hip ht hd
   rw [hdx, ← hxi] at u1 u2
   have hP := cZ (fF ho (i + 1))
   have hstep := hr i t (by rw [List.getElem?_eq_getElem hip, ht]) (vl ps x 0).toNat (by omega) (by rw [Int.toNat_of_nonneg hvx.1]; exact hd)
   have hle2 : ∀ j, j < (x.set i (x[i]?.getD 0 + 1)).length → (x.set i (x[i]?.getD 0 + 1))[j]?.getD 0 ≤ y[j]?.getD 0 := by
    intro j hj
    rw [List.length_set] at hj
    by_cases e : i = j
    ·subst e
     rw [List.getElem?_set_self (by omega)]
     simp only [Option.getD_some]; omega
    ·rw [List.getElem?_set_ne e]; exact hle j hj
   have hmon := wY ps _ y 0 0 u1 hy hle2 (Int.le_refl 0) (Int.le_refl 0)
   have := ih _ y u1 hy hle2 (by omega)
   rw [u2] at this hmon
   have e : (vl ps x 0 + pr (ps.drop (i + 1))).toNat = (vl ps x 0).toNat + (pr (ps.drop (i + 1))).toNat := by omega
   rw [e] at this
   omega
set_option maxHeartbeats 8000000
abbrev gG (P : List Fn) (i : Int) : Fn := P[i.toNat]?.getD default
abbrev aO (f : Fn) : List Int := f.params.map Pm.type
def cW (P : List Fn) (T : List Tt) (f : Fn) (tu : List Int) : Int := ptF (bB P T) f.body (nmF f.params tu)
def c_ (P : List Fn) (T : List Tt) (f : Fn) : List Int := (List.range (pr (aO f)).toNat).map fun k => cW P T f (dg (aO f) (k : Nat))
open Classical in
noncomputable def kN (P : List Fn) (T : List Tt) (i : Int) (tu : List Int) : Int × Int :=
 if SeeOk P T then (if i < 0 ∨ (P.length : Int) ≤ i then (0, 2) else if (dC (aO (gG P i)) tu).2 ≠ 0 then (0, (dC (aO (gG P i)) tu).2) else if 6 < bQ (gG P i).body then (0, 23) else (cW P T (gG P i) tu, 0)) else (0, 3)
open Classical in
noncomputable def gM (P : List Fn) (T : List Tt) (i : Int) : Tt × Int :=
 if SeeOk P T then (if i < 0 ∨ (P.length : Int) ≤ i then (⟨[], 0, 0, []⟩, 2) else if 6 < bQ (gG P i).body then (⟨[], 0, 0, []⟩, 23) else (⟨aO (gG P i), (gG P i).type, pr (aO (gG P i)), bD (c_ P T (gG P i))⟩, 0)) else (⟨[], 0, 0, []⟩, 3)
abbrev ttD (x : Tt) : D := tb x.ps x.t x.n x.l
theorem B1 {P : List Fn} {T : List Tt} (hk : c8 P) (hok : SeeOk P T) {i : Int} (h0 : 0 ≤ i) (hlt : i < P.length) : ∃ f, P[i.toNat]? = some f ∧ gG P i = f ∧ f ∈ P ∧ bP P f.params f.body f.type = [] ∧ size f.body ≤ 2 ^ 37 ∧ f.params.length ≤ 2 ^ 37 ∧ Sh f.body ∧ aJ f.type ∧ okT (aO f) ∧ (bX (aO f)).2 = 0 := by
 have hl : i.toNat < P.length := by omega
 obtain ⟨hPT, hPl, hsz⟩ := gO hk
 have hm := List.getElem_mem hl
 have hfit := hok.2.2 i.toNat hl
 have he := List.getElem?_eq_getElem hl
 refine ⟨P[i.toNat], he, by unfold gG; rw [he]; rfl, hm, (wP hok.1).2 _ hm, (hsz _ hm).1, (hsz _ hm).2.1, (hsz _ hm).2.2, (hPT _ hm).1, ?_⟩
 rw [he] at hfit
 obtain ⟨h1, h2, h3⟩ := hfit
 have h4 := h1.1
 rw [h3] at h4
 exact ⟨(cX h4).1, h4⟩
theorem I5 {P : List Fn} {T : List Tt} (hk : c8 P) (hT : T.length < 2 ^ 44) (hw : TW T) (i : Int) (tu : List Int) (hu : tu.length < 2 ^ 48) :
  Pure Tryz.prog 19 [.agg [.sl (em aZ P)], .sl (em cF T), I i, .sl (em aT tu)] (.tup [I (kN P T i tu).1, I (kN P T i tu).2]) := by
 obtain ⟨hPT, hPl, hsz⟩ := gO hk
 refine fi19.pu (by simp) ?_
 simp -implicitDefEqProofs [ac19]
 have hno : ¬ SeeOk P T → kN P T i tu = (0, 3) := fun h => by unfold kN; exact if_neg h
 have hyes : SeeOk P T → kN P T i tu = (if i < 0 ∨ (P.length : Int) ≤ i then (0, 2) else if (dC (aO (gG P i)) tu).2 ≠ 0 then (0, (dC (aO (gG P i)) tu).2) else if 6 < bQ (gG P i).body then (0, 23) else (cW P T (gG P i) tu, 0)) := fun h => by unfold kN; exact if_pos h
 generalize kN P T i tu = R at *
 refine aD (see_c hk hT hw (fun h n1 hn1 => ?_) (fun hok hid m n1 h0 hn1 hsg => ?_))
 ·rw [hno h]
  simp -implicitDefEqProofs
 ·have hR := hyes hok
  clear hyes hno
  by_cases hi0 : i < 0
  ·rw [if_pos (.inl hi0)] at hR
   rw [hR]
   simp -implicitDefEqProofs [hi0]
  ·by_cases hil : (P.length : Int) ≤ i
   ·rw [if_pos (.inr hil)] at hR
    rw [hR]
    simp -implicitDefEqProofs [hi0, hil]
   ·rw [if_neg (by omega)] at hR
    have hi1 : 0 ≤ i := by omega
    have hi2 : i < (P.length : Int) := by omega
    have hi3 : i.toNat < P.length := by omega
    have hi4 : i < (T.length : Int) := by rw [hok.2.1]; exact hi2
    have hi5 : i.toNat < T.length := by omega
    obtain ⟨f, hf, hfa, hfm, hwl, hs1, hs2, hs3, hty, hokT, hcnt⟩ := B1 hk hok hi1 hi2
    have hf2 : P[i.toNat] = f := by rw [List.getElem?_eq_getElem hi3] at hf; simpa using hf
    obtain ⟨x, hx⟩ : ∃ x, T[i.toNat] = x := ⟨_, rfl⟩
    have hfit := hok.2.2 i.toNat hi3
    rw [hf, List.getElem?_eq_getElem hi5, hx] at hfit
    obtain ⟨_, _, hps⟩ := hfit
    simp only [Option.getD_some] at hps
    rw [hfa] at hR
    simp -implicitDefEqProofs [hi0, hil, hi1, hi2, hi3, hi4, hi5, hf2, hx, k_, hps]
    refine aG (BE (aO f) tu (by simp; omega) hu) (by simp) ?_
    by_cases hnum : (dC (aO f) tu).2 = 0
    ·rw [if_neg (by simpa using hnum)] at hR
     simp -implicitDefEqProofs [hnum, hi1, hi2, hi3, hf2]
     refine aG (xX f.body (by omega)) (by simp) ?_
     by_cases h6 : 6 < bQ f.body
     ·rw [if_pos h6] at hR
      rw [hR]
      simp -implicitDefEqProofs [h6]
     ·rw [if_neg h6] at hR
      rw [hR]
      simp -implicitDefEqProofs [h6]
      have hin : inT (aO f) tu = true := by
       unfold dC at hnum
       rw [if_neg (by simpa using hcnt)] at hnum
       split at hnum
       ·simp at hnum
       ·split at hnum
        ·assumption
        ·simp at hnum
      refine aD (FN i f tu hsg hPT hi1 hi3 hf2 hs3 hwl (by omega) (by omega) hin (fun n2 hn2 => ?_))
      simp -implicitDefEqProofs [cW]
    ·rw [if_pos (by simpa using hnum)] at hR
     rw [hR]
     simp -implicitDefEqProofs [hnum]
theorem tV {P : List Fn} {T : List Tt} (hPT : PT P) (hT : jU P T) {f : Fn} (hs : Sh f.body) (ht : aJ f.type) (hw : bP P f.params f.body f.type = []) (ho : okT (aO f)) (k : Nat) : Pin f.type (cW P T f (dg (aO f) k)) :=
 wQ hPT (qX hT) _ hs ht hw (EnvR.pre _ _ (kZ _ ho (by omega)))
theorem yG {P : List Fn} {T : List Tt} (hk : c8 P) (hT : T.length < 2 ^ 44) (hw : TW T) (i : Int) :
  Pure Tryz.prog 21 [.agg [.sl (em aZ P)], .sl (em cF T), I i] (.tup [ttD (gM P T i).1, I (gM P T i).2]) := by
 obtain ⟨hPT, hPl, hsz⟩ := gO hk
 refine fi21.pu (by simp) ?_
 simp -implicitDefEqProofs [ac21]
 have hno : ¬ SeeOk P T → gM P T i = (⟨[], 0, 0, []⟩, 3) := fun h => by unfold gM; exact if_neg h
 have hyes : SeeOk P T → gM P T i = (if i < 0 ∨ (P.length : Int) ≤ i then (⟨[], 0, 0, []⟩, 2) else if 6 < bQ (gG P i).body then (⟨[], 0, 0, []⟩, 23) else (⟨aO (gG P i), (gG P i).type, pr (aO (gG P i)), bD (c_ P T (gG P i))⟩, 0)) := fun h => by unfold gM; exact if_pos h
 generalize gM P T i = R at *
 refine aD (see_c hk hT hw (fun h n1 hn1 => ?_) (fun hok hid m n1 h0 hn1 hsg => ?_))
 ·rw [hno h]
  simp -implicitDefEqProofs
 ·have hz1 : (hid = 1) = False := eq_false (by omega)
  have hz2 : (1 = hid) = False := eq_false (by omega)
  have hR := hyes hok
  clear hyes hno
  by_cases hi0 : i < 0
  ·rw [if_pos (.inl hi0)] at hR
   rw [hR]
   simp -implicitDefEqProofs [hi0, hz1, hz2]
  ·by_cases hil : (P.length : Int) ≤ i
   ·rw [if_pos (.inr hil)] at hR
    rw [hR]
    simp -implicitDefEqProofs [hi0, hil, hz1, hz2]
   ·rw [if_neg (by omega)] at hR
    have hi1 : 0 ≤ i := by omega
    have hi2 : i < (P.length : Int) := by omega
    have hi3 : i.toNat < P.length := by omega
    have hi4 : i < (T.length : Int) := by rw [hok.2.1]; exact hi2
    have hi5 : i.toNat < T.length := by omega
    obtain ⟨f, hf, hfa, hfm, hwl, hs1, hs2, hs3, hty, hokT, hcnt⟩ := B1 hk hok hi1 hi2
    have hf2 : P[i.toNat] = f := by rw [List.getElem?_eq_getElem hi3] at hf; simpa using hf
    obtain ⟨x, hx⟩ : ∃ x, T[i.toNat] = x := ⟨_, rfl⟩
    have hfit := hok.2.2 i.toNat hi3
    rw [hf, List.getElem?_eq_getElem hi5, hx] at hfit
    obtain ⟨_, hxt, hps⟩ := hfit
    simp only [Option.getD_some] at hps hxt
    rw [hfa] at hR
    simp -implicitDefEqProofs [hi0, hil, hi1, hi2, hi3, hf2]
    refine aG (xX f.body (by omega)) (by simp) ?_
    by_cases h6 : 6 < bQ f.body
    ·rw [if_pos h6] at hR
     rw [hR]
     simp -implicitDefEqProofs [h6, hz1, hz2]
    ·rw [if_neg h6] at hR
     rw [hR]
     simp -implicitDefEqProofs [h6, hi1, hi4, hi5, hx, k_, hps, hxt]
     refine aG (NC (aO f) f.type (by simp; omega)) (by simp) ?_
     have htp := mI hty
     have hnew : newT (aO f) f.type = (tb (aO f) f.type (pr (aO f)) (List.replicate ((pr (aO f) + 31) / 32).toNat 0), 0) := by unfold newT; rw [if_neg (by simpa using hcnt), if_neg (by omega)]
     simp -implicitDefEqProofs [hnew]
     obtain ⟨b, hb⟩ : ∃ q, n1 + 2 + 9 + 8 + 2 + 14 = q := ⟨_, rfl⟩
     rw [hb]
     have hz3 : (b = 1) = False := eq_false (by omega)
     have hz4 : (1 = b) = False := eq_false (by omega)
     have hz5 : (b = hid) = False := eq_false (by omega)
     have hz6 : (hid = b) = False := eq_false (by omega)
     have hpos := cZ hokT
     obtain ⟨_, hp96, hp1⟩ := cX hcnt
     obtain ⟨n, hn⟩ : ∃ n : Nat, pr (aO f) = n := ⟨(pr (aO f)).toNat, by omega⟩
     have hrn : c_ P T f = (List.range n).map fun k => cW P T f (dg (aO f) (k : Nat)) := by unfold c_; rw [hn]; rfl
     have hrp : ∀ k : Nat, Pin f.type (cW P T f (dg (aO f) k)) := fun k => tV hPT (hok.tabs hw) hs3 hty hwl hokT k
     have htp3 : tp f.type ≤ 3 := by rcases hty with h | h | h <;> rw [h] <;> decide
     generalize c_ P T f = r at *
     rw [hn]
     refine lpG cf21 lb21_0 [13, 14, 64] (α := Nat × List Int) (fun s _ => [(64, I s.1)]) (fun s _ => [(b, .box [.sl (em aT (aO f)), I f.type, I n, .sl (em fG s.2)]), (hid, .map (bS m)), (1, .box [.pl (.slice none 0 0), .pl (.int .i64 0), .pl (.int .i64 0), .pl (.slice none 0 0)])]) (fun s k => b < k ∧ s.1 ≤ n ∧ dV s.2 ∧ cN n s.2 ∧ ∀ j, j < n → aV s.2 j = if j < s.1 then cW P T f (dg (aO f) (j : Nat)) else 0) (fun s => n - s.1) (0, List.replicate (((n : Int) + 31) / 32).toNat 0) ⟨by omega, by omega, HT _, zN (by omega) (by omega), fun j hj => by rw [xS, if_neg (by omega)]⟩ (by simp) (by simp) ?_
     rintro ⟨j, l⟩ k ⟨hk1, hj, hlw, hlg, hlc⟩
     simp only at hj hlw hlg hlc hk1
     by_cases hjn : j < n
     ·have hjni : (j : Int) < (n : Int) := by omega
      have w1 := aR (x := (j : Int) + 1) (by omega) (by omega)
      simp -implicitDefEqProofs [lb21_0, hjni]
      have htup : fN (aO f) j = (dg (aO f) j, 0) := by unfold fN; rw [if_neg (by simpa using hcnt), if_neg (by omega)]
      refine aG (OD (aO f) j (by simp; omega)) (by simp) ?_
      simp -implicitDefEqProofs [htup]
      have hsg2 : Sg [(b, .box [.sl (em aT (aO f)), I f.type, I n, .sl (em fG l)]), (hid, .map (bS m)), (1, .box [.pl (.slice none 0 0), .pl (.int .i64 0), .pl (.int .i64 0), .pl (.slice none 0 0)])] P hid T := hsg.skip (by simp [look, hz4, hz6])
      refine aD (FN i f _ hsg2 hPT hi1 hi3 hf2 hs3 hwl (by omega) (by omega) (kZ _ hokT (by omega)) (fun n2 hn2 => ⟨fun _ _ h => h, ?_⟩))
      have hv := hrp j
      unfold cW Pin at hv
      generalize hvv : ptF (bB P T) f.body (nmF f.params (dg (aO f) j)) = vv at *
      have hput : qY n l j vv = iR n (l6 l j vv) 0 := by unfold qY; rw [if_pos hlg, if_pos ⟨by omega, hjni, hv.1, by omega⟩]; simp
      refine aG (Put_c n j vv l) (by simp) ?_
      simp -implicitDefEqProofs [hput, iR, w1, hz1, hz2, hz3, hz4, hz5, hz6]
      have hln : n ≤ 32 * l.length := by have := oD hlg; simpa using this
      refine aK (j + 1, l6 l j vv) ⟨by omega, hjn, AH hlw, by simpa using yP hlw hlg hv.1 (by omega) (by simpa using hjn), fun c hc => ?_⟩ (by simp only; omega) (by simp) (aI _)
      simp only
      rw [tD hlw hv.1 (by omega) (by omega) (by omega), hlc c hc]
      by_cases e : c = j
      ·subst e
       rw [if_pos rfl, if_pos (by omega)]
       unfold cW
       exact hvv.symm
      ·rw [if_neg e]
       by_cases e2 : c < j
       ·rw [if_pos e2, if_pos (by omega)]
       ·rw [if_neg e2, if_neg (by omega)]
     ·have hjn2 : j = n := by omega
      subst hjn2
      have hcl : r = cl j l := by
       rw [hrn]
       refine IE (by simp) fun c hc => ?_
       have hc2 : c < j := by simpa using hc
       rw [hlc c hc2, if_pos hc2]
       simp [hc2]
      rw [hcl, D1 hlg hlw]
      simp -implicitDefEqProofs [lb21_0, hz1, hz2, hz3, hz4, hz5, hz6]
set_option maxHeartbeats 4000000
theorem tp_le3' (t : Int) : tp t ≤ 3 := by have := fK t; omega
def LeL : List Int → List Int → Prop
 | [], [] => True
 | a :: l, b :: k => a ≤ b ∧ LeL l k
 | _, _ => False
def LeN : Nls → Nls → Prop
 | [], [] => True
 | a :: l, b :: k => (a.1 = b.1 ∧ a.2 ≤ b.2) ∧ LeN l k
 | _, _ => False
theorem LeN.refl : ∀ (N : Nls), LeN N N
 | [] => trivial
 | x :: r => ⟨⟨rfl, Int.le_refl _⟩, LeN.refl r⟩
theorem LeL.refl : ∀ (N : List Int), LeL N N
 | [] => trivial
 | x :: r => ⟨Int.le_refl _, LeL.refl r⟩
theorem LeN.cons {N M : Nls} {n : List UInt8} {p q : Int} (h : p ≤ q) (hN : LeN N M) : LeN ((n, p) :: N) ((n, q) :: M) := ⟨⟨rfl, h⟩, hN⟩
theorem yC : ∀ {N M : Nls} (n : List UInt8), LeN N M → kJ N n ≤ kJ M n
 | [], [], n, _ => Int.le_refl _
 | a :: l, b :: k, n, h => by
  obtain ⟨⟨h1, h2⟩, h3⟩ := h
  unfold kJ
  rw [h1]
  split
  ·exact h2
  ·exact yC n h3
theorem AA : ∀ {l k : List Int} {a b : Int}, LeL l k → a ≤ b → l.foldl min a ≤ k.foldl min b
 | [], [], a, b, _, h => h
 | x :: l, y :: k, a, b, h, hab => by
  have h1 := h.1
  show l.foldl min (min a x) ≤ k.foldl min (min b y)
  exact AA h.2 (by omega)
theorem LeL.get : ∀ {l k : List Int}, LeL l k → l.length = k.length ∧ ∀ i : Nat, l[i]?.getD 0 ≤ k[i]?.getD 0
 | [], [], _ => ⟨rfl, fun i => by simp⟩
 | x :: l, y :: k, h => by
  obtain ⟨h1, h2⟩ := LeL.get h.2
  refine ⟨by simp [h1], fun i => ?_⟩
  cases i with
  | zero => simpa using h.1
  | succ i => simpa using h2 i
theorem LeL.of : ∀ {l k : List Int}, l.length = k.length → (∀ i : Nat, i < l.length → l[i]?.getD 0 ≤ k[i]?.getD 0) → LeL l k
 | [], [], _, _ => trivial
 | [], y :: k, h, _ => by simp at h
 | x :: l, [], h, _ => by simp at h
 | x :: l, y :: k, h, hi => ⟨by simpa using hi 0 (by simp), LeL.of (by simpa using h) fun i h => by simpa using hi (i + 1) (by simpa using h)⟩
theorem K9 {g g' : Br → Int} {p q : Int} (h0 : 0 ≤ p) (hpq : p ≤ q) (h3 : q ≤ 3) (hn : g ⟨true, 0, 0⟩ ≤ g' ⟨true, 0, 0⟩)
  (hc : ∀ h t h' t', Pin 1 h → Pin 3 t → Pin 1 h' → Pin 3 t' → h ≤ h' → t ≤ t' → g ⟨false, h, t⟩ ≤ g' ⟨false, h', t'⟩) : casF g (csF p) ≤ casF g' (csF q) := by
 have t1 := tp_1
 have t3 := sF
 have a11 := hc 1 1 1 1 (by unfold Pin; omega) (by unfold Pin; omega) (by unfold Pin; omega) (by unfold Pin; omega) (by omega) (by omega)
 have a12 := hc 1 1 1 2 (by unfold Pin; omega) (by unfold Pin; omega) (by unfold Pin; omega) (by unfold Pin; omega) (by omega) (by omega)
 have a13 := hc 1 1 1 3 (by unfold Pin; omega) (by unfold Pin; omega) (by unfold Pin; omega) (by unfold Pin; omega) (by omega) (by omega)
 have b22 := hc 0 3 0 3 (by unfold Pin; omega) (by unfold Pin; omega) (by unfold Pin; omega) (by unfold Pin; omega) (by omega) (by omega)
 have b23 := hc 0 3 1 3 (by unfold Pin; omega) (by unfold Pin; omega) (by unfold Pin; omega) (by unfold Pin; omega) (by omega) (by omega)
 have c22 := hc 1 2 1 2 (by unfold Pin; omega) (by unfold Pin; omega) (by unfold Pin; omega) (by unfold Pin; omega) (by omega) (by omega)
 have c23 := hc 1 2 1 3 (by unfold Pin; omega) (by unfold Pin; omega) (by unfold Pin; omega) (by unfold Pin; omega) (by omega) (by omega)
 have d33 := hc 1 3 1 3 (by unfold Pin; omega) (by unfold Pin; omega) (by unfold Pin; omega) (by unfold Pin; omega) (by omega) (by omega)
 have hp : p = 0 ∨ p = 1 ∨ p = 2 ∨ p = 3 := by omega
 have hq : q = 0 ∨ q = 1 ∨ q = 2 ∨ q = 3 := by omega
 rcases hp with rfl | rfl | rfl | rfl <;> rcases hq with rfl | rfl | rfl | rfl <;> simp only [casF, csF, List.foldl, Int.reduceEq, if_true, if_false] <;> omega
theorem HO {g : Int → Int} {t q : Int} (hg : ∀ x, Pin t x → Pin t (g x)) (hq : ∀ x, Pin t x → x ≤ q → g x ≤ q) : ∀ k p, Pin t p → p ≤ q → gZ g k p ≤ q
 | 0, p, _, h => h
 | k + 1, p, hp, h => by
  unfold gZ
  split
  ·exact h
  ·exact HO hg hq k _ (hg p hp) (hq p hp h)
def VLe (P : List Fn) (V V' : List UInt8 → List Int → Int) : Prop := ∀ n l l', ¬ cK P n l.length → inT ((hdF P n).params.map Pm.type) l = true → inT ((hdF P n).params.map Pm.type) l' = true → LeL l l' → V n l ≤ V' n l'
def PMo (P : List Fn) (V V' : List UInt8 → List Int → Int) (e : Ex) : Prop := ∀ ⦃env : List Pm⦄ ⦃N M : Nls⦄ ⦃t : Int⦄, Sh e → aJ t → bP P env e t = [] → EnvR env N → EnvR env M → LeN N M → ptF V e N ≤ ptF V' e M
theorem AW {V V' : List UInt8 → List Int → Int} {N M : Nls} : ∀ (l : List Ex), (∀ (k : Nat) x, l[k]? = some x → ptF V x N ≤ ptF V' x M) → LeL (ptL V l N) (ptL V' l M)
 | [], _ => trivial
 | x :: xs, h => ⟨h 0 x rfl, AW xs fun k y hy => h (k + 1) y (by simpa using hy)⟩
theorem N_ {P : List Fn} {V V' : List UInt8 → List Int → Int} (hP : PT P) (hV : VOk P V) (hV' : VOk P V') (hVV : VLe P V V') (op : Int) (n tl : List UInt8) (ty : Int) (z : Cx) (args : List Ex) (p : Int) (ih : ∀ x ∈ args, PMo P V V' x) : PMo P V V' (.mk op n tl ty z args p) := by
 intro env N M t hs ht hw he he' hNM
 unfold Sh at hs
 obtain ⟨hsh, hss⟩ := hs
 unfold bP at hw
 rw [List.append_eq_nil_iff] at hw
 obtain ⟨hw, hown⟩ := hw
 have hown' : cY op ∨ b8 P env op n ty args.length = t := by
  apply Classical.byContradiction
  intro g
  rw [if_neg g] at hown; simp at hown
 have hbad : op = 7 → ¬ cK P n args.length := by
  intro h7 hb
  subst h7
  rcases hown' with h | h
  ·unfold cY at h; omega
  ·unfold b8 at h
   rw [if_neg (by omega), if_neg (by omega), if_neg (by omega), if_neg (by omega), if_pos rfl, if_pos hb] at h
   unfold aJ at ht; omega
 have hws : cG P env op n tl ty t 0 args = [] := by
  by_cases h7 : op = 7 ∧ cK P n args.length
  ·exact absurd h7.2 (hbad h7.1)
  ·rw [if_neg h7] at hw; exact hw
 have harg : ∀ k x, args[k]? = some x → bP P (aM env op n tl ty k) x (aL P op n ty k t) = [] := fun k x hx => by
  have := rN args 0 k x hws hx
  rwa [Nat.zero_add] at this
 have hin : ∀ k, k < args.length → ∀ {env' : List Pm} {M : Nls}, aM env op n tl ty k = env' → EnvR env' M → aJ (aL P op n ty k t) → Pin (aL P op n ty k t) (ptI V args k M) ∧ Pin (aL P op n ty k t) (ptI V' args k M) := fun k hk env' M hen hM htw => by
  have hx := List.getElem?_eq_getElem hk
  rw [eS args k _ hx, eS args k _ hx]
  have hm := List.getElem_mem hk
  exact ⟨wQ hP hV _ (jE hss hm) htw (by rw [← hen]; exact harg k _ hx) hM, wQ hP hV' _ (jE hss hm) htw (by rw [← hen]; exact harg k _ hx) hM⟩
 have hmo : ∀ k, k < args.length → ∀ {env' : List Pm} {M M' : Nls}, aM env op n tl ty k = env' → EnvR env' M → EnvR env' M' → LeN M M' → aJ (aL P op n ty k t) → ptI V args k M ≤ ptI V' args k M' := fun k hk env' M M' hen hM hM' hle htw => by
  have hx := List.getElem?_eq_getElem hk
  rw [eS args k _ hx, eS args k _ hx]
  have hm := List.getElem_mem hk
  exact ih _ hm (jE hss hm) htw (by rw [← hen]; exact harg k _ hx) hM hM' hle
 unfold ptF
 unfold dX at hsh
 by_cases c1 : op = 1 ∨ op = 2 ∨ op = 3
 ·rw [if_pos c1, if_pos c1]; exact Int.le_refl _
 rw [if_neg c1, if_neg c1]
 have own_of : ¬ cY op → b8 P env op n ty args.length = t := fun h => hown'.resolve_left h
 by_cases c4 : op = 4
 ·rw [if_pos c4, if_pos c4]; exact Int.le_refl _
 rw [if_neg c4, if_neg c4]
 by_cases c5 : op = 5
 ·rw [if_pos c5, if_pos c5]; exact Int.le_refl _
 rw [if_neg c5, if_neg c5]
 by_cases c6 : op = 6
 ·rw [if_pos c6, if_pos c6]; exact yC n hNM
 rw [if_neg c6, if_neg c6]
 by_cases c19 : op = 19
 ·rw [if_pos c19, if_pos c19]
  subst c19
  have hl : args.length = 3 := by omega
  have w0 : aL P 19 n ty 0 t = 2 := by simp [aL]
  have w1 : aL P 19 n ty 1 t = t := by simp [aL]
  have w2 : aL P 19 n ty 2 t = t := by simp [aL]
  have o0 : aJ (aL P 19 n ty 0 t) := by rw [w0]; exact .inr (.inl rfl)
  have o1 : aJ (aL P 19 n ty 1 t) := by rw [w1]; exact ht
  have o2 : aJ (aL P 19 n ty 2 t) := by rw [w2]; exact ht
  have i0 := hin 0 (by omega) (env' := env) (by simp [aM]) he o0
  have i1 := hin 1 (by omega) (env' := env) (by simp [aM]) he' o1
  have m0 := hmo 0 (by omega) (env' := env) (by simp [aM]) he he' hNM o0
  have m1 := hmo 1 (by omega) (env' := env) (by simp [aM]) he he' hNM o1
  have m2 := hmo 2 (by omega) (env' := env) (by simp [aM]) he he' hNM o2
  rw [w0] at i0
  rw [w1] at i1
  unfold Pin at i0 i1
  by_cases z0 : ptI V args 0 N = 0
  ·rw [if_pos z0]
   split <;> omega
  ·rw [if_neg z0, if_neg (by omega)]; omega
 rw [if_neg c19, if_neg c19]
 by_cases c20 : op = 20
 ·rw [if_pos c20, if_pos c20]
  subst c20
  have hl : args.length = 3 := by omega
  have w0 : aL P 20 n ty 0 t = 3 := by simp [aL]
  have w1 : aL P 20 n ty 1 t = t := by simp [aL]
  have w2 : aL P 20 n ty 2 t = t := by simp [aL]
  have o0 : aJ (aL P 20 n ty 0 t) := by rw [w0]; exact .inr (.inr rfl)
  have i0 := (hin 0 (by omega) (env' := env) (by simp [aM]) he o0).1
  have i0' := (hin 0 (by omega) (env' := env) (by simp [aM]) he' o0).2
  have m0 := hmo 0 (by omega) (env' := env) (by simp [aM]) he he' hNM o0
  rw [w0] at i0 i0'
  unfold Pin at i0 i0'
  rw [sF] at i0 i0'
  refine K9 i0.1 m0 i0'.2 ?_ ?_
  ·exact hmo 1 (by omega) (env' := env) (by simp [aM]) he he' hNM (by rw [w1]; exact ht)
  ·intro a b a' b' p1 p2 p3 p4 l1 l2
   exact hmo 2 (by omega) (env' := (env ++ [⟨n, 1, 0⟩]) ++ [⟨tl, 3, 0⟩]) (by simp [aM]) ((he.one p1).one p2) ((he'.one p3).one p4) (LeN.cons l2 (LeN.cons l1 hNM)) (by rw [w2]; exact ht)
 rw [if_neg c20, if_neg c20]
 by_cases c21 : op = 21
 ·rw [if_pos c21, if_pos c21]
  subst c21
  have hl : args.length = 2 ∧ aJ ty := by
   unfold aJ at *; omega
  have w0 : aL P 21 n ty 0 t = ty := by simp [aL]
  have w1 : aL P 21 n ty 1 t = t := by simp [aL]
  have o0 : aJ (aL P 21 n ty 0 t) := by rw [w0]; exact hl.2
  have hty := mI hl.2
  have g1 : ∀ q, Pin ty q → Pin ty (ptI V args 0 ((n, q) :: N)) := fun q hq => by
   have a0 := (hin 0 (by omega) (env' := env ++ [⟨n, ty, 0⟩]) (by simp [aM]) (he.one hq) o0).1
   rw [w0] at a0; exact a0
  have g2 : ∀ q, Pin ty q → Pin ty (ptI V' args 0 ((n, q) :: M)) := fun q hq => by
   have a0 := (hin 0 (by omega) (env' := env ++ [⟨n, ty, 0⟩]) (by simp [aM]) (he'.one hq) o0).2
   rw [w0] at a0; exact a0
  have z0 : Pin ty 0 := by unfold Pin; omega
  have hp := tM (g := fun q => ptI V args 0 ((n, q) :: N)) g1 4 0 z0
  have hp' := tM (g := fun q => ptI V' args 0 ((n, q) :: M)) g2 4 0 z0
  have hend := AS (g := fun q => ptI V' args 0 ((n, q) :: M)) hl.2 g2 4 0 z0 (by have := tp_le3' ty; omega)
  have hle := HO (g := fun q => ptI V args 0 ((n, q) :: N)) (q := gZ (fun q => ptI V' args 0 ((n, q) :: M)) 4 0) g1 (fun x hx hxq => Int.le_trans (hmo 0 (by omega) (env' := env ++ [⟨n, ty, 0⟩]) (by simp [aM]) (he.one hx) (he'.one hp') (LeN.cons hxq hNM) o0) hend) 4 0 z0 hp'.1
  exact hmo 1 (by omega) (env' := env ++ [⟨n, ty, 0⟩]) (by simp [aM]) (he.one hp) (he'.one hp') (LeN.cons hle hNM) (by rw [w1]; exact ht)
 rw [if_neg c21, if_neg c21]
 by_cases c22 : op = 22
 ·rw [if_pos c22, if_pos c22]
  subst c22
  have hl : args.length = 2 ∧ aJ ty := by
   unfold aJ at *; omega
  have w0 : aL P 22 n ty 0 t = ty := by simp [aL]
  have w1 : aL P 22 n ty 1 t = t := by simp [aL]
  have o0 : aJ (aL P 22 n ty 0 t) := by rw [w0]; exact hl.2
  have o1 : aJ (aL P 22 n ty 1 t) := by rw [w1]; exact ht
  have i0 := (hin 0 (by omega) (env' := env) (by simp [aM]) he o0).1
  have i0' := (hin 0 (by omega) (env' := env) (by simp [aM]) he' o0).2
  have m0 := hmo 0 (by omega) (env' := env) (by simp [aM]) he he' hNM o0
  rw [w0] at i0 i0'
  have hm1 := hmo 1 (by omega) (env' := env ++ [⟨n, ty, 0⟩]) (by simp [aM]) (he.one i0) (he'.one i0') (LeN.cons m0 hNM) o1
  have i1 := (hin 1 (by omega) (env' := env ++ [⟨n, ty, 0⟩]) (by simp [aM]) (he'.one i0') o1).2
  unfold Pin at i1
  by_cases z0 : 0 < ptI V args 0 N
  ·rw [if_pos z0, if_pos (by omega)]; exact hm1
  ·rw [if_neg z0]
   split <;> omega
 rw [if_neg c22, if_neg c22]
 have h := own_of (by unfold cY; omega)
 have hjn : ∀ k, k < args.length → aJ (aL P op n ty k t) ∧ aM env op n tl ty k = env := by
  intro k hk
  have d1 : ¬ (op = 21 ∨ op = 22 ∧ k = 1) := by omega
  have d2 : ¬ (op = 20 ∧ k = 2) := by omega
  refine ⟨?_, by unfold aM; rw [if_neg d1, if_neg d2]⟩
  by_cases c7 : op = 7
  ·have hbb := hbad c7
   unfold cK at hbb
   have hlen : (hdF P n).params.length = args.length := by omega
   have hkp : k < (hdF P n).params.length := by omega
   have hfm : hdF P n ∈ P := xD (by omega)
   have w : aL P op n ty k t = ((hdF P n).params[k]).type := by subst c7; simp [aL, List.getElem?_eq_getElem hkp]
   rw [w]; exact (hP _ hfm).2 _ (List.getElem_mem hkp)
  ·have d3 : ¬ (op = 21 ∨ op = 22) := by omega
   unfold aL aJ
   by_cases c14 : op = 14
   ·simp [c14]
   ·by_cases c18 : op = 18
    ·by_cases hk1 : k = 1 <;> simp [c18, hk1]
    ·rw [if_neg c14, if_neg c18, if_neg c7, if_neg c19, if_neg c20, if_neg d3]; simp
 have hL : LeL (ptL V args N) (ptL V' args M) := AW args fun k x hx => by
  have hk : k < args.length := (List.getElem?_eq_some_iff.1 hx).1
  obtain ⟨o, w⟩ := hjn k hk
  have := hmo k hk w he he' hNM o
  rwa [eS args k _ hx, eS args k _ hx] at this
 have hpi : ∀ k, k < args.length → Pin (aL P op n ty k t) ((ptL V args N)[k]?.getD 0) ∧ Pin (aL P op n ty k t) ((ptL V' args M)[k]?.getD 0) := fun k hk => by
  have hy := List.getElem?_eq_getElem hk
  obtain ⟨o, w⟩ := hjn k hk
  have h1 := (hin k hk w he o).1
  have h2 := (hin k hk w he' o).2
  rw [eS args k _ hy] at h1 h2
  rw [mO args k _ hy, mO args k _ hy]
  exact ⟨h1, h2⟩
 unfold mM
 by_cases c18 : op = 18
 ·rw [if_pos c18, if_pos c18]
  have l0 := hL.get.2 0
  have l1 := hL.get.2 1
  unfold cnF
  omega
 rw [if_neg c18, if_neg c18]
 by_cases c7 : op = 7
 ·rw [if_pos c7, if_pos c7]
  have hb := hbad c7
  have hbb := hb
  unfold cK at hbb
  have hlen : (hdF P n).params.length = args.length := by omega
  refine hVV n _ _ (by rw [kG]; exact hb) (sD _ _ (by rw [kG, List.length_map, hlen]) fun k u hu => ?_) (sD _ _ (by rw [kG, List.length_map, hlen]) fun k u hu => ?_) hL
  ·obtain ⟨x, hx, rfl⟩ := rD hu
   have hk : k < args.length := by rw [← hlen]; exact (List.getElem?_eq_some_iff.1 hx).1
   have h2 := (hpi k hk).1
   subst c7
   have w : aL P 7 n ty k t = x.type := by simp [aL, hx]
   rw [w] at h2; exact h2
  ·obtain ⟨x, hx, rfl⟩ := rD hu
   have hk : k < args.length := by rw [← hlen]; exact (List.getElem?_eq_some_iff.1 hx).1
   have h2 := (hpi k hk).2
   subst c7
   have w : aL P 7 n ty k t = x.type := by simp [aL, hx]
   rw [w] at h2; exact h2
 rw [if_neg c7, if_neg c7]
 exact AA hL (Int.le_refl _)
mutual
theorem DG {P : List Fn} {V V' : List UInt8 → List Int → Int} (hP : PT P) (hV : VOk P V) (hV' : VOk P V') (hVV : VLe P V V') : ∀ e : Ex, PMo P V V' e
 | .mk op n tl ty z args p => N_ hP hV hV' hVV op n tl ty z args p (BN hP hV hV' hVV args)
theorem BN {P : List Fn} {V V' : List UInt8 → List Int → Int} (hP : PT P) (hV : VOk P V) (hV' : VOk P V') (hVV : VLe P V V') : ∀ l : List Ex, ∀ x ∈ l, PMo P V V' x
 | [], x, h => by simp at h
 | y :: ys, x, h => by
  rcases List.mem_cons.1 h with e | h
  ·rw [e]; exact DG hP hV hV' hVV y
  ·exact BN hP hV hV' hVV ys x h
end
set_option maxRecDepth 1000000
set_option maxHeartbeats 0
noncomputable def cf76 : Cfg := ⟨Tryz.prog, 17, [0, 1, 2, 6, 7], [10, 16]⟩
@[simp] theorem cfP76 : cf76.P = Tryz.prog := (rfl)
noncomputable def cf107 : Cfg := ⟨Tryz.prog, 17, [0, 1, 2, 4, 5], []⟩
@[simp] theorem cfP107 : cf107.P = Tryz.prog := (rfl)
noncomputable def cf32 : Cfg := ⟨Tryz.prog, 22, [0, 1, 2, 3, 4], [20]⟩
noncomputable def lb32_0 : AC :=
 .seq (.ifr [JA 5 4, JG 6 1 1, JD 7 1 6, JO 8 (.len false (.t 7)), JO 9 (.bin .lss 3 (.t 5) (.t 8))] (.t 9) .skip (.exit 0)) (.seq (.block 1 (.reg [JA 12 3, JG 13 1 1, JD 14 1 13, JA 15 4, JL 16 3 14 15, JH 17 1 16, JD 18 1 17, JO 19 (.bsl 1 1 [JV] [(0, 1, .t 18)]), JO 20 (.app 1 8 [JV] (.t 12) (.t 19)), JB 3 20])) (.reg [JA 10 4, JO 11 (.bin .add 3 (.t 10) (JT 1)), JB 4 11]))
noncomputable def ac32 : AC :=
 (.seq (.reg [JN 1 0, JP 2 (.mv (.c (.slice none 0 0)))]) (.seq (.reg [JP 3 (.mv (.c (.slice none 0 0)))]) (.seq (.seq (.reg [JI 4 0]) (.block 0 (.loop lb32_0))) (.seq (.reg [JA 21 3, JB 2 21]) .ret))))
theorem fi32 : FI Tryz.prog 32 cf32 ac32 [.t 2] [0, 1, 2, 3, 4] 22 := FI_of (c := Tryz.f32.body.getD .skip) Tryz.func32 (by kernel_rfl) (by rfl) (by rfl) (by kernel_rfl) (by kernel_rfl) rfl rfl rfl
@[simp] theorem cfP32 : cf32.P = Tryz.prog := (rfl)
noncomputable def cf43 : Cfg := ⟨Tryz.prog, 155, [0, 1, 2, 4, 6, 7, 8, 9, 10, 11, 12, 13, 14, 15, 16, 18, 19], [150]⟩
@[simp] theorem cfP43 : cf43.P = Tryz.prog := (rfl)
noncomputable def cf75 : Cfg := ⟨Tryz.prog, 62, [0, 1, 2, 4, 6, 7, 8, 9, 10, 11, 12], []⟩
@[simp] theorem cfP75 : cf75.P = Tryz.prog := (rfl)
noncomputable def cf77 : Cfg := ⟨Tryz.prog, 72, [0, 1, 2, 4, 6, 7, 8, 10, 11, 13], []⟩
@[simp] theorem cfP77 : cf77.P = Tryz.prog := (rfl)
noncomputable def cf40 : Cfg := ⟨Tryz.prog, 96, [0, 1, 2, 4, 5, 6, 7, 8, 9, 10, 11, 12], [27, 92]⟩
@[simp] theorem cfP40 : cf40.P = Tryz.prog := (rfl)
noncomputable def cf12 : Cfg := ⟨Tryz.prog, 74, [0, 1, 2, 3, 4, 7, 8, 9, 10, 11, 12, 13, 14, 15, 17], [49, 57]⟩
@[simp] theorem cfP12 : cf12.P = Tryz.prog := (rfl)
noncomputable def cf20 : Cfg := ⟨Tryz.prog, 57, [0, 1, 2, 3, 4, 8, 9, 10, 11, 13], []⟩
@[simp] theorem cfP20 : cf20.P = Tryz.prog := (rfl)
noncomputable def cf52 : Cfg := ⟨Tryz.prog, 43, [0, 1, 2, 6, 7, 8, 9], [37]⟩
@[simp] theorem cfP52 : cf52.P = Tryz.prog := (rfl)
noncomputable def cf56 : Cfg := ⟨Tryz.prog, 47, [0, 1, 4, 5, 6, 7, 8, 10], [45]⟩
@[simp] theorem cfP56 : cf56.P = Tryz.prog := (rfl)
noncomputable def cf22 : Cfg := ⟨Tryz.prog, 54, [0, 1, 2, 3, 6, 7, 8, 9], []⟩
@[simp] theorem cfP22 : cf22.P = Tryz.prog := (rfl)
noncomputable def cf42 : Cfg := ⟨Tryz.prog, 23, [0, 1, 2, 3, 5, 6, 7, 8, 9], []⟩
@[simp] theorem cfP42 : cf42.P = Tryz.prog := (rfl)
set_option maxRecDepth 100000
set_option maxHeartbeats 4000000
def encX (x : List UInt8 × Int) : List D := [Tx x.1, I x.2]
def fI (f : Fn) : List Int := f.params.map Pm.type
theorem MP (f : Fn) (hl : f.params.length < 2 ^ 40) : Pure Tryz.prog 32 [.agg (aZ f)] (.sl (em aT (fI f))) := by
 refine fi32.pu (by simp [aS]) ?_
 simp -implicitDefEqProofs [ac32, aS]
 refine cT (j := 3) (k := 1) rfl (.inl rfl) ?_
 refine lpG cf32 lb32_0 [3, 4] (α := Nat × Nat) (fun s _ => [(3, .osl 4 s.2 0 s.1), (4, I s.1)]) (fun s _ => [(4, .arr s.2 1 (em aT ((fI f).take s.1)))]) (fun s k => 4 < k ∧ s.1 ≤ f.params.length) (fun s => f.params.length - s.1) (0, 0) ⟨by omega, by simp⟩ (by simp [upd]) (by simp) ?_
 rintro ⟨i, v⟩ k ⟨hk, hi⟩
 simp only at hi hk
 have hle : ((fI f).take i).length = i := by rw [List.length_take]; simp [fI]; omega
 by_cases hlt : i < f.params.length
 ·have w1 := aR (x := (i : Int) + 1) (by omega) (by omega)
  obtain ⟨x, hx⟩ : ∃ x, f.params[i] = x := ⟨_, rfl⟩
  have hnext : (fI f).take i ++ [x.type] = (fI f).take (i + 1) := by
   rw [List.take_add_one, fI, List.getElem?_map, List.getElem?_eq_getElem hlt, hx]; rfl
  have e1 : em aT ((fI f).take i) ++ [[I x.type]] = em aT ((fI f).take (i + 1)) := by rw [← hnext]; exact fW (enc := aT)
  have b1 : (i + 1) * 8 ≤ 3 * 2 ^ 46 := by omega
  have e3 : (em aT ((fI f).take i)).take i = em aT ((fI f).take i) := List.take_of_length_le (by simp [em]; omega)
  simp -implicitDefEqProofs [lb32_0, hlt, hx, w1, hle, b1, e1, e3]
  exact aK (i + 1, v + 1) ⟨by omega, hlt⟩ (by simp only; omega) (by simp) (by simp)
 ·have hil : i = f.params.length := by omega
  subst hil
  have e4 : (fI f).take f.params.length = fI f := List.take_of_length_le (by simp [fI])
  simp -implicitDefEqProofs [lb32_0, hle, e4]
  simp [fI]
def encQ (x : Tt) : List D := [.sl (em aT (cl x.n x.l))]
abbrev rsD (P : List Fn) (T : List Tt) : D := .pt [.sl (em aZ P), .sl (em encQ T)]
set_option maxHeartbeats 8000000
abbrev nmD (N : Nls) : D := .sl (em encX N.reverse)
structure RPts (P : List Fn) (T : List Tt) (env : List Pm) (N0 : Nat) (op : Int) (n tl : List UInt8) (ty t : Int) (args : List Ex) : Prop where
 c : ∀ k (hk : k < args.length) ⦃env' : List Pm⦄ ⦃M : Nls⦄, aM env op n tl ty k = env' → EnvR env' M → M.length ≤ N0 + 2 → aJ (aL P op n ty k t) → Pure Tryz.prog 43 [rsD P T, exD args[k], nmD M] (I (ptI (bB P T) args k M))
 i : ∀ k, k < args.length → ∀ ⦃env' : List Pm⦄ ⦃M : Nls⦄, aM env op n tl ty k = env' → EnvR env' M → aJ (aL P op n ty k t) → Pin (aL P op n ty k t) (ptI (bB P T) args k M)
theorem i9 {P : List Fn} (h : c8 P) : P.length ≤ 2 ^ 21 ∧ ∀ f ∈ P, size f.body ≤ 2 ^ 21 ∧ f.params.length ≤ 2 ^ 21 := by
 obtain ⟨ms, a, b, _, hl, hr, hb, hF, _⟩ := h
 obtain ⟨k1, k2⟩ := nD P a b hF
 exact ⟨by omega, fun f hf => by have := k2 f hf; omega⟩
theorem tys_c {P : List Fn} {f : Fn} (hk : c8 P) (hf : f ∈ P) : Pure Tryz.prog 32 [.agg [Tx f.name, .sl (em cD f.params), I f.type, I f.body.op, Tx f.body.name, Tx f.body.tail, I f.body.type, CX f.body.num.re f.body.num.im, .sl (em aU f.body.args), I f.body.at', I f.at']] (.sl (em aT (aO f))) := by
 have h := MP f (by have := ((i9 hk).2 f hf).2; omega)
 rw [aS] at h
 exact h
set_option maxRecDepth 1000000
set_option maxHeartbeats 0
noncomputable def cf9 : Cfg := ⟨Tryz.prog, 55, [0, 2, 3, 4, 5, 6, 7, 8], []⟩
noncomputable def lb9_0 : AC :=
 .seq (.ifr [JA 30 6, JG 31 0 4, JD 32 1 31, JO 33 (.len false (.t 32)), JO 34 (.bin .lss 3 (.t 30) (.t 33))] (.t 34) .skip (.exit 0)) (.seq (.block 1 (.seq (.reg [JG 38 0 4, JD 39 1 38, JA 40 6, JL 41 11 39 40, JE 42 11 41, JO 43 (.pc (.f 32) [.t 42]), JO 44 (.pc (.f 31) [.t 43]), JC 37 44, JK 45 0 37, JK 46 1 37, JB 7 45, JB 8 46]) (.ifr [JA 47 8, JO 48 (.bin .neq 3 (.t 47) (JT 0)), JC 49 48, JR 50 49 (.mv (.g 7)), JR 51 49 (.bin .gtr 3 (.t 50) (JT 256)), JO 52 (.pick (.t 49) JX (.t 51))] (.t 52) (.seq (.reg [JF 53 1 4, JQ (.st 1 (.g 2) (.t 53)), JP 3 (.mv JY)]) .ret) .skip))) (.reg [JA 35 6, JO 36 (.bin .add 3 (.t 35) (JT 1)), JB 6 36]))
noncomputable def ac9 : AC :=
 (.seq (.reg [JP 2 (.al [JW]), JP 3 (.mv JY)]) (.seq (.reg [JA 10 0, JO 11 (.pc (.f 30) []), JO 12 (.pc (.f 29) [.t 10, .t 11]), JC 9 12, JK 13 0 9, JK 14 1 9, JP 4 (.al [JW]), JP 5 (.al [JV, JV]), JQ (.st 1 (.g 4) (.t 13)), JQ (.st 2 (.g 5) (.t 14))]) (.seq (.ifr [JG 15 0 5, JD 16 1 15, JO 17 (.bin .neq 52 (.t 16) (JT 0)), JC 18 17, JR 19 18 (.fa 0 (.g 4)), JR 20 18 (.ld false 1 (.t 19)), JR 21 18 (.len false (.t 20)), JR 22 18 (.bin .gtr 3 (.t 21) (JT 40)), JO 23 (.pick (.t 18) JX (.t 22)), JC 24 23, JR 25 24 (.mv (.g 0)), JR 26 24 (.len false (.t 25)), JR 27 24 (.bin .gtr 3 (.t 26) (JT 8192)), JO 28 (.pick (.t 24) JX (.t 27))] (.t 28) (.seq (.reg [JF 29 1 4, JQ (.st 1 (.g 2) (.t 29)), JP 3 (.mv JY)]) .ret) .skip) (.seq (.seq (.reg [JI 6 0]) (.block 0 (.loop lb9_0))) (.seq (.reg [JF 54 1 4, JQ (.st 1 (.g 2) (.t 54)), JP 3 (.mv JX)]) .ret)))))
theorem fi9 : FI Tryz.prog 9 cf9 ac9 [.c 2 true 1, .t 3] [0, 2, 3, 4, 5, 6, 7, 8] 55 := FI_of (c := Tryz.f9.body.getD .skip) Tryz.func9 (by kernel_rfl) (by rfl) (by rfl) (by kernel_rfl) (by kernel_rfl) rfl rfl rfl
@[simp] theorem cfP9 : cf9.P = Tryz.prog := (rfl)
noncomputable def cf10 : Cfg := ⟨Tryz.prog, 78, [0, 1, 2, 4, 5, 6, 7, 8, 9, 11, 12], [32, 74, 76]⟩
noncomputable def lb10_0 : AC :=
 .seq (.ifr [JA 33 12, JA 34 9, JO 35 (.bin .lss 3 (.t 33) (.t 34)), JC 36 35, JS 37 36 (.mv (.g 1)), JS 38 36 (.len false (.t 37)), JS 39 36 (.bin .gtr 3 (.t 38) (JT 0)), JO 40 (.pick (.t 36) (.t 39) JY)] (.t 40) .skip (.exit 2)) (.seq (.block 3 (.seq (.reg [JA 43 11, JA 44 12, JA 45 1, JA 46 6, JA 47 1, JO 48 (.len false (.t 47)), JO 49 (.bin .rem 3 (.t 46) (.t 48)), JL 50 1 45 49, JD 51 1 50, JO 52 (.cv 5 3 (.t 51)), JG 53 0 2, JD 54 1 53, JA 55 7, JL 56 11 54 55, JH 57 2 56, JD 58 1 57, JO 59 (.pc (.f 33) [.t 58]), JO 60 (.bin .add 3 (.t 59) (JT 1)), JO 61 (.bin .rem 3 (.t 52) (.t 60)), JL 62 1 43 44, JQ (.st 1 (.t 62) (.t 61))]) (.reg [JA 63 6, JO 64 (.bin .add 3 (.t 63) (JT 1)), JB 6 64]))) (.reg [JA 41 12, JO 42 (.bin .add 3 (.t 41) (JT 1)), JB 12 42]))
noncomputable def lb10_1 : AC :=
 .seq (.ifr [JA 13 7, JG 14 0 2, JD 15 1 14, JO 16 (.len false (.t 15)), JO 17 (.bin .lss 3 (.t 13) (.t 16))] (.t 17) .skip (.exit 0)) (.seq (.block 1 (.seq (.reg [JG 20 0 2, JD 21 1 20, JA 22 7, JL 23 11 21 22, JE 24 11 23, JO 25 (.pc (.f 32) [.t 24]), JB 8 25]) (.seq (.reg [JA 27 8, JO 28 (.pc (.f 31) [.t 27]), JC 26 28, JK 29 0 26, JK 30 1 26, JB 9 29, JC 10 30]) (.seq (.reg [JA 31 9, JO 32 (.mks 1 8 [JV] (.t 31)), JB 11 32]) (.seq (.seq (.reg [JI 12 0]) (.block 2 (.loop lb10_0))) (.reg [JA 65 5, JA 66 8, JG 67 0 2, JD 68 1 67, JA 69 7, JL 70 11 68 69, JH 71 2 70, JD 72 1 71, JA 73 11, JO 74 (.cl (.f 34) [.t 66, .t 72, .t 73]), JO 75 (.bsl 4 1 [JW, JV, JV, JW] [(0, 4, .t 74)]), JO 76 (.app 4 64 [JW, JV, JV, JW] (.t 65) (.t 75)), JB 5 76])))))) (.reg [JA 18 7, JO 19 (.bin .add 3 (.t 18) (JT 1)), JB 7 19]))
noncomputable def ac10 : AC :=
 (.seq (.reg [JN 2 0, JP 4 (.mv (.c (.slice none 0 0)))]) (.seq (.reg [JP 5 (.mv (.c (.slice none 0 0)))]) (.seq (.reg [JI 6 0]) (.seq (.seq (.reg [JI 7 0]) (.block 0 (.loop lb10_1))) (.seq (.reg [JA 77 5, JB 4 77]) .ret)))))
theorem fi10 : FI Tryz.prog 10 cf10 ac10 [.t 4] [0, 1, 2, 4, 5, 6, 7, 8, 9, 11, 12] 78 := FI_of (c := Tryz.f10.body.getD .skip) Tryz.func10 (by kernel_rfl) (by rfl) (by rfl) (by kernel_rfl) (by kernel_rfl) rfl rfl rfl
@[simp] theorem cfP10 : cf10.P = Tryz.prog := (rfl)
noncomputable def cf8 : Cfg := ⟨Tryz.prog, 62, [0, 1, 3, 4, 5, 6, 7, 8, 9], [11, 12]⟩
noncomputable def ac8 : AC :=
 (.seq (.reg [JP 0 (.mv JY)]) (.seq (.reg [JO 11 (.bso 1 60 [.int .u8 0] [(0, 1, .c (.int .u8 103)), (1, 1, .c (.int .u8 40)), (2, 1, .c (.int .u8 108)), (3, 1, .c (.int .u8 32)), (4, 1, .c (.int .u8 76)), (5, 1, .c (.int .u8 41)), (6, 1, .c (.int .u8 58)), (7, 1, .c (.int .u8 76)), (8, 1, .c (.int .u8 61)), (9, 1, .c (.int .u8 108)), (10, 1, .c (.int .u8 59)), (11, 1, .c (.int .u8 102)), (12, 1, .c (.int .u8 40)), (13, 1, .c (.int .u8 108)), (14, 1, .c (.int .u8 32)), (15, 1, .c (.int .u8 76)), (16, 1, .c (.int .u8 41)), (17, 1, .c (.int .u8 58)), (18, 1, .c (.int .u8 78)), (19, 1, .c (.int .u8 61)), (20, 1, .c (.int .u8 99)), (21, 1, .c (.int .u8 97)), (22, 1, .c (.int .u8 115)), (23, 1, .c (.int .u8 101)), (24, 1, .c (.int .u8 32)), (25, 1, .c (.int .u8 108)), (26, 1, .c (.int .u8 32)), (27, 1, .c (.int .u8 111)), (28, 1, .c (.int .u8 102)), (29, 1, .c (.int .u8 32)), (30, 1, .c (.int .u8 110)), (31, 1, .c (.int .u8 105)), (32, 1, .c (.int .u8 108)), (33, 1, .c (.int .u8 45)), (34, 1, .c (.int .u8 62)), (35, 1, .c (.int .u8 49)), (36, 1, .c (.int .u8 124)), (37, 1, .c (.int .u8 104)), (38, 1, .c (.int .u8 58)), (39, 1, .c (.int .u8 116)), (40, 1, .c (.int .u8 45)), (41, 1, .c (.int .u8 62)), (42, 1, .c (.int .u8 104)), (43, 1, .c (.int .u8 59)), (44, 1, .c (.int .u8 107)), (45, 1, .c (.int .u8 40)), (46, 1, .c (.int .u8 108)), (47, 1, .c (.int .u8 32)), (48, 1, .c (.int .u8 76)), (49, 1, .c (.int .u8 41)), (50, 1, .c (.int .u8 58)), (51, 1, .c (.int .u8 76)), (52, 1, .c (.int .u8 61)), (53, 1, .c (.int .u8 103)), (54, 1, .c (.int .u8 40)), (55, 1, .c (.int .u8 49)), (56, 1, .c (.int .u8 58)), (57, 1, .c (.int .u8 108)), (58, 1, .c (.int .u8 41)), (59, 1, .c (.int .u8 59))]), JO 12 (.cvo (.t 11)), JO 13 (.pc (.f 9) [.t 12]), JC 10 13, JK 14 0 10, JK 15 1 10, JP 1 (.al [JW]), JQ (.st 1 (.g 1) (.t 14)), JC 2 15]) (.seq (.reg [JF 16 1 1, JO 17 (.bsl 1 12 [.int .u8 0] [(0, 1, .c (.int .u8 0)), (1, 1, .c (.int .u8 1)), (2, 1, .c (.int .u8 2)), (3, 1, .c (.int .u8 3)), (4, 1, .c (.int .u8 0)), (5, 1, .c (.int .u8 0)), (6, 1, .c (.int .u8 0)), (7, 1, .c (.int .u8 0)), (8, 1, .c (.int .u8 0)), (9, 1, .c (.int .u8 1)), (10, 1, .c (.int .u8 2)), (11, 1, .c (.int .u8 3))]), JO 18 (.pc (.f 10) [.t 16, .t 17]), JB 3 18]) (.seq (.reg [JF 20 1 1, JA 21 3, JO 22 (.bsl 1 1 [JV] [(0, 1, .c (.int .i64 2))]), JO 23 (.pc (.f 19) [.t 20, .t 21, .c (.int .i64 1), .t 22]), JC 19 23, JK 24 0 19, JK 25 1 19, JB 4 24, JB 5 25]) (.seq (.reg [JF 27 1 1, JA 28 3, JO 29 (.bsl 1 1 [JV] [(0, 1, .c (.int .i64 2))]), JO 30 (.pc (.f 19) [.t 27, .t 28, .c (.int .i64 2), .t 29]), JC 26 30, JK 31 0 26, JK 32 1 26, JB 6 31, JB 7 32]) (.seq (.reg [JF 34 1 1, JA 35 3, JO 36 (.bsl 1 1 [JV] [(0, 1, .c (.int .i64 0))]), JO 37 (.pc (.f 19) [.t 34, .t 35, .c (.int .i64 1), .t 36]), JC 33 37, JK 38 0 33, JK 39 1 33, JB 8 38, JB 9 39]) (.seq (.reg [JA 40 4, JO 41 (.bin .eql 49 (.t 40) (JT 1)), JC 42 41, JS 43 42 (.mv (.g 5)), JS 44 42 (.bin .eql 52 (.t 43) (JT 0)), JO 45 (.pick (.t 42) (.t 44) JY), JC 46 45, JS 47 46 (.mv (.g 6)), JS 48 46 (.bin .eql 49 (.t 47) (JT 2)), JO 49 (.pick (.t 46) (.t 48) JY), JC 50 49, JS 51 50 (.mv (.g 7)), JS 52 50 (.bin .eql 52 (.t 51) (JT 0)), JO 53 (.pick (.t 50) (.t 52) JY), JC 54 53, JS 55 54 (.mv (.g 8)), JS 56 54 (.bin .eql 49 (.t 55) (JT 0)), JO 57 (.pick (.t 54) (.t 56) JY), JC 58 57, JS 59 58 (.mv (.g 9)), JS 60 58 (.bin .eql 52 (.t 59) (JT 0)), JO 61 (.pick (.t 58) (.t 60) JY), JB 0 61]) .ret)))))))
theorem fi8 : FI Tryz.prog 8 cf8 ac8 [.t 0] [0, 1, 3, 4, 5, 6, 7, 8, 9] 62 := FI_of (c := Tryz.f8.body.getD .skip) Tryz.func8 (by kernel_rfl) (by rfl) (by rfl) (by kernel_rfl) (by kernel_rfl) rfl rfl rfl
@[simp] theorem cfP8 : cf8.P = Tryz.prog := (rfl)
noncomputable def cf5 : Cfg := ⟨Tryz.prog, 113, [0, 1, 2, 3, 8, 9, 10, 11, 12, 13, 14, 15, 16, 17, 18, 19, 20, 21, 22, 23, 24], []⟩
@[simp] theorem cfP5 : cf5.P = Tryz.prog := (rfl)
set_option maxRecDepth 100000
set_option maxHeartbeats 8000000
def nW (t : List UInt8) (L : List Fn) (w : Int) : Prop := w = 0 ∧ L.length ≤ 40 ∧ t.length ≤ 8192 ∧ ∀ f ∈ L, (bX (aO f)).2 = 0 ∧ (bX (aO f)).1 ≤ 256
open Classical in
noncomputable def jZ (t : List UInt8) (L : List Fn) (w : Int) : Bool := decide (nW t L w)
theorem AY {t : List UInt8} {L : List Fn} {w p : Int} (h : vH t L w p) : Pure Tryz.prog 9 [.sl (em cC t)] (.tup [.agg [.sl (em aZ L)], B (jZ t L w)]) := by
 have hno : ¬ nW t L w → jZ t L w = false := fun h => by simp [jZ, h]
 have hyes : nW t L w → jZ t L w = true := fun h => by simp [jZ, h]
 obtain ⟨h1, h2, h3⟩ := h
 refine fi9.pu (by simp) ?_
 generalize jZ t L w = R at *
 simp -implicitDefEqProofs [ac9]
 refine aG (wide_c) (by simp) ?_
 simp -implicitDefEqProofs
 refine aG (h1) (by simp) ?_
 simp -implicitDefEqProofs
 by_cases hw : w = 0
 ·have hk := h2 hw
  by_cases hl : L.length ≤ 40
  ·have hli : (L.length : Int) ≤ (40 : Int) := by omega
   by_cases ht : t.length ≤ 8192
   ·have hti : (t.length : Int) ≤ (8192 : Int) := by omega
    simp -implicitDefEqProofs [hw, hli, hti, Int.not_lt.2 hli, Int.not_lt.2 hti]
    refine lpG cf9 lb9_0 [3, 6, 7, 8] (α := Nat) (fun s _ => [(3, .top), (6, I s)]) (fun s _ => [(9, .box [I 0, I p]), (8, .box [.sl (em aZ L)]), (0, .box [.pl (.slice none 0 0)])]) (fun s k => s ≤ L.length ∧ ∀ j (h : j < L.length), j < s → (bX (aO L[j])).2 = 0 ∧ (bX (aO L[j])).1 ≤ 256) (fun s => L.length - s) 0 ⟨by omega, fun j _ h => absurd h (by omega)⟩ (by simp) (aI _) ?_
    rintro i k ⟨hi, hall⟩
    by_cases hlt : i < L.length
    ·have hlti : (i : Int) < (L.length : Int) := by omega
     have w1 := aR (x := (i : Int) + 1) (by omega) (by omega)
     obtain ⟨f, hf⟩ : ∃ x, L[i] = x := ⟨_, rfl⟩
     have hfm : f ∈ L := by rw [← hf]; exact List.getElem_mem hlt
     have hs := i9 hk
     simp -implicitDefEqProofs [lb9_0, hlt, hlti, hf]
     refine aG (tys_c hk hfm) (by simp) ?_
     simp -implicitDefEqProofs
     refine aG (iV (aO f) (by have := (hs.2 f hfm).2; simp; omega)) (by simp) ?_
     by_cases h1 : (bX (aO f)).2 = 0
     ·by_cases h2 : (bX (aO f)).1 ≤ 256
      ·simp -implicitDefEqProofs [h1, h2, w1, Int.not_lt.2 h2]
       refine aK (i + 1) ⟨hlt, fun j h hj => ?_⟩ (by omega) (by simp) (aI _)
       by_cases e : j = i
       ·subst e; rw [hf]; exact ⟨h1, h2⟩
       ·exact hall j h (by omega)
      ·rw [hno (fun g => h2 (g.2.2.2 f hfm).2)]
       simp -implicitDefEqProofs [h1, h2, Int.not_le.1 h2]
     ·rw [hno (fun g => h1 (g.2.2.2 f hfm).1)]
      simp -implicitDefEqProofs [h1]
    ·have hil : i = L.length := by omega
     subst hil
     rw [hyes ⟨hw, hl, ht, fun f hf => by
      obtain ⟨j, hj, rfl⟩ := List.mem_iff_getElem.1 hf
      exact hall j hj hj⟩]
     simp -implicitDefEqProofs [lb9_0]
   ·have hti : ¬ (t.length : Int) ≤ (8192 : Int) := by omega
    rw [hno (fun g => ht g.2.2.1)]
    simp -implicitDefEqProofs [hw, hli, hti, Int.not_lt.2 hli, Int.not_le.1 hti]
  ·have hli : ¬ (L.length : Int) ≤ (40 : Int) := by omega
   rw [hno (fun g => hl g.2.1)]
   simp -implicitDefEqProofs [hw, hli, Int.not_le.1 hli]
 ·rw [hno (fun g => hw g.1)]
  simp -implicitDefEqProofs [hw]
def gE (s : List UInt8) (t : Int) (k : Nat) : Int := if s = [] then 0 else ((s[k % s.length]?.getD 0).toNat : Int) % (tp t + 1)
def pK (f : Fn) (s : List UInt8) (k : Nat) : Tt := ⟨aO f, f.type, pr (aO f), bD ((List.range (pr (aO f)).toNat).map fun j => gE s f.type (k + j))⟩
def b_ : List Fn → List UInt8 → Nat → List Tt
 | [], _, _ => []
 | f :: fs, s, k => pK f s k :: b_ fs s (k + (pr (aO f)).toNat)
def nO (P : List Fn) : Prop := P.length ≤ 40 ∧ ∀ f ∈ P, (bX (aO f)).2 = 0 ∧ (bX (aO f)).1 ≤ 256
theorem w9 {s : List UInt8} {t : Int} (ht : aJ t) (k : Nat) : 0 ≤ gE s t k ∧ gE s t k ≤ tp t := by
 have := mI ht
 unfold gE
 split
 ·omega
 ·have h1 := Int.emod_nonneg ((s[k % s.length]?.getD 0).toNat : Int) (by omega : tp t + 1 ≠ 0)
  have h2 := Int.emod_lt_of_pos ((s[k % s.length]?.getD 0).toNat : Int) (by omega : 0 < tp t + 1)
  omega
theorem AL (t : Int) : tp t ≤ 3 := by have := fK t; omega
theorem wV (l : List Tt) (x : Tt) : em cF l ++ [[.sl (em aT x.ps), I x.t, I x.n, .sl (em fG x.l)]] = em cF (l ++ [x]) := fW (enc := cF) (x := x)
theorem KM {P : List Fn} (hk : c8 P) (hs : nO P) (s : List UInt8) (hsl : s.length < 2 ^ 48) {mem : Mem} {nx : Nat} {K : KD} (hy : ∀ id ver nx', nx ≤ id → id < nx' → K (.osl id ver 0 P.length) ((id, .arr ver 4 (em cF (b_ P s 0))) :: mem) nx') : bI Tryz.prog 10 [.agg [.sl (em aZ P)], .sl (em cC s)] mem nx K := by
 obtain ⟨hPT, hPl, hsz⟩ := gO hk
 obtain ⟨hPs, hfs⟩ := i9 hk
 refine fi10.ct (by simp) fun hfr => ?_
 simp -implicitDefEqProofs [ac10]
 generalize hR : b_ P s 0 = R at hy
 obtain ⟨q0, hq0⟩ : ∃ q, nx + 5 = q := ⟨_, rfl⟩
 have hm0 : look mem q0 = none := hfr q0 (by omega)
 rw [hq0]
 refine cT (j := 5) (k := 4) rfl (.inl rfl) ?_
 refine lpG cf10 lb10_1 [5, 6, 7, 8, 9, 11, 12] (α := Nat × Nat × Nat × List Tt) (fun z _ => [(5, .osl q0 z.2.1 0 z.2.2.2.length), (6, I (if s = [] then 0 else (z.2.2.1 : Int))), (7, I z.1)]) (fun z _ => (q0, .arr z.2.1 4 (em cF z.2.2.2)) :: mem) (fun z k => q0 < k ∧ z.1 ≤ P.length ∧ z.2.2.2.length = z.1 ∧ z.2.2.1 ≤ z.1 * 256 ∧ z.2.2.2 ++ b_ (P.drop z.1) s z.2.2.1 = R) (fun z => P.length - z.1) (0, 0, 0, []) ⟨by omega, by omega, rfl, by simp, hR⟩ (by simp [upd]) (by simp) ?_
 rintro ⟨i, v, pos, acc⟩ k ⟨hk1, hi, hal, hpos, hr⟩
 simp only at hi hal hpos hr hk1
 by_cases hlt : i < P.length
 ·have hlti : (i : Int) < (P.length : Int) := by omega
  have w1 := aR (x := (i : Int) + 1) (by omega) (by omega)
  rw [List.drop_eq_getElem_cons hlt] at hr
  obtain ⟨f, hf⟩ : ∃ x, P[i] = x := ⟨_, rfl⟩
  have hfm : f ∈ P := by rw [← hf]; exact List.getElem_mem hlt
  rw [hf] at hr
  unfold b_ at hr
  obtain ⟨hc1, hc2⟩ := hs.2 f hfm
  obtain ⟨ho, hp96, hp1⟩ := cX hc1
  have hprp := cZ ho
  have hpl := (hfs f hfm).2
  obtain ⟨n, hn⟩ : ∃ n : Nat, pr (aO f) = n := ⟨(pr (aO f)).toNat, by omega⟩
  simp -implicitDefEqProofs [lb10_1, hlt, hlti, hf]
  refine aG (tys_c hk hfm) (by simp) ?_
  simp -implicitDefEqProofs
  refine aG (iV (aO f) (by simp; omega)) (by simp) ?_
  have hb : (n : Int) * 8 ≤ 140737488355328 := by omega
  simp -implicitDefEqProofs [hp1, hn, hb]
  obtain ⟨q, hq⟩ : ∃ q, k + 5 + 7 + 7 + 1 = q := ⟨_, rfl⟩
  rw [hq]
  have hty := (hPT f hfm).1
  have htp := mI hty
  have ht3 := AL f.type
  have hqm : look mem q = none := hfr q (by omega)
  have hz1 : (q = q0) = False := eq_false (by omega)
  have hz2 : (q0 = q) = False := eq_false (by omega)
  refine lpG cf10 lb10_0 [6, 12] (α := Nat) (fun j _ => [(6, I (if s = [] then 0 else ((pos + j : Nat) : Int))), (12, I j)]) (fun j _ => (q, .arr 0 1 (em aT ((List.range j).map (fun j => gE s f.type (pos + j)) ++ List.replicate (n - j) 0))) :: (q0, .arr v 4 (em cF acc)) :: mem) (fun j k => q < k ∧ j ≤ n ∧ (s = [] → j = 0)) (fun j => n - j) 0 ⟨by omega, by omega, fun _ => rfl⟩ (by simp) (by simp) ?_
  rintro j k2 ⟨hk2, hj, hj0⟩
  by_cases hs0 : s = []
  ·have := hj0 hs0
   subst this
   subst hs0
   have hn0 : 0 < n := by omega
   have hmap : (List.range n).map (fun j => gE [] f.type (pos + j)) = List.replicate n 0 := by
    rw [List.eq_replicate_iff]
    exact ⟨by simp, fun b hb => by
     obtain ⟨j, _, rfl⟩ := List.mem_map.1 hb
     rfl⟩
   simp -implicitDefEqProofs [lb10_0, hn0, hlt, hlti, hf]
   have hcs : ∀ c ∈ (List.range n).map (fun j => gE [] f.type (pos + j)), fY c := fun c hc => by
    obtain ⟨j, _, rfl⟩ := List.mem_map.1 hc
    have := w9 (s := []) hty (pos + j)
    exact ⟨this.1, by omega⟩
   have hcl : ((List.range n).map (fun j => gE [] f.type (pos + j))).length = n := by simp
   have htab : pK f [] pos = ⟨aO f, f.type, n, bD ((List.range n).map (fun j => gE [] f.type (pos + j)))⟩ := by unfold pK; rw [hn]; rfl
   have hOf := vW (aO f) f.type _ hcs (by rw [hcl]; omega) (by simp; omega)
   rw [hcl] at hOf
   have hb64 : (acc.length + 1) * 64 ≤ 3 * 2 ^ 46 := by omega
   have hsn := wV acc (pK f [] pos)
   rw [htab] at hsn hr
   simp only at hsn
   rw [← hmap]
   generalize (List.range n).map (fun j => gE [] f.type (pos + j)) = cs at *
   refine aD (pH (mf := [(q, .arr 0 1 (em aT cs))]) (mk := (q0, .arr v 4 (em cF acc)) :: mem) (eH (gD _)) (aF (aE _) (by rw [aY, if_neg (by omega)]; exact hqm)) (fun j => by
    by_cases e : q = j
    ·subst e; right; rw [aY, if_neg (by omega)]; exact hqm
    ·left; rw [aY, if_neg e]; rfl) (args' := [.sl (em aT (aO f)), I f.type, .sl (em aT cs)]) (by simp [List.take_of_length_le, hcl]) hOf ?_)
   simp -implicitDefEqProofs [hb64, hsn, w1]
   exact aK (i + 1, v + 1, pos + n, acc ++ [⟨aO f, f.type, n, bD cs⟩]) ⟨by omega, hlt, by simp [hal], by simp only; omega, by rw [List.append_assoc]; rw [hn] at hr; exact hr⟩ (by simp only; omega) (by simp) (aI _)
  ·have hsl0 : 0 < s.length := by cases s with
    | nil => exact absurd rfl hs0
    | cons a b => simp
   have hsli : 0 < (s.length : Int) := by omega
   by_cases hjn : j < n
   ·have hjni : (j : Int) < (n : Int) := by omega
    have w2 := aR (x := (j : Int) + 1) (by omega) (by omega)
    have hPl := hs.1
    have w3 := aR (x := (pos : Int) + (j : Int) + 1) (by omega) (by omega)
    obtain ⟨m, hm⟩ : ∃ m, (pos + j) % s.length = m := ⟨_, rfl⟩
    have hml : m < s.length := by rw [← hm]; exact Nat.mod_lt _ hsl0
    have hmli : (m : Int) < (s.length : Int) := by omega
    have e1 : ((pos : Int) + (j : Int)).tmod (s.length : Int) = (m : Int) := by rw [Int.tmod_eq_emod_of_nonneg (by omega), ← hm]; rfl
    have hsn : ¬ (s.length : Int) = 0 := by omega
    obtain ⟨b, hbb⟩ : ∃ b, s[m] = b := ⟨_, rfl⟩
    have hcel : gE s f.type (pos + j) = (b.toNat : Int) % (tp f.type + 1) := by
     unfold gE
     rw [if_neg hs0, hm, List.getElem?_eq_getElem hml, hbb]; rfl
    have e2 : (b.toNat : Int).tmod (tp f.type + 1) = (b.toNat : Int) % (tp f.type + 1) := Int.tmod_eq_emod_of_nonneg (by omega)
    have htn : ¬ tp f.type + 1 = 0 := by omega
    have w4 := aR (x := tp f.type + 1) (by omega) (by omega)
    have hbl := b.toNat_lt
    have w5 := aR (x := (b.toNat : Int)) (by omega) (by omega)
    have hlen : ((List.range j).map (fun j => gE s f.type (pos + j)) ++ List.replicate (n - j) 0).length = n := by simp; omega
    have hset : ((List.range j).map (fun j => gE s f.type (pos + j)) ++ List.replicate (n - j) 0).set j ((b.toNat : Int) % (tp f.type + 1)) = (List.range (j + 1)).map (fun j => gE s f.type (pos + j)) ++ List.replicate (n - (j + 1)) 0 := by
     rw [List.set_append_right _ _ (by simp), List.range_succ, List.map_append, ← hcel, show n - j = (n - (j + 1)) + 1 by omega, List.replicate_succ]
     simp
    generalize (List.range j).map (fun j => gE s f.type (pos + j)) ++ List.replicate (n - j) 0 = old at *
    simp -implicitDefEqProofs [lb10_0, hs0, hsl0, hsli, hjni, e1, hsn, hml, hmli, hbb, hlti, hlt, hf]
    refine aG (iQ f.type) (by simp) ?_
    have hb8 : bt8 s m = (b.toNat : Int) := by unfold bt8; rw [List.getElem?_eq_getElem hml, hbb]; rfl
    simp -implicitDefEqProofs [w2, w3, w4, w5, e2, htn, hlen, hjn, hb8]
    rw [hset]
    exact aK (j + 1) ⟨by omega, hjn⟩ (by omega) (by simp [hs0, Int.add_assoc]) (aI _)
   ·have hjn2 : n = j := by omega
    subst hjn2
    simp -implicitDefEqProofs [lb10_0, hs0, hlt, hlti, hf]
    have hcs : ∀ c ∈ (List.range n).map (fun j => gE s f.type (pos + j)), fY c := fun c hc => by
     obtain ⟨j, _, rfl⟩ := List.mem_map.1 hc
     have := w9 (s := s) hty (pos + j)
     exact ⟨this.1, by omega⟩
    have hcl : ((List.range n).map (fun j => gE s f.type (pos + j))).length = n := by simp
    have htab : pK f s pos = ⟨aO f, f.type, n, bD ((List.range n).map (fun j => gE s f.type (pos + j)))⟩ := by unfold pK; rw [hn]; rfl
    have hOf := vW (aO f) f.type _ hcs (by rw [hcl]; omega) (by simp; omega)
    rw [hcl] at hOf
    have hb64 : (acc.length + 1) * 64 ≤ 3 * 2 ^ 46 := by omega
    have hsn := wV acc (pK f s pos)
    rw [htab] at hsn hr
    simp only at hsn
    generalize (List.range n).map (fun j => gE s f.type (pos + j)) = cs at *
    refine aD (pH (mf := [(q, .arr 0 1 (em aT cs))]) (mk := (q0, .arr v 4 (em cF acc)) :: mem) (eH (gD _)) (aF (aE _) (by rw [aY, if_neg (by omega)]; exact hqm)) (fun j => by
     by_cases e : q = j
     ·subst e; right; rw [aY, if_neg (by omega)]; exact hqm
     ·left; rw [aY, if_neg e]; rfl) (args' := [.sl (em aT (aO f)), I f.type, .sl (em aT cs)]) (by simp [List.take_of_length_le, hcl]) hOf ?_)
    simp -implicitDefEqProofs [hb64, hsn, w1]
    exact aK (i + 1, v + 1, pos + n, acc ++ [⟨aO f, f.type, n, bD cs⟩]) ⟨by omega, hlt, by simp [hal], by simp only; omega, by rw [List.append_assoc]; rw [hn] at hr; exact hr⟩ (by simp only; omega) (by simp) (aI _)
 ·have hil : i = P.length := by omega
  subst hil
  rw [List.drop_length] at hr
  unfold b_ at hr
  rw [List.append_nil] at hr
  subst hr
  simp -implicitDefEqProofs [lb10_1]
  rw [hal]
  exact ⟨_, aE _, hy q0 v _ (by omega) (by omega)⟩
theorem B7 {P : List Fn} (hk : c8 P) (hs : nO P) (s : List UInt8) (hsl : s.length < 2 ^ 48) : Pure Tryz.prog 10 [.agg [.sl (em aZ P)], .sl (em cC s)] (.sl (em cF (b_ P s 0))) := by
 refine jY (by simp) (KM hk hs s hsl fun id ver nx' _ _ => ?_)
 have hl : (b_ P s 0).length = P.length := by
  have : ∀ (P : List Fn) (k : Nat), (b_ P s k).length = P.length := by
   intro P
   induction P with
   | nil => intro k; rfl
   | cons f fs ih => intro k; simp [b_, ih]
  exact this P 0
 simp [look, ← hl]
theorem BY (cs : List Int) (h4 : ∀ c ∈ cs, fY c) (hl : cs.length ≤ 4096) : ∃ l, dV l ∧ cN cs.length l ∧ cl cs.length l = cs := by
 have key : ∀ k, k ≤ cs.length → ∃ l, dV l ∧ cN cs.length l ∧ ∀ j, j < cs.length → aV l j = if j < k then cs[j]?.getD 0 else 0 := by
  intro k
  induction k with
  | zero => exact fun _ => ⟨List.replicate (((cs.length : Int) + 31) / 32).toNat 0, HT _, zN (by omega) (by omega), fun j hj => by rw [xS, if_neg (by omega)]⟩
  | succ k ih =>
   intro hk
   obtain ⟨l, hw, hg, hc⟩ := ih (by omega)
   have hkl : k < cs.length := by omega
   have hv := h4 _ (List.getElem_mem hkl)
   have hln : cs.length ≤ 32 * l.length := by have := oD hg; simpa using this
   unfold fY at hv
   refine ⟨l6 l k cs[k], AH hw, by simpa using yP hw hg hv.1 (by omega) (by simpa using hkl), fun j hj => ?_⟩
   rw [tD hw hv.1 (by omega) (by omega) (by omega), hc j hj]
   by_cases e : j = k
   ·subst e
    rw [if_pos rfl, if_pos (by omega), List.getElem?_eq_getElem hkl]; rfl
   ·rw [if_neg e]
    by_cases e2 : j < k
    ·rw [if_pos e2, if_pos (by omega)]
    ·rw [if_neg e2, if_neg (by omega)]
 obtain ⟨l, hw, hg, hc⟩ := key _ (Nat.le_refl _)
 refine ⟨l, hw, hg, (IE (by simp) fun i hi => ?_).symm⟩
 have hi2 : i < cs.length := by simpa using hi
 rw [hc i hi2, if_pos hi2]
theorem NR {cs : List Int} (h4 : ∀ c ∈ cs, fY c) (hl : cs.length ≤ 4096) : dV (bD cs) ∧ cN cs.length (bD cs) ∧ cl cs.length (bD cs) = cs := by
 obtain ⟨l, hw, hg, hc⟩ := BY cs h4 hl
 have h := D1 hg hw
 rw [hc] at h
 rw [h]
 exact ⟨hw, hg, hc⟩
theorem qE {f : Fn} {cs : List Int} (hty : aJ f.type) (hc : (bX (aO f)).2 = 0) (hl : (cs.length : Int) = pr (aO f)) (hin : ∀ c ∈ cs, 0 ≤ c ∧ c ≤ tp f.type) : jQ f ⟨aO f, f.type, pr (aO f), bD cs⟩ ∧ dV (bD cs) ∧ cl (pr (aO f)) (bD cs) = cs := by
 obtain ⟨ho, hp96, hp1⟩ := cX hc
 have htp := mI hty
 have ht3 := AL f.type
 obtain ⟨h1, h2, h3⟩ := NR (cs := cs) (fun c hm => by have := hin c hm; exact ⟨this.1, by omega⟩) (by omega)
 rw [hl] at h2 h3
 refine ⟨⟨⟨hc, (by show 0 ≤ tp f.type; omega), rfl, h2, fun i hi => ?_⟩, rfl, rfl⟩, h1, h3⟩
 have hi2 : i < cs.length := by simp only at hi; omega
 have := kH (l := bD cs) hi
 simp only at this ⊢
 rw [h3] at this
 rw [← this, List.getElem?_eq_getElem hi2]
 exact (hin _ (List.getElem_mem hi2)).2
theorem NI {f : Fn} (s : List UInt8) (k : Nat) (hty : aJ f.type) (hc : (bX (aO f)).2 = 0) : jQ f (pK f s k) ∧ dV (pK f s k).l := by
 obtain ⟨ho, hp96, hp1⟩ := cX hc
 have hpos := cZ ho
 have h := qE (cs := (List.range (pr (aO f)).toNat).map fun j => gE s f.type (k + j)) hty hc (by simp; omega) (fun c hm => by
  obtain ⟨j, _, rfl⟩ := List.mem_map.1 hm
  exact w9 hty _)
 exact ⟨h.1, h.2.1⟩
theorem j0 : ∀ (P : List Fn) (s : List UInt8) (k : Nat), (b_ P s k).length = P.length
 | [], _, _ => rfl
 | f :: fs, s, k => by simp [b_, j0 fs]
theorem A4 : ∀ (P : List Fn) (s : List UInt8) (k i : Nat), (h : i < P.length) → ∃ k', (b_ P s k)[i]?.getD default = pK (P[i]?.getD default) s k'
 | [], _, _, i, h => by simp at h
 | f :: fs, s, k, 0, _ => ⟨k, rfl⟩
 | f :: fs, s, k, i + 1, h => by
  obtain ⟨k', e⟩ := A4 fs s (k + (pr (aO f)).toNat) i (by simpa using h)
  exact ⟨k', by simpa [b_] using e⟩
theorem rP {P : List Fn} (hk : c8 P) (hs : nO P) (s : List UInt8) : ∀ i, i < P.length → jQ (P[i]?.getD default) ((b_ P s 0)[i]?.getD default) ∧ dV ((b_ P s 0)[i]?.getD default).l := by
 intro i hi
 obtain ⟨k', e⟩ := A4 P s 0 i hi
 have hm := List.getElem_mem hi
 rw [e, List.getElem?_eq_getElem hi]
 exact NI s k' ((gO hk).1 _ hm).1 (hs.2 _ hm).1
theorem CT {P : List Fn} (hk : c8 P) (hs : nO P) (s : List UInt8) : TW (b_ P s 0) := by
 intro x hx
 obtain ⟨i, hi, rfl⟩ := List.mem_iff_getElem.1 hx
 have hi2 : i < P.length := by rw [j0] at hi; exact hi
 obtain ⟨h1, h2⟩ := rP hk hs s i hi2
 rw [List.getElem?_eq_getElem hi, List.getElem?_eq_getElem hi2] at h1
 rw [List.getElem?_eq_getElem hi] at h2
 refine ⟨h2, ?_⟩
 have h3 := h1.2.2
 simp only [Option.getD_some] at h3
 rw [h3]
 have := ((i9 hk).2 _ (List.getElem_mem hi2)).2
 simp; omega
theorem LY {P : List Fn} (hk : c8 P) (hs : nO P) (s : List UInt8) (h0 : (gN P).1 = 0) : SeeOk P (b_ P s 0) :=
 ⟨h0, j0 P s 0, fun i hi => (rP hk hs s i hi).1⟩
set_option maxHeartbeats 4000000
def Rise (T : List Tt) : Prop := ∀ x ∈ T, fS x.ps x.l x.n
def TLe (T T' : List Tt) : Prop := ∀ (i : Nat) (m : Nat), m < (T[i]?.getD default).n.toNat → aV (T[i]?.getD default).l m ≤ aV (T'[i]?.getD default).l m
theorem EV {P : List Fn} {T T' : List Tt} (h : jU P T) (h' : jU P T') (hr : Rise T') (hle : TLe T T') : VLe P (bB P T) (bB P T') := by
 intro n l l' hb hi hi' hL
 unfold cK at hb
 have hh := d8 P 0 n
 have hlt : (aP P 0 n).toNat < P.length := by omega
 obtain ⟨f1, f2⟩ := h.fit _ hlt
 obtain ⟨f1', f2'⟩ := h'.fit _ hlt
 have hd : hdF P n = P[(aP P 0 n).toNat] := by unfold hdF; rw [List.getElem?_eq_getElem hlt]; rfl
 have hT : (aP P 0 n).toNat < T.length := by rw [h.len]; exact hlt
 have hT' : (aP P 0 n).toNat < T'.length := by rw [h'.len]; exact hlt
 have hx := h.ok (T[(aP P 0 n).toNat]?.getD default) (by rw [List.getElem?_eq_getElem hT]; exact List.getElem_mem hT)
 have hx' := h'.ok (T'[(aP P 0 n).toNat]?.getD default) (by rw [List.getElem?_eq_getElem hT']; exact List.getElem_mem hT')
 have hrx := hr (T'[(aP P 0 n).toNat]?.getD default) (by rw [List.getElem?_eq_getElem hT']; exact List.getElem_mem hT')
 have hle1 := hle (aP P 0 n).toNat
 unfold bB
 rw [hd] at hi hi'
 generalize T[(aP P 0 n).toNat]?.getD default = x at *
 generalize T'[(aP P 0 n).toNat]?.getD default = y at *
 have hps : y.ps = x.ps := by rw [f1, f1']
 rw [← f1] at hi hi'
 obtain ⟨⟨k1, k2, k3, k4, k5⟩, _⟩ := hx
 obtain ⟨⟨q1, q2, q3, q4, q5⟩, _⟩ := hx'
 have num : ∀ l, inT x.ps l = true → dC x.ps l = (vl x.ps l 0, 0) := fun l hl => by
  unfold dC
  rw [if_neg (by rw [k1]; simp), if_neg (by rw [lK hl]; simp), if_pos hl]
 rw [hps] at q3 hrx
 rw [hps, num l hi, num l' hi']
 have hv := oG _ _ 0 hi (Int.le_refl 0)
 have h1 := hle1 (vl x.ps l 0).toNat (by rw [k3]; omega)
 have h2 := EN (cX k1).1 q3 hrx _ l l' hi hi' (fun i _ => (hL.get.2 i)) (Nat.le_refl _)
 exact Int.le_trans h1 h2
theorem LeN.app : ∀ {A B C D : Nls}, LeN A B → LeN C D → LeN (A ++ C) (B ++ D)
 | [], [], C, D, _, h => h
 | a :: A, b :: B, C, D, h, k => ⟨h.1, LeN.app h.2 k⟩
theorem DF : ∀ (ps : List Pm) (tu tu' : List Int), LeL tu tu' → LeN (nmF ps tu) (nmF ps tu')
 | [], tu, tu', _ => by simp [nmF, LeN]
 | x :: ps, [], [], _ => by simp [nmF, LeN]
 | x :: ps, a :: tu, b :: tu', h => by
  have e : ∀ (c : Int) (t : List Int), nmF (x :: ps) (c :: t) = nmF ps t ++ [(x.name, c)] := fun c t => by simp [nmF]
  rw [e, e]
  exact LeN.app (DF ps tu tu' h.2) ⟨⟨rfl, h.1⟩, trivial⟩
theorem y9 {P : List Fn} {T T' : List Tt} (hPT : PT P) (h : jU P T) (h' : jU P T') (hr : Rise T') (hle : TLe T T') {f : Fn} (hs : Sh f.body) (ht : aJ f.type) (hw : bP P f.params f.body f.type = []) {tu tu' : List Int} (hi : inT (aO f) tu = true) (hi' : inT (aO f) tu' = true) (hL : LeL tu tu') : cW P T f tu ≤ cW P T' f tu' :=
 DG hPT (qX h) (qX h') (EV h h' hr hle) f.body hs ht hw (EnvR.pre _ _ hi) (EnvR.pre _ _ hi') (DF _ _ _ hL)
theorem TLe.refl (T : List Tt) : TLe T T := fun i m _ => Int.le_refl _
theorem F9 : ∀ (l : List Int) (i : Nat) (v : Int), l[i]?.getD 0 ≤ v → LeL l (l.set i v)
 | [], i, v, _ => trivial
 | a :: l, 0, v, h => ⟨by simpa using h, LeL.refl l⟩
 | a :: l, i + 1, v, h => ⟨Int.le_refl _, F9 l i v (by simpa using h)⟩
theorem qK {ts : List Int} {i : Nat} {t n : Int} (ho : okT ts) (h0 : 0 ≤ n) (hn : n < pr ts) (hi : i < ts.length) (ht : ts[i] = t) (hd : n / pr (ts.drop (i + 1)) % (tp t + 1) < tp t) : dg ts (n + pr (ts.drop (i + 1))) = (dg ts n).set i (n / pr (ts.drop (i + 1)) % (tp t + 1) + 1) := by
 obtain ⟨h1, h2, h3⟩ := wS ho h0 hn hi ht hd
 rw [← h2]
 exact EE _ _ ho h1
theorem CP {P : List Fn} {T : List Tt} (hPT : PT P) (h : jU P T) (hr : Rise T) {f : Fn} (hs : Sh f.body) (ht : aJ f.type) (hw : bP P f.params f.body f.type = []) (hc : (bX (aO f)).2 = 0) : fS (aO f) (bD (c_ P T f)) (pr (aO f)) := by
 obtain ⟨ho, hp96, hp1⟩ := cX hc
 have hpos := cZ ho
 have hlen : ((c_ P T f).length : Int) = pr (aO f) := by simp [c_]; omega
 have hin : ∀ c ∈ c_ P T f, 0 ≤ c ∧ c ≤ tp f.type := fun c hm => by
  unfold c_ at hm
  obtain ⟨k, _, rfl⟩ := List.mem_map.1 hm
  exact tV hPT h hs ht hw ho k
 obtain ⟨_, _, hcl⟩ := qE (cs := c_ P T f) ht hc hlen hin
 have hcell : ∀ m : Nat, m < (pr (aO f)).toNat → aV (bD (c_ P T f)) m = cW P T f (dg (aO f) m) := fun m hm => by
  rw [← kH (n := pr (aO f)) hm, hcl]
  unfold c_
  simp [hm]
 intro i t hit m hm hd
 obtain ⟨hi, hti⟩ := List.getElem?_eq_some_iff.1 hit
 have hmi : (m : Int) < pr (aO f) := by omega
 obtain ⟨_, _, h3⟩ := wS ho (by omega) hmi hi hti hd
 have hup := qK ho (by omega) hmi hi hti hd
 have hpd := cZ (fF ho (i + 1))
 have e : ((m + (pr ((aO f).drop (i + 1))).toNat : Nat) : Int) = (m : Int) + pr ((aO f).drop (i + 1)) := by omega
 rw [hcell m hm, hcell _ (by omega), e]
 refine y9 hPT h h hr (TLe.refl T) hs ht hw (kZ _ ho (by omega)) (kZ _ ho (by omega)) ?_
 rw [hup]
 refine F9 _ _ _ ?_
 rw [tO hi hti]
 simp only [Option.getD_some]
 omega
theorem oZ {α : Type} {f : α → Nat → α} {p : Nat → α → Prop} {a : α} (h0 : p 0 a) : ∀ n, (∀ i, i < n → ∀ b, p i b → p (i + 1) (f b i)) → p n ((List.range n).foldl f a)
 | 0, _ => h0
 | n + 1, h => by
  rw [List.range_succ, List.foldl_append]
  exact h n (by omega) _ (oZ h0 n fun i hi => h i (by omega))
def cP (ps : List Int) (k : Nat) : Nat := (pr (ps.drop (k + 1))).toNat
def fP (ps : List Int) (n k : Nat) : Int := (dg ps n)[k]?.getD 0
def mG (ps : List Int) (n : Nat) (c : List Int) (k : Nat) : List Int := if fP ps n k = 0 then c else c.set n (max (c[n]?.getD 0) (c[n - cP ps k]?.getD 0))
def pR (ps : List Int) (c : List Int) (n : Nat) : List Int := (List.range ps.length).foldl (mG ps n) c
def jD (ps : List Int) (c : List Int) : List Int := (List.range c.length).foldl (pR ps) c
def Cin (T : Int) (c : List Int) : Prop := ∀ i : Nat, 0 ≤ c[i]?.getD 0 ∧ c[i]?.getD 0 ≤ T
theorem getD_set {c : List Int} {n i : Nat} {v : Int} (hn : n < c.length) : (c.set n v)[i]?.getD 0 = if i = n then v else c[i]?.getD 0 := by
 rw [List.getElem?_set]
 by_cases e : n = i
 ·subst e; simp [hn]
 ·rw [if_neg e, if_neg (fun g => e g.symm)]
theorem yN {ps : List Int} (ho : okT ps) (k : Nat) : 0 < cP ps k := by
 have := cZ (fF ho (k + 1))
 unfold cP; omega
theorem KZ (ps : List Int) (n : Nat) (c : List Int) (k : Nat) : (mG ps n c k).length = c.length := by unfold mG; split <;> simp
theorem L3 {ps : List Int} {n k : Nat} {c : List Int} {T : Int} (hn : n < c.length) (h : Cin T c) : Cin T (mG ps n c k) := by
 unfold mG
 split
 ·exact h
 ·intro i
  rw [getD_set hn]
  have h1 := h n
  have h2 := h (n - cP ps k)
  split
  ·omega
  ·exact h i
structure RowI (ps : List Int) (c0 : List Int) (n k : Nat) (c : List Int) : Prop where
 len : c.length = c0.length
 oth : ∀ i, i ≠ n → c[i]?.getD 0 = c0[i]?.getD 0
 ge : c0[n]?.getD 0 ≤ c[n]?.getD 0
 up : ∀ j, j < k → fP ps n j ≠ 0 → c0[n - cP ps j]?.getD 0 ≤ c[n]?.getD 0
theorem N8 {ps : List Int} (ho : okT ps) {c0 : List Int} {n : Nat} (hn : n < c0.length) (hpre : ∀ j, fP ps n j ≠ 0 → cP ps j ≤ n) : RowI ps c0 n ps.length (pR ps c0 n) := by
 unfold pR
 refine oZ (p := fun k c => RowI ps c0 n k c) ⟨rfl, fun _ _ => rfl, Int.le_refl _, fun j h => absurd h (by omega)⟩ _ fun k hk c hc => ?_
 obtain ⟨h1, h2, h3, h4⟩ := hc
 have hnc : n < c.length := by omega
 unfold mG
 by_cases hd : fP ps n k = 0
 ·rw [if_pos hd]
  refine ⟨h1, h2, h3, fun j hj hdj => ?_⟩
  by_cases e : j = k
  ·subst e; exact absurd hd hdj
  ·exact h4 j (by omega) hdj
 ·rw [if_neg hd]
  have hq := yN ho k
  have hpk := hpre k hd
  have ho2 := h2 (n - cP ps k) (by omega)
  refine ⟨by simp [h1], fun i hi => ?_, ?_, fun j hj hdj => ?_⟩
  ·rw [getD_set hnc, if_neg hi]; exact h2 i hi
  ·rw [getD_set hnc, if_pos rfl]; omega
  ·rw [getD_set hnc, if_pos rfl]
   by_cases e : j = k
   ·subst e; rw [ho2]; omega
   ·have := h4 j (by omega) hdj; omega
theorem row_in {ps : List Int} {c0 : List Int} {n : Nat} {T : Int} (hn : n < c0.length) (h : Cin T c0) : Cin T (pR ps c0 n) ∧ (pR ps c0 n).length = c0.length := by
 unfold pR
 refine oZ (p := fun k c => Cin T c ∧ c.length = c0.length) ⟨h, rfl⟩ _ fun k hk c hc => ⟨L3 (by omega) hc.1, by rw [KZ]; exact hc.2⟩
structure RiseI (ps : List Int) (c0 : List Int) (T : Int) (N : Nat) (c : List Int) : Prop where
 len : c.length = c0.length
 cin : Cin T c
 up : ∀ n, n < N → ∀ j, j < ps.length → fP ps n j ≠ 0 → c[n - cP ps j]?.getD 0 ≤ c[n]?.getD 0
theorem IV {ps : List Int} (ho : okT ps) {c0 : List Int} {T : Int} (hT : Cin T c0) (hpre : ∀ n j, n < c0.length → fP ps n j ≠ 0 → cP ps j ≤ n) : RiseI ps c0 T c0.length (jD ps c0) := by
 unfold jD
 refine oZ (p := fun N c => RiseI ps c0 T N c) ⟨rfl, hT, fun n h => absurd h (by omega)⟩ _ fun n hn c hc => ?_
 obtain ⟨h1, h2, h3⟩ := hc
 have hnc : n < c.length := by omega
 obtain ⟨r1, r2, r3, r4⟩ := N8 ho hnc (fun j hj => hpre n j hn hj)
 obtain ⟨i1, i2⟩ := row_in (ps := ps) hnc h2
 refine ⟨by omega, i1, fun m hm j hj hd => ?_⟩
 have hq := yN ho j
 by_cases e : m = n
 ·subst e
  have hp := hpre m j hn hd
  rw [r2 (m - cP ps j) (by omega)]
  exact r4 j hj hd
 ·have hp := hpre m j (by omega) hd
  rw [r2 m e, r2 (m - cP ps j) (by omega)]
  exact h3 m (by omega) j hj hd
theorem DZ {ps : List Int} {n k : Nat} (ho : okT ps) (hn : (n : Int) < pr ps) (hk : k < ps.length) (hd : fP ps n k ≠ 0) :
  cP ps k ≤ n ∧ inT ps ((dg ps n).set k (fP ps n k - 1)) = true ∧ vl ps ((dg ps n).set k (fP ps n k - 1)) 0 = ((n - cP ps k : Nat) : Int) := by
 have hin := kZ (n : Int) ho (by omega)
 have hlen := iT (n : Int) ps
 obtain ⟨t, ht⟩ : ∃ t, ps[k] = t := ⟨_, rfl⟩
 have hat := tO (n := (n : Int)) hk ht
 have hto : 0 ≤ tp t := ho t (ht ▸ List.getElem_mem hk)
 have hdv : fP ps n k = (n : Int) / pr (ps.drop (k + 1)) % (tp t + 1) := by unfold fP; rw [hat]; rfl
 have hd0 := Int.emod_nonneg ((n : Int) / pr (ps.drop (k + 1))) (by omega : tp t + 1 ≠ 0)
 have hd1 := Int.emod_lt_of_pos ((n : Int) / pr (ps.drop (k + 1))) (by omega : 0 < tp t + 1)
 rw [← hdv] at hd0 hd1
 have hq := cZ (fF ho (k + 1))
 -- the quotient is not nought
 have hqle : pr (ps.drop (k + 1)) ≤ (n : Int) := by
  apply Classical.byContradiction
  intro g
  rw [Int.ediv_eq_zero_of_lt (by omega) (by omega), Int.zero_emod] at hdv
  exact hd hdv
 -- the lesser tuple is the number less by the step
 have hm0 : 0 ≤ (n : Int) - pr (ps.drop (k + 1)) := by omega
 have hqq : ((n : Int) - pr (ps.drop (k + 1))) / pr (ps.drop (k + 1)) = (n : Int) / pr (ps.drop (k + 1)) - 1 := by
  have : (n : Int) - pr (ps.drop (k + 1)) = (n : Int) + (-1) * pr (ps.drop (k + 1)) := by omega
  rw [this, Int.add_mul_ediv_right _ _ (by omega)]; omega
 have hmod : ((n : Int) / pr (ps.drop (k + 1)) - 1) % (tp t + 1) = fP ps n k - 1 := by
  have e1 := Int.emod_add_mul_ediv ((n : Int) / pr (ps.drop (k + 1))) (tp t + 1)
  rw [← hdv] at e1
  have e2 : (n : Int) / pr (ps.drop (k + 1)) - 1 = (fP ps n k - 1) + ((n : Int) / pr (ps.drop (k + 1)) / (tp t + 1)) * (tp t + 1) := by
   rw [Int.mul_comm] at e1; omega
  rw [e2, Int.add_mul_emod_self_right, Int.emod_eq_of_lt (by omega) (by omega)]
 have hup := qK (n := (n : Int) - pr (ps.drop (k + 1))) ho hm0 (by omega) hk ht (by rw [hqq, hmod]; omega)
 rw [show (n : Int) - pr (ps.drop (k + 1)) + pr (ps.drop (k + 1)) = n by omega, hqq, hmod] at hup
 have hdm : dg ps ((n : Int) - pr (ps.drop (k + 1))) = (dg ps n).set k (fP ps n k - 1) := by
  rw [hup, List.set_set]
  have hat2 := tO (n := (n : Int) - pr (ps.drop (k + 1))) hk ht
  rw [hqq, hmod] at hat2
  have hl2 : k < (dg ps ((n : Int) - pr (ps.drop (k + 1)))).length := by rw [iT]; exact hk
  rw [List.getElem?_eq_getElem hl2] at hat2
  simp only [Option.some.injEq] at hat2
  rw [← hat2, List.set_getElem_self]
 have hsq : cP ps k ≤ n := by unfold cP; omega
 refine ⟨hsq, ?_, ?_⟩
 ·rw [← hdm]; exact kZ _ ho hm0
 ·rw [← hdm, K0 ho hm0 (by omega)]
  unfold cP; omega
theorem DO {ps : List Int} {i : Nat} {t : Int} {m : Nat} (ho : okT ps) (hm : (m : Int) < pr ps) (hi : i < ps.length) (ht : ps[i] = t) (hd : (m : Int) / pr (ps.drop (i + 1)) % (tp t + 1) < tp t) : fP ps (m + cP ps i) i ≠ 0 ∧ ((m + cP ps i : Nat) : Int) < pr ps := by
 obtain ⟨_, _, h3⟩ := wS ho (by omega) hm hi ht hd
 have hup := qK ho (by omega) hm hi ht hd
 have hpd := cZ (fF ho (i + 1))
 have e : ((m + cP ps i : Nat) : Int) = (m : Int) + pr (ps.drop (i + 1)) := by unfold cP; omega
 have hto : 0 ≤ tp t := ho t (ht ▸ List.getElem_mem hi)
 have hd0 := Int.emod_nonneg ((m : Int) / pr (ps.drop (i + 1))) (by omega : tp t + 1 ≠ 0)
 refine ⟨?_, by omega⟩
 unfold fP
 rw [e, hup, getD_set (by rw [iT]; exact hi), if_pos rfl]
 omega
theorem IN {ps : List Int} {c : List Int} (ho : okT ps) (hl : (c.length : Int) = pr ps) (hcl : cl (pr ps) (bD c) = c) (hup : ∀ n, n < c.length → ∀ j, j < ps.length → fP ps n j ≠ 0 → c[n - cP ps j]?.getD 0 ≤ c[n]?.getD 0) : fS ps (bD c) (pr ps) := by
 have hcell : ∀ m : Nat, m < (pr ps).toNat → aV (bD c) m = c[m]?.getD 0 := fun m hm => by
  rw [← kH (n := pr ps) hm, hcl]
 intro i t hit m hm hd
 obtain ⟨hi, hti⟩ := List.getElem?_eq_some_iff.1 hit
 obtain ⟨h1, h2⟩ := DO ho (by omega) hi hti hd
 have := hup (m + cP ps i) (by omega) i hi h1
 rw [Nat.add_sub_cancel] at this
 rw [hcell m hm]
 show c[m]?.getD 0 ≤ aV (bD c) (m + cP ps i)
 rw [hcell _ (by omega)]
 exact this
def dI (x : Tt) : Tt := ⟨x.ps, x.t, x.n, bD (jD x.ps (cl x.n x.l))⟩
def cR (x y : Tt) : Tt := ⟨x.ps, x.t, (cl x.n x.l).length, bD (List.zipWith max (cl x.n x.l) (cl y.n y.l))⟩
theorem v_ {f : Fn} {x : Tt} (h : jQ f x) : Cin (tp f.type) (cl x.n x.l) := by
 obtain ⟨⟨h1, h2, h3, h4, h5⟩, h6, h7⟩ := h
 intro i
 by_cases hi : i < x.n.toNat
 ·rw [kH hi]
  have := qF x.l i
  have := h5 i hi
  rw [h6] at this
  omega
 ·rw [List.getElem?_eq_none (by simp; omega)]
  rw [h6] at h2
  simp only [Option.getD_none]
  omega
theorem C2 {T : Int} {c : List Int} (h : Cin T c) : ∀ v ∈ c, 0 ≤ v ∧ v ≤ T := by
 intro v hv
 obtain ⟨i, hi, rfl⟩ := List.mem_iff_getElem.1 hv
 have := h i
 rw [List.getElem?_eq_getElem hi] at this
 exact this
theorem AJ {f : Fn} {x : Tt} (hty : aJ f.type) (h : jQ f x) : jQ f (dI x) ∧ dV (dI x).l ∧ fS (dI x).ps (dI x).l (dI x).n ∧ cl (dI x).n (dI x).l = jD x.ps (cl x.n x.l) := by
 have hcin := v_ h
 obtain ⟨⟨h1, h2, h3, h4, h5⟩, h6, h7⟩ := h
 rw [h7] at h1 h3
 obtain ⟨ho, hp96, hp1⟩ := cX h1
 have hpos : 0 < pr (aO f) := cZ ho
 have hlen : (cl x.n x.l).length = x.n.toNat := jR
 have hri := IV (ps := aO f) ho hcin (fun n j hn hd => by
  by_cases hj : j < (aO f).length
  ·exact (DZ ho (by omega) hj hd).1
  ·unfold fP at hd
   rw [List.getElem?_eq_none (by rw [iT]; omega)] at hd
   simp at hd)
 have hrl : ((jD (aO f) (cl x.n x.l)).length : Int) = pr (aO f) := by rw [hri.len, hlen, h3]; show ((pr (aO f)).toNat : Int) = _; omega
 obtain ⟨k1, k2, k3⟩ := qE hty h1 hrl (C2 hri.cin)
 have e : dI x = ⟨aO f, f.type, pr (aO f), bD (jD (aO f) (cl x.n x.l))⟩ := by unfold dI; rw [h7, h6, h3]
 rw [e]
 refine ⟨k1, k2, IN ho hrl k3 (fun n hn j hj hd => hri.up n (by rw [← hri.len]; exact hn) j hj hd), ?_⟩
 rw [h7]; exact k3
theorem LX {f : Fn} {x y : Tt} (hty : aJ f.type) (h : jQ f x) (h' : jQ f y) (hr : fS x.ps x.l x.n) (hr' : fS y.ps y.l y.n) : jQ f (cR x y) ∧ dV (cR x y).l ∧ fS (cR x y).ps (cR x y).l (cR x y).n ∧ ∀ m, m < x.n.toNat → aV x.l m ≤ aV (cR x y).l m := by
 have hcx := v_ h
 have hcy := v_ h'
 obtain ⟨⟨h1, h2, h3, h4, h5⟩, h6, h7⟩ := h
 obtain ⟨⟨q1, q2, q3, q4, q5⟩, q6, q7⟩ := h'
 rw [h7] at h1 h3 hr
 rw [q7] at q1 q3 hr'
 obtain ⟨ho, hp96, hp1⟩ := cX h1
 have hpos : 0 < pr (aO f) := cZ ho
 have hlx : (cl x.n x.l).length = x.n.toNat := jR
 have hly : (cl y.n y.l).length = y.n.toNat := jR
 have hxy : x.n = y.n := by rw [h3, q3]
 have hz : ∀ i, i < x.n.toNat → (List.zipWith max (cl x.n x.l) (cl y.n y.l))[i]?.getD 0 = max (aV x.l i) (aV y.l i) := fun i hi => by
  rw [List.getElem?_zipWith, mS hi, mS (by rw [← hxy]; exact hi)]; rfl
 have hzl : (List.zipWith max (cl x.n x.l) (cl y.n y.l)).length = x.n.toNat := by rw [List.length_zipWith, hlx, hly, ← hxy]; omega
 have hcin : Cin (tp f.type) (List.zipWith max (cl x.n x.l) (cl y.n y.l)) := fun i => by
  by_cases hi : i < x.n.toNat
  ·rw [hz i hi]
   have a := hcx i
   have b := hcy i
   rw [kH hi] at a
   rw [kH (by rw [← hxy]; exact hi)] at b
   omega
  ·rw [List.getElem?_eq_none (by omega)]
   have := mI hty
   simp only [Option.getD_none]; omega
 have hrl : ((List.zipWith max (cl x.n x.l) (cl y.n y.l)).length : Int) = pr (aO f) := by rw [hzl, h3]; show ((pr (aO f)).toNat : Int) = _; omega
 obtain ⟨k1, k2, k3⟩ := qE hty h1 hrl (C2 hcin)
 have hn : ((cl x.n x.l).length : Int) = pr (aO f) := by rw [hlx, h3]; show ((pr (aO f)).toNat : Int) = _; omega
 have e : cR x y = ⟨aO f, f.type, pr (aO f), bD (List.zipWith max (cl x.n x.l) (cl y.n y.l))⟩ := by unfold cR; rw [hn, h7, h6]
 have hcell : ∀ m : Nat, m < x.n.toNat → aV (bD (List.zipWith max (cl x.n x.l) (cl y.n y.l))) m = max (aV x.l m) (aV y.l m) := fun m hm => by
  have hm2 : m < (pr (aO f)).toNat := by rw [h3] at hm; exact hm
  rw [← kH (n := pr (aO f)) hm2, k3, hz m hm]
 rw [e]
 refine ⟨k1, k2, fun i t hit m hm hd => ?_, fun m hm => by simp only; rw [hcell m hm]; omega⟩
 simp only at hit hm hd ⊢
 obtain ⟨hi, hti⟩ := List.getElem?_eq_some_iff.1 hit
 obtain ⟨_, g2⟩ : fP (aO f) (m + cP (aO f) i) i ≠ 0 ∧ ((m + cP (aO f) i : Nat) : Int) < pr (aO f) := DO (m := m) ho (by omega) hi hti hd
 have hxn : x.n.toNat = (pr (aO f)).toNat := by rw [h3]
 have a := hr i t hit m (by rw [hxn]; exact hm) hd
 have b := hr' i t hit m (by rw [← hxy, hxn]; exact hm) hd
 show aV _ m ≤ aV _ (m + cP (aO f) i)
 rw [hcell m (by omega), hcell _ (by omega)]
 have a' : aV x.l m ≤ aV x.l (m + cP (aO f) i) := a
 have b' : aV y.l m ≤ aV y.l (m + cP (aO f) i) := b
 omega
set_option maxRecDepth 1000000
set_option maxHeartbeats 0
noncomputable def cf24 : Cfg := ⟨Tryz.prog, 110, [0, 1, 2, 4, 5, 6, 7, 8, 10, 11, 13, 14], [30, 46, 73, 106, 108]⟩
noncomputable def lb24_0 : AC :=
 .seq (.ifr [JA 49 13, JA 50 11, JO 51 (.len false (.t 50)), JO 52 (.bin .lss 3 (.t 49) (.t 51))] (.t 52) .skip (.exit 4)) (.seq (.block 5 (.seq (.ifr [JA 55 11, JA 56 13, JL 57 1 55 56, JD 58 1 57, JO 59 (.bin .eql 49 (.t 58) (JT 0))] (.t 59) (.exit 5) .skip) (.seq (.reg [JA 60 11, JA 61 13, JL 62 1 60 61, JD 63 1 62, JO 64 (.bin .sub 49 (.t 63) (JT 1)), JL 65 1 60 61, JQ (.st 1 (.t 65) (.t 64))]) (.seq (.reg [JA 67 6, JA 68 7, JL 69 4 67 68, JH 70 0 69, JD 71 1 70, JA 72 11, JO 73 (.cl (.f 51) [.t 71, .t 72]), JC 66 73, JK 74 0 66, JK 75 1 66, JB 14 74, JC 15 75]) (.seq (.reg [JA 76 11, JA 77 13, JL 78 1 76 77, JD 79 1 78, JO 80 (.bin .add 49 (.t 79) (JT 1)), JL 81 1 76 77, JQ (.st 1 (.t 81) (.t 80))]) (.reg [JA 82 8, JA 83 10, JA 84 8, JA 85 10, JL 86 1 84 85, JD 87 1 86, JA 88 8, JA 89 14, JL 90 1 88 89, JD 91 1 90, JO 92 (.bi .max [.t 87, .t 91]), JL 93 1 82 83, JQ (.st 1 (.t 93) (.t 92))])))))) (.reg [JA 53 13, JO 54 (.bin .add 3 (.t 53) (JT 1)), JB 13 54]))
noncomputable def lb24_1 : AC :=
 .seq (.ifr [JA 33 10, JA 34 8, JO 35 (.len false (.t 34)), JO 36 (.bin .lss 3 (.t 33) (.t 35))] (.t 36) .skip (.exit 2)) (.seq (.block 3 (.seq (.reg [JA 40 6, JA 41 7, JL 42 4 40 41, JH 43 0 42, JD 44 1 43, JA 45 10, JO 46 (.cl (.f 58) [.t 44, .t 45]), JC 39 46, JK 47 0 39, JK 48 1 39, JB 11 47, JC 12 48]) (.seq (.reg [JI 13 0]) (.block 4 (.loop lb24_0))))) (.reg [JA 37 10, JO 38 (.bin .add 3 (.t 37) (JT 1)), JB 10 38]))
noncomputable def lb24_2 : AC :=
 .seq (.ifr [JA 19 7, JA 20 6, JO 21 (.len false (.t 20)), JO 22 (.bin .lss 3 (.t 19) (.t 21))] (.t 22) .skip (.exit 0)) (.seq (.block 1 (.seq (.reg [JA 26 6, JA 27 7, JL 28 4 26 27, JE 29 4 28, JO 30 (.cl (.f 26) [.t 29]), JC 25 30, JK 31 0 25, JK 32 1 25, JB 8 31, JC 9 32]) (.seq (.seq (.reg [JI 10 0]) (.block 2 (.loop lb24_1))) (.reg [JA 94 5, JA 95 6, JA 96 7, JL 97 4 95 96, JH 98 0 97, JD 99 1 98, JA 100 6, JA 101 7, JL 102 4 100 101, JH 103 1 102, JD 104 1 103, JA 105 8, JO 106 (.cl (.f 34) [.t 99, .t 104, .t 105]), JO 107 (.bsl 4 1 [JW, JV, JV, JW] [(0, 4, .t 106)]), JO 108 (.app 4 64 [JW, JV, JV, JW] (.t 94) (.t 107)), JB 5 108])))) (.reg [JA 23 7, JO 24 (.bin .add 3 (.t 23) (JT 1)), JB 7 24]))
noncomputable def ac24 : AC :=
 (.seq (.reg [JN 2 0, JP 4 (.mv (.c (.slice none 0 0)))]) (.seq (.reg [JP 5 (.mv (.c (.slice none 0 0)))]) (.seq (.reg [JF 16 1 2, JA 17 1, JO 18 (.pc (.f 10) [.t 16, .t 17]), JB 6 18]) (.seq (.seq (.reg [JI 7 0]) (.block 0 (.loop lb24_2))) (.seq (.reg [JA 109 5, JB 4 109]) .ret)))))
theorem fi24 : FI Tryz.prog 24 cf24 ac24 [.t 4] [0, 1, 2, 4, 5, 6, 7, 8, 10, 11, 13, 14] 110 := FI_of (c := Tryz.f24.body.getD .skip) Tryz.func24 (by kernel_rfl) (by rfl) (by rfl) (by kernel_rfl) (by kernel_rfl) rfl rfl rfl
@[simp] theorem cfP24 : cf24.P = Tryz.prog := (rfl)
noncomputable def cf25 : Cfg := ⟨Tryz.prog, 68, [0, 1, 4, 5, 6, 7, 9, 11], [23, 31, 64, 66]⟩
noncomputable def lb25_0 : AC :=
 .seq (.ifr [JA 34 11, JA 35 7, JO 36 (.len false (.t 35)), JO 37 (.bin .lss 3 (.t 34) (.t 36))] (.t 37) .skip (.exit 2)) (.seq (.block 3 (.reg [JA 40 7, JA 41 11, JA 42 7, JA 43 11, JL 44 1 42 43, JD 45 1 44, JA 46 9, JA 47 11, JL 48 1 46 47, JD 49 1 48, JO 50 (.bi .max [.t 45, .t 49]), JL 51 1 40 41, JQ (.st 1 (.t 51) (.t 50))])) (.reg [JA 38 11, JO 39 (.bin .add 3 (.t 38) (JT 1)), JB 11 39]))
noncomputable def lb25_1 : AC :=
 .seq (.ifr [JA 12 6, JA 13 0, JO 14 (.len false (.t 13)), JO 15 (.bin .lss 3 (.t 12) (.t 14))] (.t 15) .skip (.exit 0)) (.seq (.block 1 (.seq (.reg [JA 19 0, JA 20 6, JL 21 4 19 20, JE 22 4 21, JO 23 (.cl (.f 26) [.t 22]), JC 18 23, JK 24 0 18, JK 25 1 18, JB 7 24, JC 8 25]) (.seq (.reg [JA 27 1, JA 28 6, JL 29 4 27 28, JE 30 4 29, JO 31 (.cl (.f 26) [.t 30]), JC 26 31, JK 32 0 26, JK 33 1 26, JB 9 32, JC 10 33]) (.seq (.seq (.reg [JI 11 0]) (.block 2 (.loop lb25_0))) (.reg [JA 52 5, JA 53 0, JA 54 6, JL 55 4 53 54, JH 56 0 55, JD 57 1 56, JA 58 0, JA 59 6, JL 60 4 58 59, JH 61 1 60, JD 62 1 61, JA 63 7, JO 64 (.cl (.f 34) [.t 57, .t 62, .t 63]), JO 65 (.bsl 4 1 [JW, JV, JV, JW] [(0, 4, .t 64)]), JO 66 (.app 4 64 [JW, JV, JV, JW] (.t 52) (.t 65)), JB 5 66]))))) (.reg [JA 16 6, JO 17 (.bin .add 3 (.t 16) (JT 1)), JB 6 17]))
noncomputable def ac25 : AC :=
 (.seq (.reg [JP 4 (.mv (.c (.slice none 0 0)))]) (.seq (.reg [JP 5 (.mv (.c (.slice none 0 0)))]) (.seq (.seq (.reg [JI 6 0]) (.block 0 (.loop lb25_1))) (.seq (.reg [JA 67 5, JB 4 67]) .ret))))
theorem fi25 : FI Tryz.prog 25 cf25 ac25 [.t 4] [0, 1, 4, 5, 6, 7, 9, 11] 68 := FI_of (c := Tryz.f25.body.getD .skip) Tryz.func25 (by kernel_rfl) (by rfl) (by rfl) (by kernel_rfl) (by kernel_rfl) rfl rfl rfl
@[simp] theorem cfP25 : cf25.P = Tryz.prog := (rfl)
noncomputable def cf6 : Cfg := ⟨Tryz.prog, 163, [0, 1, 2, 6, 7, 8, 9, 10, 11, 12, 13, 14, 15, 16, 17, 18, 19, 20, 21, 22, 24], [58]⟩
noncomputable def lb6_0 : AC :=
 .seq (.ifr [JA 148 24, JA 149 18, JO 150 (.len false (.t 149)), JO 151 (.bin .lss 3 (.t 148) (.t 150))] (.t 151) .skip (.exit 4)) (.seq (.block 5 (.ifr [JA 154 18, JA 155 24, JL 156 1 154 155, JD 157 1 156, JA 158 20, JA 159 24, JL 160 1 158 159, JD 161 1 160, JO 162 (.bin .gtr 3 (.t 157) (.t 161))] (.t 162) (.seq (.reg [JP 6 (.mv JY)]) .ret) .skip)) (.reg [JA 152 24, JO 153 (.bin .add 3 (.t 152) (JT 1)), JB 24 153]))
noncomputable def lb6_1 : AC :=
 .seq (.ifr [JA 67 13, JG 68 0 7, JD 69 1 68, JO 70 (.len false (.t 69)), JO 71 (.bin .lss 3 (.t 67) (.t 70))] (.t 71) .skip (.exit 2)) (.seq (.block 3 (.seq (.reg [JF 75 1 7, JA 76 11, JA 77 13, JO 78 (.pc (.f 21) [.t 75, .t 76, .t 77]), JC 74 78, JK 79 0 74, JK 80 1 74, JP 14 (.al [JW, JV, JV, JW]), JQ (.st 4 (.g 14) (.t 79)), JB 15 80]) (.seq (.reg [JF 82 1 7, JA 83 12, JA 84 13, JO 85 (.pc (.f 21) [.t 82, .t 83, .t 84]), JC 81 85, JK 86 0 81, JK 87 1 81, JP 16 (.al [JW, JV, JV, JW]), JQ (.st 4 (.g 16) (.t 86)), JB 17 87]) (.seq (.ifr [JA 88 15, JA 89 17, JO 90 (.bin .neq 52 (.t 88) (.t 89))] (.t 90) (.seq (.reg [JP 6 (.mv JY)]) .ret) .skip) (.seq (.ifr [JA 91 15, JO 92 (.bin .neq 52 (.t 91) (JT 0))] (.t 92) (.seq (.ifr [JA 93 15, JO 94 (.bin .neq 52 (.t 93) (JT 23)), JC 95 94, JR 96 95 (.fa 0 (.g 7)), JR 97 95 (.ld false 1 (.t 96)), JR 98 95 (.mv (.g 13)), JR 99 95 (.ia 11 (.t 97) (.t 98)), JR 100 95 (.fa 3 (.t 99)), JR 101 95 (.ld true 7 (.t 100)), JR 102 95 (.pc (.f 14) [.t 101]), JR 103 95 (.bin .leq 3 (.t 102) (JT 6)), JO 104 (.pick (.t 95) JX (.t 103))] (.t 104) (.seq (.reg [JP 6 (.mv JY)]) .ret) .skip) (.exit 3)) .skip) (.seq (.reg [JF 106 4 14, JO 107 (.pc (.f 26) [.t 106]), JC 105 107, JK 108 0 105, JK 109 1 105, JB 18 108, JB 19 109]) (.seq (.reg [JF 111 4 16, JO 112 (.pc (.f 26) [.t 111]), JC 110 112, JK 113 0 110, JK 114 1 110, JB 20 113, JB 21 114]) (.seq (.reg [JF 116 4 14, JO 117 (.pc (.f 27) [.t 116]), JC 115 117, JK 118 0 115, JK 119 1 115, JB 22 118, JC 23 119]) (.seq (.ifr [JA 120 19, JO 121 (.un .not (.t 120)), JC 122 121, JR 123 122 (.mv (.g 21)), JR 124 122 (.un .not (.t 123)), JO 125 (.pick (.t 122) JX (.t 124)), JC 126 125, JR 127 126 (.mv (.g 22)), JR 128 126 (.un .not (.t 127)), JO 129 (.pick (.t 126) JX (.t 128)), JC 130 129, JR 131 130 (.mv (.g 18)), JR 132 130 (.len false (.t 131)), JR 133 130 (.mv (.g 20)), JR 134 130 (.len false (.t 133)), JR 135 130 (.bin .neq 3 (.t 132) (.t 134)), JO 136 (.pick (.t 130) JX (.t 135)), JC 137 136, JR 138 137 (.fa 1 (.g 14)), JR 139 137 (.ld false 1 (.t 138)), JR 140 137 (.fa 0 (.g 7)), JR 141 137 (.ld false 1 (.t 140)), JR 142 137 (.mv (.g 13)), JR 143 137 (.ia 11 (.t 141) (.t 142)), JR 144 137 (.fa 2 (.t 143)), JR 145 137 (.ld false 1 (.t 144)), JR 146 137 (.bin .neq 25 (.t 139) (.t 145)), JO 147 (.pick (.t 137) JX (.t 146))] (.t 147) (.seq (.reg [JP 6 (.mv JY)]) .ret) .skip) (.seq (.reg [JI 24 0]) (.block 4 (.loop lb6_0)))))))))))) (.reg [JA 72 13, JO 73 (.bin .add 3 (.t 72) (JT 1)), JB 13 73]))
noncomputable def lb6_2 : AC :=
 .seq (.ifr [JA 40 10, JA 41 1, JO 42 (.len false (.t 41)), JO 43 (.bin .lss 3 (.t 40) (.t 42)), JC 44 43, JS 45 44 (.mv (.g 10)), JS 46 44 (.mv (.g 2)), JS 47 44 (.len false (.t 46)), JS 48 44 (.bin .lss 3 (.t 45) (.t 47)), JO 49 (.pick (.t 44) (.t 48) JY)] (.t 49) .skip (.exit 0)) (.seq (.block 1 (.reg [JA 52 9, JA 53 2, JA 54 10, JL 55 1 53 54, JD 56 1 55, JO 57 (.bsl 1 1 [.int .u8 0] [(0, 1, .t 56)]), JO 58 (.app 1 1 [.int .u8 0] (.t 52) (.t 57)), JB 9 58])) (.reg [JA 50 10, JO 51 (.bin .add 3 (.t 50) (JT 1)), JB 10 51]))
noncomputable def ac6 : AC :=
 (.seq (.reg [JP 6 (.mv JY)]) (.seq (.ifr [JO 25 (.pc (.f 8) []), JO 26 (.un .not (.t 25))] (.t 26) (.seq (.reg [JP 6 (.mv JY)]) .ret) .skip) (.seq (.reg [JA 28 0, JO 29 (.pc (.f 9) [.t 28]), JC 27 29, JK 30 0 27, JK 31 1 27, JP 7 (.al [JW]), JQ (.st 1 (.g 7) (.t 30)), JB 8 31]) (.seq (.ifr [JA 32 8, JO 33 (.un .not (.t 32)), JC 34 33, JR 35 34 (.ld true 1 (.g 7)), JR 36 34 (.pc (.f 13) [.t 35]), JR 37 34 (.fld false 1 0 (.t 36)), JR 38 34 (.bin .neq 52 (.t 37) (JT 0)), JO 39 (.pick (.t 34) JX (.t 38))] (.t 39) (.seq (.reg [JP 6 (.mv JX)]) .ret) .skip) (.seq (.reg [JP 9 (.mv (.c (.slice none 0 0)))]) (.seq (.seq (.reg [JI 10 0]) (.block 0 (.loop lb6_2))) (.seq (.reg [JF 59 1 7, JA 60 1, JO 61 (.pc (.f 24) [.t 59, .t 60]), JB 11 61]) (.seq (.reg [JA 62 11, JF 63 1 7, JA 64 9, JO 65 (.pc (.f 24) [.t 63, .t 64]), JO 66 (.pc (.f 25) [.t 62, .t 65]), JB 12 66]) (.seq (.seq (.reg [JI 13 0]) (.block 2 (.loop lb6_1))) (.seq (.reg [JP 6 (.mv JX)]) .ret))))))))))
theorem fi6 : FI Tryz.prog 6 cf6 ac6 [.t 6] [0, 1, 2, 6, 7, 8, 9, 10, 11, 12, 13, 14, 15, 16, 17, 18, 19, 20, 21, 22, 24] 163 := FI_of (c := Tryz.f6.body.getD .skip) Tryz.func6 (by kernel_rfl) (by rfl) (by rfl) (by kernel_rfl) (by kernel_rfl) rfl rfl rfl
@[simp] theorem cfP6 : cf6.P = Tryz.prog := (rfl)
set_option maxRecDepth 100000
set_option maxHeartbeats 8000000
theorem KS {P : List Fn} (hPT : PT P) (X Y : List Tt) (hl : X.length < 2 ^ 40) (hXw : TW X) (hYw : TW Y) (hXP : X.length = P.length) (hYP : Y.length = P.length) (hXf : ∀ i, i < P.length → jQ (P[i]?.getD default) (X[i]?.getD default)) (hYf : ∀ i, i < P.length → jQ (P[i]?.getD default) (Y[i]?.getD default)) :
  Pure Tryz.prog 25 [.sl (em cF X), .sl (em cF Y)] (.sl (em cF (List.zipWith cR X Y))) := by
 refine fi25.pu (by simp) ?_
 simp -implicitDefEqProofs [ac25]
 have hzl : (List.zipWith cR X Y).length = X.length := by rw [List.length_zipWith, hXP, hYP]; omega
 have hzg : ∀ i (h1 : i < X.length) (h2 : i < Y.length), (List.zipWith cR X Y)[i]? = some (cR X[i] Y[i]) := fun i h1 h2 => by
  rw [List.getElem?_zipWith, List.getElem?_eq_getElem h1, List.getElem?_eq_getElem h2]
 generalize hR : List.zipWith cR X Y = R at *
 refine cT (j := 5) (k := 4) rfl (.inl rfl) ?_
 refine lpG cf25 lb25_1 [5, 6, 7, 9, 11] (α := Nat × Nat × List Tt) (fun z _ => [(5, .osl 3 z.2.1 0 z.2.2.length), (6, I z.1)]) (fun z _ => [(3, .arr z.2.1 4 (em cF z.2.2))]) (fun z k => 3 < k ∧ z.1 ≤ X.length ∧ z.2.2 = R.take z.1) (fun z => X.length - z.1) (0, 0, []) ⟨by omega, by omega, by simp⟩ (by simp [upd]) (by simp) ?_
 rintro ⟨i, v, acc⟩ k ⟨hk1, hi, hacc⟩
 simp only at hi hacc hk1
 have hal : acc.length = i := by rw [hacc, List.length_take]; omega
 by_cases hlt : i < X.length
 ·have hlti : (i : Int) < (X.length : Int) := by omega
  have hly : i < Y.length := by omega
  have hlyi : (i : Int) < (Y.length : Int) := by omega
  have hlp : i < P.length := by omega
  have w1 := aR (x := (i : Int) + 1) (by omega) (by omega)
  obtain ⟨x, hx⟩ : ∃ x, X[i] = x := ⟨_, rfl⟩
  obtain ⟨y, hy⟩ : ∃ x, Y[i] = x := ⟨_, rfl⟩
  obtain ⟨f, hf⟩ : ∃ x, P[i] = x := ⟨_, rfl⟩
  have hfx := hXf i hlp
  have hfy := hYf i hlp
  rw [List.getElem?_eq_getElem hlp, List.getElem?_eq_getElem hlt, hf, hx] at hfx
  rw [List.getElem?_eq_getElem hlp, List.getElem?_eq_getElem hly, hf, hy] at hfy
  simp only [Option.getD_some] at hfx hfy
  obtain ⟨xw, xp⟩ := hXw x (by rw [← hx]; exact List.getElem_mem hlt)
  obtain ⟨yw, yp⟩ := hYw y (by rw [← hy]; exact List.getElem_mem hly)
  have hty := (hPT f (by rw [← hf]; exact List.getElem_mem hlp)).1
  have hnext : acc ++ [cR x y] = R.take (i + 1) := by
   rw [List.take_add_one, hzg i hlt hly, ← hacc, hx, hy]; rfl
  simp -implicitDefEqProofs [lb25_1, hlti, hlt, hx, k_]
  refine aD (oB x.ps x.t x.n x.l xw xp (fun _ cid ver nx' h0 h1 => ?_) (fun h => absurd hfx.1 h))
  simp -implicitDefEqProofs [hlyi, hly, hy, k_]
  refine aD (oB y.ps y.t y.n y.l yw yp (fun _ did ver' nx2 h2 h3 => ?_) (fun h => absurd hfy.1 h))
  simp -implicitDefEqProofs
  obtain ⟨⟨x1, x2, x3, x4, x5⟩, x6, x7⟩ := hfx
  obtain ⟨⟨y1, y2, y3, y4, y5⟩, y6, y7⟩ := hfy
  have hxy : x.n = y.n := by rw [x3, y3, x7, y7]
  have hn4 := x4.2.1
  have hcx : (cl x.n x.l).length = x.n.toNat := jR
  have hcy : (cl y.n y.l).length = x.n.toNat := by rw [hxy]; exact jR
  have hc4x : ∀ c ∈ cl x.n x.l, fY c := xF
  have hc4y : ∀ c ∈ cl y.n y.l, fY c := xF
  have hjt : cR x y = ⟨x.ps, x.t, (cl x.n x.l).length, bD (List.zipWith max (cl x.n x.l) (cl y.n y.l))⟩ := rfl
  rw [hjt] at hnext
  generalize cl x.n x.l = cx at *
  generalize cl y.n y.l = cy at *
  rw [← hxy]
  obtain ⟨n, hn⟩ : ∃ n : Nat, x.n.toNat = n := ⟨_, rfl⟩
  rw [hn] at hcx hcy
  rw [hn]
  have z1 : (cid = 3) = False := eq_false (by omega)
  have z2 : (3 = cid) = False := eq_false (by omega)
  have z3 : (did = 3) = False := eq_false (by omega)
  have z4 : (3 = did) = False := eq_false (by omega)
  have z5 : (cid = did) = False := eq_false (by omega)
  have z6 : (did = cid) = False := eq_false (by omega)
  have hzl2 : (List.zipWith max cx cy).length = n := by rw [List.length_zipWith, hcx, hcy]; omega
  refine lpG cf25 lb25_0 [11] (α := Nat) (fun j _ => [(11, I j)]) (fun j _ => [(did, .arr ver' 1 (em aT cy)), (cid, .arr ver 1 (em aT ((List.zipWith max cx cy).take j ++ cx.drop j))), (3, .arr v 4 (em cF acc))]) (fun j k => did < k ∧ j ≤ n) (fun j => n - j) 0 ⟨by omega, by omega⟩ (by simp) (by simp) ?_
  rintro j k2 ⟨hk2, hj⟩
  by_cases hjn : j < n
  ·have hjni : (j : Int) < (n : Int) := by omega
   have w2 := aR (x := (j : Int) + 1) (by omega) (by omega)
   have hjx : j < cx.length := by omega
   have hjy : j < cy.length := by omega
   have hlen : ((List.zipWith max cx cy).take j ++ cx.drop j).length = n := by simp only [List.length_append, List.length_take, List.length_drop, hzl2, hcx]; omega
   obtain ⟨a, ha⟩ : ∃ a, cx[j] = a := ⟨_, rfl⟩
   obtain ⟨b, hb⟩ : ∃ a, cy[j] = a := ⟨_, rfl⟩
   have hget : ((List.zipWith max cx cy).take j ++ cx.drop j)[j]? = some a := by
    rw [List.getElem?_append_right (by simp [hzl2]; omega)]
    simp [hzl2, hcx, List.getElem?_drop, Nat.min_eq_left hj]
    rw [List.getElem?_eq_getElem hjx, ha]
   have hset : ((List.zipWith max cx cy).take j ++ cx.drop j).set j (max a b) = (List.zipWith max cx cy).take (j + 1) ++ cx.drop (j + 1) := by
    rw [List.set_append_right _ _ (by simp [hzl2]; omega), List.take_add_one, List.getElem?_zipWith, List.getElem?_eq_getElem hjx, List.getElem?_eq_getElem hjy, List.drop_eq_getElem_cons hjx, ha, hb]
    simp [hzl2, Nat.min_eq_left hj]
   obtain ⟨old, hold⟩ : ∃ o, (List.zipWith max cx cy).take j ++ cx.drop j = o := ⟨_, rfl⟩
   rw [hold] at hlen hget hset
   rw [hold]
   have hjo : j < old.length := by omega
   have hget2 : old[j] = a := by
    rw [List.getElem?_eq_getElem hjo] at hget
    simpa using hget
   simp -implicitDefEqProofs [lb25_0, hjni, hjn, z1, z2, z3, z4, z5, z6, hlen, hget2, hjo, hjy, hcy, hb, w2]
   rw [hset]
   exact aK (j + 1) ⟨by omega, hjn⟩ (by omega) (by simp) (aI _)
  ·have hjn2 : n = j := by omega
   subst hjn2
   have hfull : (List.zipWith max cx cy).take n ++ cx.drop n = List.zipWith max cx cy := by rw [List.take_of_length_le (by omega), List.drop_eq_nil_of_le (by omega), List.append_nil]
   rw [hfull]
   have hz4 : ∀ c ∈ List.zipWith max cx cy, fY c := fun c hc => by
    obtain ⟨m, hm, rfl⟩ := List.mem_iff_getElem.1 hc
    rw [List.getElem_zipWith]
    have h1 := hc4x _ (List.getElem_mem (show m < cx.length by omega))
    have h2 := hc4y _ (List.getElem_mem (show m < cy.length by omega))
    unfold fY at *
    omega
   have hOf := vW x.ps x.t (List.zipWith max cx cy) hz4 (by omega) xp
   rw [hzl2] at hOf
   have hsn := wV acc ⟨x.ps, x.t, (cx.length : Nat), bD (List.zipWith max cx cy)⟩
   simp only [hcx] at hsn hnext
   have b1 : (acc.length + 1) * 64 ≤ 3 * 2 ^ 46 := by omega
   generalize List.zipWith max cx cy = cz at *
   simp -implicitDefEqProofs [lb25_0, z1, z2, z3, z4, z5, z6, hlti, hlt, hx, k_]
   refine aD (pH (mf := [(cid, .arr ver 1 (em aT cz))]) (mk := [(did, .arr ver' 1 (em aT cy)), (3, .arr v 4 (em cF acc))]) (aF (eH (gD _)) (by rw [aY, if_neg (by omega)]; rfl)) (eH (aF (aE _) (by rw [aY, if_neg (by omega)]; rfl))) (fun j => by
    by_cases e : cid = j
    ·subst e; right; rw [aY, if_neg (by omega), aY, if_neg (by omega)]; rfl
    ·left; rw [aY, if_neg e]; rfl) (args' := [.sl (em aT x.ps), I x.t, .sl (em aT cz)]) (by simp [List.take_of_length_le, hzl2]) hOf ?_)
   simp -implicitDefEqProofs [b1, hsn, w1, z3, z4]
   exact aK (i + 1, v + 1, acc ++ [⟨x.ps, x.t, n, bD cz⟩]) ⟨by omega, hlt, hnext⟩ (by simp only; omega) (by simp) (aN (aI _) (by rw [aY, if_neg (by omega)]; rfl))
 ·have hil : i = X.length := by omega
  subst hil
  have : acc = R := by rw [hacc, ← hzl, List.take_length]
  subst this
  simp -implicitDefEqProofs [lb25_1, frz, look]
  try rw [List.take_of_length_le (by simp)]
theorem GF : ∀ (ts l : List Int) (j : Nat) (t : Int), inT ts l = true → ts[j]? = some t → 0 ≤ l[j]?.getD 0 ∧ l[j]?.getD 0 ≤ tp t
 | [], _, j, t, _, h => by simp at h
 | u :: ts, [], j, t, h, _ => by simp [inT] at h
 | u :: ts, a :: l, j, t, h, hj => by
  rw [dL] at h
  simp only [Bool.and_eq_true, decide_eq_true_eq] at h
  cases j with
  | zero =>
   simp only [List.getElem?_cons_zero, Option.some.injEq] at hj
   subst hj
   simpa using h.1
  | succ j =>
   simp only [List.getElem?_cons_succ] at hj ⊢
   exact GF ts l j t h.2 hj
theorem uP {P : List Fn} (hk : c8 P) (hs : nO P) (s : List UInt8) (hsl : s.length < 2 ^ 48) : Pure Tryz.prog 24 [.agg [.sl (em aZ P)], .sl (em cC s)] (.sl (em cF ((b_ P s 0).map dI))) := by
 obtain ⟨hPT, hPl, hsz⟩ := gO hk
 have hTb := B7 hk hs s hsl
 have hTw := CT hk hs s
 have hTf := rP hk hs s
 have hTl := j0 P s 0
 have hP40 := hs.1
 refine fi24.pu (by simp) ?_
 generalize b_ P s 0 = T at *
 simp -implicitDefEqProofs [ac24]
 refine aG hTb (by simp) ?_
 simp -implicitDefEqProofs
 have hzl : (T.map dI).length = T.length := by simp
 have hzg : ∀ i (h1 : i < T.length), (T.map dI)[i]? = some (dI T[i]) := fun i h1 => by
  rw [List.getElem?_map, List.getElem?_eq_getElem h1]; rfl
 generalize hR : T.map dI = R at *
 refine cT (j := 5) (k := 4) rfl (.inl rfl) ?_
 refine lpG cf24 lb24_2 [5, 7, 8, 10, 11, 13, 14] (α := Nat × Nat × List Tt) (fun z _ => [(5, .osl 8 z.2.1 0 z.2.2.length), (7, I z.1)]) (fun z _ => [(8, .arr z.2.1 4 (em cF z.2.2))]) (fun z k => 8 < k ∧ z.1 ≤ T.length ∧ z.2.2 = R.take z.1) (fun z => T.length - z.1) (0, 0, []) ⟨by omega, by omega, by simp⟩ (by simp [upd]) (by simp) ?_
 rintro ⟨i, v, acc⟩ k ⟨hk1, hi, hacc⟩
 simp only at hi hacc hk1
 have hal : acc.length = i := by rw [hacc, List.length_take]; omega
 by_cases hlt : i < T.length
 ·have hlti : (i : Int) < (T.length : Int) := by omega
  have hlp : i < P.length := by omega
  have w1 := aR (x := (i : Int) + 1) (by omega) (by omega)
  obtain ⟨x, hx⟩ : ∃ x, T[i] = x := ⟨_, rfl⟩
  obtain ⟨f, hf⟩ : ∃ x, P[i] = x := ⟨_, rfl⟩
  have hfx := (hTf i hlp).1
  rw [List.getElem?_eq_getElem hlp, List.getElem?_eq_getElem hlt, hf, hx] at hfx
  simp only [Option.getD_some] at hfx
  obtain ⟨xw, xp⟩ := hTw x (by rw [← hx]; exact List.getElem_mem hlt)
  have hty := (hPT f (by rw [← hf]; exact List.getElem_mem hlp)).1
  have hnext : acc ++ [dI x] = R.take (i + 1) := by
   rw [List.take_add_one, hzg i hlt, ← hacc, hx]; rfl
  simp -implicitDefEqProofs [lb24_2, hlti, hlt, hx, k_]
  refine aD (oB x.ps x.t x.n x.l xw xp (fun _ cid ver nx' h0 h1 => ?_) (fun h => absurd hfx.1 h))
  simp -implicitDefEqProofs
  have hrt : dI x = ⟨x.ps, x.t, x.n, bD (jD x.ps (cl x.n x.l))⟩ := rfl
  rw [hrt] at hnext
  have hrise := (AJ hty hfx).2.2.2
  have hcin := v_ hfx
  obtain ⟨⟨x1, x2, x3, x4, x5⟩, x6, x7⟩ := hfx
  obtain ⟨ho, hp96, hp1⟩ := cX x1
  have hpos : 0 < pr x.ps := cZ ho
  have hcx : (cl x.n x.l).length = x.n.toNat := jR
  generalize cl x.n x.l = cx at *
  obtain ⟨n, hn⟩ : ∃ n : Nat, x.n.toNat = n := ⟨_, rfl⟩
  have hni : x.n = (n : Int) := by omega
  rw [hn] at hcx
  rw [hn]
  have z1 : (cid = 8) = False := eq_false (by omega)
  have z2 : (8 = cid) = False := eq_false (by omega)
  refine lpG cf24 lb24_1 [10, 11, 13, 14] (α := Nat × List Int) (fun z _ => [(10, I z.1)]) (fun z _ => [(cid, .arr ver 1 (em aT z.2)), (8, .arr v 4 (em cF acc))]) (fun z k => cid < k ∧ z.1 ≤ n ∧ z.2.length = n ∧ z.2 = (List.range z.1).foldl (pR x.ps) cx) (fun z => n - z.1) (0, cx) ⟨by omega, by omega, hcx, rfl⟩ (by simp) (by simp) ?_
  rintro ⟨m, c⟩ k2 ⟨hk2, hm, hcl, hc⟩
  simp only at hk2 hm hcl hc
  by_cases hmn : m < n
  ·have hmni : (m : Int) < (n : Int) := by omega
   have w2 := aR (x := (m : Int) + 1) (by omega) (by omega)
   have hmp : (m : Int) < pr x.ps := by omega
   have htup : fN x.ps m = (dg x.ps m, 0) := by unfold fN; rw [if_neg (by simpa using x1), if_neg (by omega)]
   have hnextc : pR x.ps c m = (List.range (m + 1)).foldl (pR x.ps) cx := by rw [List.range_succ, List.foldl_append, ← hc]; rfl
   simp -implicitDefEqProofs [lb24_1, hmni, hmn, hlti, hlt, hx, k_, z1, z2]
   refine aD (v9 x.ps m xp (fun _ xid ver' nx2 h2 h3 => ?_) (fun h => absurd (by rw [htup]) h))
   simp -implicitDefEqProofs
   have hdl := iT (m : Int) x.ps
   have hdown := fun j (hj : j < x.ps.length) (hd : fP x.ps m j ≠ 0) => DZ ho hmp hj hd
   have hdg : ∀ j, fP x.ps m j = (dg x.ps m)[j]?.getD 0 := fun j => rfl
   have hdin := kZ (m : Int) ho (by omega)
   generalize dg x.ps m = dl at *
   have y1 : (xid = 8) = False := eq_false (by omega)
   have y2 : (8 = xid) = False := eq_false (by omega)
   have y3 : (xid = cid) = False := eq_false (by omega)
   have y4 : (cid = xid) = False := eq_false (by omega)
   refine lpG cf24 lb24_0 [13, 14] (α := Nat × List Int) (fun z _ => [(13, I z.1), (14, .top)]) (fun z _ => [(xid, .arr ver' 1 (em aT dl)), (cid, .arr ver 1 (em aT z.2)), (8, .arr v 4 (em cF acc))]) (fun z k => xid < k ∧ z.1 ≤ x.ps.length ∧ z.2.length = n ∧ z.2 = (List.range z.1).foldl (mG x.ps m) c) (fun z => x.ps.length - z.1) (0, c) ⟨by omega, by omega, hcl, rfl⟩ (by simp) (by simp) ?_
   rintro ⟨j, c2⟩ k3 ⟨hk3, hj, hc2l, hc2⟩
   simp only at hk3 hj hc2l hc2
   by_cases hjn : j < x.ps.length
   ·have hjni : (j : Int) < (x.ps.length : Int) := by omega
    have w3 := aR (x := (j : Int) + 1) (by omega) (by omega)
    have hstep : mG x.ps m c2 j = (List.range (j + 1)).foldl (mG x.ps m) c := by rw [List.range_succ, List.foldl_append, ← hc2]; rfl
    have hjd : j < dl.length := by omega
    obtain ⟨d, hd⟩ : ∃ d, dl[j] = d := ⟨_, rfl⟩
    have hdd : fP x.ps m j = d := by rw [hdg, List.getElem?_eq_getElem hjd, hd]; rfl
    unfold mG at hstep
    rw [hdd] at hstep
    by_cases hd0 : d = 0
    ·rw [if_pos hd0] at hstep
     simp -implicitDefEqProofs [lb24_0, hjni, hjn, y1, y2, y3, y4, z1, z2, hdl, hjd, hd, hd0, w3]
     exact aK (j + 1, c2) ⟨by omega, hjn, hc2l, hstep⟩ (by simp only; omega) (by simp) (aI _)
    ·rw [if_neg hd0] at hstep
     obtain ⟨q1, q2, q3⟩ := hdown j hjn (by rw [hdd]; exact hd0)
     rw [hdd] at q2 q3
     have hnum : dC x.ps (dl.set j (d - 1)) = (((m - cP x.ps j : Nat) : Int), 0) := by
      unfold dC
      rw [if_neg (by simpa using x1), if_neg (by simp [hdl]), if_pos q2, q3]
     simp -implicitDefEqProofs [lb24_0, hjni, hjn, y1, y2, y3, y4, z1, z2, hdl, hjd, hd, hd0, w3, hlti, hlt, hx, k_]
     obtain ⟨e0, e1⟩ := GF x.ps dl j _ hdin (List.getElem?_eq_getElem hjn)
     have et := AL x.ps[j]
     rw [List.getElem?_eq_getElem hjd, hd] at e0 e1
     simp only [Option.getD_some] at e0 e1
     have w4 := aR (x := d - 1) (by omega) (by omega)
     have w5 : IntKind.i64.wrap (d - 1 + 1) = d := by rw [show d - 1 + 1 = d by omega]; exact aR (by omega) (by omega)
     have hss : (dl.set j (d - 1)).set j d = dl := by rw [List.set_set, ← hd, List.set_getElem_self]
     have hyl : (dl.set j (d - 1)).length = x.ps.length := by rw [List.length_set, hdl]
     have hyj : j < (dl.set j (d - 1)).length := by omega
     have hyg : (dl.set j (d - 1))[j]?.getD 0 = d - 1 := by rw [List.getElem?_set_self (by omega)]; rfl
     obtain ⟨r, hr⟩ : ∃ r, m - cP x.ps j = r := ⟨_, rfl⟩
     rw [hr] at hnum hstep
     have hrn : r < n := by omega
     have hrni : (r : Int) < (n : Int) := by omega
     have hrc : r < c2.length := by omega
     have hmc : m < c2.length := by omega
     obtain ⟨cm, hcm⟩ : ∃ a, c2[m] = a := ⟨_, rfl⟩
     obtain ⟨cr, hcr⟩ : ∃ a, c2[r] = a := ⟨_, rfl⟩
     rw [List.getElem?_eq_getElem hmc, List.getElem?_eq_getElem hrc, hcm, hcr] at hstep
     simp only [Option.getD_some] at hstep
     have hNm := t7 x.ps (dl.set j (d - 1)) (by omega) (by omega)
     rw [hnum] at hNm
     rw [w4]
     generalize dl.set j (d - 1) = yl at *
     refine aD (vO (d0 := .tup [I r, I 0]) (mf := [(xid, .arr ver' 1 (em aT yl)), (cid, .arr ver 1 (em aT c2)), (8, .arr v 4 (em cF acc))]) (args' := [.sl (em aT x.ps), .sl (em aT yl)]) rfl (aE _) (by simp [g9, frz, look, ← hyl, List.take_of_length_le]) hNm ?_)
     have hyg2 : yl[j] = d - 1 := by
      rw [List.getElem?_eq_getElem hyj] at hyg
      simpa using hyg
     have w6 := aR (x := d) (by omega) (by omega)
     simp -implicitDefEqProofs [y1, y2, y3, y4, z1, z2, hyl, hjni, hjn, hyj, hyg, hyg2, w6, w5, hss, hmni, hmc, hcm, hrni, hrn, hrc, hcr, hc2l, hmn, w3]
     exact aK (j + 1, c2.set m (max cm cr)) ⟨by omega, hjn, by rw [List.length_set]; exact hc2l, hstep⟩ (by simp only; omega) (by simp) (aI _)
   ·have hjn2 : j = x.ps.length := by omega
    subst hjn2
    have hrow : c2 = pR x.ps c m := hc2
    simp -implicitDefEqProofs [lb24_0, y1, y2, y3, y4, z1, z2, hdl, w2]
    exact aK (m + 1, c2) ⟨by omega, hmn, hc2l, by rw [hrow]; exact hnextc⟩ (by simp only; omega) (by simp) (aN (aI _) (by rw [aY, if_neg (by omega), aY, if_neg (by omega)]; rfl))
  ·have hjn2 : n = m := by omega
   subst hjn2
   have hcr : c = jD x.ps cx := by rw [hc]; unfold jD; rw [hcx]
   subst hcr
   have hcin2 : ∀ c ∈ jD x.ps cx, fY c := by
    rw [← hrise]
    exact xF
   have hOf := vW x.ps x.t (jD x.ps cx) hcin2 (by omega) xp
   rw [hcl] at hOf
   have hsn := wV acc ⟨x.ps, x.t, n, bD (jD x.ps cx)⟩
   rw [hni] at hnext
   simp only at hsn
   have b1 : (acc.length + 1) * 64 ≤ 3 * 2 ^ 46 := by omega
   generalize jD x.ps cx = cz at *
   simp -implicitDefEqProofs [lb24_1, z1, z2, hlti, hlt, hx, k_]
   refine aD (pH (mf := [(cid, .arr ver 1 (em aT cz))]) (mk := [(8, .arr v 4 (em cF acc))]) (eH (gD _)) (aF (aE _) (by rw [aY, if_neg (by omega)]; rfl)) (fun j => by
    by_cases e : cid = j
    ·subst e; right; rw [aY, if_neg (by omega)]; rfl
    ·left; rw [aY, if_neg e]; rfl) (args' := [.sl (em aT x.ps), I x.t, .sl (em aT cz)]) (by simp [List.take_of_length_le, hcl]) hOf ?_)
   simp -implicitDefEqProofs [b1, hsn, w1]
   exact aK (i + 1, v + 1, acc ++ [⟨x.ps, x.t, n, bD cz⟩]) ⟨by omega, hlt, hnext⟩ (by simp only; omega) (by simp) (aI _)
 ·have hil : i = T.length := by omega
  subst hil
  have : acc = R := by rw [hacc, ← hzl, List.take_length]
  subst this
  simp -implicitDefEqProofs [lb24_2, frz, look]
  try rw [List.take_of_length_le (by simp)]
def t17 : List UInt8 := [103, 40, 108, 32, 76, 41, 58, 76, 61, 108, 59, 102, 40, 108, 32, 76, 41, 58, 78, 61, 99, 97, 115, 101, 32, 108, 32, 111, 102, 32, 110, 105, 108, 45, 62, 49, 124, 104, 58, 116, 45, 62, 104, 59, 107, 40, 108, 32, 76, 41, 58, 76, 61, 103, 40, 49, 58, 108, 41, 59]
def s17 : List UInt8 := [0, 1, 2, 3, 0, 0, 0, 0, 0, 1, 2, 3]
def m17 : List Mk := [⟨0, [103], ⟨0, 0⟩, 0⟩,
 ⟨3, [40], ⟨0, 0⟩, 1⟩,
 ⟨0, [108], ⟨0, 0⟩, 2⟩,
 ⟨1, [76], ⟨0, 0⟩, 4⟩,
 ⟨3, [41], ⟨0, 0⟩, 5⟩,
 ⟨3, [58], ⟨0, 0⟩, 6⟩,
 ⟨1, [76], ⟨0, 0⟩, 7⟩,
 ⟨3, [61], ⟨0, 0⟩, 8⟩,
 ⟨0, [108], ⟨0, 0⟩, 9⟩,
 ⟨3, [59], ⟨0, 0⟩, 10⟩,
 ⟨0, [102], ⟨0, 0⟩, 11⟩,
 ⟨3, [40], ⟨0, 0⟩, 12⟩,
 ⟨0, [108], ⟨0, 0⟩, 13⟩,
 ⟨1, [76], ⟨0, 0⟩, 15⟩,
 ⟨3, [41], ⟨0, 0⟩, 16⟩,
 ⟨3, [58], ⟨0, 0⟩, 17⟩,
 ⟨1, [78], ⟨0, 0⟩, 18⟩,
 ⟨3, [61], ⟨0, 0⟩, 19⟩,
 ⟨1, [99, 97, 115, 101], ⟨0, 0⟩, 20⟩,
 ⟨0, [108], ⟨0, 0⟩, 25⟩,
 ⟨1, [111, 102], ⟨0, 0⟩, 27⟩,
 ⟨1, [110, 105, 108], ⟨0, 0⟩, 30⟩,
 ⟨3, [45, 62], ⟨0, 0⟩, 33⟩,
 ⟨2, [49], ⟨4607182418800017408, 0⟩, 35⟩,
 ⟨3, [124], ⟨0, 0⟩, 36⟩,
 ⟨0, [104], ⟨0, 0⟩, 37⟩,
 ⟨3, [58], ⟨0, 0⟩, 38⟩,
 ⟨0, [116], ⟨0, 0⟩, 39⟩,
 ⟨3, [45, 62], ⟨0, 0⟩, 40⟩,
 ⟨0, [104], ⟨0, 0⟩, 42⟩,
 ⟨3, [59], ⟨0, 0⟩, 43⟩,
 ⟨0, [107], ⟨0, 0⟩, 44⟩,
 ⟨3, [40], ⟨0, 0⟩, 45⟩,
 ⟨0, [108], ⟨0, 0⟩, 46⟩,
 ⟨1, [76], ⟨0, 0⟩, 48⟩,
 ⟨3, [41], ⟨0, 0⟩, 49⟩,
 ⟨3, [58], ⟨0, 0⟩, 50⟩,
 ⟨1, [76], ⟨0, 0⟩, 51⟩,
 ⟨3, [61], ⟨0, 0⟩, 52⟩,
 ⟨0, [103], ⟨0, 0⟩, 53⟩,
 ⟨3, [40], ⟨0, 0⟩, 54⟩,
 ⟨2, [49], ⟨4607182418800017408, 0⟩, 55⟩,
 ⟨3, [58], ⟨0, 0⟩, 56⟩,
 ⟨0, [108], ⟨0, 0⟩, 57⟩,
 ⟨3, [41], ⟨0, 0⟩, 58⟩,
 ⟨3, [59], ⟨0, 0⟩, 59⟩,
 ⟨4, [], ⟨0, 0⟩, 60⟩]
theorem F5 : dM t17 = (m17, (dM t17).2) := by rfl
def pP (k : Nat) (nest : Int) : Rd := ⟨m17, k, 0, 0, 32768, 32768, 32768, 32768, nest⟩
def g17 : Fn := ⟨[103], [⟨[108], 3, 2⟩], 3, (.mk 6 [108] [] 0 ⟨0, 0⟩ [] 9), 0⟩
def f17 : Fn := ⟨[102], [⟨[108], 3, 13⟩], 1, (.mk 20 [104] [116] 0 ⟨0, 0⟩ [(.mk 6 [108] [] 0 ⟨0, 0⟩ [] 25), (.mk 1 [] [] 0 ⟨4607182418800017408, 0⟩ [] 35), (.mk 6 [104] [] 0 ⟨0, 0⟩ [] 42)] 20), 11⟩
def k17 : Fn := ⟨[107], [⟨[108], 3, 46⟩], 3, (.mk 7 [103] [] 0 ⟨0, 0⟩ [(.mk 18 [] [] 0 ⟨0, 0⟩ [(.mk 1 [] [] 0 ⟨4607182418800017408, 0⟩ [] 55), (.mk 6 [108] [] 0 ⟨0, 0⟩ [] 57)] 56)] 53), 44⟩
def L17 : List Fn := [g17, f17, k17]
theorem d17a : kM 42 (pP 0 0) 0 = some (g17, pP 10 0) := by rfl
theorem d17b : kM 41 (pP 10 0) 1 = some (f17, pP 31 0) := by rfl
theorem d17c : kM 40 (pP 31 0) 2 = some (k17, pP 46 0) := by rfl
theorem rT {n : Nat} {l : List Fn} {r q : Rd} {f : Fn} (h : kM n r l.length = some (f, q)) (h1 : r.why = 0) (h2 : l = [] ∨ r.next.kind ≠ 4) : eQ (n + 1) l r = eQ n (l ++ [f]) q := by
 conv => lhs; unfold eQ
 rw [if_pos ⟨h1, h2⟩, h, Option.bind_some]
theorem FW {n : Nat} {l : List Fn} {r : Rd} (h1 : l ≠ []) (h2 : r.next.kind = 4) : eQ (n + 1) l r = some (l, r) := by
 unfold eQ
 rw [if_neg (fun h => h.2.elim h1 (fun h => h h2))]
theorem pp17 : eQ 43 [] (pP 0 0) = some (L17, pP 46 0) := by
 rw [rT (n := 42) d17a rfl (.inl rfl), rT (n := 41) d17b rfl (.inr (by decide)), rT (n := 40) d17c rfl (.inr (by decide)), FW (n := 39) (by simp) (by decide)]
 rfl
theorem rd017 : rd0 t17 32768 32768 32768 32768 = pP 0 0 := by unfold rd0 pP; rw [F5]
theorem FH : vH t17 L17 0 0 := N3 t17 (by decide) (by decide) (n := 43) (by decide) (by rw [rd017]; exact pp17) (by decide) (by rw [F5]; decide)
theorem ty17 : gN L17 = (0, 0) := by decide
theorem oA : nO L17 := ⟨by decide, by decide⟩
theorem AR : (dC (aO f17) [2]).2 = 0 ∧ (dC (aO k17) [2]).2 = 0 ∧ (dC (aO f17) [0]).2 = 0 := by decide
theorem BO : bQ f17.body ≤ 6 ∧ bQ k17.body ≤ 6 := by decide
theorem pt17a : cW L17 (b_ L17 s17 0) f17 [2] = 1 := by decide
theorem pt17b : cW L17 (b_ L17 s17 0) k17 [2] = 2 := by decide
theorem pt17c : cW L17 (b_ L17 s17 0) f17 [0] = 0 := by decide
theorem lit17 : em cC t17 = [[By 103], [By 40], [By 108], [By 32], [By 76], [By 41], [By 58], [By 76], [By 61], [By 108], [By 59], [By 102], [By 40], [By 108], [By 32], [By 76], [By 41], [By 58], [By 78], [By 61], [By 99], [By 97], [By 115], [By 101], [By 32], [By 108], [By 32], [By 111], [By 102], [By 32], [By 110], [By 105], [By 108], [By 45], [By 62], [By 49], [By 124], [By 104], [By 58], [By 116], [By 45], [By 62], [By 104], [By 59], [By 107], [By 40], [By 108], [By 32], [By 76], [By 41], [By 58], [By 76], [By 61], [By 103], [By 40], [By 49], [By 58], [By 108], [By 41], [By 59]] := rfl
theorem lits17 : em cC s17 = [[By 0], [By 1], [By 2], [By 3], [By 0], [By 0], [By 0], [By 0], [By 0], [By 1], [By 2], [By 3]] := rfl
theorem IU {t : List UInt8} {L : List Fn} {w : Int} (h : nW t L w) : nO L := ⟨h.2.1, h.2.2.2⟩
theorem uX {P : List Fn} {T : List Tt} {i : Int} {tu : List Int} {f : Fn} {v : Int} (hok : SeeOk P T) (h0 : 0 ≤ i) (h1 : i < P.length) (hf : gG P i = f) (hn : (dC (aO f) tu).2 = 0) (h6 : bQ f.body ≤ 6) (hv : cW P T f tu = v) : kN P T i tu = (v, 0) := by
 unfold kN
 rw [if_pos hok, if_neg (by omega), hf, if_neg (by simpa using hn), if_neg (by omega), hv]
theorem yZ : Pure Tryz.prog 8 [] (B true) := by
 have hk : c8 L17 := FH.2.1 rfl
 have hr := AY FH
 have hs : nW t17 L17 0 := ⟨rfl, oA.1, by decide, oA.2⟩
 rw [show jZ t17 L17 0 = true by simp [jZ, hs]] at hr
 have ht := B7 hk oA s17 (by decide)
 have hok := LY hk oA s17 (by rw [ty17])
 have htw := CT hk oA s17
 have htl : (b_ L17 s17 0).length < 2 ^ 44 := by rw [j0]; decide
 have hb : ∀ (i : Int) (tu : List Int), tu.length < 2 ^ 48 → _ := fun i tu h => I5 hk htl htw i tu h
 have b1 := hb 1 [2] (by decide)
 have b2 := hb 2 [2] (by decide)
 have b3 := hb 1 [0] (by decide)
 rw [uX (f := f17) hok (by decide) (by decide) rfl AR.1 BO.1 pt17a] at b1
 rw [uX (f := k17) hok (by decide) (by decide) rfl AR.2.1 BO.2 pt17b] at b2
 rw [uX (f := f17) hok (by decide) (by decide) rfl AR.2.2 BO.1 pt17c] at b3
 have e1 : em aT [2] = [[I 2]] := rfl
 have e0 : em aT [0] = [[I 0]] := rfl
 rw [e1] at b1 b2
 rw [e0] at b3
 rw [lits17] at ht
 rw [lit17] at hr
 generalize b_ L17 s17 0 = T at *
 generalize L17 = L at *
 refine fi8.pu (by simp) ?_
 simp -implicitDefEqProofs [ac8]
 refine aG hr (by simp) ?_
 simp -implicitDefEqProofs
 refine aG ht (by simp) ?_
 simp -implicitDefEqProofs
 refine aG (b1) (by simp) ?_
 simp -implicitDefEqProofs
 refine aG (b2) (by simp) ?_
 simp -implicitDefEqProofs
 refine aG (b3) (by simp) ?_
 simp -implicitDefEqProofs
theorem NZ {P : List Fn} (hk : c8 P) {f : Fn} (hf : f ∈ P) : (aO f).length < 2 ^ 44 := by
 have := ((i9 hk).2 f hf).2
 simp; omega
theorem EF {n : Nat} {ds : List D} (h : Wt Tryz.prog n 22 ds) : ∃ l : List UInt8, ds = [.sl (em cC l)] ∧ l.length < 2 ^ 47 := by
 cases n with
 | zero => exact h.elim
 | succ n =>
  simp only [Wt, Tryz.underlying22] at h
  obtain ⟨es, rfl, hl, he⟩ := h
  obtain ⟨l, rfl, _⟩ := xP (enc := cC) (p := fun _ => True) fun c hc => wt_u8 (he c hc)
  refine ⟨l, rfl, ?_⟩
  have hb : Tryz.prog.bytesOf 5 = 1 := by kernel_rfl
  rw [hb, BD] at hl
  unfold reachBytes at hl
  omega
theorem uD {x : D} (h : Arg Tryz.prog 22 x) : ∃ l : List UInt8, x = .sl (em cC l) ∧ l.length < 2 ^ 47 := by
 obtain ⟨n, ds, h, k⟩ := h
 simp only [Tryz.underlying22] at k
 obtain ⟨l, rfl, h1⟩ := EF h
 simp only [List.cons.injEq, and_true] at k
 exact ⟨l, k.symm, h1⟩
structure Good17 (P : List Fn) (T : List Tt) : Prop where
 len : T.length = P.length
 fit : ∀ i, i < P.length → jQ (P[i]?.getD default) (T[i]?.getD default)
 tw : TW T
 rise : Rise T
theorem Good17.see {P : List Fn} {T : List Tt} (h : Good17 P T) (h0 : (gN P).1 = 0) : SeeOk P T := ⟨h0, h.len, h.fit⟩
theorem DW {P : List Fn} {T : List Tt} (hk : c8 P) (hl : T.length = P.length) (h : ∀ i (hi : i < P.length) (hi2 : i < T.length), jQ P[i] T[i] ∧ dV T[i].l ∧ fS T[i].ps T[i].l T[i].n) : Good17 P T := by
 refine ⟨hl, fun i hi => ?_, fun x hx => ?_, fun x hx => ?_⟩
 ·rw [List.getElem?_eq_getElem hi, List.getElem?_eq_getElem (by omega)]
  exact (h i hi (by omega)).1
 ·obtain ⟨i, hi, rfl⟩ := List.mem_iff_getElem.1 hx
  obtain ⟨h1, h2, _⟩ := h i (by omega) hi
  refine ⟨h2, ?_⟩
  rw [h1.2.2]
  have := ((i9 hk).2 _ (List.getElem_mem (show i < P.length by omega))).2
  simp; omega
 ·obtain ⟨i, hi, rfl⟩ := List.mem_iff_getElem.1 hx
  exact (h i (by omega) hi).2.2
theorem uA {P : List Fn} (hk : c8 P) (hs : nO P) (s : List UInt8) : Good17 P ((b_ P s 0).map dI) := by
 refine DW hk (by simp [j0]) fun i hi hi2 => ?_
 have hi3 : i < (b_ P s 0).length := by rw [j0]; exact hi
 have h := (rP hk hs s i hi).1
 rw [List.getElem?_eq_getElem hi, List.getElem?_eq_getElem hi3] at h
 rw [List.getElem_map]
 obtain ⟨a, b, c, _⟩ := AJ ((gO hk).1 _ (List.getElem_mem hi)).1 h
 exact ⟨a, b, c⟩
theorem CH {P : List Fn} {X Y : List Tt} (hk : c8 P) (hX : Good17 P X) (hY : Good17 P Y) : Good17 P (List.zipWith cR X Y) ∧ TLe X (List.zipWith cR X Y) := by
 have hl : (List.zipWith cR X Y).length = P.length := by rw [List.length_zipWith, hX.len, hY.len]; omega
 have key : ∀ i (hi : i < P.length) (h1 : i < X.length) (h2 : i < Y.length), jQ P[i] (cR X[i] Y[i]) ∧ dV (cR X[i] Y[i]).l ∧ fS (cR X[i] Y[i]).ps (cR X[i] Y[i]).l (cR X[i] Y[i]).n ∧ ∀ m, m < X[i].n.toNat → aV X[i].l m ≤ aV (cR X[i] Y[i]).l m := fun i hi h1 h2 => by
  have a := hX.fit i hi
  have b := hY.fit i hi
  rw [List.getElem?_eq_getElem hi, List.getElem?_eq_getElem h1] at a
  rw [List.getElem?_eq_getElem hi, List.getElem?_eq_getElem h2] at b
  exact LX ((gO hk).1 _ (List.getElem_mem hi)).1 a b (hX.rise _ (List.getElem_mem h1)) (hY.rise _ (List.getElem_mem h2))
 refine ⟨DW hk hl fun i hi hi2 => ?_, fun i m hm => ?_⟩
 ·rw [List.getElem_zipWith]
  obtain ⟨a, b, c, _⟩ := key i hi (by rw [hX.len]; exact hi) (by rw [hY.len]; exact hi)
  exact ⟨a, b, c⟩
 ·by_cases hi : i < P.length
  ·have h1 : i < X.length := by rw [hX.len]; exact hi
   have h2 : i < Y.length := by rw [hY.len]; exact hi
   rw [List.getElem?_zipWith, List.getElem?_eq_getElem h1, List.getElem?_eq_getElem h2]
   rw [List.getElem?_eq_getElem h1] at hm
   exact (key i hi h1 h2).2.2.2 m hm
  ·rw [List.getElem?_eq_none (by rw [hX.len]; omega), List.getElem?_eq_none (by omega)]
   exact Int.le_refl _
theorem C_ {P : List Fn} {T : List Tt} {f : Fn} {m : Nat} (h : m < (c_ P T f).length) : (c_ P T f)[m] = cW P T f (dg (aO f) (m : Nat)) := by simp only [c_, List.getElem_map, List.getElem_range]
theorem law_AbsRises : ∀ xs, Args Tryz.prog Tryz.f6.params.toList xs → Pure Tryz.prog 6 xs (B true) := by
 intro xs h
 rw [Tryz.params6] at h
 simp only [Args] at h
 obtain ⟨x, r, rfl, hx, y, r2, rfl, hy, z, r3, rfl, hz, rfl⟩ := h
 obtain ⟨t, rfl, ht⟩ := HP hx
 obtain ⟨lo, rfl, hlo⟩ := uD hy
 obtain ⟨hi, rfl, hhi⟩ := uD hz
 obtain ⟨L, w, p, hr⟩ := NL t ht
 have hc := AY hr
 refine fi6.pu (by simp) ?_
 by_cases hsm : nW t L w
 ·rw [show jZ t L w = true by simp [jZ, hsm]] at hc
  have hk := hr.2.1 hsm.1
  have hS := IU hsm
  obtain ⟨hPT, hPl, hsz⟩ := gO hk
  have htc := IJ (CA hk).2 hPl hsz
  rw [← LJ hk] at htc
  simp -implicitDefEqProofs [ac6]
  refine aG (yZ) (by simp) ?_
  simp -implicitDefEqProofs
  refine aG hc (by simp) ?_
  simp -implicitDefEqProofs
  refine aG htc (by simp) ?_
  by_cases h0 : (gN L).1 = 0
  ·have hRa := uP hk hS lo (by omega)
   have hgA := uA hk hS lo
   have hL40 := hS.1
   obtain ⟨Ta, hTa⟩ : ∃ x, (b_ L lo 0).map dI = x := ⟨_, rfl⟩
   rw [hTa] at hRa hgA
   have hjoin : ∀ l : List UInt8, Pure Tryz.prog 25 [.sl (em cF Ta), .sl (em cF ((b_ L l 0).map dI))] (.sl (em cF (List.zipWith cR Ta ((b_ L l 0).map dI)))) ∧ Good17 L (List.zipWith cR Ta ((b_ L l 0).map dI)) ∧ TLe Ta (List.zipWith cR Ta ((b_ L l 0).map dI)) := fun l => by
    have hgB := uA hk hS l
    have h1 := KS hPT Ta ((b_ L l 0).map dI) (by rw [hgA.len]; omega) hgA.tw hgB.tw hgA.len hgB.len hgA.fit hgB.fit
    obtain ⟨h2, h3⟩ := CH hk hgA hgB
    exact ⟨h1, h2, h3⟩
   have hround : ∀ Tb : List Tt, Good17 L Tb → TLe Ta Tb → ∀ c, (hc : c < L.length) → ∃ f, L[c] = f ∧ f ∈ L ∧ ∃ x1 x2 : List Int,
     Pure Tryz.prog 21 [.agg [.sl (em aZ L)], .sl (em cF Ta), I c] (if 6 < bQ f.body then .tup [tb [] 0 0 [], I 23] else .tup [tb (aO f) f.type (pr (aO f)) (bD x1), I 0]) ∧
     Pure Tryz.prog 21 [.agg [.sl (em aZ L)], .sl (em cF Tb), I c] (if 6 < bQ f.body then .tup [tb [] 0 0 [], I 23] else .tup [tb (aO f) f.type (pr (aO f)) (bD x2), I 0]) ∧
     Pure Tryz.prog 26 [tb (aO f) f.type (pr (aO f)) (bD x1)] (.tup [.sl (em aT x1), B true]) ∧
     Pure Tryz.prog 26 [tb (aO f) f.type (pr (aO f)) (bD x2)] (.tup [.sl (em aT x2), B true]) ∧
     Pure Tryz.prog 27 [tb (aO f) f.type (pr (aO f)) (bD x1)] (.tup [B true, I 0]) ∧
     (∀ m (h1 : m < x1.length) (h2 : m < x2.length), x1[m] ≤ x2[m]) ∧ x1.length = x2.length ∧ x1.length ≤ 4096 ∧ True := by
    intro Tb hgB hle c hc
    have hokA := hgA.see h0
    have hokB := hgB.see h0
    have hlA : Ta.length < 2 ^ 44 := by rw [hgA.len]; omega
    have hlB : Tb.length < 2 ^ 44 := by rw [hgB.len]; omega
    obtain ⟨f, hf, hfa, hfm, hwl, hs1, hs2, hs3, hty, hokT, hcnt⟩ := B1 hk hokA (i := (c : Int)) (by omega) (by omega)
    have hfc : L[c] = f := by
     have : ((c : Nat) : Int).toNat = c := by omega
     rw [this, List.getElem?_eq_getElem hc] at hf
     simpa using hf
    obtain ⟨_, hp96, hp1⟩ := cX hcnt
    have hpos : 0 < pr (aO f) := cZ hokT
    have hA := hokA.tabs hgA.tw
    have hB := hokB.tabs hgB.tw
    have hRA := yG hk hlA hgA.tw (c : Int)
    have hRB := yG hk hlB hgB.tw (c : Int)
    have eA : gM L Ta c = if 6 < bQ f.body then (⟨[], 0, 0, []⟩, 23) else (⟨aO f, f.type, pr (aO f), bD (c_ L Ta f)⟩, 0) := by
     unfold gM; rw [if_pos hokA, if_neg (by omega), hfa]
    have eB : gM L Tb c = if 6 < bQ f.body then (⟨[], 0, 0, []⟩, 23) else (⟨aO f, f.type, pr (aO f), bD (c_ L Tb f)⟩, 0) := by
     unfold gM; rw [if_pos hokB, if_neg (by omega), hfa]
    rw [eA] at hRA
    rw [eB] at hRB
    have lenA : (c_ L Ta f).length = (pr (aO f)).toNat := by simp [c_]
    have lenB : (c_ L Tb f).length = (pr (aO f)).toNat := by simp [c_]
    have inA : ∀ v ∈ c_ L Ta f, 0 ≤ v ∧ v ≤ tp f.type := fun v hm => by
     unfold c_ at hm
     obtain ⟨k, _, rfl⟩ := List.mem_map.1 hm
     exact tV hPT hA hs3 hty hwl hokT k
    have inB : ∀ v ∈ c_ L Tb f, 0 ≤ v ∧ v ≤ tp f.type := fun v hm => by
     unfold c_ at hm
     obtain ⟨k, _, rfl⟩ := List.mem_map.1 hm
     exact tV hPT hB hs3 hty hwl hokT k
    obtain ⟨a1, a2, a3⟩ := qE (cs := c_ L Ta f) hty hcnt (by rw [lenA]; omega) inA
    obtain ⟨b1, b2, b3⟩ := qE (cs := c_ L Tb f) hty hcnt (by rw [lenB]; omega) inB
    have hpl : (aO f).length < 2 ^ 44 := NZ hk hfm
    have pA := vB a2 hpl a1.1
    have pB := vB b2 hpl b1.1
    simp only at pA pB
    rw [a3] at pA
    rw [b3] at pB
    have hris := CP hPT hA hgA.rise hs3 hty hwl hcnt
    have hR := EX (aO f) f.type (pr (aO f)) (bD (c_ L Ta f)) a2 hpl
    have hrf : sQ (aO f) f.type (pr (aO f)) (bD (c_ L Ta f)) = (true, 0) := by unfold sQ; rw [if_pos a1.1]; simp [hris]
    rw [hrf] at hR
    refine ⟨f, hfc, hfm, c_ L Ta f, c_ L Tb f, ?_, ?_, pA, pB, hR, fun m h1 h2 => ?_, by rw [lenA, lenB], by omega, trivial⟩
    ·by_cases h6 : 6 < bQ f.body
     ·rw [if_pos h6] at hRA ⊢; exact hRA
     ·rw [if_neg h6] at hRA ⊢; exact hRA
    ·by_cases h6 : 6 < bQ f.body
     ·rw [if_pos h6] at hRB ⊢; exact hRB
     ·rw [if_neg h6] at hRB ⊢; exact hRB
    ·have e1 : (c_ L Ta f)[m] = cW L Ta f (dg (aO f) m) := C_ h1
     have e2 : (c_ L Tb f)[m] = cW L Tb f (dg (aO f) m) := C_ h2
     rw [e1, e2]
     exact y9 hPT hA hB hgB.rise hle hs3 hty hwl (kZ _ hokT (by omega)) (kZ _ hokT (by omega)) (LeL.refl _)
   simp -implicitDefEqProofs [h0]
   refine cT (j := 9) (k := 1) rfl (.inl rfl) ?_
   refine pQ ?_
   refine lpG cf6 lb6_2 [9, 10] (α := Nat × Nat × List UInt8) (fun z _ => [(9, .osl 21 z.2.1 0 z.2.2.length), (10, I z.1)]) (fun z _ => [(21, .arr z.2.1 1 (em cC z.2.2)), (8, .box [.sl (em aZ L)])]) (fun z k => 21 < k ∧ z.1 ≤ lo.length ∧ z.1 ≤ hi.length ∧ z.2.2 = hi.take z.1) (fun z => lo.length - z.1) (0, 0, []) ⟨by omega, by omega, by omega, by simp⟩ (by simp [upd]) (by simp) ?_
   rintro ⟨i, v, l⟩ k ⟨hk1, hi1, hi2, hl⟩
   simp only at hk1 hi1 hi2 hl
   have hll : l.length = i := by rw [hl, List.length_take]; omega
   by_cases h1 : i < lo.length
   ·have h1i : (i : Int) < (lo.length : Int) := by omega
    by_cases h2 : i < hi.length
    ·have h2i : (i : Int) < (hi.length : Int) := by omega
     have w1 := aR (x := (i : Int) + 1) (by omega) (by omega)
     have b1 : (l.length + 1) ≤ 3 * 2 ^ 46 := by omega
     obtain ⟨b, hb⟩ : ∃ b, hi[i] = b := ⟨_, rfl⟩
     have hb8 : bt8 hi i = (b.toNat : Int) := by unfold bt8; rw [List.getElem?_eq_getElem h2, hb]; rfl
     have hap : em cC l ++ [[By b.toNat]] = em cC (l ++ [b]) := fW (enc := cC) (x := b)
     have hnext : l ++ [b] = hi.take (i + 1) := by rw [List.take_add_one, List.getElem?_eq_getElem h2, hb, ← hl]; rfl
     simp -implicitDefEqProofs [lb6_2, h1i, h2i, h2, hb8, b1, hap, w1]
     exact aK (i + 1, v + 1, l ++ [b]) ⟨by omega, h1, h2, hnext⟩ (by simp only; omega) (by simp) (aI _)
    ·have h2i : ¬ (i : Int) < (hi.length : Int) := by omega
     simp -implicitDefEqProofs [lb6_2, h1i, h2i]
     refine nN (j := 9) (d' := .sl (em cC l)) [(21, .arr v 1 (em cC l))] [(8, .box [.sl (em aZ L)])] rfl (by simp [frz, look]; try rw [List.take_of_length_le (by simp)]) (eH (gD _)) (aF (aE _) rfl) (fun j => by
      by_cases e : 21 = j
      ·subst e; right; rfl
      ·left; rw [aY, if_neg e]; rfl) ?_
     simp -implicitDefEqProofs [upd]
     refine aG hRa (by simp) ?_
     simp -implicitDefEqProofs
     refine aG (uP hk hS l (by omega)) (by simp) ?_
     simp -implicitDefEqProofs
     obtain ⟨hJ, hgJ, hle⟩ := hjoin l
     refine aG hJ (by simp) ?_
     simp -implicitDefEqProofs
     generalize List.zipWith cR Ta ((b_ L l 0).map dI) = Tb at *
     refine lpG cf6 lb6_1 [6, 13, 14, 15, 16, 17, 18, 19, 20, 21, 22, 24] (α := Nat) (fun s _ => [(13, I s)]) (fun s _ => [(8, .box [.sl (em aZ L)])]) (fun s k => 8 < k ∧ s ≤ L.length) (fun s => L.length - s) 0 ⟨by omega, by omega⟩ (by simp) (aI _) ?_
     rintro c k2 ⟨hk2, hc⟩
     by_cases hcl : c < L.length
     ·have hcli : (c : Int) < (L.length : Int) := by omega
      have w2 := aR (x := (c : Int) + 1) (by omega) (by omega)
      obtain ⟨f, hf, hfm, x1, x2, hr1, hr2, hp1, hp2, hrs, hcmp, hl1, hl2, _⟩ := hround Tb hgJ hle c hcl
      have hne := (wC f.body (by have := hsz f hfm; omega)).2
      by_cases h6 : 6 < bQ f.body
      ·have h6i : ¬ ((bQ f.body : Int) ≤ (6 : Int)) := by omega
       rw [if_pos h6] at hr1 hr2
       simp -implicitDefEqProofs [lb6_1, hcli, hcl, hf]
       refine aG hr1 (by simp) ?_
       simp -implicitDefEqProofs
       refine aG hr2 (by simp) ?_
       simp -implicitDefEqProofs [hcli, hcl, hf]
       refine aG hne (by simp) ?_
       simp -implicitDefEqProofs [h6i, w2]
       exact aK (c + 1) ⟨by omega, hcl⟩ (by omega) (by simp) (aN (aN (aI _) (by rw [aY, if_neg (by omega)]; rfl)) (by rw [aY, if_neg (by omega)]; rfl))
      ·rw [if_neg h6] at hr1 hr2
       simp -implicitDefEqProofs [lb6_1, hcli, hcl, hf]
       refine aG hr1 (by simp) ?_
       simp -implicitDefEqProofs
       refine aG hr2 (by simp) ?_
       simp -implicitDefEqProofs
       refine aG hp1 (by simp) ?_
       simp -implicitDefEqProofs
       refine aG hp2 (by simp) ?_
       simp -implicitDefEqProofs
       refine aG hrs (by simp) ?_
       have hl1i : (x1.length : Int) = (x2.length : Int) := by omega
       simp -implicitDefEqProofs [hcli, hcl, hf, hl1i]
       refine lpG cf6 lb6_0 [6, 24] (α := Nat) (fun s _ => [(24, I s)]) (fun s _ => [(k2 + 5 + 10 + 7, .box [.sl (em aT (aO f)), I f.type, I (pr (aO f)), .sl (em fG (bD x2))]), (k2 + 5 + 7, .box [.sl (em aT (aO f)), I f.type, I (pr (aO f)), .sl (em fG (bD x1))]), (8, .box [.sl (em aZ L)])]) (fun s k => k2 < k ∧ s ≤ x1.length) (fun s => x1.length - s) 0 ⟨by omega, by omega⟩ (by simp) (aI _) ?_
       rintro m k3 ⟨hk3, hm⟩
       by_cases hml : m < x1.length
       ·have hmli : (m : Int) < (x1.length : Int) := by omega
        have hml2 : m < x2.length := by omega
        have hml2i : (m : Int) < (x2.length : Int) := by omega
        have w3 := aR (x := (m : Int) + 1) (by omega) (by omega)
        have hle2 := hcmp m hml hml2
        obtain ⟨a, ha⟩ : ∃ a, x1[m] = a := ⟨_, rfl⟩
        obtain ⟨b, hb⟩ : ∃ a, x2[m] = a := ⟨_, rfl⟩
        rw [ha, hb] at hle2
        simp -implicitDefEqProofs [lb6_0, hmli, hml, hml2, hml2i, ha, hb, Int.not_lt.2 hle2, hle2, w3]
        exact aK (m + 1) ⟨by omega, hml⟩ (by omega) (by simp) (aI _)
       ·simp -implicitDefEqProofs [lb6_0, hml, w2]
        exact aK (c + 1) ⟨by omega, hcl⟩ (by omega) (by simp) (aN (aN (aI _) (by rw [aY, if_neg (by omega)]; rfl)) (by rw [aY, if_neg (by omega)]; rfl))
     ·simp -implicitDefEqProofs [lb6_1, hcl]
   ·have h1i : ¬ (i : Int) < (lo.length : Int) := by omega
    simp -implicitDefEqProofs [lb6_2, h1i]
    refine nN (j := 9) (d' := .sl (em cC l)) [(21, .arr v 1 (em cC l))] [(8, .box [.sl (em aZ L)])] rfl (by simp [frz, look]; try rw [List.take_of_length_le (by simp)]) (eH (gD _)) (aF (aE _) rfl) (fun j => by
     by_cases e : 21 = j
     ·subst e; right; rfl
     ·left; rw [aY, if_neg e]; rfl) ?_
    simp -implicitDefEqProofs [upd]
    refine aG hRa (by simp) ?_
    simp -implicitDefEqProofs
    refine aG (uP hk hS l (by omega)) (by simp) ?_
    simp -implicitDefEqProofs
    obtain ⟨hJ, hgJ, hle⟩ := hjoin l
    refine aG hJ (by simp) ?_
    simp -implicitDefEqProofs
    generalize List.zipWith cR Ta ((b_ L l 0).map dI) = Tb at *
    refine lpG cf6 lb6_1 [6, 13, 14, 15, 16, 17, 18, 19, 20, 21, 22, 24] (α := Nat) (fun s _ => [(13, I s)]) (fun s _ => [(8, .box [.sl (em aZ L)])]) (fun s k => 8 < k ∧ s ≤ L.length) (fun s => L.length - s) 0 ⟨by omega, by omega⟩ (by simp) (aI _) ?_
    rintro c k2 ⟨hk2, hc⟩
    by_cases hcl : c < L.length
    ·have hcli : (c : Int) < (L.length : Int) := by omega
     have w2 := aR (x := (c : Int) + 1) (by omega) (by omega)
     obtain ⟨f, hf, hfm, x1, x2, hr1, hr2, hp1, hp2, hrs, hcmp, hl1, hl2, _⟩ := hround Tb hgJ hle c hcl
     have hne := (wC f.body (by have := hsz f hfm; omega)).2
     by_cases h6 : 6 < bQ f.body
     ·have h6i : ¬ ((bQ f.body : Int) ≤ (6 : Int)) := by omega
      rw [if_pos h6] at hr1 hr2
      simp -implicitDefEqProofs [lb6_1, hcli, hcl, hf]
      refine aG hr1 (by simp) ?_
      simp -implicitDefEqProofs
      refine aG hr2 (by simp) ?_
      simp -implicitDefEqProofs [hcli, hcl, hf]
      refine aG hne (by simp) ?_
      simp -implicitDefEqProofs [h6i, w2]
      exact aK (c + 1) ⟨by omega, hcl⟩ (by omega) (by simp) (aN (aN (aI _) (by rw [aY, if_neg (by omega)]; rfl)) (by rw [aY, if_neg (by omega)]; rfl))
     ·rw [if_neg h6] at hr1 hr2
      simp -implicitDefEqProofs [lb6_1, hcli, hcl, hf]
      refine aG hr1 (by simp) ?_
      simp -implicitDefEqProofs
      refine aG hr2 (by simp) ?_
      simp -implicitDefEqProofs
      refine aG hp1 (by simp) ?_
      simp -implicitDefEqProofs
      refine aG hp2 (by simp) ?_
      simp -implicitDefEqProofs
      refine aG hrs (by simp) ?_
      have hl1i : (x1.length : Int) = (x2.length : Int) := by omega
      simp -implicitDefEqProofs [hcli, hcl, hf, hl1i]
      refine lpG cf6 lb6_0 [6, 24] (α := Nat) (fun s _ => [(24, I s)]) (fun s _ => [(k2 + 5 + 10 + 7, .box [.sl (em aT (aO f)), I f.type, I (pr (aO f)), .sl (em fG (bD x2))]), (k2 + 5 + 7, .box [.sl (em aT (aO f)), I f.type, I (pr (aO f)), .sl (em fG (bD x1))]), (8, .box [.sl (em aZ L)])]) (fun s k => k2 < k ∧ s ≤ x1.length) (fun s => x1.length - s) 0 ⟨by omega, by omega⟩ (by simp) (aI _) ?_
      rintro m k3 ⟨hk3, hm⟩
      by_cases hml : m < x1.length
      ·have hmli : (m : Int) < (x1.length : Int) := by omega
       have hml2 : m < x2.length := by omega
       have hml2i : (m : Int) < (x2.length : Int) := by omega
       have w3 := aR (x := (m : Int) + 1) (by omega) (by omega)
       have hle2 := hcmp m hml hml2
       obtain ⟨a, ha⟩ : ∃ a, x1[m] = a := ⟨_, rfl⟩
       obtain ⟨b, hb⟩ : ∃ a, x2[m] = a := ⟨_, rfl⟩
       rw [ha, hb] at hle2
       simp -implicitDefEqProofs [lb6_0, hmli, hml, hml2, hml2i, ha, hb, Int.not_lt.2 hle2, hle2, w3]
       exact aK (m + 1) ⟨by omega, hml⟩ (by omega) (by simp) (aI _)
      ·simp -implicitDefEqProofs [lb6_0, hml, w2]
       exact aK (c + 1) ⟨by omega, hcl⟩ (by omega) (by simp) (aN (aN (aI _) (by rw [aY, if_neg (by omega)]; rfl)) (by rw [aY, if_neg (by omega)]; rfl))
    ·simp -implicitDefEqProofs [lb6_1, hcl]
  ·simp -implicitDefEqProofs [h0]
 ·rw [show jZ t L w = false by simp [jZ, hsm]] at hc
  simp -implicitDefEqProofs [ac6]
  refine aG (yZ) (by simp) ?_
  simp -implicitDefEqProofs
  refine aG hc (by simp) ?_
  simp -implicitDefEqProofs
end Go.Fx.YtlhdpfaohphbaaaGreat
set_option maxRecDepth 1000000
namespace Go.Proofs.YtlhdpfaohphbaaaGreat.RowAbsRises
open Go Go.Fx Go.Proofs Go.Proofs.YtlhdpfaohphbaaaGreat
theorem fnRow : RowFn Tryz.checked 6 Tryz.f6 Rows.absRisesSpec (Tryz.f6.resultTypes.getD 0 0) where
 own := by kernel_rfl
 noInit := by kernel_rfl
 func := Tryz.func6
 laid := by kernel_rfl
 params := by kernel_rfl
 res := by kernel_rfl
 bool := by kernel_rfl
 vars := rfl
 spec := by
  intro H ds h
  have h' : ds.length = 3 := h.trans (by kernel_rfl)
  match ds, h' with
  | [d0, d1, d2], _ => rfl
theorem over : Rows.absRisesRow.holds Tryz.pinned (OpenSpec.ofChange Rows.absRisesSpec) :=
 OpenClaim.holds_of_wide 6 Tryz.f6 rfl rfl rfl rfl rfl rfl rfl ⟨rfl, rfl, rfl, rfl, rfl⟩ rfl rfl rfl rfl rfl (by kernel_rfl) Tryz.func6 (by kernel_rfl)
  (of_decide_eq_true (by kernel_rfl)) (by unfold Func.isWrapper; first | (rw [if_pos (by decide +kernel)]; kernel_rfl) | (rw [if_neg (by decide +kernel)]; exact ⟨rfl, rfl⟩))
  (fun os started H enc _ => row_of fnRow started (ChangeSpec.witness6 (enc := enc) (C := Tryz.checked) false ⟨#[], #[.slice none 0 0, .slice none 0 0, .slice none 0 0], []⟩ 8 (by kernel_rfl) (by kernel_rfl) (by kernel_rfl) (by kernel_rfl)) Go.Fx.YtlhdpfaohphbaaaGreat.law_AbsRises)
theorem proved : Rows.AbsRisesSaid := over
end Go.Proofs.YtlhdpfaohphbaaaGreat.RowAbsRises
namespace Go.Proofs.YtlhdpfaohphbaaaGreat
theorem absRises_holds : Rows.AbsRisesSaid := RowAbsRises.proved
#print axioms absRises_holds
end Go.Proofs.YtlhdpfaohphbaaaGreat

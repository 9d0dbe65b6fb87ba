/-
  Tables: the reference's Rises.
-/
import Derived.Test.YtjfiklflmnhbdaaTd
set_option linter.all false
set_option maxRecDepth 100000
set_option maxHeartbeats 4000000
namespace Go.Fx.Ytjfiklflmnhbdaa
open Go Go.Fx Go.Proofs Rows
open Classical in
theorem refRises_c (ps : List Int) (t n : Int) (l : List Int) (w : AllW l) (hl : ps.length < 2 ^ 44) : Pure Try.prog 28 [tb ps t n l] (.tup [B (risesF ps t n l).1, I (risesF ps t n l).2]) := by
  refine pu28 (by simp) ?_
  simp -implicitDefEqProofs [ac28]
  unfold risesF
  by_cases h : TabOk ps t n l
  · refine pcK_of (Points_y w hl h) (by simp) ?_
    simp -implicitDefEqProofs
    have h0 := h
    obtain ⟨he, ht0, hn, hg, _⟩ := h
    obtain ⟨ho, hp96, _⟩ := cntF_ok he
    have hn0 : 0 ≤ n := hg.1
    have hN := Int.max_eq_left hn0
    rw [if_pos h0]
    obtain ⟨R, hR⟩ : ∃ R : Bool, decide (RisesOk ps l n) = R := ⟨_, rfl⟩
    rw [hR]
    refine lp28_1 (α := Nat) (fun s _ => [(2, .top), (3, .top), (6, I s), (7, .top), (9, .top), (10, .top)]) (fun s _ => []) (fun s k => (s : Int) ≤ n ∧ ∀ m : Nat, m < s → ∀ i u, ps[i]? = some u → (m : Int) / pr (ps.drop (i + 1)) % (tp u + 1) < tp u → cellN l m ≤ cellN l (m + (pr (ps.drop (i + 1))).toNat)) (fun s => n.toNat - s) 0 ⟨by omega, by simp⟩ (by simp) (memLe_nil _) ?_
    rintro s k ⟨hs, hall⟩
    by_cases hlt : (s : Int) < n
    · have hsn : s < n.toNat := by omega
      have hs0 : (0 : Int) ≤ s := by omega
      have htup : (tupF ps s).2 = 0 := by unfold tupF; rw [if_neg (fun g => g he), if_neg (by omega)]
      have w4 := wrS (x := (s : Int) + 1) (by omega) (by omega)
      have hgs : ∀ h, (cl n l)[s]'h = cellN l s := fun h => by
        have := cl_get (l := l) hsn
        rw [List.getElem?_eq_getElem h] at this
        exact Option.some.inj this
      simp -implicitDefEqProofs [lb28_1, hlt, hN]
      refine clK_of (refTuple_t ps s hl (fun _ id ver nx' h1 h2 => ?_) (fun hno => absurd htup hno))
      simp -implicitDefEqProofs
      have hdl : (dg ps s).length = ps.length := dg_len _ _
      refine lp28_0 (α := Nat) (fun i _ => [(2, .top), (3, .top), (9, I i), (10, .top)]) (fun i _ => [(id, .arr ver 1 (em encI (dg ps s)))]) (fun i k' => id < k' ∧ i ≤ ps.length ∧ ∀ j u, j < i → ps[j]? = some u → (s : Int) / pr (ps.drop (j + 1)) % (tp u + 1) < tp u → cellN l s ≤ cellN l (s + (pr (ps.drop (j + 1))).toNat)) (fun i => ps.length - i) 0 ⟨by omega, by omega, by simp⟩ (by simp) (memLe_refl _) ?_
      rintro i k' ⟨hk, hi, hin⟩
      by_cases hil : i < ps.length
      · obtain ⟨u, hu⟩ : ∃ u, ps[i] = u := ⟨_, rfl⟩
        have hu3 : ps[i]? = some u := by rw [List.getElem?_eq_getElem hil, hu]
        have huo : 0 ≤ tp u := ho u (hu ▸ List.getElem_mem hil)
        have hti := tp_is u
        have hP := pr_pos (okT_drop ho (i + 1))
        have hat := dg_at (n := (s : Int)) hil hu
        have hup := dg_up (i := i) (t := u) ho hs0 (by omega : (s : Int) < pr ps) hil hu
        have r1 := Int.emod_nonneg ((s : Int) / pr (ps.drop (i + 1))) (by omega : tp u + 1 ≠ 0)
        have r2 := Int.emod_lt_of_pos ((s : Int) / pr (ps.drop (i + 1))) (by omega : 0 < tp u + 1)
        have hstep : ∀ (hok : (s : Int) / pr (ps.drop (i + 1)) % (tp u + 1) < tp u → cellN l s ≤ cellN l (s + (pr (ps.drop (i + 1))).toNat)), ∀ j v, j < i + 1 → ps[j]? = some v → (s : Int) / pr (ps.drop (j + 1)) % (tp v + 1) < tp v → cellN l s ≤ cellN l (s + (pr (ps.drop (j + 1))).toNat) := by
          intro hok j v hj hv
          by_cases e : j = i
          · subst e
            rw [hu3, Option.some.injEq] at hv
            subst hv
            exact hok
          · exact hin j v (by omega) hv
        have hbad : (s : Int) / pr (ps.drop (i + 1)) % (tp u + 1) < tp u → ¬ cellN l s ≤ cellN l (s + (pr (ps.drop (i + 1))).toNat) → R = false := by
          intro h2 h3
          rw [← hR, decide_eq_false_iff_not]
          exact fun h => h3 (h i u hu3 s hsn h2)
        generalize pr (ps.drop (i + 1)) = P at *
        generalize (s : Int) / P % (tp u + 1) = d at *
        have hget : ∀ h, (dg ps s)[i]'h = d := fun h => by
          rw [List.getElem?_eq_getElem h] at hat
          exact Option.some.inj hat
        have w1 := wrS (x := d + 1) (by omega) (by omega)
        have w2 := wrS (x := d + 1 - 1) (by omega) (by omega)
        have w3 := wr64 (x := (i : Int) + 1) (by omega) (by omega)
        have hil2 : i < (dg ps s).length := by omega
        simp -implicitDefEqProofs [lb28_0, hil, hil2, hdl, hu, hat, hget]
        rw [w1]
        refine pcK_of (Is_c u (d + 1)) (by simp) ?_
        by_cases hc : d < tp u
        · obtain ⟨u1, u2, u3⟩ := hup hc
          rw [show decide (0 ≤ d + 1 ∧ d + 1 ≤ tp u) = true by simp; omega]
          have hnum : numF ps ((dg ps s).set i (d + 1)) = ((s : Int) + P, 0) := by
            unfold numF
            rw [if_neg (fun g => g he), if_neg (by simp [hdl]), if_pos u1, u2]
          have hNum := refNumber_c ps ((dg ps s).set i (d + 1)) (by omega) (by simp [hdl]; omega)
          rw [hnum] at hNum
          have hset2 : (dg ps s).set i d = dg ps s := by
            have e := hget hil2
            rw [← e]
            exact List.set_getElem_self hil2
          have hset : (((dg ps s).set i (d + 1)).set i d) = dg ps s := by
            rw [List.set_set, hset2]
          have w5 := wrS (x := d) (by omega) (by omega)
          have hnP : (s : Int) + P < n := by omega
          have h0P : 0 ≤ (s : Int) + P := by omega
          have hnat : ((s : Int) + P).toNat = s + P.toNat := by omega
          have hsP : s + P.toNat < n.toNat := by omega
          have hgP : ∀ h, (cl n l)[s + P.toNat]'h = cellN l (s + P.toNat) := fun h => by
            have := cl_get (l := l) hsP
            rw [List.getElem?_eq_getElem h] at this
            exact Option.some.inj this
          have e3 : d + 1 - 1 = d := by omega
          simp -implicitDefEqProofs [hil, hil2, hdl, hat, hget, w1]
          refine clK_of (CallT_flat (mf := [(id, .arr ver 1 (em encI ((dg ps s).set i (d + 1))))]) (args' := [.sl (em encI ps), .sl (em encI ((dg ps s).set i (d + 1)))]) (d0 := .tup [I ((s : Int) + P), I 0]) rfl (memSub_refl _) (by simp [hdl, List.take_of_length_le]) hNum ?_)
          simp -implicitDefEqProofs [hil, hil2, hdl, w2, w5, e3, hset, hset2, hN, hlt, hsn, hgs, hnP, h0P, hnat, hsP, hgP]
          by_cases hbig : cellN l (s + P.toNat) < cellN l s
          · have := hbad hc (by omega)
            subst this
            simp -implicitDefEqProofs [hbig, Int.not_le.2 hbig]
          · simp -implicitDefEqProofs [hbig, Int.not_lt.1 hbig, w3]
            exact again_of (i + 1) ⟨by omega, hil, hstep fun _ => by omega⟩ (by omega) (by simp) (memLe_refl _)
        · rw [show decide (0 ≤ d + 1 ∧ d + 1 ≤ tp u) = false by simp; omega]
          simp -implicitDefEqProofs [w3]
          exact again_of (i + 1) ⟨by omega, hil, hstep fun h => absurd h hc⟩ (by omega) (by simp) (memLe_refl _)
      · simp -implicitDefEqProofs [lb28_0, hil, hdl, w4]
        refine again_of (s + 1) ⟨by omega, fun m hm j u hu => ?_⟩ (by omega) (by simp) (memLe_nil _)
        by_cases e : m = s
        · subst e
          have := (List.getElem?_eq_some_iff.1 hu).1
          exact hin j u (by omega) hu
        · exact hall m (by omega) j u hu
    · have hyes : R = true := by
        rw [← hR, decide_eq_true_eq]
        intro i u hu m h1 h2
        exact hall m (by omega) i u hu h2
      subst hyes
      simp -implicitDefEqProofs [lb28_1, hlt, hN, Int.not_lt.1 hlt]
  · refine pcK_of (Points_n w hl h) (by simp) ?_
    simp -implicitDefEqProofs
    rw [if_neg h]
    simp -implicitDefEqProofs
end Go.Fx.Ytjfiklflmnhbdaa

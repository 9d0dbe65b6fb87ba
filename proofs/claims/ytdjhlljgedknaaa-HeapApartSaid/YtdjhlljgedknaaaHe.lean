/-
  Layer 13: Pair, Update.
-/
import Derived.Test.YtdjhlljgedknaaaHd
set_option linter.all false
set_option maxRecDepth 100000
set_option maxHeartbeats 4000000
namespace Go.Fx.Ytdjhlljgedknaaa
open Go Go.Fx Go.Proofs Go.Fx.Flt
theorem els_Pr1 {a b : Ce} {mem : Mem} : els mem 8 (.sl [[I a.kind, CX a.re a.im, B a.b, I a.at', I b.kind, CX b.re b.im, B b.b, I b.at']]) = some [[I a.kind, CX a.re a.im, B a.b, I a.at', I b.kind, CX b.re b.im, B b.b, I b.at']] := rfl
theorem app_Pr {ps : List (Ce × Ce)} {a b : Ce} : em encPr ps ++ [[I a.kind, CX a.re a.im, B a.b, I a.at', I b.kind, CX b.re b.im, B b.b, I b.at']] = em encPr (ps ++ [(a, b)]) := em_app (enc := encPr) (x := (a, b))
section
variable {mem : Mem} {nx hid nid pid ver : Nat} {ns : List Nd} {ps : List (Ce × Ce)} {nd pd : D} {th up : Int} {K : KD}
/-- A pair that isn't one. -/
theorem Pair_no (a b : Ce) (ha : a.re < 2 ^ 64 ∧ a.im < 2 ^ 64) (hb' : b.re < 2 ^ 64 ∧ b.im < 2 ^ 64) (hb : look mem hid = some (.box [nd, pd, I th, I up])) (hn : Sees mem nd (em encNd ns)) (hp : Sees mem pd (em encPr ps))
    (h : (cellF ns.length ps.length a && cellF ns.length ps.length b) = false) (hk : ∀ nx', nx ≤ nx' → K (.tup [I 0, I 3]) mem nx') : CallT Try.prog 12 [.opt hid 0, .agg (encCe a), .agg (encCe b)] mem nx K := by
  refine ct12 (by simp) fun hfr => ?_
  have c1 := fun (K : KD) (nx : Nat) => cell_t (K := K) (nx := nx) a ha.1 ha.2 (memSub_refl _) hb hn hp
  have c2 := fun (K : KD) (nx : Nat) => cell_t (K := K) (nx := nx) b hb'.1 hb'.2 (memSub_refl _) hb hn hp
  simp only [encCe] at c1 c2
  simp -implicitDefEqProofs [ac12, encCe]
  refine clK_of (c1 _ _ ?_)
  cases h1 : cellF ns.length ps.length a
  · simp -implicitDefEqProofs [h1]
    exact ⟨_, memSub_refl _, hk _ (by omega)⟩
  · rw [h1, Bool.true_and] at h
    simp -implicitDefEqProofs [h1]
    refine clK_of (c2 _ _ ?_)
    simp -implicitDefEqProofs [h]
    exact ⟨_, memSub_refl _, hk _ (by omega)⟩
theorem Pair_o (a b : Ce) (ha : a.re < 2 ^ 64 ∧ a.im < 2 ^ 64) (hb' : b.re < 2 ^ 64 ∧ b.im < 2 ^ 64) (hb : look mem hid = some (.box [nd, .osl pid ver 0 ps.length, I th, I up])) (hn : Sees mem nd (em encNd ns)) (hp : look mem pid = some (.arr ver 8 (em encPr ps))) (hne : pid ≠ hid) (hi : hid < nx) (hj : pid < nx) (hl : ps.length < 2 ^ 41)
    (h : (cellF ns.length ps.length a && cellF ns.length ps.length b) = true) (hk : ∀ nx', nx ≤ nx' → K (.tup [I ps.length, I 0]) (upd (upd mem pid (.arr (ver + 1) 8 (em encPr (ps ++ [(a, b)])))) hid (.box [nd, .osl pid (ver + 1) 0 (ps.length + 1), I th, I up])) nx') :
    CallT Try.prog 12 [.opt hid 0, .agg (encCe a), .agg (encCe b)] mem nx K := by
  refine ct12 (by simp) fun hfr => ?_
  have hs := sees_osl hp (imm_Pr ps)
  rw [em_len] at hs
  have c1 := fun (K : KD) (nx : Nat) => cell_t (K := K) (nx := nx) a ha.1 ha.2 (memSub_refl _) hb hn hs
  have c2 := fun (K : KD) (nx : Nat) => cell_t (K := K) (nx := nx) b hb'.1 hb'.2 (memSub_refl _) hb hn hs
  rw [Bool.and_eq_true] at h
  obtain ⟨h1, h2⟩ := h
  rw [h1] at c1
  rw [h2] at c2
  simp only [encCe] at c1 c2
  have b1 : (ps.length + 1) * 80 ≤ 3 * 2 ^ 46 := by omega
  have w1 := wr64 (x := (ps.length : Int)) (by omega) (by omega)
  have hne2 : hid ≠ pid := Ne.symm hne
  simp -implicitDefEqProofs [ac12, encCe]
  refine clK_of (c1 _ _ ?_)
  simp -implicitDefEqProofs
  refine clK_of (c2 _ _ ?_)
  simp -implicitDefEqProofs [-els, els_Pr1, hb, hp, hne, hne2, b1, w1, app_Pr, look_updN]
  exact ⟨_, memSub_refl _, hk _ (by omega)⟩
theorem Pair_z (a b : Ce) (ha : a.re < 2 ^ 64 ∧ a.im < 2 ^ 64) (hb' : b.re < 2 ^ 64 ∧ b.im < 2 ^ 64) (hb : look mem hid = some (.box [nd, nilD, I th, I up])) (hn : Sees mem nd (em encNd ns)) (hi : hid < nx)
    (h : (cellF ns.length 0 a && cellF ns.length 0 b) = true) (hk : ∀ id nx', nx ≤ id → id < nx' → K (.tup [I 0, I 0]) ((id, .arr 0 8 (em encPr [(a, b)])) :: upd mem hid (.box [nd, .osl id 0 0 1, I th, I up])) nx') :
    CallT Try.prog 12 [.opt hid 0, .agg (encCe a), .agg (encCe b)] mem nx K := by
  refine ct12 (by simp) fun hfr => ?_
  have c1 := fun (K : KD) (nx : Nat) => cell_t (K := K) (nx := nx) (ps := []) a ha.1 ha.2 (memSub_refl _) hb hn sees_nil
  have c2 := fun (K : KD) (nx : Nat) => cell_t (K := K) (nx := nx) (ps := []) b hb'.1 hb'.2 (memSub_refl _) hb hn sees_nil
  rw [Bool.and_eq_true] at h
  obtain ⟨h1, h2⟩ := h
  simp only [List.length_nil, Int.natCast_zero, h1, h2, encCe] at c1 c2
  have e : [[I a.kind, CX a.re a.im, B a.b, I a.at', I b.kind, CX b.re b.im, B b.b, I b.at']] = em encPr [(a, b)] := rfl
  have e2 : els mem 8 (.sl (em encPr [(a, b)])) = some (em encPr [(a, b)]) := rfl
  have w1 := wr64 (x := (0 : Int)) (by omega) (by omega)
  simp -implicitDefEqProofs [ac12, encCe]
  refine clK_of (c1 _ _ ?_)
  simp -implicitDefEqProofs
  refine clK_of (c2 _ _ ?_)
  have hq : (nx + 4 + 2 + 10 + 9 = hid) = False := eq_false (by omega)
  simp -implicitDefEqProofs [-els, e2, hb, w1, e, hq]
  exact ⟨_, memSub_refl _, hk _ _ (by omega) (by omega)⟩
/-- What Update answers. -/
def updE (ns : List Nd) (np : Int) (i : Int) (c : Ce) : Int := if (lookF ns i).2 ≠ 0 then (lookF ns i).2 else if (lookF ns i).1.state = 2 ∧ ¬ c.kind = 5 ∧ cellF ns.length np c = true then 0 else 3
theorem Update_no (i : Int) (c : Ce) (hc : c.re < 2 ^ 64 ∧ c.im < 2 ^ 64) (hb : look mem hid = some (.box [nd, pd, I th, I up])) (hn : Sees mem nd (em encNd ns)) (hp : Sees mem pd (em encPr ps)) (hi : hid < nx) {e : Int} (he : updE ns ps.length i c = e) (h0 : e ≠ 0) (hk : ∀ nx', nx ≤ nx' → K (I e) mem nx') :
    CallT Try.prog 14 [.opt hid 0, I i, .agg (encCe c)] mem nx K := by
  refine ct14 (by simp) fun hfr => ?_
  unfold updE at he
  have hcell := fun (K : KD) (mem' : Mem) (nx : Nat) (hsub : memSub mem' mem) => cell_t (K := K) (nx := nx) c hc.1 hc.2 hsub hb hn hp
  simp only [encCe] at hcell
  simp -implicitDefEqProofs [ac14, encCe]
  refine clK_of (Look_t (mem := mem) i (by repeat (first | exact memSub_refl _ | refine memSub_skip ?_ (look_upd_none (hfr _ (by omega))) | refine memSub_skip ?_ (hfr _ (by omega)))) hb hn hp ?_)
  have hl : (lookF ns i).2 = 0 ∨ (lookF ns i).2 = 2 := by unfold lookF; split <;> simp
  generalize lookF ns i = R at *
  obtain ⟨⟨s, t, ⟨k, re, im, b, a⟩⟩, x⟩ := R
  simp only at hl he
  rcases hl with rfl | rfl
  · rw [if_neg (by simp)] at he
    by_cases s2 : s = 2
    · by_cases k5 : c.kind = 5
      · rw [if_neg (fun g => g.2.1 k5)] at he
        subst he
        simp -implicitDefEqProofs [encNd, s2, k5]
        exact ⟨mem, (by repeat (first | exact memSub_refl _ | refine memSub_skip ?_ (look_upd_none (hfr _ (by omega))) | refine memSub_skip ?_ (hfr _ (by omega)))), hk _ (by omega)⟩
      · by_cases hcf : cellF ns.length ps.length c = true
        · rw [if_pos ⟨s2, k5, hcf⟩] at he; exact absurd he.symm h0
        · rw [if_neg (fun g => hcf g.2.2)] at he
          subst he
          simp only [Bool.not_eq_true] at hcf
          rw [hcf] at hcell
          simp -implicitDefEqProofs [encNd, s2, k5]
          refine clK_of (hcell _ _ _ (by repeat (first | exact memSub_refl _ | refine memSub_skip ?_ (look_upd_none (hfr _ (by omega))) | refine memSub_skip ?_ (hfr _ (by omega)))) ?_)
          simp -implicitDefEqProofs
          exact ⟨mem, (by repeat (first | exact memSub_refl _ | refine memSub_skip ?_ (look_upd_none (hfr _ (by omega))) | refine memSub_skip ?_ (hfr _ (by omega)))), hk _ (by omega)⟩
    · rw [if_neg (fun g => s2 g.1)] at he
      subst he
      simp -implicitDefEqProofs [encNd, s2]
      exact ⟨mem, (by repeat (first | exact memSub_refl _ | refine memSub_skip ?_ (look_upd_none (hfr _ (by omega))) | refine memSub_skip ?_ (hfr _ (by omega)))), hk _ (by omega)⟩
  · rw [if_pos (by simp)] at he
    subst he
    simp -implicitDefEqProofs [encNd]
    exact ⟨mem, (by repeat (first | exact memSub_refl _ | refine memSub_skip ?_ (look_upd_none (hfr _ (by omega))) | refine memSub_skip ?_ (hfr _ (by omega)))), hk _ (by omega)⟩
theorem Update_ok (i : Int) (c : Ce) (hc : c.re < 2 ^ 64 ∧ c.im < 2 ^ 64) (hb : look mem hid = some (.box [.osl nid ver 0 ns.length, pd, I th, I up])) (hn : look mem nid = some (.arr ver 6 (em encNd ns))) (hp : Sees mem pd (em encPr ps)) (hne : nid ≠ hid) (hi : hid < nx) (hj : nid < nx) (hu : 0 ≤ up) (hu2 : up < 2 ^ 62)
    (he : updE ns ps.length i c = 0) (hk : ∀ nx', nx ≤ nx' → K (I 0) (upd (upd mem nid (.arr ver 6 (em encNd (ns.set i.toNat ⟨3, 0, c⟩)))) hid (.box [.osl nid ver 0 ns.length, pd, I th, I (up + 1)])) nx') :
    CallT Try.prog 14 [.opt hid 0, I i, .agg (encCe c)] mem nx K := by
  refine ct14 (by simp) fun hfr => ?_
  have hs := sees_osl hn (imm_Nd ns)
  rw [em_len] at hs
  unfold updE at he
  have hcell := fun (K : KD) (mem' : Mem) (nx : Nat) (hsub : memSub mem' mem) => cell_t (K := K) (nx := nx) c hc.1 hc.2 hsub hb hs hp
  simp only [encCe] at hcell
  have hl : (lookF ns i).2 = 0 ∨ (lookF ns i).2 = 2 := by unfold lookF; split <;> simp
  have hl2 : (lookF ns i).2 = 0 → 0 ≤ i ∧ i < ns.length := fun h => by
    unfold lookF at h; split at h
    · assumption
    · simp at h
  have hL := fun (K : KD) (nx : Nat) (mem' : Mem) (hsub : memSub mem' mem) => Look_t (K := K) (nx := nx) i hsub hb hs hp
  generalize lookF ns i = R at *
  obtain ⟨⟨s, t, ⟨k, re, im, b, a⟩⟩, x⟩ := R
  simp only at hl he hl2
  rcases hl with rfl | rfl
  · rw [if_neg (by simp)] at he
    obtain ⟨s2, k5, hcf⟩ : s = 2 ∧ ¬ c.kind = 5 ∧ cellF ns.length ps.length c = true := by
      by_cases g : s = 2 ∧ ¬ c.kind = 5 ∧ cellF ns.length ps.length c = true
      · exact g
      · rw [if_neg g] at he; simp at he
    obtain ⟨i0, i1⟩ := hl2 rfl
    have i2 : i.toNat < ns.length := by omega
    have hmx : max i 0 = i := by omega
    have hset : (em encNd ns).set i.toNat [I 3, I 0, I c.kind, CX c.re c.im, B c.b, I c.at'] = em encNd (ns.set i.toNat ⟨3, 0, c⟩) := by
      rw [show [I 3, I 0, I c.kind, CX c.re c.im, B c.b, I c.at'] = encNd ⟨3, 0, c⟩ from rfl, em_set]
    have hne2 : hid ≠ nid := Ne.symm hne
    have w1 := wr64 (x := up + 1) (by omega) (by omega)
    rw [hcf] at hcell
    simp -implicitDefEqProofs [ac14, encCe]
    refine clK_of (hL _ _ _ (by repeat (first | exact memSub_refl _ | refine memSub_skip ?_ (look_upd_none (hfr _ (by omega))) | refine memSub_skip ?_ (hfr _ (by omega)))) ?_)
    simp -implicitDefEqProofs [encNd, s2, k5]
    refine clK_of (hcell _ _ _ (by repeat (first | exact memSub_refl _ | refine memSub_skip ?_ (look_upd_none (hfr _ (by omega))) | refine memSub_skip ?_ (hfr _ (by omega)))) ?_)
    have f0 : (nx + 2 + 6 = hid) = False := eq_false (by omega)
    have f1 : (nx + 2 + 6 = nid) = False := eq_false (by omega)
    simp -implicitDefEqProofs [hb, hn, i0, i1, i2, hset, hmx, hne, hne2, w1, look_updN, f0, f1, encNd]
    exact ⟨_, memSub_skip (memSub_refl _) (look_upd_none (look_upd_none (hfr _ (by omega)))), hk _ (by omega)⟩
  · rw [if_pos (by simp)] at he; simp at he
end
end Go.Fx.Ytdjhlljgedknaaa

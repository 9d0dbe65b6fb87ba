/-
  Layer 13: the document's heap, as the program's.
-/
import Derived.Test.YtdjhlljgedknaaaHq
set_option linter.all false
set_option maxRecDepth 100000
set_option maxHeartbeats 4000000
namespace Go.Fx.Ytdjhlljgedknaaa
open Go Go.Fx Go.Proofs Go.Fx.Flt
theorem eqNum13 {a b c d : Int} : binD Try.prog .eql 94 (.agg [I a, I b]) (.agg [I c, I d]) = some (.pl (.bool (decide (a = c ∧ b = d)))) := by
  refine (bin_eqlS (vs := [.int .i64 a, .int .i64 b]) (us := [.int .i64 c, .int .i64 d]) Try.underlying94 (by kernel_rfl) (by kernel_rfl) rfl rfl ?_).1
  simp [eqFs, scal, Try.underlying3]
  rw [Bool.eq_iff_iff]; simp
theorem eq0_nv {b : Nat} (hb : b < 2 ^ 64) (h : plainB b = true) : eqF b 0 = decide (nv b = 0) := by
  obtain ⟨p, q⟩ := plain_Pl hb h
  have hn : (nv b).natAbs < 2 ^ 53 := by omega
  have e0 := eqF_Fi (a := nv b) (b := 0) hn (by decide)
  rw [← p, Fi_0] at e0
  exact e0
theorem zero_c {a b : Nat} (ha : a < 2 ^ 64) (hb : b < 2 ^ 64) : Pure Try.prog 38 [CX a b] (B ((plainB a && plainB b) && (eqF a 0 && eqF b 0))) := by
  refine pu38 (by simp) ?_
  cases h : plainB a && plainB b
  · simp -implicitDefEqProofs [ac38]
    refine pcK_of (Of_no h ha hb) (by simp) ?_
    simp -implicitDefEqProofs
  · simp only [Bool.and_eq_true] at h
    have e1 := eq0_nv ha h.1
    have e2 := eq0_nv hb h.2
    rw [e1, e2]
    have he := eqNum13 (a := nv a) (b := nv b) (c := 0) (d := 0)
    by_cases z1 : nv a = 0 <;> by_cases z2 : nv b = 0
    all_goals
      simp only [z1, z2] at he
      simp -implicitDefEqProofs [ac38]
      refine pcK_of (Of_yes h.1 h.2 ha hb) (by simp) ?_
      simp -implicitDefEqProofs [z1, z2, he]
theorem rCell_c (ns : List Nd) (ps : List (Ce × Ce)) (th up : Int) (c : Ce) (hr : c.re < 2 ^ 64) (hi : c.im < 2 ^ 64) : Pure Try.prog 35 [.pt (hpC ns ps th up), .agg (encCe c)] (B (cellF ns.length ps.length c)) := by
  refine pu35 (by simp) ?_
  obtain ⟨k, re, im, b, at'⟩ := c
  simp only at hr hi
  have hz := zero_c hr hi
  have hof : ∃ n m, Pure Try.prog 37 [CX re im] (.tup [.agg [I n, I m], B (plainB re && plainB im)]) := by
    cases h : plainB re && plainB im
    · exact ⟨0, 0, Of_no h hr hi⟩
    · simp only [Bool.and_eq_true] at h
      exact ⟨_, _, Of_yes h.1 h.2 hr hi⟩
  obtain ⟨on, om, hof⟩ := hof
  unfold cellF okZ
  simp only []
  generalize (plainB re && plainB im) = v at *
  generalize hL : (ns.length : Int) = n
  generalize hM : (ps.length : Int) = p
  generalize hm : mostF n p k = m
  unfold mostF at hm
  generalize he : (eqF re 0 && eqF im 0) = e at *
  have hk : k = 1 ∨ (¬ k = 1 ∧ k = 2) ∨ (¬ k = 1 ∧ ¬ k = 2 ∧ k = 3) ∨ (¬ k = 1 ∧ ¬ k = 2 ∧ ¬ k = 3 ∧ k = 4) ∨ (¬ k = 1 ∧ ¬ k = 2 ∧ ¬ k = 3 ∧ ¬ k = 4 ∧ k = 5) ∨ (¬ k = 1 ∧ ¬ k = 2 ∧ ¬ k = 3 ∧ ¬ k = 4 ∧ ¬ k = 5) := by omega
  have hat : (at' < 0 ∧ ¬ 0 ≤ at') ∨ (0 ≤ at' ∧ at' < m ∧ ¬ at' < 0) ∨ (0 ≤ at' ∧ ¬ at' < m ∧ ¬ at' < 0) := by omega
  rcases hk with h | ⟨h1, h⟩ | ⟨h1, h2, h⟩ | ⟨h1, h2, h3, h⟩ | ⟨h1, h2, h3, h4, h⟩ | ⟨h1, h2, h3, h4, h5⟩
  · by_cases h0 : at' = 0
    · cases v <;> cases b
      all_goals
        simp -implicitDefEqProofs [ac35, encCe, h]
        refine pcK_of hof (by simp) ?_
        simp -implicitDefEqProofs [h0]
    · cases v <;> cases b
      all_goals
        simp -implicitDefEqProofs [ac35, encCe, h]
        refine pcK_of hof (by simp) ?_
        simp -implicitDefEqProofs [h0]
  · subst h
    simp at hm
    subst hm
    have h01 : (decide (0 ≤ at') && decide (at' < 1)) = decide (at' = 0) := by
      rw [Bool.eq_iff_iff]; simp; omega
    rw [h01]
    by_cases h0 : at' = 0 <;> cases v <;> cases e <;> cases b
    all_goals
      simp -implicitDefEqProofs [ac35, encCe, hL, hM]
      refine pcK_of hz (by simp) ?_
      simp -implicitDefEqProofs [h0]
  · subst h
    simp at hm
    subst hm
    have h01 : (decide (0 ≤ at') && decide (at' < 1)) = decide (at' = 0) := by
      rw [Bool.eq_iff_iff]; simp; omega
    rw [h01]
    by_cases h0 : at' = 0 <;> cases v <;> cases e <;> cases b
    all_goals
      simp -implicitDefEqProofs [ac35, encCe, hL, hM]
      refine pcK_of hz (by simp) ?_
      simp -implicitDefEqProofs [h0]
  · subst h
    simp at hm
    subst hm
    rcases hat with ⟨a1, a2⟩ | ⟨a1, a2, a3⟩ | ⟨a1, a2, a3⟩ <;> cases v <;> cases e <;> cases b
    all_goals
      simp -implicitDefEqProofs [ac35, encCe, hL, hM]
      refine pcK_of hz (by simp) ?_
      simp -implicitDefEqProofs [a1, a2, hM, Int.not_lt]
  · subst h
    simp at hm
    subst hm
    rcases hat with ⟨a1, a2⟩ | ⟨a1, a2, a3⟩ | ⟨a1, a2, a3⟩ <;> cases v <;> cases e <;> cases b
    all_goals
      simp -implicitDefEqProofs [ac35, encCe, hL, hM]
      refine pcK_of hz (by simp) ?_
      simp -implicitDefEqProofs [a1, a2, hL, Int.not_lt]
  · simp [h2, h3, h4, h5] at hm
    subst hm
    have h01 : (decide (0 ≤ at') && decide (at' < 0)) = false := by
      rw [Bool.eq_iff_iff]; simp
      try omega
    rw [if_neg h1, h01]
    simp -implicitDefEqProofs [ac35, encCe, h1, h2, h3, h4, h5]
theorem rLook_c (ns : List Nd) (ps : List (Ce × Ce)) (th up i : Int) : Pure Try.prog 29 [.pt (hpC ns ps th up), I i] (.tup [.agg (encNd (lookF ns i).1), I (lookF ns i).2]) := by
  refine pu29 (by simp) ?_
  unfold lookF
  by_cases h1 : i < 0
  · rw [if_neg (by omega)]
    simp -implicitDefEqProofs [ac29, h1, encNd, nd0, ce0]
  · by_cases h2 : i < ns.length
    · have h3 : ¬ (ns.length : Int) ≤ i := by omega
      have h4 : 0 ≤ i := by omega
      have h5 : i.toNat < ns.length := by omega
      obtain ⟨x, hx⟩ : ∃ x, ns[i.toNat] = x := ⟨_, rfl⟩
      rw [if_pos ⟨h4, h2⟩, List.getElem?_eq_getElem h5, hx]
      simp -implicitDefEqProofs [ac29, h1, h2, h3, h4, h5, hx, encNd]
    · have h3 : (ns.length : Int) ≤ i := by omega
      rw [if_neg (by omega)]
      simp -implicitDefEqProofs [ac29, h1, h2, h3, encNd, nd0, ce0]
theorem rParts_c (ns : List Nd) (ps : List (Ce × Ce)) (th up i : Int) : Pure Try.prog 30 [.pt (hpC ns ps th up), I i] (.tup [.agg (encPr (partsF ps i).1), I (partsF ps i).2]) := by
  refine pu30 (by simp) ?_
  unfold partsF
  by_cases h1 : i < 0
  · rw [if_neg (by omega)]
    simp -implicitDefEqProofs [ac30, h1, encPr, ce0]
  · by_cases h2 : i < ps.length
    · have h3 : ¬ (ps.length : Int) ≤ i := by omega
      have h4 : 0 ≤ i := by omega
      have h5 : i.toNat < ps.length := by omega
      obtain ⟨x, hx⟩ : ∃ x, ps[i.toNat] = x := ⟨_, rfl⟩
      rw [if_pos ⟨h4, h2⟩, List.getElem?_eq_getElem h5, hx]
      simp -implicitDefEqProofs [ac30, h1, h2, h3, h4, h5, hx, encPr]
    · have h3 : (ps.length : Int) ≤ i := by omega
      rw [if_neg (by omega)]
      simp -implicitDefEqProofs [ac30, h1, h2, h3, encPr, ce0]
section
variable {mem : Mem} {nx hid : Nat} {J : Nat → Prop} {ns : List Nd} {ps : List (Ce × Ce)} {th up : Int} {K : KD}
theorem rLook_t (i : Int) {mem' : Mem} (hsub : memSub mem' mem) (h : Hp mem nx J hid ns ps th up) {nx' : Nat} (hk : K (.tup [.agg (encNd (lookF ns i).1), I (lookF ns i).2]) mem' nx') : CallT Try.prog 29 [.opt hid 0, I i] mem' nx' K := by
  obtain ⟨nd, pd, hb, h1, h2⟩ := h.ex
  exact CallT_flat (d0 := .tup [.agg (encNd (lookF ns i).1), I (lookF ns i).2]) rfl hsub (lend (n := 89) hb (h1.sees (imm_Nd ns)) (h2.sees (imm_Pr ps)) rfl) (rLook_c ns ps th up i) hk
theorem rParts_t (i : Int) {mem' : Mem} (hsub : memSub mem' mem) (h : Hp mem nx J hid ns ps th up) {nx' : Nat} (hk : K (.tup [.agg (encPr (partsF ps i).1), I (partsF ps i).2]) mem' nx') : CallT Try.prog 30 [.opt hid 0, I i] mem' nx' K := by
  obtain ⟨nd, pd, hb, h1, h2⟩ := h.ex
  exact CallT_flat (d0 := .tup [.agg (encPr (partsF ps i).1), I (partsF ps i).2]) rfl hsub (lend (n := 89) hb (h1.sees (imm_Nd ns)) (h2.sees (imm_Pr ps)) rfl) (rParts_c ns ps th up i) hk
theorem rCell_t (c : Ce) (hr : c.re < 2 ^ 64) (hi : c.im < 2 ^ 64) {mem' : Mem} (hsub : memSub mem' mem) (h : Hp mem nx J hid ns ps th up) {nx' : Nat} (hk : K (B (cellF ns.length ps.length c)) mem' nx') : CallT Try.prog 35 [.opt hid 0, .agg (encCe c)] mem' nx' K := by
  obtain ⟨nd, pd, hb, h1, h2⟩ := h.ex
  exact CallT_flat (d0 := B (cellF ns.length ps.length c)) rfl hsub (lend (n := 89) hb (h1.sees (imm_Nd ns)) (h2.sees (imm_Pr ps)) rfl) (rCell_c ns ps th up c hr hi) hk
theorem els_1 {mem : Mem} {k : Nat} {e : List D} (h : (e.length == k && e.all D.cell) = true) : els mem k (.sl [e]) = some [e] := by
  show (if [e].all (fun e => e.length == k && e.all D.cell) then some [e] else none) = _
  rw [List.all_cons, h]; rfl
theorem rDelay_h (tag : Int) (h : Hp mem nx J hid ns ps th up) (hl : ns.length < 2 ^ 41) (ht : 0 ≤ th) (ht2 : th < 2 ^ 62)
    (hk : ∀ mem' nx' J', Hp mem' nx' J' hid (ns ++ [⟨1, tag, ce0⟩]) ps (th + 1) up → Fm mem nx J mem' nx' J' → K (I ns.length) mem' nx') : CallT Try.prog 26 [.opt hid 0, I tag] mem nx K := by
  obtain ⟨nd, pd, hb, h1, h2⟩ := h.ex
  have hne : look mem hid ≠ none := by rw [hb]; simp
  have wt := wr64 (x := th + 1) (by omega) (by omega)
  refine ct26 (by simp) fun hfr => ?_
  rcases h1 with ⟨rfl, h1⟩ | ⟨nid, ver, rfl, h3, h4, h5⟩
  · obtain rfl := em_nil h1
    have e : [[I 1, I tag, I 0, CX 0 0, B false, I 0]] = em encNd [⟨1, tag, ce0⟩] := rfl
    have w1 := wr64 (x := (0 : Int)) (by omega) (by omega)
    have h0 := h.lt _ h.h0
    have hq : (nx + 1 + 8 = hid) = False := eq_false (by omega)
    have g := fun nx' (hn : nx + 1 + 8 < nx') => grow_z (n := ⟨1, tag, ce0⟩) (th' := th + 1) (nx' := nx') h h2 hne (id := nx + 1 + 8) (by omega) hn
    simp -implicitDefEqProofs [-els, els_1, els_one, e, ac26, hb, wt, w1, hq]
    exact ⟨_, memSub_refl _, hk _ _ _ (g _ (by omega)).1 (g _ (by omega)).2⟩
  · rw [em_len] at hb
    have hne2 : hid ≠ nid := Ne.symm h5
    have b1 : (ns.length + 1) * 56 ≤ 3 * 2 ^ 46 := by omega
    have w1 := wr64 (x := (ns.length : Int)) (by omega) (by omega)
    have e : em encNd ns ++ [[I 1, I tag, I 0, CX 0 0, B false, I 0]] = em encNd (ns ++ [⟨1, tag, ce0⟩]) := em_app (enc := encNd) (x := ⟨1, tag, ce0⟩)
    have g := fun nx' (hn : nx ≤ nx') => grow_o (n := ⟨1, tag, ce0⟩) (th' := th + 1) (nx' := nx') h h2 h3 h4 h5 hne hn
    simp -implicitDefEqProofs [-els, els_1, e, ac26, hb, wt, h3, h5, hne2, b1, w1, look_updI, look_updN]
    exact ⟨_, memSub_refl _, hk _ _ _ (g _ (by omega)).1 (g _ (by omega)).2⟩
theorem rPoison_h (h : Hp mem nx J hid ns ps th up) (hl : ns.length < 2 ^ 41)
    (hk : ∀ mem' nx' J', Hp mem' nx' J' hid (ns ++ [⟨4, 0, ce0⟩]) ps th up → Fm mem nx J mem' nx' J' → K (I ns.length) mem' nx') : CallT Try.prog 27 [.opt hid 0] mem nx K := by
  obtain ⟨nd, pd, hb, h1, h2⟩ := h.ex
  have hne : look mem hid ≠ none := by rw [hb]; simp
  refine ct27 (by simp) fun hfr => ?_
  rcases h1 with ⟨rfl, h1⟩ | ⟨nid, ver, rfl, h3, h4, h5⟩
  · obtain rfl := em_nil h1
    have e : [[I 4, I 0, I 0, CX 0 0, B false, I 0]] = em encNd [⟨4, 0, ce0⟩] := rfl
    have w1 := wr64 (x := (0 : Int)) (by omega) (by omega)
    have h0 := h.lt _ h.h0
    have hq : (nx + 1 + 7 = hid) = False := eq_false (by omega)
    have g := fun nx' (hn : nx + 1 + 7 < nx') => grow_z (n := ⟨4, 0, ce0⟩) (th' := th) (nx' := nx') h h2 hne (id := nx + 1 + 7) (by omega) hn
    simp -implicitDefEqProofs [-els, els_1, els_one, e, ac27, hb, w1, hq]
    exact ⟨_, memSub_refl _, hk _ _ _ (g _ (by omega)).1 (g _ (by omega)).2⟩
  · rw [em_len] at hb
    have hne2 : hid ≠ nid := Ne.symm h5
    have b1 : (ns.length + 1) * 56 ≤ 3 * 2 ^ 46 := by omega
    have w1 := wr64 (x := (ns.length : Int)) (by omega) (by omega)
    have e : em encNd ns ++ [[I 4, I 0, I 0, CX 0 0, B false, I 0]] = em encNd (ns ++ [⟨4, 0, ce0⟩]) := em_app (enc := encNd) (x := ⟨4, 0, ce0⟩)
    have g := fun nx' (hn : nx ≤ nx') => grow_o (n := ⟨4, 0, ce0⟩) (th' := th) (nx' := nx') h h2 h3 h4 h5 hne hn
    simp -implicitDefEqProofs [-els, els_1, e, ac27, hb, h3, h5, hne2, b1, w1, look_updI, look_updN]
    exact ⟨_, memSub_refl _, hk _ _ _ (g _ (by omega)).1 (g _ (by omega)).2⟩
theorem growp_z {id nx' : Nat} {nd : D} {a b : Ce} (h : Hp mem nx J hid ns [] th up) (hb : look mem hid = some (.box [nd, nilD, I th, I up])) (h1 : SlI mem 6 nd (em encNd ns) J hid) (g1 : nx ≤ id) (g2 : id < nx') :
    Hp ((id, .arr 0 8 (em encPr [(a, b)])) :: Go.Fx.upd mem hid (.box [nd, .osl id 0 0 1, I th, I up])) nx' (fun i => J i ∨ i = id) hid ns [(a, b)] th up ∧ Fm mem nx J ((id, .arr 0 8 (em encPr [(a, b)])) :: Go.Fx.upd mem hid (.box [nd, .osl id 0 0 1, I th, I up])) nx' (fun i => J i ∨ i = id) := by
  have h0 := h.lt _ h.h0
  refine ⟨⟨⟨_, _, by rw [look_cons, if_neg (by omega), look_upd_same hid _ _ _ hb]; rfl, h1.mono (fun i v hi hj he => ?_) fun _ h => .inl h, .inr ⟨id, 0, rfl, by rw [look_cons, if_pos rfl], .inr rfl, by omega⟩⟩, .inl h.h0, fun i hi => ?_⟩, ⟨by omega, fun i hi hj => ?_, fun i h => ?_⟩⟩
  · have := h.lt _ hj; rw [look_cons, if_neg (by omega), look_upd_ne _ he]
  · rcases hi with hi | rfl
    · have := h.lt _ hi; omega
    · exact g2
  · rw [look_cons, if_neg (by omega), look_upd_ne _ (fun e => hj (by rw [e]; exact h.h0))]
  · rcases h with h | rfl
    · exact .inl h
    · exact .inr g1
theorem growp_o {pid ver nx' : Nat} {nd : D} {a b : Ce} (h : Hp mem nx J hid ns ps th up) (hb : look mem hid = some (.box [nd, .osl pid ver 0 ps.length, I th, I up])) (h1 : SlI mem 6 nd (em encNd ns) J hid) (h3 : look mem pid = some (.arr ver 8 (em encPr ps))) (h4 : J pid) (h5 : pid ≠ hid) (g1 : nx ≤ nx') :
    Hp (Go.Fx.upd (Go.Fx.upd mem pid (.arr (ver + 1) 8 (em encPr (ps ++ [(a, b)])))) hid (.box [nd, .osl pid (ver + 1) 0 (ps.length + 1), I th, I up])) nx' J hid ns (ps ++ [(a, b)]) th up ∧ Fm mem nx J (Go.Fx.upd (Go.Fx.upd mem pid (.arr (ver + 1) 8 (em encPr (ps ++ [(a, b)])))) hid (.box [nd, .osl pid (ver + 1) 0 (ps.length + 1), I th, I up])) nx' J := by
  refine ⟨⟨⟨_, _, look_upd_same hid _ _ _ (by rw [look_upd_ne _ (Ne.symm h5), hb]), h1.mono (fun i v hi hj he => ?_) fun _ h => h, .inr ⟨pid, ver + 1, by simp, ?_, h4, h5⟩⟩, h.h0, fun i hi => Nat.lt_of_lt_of_le (h.lt i hi) g1⟩, ⟨g1, fun i hi hj => ?_, fun _ h => .inl h⟩⟩
  · rw [look_upd_ne _ he, look_upd_ne _ (fun e => by subst e; rw [h3] at hi; simp at hi)]
  · rw [look_upd_ne _ h5, look_upd_same pid _ _ _ h3]
  · rw [look_upd_ne _ (fun e => hj (by rw [e]; exact h.h0)), look_upd_ne _ (fun e => hj (by rw [e]; exact h4))]
theorem rPair_h (a b : Ce) (ha : a.re < 2 ^ 64 ∧ a.im < 2 ^ 64) (hb' : b.re < 2 ^ 64 ∧ b.im < 2 ^ 64) (h : Hp mem nx J hid ns ps th up) (hl : ps.length < 2 ^ 41)
    (hk : ∀ mem' nx' J', Hp mem' nx' J' hid ns (if pairOk ns ps a b then ps ++ [(a, b)] else ps) th up → Fm mem nx J mem' nx' J' → K (if pairOk ns ps a b then .tup [I ps.length, I 0] else .tup [I 0, I 3]) mem' nx') :
    CallT Try.prog 28 [.opt hid 0, .agg (encCe a), .agg (encCe b)] mem nx K := by
  refine ct28 (by simp) fun hfr => ?_
  have c1 := fun (K : KD) (nx' : Nat) => rCell_t (K := K) (nx' := nx') a ha.1 ha.2 (memSub_refl _) h
  have c2 := fun (K : KD) (nx' : Nat) => rCell_t (K := K) (nx' := nx') b hb'.1 hb'.2 (memSub_refl _) h
  obtain ⟨nd, pd, hb, h1, h2⟩ := h.ex
  unfold pairOk at hk
  cases e1 : cellF ns.length ps.length a
  · rw [e1] at c1
    simp only [e1, Bool.false_and, Bool.false_eq_true, if_false] at hk
    simp only [encCe] at c1
    simp -implicitDefEqProofs [ac28, encCe]
    refine clK_of (c1 _ _ ?_)
    simp -implicitDefEqProofs
    exact ⟨_, memSub_refl _, hk _ _ _ (h.later (by omega)) (.refl _ _ (by omega))⟩
  · cases e2 : cellF ns.length ps.length b
    · rw [e1] at c1
      rw [e2] at c2
      simp only [e1, e2, Bool.and_false, Bool.false_eq_true, if_false] at hk
      simp only [encCe] at c1 c2
      simp -implicitDefEqProofs [ac28, encCe]
      refine clK_of (c1 _ _ ?_)
      simp -implicitDefEqProofs
      refine clK_of (c2 _ _ ?_)
      simp -implicitDefEqProofs
      exact ⟨_, memSub_refl _, hk _ _ _ (h.later (by omega)) (.refl _ _ (by omega))⟩
    · rw [e1] at c1
      rw [e2] at c2
      simp only [e1, e2, Bool.and_self, if_true] at hk
      simp only [encCe] at c1 c2
      have h0 := h.lt _ h.h0
      rcases h2 with ⟨rfl, h2⟩ | ⟨pid, ver, rfl, h3, h4, h5⟩
      · obtain rfl := em_nil h2
        have e : [[I a.kind, CX a.re a.im, B a.b, I a.at', I b.kind, CX b.re b.im, B b.b, I b.at']] = em encPr [(a, b)] := rfl
        have e2 : els mem 8 (.sl (em encPr [(a, b)])) = some (em encPr [(a, b)]) := rfl
        have w1 := wr64 (x := (0 : Int)) (by omega) (by omega)
        simp -implicitDefEqProofs [ac28, encCe]
        refine clK_of (c1 _ _ ?_)
        simp -implicitDefEqProofs
        refine clK_of (c2 _ _ ?_)
        have hq : (nx + 4 + 10 + 9 = hid) = False := eq_false (by omega)
        have g := fun nx' (hn : nx + 4 + 10 + 9 < nx') => growp_z (a := a) (b := b) (nx' := nx') h hb h1 (id := nx + 4 + 10 + 9) (by omega) hn
        simp -implicitDefEqProofs [-els, e, e2, hb, w1, hq]
        exact ⟨_, memSub_refl _, hk _ _ _ (g _ (by omega)).1 (g _ (by omega)).2⟩
      · rw [em_len] at hb
        have hne2 : hid ≠ pid := Ne.symm h5
        have b1 : (ps.length + 1) * 80 ≤ 3 * 2 ^ 46 := by omega
        have w1 := wr64 (x := (ps.length : Int)) (by omega) (by omega)
        have e : em encPr ps ++ [[I a.kind, CX a.re a.im, B a.b, I a.at', I b.kind, CX b.re b.im, B b.b, I b.at']] = em encPr (ps ++ [(a, b)]) := em_app (enc := encPr) (x := (a, b))
        simp -implicitDefEqProofs [ac28, encCe]
        refine clK_of (c1 _ _ ?_)
        simp -implicitDefEqProofs
        refine clK_of (c2 _ _ ?_)
        have g := fun nx' (hn : nx ≤ nx') => growp_o (a := a) (b := b) (nx' := nx') h hb h1 h3 h4 h5 hn
        simp -implicitDefEqProofs [-els, els_1, e, hb, h3, h5, hne2, b1, w1, look_updI, look_updN]
        exact ⟨_, memSub_refl _, hk _ _ _ (g _ (by omega)).1 (g _ (by omega)).2⟩
theorem rEnter_h (i : Int) (h : Hp mem nx J hid ns ps th up) (hk : ∀ mem' nx' J', Hp mem' nx' J' hid (enterF ns i).2 ps th up → Fm mem nx J mem' nx' J' → K (.tup [.agg (encNd (enterF ns i).1.1), I (enterF ns i).1.2]) mem' nx') : CallT Try.prog 31 [.opt hid 0, I i] mem nx K := by
  refine ct31 (by simp) fun hfr => ?_
  obtain ⟨nd, pd, hb, h1, h2⟩ := h.ex
  have h0 := h.lt _ h.h0
  simp -implicitDefEqProofs [ac31]
  refine clK_of (rLook_t (mem := mem) i (by repeat (first | exact memSub_refl _ | refine memSub_skip ?_ (look_upd_none (hfr _ (by omega))) | refine memSub_skip ?_ (hfr _ (by omega)))) h ?_)
  have hl : (lookF ns i).2 = 0 ∨ (lookF ns i).2 = 2 := by unfold lookF; split <;> simp
  have hl2 : (lookF ns i).2 = 0 → 0 ≤ i ∧ i < ns.length := fun h => by
    unfold lookF at h; split at h
    · assumption
    · simp at h
  have z1 : ∀ c, (nx + c = hid) = False := fun c => eq_false (by omega)
  have z2 : (nx = hid) = False := eq_false (by omega)
  have f2 : (nx + 2 + 6 = nx) = False := eq_false (by omega)
  have f3 : (nx = nx + 2 + 6) = False := eq_false (by omega)
  have f4 : (nx + 2 + 6 = hid) = False := eq_false (by omega)
  unfold enterF at hk
  generalize lookF ns i = R at *
  obtain ⟨⟨s, t, ⟨k, re, im, b, a⟩⟩, e⟩ := R
  simp only at hk hl hl2
  rcases hl with rfl | rfl
  · obtain ⟨i0, i1⟩ := hl2 rfl
    rw [if_neg (by simp)] at hk
    by_cases s2 : s = 2
    · rw [if_pos s2] at hk
      simp -implicitDefEqProofs [f2, f3, f4, encNd, s2]
      exact ⟨mem, (by repeat (first | exact memSub_refl _ | refine memSub_skip ?_ (look_upd_none (hfr _ (by omega))) | refine memSub_skip ?_ (hfr _ (by omega)))), by simpa [encNd, nd0, ce0] using hk _ _ _ (h.later (by omega)) (.refl _ _ (by omega))⟩
    · rw [if_neg s2] at hk
      by_cases s4 : s = 4
      · rw [if_pos s4] at hk
        simp -implicitDefEqProofs [f2, f3, f4, encNd, s4]
        exact ⟨mem, (by repeat (first | exact memSub_refl _ | refine memSub_skip ?_ (look_upd_none (hfr _ (by omega))) | refine memSub_skip ?_ (hfr _ (by omega)))), by simpa [encNd, nd0, ce0] using hk _ _ _ (h.later (by omega)) (.refl _ _ (by omega))⟩
      · rw [if_neg s4] at hk
        by_cases s1 : s = 1
        · rw [if_pos s1] at hk
          rcases h1 with ⟨rfl, h1⟩ | ⟨nid, ver, rfl, h3, h4, h5⟩
          · obtain rfl := em_nil h1
            simp at i1; omega
          · rw [em_len] at hb
            have hj := h.lt _ h4
            have y1 : ∀ c, (nx + c = nid) = False := fun c => eq_false (by omega)
            have f5 : (nx + 2 + 6 = nid) = False := eq_false (by omega)
            have y2 : (nx = nid) = False := eq_false (by omega)
            have i2 : i.toNat < ns.length := by omega
            have hmx : max i 0 = i := by omega
            have hset : (em encNd ns).set i.toNat [I 2, I 0, I 0, CX 0 0, B false, I 0] = em encNd (ns.set i.toNat ⟨2, 0, ce0⟩) := by
              rw [show [I 2, I 0, I 0, CX 0 0, B false, I 0] = encNd ⟨2, 0, ce0⟩ from rfl, em_set]
            have g := fun nx' (hn : nx ≤ nx') => set_h (ns' := ns.set i.toNat ⟨2, 0, ce0⟩) h hb h2 h3 h4 h5 hn (by simp)
            simp -implicitDefEqProofs [f2, f3, f4, encNd, s1, hb, h3, z1, z2, f5, y1, y2, i0, i1, i2, hset, hmx]
            exact ⟨Go.Fx.upd mem nid (.arr ver 6 (em encNd (ns.set i.toNat ⟨2, 0, ce0⟩))), (by repeat (first | exact memSub_refl _ | refine memSub_skip ?_ (look_upd_none (hfr _ (by omega))) | refine memSub_skip ?_ (hfr _ (by omega)))), by simpa [encNd, s1] using hk _ _ _ (g _ (by omega)).1 (g _ (by omega)).2⟩
        · rw [if_neg s1] at hk
          simp -implicitDefEqProofs [f2, f3, f4, encNd, s2, s4, s1]
          exact ⟨mem, (by repeat (first | exact memSub_refl _ | refine memSub_skip ?_ (look_upd_none (hfr _ (by omega))) | refine memSub_skip ?_ (hfr _ (by omega)))), by simpa [encNd] using hk _ _ _ (h.later (by omega)) (.refl _ _ (by omega))⟩
  · rw [if_pos (by simp)] at hk
    simp -implicitDefEqProofs [f2, f3, f4, encNd]
    exact ⟨mem, (by repeat (first | exact memSub_refl _ | refine memSub_skip ?_ (look_upd_none (hfr _ (by omega))) | refine memSub_skip ?_ (hfr _ (by omega)))), by simpa [encNd] using hk _ _ _ (h.later (by omega)) (.refl _ _ (by omega))⟩
theorem rUpdate_h (i : Int) (c : Ce) (hc : c.re < 2 ^ 64 ∧ c.im < 2 ^ 64) (h : Hp mem nx J hid ns ps th up) (hu : 0 ≤ up) (hu2 : up < 2 ^ 62)
    (hk : ∀ mem' nx' J', Hp mem' nx' J' hid (if updE ns ps.length i c = 0 then ns.set i.toNat ⟨3, 0, c⟩ else ns) ps th (if updE ns ps.length i c = 0 then up + 1 else up) → Fm mem nx J mem' nx' J' → K (I (updE ns ps.length i c)) mem' nx') :
    CallT Try.prog 32 [.opt hid 0, I i, .agg (encCe c)] mem nx K := by
  refine ct32 (by simp) fun hfr => ?_
  obtain ⟨nd, pd, hb, h1, h2⟩ := h.ex
  have h0 := h.lt _ h.h0
  have hcell := fun (K : KD) (mem' : Mem) (nx' : Nat) (hsub : memSub mem' mem) => rCell_t (K := K) (nx' := nx') c hc.1 hc.2 hsub h
  simp only [encCe] at hcell
  simp -implicitDefEqProofs [ac32, encCe]
  refine clK_of (rLook_t (mem := mem) i (by repeat (first | exact memSub_refl _ | refine memSub_skip ?_ (look_upd_none (hfr _ (by omega))) | refine memSub_skip ?_ (hfr _ (by omega)))) h ?_)
  have hl : (lookF ns i).2 = 0 ∨ (lookF ns i).2 = 2 := by unfold lookF; split <;> simp
  have hl2 : (lookF ns i).2 = 0 → 0 ≤ i ∧ i < ns.length := fun h => by
    unfold lookF at h; split at h
    · assumption
    · simp at h
  have z1 : ∀ c, (nx + c = hid) = False := fun c => eq_false (by omega)
  have z2 : (nx = hid) = False := eq_false (by omega)
  obtain ⟨e, he⟩ : ∃ e, updE ns ps.length i c = e := ⟨_, rfl⟩
  rw [he] at hk
  unfold updE at he
  generalize lookF ns i = R at *
  obtain ⟨⟨s, t, ⟨k, re, im, b, a⟩⟩, x⟩ := R
  simp only at hl he hl2
  have no : e ≠ 0 → K (I e) mem (nx + 2 + 9 + 1) → ∀ nx', nx ≤ nx' → K (I e) mem nx' := fun h0 _ nx' hn => by
    rw [if_neg h0, if_neg h0] at hk
    exact hk _ _ _ (h.later hn) (.refl _ _ hn)
  have no : e ≠ 0 → ∀ nx', nx ≤ nx' → K (I e) mem nx' := fun h0 nx' hn => by
    rw [if_neg h0, if_neg h0] at hk
    exact hk _ _ _ (h.later hn) (.refl _ _ hn)
  rcases hl with rfl | rfl
  · obtain ⟨i0, i1⟩ := hl2 rfl
    rw [if_neg (by simp)] at he
    by_cases s2 : s = 2
    · cases hcf : cellF ns.length ps.length c
      · rw [hcf, if_neg (by simp)] at he
        subst he
        rw [hcf] at hcell
        simp -implicitDefEqProofs [encNd, s2]
        refine clK_of (hcell _ _ _ (by repeat (first | exact memSub_refl _ | refine memSub_skip ?_ (look_upd_none (hfr _ (by omega))) | refine memSub_skip ?_ (hfr _ (by omega)))) ?_)
        simp -implicitDefEqProofs
        exact ⟨mem, (by repeat (first | exact memSub_refl _ | refine memSub_skip ?_ (look_upd_none (hfr _ (by omega))) | refine memSub_skip ?_ (hfr _ (by omega)))), no (by decide) _ (by omega)⟩
      · rw [hcf] at hcell
        by_cases k5 : c.kind = 5
        · rw [if_neg (fun g => g.2.1 k5)] at he
          subst he
          simp -implicitDefEqProofs [encNd, s2]
          refine clK_of (hcell _ _ _ (by repeat (first | exact memSub_refl _ | refine memSub_skip ?_ (look_upd_none (hfr _ (by omega))) | refine memSub_skip ?_ (hfr _ (by omega)))) ?_)
          simp -implicitDefEqProofs [k5]
          exact ⟨mem, (by repeat (first | exact memSub_refl _ | refine memSub_skip ?_ (look_upd_none (hfr _ (by omega))) | refine memSub_skip ?_ (hfr _ (by omega)))), no (by decide) _ (by omega)⟩
        · rw [if_pos ⟨s2, k5, hcf⟩] at he
          subst he
          rw [if_pos rfl, if_pos rfl] at hk
          rcases h1 with ⟨rfl, h1⟩ | ⟨nid, ver, rfl, h3, h4, h5⟩
          · obtain rfl := em_nil h1
            simp at i1; omega
          · rw [em_len] at hb
            have hj := h.lt _ h4
            have y1 : ∀ c, (nx + c = nid) = False := fun c => eq_false (by omega)
            have f4 : (nx + 2 + 6 = hid) = False := eq_false (by omega)
            have f5 : (nx + 2 + 6 = nid) = False := eq_false (by omega)
            have y2 : (nx = nid) = False := eq_false (by omega)
            have i2 : i.toNat < ns.length := by omega
            have hmx : max i 0 = i := by omega
            have hset : (em encNd ns).set i.toNat [I 3, I 0, I c.kind, CX c.re c.im, B c.b, I c.at'] = em encNd (ns.set i.toNat ⟨3, 0, c⟩) := by
              rw [show [I 3, I 0, I c.kind, CX c.re c.im, B c.b, I c.at'] = encNd ⟨3, 0, c⟩ from rfl, em_set]
            have hne2 : hid ≠ nid := Ne.symm h5
            have w1 := wr64 (x := up + 1) (by omega) (by omega)
            simp -implicitDefEqProofs [encNd, s2]
            refine clK_of (hcell _ _ _ (by repeat (first | exact memSub_refl _ | refine memSub_skip ?_ (look_upd_none (hfr _ (by omega))) | refine memSub_skip ?_ (hfr _ (by omega)))) ?_)
            simp -implicitDefEqProofs [k5, hb, h3, i0, i1, i2, hset, hmx, h5, hne2, w1, look_updN, look_updI, z1, z2, f4, f5, y1, y2, encNd]
            refine ⟨Go.Fx.upd (Go.Fx.upd mem nid (.arr ver 6 (em encNd (ns.set i.toNat ⟨3, 0, c⟩)))) hid (.box [.osl nid ver 0 ns.length, pd, I th, I (up + 1)]), memSub_skip (memSub_refl _) (look_upd_none (look_upd_none (hfr _ (by omega)))), hk _ _ J ⟨⟨_, _, look_upd_same hid _ _ _ (by rw [look_upd_ne _ (Ne.symm h5), hb]), .inr ⟨nid, ver, by simp, ?_, h4, h5⟩, h2.mono (fun i v hi hj he => ?_) fun _ h => h⟩, h.h0, fun i hi => Nat.lt_of_lt_of_le (h.lt i hi) (by omega)⟩ ⟨by omega, fun i hi hj => ?_, fun _ h => .inl h⟩⟩
            · rw [look_upd_ne _ h5, look_upd_same nid _ _ _ h3]
            · rw [look_upd_ne _ he, look_upd_ne _ (fun e => by subst e; rw [h3] at hi; simp at hi)]
            · rw [look_upd_ne _ (fun e => hj (by rw [e]; exact h.h0)), look_upd_ne _ (fun e => hj (by rw [e]; exact h4))]
    · rw [if_neg (fun g => s2 g.1)] at he
      subst he
      simp -implicitDefEqProofs [encNd, s2]
      exact ⟨mem, (by repeat (first | exact memSub_refl _ | refine memSub_skip ?_ (look_upd_none (hfr _ (by omega))) | refine memSub_skip ?_ (hfr _ (by omega)))), no (by decide) _ (by omega)⟩
  · rw [if_pos (by simp)] at he
    subst he
    simp -implicitDefEqProofs [encNd]
    exact ⟨mem, (by repeat (first | exact memSub_refl _ | refine memSub_skip ?_ (look_upd_none (hfr _ (by omega))) | refine memSub_skip ?_ (hfr _ (by omega)))), no (by decide) _ (by omega)⟩
end
end Go.Fx.Ytdjhlljgedknaaa

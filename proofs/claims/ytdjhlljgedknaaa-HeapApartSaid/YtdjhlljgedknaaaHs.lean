/-
  Layer 13: one call on both heaps.
-/
import Derived.Test.YtdjhlljgedknaaaHr
import Derived.Test.YtdjhlljgedknaaaHk
import Derived.Test.YtdjhlljgedknaaaCodeL13c
set_option linter.all false
set_option maxRecDepth 100000
set_option maxHeartbeats 4000000
namespace Go.Fx.Ytdjhlljgedknaaa
open Go Go.Fx Go.Proofs Go.Fx.Flt
structure Tw (mem : Mem) (nx : Nat) (J : Nat → Prop) (hid : Nat) (J2 : Nat → Prop) (mid : Nat) (ns : List Nd) (ps : List (Ce × Ce)) (th up : Int) : Prop where
  a : Hp mem nx J hid ns ps th up
  b : Hp mem nx J2 mid ns ps th up
  dj : ∀ i, J i → ¬ J2 i
  n : ∀ n ∈ ns, sameF n.cell n.cell = true
  p : ∀ p ∈ ps, sameF p.1 p.1 = true ∧ sameF p.2 p.2 = true
  t0 : 0 ≤ th
  u0 : 0 ≤ up
/-- What stands beside the heap stays. -/
theorem Hp.beside {mem mem' : Mem} {nx nx' : Nat} {J J' J2 : Nat → Prop} {mid : Nat} {ns : List Nd} {ps : List (Ce × Ce)} {th up : Int} (h : Hp mem nx J2 mid ns ps th up) (fm : Fm mem nx J mem' nx' J') (dj : ∀ i, J i → ¬ J2 i) :
    Hp mem' nx' J2 mid ns ps th up ∧ ∀ i, J' i → ¬ J2 i :=
  ⟨h.mono (fun i hi => fm.keep i (h.lt i hi) fun g => dj i g hi) fm.le, fun i g hi => (fm.news i g).elim (fun g => dj i g hi) fun g => by have := h.lt i hi; omega⟩
theorem Hp.consO {mem : Mem} {nx nx' q : Nat} {b : Blk} {J2 : Nat → Prop} {mid : Nat} {ns : List Nd} {ps : List (Ce × Ce)} {th up : Int} (h : Hp mem nx J2 mid ns ps th up) (hq : ¬ J2 q) (hn : nx ≤ nx') : Hp ((q, b) :: mem) nx' J2 mid ns ps th up :=
  h.mono (fun i hi => by rw [look_cons, if_neg (fun e => hq (by rw [e]; exact hi))]) hn
theorem Fm.both {mem m1 m1' m2 : Mem} {nx n0 n1 n1' n2 : Nat} {J J' J2 J2' : Nat → Prop} (h : Fm mem n0 J m1 n1 J') (h0 : nx ≤ n0) (hm : ∀ i, i < nx → look m1' i = look m1 i) (hn : nx ≤ n1') (k : Fm m1' n1' J2 m2 n2 J2') : Fm mem nx (fun i => J i ∨ J2 i) m2 n2 (fun i => J' i ∨ J2' i) :=
  ⟨Nat.le_trans hn k.le, fun i hi hj => (k.keep i (by omega) fun g => hj (.inr g)).trans ((hm i hi).trans (h.keep i (by omega) fun g => hj (.inl g))), fun i hi => hi.elim (fun g => (h.news i g).imp .inl (fun g => by omega)) fun g => (k.news i g).elim (fun g => .inl (.inr g)) fun g => .inr (by omega)⟩
theorem Fm.consR {mem m : Mem} {nx n n' q : Nat} {b : Blk} {J J' : Nat → Prop} (h : Fm mem nx J m n J') (hq : nx ≤ q) (hn : n ≤ n') : Fm mem nx J ((q, b) :: m) n' J' :=
  ⟨Nat.le_trans h.le hn, fun i hi hj => by rw [look_cons, if_neg (by omega)]; exact h.keep i hi hj, h.news⟩
theorem Fm.no {mem m : Mem} {nx n q : Nat} {J J' : Nat → Prop} (h : Fm mem nx J m n J') (hq : q < nx) (hj : ¬ J q) : ¬ J' q := fun g => (h.news q g).elim hj (fun g => by omega)
theorem Fm.later {mem m : Mem} {nx n n' : Nat} {J J' : Nat → Prop} (h : Fm mem nx J m n J') (hn : n ≤ n') : Fm mem nx J m n' J' := ⟨Nat.le_trans h.le hn, h.keep, h.news⟩
section
variable {mem : Mem} {nx : Nat} {J : Nat → Prop} {hid : Nat} {J2 : Nat → Prop} {mid : Nat} {ns : List Nd} {ps : List (Ce × Ce)} {th up : Int}
theorem Tw.consO (h : Tw mem nx J hid J2 mid ns ps th up) {q : Nat} {b : Blk} (hq : ¬ J q) (hq2 : ¬ J2 q) : Tw ((q, b) :: mem) nx J hid J2 mid ns ps th up :=
  ⟨h.a.consO hq (Nat.le_refl _), h.b.consO hq2 (Nat.le_refl _), h.dj, h.n, h.p, h.t0, h.u0⟩
theorem Tw.later (h : Tw mem nx J hid J2 mid ns ps th up) {n : Nat} (hn : nx ≤ n) : Tw mem n J hid J2 mid ns ps th up :=
  ⟨h.a.later hn, h.b.later hn, h.dj, h.n, h.p, h.t0, h.u0⟩
end
theorem same_ce0 : sameF ce0 ce0 = true := aw_same
theorem look_same {ns : List Nd} (h : ∀ n ∈ ns, sameF n.cell n.cell = true) (i : Int) : alikeF (lookF ns i).1 (lookF ns i).1 = true := by
  have key : sameF (lookF ns i).1.cell (lookF ns i).1.cell = true := by
    unfold lookF
    split
    · rename_i g
      have : i.toNat < ns.length := by omega
      rw [List.getElem?_eq_getElem this]
      exact h _ (List.getElem_mem this)
    · exact same_ce0
  unfold alikeF; rw [key]; simp
theorem parts_same {ps : List (Ce × Ce)} (h : ∀ p ∈ ps, sameF p.1 p.1 = true ∧ sameF p.2 p.2 = true) (i : Int) : sameF (partsF ps i).1.1 (partsF ps i).1.1 = true ∧ sameF (partsF ps i).1.2 (partsF ps i).1.2 = true := by
  unfold partsF
  split
  · rename_i g
    have : i.toNat < ps.length := by omega
    rw [List.getElem?_eq_getElem this]
    exact h _ (List.getElem_mem this)
  · exact ⟨same_ce0, same_ce0⟩
theorem enter_same {ns : List Nd} (h : ∀ n ∈ ns, sameF n.cell n.cell = true) (i : Int) : alikeF (enterF ns i).1.1 (enterF ns i).1.1 = true ∧ ∀ n ∈ (enterF ns i).2, sameF n.cell n.cell = true := by
  have key := look_same h i
  have z : alikeF nd0 nd0 = true := aw_zero
  unfold enterF
  split
  · exact ⟨key, h⟩
  · split
    · exact ⟨z, h⟩
    · split
      · exact ⟨z, h⟩
      · split
        · refine ⟨key, fun n hn => ?_⟩
          rcases List.mem_or_eq_of_mem_set hn with hn | rfl
          · exact h n hn
          · exact same_ce0
        · exact ⟨key, h⟩
/-- What a call on both comes to. -/
def StepK (mem : Mem) (nx : Nat) (J : Nat → Prop) (hid : Nat) (J2 : Nat → Prop) (mid : Nat) (ns : List Nd) (ps : List (Ce × Ce)) (th up : Int) (K : KD) : Prop :=
  ∀ mem' nx' J' J2' ns' ps' th' up', Tw mem' nx' J' hid J2' mid ns' ps' th' up' → Fm mem nx (fun i => J i ∨ J2 i) mem' nx' (fun i => J' i ∨ J2' i) → ns'.length ≤ ns.length + 1 → ps'.length ≤ ps.length + 1 → th' ≤ th + 1 → up' ≤ up + 1 → K (B true) mem' nx'
theorem step_h {mem : Mem} {nx : Nat} {J : Nat → Prop} {hid : Nat} {J2 : Nat → Prop} {mid : Nat} {ns : List Nd} {ps : List (Ce × Ce)} {th up : Int} {K : KD} (x : Ac) (h : Tw mem nx J hid J2 mid ns ps th up) (hl : ns.length < 2 ^ 41) (hl2 : ps.length < 2 ^ 41) (ht : th < 2 ^ 62) (hu : up < 2 ^ 62)
    (hk : StepK mem nx J hid J2 mid ns ps th up K) : CallT Try.prog 19 [.opt hid 0, .opt mid 0, .agg (encAc x)] mem nx K := by
  refine ct19 (by simp) fun hfr => ?_
  have hi := into_c x.kind
  obtain ⟨v, hv⟩ : ∃ v, intoF x.kind = v := ⟨_, rfl⟩
  have hvb := intoF_b x.kind
  rw [hv] at hi hvb
  have hv7 : v = 0 ∨ v = 1 ∨ v = 2 ∨ v = 3 ∨ v = 4 ∨ v = 5 ∨ v = 6 := by omega
  have hC := C_c x.a
  have hC2 := C_c x.b
  simp only [encLc] at hC hC2
  have hac : x.a.c.re < 2 ^ 64 ∧ x.a.c.im < 2 ^ 64 := ⟨zb_lt _ _, zb_lt _ _⟩
  have hbc : x.b.c.re < 2 ^ 64 ∧ x.b.c.im < 2 ^ 64 := ⟨zb_lt _ _, zb_lt _ _⟩
  simp -implicitDefEqProofs [ac19, encAc, encAct]
  refine pcK_of hi (by simp) ?_
  have na : ∀ q, nx ≤ q → ¬ J q := fun q hq g => by have := h.a.lt _ g; omega
  have nb : ∀ q, nx ≤ q → ¬ J2 q := fun q hq g => by have := h.b.lt _ g; omega
  rcases hv7 with rfl | rfl | rfl | rfl | rfl | rfl | rfl
  · simp -implicitDefEqProofs
    refine clK_of (Delay_h x.at' (h.a.later (by omega)) hl h.t0 ht (fun m1 n1 J' hp fm => ?_))
    obtain ⟨hb, dj⟩ := (h.b.later (by omega)).beside fm h.dj
    have l1 := fm.le
    simp -implicitDefEqProofs
    refine clK_of (rDelay_h x.at' (hb.later (by omega)) hl h.t0 ht (fun m2 n2 J2' hp2 fm2 => ?_))
    simp -implicitDefEqProofs
    obtain ⟨ha, dj2⟩ := (hp.later (by omega)).beside fm2 (fun i g g2 => dj i g2 g)
    refine ⟨_, memSub_refl _, hk _ _ J' J2' _ _ _ _ ⟨ha, hp2, fun i g g2 => dj2 i g2 g, fun n hn => ?_, h.p, by have := h.t0; omega, h.u0⟩ (fm.both (by omega) (fun _ _ => rfl) (by omega) fm2) (by simp) (by simp) (by omega) (by omega)⟩
    rcases List.mem_append.1 hn with hn | hn
    · exact h.n n hn
    · simp only [List.mem_singleton] at hn; subst hn; exact same_ce0
  · simp -implicitDefEqProofs
    refine clK_of (Poison_h (h.a.later (by omega)) hl (fun m1 n1 J' hp fm => ?_))
    obtain ⟨hb, dj⟩ := (h.b.later (by omega)).beside fm h.dj
    have l1 := fm.le
    simp -implicitDefEqProofs
    refine clK_of (rPoison_h (hb.later (by omega)) hl (fun m2 n2 J2' hp2 fm2 => ?_))
    simp -implicitDefEqProofs
    obtain ⟨ha, dj2⟩ := (hp.later (by omega)).beside fm2 (fun i g g2 => dj i g2 g)
    refine ⟨_, memSub_refl _, hk _ _ J' J2' _ _ _ _ ⟨ha, hp2, fun i g g2 => dj2 i g2 g, fun n hn => ?_, h.p, h.t0, h.u0⟩ (fm.both (by omega) (fun _ _ => rfl) (by omega) fm2) (by simp) (by simp) (by omega) (by omega)⟩
    rcases List.mem_append.1 hn with hn | hn
    · exact h.n n hn
    · simp only [List.mem_singleton] at hn; subst hn; exact same_ce0
  · simp -implicitDefEqProofs
    refine pcK_of hC (by simp) ?_
    simp -implicitDefEqProofs
    refine pcK_of hC2 (by simp) ?_
    simp -implicitDefEqProofs
    refine clK_of (Pair_h x.a.c x.b.c hac hbc (h.a.later (by omega)) hl2 (fun m1 n1 J' hp fm => ?_))
    obtain ⟨hb, dj⟩ := (h.b.later (by omega)).beside fm h.dj
    have l1 := fm.le
    cases hpo : pairOk ns ps x.a.c x.b.c
    all_goals
      rw [hpo] at hp
      simp -implicitDefEqProofs
      refine pcK_of hC (by simp) ?_
      simp -implicitDefEqProofs
      refine pcK_of hC2 (by simp) ?_
      simp -implicitDefEqProofs
      refine clK_of (rPair_h x.a.c x.b.c hac hbc (hb.later (by omega)) hl2 (fun m2 n2 J2' hp2 fm2 => ?_))
      rw [hpo] at hp2 ⊢
      simp -implicitDefEqProofs
      obtain ⟨ha, dj2⟩ := (hp.later (by omega)).beside fm2 (fun i g g2 => dj i g2 g)
      refine ⟨_, memSub_refl _, hk _ _ J' J2' _ _ _ _ ⟨ha.later (by omega), hp2.later (by omega), fun i g g2 => dj2 i g2 g, h.n, fun n hn => ?_, h.t0, h.u0⟩ ((fm.both (by omega) (fun _ _ => rfl) (by omega) fm2).later (by omega)) (by simp) (by simp) (by omega) (by omega)⟩
    · exact h.p n (by simpa using hn)
    · simp only [if_true] at hn
      rcases List.mem_append.1 hn with hn | hn
      · exact h.p n hn
      · simp only [List.mem_singleton] at hn; subst hn
        unfold pairOk at hpo
        rw [Bool.and_eq_true] at hpo
        exact ⟨cell_same hac hpo.1, cell_same hbc hpo.2⟩
  · simp -implicitDefEqProofs
    have hal := alike_c (lookF ns x.at').1 (lookF ns x.at').1
    rw [look_same h.n] at hal
    refine clK_of (Look_h x.at' (h.a.later (by omega)) ?_)
    obtain ⟨n, hn⟩ : ∃ n, (lookF ns x.at').1 = n := ⟨_, rfl⟩
    rw [hn] at hal ⊢
    simp only [encNd] at hal
    simp -implicitDefEqProofs [encNd]
    refine clK_of (rLook_t x.at' (memSub_refl _) ((h.b.later (nx' := nx + 2 + 3 + 2 + 2 + 2 + 2 + 10) (by omega)).consO (nb _ (by omega)) (Nat.le_refl _)) ?_)
    rw [hn]
    simp -implicitDefEqProofs [encNd]
    refine pcK_of hal (by simp) ?_
    simp -implicitDefEqProofs
    refine ⟨_, memSub_refl _, hk _ _ J J2 ns ps th up (((h.consO (na _ (by omega)) (nb _ (by omega))).consO (na _ (by omega)) (nb _ (by omega))).later (by omega)) (((Fm.refl _ _ (Nat.le_refl _)).consR (by omega) (Nat.le_refl _)).consR (by omega) (by omega)) (by omega) (by omega) (by omega) (by omega)⟩
  · simp -implicitDefEqProofs
    have hs1 := same_c (partsF ps x.at').1.1 (partsF ps x.at').1.1
    have hs2 := same_c (partsF ps x.at').1.2 (partsF ps x.at').1.2
    rw [(parts_same h.p x.at').1] at hs1
    rw [(parts_same h.p x.at').2] at hs2
    refine clK_of (Parts_h x.at' (h.a.later (by omega)) ?_)
    obtain ⟨n, hn⟩ : ∃ n, (partsF ps x.at').1 = n := ⟨_, rfl⟩
    rw [hn] at hs1 hs2 ⊢
    simp only [encCe] at hs1 hs2
    simp -implicitDefEqProofs [encCe]
    have hrp := fun {mem' : Mem} {nx' : Nat} {K : KD} (hsub) => rParts_t (mem' := mem') (nx' := nx') (K := K) x.at' hsub ((h.b.consO (q := nx + 2 + 3 + 2 + 2 + 2 + 2 + 2 + 8) (b := .box [I n.1.kind, CX n.1.re n.1.im, B n.1.b, I n.1.at']) (nb _ (by omega)) (Nat.le_refl _)).consO (q := nx + 2 + 3 + 2 + 2 + 2 + 2 + 2 + 9) (b := .box [I n.2.kind, CX n.2.re n.2.im, B n.2.b, I n.2.at']) (nb _ (by omega)) (Nat.le_refl _))
    simp only [hn, encPr] at hrp
    refine clK_of (hrp (memSub_refl _) ?_)
    have z1 : (nx + 2 + 3 + 2 + 2 + 2 = nx) = False := eq_false (by omega)
    simp -implicitDefEqProofs [z1]
    refine pcK_of hs1 (by simp) ?_
    simp -implicitDefEqProofs [z1]
    refine pcK_of hs2 (by simp) ?_
    simp -implicitDefEqProofs
    refine ⟨_, memSub_refl _, hk _ _ J J2 ns ps th up ((((h.consO (na _ (by omega)) (nb _ (by omega))).consO (na _ (by omega)) (nb _ (by omega))).consO (na _ (by omega)) (nb _ (by omega))).later (by omega)) ((((Fm.refl _ _ (Nat.le_refl _)).consR (by omega) (Nat.le_refl _)).consR (by omega) (Nat.le_refl _)).consR (by omega) (by omega)) (by omega) (by omega) (by omega) (by omega)⟩
  · simp -implicitDefEqProofs
    have hal := alike_c (enterF ns x.at').1.1 (enterF ns x.at').1.1
    obtain ⟨es1, es2⟩ := enter_same h.n x.at'
    have el := enterF_len (ns := ns) (i := x.at')
    rw [es1] at hal
    refine clK_of (Enter_h x.at' (h.a.later (by omega)) (fun m1 n1 J' hp fm => ?_))
    obtain ⟨hb, dj⟩ := (h.b.later (by omega)).beside fm h.dj
    have l1 := fm.le
    have hre := fun {mem : Mem} {nx : Nat} {K : KD} => rEnter_h (mem := mem) (nx := nx) (K := K) (hid := mid) (J := J2) (ns := ns) (ps := ps) (th := th) (up := up) x.at'
    obtain ⟨n, hn⟩ : ∃ n, (enterF ns x.at').1.1 = n := ⟨_, rfl⟩
    simp only [hn] at hal hre ⊢
    simp only [encNd] at hal hre
    simp -implicitDefEqProofs [encNd]
    refine clK_of (hre (hb.consO (nb _ (by omega)) (by omega)) (fun m2 n2 J2' hp2 fm2 => ?_))
    have l2 := fm2.le
    have g1 : look m2 (nx + 2 + 3 + 2 + 2 + 2 + 2 + 2 + 2 + 7) = some (.box [I n.state, I n.tag, I n.cell.kind, CX n.cell.re n.cell.im, B n.cell.b, I n.cell.at']) := by
      rw [fm2.keep _ (by omega) (nb _ (by omega)), look_cons, if_pos rfl]
    have z1 : (n1 + 7 = nx + 2 + 3 + 2 + 2 + 2 + 2 + 2 + 2 + 7) = False := eq_false (by omega)
    have z2 : ∀ c, c ≤ 20 → (n1 = nx + c) = False := fun c hc => eq_false (by omega)
    simp -implicitDefEqProofs [z1, z2, g1]
    refine pcK_of hal (by simp) ?_
    simp -implicitDefEqProofs
    obtain ⟨ha, dj2⟩ := ((hp.consO (q := nx + 2 + 3 + 2 + 2 + 2 + 2 + 2 + 2 + 7) (b := .box [I n.state, I n.tag, I n.cell.kind, CX n.cell.re n.cell.im, B n.cell.b, I n.cell.at']) (fm.no (by omega) (na _ (by omega))) (Nat.le_refl _)).later (by omega)).beside fm2 (fun i g g2 => dj i g2 g)
    have ht := (Tw.mk ha hp2 (fun i g g2 => dj2 i g2 g) es2 h.p h.t0 h.u0).consO (q := n1 + 7) (b := .box [I n.state, I n.tag, I n.cell.kind, CX n.cell.re n.cell.im, B n.cell.b, I n.cell.at']) (fun g => by have := hp.lt _ g; omega) (fm2.no (by omega) (fun g => by have := h.b.lt _ g; omega))
    refine ⟨_, memSub_refl _, hk _ _ J' J2' _ _ _ _ (ht.later (by omega)) ((fm.both (by omega) (fun i hi => by rw [look_cons, if_neg (by omega)]) (by omega) fm2).consR (by omega) (by omega)) (by omega) (by omega) (by omega) (by omega)⟩
  · simp -implicitDefEqProofs
    refine pcK_of hC (by simp) ?_
    simp -implicitDefEqProofs
    refine clK_of (Update_h x.at' x.a.c hac (h.a.later (by omega)) h.u0 hu (fun m1 n1 J' hp fm => ?_))
    obtain ⟨hb, dj⟩ := (h.b.later (by omega)).beside fm h.dj
    have l1 := fm.le
    simp -implicitDefEqProofs
    refine pcK_of hC (by simp) ?_
    simp -implicitDefEqProofs
    refine clK_of (rUpdate_h x.at' x.a.c hac (hb.later (by omega)) h.u0 hu (fun m2 n2 J2' hp2 fm2 => ?_))
    simp -implicitDefEqProofs
    obtain ⟨ha, dj2⟩ := (hp.later (by omega)).beside fm2 (fun i g g2 => dj i g2 g)
    refine ⟨_, memSub_refl _, hk _ _ J' J2' _ _ _ _ ⟨ha, hp2, fun i g g2 => dj2 i g2 g, fun n hn => ?_, h.p, h.t0, by have := h.u0; split <;> omega⟩ (fm.both (by omega) (fun _ _ => rfl) (by omega) fm2) (by split <;> simp) (by simp) (by omega) (by split <;> omega)⟩
    split at hn
    · rename_i he
      rcases List.mem_or_eq_of_mem_set hn with hn | rfl
      · exact h.n n hn
      · exact cell_same hac (upd_cell he).2.2
    · exact h.n n hn
end Go.Fx.Ytdjhlljgedknaaa

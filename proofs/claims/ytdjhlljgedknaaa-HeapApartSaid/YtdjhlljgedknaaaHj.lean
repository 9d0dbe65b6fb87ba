/-
  Layer 13: HeapOnce: the loop.
-/
import Derived.Test.YtdjhlljgedknaaaHi
import Derived.Test.YtdjhlljgedknaaaHq
set_option linter.all false
set_option maxRecDepth 100000
set_option maxHeartbeats 4000000
namespace Go.Fx.Ytdjhlljgedknaaa
open Go Go.Fx Go.Proofs Go.Fx.Flt
structure Ac where
  kind : Int
  at' : Int
  a : Lc
  b : Lc
def encAc (x : Ac) : List D := encAct x.kind x.at' x.a x.b
instance : Inhabited Ac := ⟨⟨0, 0, ⟨0, 0, ⟨0, 0, false⟩, false⟩, ⟨0, 0, ⟨0, 0, false⟩, false⟩⟩⟩
theorem ia_Ac {l : List Ac} {mem : Mem} {j : IntKind} {i : Int} : iaD mem 14 (.sl (em encAc l)) (.pl (.int j i)) = if 0 ≤ i ∧ i < l.length then some (.pt (encAc (l[i.toNat]?.getD default))) else none := em_ia fun _ => rfl
/-- The loop's state: the memory itself, and what is known of it. -/
structure Os where
  s : Nat
  mem : Mem
  J : Nat → Prop
  ns : List Nd
  ps : List (Ce × Ce)
  en : Mi Int
  dn : Mi Ce
  th : Int
  up : Int
def encC (c : Ce) : D := .agg (encCe c)
theorem lkE_G {m : Mi Int} {k : Int} : lkE (some (encMi (fun n => I n) m)) (some .i64) (.int .i64 0) false (I k) = some (I (getI m k)) := by
  rw [lkE_I1]; unfold getI
  cases lookI m k <;> rfl
theorem mup_G {m : Mi Int} {mem : Mem} {id : Nat} {k v : Int} : mupE (some (.map (encMi (fun n => I n) m))) mem id (some .i64) (.int .i64 k) (I v) = some (.top, upd mem id (.map (encMi (fun n => I n) (putI m k v)))) := mupE_I (e := fun n => I n)
theorem mup_C {m : Mi Ce} {mem : Mem} {id : Nat} {k : Int} {v : Ce} : mupE (some (.map (encMi encC m))) mem id (some .i64) (.int .i64 k) (.agg [I v.kind, CX v.re v.im, B v.b, I v.at']) = some (.top, upd mem id (.map (encMi encC (putI m k v)))) := mupE_I (e := encC)
structure OsB (hid eid did : Nat) (x : Os) (nx : Nat) (L : Nat) : Prop where
  le : x.s ≤ L
  hp : Hp x.mem nx x.J hid x.ns x.ps x.th x.up
  eb : look x.mem eid = some (.map (encMi (fun n => I n) x.en))
  db : look x.mem did = some (.map (encMi encC x.dn))
  ej : ¬ x.J eid
  dj : ¬ x.J did
  ei : eid < nx
  di : did < nx
  ed : eid ≠ did
  ln : x.ns.length ≤ x.s
  lp : x.ps.length ≤ x.s
  t0 : 0 ≤ x.th
  t1 : x.th ≤ x.s
  u1 : x.up ≤ x.s
def Ss (ns : List Nd) : Prop := ∀ i n, atI ns i = some n → n.state = 3 → sameF n.cell n.cell = true
structure OsOk (hid eid did : Nat) (x : Os) (nx : Nat) (L : Nat) : Prop where
  b : OsB hid eid did x nx L
  once : Once x.ns x.en x.dn x.up
  ss : Ss x.ns
/-- Behind a call of the heap. -/
theorem OsB.step {hid eid did : Nat} {x : Os} {nx L : Nat} (h : OsB hid eid did x nx L) (hlt : x.s < L) {mem1 mem' : Mem} {n1 n2 n3 : Nat} {J' : Nat → Prop} {ns : List Nd} {ps : List (Ce × Ce)} {th up : Int}
    (hm : ∀ i, i < nx → look mem1 i = look x.mem i) (hn : nx ≤ n1) (hp : Hp mem' n2 J' hid ns ps th up) (fm : Fm mem1 n1 x.J mem' n2 J')
    (h3 : n2 ≤ n3) (ln : ns.length ≤ x.s + 1) (lp : ps.length ≤ x.s + 1) (t0 : 0 ≤ th) (t1 : th ≤ x.s + 1) (u1 : up ≤ x.s + 1) : OsB hid eid did ⟨x.s + 1, mem', J', ns, ps, x.en, x.dn, th, up⟩ n3 L :=
  ⟨hlt, hp.later h3, by have := h.ei; have := fm.keep eid (by omega) h.ej; exact this.trans ((hm _ h.ei).trans h.eb), by have := h.di; have := fm.keep did (by omega) h.dj; exact this.trans ((hm _ h.di).trans h.db),
    fun g => (fm.news _ g).elim h.ej (fun g => by have := h.ei; omega), fun g => (fm.news _ g).elim h.dj (fun g => by have := h.di; omega), by have := h.ei; have := fm.le; show eid < n3; omega, by have := h.di; have := fm.le; show did < n3; omega, h.ed, ln, lp, t0, by simpa using t1, by simpa using u1⟩
theorem OsB.cons {hid eid did s : Nat} {mem : Mem} {J : Nat → Prop} {ns : List Nd} {ps : List (Ce × Ce)} {en : Mi Int} {dn : Mi Ce} {th up : Int} {nx L : Nat} (h : OsB hid eid did ⟨s, mem, J, ns, ps, en, dn, th, up⟩ nx L) {q : Nat} {b : Blk} (hj : ¬ J q) (he : q ≠ eid) (hd : q ≠ did) : OsB hid eid did ⟨s, (q, b) :: mem, J, ns, ps, en, dn, th, up⟩ nx L :=
  { h with
    hp := h.hp.mono (fun i hi => by rw [look_cons, if_neg (fun e => hj (by rw [e]; exact hi))]) (Nat.le_refl _)
    eb := by rw [look_cons, if_neg he]; exact h.eb
    db := by rw [look_cons, if_neg hd]; exact h.db }
theorem OsB.putE {hid eid did s : Nat} {mem : Mem} {J : Nat → Prop} {ns : List Nd} {ps : List (Ce × Ce)} {en : Mi Int} {dn : Mi Ce} {th up : Int} {nx L : Nat} (h : OsB hid eid did ⟨s, mem, J, ns, ps, en, dn, th, up⟩ nx L) {k v : Int} : OsB hid eid did ⟨s, upd mem eid (.map (encMi (fun n => I n) (putI en k v))), J, ns, ps, putI en k v, dn, th, up⟩ nx L :=
  { h with
    hp := h.hp.updO h.ej
    eb := look_upd_same _ _ _ _ h.eb
    db := by rw [look_upd_ne _ (Ne.symm h.ed)]; exact h.db }
theorem OsB.putD {hid eid did s : Nat} {mem : Mem} {J : Nat → Prop} {ns : List Nd} {ps : List (Ce × Ce)} {en : Mi Int} {dn : Mi Ce} {th up : Int} {nx L : Nat} (h : OsB hid eid did ⟨s, mem, J, ns, ps, en, dn, th, up⟩ nx L) {k : Int} {v : Ce} : OsB hid eid did ⟨s, upd mem did (.map (encMi encC (putI dn k v))), J, ns, ps, en, putI dn k v, th, up⟩ nx L :=
  { h with
    hp := h.hp.updO h.dj
    eb := by rw [look_upd_ne _ h.ed]; exact h.eb
    db := look_upd_same _ _ _ _ h.db }
theorem ss_0 : ∀ i n, atI [] i = some n → n.state = 3 → sameF n.cell n.cell = true := fun i n h => by
  have e : atI [] i = none := by unfold atI; split <;> simp
  rw [e] at h; simp at h
theorem ss_app {ns : List Nd} {n : Nd} (h : ∀ i n, atI ns i = some n → n.state = 3 → sameF n.cell n.cell = true) (hn : n.state ≠ 3) : ∀ i m, atI (ns ++ [n]) i = some m → m.state = 3 → sameF m.cell m.cell = true := fun i m hm hs => by
  rw [atI_app] at hm
  split at hm
  · obtain rfl := Option.some.inj hm; exact absurd hs hn
  · exact h i m hm hs
theorem ss_set {ns : List Nd} {n : Nd} {j : Int} (h : ∀ i n, atI ns i = some n → n.state = 3 → sameF n.cell n.cell = true) (h0 : 0 ≤ j) (h1 : j < ns.length) (hn : n.state = 3 → sameF n.cell n.cell = true) : ∀ i m, atI (ns.set j.toNat n) i = some m → m.state = 3 → sameF m.cell m.cell = true := fun i m hm hs => by
  rw [atI_set h0 h1] at hm
  split at hm
  · obtain rfl := Option.some.inj hm; exact hn hs
  · exact h i m hm hs
theorem lookF_set {ns : List Nd} {i : Int} {n : Nd} (h0 : 0 ≤ i) (h1 : i < ns.length) : lookF (ns.set i.toNat n) i = (n, 0) := by
  unfold lookF
  rw [if_pos ⟨h0, by simpa using h1⟩, List.getElem?_set_self (by omega)]; rfl
theorem law_HeapOnce_at (l : List Ac) (hl : l.length < 2 ^ 41) : Pure Try.prog 3 [.sl (em encAc l)] (B true) := by
  refine pu3 (by simp) ?_
  simp -implicitDefEqProofs [ac3]
  refine pcK_of (awake_c) (by simp) ?_
  simp -implicitDefEqProofs
  refine clK_of (New_h (fun hid n1 h1 h2 hp0 => ?_))
  simp -implicitDefEqProofs
  have e1 : (n1 + 2 = hid) = False := eq_false (by omega)
  have e2 : (n1 = hid) = False := eq_false (by omega)
  have e3 : (n1 + 2 = n1) = False := eq_false (by omega)
  refine lp3_0 (α := Os) (fun x _ => [(6, I x.ns.length), (7, I x.s)]) (fun x _ => x.mem) (fun x k => OsOk hid n1 (n1 + 2) x k l.length) (fun x => l.length - x.s)
    ⟨0, [(n1 + 2, .map []), (n1, .map []), (hid, .box [nilD, nilD, I 0, I 0])], (fun i => i = hid), [], [], [], [], 0, 0⟩ ?_ (by simp) (memLe_refl _) ?_
  · have e4 : ¬ (n1 + 2 = hid) := by omega
    have e5 : ¬ (n1 = hid) := by omega
    refine ⟨⟨by simp, ?_, by simp [look, e1, e2, e3, encMi], by simp [look, encMi], e5, e4, by omega, by omega, by omega, by simp, by simp, by simp, by simp, by simp⟩, once_0, ss_0⟩
    exact (hp0.cons (q := n1) (nx' := n1) (Nat.le_refl _) (Nat.le_refl _)).cons (by omega) (by omega)
  rintro x k hx
  have hx' := hx
  obtain ⟨s, mem, J, ns, ps, en, dn, th, up⟩ := x
  obtain ⟨xb, xo, xss⟩ := hx
  have xb' := xb
  obtain ⟨x1, hp, xe, xd, xej, xdj, xj, xk, y3, y4, y5, y6, y7, y8⟩ := xb'
  simp only at x1 hp xe xd xej xdj xj xk y3 y4 y5 y6 y7 y8 xo xss
  by_cases hlt : s < l.length
  · obtain ⟨x, hx⟩ : ∃ x, l[s] = x := ⟨_, rfl⟩
    have w1 := wr64 (x := (s : Int) + 1) (by omega) (by omega)
    have hi := into_c x.kind
    obtain ⟨v, hv⟩ : ∃ v, intoF x.kind = v := ⟨_, rfl⟩
    have hvb := intoF_b x.kind
    rw [hv] at hi hvb
    have hv7 : v = 0 ∨ v = 1 ∨ v = 2 ∨ (v = 3 ∨ v = 4 ∨ v = 5) ∨ v = 6 := by omega
    simp -implicitDefEqProofs [lb3_0, hlt, ia_Ac, hx, encAc, encAct]
    refine pcK_of hi (by simp) ?_
    have hm1 : ∀ (b : Blk) i, i < k → look ((k + 4 + 4, b) :: mem) i = look mem i := fun b i hi => by rw [look_cons, if_neg (by omega)]
    have hC := C_c x.a
    have hC2 := C_c x.b
    simp only [encLc] at hC hC2
    have hac : x.a.c.re < 2 ^ 64 ∧ x.a.c.im < 2 ^ 64 := ⟨zb_lt _ _, zb_lt _ _⟩
    have hbc : x.b.c.re < 2 ^ 64 ∧ x.b.c.im < 2 ^ 64 := ⟨zb_lt _ _, zb_lt _ _⟩
    have q0 : ∀ i, i < k → (k + 4 + 4 = i) = False := fun i hi => eq_false (by omega)
    rcases hv7 with rfl | rfl | rfl | h35 | rfl
    · simp -implicitDefEqProofs
      refine clK_of (Delay_h x.at' (hp.cons (by omega) (by omega)) (by omega) y6 (by omega) (fun mem' nx' J' hp' fm => ?_))
      have w2 := wr64 (x := (ns.length : Int) + 1) (by omega) (by omega)
      have hle := fm.le
      simp -implicitDefEqProofs [w1, w2]
      refine again_of ⟨s + 1, mem', J', ns ++ [⟨1, x.at', ce0⟩], ps, en, dn, th + 1, up⟩ ⟨xb.step hlt (hm1 _) (by omega) hp' fm (by omega) (by simp; omega) (by simp; omega) (by omega) (by simp; omega) (by simp; omega), once_add xo (.inl rfl), ss_app xss (by simp)⟩ (by simp; omega) (by simp) (memLe_refl _)
    · simp -implicitDefEqProofs
      refine clK_of (Poison_h (hp.cons (by omega) (by omega)) (by omega) (fun mem' nx' J' hp' fm => ?_))
      have w2 := wr64 (x := (ns.length : Int) + 1) (by omega) (by omega)
      have hle := fm.le
      simp -implicitDefEqProofs [w1, w2]
      refine again_of ⟨s + 1, mem', J', ns ++ [⟨4, 0, ce0⟩], ps, en, dn, th, up⟩ ⟨xb.step hlt (hm1 _) (by omega) hp' fm (by omega) (by simp; omega) (by simp; omega) (by omega) (by simp; omega) (by simp; omega), once_add xo (.inr rfl), ss_app xss (by simp)⟩ (by simp; omega) (by simp) (memLe_refl _)
    · simp -implicitDefEqProofs
      refine pcK_of hC (by simp) ?_
      simp -implicitDefEqProofs
      refine pcK_of hC2 (by simp) ?_
      simp -implicitDefEqProofs
      refine clK_of (Pair_h x.a.c x.b.c hac hbc (hp.cons (by omega) (by omega)) (by omega) (fun mem' nx' J' hp' fm => ?_))
      have hle := fm.le
      simp -implicitDefEqProofs [w1]
      refine again_of ⟨s + 1, mem', J', ns, if pairOk ns ps x.a.c x.b.c then ps ++ [(x.a.c, x.b.c)] else ps, en, dn, th, up⟩ ⟨xb.step hlt (hm1 _) (by omega) hp' fm (by omega) (by simp; omega) (by split <;> simp <;> omega) (by omega) (by simp; omega) (by simp; omega), xo, xss⟩ (by simp; omega) (by simp) (memLe_refl _)
    · have n0 : (v = 0) = False := eq_false (by omega)
      have n1' : (v = 1) = False := eq_false (by omega)
      have n2' : (v = 2) = False := eq_false (by omega)
      have n6 : (v = 6) = False := eq_false (by omega)
      have hnk := xo.node x.at'
      have hq : ∀ {mem' : Mem} {nx' : Nat} {J' : Nat → Prop} {b : Blk} {n : Nat}, k + 4 + 4 < n → Fm ((k + 4 + 4, b) :: mem) n J mem' nx' J' → look mem' (k + 4 + 4) = some b := fun hn fm => by
        rw [fm.keep _ hn (fun g => by have := hp.lt _ g; omega), look_cons, if_pos rfl]
      have hen : ∀ {mem' : Mem} {nx' : Nat} {J' : Nat → Prop} {b : Blk} {n : Nat}, k < n → Fm ((k + 4 + 4, b) :: mem) n J mem' nx' J' → look mem' n1 = some (.map (encMi (fun n => I n) en)) := fun hn fm => by
        rw [fm.keep _ (by omega) xej, hm1 _ _ xj, xe]
      have hdn : ∀ {mem' : Mem} {nx' : Nat} {J' : Nat → Prop} {b : Blk} {n : Nat}, k < n → Fm ((k + 4 + 4, b) :: mem) n J mem' nx' J' → look mem' (n1 + 2) = some (.map (encMi encC dn)) := fun hn fm => by
        rw [fm.keep _ (by omega) xdj, hm1 _ _ xk, xd]
      have nj : ∀ {mem' : Mem} {nx' : Nat} {J' : Nat → Prop} {b : Blk} {n : Nat} (i : Nat), k ≤ i → i < n → Fm ((k + 4 + 4, b) :: mem) n J mem' nx' J' → ¬ J' i := fun i h1 h2 fm g => (fm.news _ g).elim (fun g => by have := hp.lt _ g; omega) (fun g => by omega)
      have hu1 : ∀ (mem' : Mem) B, look (upd mem' n1 B) (k + 4 + 4) = look mem' (k + 4 + 4) := fun mem' B => look_upd_ne _ (by omega) _
      have hu3 : ∀ (mem' : Mem) B, look (upd mem' n1 B) (n1 + 2) = look mem' (n1 + 2) := fun mem' B => look_upd_ne _ (by omega) _
      have wr1 : IntKind.i64.wrap 1 = 1 := by decide
      simp -implicitDefEqProofs [n0, n1', n2', n6]
      refine clK_of (Enter_h x.at' (hp.cons (by omega) (by omega)) (fun mem' nx' J' hp' fm => ?_))
      have hle := fm.le
      have z7 : ∀ c, c ≤ 28 → (nx' = k + c) = False := fun c hc => eq_false (by omega)
      have zz : (k + 4 + 6 + 3 + 2 + 2 + 2 + 2 + 7 = n1) = False := eq_false (by omega)
      have z0 : ∀ c, (k + c = n1) = False := fun c => eq_false (by omega)
      have y1 : (nx' + 10 + 7 = n1) = False := eq_false (by omega)
      have y2 : (nx' + 7 = n1) = False := eq_false (by omega)
      have z1 : (nx' = k + 1) = False := eq_false (by omega)
      have z2 : (k + 1 = nx') = False := eq_false (by omega)
      have z3 : ∀ c, (nx' + c = k) = False := fun c => eq_false (by omega)
      have z4 : ∀ c, (k = nx' + c) = False := fun c => eq_false (by omega)
      have z5 : ∀ c, (nx' + c = n1) = False := fun c => eq_false (by omega)
      have z6 : ∀ c, (n1 = nx' + c) = False := fun c => eq_false (by omega)
      have g1 := hq (by omega) fm
      have g2 := hen (by omega) fm
      have g3 := hdn (by omega) fm
      have hl : (lookF ns x.at').2 = 0 ∨ (lookF ns x.at').2 ≠ 0 := by omega
      have z7 : ∀ c, c ≤ 28 → (nx' = k + c) = False := fun c hc => eq_false (by omega)
      have zz : (k + 4 + 6 + 3 + 2 + 2 + 2 + 2 + 7 = n1) = False := eq_false (by omega)
      have z0 : ∀ c, (k + c = n1) = False := fun c => eq_false (by omega)
      have y1 : (nx' + 10 + 7 = n1) = False := eq_false (by omega)
      have y2 : (nx' + 7 = n1) = False := eq_false (by omega)
      have z1 : (nx' = k + 1) = False := eq_false (by omega)
      have z2 : (k + 1 = nx') = False := eq_false (by omega)
      have z3 : ∀ c, (nx' + c = k) = False := fun c => eq_false (by omega)
      have z4 : ∀ c, (k = nx' + c) = False := fun c => eq_false (by omega)
      have z5 : ∀ c, (nx' + c = n1) = False := fun c => eq_false (by omega)
      have z6 : ∀ c, (n1 = nx' + c) = False := fun c => eq_false (by omega)
      rcases hl with hl | hl
      · obtain ⟨i0, i1, i2⟩ := look_at hl
        rw [i2] at hnk
        obtain ⟨n, hn⟩ : ∃ n, (lookF ns x.at').1 = n := ⟨_, rfl⟩
        rw [hn] at i2 hnk
        have hE : enterF ns x.at' = if n.state = 2 then ((nd0, 53), ns) else if n.state = 4 then ((nd0, 54), ns) else if n.state = 1 then ((n, 0), ns.set x.at'.toNat ⟨2, 0, ce0⟩) else ((n, 0), ns) := by
          unfold enterF; rw [if_neg (by omega), hn]
        unfold NodeOk at hnk
        rcases hnk with ⟨a1, a2, a3⟩ | ⟨a1, a2, a3⟩ | ⟨a1, a2, a3⟩ | ⟨a1, a2, a3⟩
        · obtain ⟨o1, o2⟩ := once_enter xo i2 a1 i0 i1
          have gp : getI (putI en x.at' 1) x.at' = 1 := by rw [getI_put, if_pos rfl]
          rw [if_neg (by omega), if_neg (by omega), if_pos a1] at hE
          rw [hE] at hp' ⊢
          have hu2 : ∀ B, look (upd mem' n1 B) n1 = some B := fun B => look_upd_same _ _ _ _ g2
          simp -implicitDefEqProofs [g1, g2, g3, hu1, hu2, hu3, wr1, mapE_I, w1, encC, encCe, lkE_G, lkE_I2, mup_G, mup_C, y1, y2, zz, z7, z0, z1, z2, z3, z4, z5, z6, encNd, a1, a2, gp, a3, o1]
          refine again_of ⟨s + 1, _, J', ns.set x.at'.toNat ⟨2, 0, ce0⟩, ps, putI en x.at' 1, dn, th, up⟩ ⟨((xb.step hlt (hm1 _) (by omega) hp' fm (n3 := nx' + 7 + 6 + 5 + 10 + 30 + 3) (by omega) (by simp; omega) (by simp; omega) (by omega) (by simp; omega) (by simp; omega)).putE.cons (q := k + 4 + 6 + 3 + 2 + 2 + 2 + 2 + 7) (nj _ (by omega) (by omega) fm) (by omega) (by omega)).cons (q := nx' + 7 + 6 + 5 + 7) (fun g => by have := hp'.lt _ g; omega) (by omega) (by omega), o2, ss_set xss i0 i1 (by simp)⟩ (by simp; omega) (by simp) (memLe_refl _)
        · rw [if_pos a1] at hE
          rw [hE] at hp' ⊢
          simp -implicitDefEqProofs [g1, g2, g3, w1, encC, encCe, mapE_I, lkE_G, lkE_I2, mup_G, mup_C, y1, y2, zz, z7, z0, z1, z2, z3, z4, z5, z6, encNd, nd0, ce0, a3]
          refine again_of ⟨s + 1, _, J', ns, ps, en, dn, th, up⟩ ⟨((xb.step hlt (hm1 _) (by omega) hp' fm (n3 := nx' + 7 + 10 + 30 + 3) (by omega) (by simp; omega) (by simp; omega) (by omega) (by simp; omega) (by simp; omega)).cons (q := k + 4 + 6 + 3 + 2 + 2 + 2 + 2 + 7) (nj _ (by omega) (by omega) fm) (by omega) (by omega)).cons (q := nx' + 7 + 7) (fun g => by have := hp'.lt _ g; omega) (by omega) (by omega), xo, xss⟩ (by simp; omega) (by simp) (memLe_refl _)
        · rw [if_neg (by omega), if_neg (by omega), if_neg (by omega)] at hE
          rw [hE] at hp' ⊢
          simp -implicitDefEqProofs [g1, g2, g3, w1, encC, encCe, mapE_I, lkE_G, lkE_I2, mup_G, mup_C, y1, y2, zz, z7, z0, z1, z2, z3, z4, z5, z6, encNd, a1, a3]
          have hsm := same_c n.cell n.cell
          rw [xss _ _ i2 a1] at hsm
          simp only [encCe] at hsm
          refine pcK_of hsm (by simp) ?_
          simp -implicitDefEqProofs [w1]
          refine again_of ⟨s + 1, _, J', ns, ps, en, dn, th, up⟩ ⟨((xb.step hlt (hm1 _) (by omega) hp' fm (n3 := nx' + 7 + 10 + 30 + 3) (by omega) (by simp; omega) (by simp; omega) (by omega) (by simp; omega) (by simp; omega)).cons (q := k + 4 + 6 + 3 + 2 + 2 + 2 + 2 + 7) (nj _ (by omega) (by omega) fm) (by omega) (by omega)).cons (q := nx' + 7 + 7) (fun g => by have := hp'.lt _ g; omega) (by omega) (by omega), xo, xss⟩ (by simp; omega) (by simp) (memLe_refl _)
        · rw [if_neg (by omega), if_pos a1] at hE
          rw [hE] at hp' ⊢
          simp -implicitDefEqProofs [g1, g2, g3, w1, encC, encCe, mapE_I, lkE_G, lkE_I2, mup_G, mup_C, y1, y2, zz, z7, z0, z1, z2, z3, z4, z5, z6, encNd, nd0, ce0, a3]
          refine again_of ⟨s + 1, _, J', ns, ps, en, dn, th, up⟩ ⟨((xb.step hlt (hm1 _) (by omega) hp' fm (n3 := nx' + 7 + 10 + 30 + 3) (by omega) (by simp; omega) (by simp; omega) (by omega) (by simp; omega) (by simp; omega)).cons (q := k + 4 + 6 + 3 + 2 + 2 + 2 + 2 + 7) (nj _ (by omega) (by omega) fm) (by omega) (by omega)).cons (q := nx' + 7 + 7) (fun g => by have := hp'.lt _ g; omega) (by omega) (by omega), xo, xss⟩ (by simp; omega) (by simp) (memLe_refl _)
      · obtain ⟨l1, l2⟩ := look_no hl
        rw [l2] at hnk
        obtain ⟨a2, a3⟩ := hnk
        have hE : enterF ns x.at' = ((nd0, 2), ns) := by unfold enterF; rw [if_pos hl, l1]
        rw [hE] at hp' ⊢
        simp -implicitDefEqProofs [g1, g2, g3, w1, encC, encCe, mapE_I, lkE_G, lkE_I2, mup_G, mup_C, y1, y2, zz, z7, z0, z1, z2, z3, z4, z5, z6, encNd, nd0, ce0, a3]
        refine again_of ⟨s + 1, _, J', ns, ps, en, dn, th, up⟩ ⟨((xb.step hlt (hm1 _) (by omega) hp' fm (n3 := nx' + 7 + 10 + 30 + 3) (by omega) (by simp; omega) (by simp; omega) (by omega) (by simp; omega) (by simp; omega)).cons (q := k + 4 + 6 + 3 + 2 + 2 + 2 + 2 + 7) (nj _ (by omega) (by omega) fm) (by omega) (by omega)).cons (q := nx' + 7 + 7) (fun g => by have := hp'.lt _ g; omega) (by omega) (by omega), xo, xss⟩ (by simp; omega) (by simp) (memLe_refl _)
    · simp -implicitDefEqProofs
      refine pcK_of hC (by simp) ?_
      simp -implicitDefEqProofs
      refine clK_of (Update_h x.at' x.a.c hac (hp.cons (by omega) (by omega)) (by have := xo.up; omega) (by omega) (fun mem' nx' J' hp' fm => ?_))
      have hle := fm.le
      have z7 : ∀ c, c ≤ 28 → (nx' = k + c) = False := fun c hc => eq_false (by omega)
      have zz : (k + 4 + 6 + 3 + 2 + 2 + 2 + 2 + 7 = n1) = False := eq_false (by omega)
      have z0 : ∀ c, (k + c = n1) = False := fun c => eq_false (by omega)
      have y1 : (nx' + 10 + 7 = n1) = False := eq_false (by omega)
      have y2 : (nx' + 7 = n1) = False := eq_false (by omega)
      have z1 : (nx' = k + 1) = False := eq_false (by omega)
      have z2 : (k + 1 = nx') = False := eq_false (by omega)
      have z3 : ∀ c, (nx' + c = k) = False := fun c => eq_false (by omega)
      have z4 : ∀ c, (k = nx' + c) = False := fun c => eq_false (by omega)
      have z5 : ∀ c, (nx' + c = n1) = False := fun c => eq_false (by omega)
      have z6 : ∀ c, (n1 = nx' + c) = False := fun c => eq_false (by omega)
      have g1 : look mem' (k + 4 + 4) = some (.box (encAct x.kind x.at' x.a x.b)) := by
        rw [fm.keep _ (by omega) (fun g => by have := hp.lt _ g; omega), look_cons, if_pos rfl]; rfl
      have g2 : look mem' n1 = some (.map (encMi (fun n => I n) en)) := by
        rw [fm.keep _ (by omega) xej, hm1 _ _ xj, xe]
      have g3 : look mem' (n1 + 2) = some (.map (encMi encC dn)) := by
        rw [fm.keep _ (by omega) xdj, hm1 _ _ xk, xd]
      simp only [encAct] at g1
      simp -implicitDefEqProofs [g1]
      by_cases he : updE ns ps.length x.at' x.a.c = 0
      · obtain ⟨u1, u2, u3⟩ := upd_cell he
        obtain ⟨i0, i1, i2⟩ := look_at u1
        obtain ⟨o1, o2, o3⟩ := once_done xo x.a.c i2 u2 i0 i1
        rw [if_pos he, if_pos he] at hp'
        refine clK_of (Look_h x.at' (hp'.later (by omega)) ?_)
        rw [lookF_set i0 i1]
        simp -implicitDefEqProofs [g1, g2, g3, encNd, he, w1, encC, encCe, mapE_I, lkE_G, lkE_I2, mup_G, mup_C, y1, y2, zz, z7, z0, z1, z2, z3, z4, z5, z6, o1, o2]
        refine again_of ⟨s + 1, _, J', ns.set x.at'.toNat ⟨3, 0, x.a.c⟩, ps, en, putI dn x.at' x.a.c, th, up + 1⟩ ⟨((xb.step hlt (hm1 _) (by omega) hp' fm (n3 := nx' + 10 + 10 + 2 + 17 + 6 + 3) (by omega) (by simp; omega) (by simp; omega) (by omega) (by simp; omega) (by simp; omega)).putD.cons (q := nx' + 7) (fun g => by have := hp'.lt _ g; omega) (by omega) (by omega)).cons (q := nx' + 10 + 7) (fun g => by have := hp'.lt _ g; omega) (by omega) (by omega), o3, ss_set xss i0 i1 (fun _ => cell_same hac u3)⟩ (by simp; omega) (by simp) (memLe_refl _)
      · rw [if_neg he, if_neg he] at hp'
        refine clK_of (Look_h x.at' (hp'.later (by omega)) ?_)
        rcases hlk : lookI dn x.at' with _ | c
        · simp -implicitDefEqProofs [g1, g2, g3, encNd, he, mapE_I, w1, encC, encCe, lkE_G, lkE_I2, hlk, y1, y2, zz, z7, z0, z1, z2, z3, z4, z5, z6]
          refine again_of ⟨s + 1, _, J', ns, ps, en, dn, th, up⟩ ⟨((xb.step hlt (hm1 _) (by omega) hp' fm (n3 := nx' + 10 + 10 + 2 + 3) (by omega) (by simp; omega) (by simp; omega) (by omega) (by simp; omega) (by simp; omega)).cons (q := nx' + 7) (fun g => by have := hp'.lt _ g; omega) (by omega) (by omega)).cons (q := nx' + 10 + 7) (fun g => by have := hp'.lt _ g; omega) (by omega) (by omega), xo, xss⟩ (by simp; omega) (by simp) (memLe_refl _)
        · simp -implicitDefEqProofs [g1, g2, g3, encNd, he, mapE_I, w1, encC, encCe, lkE_G, lkE_I2, hlk, y1, y2, zz, z7, z0, z1, z2, z3, z4, z5, z6]
          refine again_of ⟨s + 1, _, J', ns, ps, en, dn, th, up⟩ ⟨((xb.step hlt (hm1 _) (by omega) hp' fm (n3 := nx' + 10 + 10 + 2 + 3) (by omega) (by simp; omega) (by simp; omega) (by omega) (by simp; omega) (by simp; omega)).cons (q := nx' + 7) (fun g => by have := hp'.lt _ g; omega) (by omega) (by omega)).cons (q := nx' + 10 + 7) (fun g => by have := hp'.lt _ g; omega) (by omega) (by omega), xo, xss⟩ (by simp; omega) (by simp) (memLe_refl _)
  · have hu := xo.up
    subst hu
    simp -implicitDefEqProofs [lb3_0, hlt]
    refine clK_of (Counts_h (hp.later (by omega)) ?_)
    simp -implicitDefEqProofs [lnmD, xd, encMi_len]
end Go.Fx.Ytdjhlljgedknaaa

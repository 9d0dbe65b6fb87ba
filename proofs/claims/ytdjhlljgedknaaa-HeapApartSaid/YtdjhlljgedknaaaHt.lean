/-
  Layer 13: all of both heaps; HeapPlays, HeapApart.
-/
import Derived.Test.YtdjhlljgedknaaaHs
set_option linter.all false
set_option maxRecDepth 100000
set_option maxHeartbeats 4000000
namespace Go.Fx.Ytdjhlljgedknaaa
open Go Go.Fx Go.Proofs Go.Fx.Flt
theorem SlI.len {mem : Mem} {k : Nat} {d : D} {es : List (List D)} {J : Nat → Prop} {hid : Nat} (h : SlI mem k d es J hid) {mem' : Mem} (hs : ∀ i, J i → look mem' i = look mem i) : lenD mem' false d = some (I es.length) := by
  rcases h with ⟨rfl, rfl⟩ | ⟨id, ver, rfl, h2, h3, _⟩
  · rfl
  · have e : curv mem' id ver = true := by unfold curv; rw [hs _ h3, h2]; simp
    simp only [lenD, e]; rfl
theorem whole_h {mem : Mem} {nx : Nat} {J : Nat → Prop} {hid : Nat} {J2 : Nat → Prop} {mid : Nat} {ns : List Nd} {ps : List (Ce × Ce)} {th up : Int} {K : KD} (h : Tw mem nx J hid J2 mid ns ps th up) (hl : ns.length < 2 ^ 42) (hl2 : ps.length < 2 ^ 42)
    (hk : ∀ nx', nx ≤ nx' → K (B true) mem nx') : CallT Try.prog 20 [.opt hid 0, .opt mid 0] mem nx K := by
  refine ct20 (by simp) fun hfr => ?_
  obtain ⟨nd, pd, hb, h1, h2⟩ := h.b.ex
  have len1 : lenD mem false nd = some (I ns.length) := by have := h1.len (mem' := mem) (fun _ _ => rfl); rwa [em_len] at this
  have len2 : lenD mem false pd = some (I ps.length) := by have := h2.len (mem' := mem) (fun _ _ => rfl); rwa [em_len] at this
  simp -implicitDefEqProofs [ac20]
  refine lp20_1 (α := Nat) (fun i _ => [(4, .top), (5, I i), (6, .top), (7, .top), (8, .top), (9, .top)]) (fun _ _ => mem) (fun i k => nx ≤ k ∧ i ≤ ns.length + 1) (fun i => ns.length + 1 - i) 0 ⟨by omega, by omega⟩ (by simp) (memLe_refl _) ?_
  rintro i k ⟨hk1, hi⟩
  by_cases hle : i ≤ ns.length
  · have hal := alike_c (lookF ns i).1 (lookF ns i).1
    rw [look_same h.n] at hal
    obtain ⟨n, hn⟩ : ∃ n, (lookF ns i).1 = n := ⟨_, rfl⟩
    rw [hn] at hal
    simp only [encNd] at hal
    have hle2 : (i : Int) ≤ (ns.length : Int) := by omega
    have w1 := wr64 (x := (i : Int) + 1) (by omega) (by omega)
    have z1 : (k + 7 + 7 = k + 7) = False := eq_false (by omega)
    have hr := fun {mem' : Mem} {nx' : Nat} {K : KD} (hsub) => rLook_t (mem' := mem') (nx' := nx') (K := K) i hsub h.b
    have hr1 := fun {mem' : Mem} {nx' : Nat} {K : KD} (hsub) (hk) => (h.a.ex.elim fun nd h => h.elim fun pd h => Look_t (mem := mem) (mem' := mem') (nx := nx') (K := K) i hsub h.1 (h.2.1.sees (imm_Nd ns)) (h.2.2.sees (imm_Pr ps)) hk)
    simp only [hn, encNd] at hr hr1
    simp -implicitDefEqProofs [-lenD, lb20_1, hb, len1, hle2]
    refine clK_of (hr1 (memSub_refl _) ?_)
    simp -implicitDefEqProofs
    refine clK_of (hr (by repeat (first | exact memSub_refl _ | refine memSub_skip ?_ (look_upd_none (hfr _ (by omega))) | refine memSub_skip ?_ (hfr _ (by omega)))) ?_)
    simp -implicitDefEqProofs
    refine pcK_of hal (by simp) ?_
    simp -implicitDefEqProofs [w1]
    exact again_of (i + 1) ⟨by omega, by omega⟩ (by omega) (by simp) (memLe_skip (memLe_skip (memLe_refl _) (hfr _ (by omega))) (hfr _ (by omega)))
  · have hle2 : ¬ (i : Int) ≤ (ns.length : Int) := by omega
    simp -implicitDefEqProofs [-lenD, lb20_1, hb, len1, hle2]
    refine lp20_0 (α := Nat) (fun i _ => [(4, .top), (10, I i), (11, .top), (12, .top), (13, .top), (14, .top), (15, .top)]) (fun _ _ => mem) (fun i k => nx ≤ k ∧ i ≤ ps.length + 1) (fun i => ps.length + 1 - i) 0 ⟨by omega, by omega⟩ (by simp) (memLe_refl _) ?_
    rintro j k2 ⟨hk2, hj⟩
    by_cases hle : j ≤ ps.length
    · have hs1 := same_c (partsF ps j).1.1 (partsF ps j).1.1
      have hs2 := same_c (partsF ps j).1.2 (partsF ps j).1.2
      rw [(parts_same h.p j).1] at hs1
      rw [(parts_same h.p j).2] at hs2
      obtain ⟨n, hn⟩ : ∃ n, (partsF ps j).1 = n := ⟨_, rfl⟩
      rw [hn] at hs1 hs2
      simp only [encCe] at hs1 hs2
      have hle2 : (j : Int) ≤ (ps.length : Int) := by omega
      have w1 := wr64 (x := (j : Int) + 1) (by omega) (by omega)
      have hr := fun {mem' : Mem} {nx' : Nat} {K : KD} (hsub) => rParts_t (mem' := mem') (nx' := nx') (K := K) j hsub h.b
      have hr1 := fun {mem' : Mem} {nx' : Nat} {K : KD} (hsub) (hk) => (h.a.ex.elim fun nd h => h.elim fun pd h => Parts_t (mem := mem) (mem' := mem') (nx := nx') (K := K) j hsub h.1 (h.2.1.sees (imm_Nd ns)) (h.2.2.sees (imm_Pr ps)) hk)
      simp only [hn, encPr, encCe] at hr hr1
      simp -implicitDefEqProofs [-lenD, lb20_0, hb, len2, hle2]
      refine clK_of (hr1 (memSub_refl _) ?_)
      simp -implicitDefEqProofs
      refine clK_of (hr (by repeat (first | exact memSub_refl _ | refine memSub_skip ?_ (look_upd_none (hfr _ (by omega))) | refine memSub_skip ?_ (hfr _ (by omega)))) ?_)
      simp -implicitDefEqProofs
      refine pcK_of hs1 (by simp) ?_
      simp -implicitDefEqProofs
      refine pcK_of hs2 (by simp) ?_
      simp -implicitDefEqProofs [w1]
      exact again_of (j + 1) ⟨by omega, by omega⟩ (by omega) (by simp) (memLe_skip (memLe_skip (memLe_skip (memLe_refl _) (hfr _ (by omega))) (hfr _ (by omega))) (hfr _ (by omega)))
    · have hle2 : ¬ (j : Int) ≤ (ps.length : Int) := by omega
      simp -implicitDefEqProofs [-lenD, lb20_0, hb, len2, hle2]
      refine clK_of (Counts_h (h.a.later (by omega)) ?_)
      simp -implicitDefEqProofs [hb]
      exact ⟨_, memSub_refl _, hk _ (by omega)⟩
structure Ps where
  s : Nat
  mem : Mem
  J : Nat → Prop
  J2 : Nat → Prop
  ns : List Nd
  ps : List (Ce × Ce)
  th : Int
  up : Int
theorem tw_zero {mem : Mem} {nx hid mid : Nat} (h1 : look mem hid = some (.box [nilD, nilD, I 0, I 0])) (h2 : look mem mid = some (.box [nilD, nilD, I 0, I 0])) (hh : hid < nx) (hm : mid < nx) (hne : hid ≠ mid) : Tw mem nx (fun i => i = hid) hid (fun i => i = mid) mid [] [] 0 0 :=
  ⟨⟨⟨_, _, h1, .inl ⟨rfl, rfl⟩, .inl ⟨rfl, rfl⟩⟩, rfl, fun i hi => by omega⟩, ⟨⟨_, _, h2, .inl ⟨rfl, rfl⟩, .inl ⟨rfl, rfl⟩⟩, rfl, fun i hi => by omega⟩, fun i hi hj => hne (hi.symm.trans hj), by simp, by simp, by omega, by omega⟩
structure PsOk (hid mid : Nat) (x : Ps) (nx L : Nat) : Prop where
  le : x.s ≤ L
  tw : Tw x.mem nx x.J hid x.J2 mid x.ns x.ps x.th x.up
  ln : x.ns.length ≤ x.s
  lp : x.ps.length ≤ x.s
  lt : x.th ≤ x.s
  lu : x.up ≤ x.s
theorem law_HeapPlays_at (l : List Ac) (hl : l.length < 2 ^ 41) : Pure Try.prog 4 [.sl (em encAc l)] (B true) := by
  refine pu4 (by simp) ?_
  simp -implicitDefEqProofs [ac4]
  refine pcK_of (awake_c) (by simp) ?_
  simp -implicitDefEqProofs
  refine clK_of (New_h (fun hid n1 h1 h2 hp0 => ?_))
  simp -implicitDefEqProofs
  refine lp4_0 (α := Ps) (fun x _ => [(2, .top), (5, I x.s)]) (fun x _ => x.mem) (fun x k => PsOk hid (n1 + 1) x k l.length) (fun x => l.length - x.s)
    ⟨0, [(n1 + 1, .box [nilD, nilD, I 0, I 0]), (hid, .box [nilD, nilD, I 0, I 0])], (fun i => i = hid), (fun i => i = n1 + 1), [], [], 0, 0⟩ ⟨by simp, tw_zero (by rw [look_cons, if_neg (by omega), look_cons, if_pos rfl]) (by rw [look_cons, if_pos rfl]) (by omega) (by omega) (by omega), by simp, by simp, by simp, by simp⟩ (by simp) (memLe_refl _) ?_
  rintro ⟨s, mem, J, J2, ns, ps, th, up⟩ k ⟨x1, tw, x2, x3, x4, x5⟩
  simp only at x1 tw x2 x3 x4 x5
  by_cases hlt : s < l.length
  · obtain ⟨x, hx⟩ : ∃ x, l[s] = x := ⟨_, rfl⟩
    have w1 := wr64 (x := (s : Int) + 1) (by omega) (by omega)
    have hs := fun {K : KD} {nx : Nat} (hn : k ≤ nx) => step_h (K := K) (nx := nx) x (tw.later hn) (by omega) (by omega) (by omega) (by omega)
    simp only [encAc, encAct] at hs
    simp -implicitDefEqProofs [lb4_0, hlt, ia_Ac, hx, encAc, encAct]
    refine clK_of (hs (by omega) (fun mem' nx' J' J2' ns' ps' th' up' tw' fm l1 l2 l3 l4 => ?_))
    simp -implicitDefEqProofs [w1]
    exact again_of ⟨s + 1, mem', J', J2', ns', ps', th', up'⟩ ⟨by simp; omega, tw'.later (by omega), by simp; omega, by simp; omega, by simp; omega, by simp; omega⟩ (by simp; omega) (by simp) (memLe_refl _)
  · simp -implicitDefEqProofs [lb4_0, hlt]
    refine clK_of (whole_h (tw.later (by omega)) (by omega) (by omega) (fun nx' hn => ?_))
    simp -implicitDefEqProofs
theorem law_HeapPlays : ∀ xs, Args Try.prog Try.f4.params.toList xs → Pure Try.prog 4 xs (B true) := by
  intro xs h
  rw [Try.params4] at h
  simp only [Args] at h
  obtain ⟨x, r, rfl, hx, rfl⟩ := h
  obtain ⟨l, rfl, hl⟩ := arg_acs hx
  exact law_HeapPlays_at l hl
theorem Tw.beside {mem mem' : Mem} {nx nx' : Nat} {JJ JJ' J J2 : Nat → Prop} {hid mid : Nat} {ns : List Nd} {ps : List (Ce × Ce)} {th up : Int} (h : Tw mem nx J hid J2 mid ns ps th up) (fm : Fm mem nx JJ mem' nx' JJ') (dj : ∀ i, JJ i → ¬ (J i ∨ J2 i)) :
    Tw mem' nx' J hid J2 mid ns ps th up ∧ ∀ i, JJ' i → ¬ (J i ∨ J2 i) := by
  obtain ⟨a1, a2⟩ := h.a.beside fm (fun i g g2 => dj i g (.inl g2))
  obtain ⟨b1, b2⟩ := h.b.beside fm (fun i g g2 => dj i g (.inr g2))
  exact ⟨⟨a1, b1, h.dj, h.n, h.p, h.t0, h.u0⟩, fun i g g2 => g2.elim (a2 i g) (b2 i g)⟩
structure Pq where
  s : Nat
  mem : Mem
  J : Nat → Prop
  J2 : Nat → Prop
  ns : List Nd
  ps : List (Ce × Ce)
  th : Int
  up : Int
  L : Nat → Prop
  L2 : Nat → Prop
  ms : List Nd
  qs : List (Ce × Ce)
  ti : Int
  uq : Int
structure PqOk (hid mid gid oid : Nat) (x : Pq) (nx L : Nat) : Prop where
  le : x.s ≤ L
  tw : Tw x.mem nx x.J hid x.J2 mid x.ns x.ps x.th x.up
  tv : Tw x.mem nx x.L gid x.L2 oid x.ms x.qs x.ti x.uq
  dj : ∀ i, x.J i ∨ x.J2 i → ¬ (x.L i ∨ x.L2 i)
  ln : x.ns.length ≤ x.s
  lp : x.ps.length ≤ x.s
  lt : x.th ≤ x.s
  lu : x.up ≤ x.s
  ln' : x.ms.length ≤ x.s
  lp' : x.qs.length ≤ x.s
  lt' : x.ti ≤ x.s
  lu' : x.uq ≤ x.s
def encBo (b : Bool) : List D := [.pl (.bool b)]
theorem ia_Bo {l : List Bool} {mem : Mem} {j : IntKind} {i : Int} : iaD mem 1 (.sl (em encBo l)) (.pl (.int j i)) = if 0 ≤ i ∧ i < l.length then some (.pt (encBo (l[i.toNat]?.getD default))) else none := em_ia fun _ => rfl
theorem ia_20 {a b : D} {mem : Mem} : iaD mem 1 (.sl [[a], [b]]) (.pl (.int .i64 0)) = some (.pt [a]) := rfl
theorem ia_21 {a b : D} {mem : Mem} : iaD mem 1 (.sl [[a], [b]]) (.pl (.int .i64 1)) = some (.pt [b]) := rfl
theorem law_HeapApart_at (l : List Ac) (hl : l.length < 2 ^ 41) (b : List Bool) (hb : b.length < 2 ^ 60) : Pure Try.prog 5 [.sl (em encAc l), .sl (em encBo b)] (B true) := by
  refine pu5 (by simp) ?_
  simp -implicitDefEqProofs [ac5]
  refine pcK_of (awake_c) (by simp) ?_
  simp -implicitDefEqProofs
  refine clK_of (New_h (fun hid n1 h1 h2 hp0 => ?_))
  simp -implicitDefEqProofs
  refine clK_of (New_h (fun gid n2 h3 h4 hp1 => ?_))
  simp -implicitDefEqProofs
  have y1 : (n2 + 3 = n2 + 1) = False := eq_false (by omega)
  refine lp5_0 (α := Pq) (fun x _ => [(4, .top), (7, I x.s), (8, .top)]) (fun x _ => x.mem) (fun x k => PqOk hid (n2 + 1) gid (n2 + 3) x k l.length) (fun x => l.length - x.s)
    ⟨0, [(n2 + 3, .box [nilD, nilD, I 0, I 0]), (n2 + 1, .box [nilD, nilD, I 0, I 0]), (gid, .box [nilD, nilD, I 0, I 0]), (hid, .box [nilD, nilD, I 0, I 0])], (fun i => i = hid), (fun i => i = n2 + 1), [], [], 0, 0, (fun i => i = gid), (fun i => i = n2 + 3), [], [], 0, 0⟩
    ⟨by simp, tw_zero (by repeat (first | rw [look_cons, if_pos rfl] | rw [look_cons, if_neg (by omega)])) (by repeat (first | rw [look_cons, if_pos rfl] | rw [look_cons, if_neg (by omega)])) (by omega) (by omega) (by omega), tw_zero (by repeat (first | rw [look_cons, if_pos rfl] | rw [look_cons, if_neg (by omega)])) (by repeat (first | rw [look_cons, if_pos rfl] | rw [look_cons, if_neg (by omega)])) (by omega) (by omega) (by omega), fun i h g => by simp only at h g; omega, by simp, by simp, by simp, by simp, by simp, by simp, by simp, by simp⟩ (by simp) (memLe_refl _) ?_
  rintro ⟨s, mem, J, J2, ns, ps, th, up, L, L2, ms, qs, ti, uq⟩ k ⟨x1, tw, tv, dj, x2, x3, x4, x5, x6, x7, x8, x9⟩
  simp only at x1 tw tv dj x2 x3 x4 x5 x6 x7 x8 x9
  by_cases hlt : s < l.length
  · obtain ⟨x, hx⟩ : ∃ x, l[s] = x := ⟨_, rfl⟩
    have w1 := wr64 (x := (s : Int) + 1) (by omega) (by omega)
    have hs := fun {K : KD} {nx : Nat} (hn : k ≤ nx) => step_h (K := K) (nx := nx) x (tw.later hn) (by omega) (by omega) (by omega) (by omega)
    have ht := fun {K : KD} {nx : Nat} (hn : k ≤ nx) => step_h (K := K) (nx := nx) x (tv.later hn) (by omega) (by omega) (by omega) (by omega)
    simp only [encAc, encAct] at hs ht
    have first : ∀ (K : KD) (n : Nat), k ≤ n → (∀ z n', PqOk hid (n2 + 1) gid (n2 + 3) z n' l.length → z.s = s + 1 → K (B true) z.mem n') → CallT Try.prog 19 [.opt hid 0, .opt (n2 + 1) 0, .agg [I x.kind, I x.at', I x.a.kind, I x.a.at', I x.a.num.re, I x.a.num.im, B x.a.num.raw, B x.a.b, I x.b.kind, I x.b.at', I x.b.num.re, I x.b.num.im, B x.b.num.raw, B x.b.b]] mem n K := fun K n hn hk =>
      hs hn (fun mem' nx' J' J2' ns' ps' th' up' tw' fm l1 l2 l3 l4 => by
        obtain ⟨tv', dj'⟩ := (tv.later hn).beside fm dj
        exact hk ⟨s + 1, mem', J', J2', ns', ps', th', up', L, L2, ms, qs, ti, uq⟩ nx' ⟨hlt, tw', tv', dj', by simp; omega, by simp; omega, by simp; omega, by simp; omega, by simp; omega, by simp; omega, by simp; omega, by simp; omega⟩ rfl)
    have second : ∀ (K : KD) (n : Nat), k ≤ n → (∀ z n', PqOk hid (n2 + 1) gid (n2 + 3) z n' l.length → z.s = s + 1 → K (B true) z.mem n') → CallT Try.prog 19 [.opt gid 0, .opt (n2 + 3) 0, .agg [I x.kind, I x.at', I x.a.kind, I x.a.at', I x.a.num.re, I x.a.num.im, B x.a.num.raw, B x.a.b, I x.b.kind, I x.b.at', I x.b.num.re, I x.b.num.im, B x.b.num.raw, B x.b.b]] mem n K := fun K n hn hk =>
      ht hn (fun mem' nx' J' J2' ns' ps' th' up' tw' fm l1 l2 l3 l4 => by
        obtain ⟨tv', dj'⟩ := (tw.later hn).beside fm (fun i g g2 => dj i g2 g)
        exact hk ⟨s + 1, mem', J, J2, ns, ps, th, up, J', J2', ns', ps', th', up'⟩ nx' ⟨hlt, tv', tw', fun i g g2 => dj' i g2 g, by simp; omega, by simp; omega, by simp; omega, by simp; omega, by simp; omega, by simp; omega, by simp; omega, by simp; omega⟩ rfl)
    by_cases hb1 : s < b.length
    · obtain ⟨v, hv⟩ : ∃ v, b[s] = v := ⟨_, rfl⟩
      cases v
      · simp -implicitDefEqProofs [lb5_0, hlt, ia_Ac, hx, encAc, encAct, ia_Bo, hb1, hv, encBo, ia_20, ia_21]
        refine clK_of (first _ _ ?_ (fun z n' hz he => ?_))
        · omega
        simp -implicitDefEqProofs [w1]
        exact again_of z ⟨hz.le, hz.tw.later (by omega), hz.tv.later (by omega), hz.dj, hz.ln, hz.lp, hz.lt, hz.lu, hz.ln', hz.lp', hz.lt', hz.lu'⟩ (by simp; omega) (by simp [he]) (memLe_refl _)
      · simp -implicitDefEqProofs [lb5_0, hlt, ia_Ac, hx, encAc, encAct, ia_Bo, hb1, hv, encBo, ia_20, ia_21]
        refine clK_of (second _ _ ?_ (fun z n' hz he => ?_))
        · omega
        simp -implicitDefEqProofs [w1]
        exact again_of z ⟨hz.le, hz.tw.later (by omega), hz.tv.later (by omega), hz.dj, hz.ln, hz.lp, hz.lt, hz.lu, hz.ln', hz.lp', hz.lt', hz.lu'⟩ (by simp; omega) (by simp [he]) (memLe_refl _)
    · have hb2 : ¬ (s : Int) < (b.length : Int) := by omega
      simp -implicitDefEqProofs [lb5_0, hlt, ia_Ac, hx, encAc, encAct, ia_Bo, hb1, hb2, encBo, ia_20, ia_21]
      refine clK_of (first _ _ ?_ (fun z n' hz he => ?_))
      · omega
      simp -implicitDefEqProofs [w1]
      exact again_of z ⟨hz.le, hz.tw.later (by omega), hz.tv.later (by omega), hz.dj, hz.ln, hz.lp, hz.lt, hz.lu, hz.ln', hz.lp', hz.lt', hz.lu'⟩ (by simp; omega) (by simp [he]) (memLe_refl _)
  · simp -implicitDefEqProofs [lb5_0, hlt, ia_20, ia_21]
    refine clK_of (whole_h (tw.later (by omega)) (by omega) (by omega) (fun nx' hn => ?_))
    simp -implicitDefEqProofs [ia_20, ia_21]
    refine clK_of (whole_h (tv.later ?_) (by omega) (by omega) (fun nx' hn => ?_))
    · omega
    simp -implicitDefEqProofs
theorem wt_Bo {n : Nat} {ds : List D} (h : Wt Try.prog n 4 ds) : ∃ z, ds = encBo z ∧ True := by
  cases n with
  | zero => exact h.elim
  | succ n =>
    simp only [Wt, Try.underlying4] at h
    obtain ⟨z, rfl⟩ := h
    exact ⟨z, rfl, trivial⟩
theorem arg_bos {x : D} (h : Arg Try.prog 63 x) : ∃ l : List Bool, x = .sl (em encBo l) ∧ l.length < 2 ^ 60 := by
  obtain ⟨n, ds, h, k⟩ := h
  simp only [Try.underlying63] at k
  cases n with
  | zero => exact h.elim
  | succ n =>
    simp only [Wt, Try.underlying63] at h
    obtain ⟨es, rfl, hb, he⟩ := h
    obtain ⟨l, rfl, _⟩ := lift_em (enc := encBo) (p := fun _ => True) fun c hc => wt_Bo (he c hc)
    simp only [List.cons.injEq, and_true] at k
    refine ⟨l, k.symm, ?_⟩
    rw [em_len] at hb
    have e : Program.bytesOf Try.prog 4 = 1 := by kernel_rfl
    rw [e] at hb
    unfold reachBytes at hb
    omega
theorem law_HeapApart : ∀ xs, Args Try.prog Try.f5.params.toList xs → Pure Try.prog 5 xs (B true) := by
  intro xs h
  rw [Try.params5] at h
  simp only [Args] at h
  obtain ⟨x, r, rfl, hx, y, r2, rfl, hy, rfl⟩ := h
  obtain ⟨l, rfl, hl⟩ := arg_acs hx
  obtain ⟨b, rfl, hb⟩ := arg_bos hy
  exact law_HeapApart_at l hl b hb
end Go.Fx.Ytdjhlljgedknaaa

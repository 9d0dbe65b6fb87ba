/- Joined texts of this claim. No condition. -/
import Derived.Test.YtlhdpfaohphbaaaGreatMt1
set_option linter.all false
namespace Go.Fx
open Go
section
variable {C : Cfg} {w w' : World} {S S' : Nat → Prop} {φ φ' : bA} {a : Act} {env tl : Env} {mem : Mem} {nx id : Nat}
theorem lK {t j : Nat} (x : Value) (h : j ≠ t) : (a.tmps.setIfInBounds t x).getD j undef = a.tmps.getD j undef := by
 simp only [Array.getD_eq_getD_getElem?, Array.getElem?_setIfInBounds]
 rw [if_neg (Ne.symm h)]
theorem sU {t : Nat} (x : Value) (h : t < a.tmps.size) : (a.tmps.setIfInBounds t x).getD t undef = x := by
 simp only [Array.getD_eq_getD_getElem?, Array.getElem?_setIfInBounds]
 simp [h]
theorem q8 {B : Rx} {o : Oper} {d : Dst} {v : D} {x : Value} {go : Env → Env → Mem → Nat → Prop} (hd : C.dst o.dst = some d) (hk : d8 C w S φ env tl a) (hsz : a.tmps.size = C.n) (hdf : Dfr B S' w' a.defers) (hst : Stays w S φ w' S' φ') (hv : Rep w' S' φ' v x)
  (hK : eE d env tl go v mem nx) : ∃ env' tl', go env' tl' mem nx ∧ d8 C w' S' φ' env' tl' (a.put o.dst x) ∧ (a.put o.dst x).tmps.size = C.n ∧ Dfr B S' w' (a.put o.dst x).defers := by
 have hk' : d8 C w' S' φ' env tl a := ⟨fun j d hj hl => Rep.mono hst _ _ (hk.env j d hj hl), fun j d hj hl => Rep.mono hst _ _ (hk.tl j d hj hl)⟩
 cases ho : o.dst with
 | none =>
  rw [ho] at hd
  simp only [Cfg.dst, Option.some.injEq] at hd; subst hd
  exact ⟨env, tl, hK, hk', hsz, hdf⟩
 | some t =>
  rw [ho] at hd
  simp only [Cfg.dst] at hd
  have hlt : t < C.n := by
   by_cases h : t < C.n
   ·exact h
   ·simp [h] at hd
  simp only [hlt, if_true, Option.some.injEq] at hd
  have hts : t < a.tmps.size := by rw [hsz]; exact hlt
  by_cases ht : t ∈ C.gs
  ·have hc : C.gs.contains t = true := by simpa using ht
   simp only [hc, if_true] at hd; subst hd
   refine ⟨upd env t v, tl, hK, ⟨fun j d hj hl => ?_, fun j d hj hl => ?_⟩, by simp [Act.put, hsz], hdf⟩
   ·rcases dW t v env j d hl with ⟨rfl, rfl⟩ | ⟨hne, hl⟩
    ·simp only [Act.put]; rw [sU x hts]; exact hv
    ·simp only [Act.put]; rw [lK x hne]; exact hk'.env j d hj hl
   ·have hne : j ≠ t := by rintro rfl; exact hj ht
    simp only [Act.put]; rw [lK x hne]; exact hk'.tl j d hj hl
  ·have hc : C.gs.contains t = false := by simpa using ht
   simp only [hc, Bool.false_eq_true, if_false] at hd; subst hd
   refine ⟨env, (t, v) :: tl, hK, ⟨fun j d hj hl => ?_, fun j d hj hl => ?_⟩, by simp [Act.put, hsz], hdf⟩
   ·have hne : j ≠ t := by rintro rfl; exact ht hj
    simp only [Act.put]; rw [lK x hne]; exact hk'.env j d hj hl
   ·simp only [look] at hl
    by_cases e : t = j
    ·simp only [e, if_true, Option.some.injEq] at hl; subst hl; subst e
     simp only [Act.put]; rw [sU x hts]; exact hv
    ·simp only [e, if_false] at hl
     simp only [Act.put]; rw [lK x (Ne.symm e)]; exact hk'.tl j d hj hl
theorem xU {t : Nat} {b : Bool} (hk : d8 C w S φ env tl a) (h : a.tmps.getD t undef = .bool b) :
  d8 C w S φ (jN b env (if C.gs.contains t then .g t else .t t)) (jM b tl (if C.gs.contains t then .g t else .t t)) a := by
 by_cases ht : C.gs.contains t = true
 ·simp only [ht, if_true, jN, jM]
  refine ⟨fun j d hj hl => ?_, hk.tl⟩
  rcases dW t _ env j d hl with ⟨rfl, rfl⟩ | ⟨hne, hl⟩
  ·rw [h]; simp [Rep]
  ·exact hk.env j d hj hl
 ·simp only [ht, jN, jM]
  refine ⟨hk.env, fun j d hj hl => ?_⟩
  rcases dW t _ tl j d hl with ⟨rfl, rfl⟩ | ⟨hne, hl⟩
  ·rw [h]; simp [Rep]
  ·exact hk.tl j d hj hl
theorem DC (t : Nat) : C.opd (.tmp t) = some (if C.gs.contains t then .g t else .t t) := rfl
theorem CM {ops : Array Oper} {o : Oper} {x : Ins} (h : C.ins ops o = some x) : C.dst o.dst = some x.dst ∧ C.op (C.owned o.dst) o.op = some x.i ∧
  ((o.guard = none ∧ x.guard = none) ∨ ∃ j want t, o.guard = some (j, want) ∧ (ops[j]?).bind (·.dst) = some t ∧ x.guard = some (if C.gs.contains t then .g t else .t t, want)) := by
 unfold Cfg.ins at h
 split at h
 ·rename_i d g i hd hg hi
  simp only [Option.some.injEq] at h; subst h
  refine ⟨hd, hi, ?_⟩
  cases hgo : o.guard with
  | none =>
   rw [hgo] at hg
   simp only [Cfg.guardO, Option.some.injEq] at hg; subst hg
   exact .inl ⟨rfl, rfl⟩
  | some p =>
   obtain ⟨j, want⟩ := p
   rw [hgo] at hg
   simp only [Cfg.guardO] at hg
   split at hg
   ·rename_i t ht
    simp only [Option.some.injEq] at hg; subst hg
    exact .inr ⟨j, want, t, rfl, ht, rfl⟩
   ·simp at hg
 ·simp at h
def One (C : Cfg) (base : Nat) (x : Ins) (j : Nat) (env tl : Env) (mem : Mem) (nx : Nat) (go : Env → Env → Mem → Nat → Prop) : Prop :=
 match x with
 | ⟨d, none, i⟩ => aX C (base + j) i env tl mem nx (eE d env tl go)
 | ⟨d, some (g, want), i⟩ => gd C (ro tl env g) g want d (base + j) i env tl mem nx go
theorem v_ {base j : Nat} {K : Env → Env → Mem → Nat → Prop} {x : Ins} {r : List Ins} : run C base K (x :: r) j env tl mem nx = One C base x j env tl mem nx (run C base K r (j + 1)) := by
 obtain ⟨d, g, i⟩ := x
 cases g with
 | none => rfl
 | some p => obtain ⟨g, want⟩ := p; rfl
structure rV (C : Cfg) (B : Rx) (S : Nat → Prop) (φ : bA) (env tl : Env) (mem : Mem) (nx : Nat) (a : Act) (w : World) : Prop where
 known : d8 C w S φ env tl a
 size : a.tmps.size = C.n
 defers : Dfr B S w a.defers
 m : MSim S φ mem nx w
theorem pG {o : Oper} {v : Value} : (a.put o.dst v).defers = a.defers := by cases ho : o.dst <;> simp [Act.put]
theorem xR {B : Rx} {ops : Array Oper} {o : Oper} {x : Ins} {base j k : Nat} {go : Env → Env → Mem → Nat → Prop} (hj : ops[k]? = some o) (hx : C.ins ops o = some x) (h : One C base x j env tl mem nx go) (hh : rV C B S φ env tl mem nx a w)
  (hfree : φ (base + j) = none) (hlt : base + j < nx) {Q : Exit → Act → World → Prop} :
  wpOp C.P ops Q k (fun a' w' => ∃ S' φ' env' tl' mem' nx', go env' tl' mem' nx' ∧ rV C B S' φ' env' tl' mem' nx' a' w' ∧ Stays w S φ w' S' φ' ∧ Ext S φ mem w S' φ' mem' w' ∧ nx ≤ nx' ∧ (∀ i, i ≠ base + j → i < nx → φ i = none → φ' i = none) ∧ a'.defers = a.defers) a w := by
 obtain ⟨hd, hi, hg⟩ := CM hx
 have step : ∀ (env tl : Env), d8 C w S φ env tl a → aX C (base + j) x.i env tl mem nx (eE x.dst env tl go) →
   o.wp C.P a w (fun a' w' => ∃ S' φ' env' tl' mem' nx', go env' tl' mem' nx' ∧ rV C B S' φ' env' tl' mem' nx' a' w' ∧ Stays w S φ w' S' φ' ∧ Ext S φ mem w S' φ' mem' w' ∧ nx ≤ nx' ∧ (∀ i, i ≠ base + j → i < nx → φ i = none → φ' i = none) ∧ a'.defers = a.defers) Q := by
  intro env tl hk hs
  refine Oper.wp_monoQ ?_ (fun _ _ _ h => h.elim) (DH hi hs hk hh.m hfree hlt)
  rintro a' w' ⟨r, rfl, v, mem', nx', S', φ', h1, h2, h3, h4, h5, h6, h7⟩
  obtain ⟨env', tl', g1, g2, g3, g4⟩ := q8 hd hk hh.size (hh.defers.ext hh.m h6) h5 h3 h1
  exact ⟨S', φ', env', tl', mem', nx', g1, ⟨g2, g3, g4, h4⟩, h5, h6, h2, h7, pG⟩
 unfold wpOp
 simp only [hj]
 rcases hg with ⟨hg, hxg⟩ | ⟨jj, want, t, hg, ht, hxg⟩
 ·have hw : Region.wanted o (yielded ops a.tmps) = true := by simp [Region.wanted, hg]
  simp only [hw, if_true]
  left
  obtain ⟨d, g, i⟩ := x
  simp only at hxg; subst hxg
  exact step env tl hh.known h
 ·obtain ⟨d, g, i⟩ := x
  simp only at hxg; subst hxg
  simp only [One, gd] at h
  split at h
  ·rename_i b hro
   have hb := aU hh.known (DC t) hro
   simp only [Rep, Act.eval] at hb
   have hy : yielded ops a.tmps jj = some b := by
    unfold yielded
    rw [ht]
    simp only [Option.bind_some]
    cases hq : a.tmps[t]? with
    | none => simp [Array.getD_eq_getD_getElem?, hq, undef] at hb
    | some u =>
     simp only [Array.getD_eq_getD_getElem?, hq, Option.getD_some] at hb
     subst hb; rfl
   by_cases hbw : b = want
   ·subst hbw
    have hw : Region.wanted o (yielded ops a.tmps) = true := by simp [Region.wanted, hg, hy]
    simp only [hw, if_true]
    left
    exact step _ _ (xU hh.known hb) (h.1 rfl)
   ·have hw : Region.wanted o (yielded ops a.tmps) = false := by
     simp only [Region.wanted, hg, hy]
     simp [hbw]
    simp only [hw, Bool.false_eq_true, if_false]
    have hbn : b = !want := by cases b <;> cases want <;> simp_all
    have h2 := h.2 hbn
    rw [← hbn] at h2
    obtain ⟨env', tl', g1, g2, g3, g4⟩ := q8 (x := undef) hd (xU hh.known hb) hh.size hh.defers (Stays.refl w S φ) (by simp [Rep]) h2
    exact ⟨S, φ, env', tl', mem, nx, g1, ⟨g2, g3, g4, hh.m⟩, Stays.refl .., Ext.refl .., Nat.le_refl _, fun _ _ _ h => h, pG⟩
  ·rename_i vs hro
   have hb := aU hh.known (DC t) hro
   simp only [Rep, Act.eval] at hb
   have hy : yielded ops a.tmps jj = none := by
    unfold yielded
    rw [ht]
    simp only [Option.bind_some]
    cases hq : a.tmps[t]? with
    | none => rfl
    | some u =>
     simp only [Array.getD_eq_getD_getElem?, hq, Option.getD_some] at hb
     subst hb; rfl
   have hw : Region.wanted o (yielded ops a.tmps) = false := by
    simp only [Region.wanted, hg, hy]
    rfl
   simp only [hw, Bool.false_eq_true, if_false]
   obtain ⟨env', tl', g1, g2, g3, g4⟩ := q8 (x := undef) hd hh.known hh.size hh.defers (Stays.refl w S φ) (by simp [Rep]) h
   exact ⟨S, φ, env', tl', mem, nx, g1, ⟨g2, g3, g4, hh.m⟩, Stays.refl .., Ext.refl .., Nat.le_refl _, fun _ _ _ h => h, pG⟩
  ·exact h.elim
theorem wL {B : Rx} {ops : Array Oper} {base N : Nat} (hN : N ≤ base) {K : Env → Env → Mem → Nat → Prop} : ∀ (rest : List Oper) (is : List Ins) (j : Nat) (env tl : Env) (mem : Mem) (nx : Nat) (S : Nat → Prop) (φ : bA) (a : Act) (w : World),
  (∀ i, ops[j + i]? = rest[i]?) → rest.mapM (C.ins ops) = some is → run C base K is j env tl mem nx → rV C B S φ env tl mem nx a w → (∀ i, j ≤ i → i < j + rest.length → φ (base + i) = none) → base + j + rest.length ≤ nx →
  wpOps C.P ops (Post C B N S φ mem w (fun e s => e = .normal ∧ K s.env s.tl s.mem s.nx)) (List.range' j rest.length) a w
 | [], is, j, env, tl, mem, nx, S, φ, a, w, _, hm, hr, hh, _, hn => by
  simp only [List.mapM_nil, Option.pure_def, Option.some.injEq] at hm; subst hm
  exact ⟨⟨env, tl, mem, nx⟩, S, φ, ⟨rfl, hr⟩, ⟨hh.size, hh.defers, hh.known.env, hh.known.tl, hh.m⟩, Ext.refl .., Grow.refl (by simp only at hn ⊢; omega)⟩
 | o :: rest, is, j, env, tl, mem, nx, S, φ, a, w, ho, hm, hr, hh, hf, hn => by
  simp only [List.mapM_cons, Option.bind_eq_bind, Option.bind_eq_some_iff, Option.pure_def, Option.some.injEq] at hm
  obtain ⟨x, hx, is', his, rfl⟩ := hm
  rw [v_] at hr
  have hj : ops[j]? = some o := by have := ho 0; simpa using this
  simp only [List.length_cons] at hf hn ⊢
  rw [List.range'_succ, wpOps_cons]
  refine wpOp_mono ?_ (xR (k := j) hj hx hr hh (hf j (Nat.le_refl _) (by omega)) (by omega))
  rintro a' w' ⟨S', φ', env', tl', mem', nx', h1, h2, h3, h4, h5, h6, _⟩
  refine mV (fun e a w hp => hp.trans h4 (n1 := nx') ⟨by omega, fun i hi hnn => h6 i (by omega) (by omega) hnn, h3.loc⟩) _ _ _ (wL hN rest is' (j + 1) env' tl' mem' nx' S' φ' a' w' (fun i => ?_) his h1 h2 (fun i hi hi2 => ?_) (by omega))
  ·have := ho (i + 1)
   rw [show j + (i + 1) = j + 1 + i by omega] at this
   simpa using this
  ·exact h6 _ (by omega) (by omega) (hf i (by omega) (by omega))
end
section
variable {C : Cfg} {w w' : World} {S S' : Nat → Prop} {φ φ' : bA} {a : Act} {env tl env2 tl2 : Env} {mem mem2 : Mem} {nx nx2 id : Nat}
theorem fW {α β : Type} {f : α → Option β} : ∀ {l : List α} {r : List β}, l.mapM f = some r → l.length = r.length
 | [], r, h => by simp only [List.mapM_nil, Option.pure_def, Option.some.injEq] at h; subst h; rfl
 | x :: l, r, h => by
  simp only [List.mapM_cons, Option.bind_eq_bind, Option.bind_eq_some_iff, Option.pure_def, Option.some.injEq] at h
  obtain ⟨y, _, r', hr, rfl⟩ := h
  simp [fW hr]
theorem kV {α β : Type} {f : α → Option β} : ∀ {l : List α} {r : List β}, l.mapM f = some r → ∀ (i : Nat) (x : β), r[i]? = some x → ∃ y, l[i]? = some y ∧ f y = some x
 | [], r, h, i, x, hx => by simp only [List.mapM_nil, Option.pure_def, Option.some.injEq] at h; subst h; simp at hx
 | y :: l, r, h, i, x, hx => by
  simp only [List.mapM_cons, Option.bind_eq_bind, Option.bind_eq_some_iff, Option.pure_def, Option.some.injEq] at h
  obtain ⟨z, hz, r', hr, rfl⟩ := h
  cases i with
  | zero => simp only [List.getElem?_cons_zero, Option.some.injEq] at hx; subst hx; exact ⟨y, rfl, hz⟩
  | succ i => simp only [List.getElem?_cons_succ] at hx ⊢; exact kV hr i x hx
theorem aO {x : Opd} (h : ∀ s ∈ Cfg.seesO x, look env s = look env2 s ∧ look tl s = look tl2 s) : ro tl env x = ro tl2 env2 x := by
 cases x with
 | t j => exact (h j (by simp [Cfg.seesO])).2
 | g j => exact (h j (by simp [Cfg.seesO])).1
 | c v => rfl
 | f i => rfl
theorem gH : ∀ {xs : List Opd}, (∀ s ∈ xs.flatMap Cfg.seesO, look env s = look env2 s ∧ look tl s = look tl2 s) → ros tl env xs = ros tl2 env2 xs
 | [], _ => rfl
 | x :: xs, h => by
  simp only [ros]
  rw [aO (x := x) fun s hs => h s (by simp [hs]), gH (xs := xs) fun s hs => h s (by simp only [List.flatMap_cons, List.mem_append]; exact .inr hs)]
theorem nT : ∀ {ps : List (Nat × Nat × Opd)}, (∀ s ∈ ps.flatMap (fun p => Cfg.seesO p.2.2), look env s = look env2 s ∧ look tl s = look tl2 s) → rps tl env ps = rps tl2 env2 ps
 | [], _ => rfl
 | (o, n, x) :: ps, h => by
  simp only [rps]
  rw [aO (x := x) fun s hs => h s (by simp [hs]), nT (ps := ps) fun s hs => h s (by simp only [List.flatMap_cons, List.mem_append]; exact .inr hs)]
def Sub (m m2 : Mem) : Prop := ∀ i b, look m i = some b → look m2 i = some b
def kN (d : D) (m m2 : Mem) : Prop := ∀ i, d.hd = some i → ∀ b, look m i = some b → look m2 i = some b
theorem Sub.at {m m2 : Mem} (h : Sub m m2) (d : D) : kN d m m2 := fun i _ b hb => h i b hb
theorem t9 {i v : Nat} (h : ∀ b, look mem i = some b → look mem2 i = some b) (hc : mA mem i v = true) : mA mem2 i v = true := by
 unfold mA at hc ⊢
 split at hc
 ·rename_i hl; rw [h _ hl]; exact hc
 ·simp at hc
theorem C0 {i v k : Nat} (h : ∀ b, look mem i = some b → look mem2 i = some b) (hc : cur mem i v k = true) : cur mem2 i v k = true := by
 unfold cur at hc ⊢
 split at hc
 ·rename_i hl; rw [h _ hl]; exact hc
 ·simp at hc
theorem IM {len k : Nat} {x y d : D} (h : kN x mem mem2) (hc : pY mem len k x y = some d) (hf : ∀ {n : Nat} {d : D}, faD mem n x = some d → faD mem2 n x = some d) : pY mem2 len k x y = some d := by
 unfold pY at hc ⊢
 split at hc
 ·simp only [Option.ite_none_right_eq_some] at hc ⊢
  exact ⟨hc.1, hf hc.2⟩
 ·simp at hc
theorem I0 {x d : D} (h : kN x mem mem2) (hc : tV mem x = some d) : tV mem2 x = some d := by
 unfold tV at hc ⊢
 split at hc
 ·split at hc
  ·rename_i hl; rw [h _ rfl _ hl]; exact hc
  ·simp at hc
 ·exact hc
 ·simp at hc
theorem LI {kd : Option IntKind} {z : Value} {two : Bool} {x y d : D} (h : kN x mem mem2) (hc : lkD mem kd z two x y = some d) : lkD mem2 kd z two x y = some d := by
 have key : ∀ es, qO mem kd x = some es → qO mem2 kd x = some es := by
  intro es he
  unfold qO at he ⊢
  split at he
  ·split at he
   ·rename_i hl; rw [h _ rfl _ hl]; exact he
   ·simp at he
  ·exact he
  ·simp at he
 unfold lkD at hc ⊢
 split at hc
 ·rename_i hes
  rw [key _ hes]; exact hc
 ·simp at hc
theorem LK {n : Nat} {x : D} {cs : List D} (h : kN x mem mem2) (hc : rdc mem n x = some cs) : rdc mem2 n x = some cs := by
 cases x with
 | opt i off =>
  simp only [rdc] at hc ⊢
  split at hc
  ·rename_i hl; rw [h _ rfl _ hl]; exact hc
  ·simp at hc
 | oel i v ix off =>
  simp only [rdc] at hc ⊢
  split at hc
  ·rename_i hl; rw [h _ rfl _ hl]; exact hc
  ·simp at hc
 | _ => exact hc
theorem MX {g : Bool} {n : Nat} {x d : D} (h : kN x mem mem2) (hc : ldD mem g n x = some d) : ldD mem2 g n x = some d := by
 unfold ldD at hc ⊢
 split at hc
 ·rename_i hl; rw [LK h hl]; exact hc
 ·simp at hc
theorem C2 {n : Nat} {x d : D} (h : kN x mem mem2) (hc : faD mem n x = some d) : faD mem2 n x = some d := by
 cases x with
 | oel i v ix off =>
  simp only [faD, Option.ite_none_right_eq_some, Option.some.injEq] at hc ⊢
  exact ⟨t9 (h _ rfl) hc.1, hc.2⟩
 | _ => exact hc
theorem NH {k : Nat} {x y d : D} (h : kN x mem mem2) (hc : iaD mem k x y = some d) : iaD mem2 k x y = some d := by
 unfold iaD at hc ⊢
 split at hc
 ·exact hc
 ·simp only [Option.ite_none_right_eq_some] at hc ⊢
  exact ⟨C0 (h _ rfl) hc.1, hc.2⟩
 ·simp at hc
theorem H6 {s : Bool} {x d : D} (h : kN x mem mem2) (hc : iL mem s x = some d) : iL mem2 s x = some d := by
 cases x with
 | osl i v lo n =>
  simp only [iL] at hc ⊢
  split at hc
  ·simp at hc
  ·rename_i hn
   simp only [Bool.or_eq_true, Bool.not_eq_true', not_or, Bool.not_eq_true, Bool.not_eq_false] at hn
   rw [if_neg (by simp [hn.1, t9 (h _ rfl) hn.2])]; exact hc
 | pl v =>
  cases v with
  | slice p n c => cases p <;> cases n <;> cases c <;> exact hc
  | _ => exact hc
 | _ => exact hc
theorem HX {s : Bool} {k : Nat} {x d : D} {lo hi : Option D} (h : kN x mem mem2) (hc : gJ mem s k x lo hi = some d) : gJ mem2 s k x lo hi = some d := by
 cases x with
 | osl i v o n =>
  simp only [gJ] at hc ⊢
  split at hc
  ·simp at hc
  ·rename_i hn
   simp only [Bool.or_eq_true, Bool.not_eq_true', not_or, Bool.not_eq_true, Bool.not_eq_false] at hn
   rw [if_neg (by simp [hn.1, t9 (h _ rfl) hn.2])]
   split at hc
   ·rename_i l hh h1 h2
    split at hc
    ·rename_i g; rw [if_pos g]; exact hc
    ·rename_i g
     rw [if_neg g]
     split at hc
     ·rename_i g2; rw [if_pos ⟨g2.1, C0 (h _ rfl) g2.2⟩]; exact hc
     ·simp at hc
   ·simp at hc
 | pl v =>
  cases v with
  | slice p n c => cases p <;> cases n <;> cases c <;> exact hc
  | _ => exact hc
 | _ => exact hc
theorem wD {k : Nat} {x : D} {es : List (List D)} (h : kN x mem mem2) (hc : els mem k x = some es) : els mem2 k x = some es := by
 cases x with
 | osl i v lo n =>
  simp only [els] at hc ⊢
  split at hc
  ·rename_i hl; rw [h _ rfl _ hl]; exact hc
  ·simp at hc
 | pl v =>
  cases v with
  | slice p n c => cases p <;> cases n <;> cases c <;> exact hc
  | _ => exact hc
 | _ => exact hc
def Sg (d : D) (m : Mem) (n : Nat) : KD := fun d' m' n' => d' = d ∧ m' = m ∧ n' = n
theorem qI {o : Option D} {d : D} {K : KD} (h : o = some d) (hk : K d mem nx) : k0 o mem nx K := by subst h; exact hk
theorem eV {o : Option D} {g : D → Option D} {x d : D} {K : KD} (h : o = some x) (h2 : g x = some d) (hk : K d mem nx) : k1 o g mem nx K := by subst h; exact qI h2 hk
theorem nV {o p : Option D} {g : D → D → Option D} {x y d : D} {K : KD} (h : o = some x) (h1 : p = some y) (h2 : g x y = some d) (hk : K d mem nx) : k2 o p g mem nx K := by subst h h1; exact qI h2 hk
theorem vO {α : Type} {o : Option α} {g : α → Option D} {x : α} {d : D} {K : KD} (h : o = some x) (h2 : g x = some d) (hk : K d mem nx) : kl o g mem nx K := by subst h; exact qI h2 hk
theorem iA {o : Option (D × Mem)} {d : D} {m : Mem} {K : KD} (h : o = some (d, m)) (hk : K d m nx) : km o nx K := by subst h; exact hk
theorem FG {a b : Option D} {c d : D} (h : mS a b c = some d) {a' b' : Option D} (ha : a = a') (hb : b = b') : mS a' b' c = some d := by subst ha hb; exact h
theorem tR {i : I} {K : KD} (hf : i.free = true) (h : aX C id i env tl mem nx K) : ∃ d ext, K d (ext ++ mem) nx ∧ (ext = [] ∨ (∃ b, ext = [(id, b)]) ∧ Cfg.makesI i = true) ∧
  ∀ env2 tl2 mem2 nx2, (∀ s ∈ Cfg.seesI i, look env s = look env2 s ∧ look tl s = look tl2 s) → (∀ p ∈ Cfg.lookO i, ∀ d, ro tl env p = some d → kN d mem mem2) → aX C id i env2 tl2 mem2 nx2 (Sg d (ext ++ mem2) nx2) := by
 cases i with
 | mv x =>
  obtain ⟨d, h1, h2⟩ := iH h
  exact ⟨d, [], h2, .inl rfl, fun e t m n hs _ => qI (by rw [← aO hs]; exact h1) ⟨rfl, rfl, rfl⟩⟩
 | pick c x y =>
  obtain ⟨d, r, h1, h2, h3⟩ := bV h
  refine ⟨r, [], h3, .inl rfl, fun e t m n hs _ => eV (x := d) (d := r) ?_ (FG h2 ?_ ?_) ⟨rfl, rfl, rfl⟩⟩
  ·rw [← aO (x := c) fun s h => hs s (by simp [Cfg.seesI, h])]; exact h1
  ·exact aO fun s h => hs s (by simp [Cfg.seesI, h])
  ·exact aO fun s h => hs s (by simp [Cfg.seesI, h])
 | bld z ps =>
  obtain ⟨d, r, h1, h2, h3⟩ := jC h
  exact ⟨r, [], h3, .inl rfl, fun e t m n hs _ => vO (by rw [← nT hs]; exact h1) h2 ⟨rfl, rfl, rfl⟩⟩
 | bsl k len z ps =>
  obtain ⟨d, r, h1, h2, h3⟩ := jC h
  exact ⟨r, [], h3, .inl rfl, fun e t m n hs _ => vO (by rw [← nT hs]; exact h1) h2 ⟨rfl, rfl, rfl⟩⟩
 | z0 => exact ⟨.zs, [], h, .inl rfl, fun e t m n hs _ => ⟨rfl, rfl, rfl⟩⟩
 | ld g k x =>
  obtain ⟨d, r, h1, h2, h3⟩ := bV h
  exact ⟨r, [], h3, .inl rfl, fun e t m n hs hm => eV (by rw [← aO hs]; exact h1) (MX (hm _ (by simp [Cfg.lookO]) _ h1) h2) ⟨rfl, rfl, rfl⟩⟩
 | chk x =>
  obtain ⟨d, r, h1, h2, h3⟩ := bV h
  exact ⟨r, [], h3, .inl rfl, fun e t m n hs hm => eV (by rw [← aO hs]; exact h1) h2 ⟨rfl, rfl, rfl⟩⟩
 | bin op ty x y =>
  obtain ⟨d, d2, r, h1, h2, h3, h4⟩ := gF h
  refine ⟨r, [], h4, .inl rfl, fun e t m n hs hm => nV (x := d) (y := d2) ?_ ?_ h3 ⟨rfl, rfl, rfl⟩⟩
  ·rw [← aO (x := x) fun s h => hs s (by simp [Cfg.seesI, h])]; exact h1
  ·rw [← aO (x := y) fun s h => hs s (by simp [Cfg.seesI, h])]; exact h2
 | un op x =>
  obtain ⟨d, r, h1, h2, h3⟩ := bV h
  exact ⟨r, [], h3, .inl rfl, fun e t m n hs hm => eV (by rw [← aO hs]; exact h1) h2 ⟨rfl, rfl, rfl⟩⟩
 | cv s0 d0 x =>
  obtain ⟨d, r, h1, h2, h3⟩ := bV h
  exact ⟨r, [], h3, .inl rfl, fun e t m n hs hm => eV (by rw [← aO hs]; exact h1) h2 ⟨rfl, rfl, rfl⟩⟩
 | fa off x =>
  obtain ⟨d, r, h1, h2, h3⟩ := bV h
  exact ⟨r, [], h3, .inl rfl, fun e t m n hs hm => eV (by rw [← aO hs]; exact h1) (C2 (hm _ (by simp [Cfg.lookO]) _ h1) h2) ⟨rfl, rfl, rfl⟩⟩
 | fld g k off x =>
  obtain ⟨d, r, h1, h2, h3⟩ := bV h
  exact ⟨r, [], h3, .inl rfl, fun e t m n hs hm => eV (by rw [← aO hs]; exact h1) h2 ⟨rfl, rfl, rfl⟩⟩
 | ia k x y =>
  obtain ⟨d, d2, r, h1, h2, h3, h4⟩ := gF h
  refine ⟨r, [], h4, .inl rfl, fun e t m n hs hm => nV (x := d) (y := d2) ?_ ?_ (NH (hm _ (by simp [Cfg.lookO]) _ h1) h3) ⟨rfl, rfl, rfl⟩⟩
  ·rw [← aO (x := x) fun s h => hs s (by simp [Cfg.seesI, h])]; exact h1
  ·rw [← aO (x := y) fun s h => hs s (by simp [Cfg.seesI, h])]; exact h2
 | ext j x =>
  obtain ⟨d, r, h1, h2, h3⟩ := bV h
  exact ⟨r, [], h3, .inl rfl, fun e t m n hs hm => eV (by rw [← aO hs]; exact h1) h2 ⟨rfl, rfl, rfl⟩⟩
 | len s0 x =>
  obtain ⟨d, r, h1, h2, h3⟩ := bV h
  exact ⟨r, [], h3, .inl rfl, fun e t m n hs hm => eV (by rw [← aO hs]; exact h1) (H6 (hm _ (by simp [Cfg.lookO]) _ h1) h2) ⟨rfl, rfl, rfl⟩⟩
 | bi b xs =>
  obtain ⟨d, r, h1, h2, h3⟩ := jC h
  exact ⟨r, [], h3, .inl rfl, fun e t m n hs _ => vO (by rw [← gH hs]; exact h1) h2 ⟨rfl, rfl, rfl⟩⟩
 | sls s0 k x lo hi =>
  obtain ⟨d, h1, h2⟩ := iH h
  refine ⟨d, [], h2, .inl rfl, fun e t m n hs hm => qI ?_ ⟨rfl, rfl, rfl⟩⟩
  have e1 : ro tl env x = ro t e x := aO fun s h => hs s (by simp [Cfg.seesI, h])
  have e2 : roo tl env lo = roo t e lo := by
   cases lo with
   | none => rfl
   | some l => simp only [roo]; rw [aO (x := l) fun s h => hs s (by simp [Cfg.seesI, h])]
  have e3 : roo tl env hi = roo t e hi := by
   cases hi with
   | none => rfl
   | some l => simp only [roo]; rw [aO (x := l) fun s h => hs s (by simp [Cfg.seesI, h])]
  rw [← e1, ← e2, ← e3]
  unfold slsO at h1 ⊢
  split at h1
  ·rename_i h4 _ _
   exact HX (hm x (by simp [Cfg.lookO]) _ h4) h1
  ·simp at h1
 | mkf f xs =>
  obtain ⟨d, r, h1, h2, h3⟩ := jC h
  exact ⟨r, [], h3, .inl rfl, fun e t m n hs _ => vO (by rw [← gH hs]; exact h1) h2 ⟨rfl, rfl, rfl⟩⟩
 | bxi x =>
  obtain ⟨d, r, h1, h2, h3⟩ := bV h
  exact ⟨r, [], h3, .inl rfl, fun e t m n hs hm => eV (by rw [← aO hs]; exact h1) h2 ⟨rfl, rfl, rfl⟩⟩
 | mki k bytes z x =>
  obtain ⟨d, r, h1, h2, h3⟩ := bV h
  exact ⟨r, [], h3, .inl rfl, fun e t m n hs hm => eV (by rw [← aO hs]; exact h1) h2 ⟨rfl, rfl, rfl⟩⟩
 | pc f xs =>
  obtain ⟨g, caps, ys, r, h1, h2, h3, h4, h5⟩ := wE h
  refine ⟨r, [], h5, .inl rfl, fun e t m n hs _ => ?_⟩
  show pcK C.P (ro t e f) (ros t e xs) m n _
  rw [← aO (x := f) fun s h => hs s (by simp [Cfg.seesI, h]), ← gH (xs := xs) fun s h => hs s (by simp only [Cfg.seesI, List.mem_append]; exact .inr h), h1, h2]
  exact ⟨r, h3, h4, rfl, rfl, rfl⟩
 | al z => exact ⟨_, [(id, .box (z.map .pl))], h, .inr ⟨⟨_, rfl⟩, rfl⟩, fun e t m n hs _ => ⟨rfl, rfl, rfl⟩⟩
 | bx x =>
  obtain ⟨d, m', h1, h2⟩ := dF h
  cases hd : ro tl env x with
  | none => simp [hd, bxM] at h1
  | some dd =>
   rw [hd] at h1
   simp only [bxM, Option.ite_none_right_eq_some, Option.some.injEq, Prod.mk.injEq] at h1
   obtain ⟨h3, rfl, rfl⟩ := h1
   refine ⟨_, [(id, .box dd.cells)], h2, .inr ⟨⟨_, rfl⟩, rfl⟩, fun e t m n hs _ => iA (d := .opt id 0) (m := (id, .box dd.cells) :: m) ?_ ⟨rfl, rfl, rfl⟩⟩
   rw [← aO (x := x) hs, hd]; simp [bxM, h3]
 | bso k len z ps =>
  obtain ⟨d, m', h1, h2⟩ := dF h
  cases hd : rps tl env ps with
  | none => simp [hd, rI] at h1
  | some dd =>
   rw [hd] at h1
   simp only [rI] at h1
   split at h1
   ·rename_i es hes
    simp only [Option.some.injEq, Prod.mk.injEq] at h1
    obtain ⟨rfl, rfl⟩ := h1
    refine ⟨_, [(id, .arr 0 k es)], h2, .inr ⟨⟨_, rfl⟩, rfl⟩, fun e t m n hs _ => iA (d := .osl id 0 0 len) (m := (id, .arr 0 k es) :: m) ?_ ⟨rfl, rfl, rfl⟩⟩
    rw [← nT (ps := ps) hs, hd]; simp [rI, hes]
   ·simp at h1
 | mks k bytes z x =>
  obtain ⟨d, m', h1, h2⟩ := dF h
  unfold mksM at h1
  split at h1
  ·rename_i n hro
   simp only [Option.ite_none_right_eq_some, Option.some.injEq, Prod.mk.injEq] at h1
   obtain ⟨h3, rfl, rfl⟩ := h1
   refine ⟨_, [(id, .arr 0 k (List.replicate n.toNat (z.map .pl)))], h2, .inr ⟨⟨_, rfl⟩, rfl⟩, fun e t m n' hs _ => iA (d := .osl id 0 0 n.toNat) (m := (id, .arr 0 k (List.replicate n.toNat (z.map .pl))) :: m) ?_ ⟨rfl, rfl, rfl⟩⟩
   rw [← aO (x := x) hs, hro]; simp only [mksM, h3, and_self, if_true]
  ·simp at h1
 | apn k bytes z x y =>
  obtain ⟨d, m', h1, h2⟩ := dF h
  cases hdx : ro tl env x with
  | none => simp [hdx, iK] at h1
  | some dx =>
   cases hdy : ro tl env y with
   | none => simp [hdx, hdy, iK] at h1
   | some dy =>
    rw [hdx, hdy] at h1
    simp only [iK, Option.ite_none_right_eq_some] at h1
    obtain ⟨h3, h1⟩ := h1
    split at h1
    ·rename_i es hes
     simp only [Option.ite_none_right_eq_some, Option.some.injEq, Prod.mk.injEq] at h1
     obtain ⟨h4, rfl, rfl⟩ := h1
     refine ⟨_, [(id, .arr 0 k es)], h2, .inr ⟨⟨_, rfl⟩, rfl⟩, fun e t m n hs hm => iA (d := .osl id 0 0 es.length) (m := (id, .arr 0 k es) :: m) ?_ ⟨rfl, rfl, rfl⟩⟩
     rw [← aO (x := x) fun s h => hs s (by simp [Cfg.seesI, h]), ← aO (x := y) fun s h => hs s (by simp [Cfg.seesI, h]), hdx, hdy]
     simp only [iK, h3, if_true, wD (hm _ (by simp [Cfg.lookO]) _ hdy) hes, h4]
    ·simp at h1
 | st _ _ _ => simp [I.free] at hf
 | sta _ _ _ _ => simp [I.free] at hf
 | app _ _ _ _ _ => simp [I.free] at hf
 | cl _ _ => simp [I.free] at hf
 | cln _ _ => simp [I.free] at hf
 | iaa len k x y =>
  obtain ⟨d, d2, r, h1, h2, h3, h4⟩ := gF h
  refine ⟨r, [], h4, .inl rfl, fun e t m n hs hm => nV (x := d) (y := d2) ?_ ?_ (IM (hm _ (by simp [Cfg.lookO]) _ h1) h3 (C2 (hm _ (by simp [Cfg.lookO]) _ h1))) ⟨rfl, rfl, rfl⟩⟩
  ·rw [← aO (x := x) fun s h => hs s (by simp [Cfg.seesI, h])]; exact h1
  ·rw [← aO (x := y) fun s h => hs s (by simp [Cfg.seesI, h])]; exact h2
 | ixs x y =>
  obtain ⟨d, d2, r, h1, h2, h3, h4⟩ := gF h
  refine ⟨r, [], h4, .inl rfl, fun e t m n hs hm => nV (x := d) (y := d2) ?_ ?_ h3 ⟨rfl, rfl, rfl⟩⟩
  ·rw [← aO (x := x) fun s h => hs s (by simp [Cfg.seesI, h])]; exact h1
  ·rw [← aO (x := y) fun s h => hs s (by simp [Cfg.seesI, h])]; exact h2
 | lk kd z two x y =>
  obtain ⟨d, d2, r, h1, h2, h3, h4⟩ := gF h
  refine ⟨r, [], h4, .inl rfl, fun e t m n hs hm => nV (x := d) (y := d2) ?_ ?_ (LI (hm _ (by simp [Cfg.lookO]) _ h1) h3) ⟨rfl, rfl, rfl⟩⟩
  ·rw [← aO (x := x) fun s h => hs s (by simp [Cfg.seesI, h])]; exact h1
  ·rw [← aO (x := y) fun s h => hs s (by simp [Cfg.seesI, h])]; exact h2
 | lnm x =>
  obtain ⟨d, r, h1, h2, h3⟩ := bV h
  exact ⟨r, [], h3, .inl rfl, fun e t m n hs hm => eV (by rw [← aO hs]; exact h1) (I0 (hm _ (by simp [Cfg.lookO]) _ h1) h2) ⟨rfl, rfl, rfl⟩⟩
 | ldp g k x =>
  obtain ⟨d, r, h1, h2, h3⟩ := bV h
  exact ⟨r, [], h3, .inl rfl, fun e t m n hs hm => eV (by rw [← aO hs]; exact h1) h2 ⟨rfl, rfl, rfl⟩⟩
 | fap off x =>
  obtain ⟨d, r, h1, h2, h3⟩ := bV h
  exact ⟨r, [], h3, .inl rfl, fun e t m n hs hm => eV (by rw [← aO hs]; exact h1) h2 ⟨rfl, rfl, rfl⟩⟩
 | mkm => exact ⟨_, [(id, .map [])], h, .inr ⟨⟨_, rfl⟩, rfl⟩, fun e t m n hs _ => ⟨rfl, rfl, rfl⟩⟩
 | mup _ _ _ _ => simp [I.free] at hf
 | cvo _ => simp [I.free] at hf
theorem CA {o : Option D} {K K' : KD} (h : k0 o mem nx K) (hk : ∀ d m n, K d m n → K' d m n) : k0 o mem nx K' := by
 obtain ⟨d, h1, h2⟩ := iH h; exact qI h1 (hk _ _ _ h2)
theorem eS {o : Option D} {g : D → Option D} {K K' : KD} (h : k1 o g mem nx K) (hk : ∀ d m n, K d m n → K' d m n) : k1 o g mem nx K' := by
 obtain ⟨x, d, h1, h2, h3⟩ := bV h; exact eV h1 h2 (hk _ _ _ h3)
theorem oU {o p : Option D} {g : D → D → Option D} {K K' : KD} (h : k2 o p g mem nx K) (hk : ∀ d m n, K d m n → K' d m n) : k2 o p g mem nx K' := by
 obtain ⟨x, y, d, h1, h2, h3, h4⟩ := gF h; exact nV h1 h2 h3 (hk _ _ _ h4)
theorem sO {α : Type} {o : Option α} {g : α → Option D} {K K' : KD} (h : kl o g mem nx K) (hk : ∀ d m n, K d m n → K' d m n) : kl o g mem nx K' := by
 obtain ⟨x, d, h1, h2, h3⟩ := jC h; exact vO h1 h2 (hk _ _ _ h3)
theorem iS {o : Option (D × Mem)} {K K' : KD} (h : km o nx K) (hk : ∀ d m n, K d m n → K' d m n) : km o nx K' := by
 obtain ⟨d, m, h1, h2⟩ := dF h; exact iA h1 (hk _ _ _ h2)
theorem iV {P : Program} {f : FuncId} {xs : List D} {K K' : KD} (h : bO P f xs mem nx K) (hk : ∀ d m n, K d m n → K' d m n) : bO P f xs mem nx K' :=
 ⟨h.1, fun S φ w ys h1 h2 => (h.2 S φ w ys h1 h2).mono fun e w' ⟨v, d, m', n', S', φ', g1, g2, g3⟩ => ⟨v, d, m', n', S', φ', g1, hk _ _ _ g2, g3⟩⟩
theorem dA {i : I} {K K' : KD} (h : aX C id i env tl mem nx K) (hk : ∀ d m n, K d m n → K' d m n) : aX C id i env tl mem nx K' := by
 cases i with
 | pc f xs =>
  obtain ⟨g, caps, ys, r, h1, h2, h3, h4, h5⟩ := wE h
  show pcK C.P _ _ _ _ _
  rw [h1, h2]; exact ⟨r, h3, h4, hk _ _ _ h5⟩
 | cl f xs =>
  obtain ⟨g, caps, ys, h1, h2, h3⟩ := kU h
  show clK C.P _ _ _ _ _
  rw [h1, h2]; exact iV h3 hk
 | cln f xs =>
  obtain ⟨g, caps, ys, h1, h2, h3⟩ := kU h
  show clK C.P _ _ _ _ _
  rw [h1, h2]; exact iV h3 fun d m n h => ⟨h.1, hk _ _ _ h.2⟩
 | z0 => exact hk _ _ _ h
 | al z => exact hk _ _ _ h
 | mv _ => exact CA h hk
 | sls _ _ _ _ _ => exact CA h hk
 | pick _ _ _ => exact eS h hk
 | ld _ _ _ => exact eS h hk
 | chk _ => exact eS h hk
 | un _ _ => exact eS h hk
 | cv _ _ _ => exact eS h hk
 | fa _ _ => exact eS h hk
 | fld _ _ _ _ => exact eS h hk
 | ext _ _ => exact eS h hk
 | len _ _ => exact eS h hk
 | bxi _ => exact eS h hk
 | mki _ _ _ _ => exact eS h hk
 | bin _ _ _ _ => exact oU h hk
 | ia _ _ _ => exact oU h hk
 | bld _ _ => exact sO h hk
 | bsl _ _ _ _ => exact sO h hk
 | bi _ _ => exact sO h hk
 | mkf _ _ => exact sO h hk
 | bx _ => exact iS h hk
 | bso _ _ _ _ => exact iS h hk
 | mks _ _ _ _ => exact iS h hk
 | apn _ _ _ _ _ => exact iS h hk
 | st _ _ _ => exact iS h hk
 | sta _ _ _ _ => exact iS h hk
 | app _ _ _ _ _ => exact iS h hk
 | iaa _ _ _ _ => exact oU h hk
 | ixs _ _ => exact oU h hk
 | lk _ _ _ _ _ => exact oU h hk
 | lnm _ => exact eS h hk
 | ldp _ _ _ => exact eS h hk
 | fap _ _ => exact eS h hk
 | mkm => exact hk _ _ _ h
 | mup _ _ _ _ => exact iS h hk
 | cvo _ => exact iS h hk
structure Oc where
 d : D
 ext : Mem
instance : Inhabited Oc := ⟨⟨.top, []⟩⟩
def putE : Dst → D → Env → Env
 | .g j, v, e => upd e j v
 | _, _, e => e
def putT : Dst → D → Env → Env
 | .t j, v, e => (j, v) :: e
 | _, _, e => e
theorem aT {d : Dst} {v : D} {go : Env → Env → Mem → Nat → Prop} : eE d env tl go v mem nx = go (putE d v env) (putT d v tl) mem nx := by
 cases d <;> rfl
theorem t8 {α : Type} (j : Nat) (d : α) : ∀ (e : List (Nat × α)), look e j = some d → upd e j d = e
 | [], _ => rfl
 | (k, x) :: e, h => by
  simp only [look] at h
  simp only [upd]
  by_cases hk : k = j
  ·simp only [hk, if_true, Option.some.injEq] at h ⊢; rw [h]
  ·simp only [hk, if_false] at h ⊢; rw [t8 j d e h]
theorem dU {g : Opd} {b : Bool} (h : ro tl env g = some (.pl (.bool b))) : jN b env g = env ∧ jM b tl g = tl := by
 cases g with
 | t j => exact ⟨rfl, t8 j _ tl h⟩
 | g j => exact ⟨t8 j _ env h, rfl⟩
 | _ => exact ⟨rfl, rfl⟩
theorem k_ {base : Nat} {x : Ins} {j : Nat} {go : Env → Env → Mem → Nat → Prop} (hf : x.i.free = true) (h : One C base x j env tl mem nx go) :
  ∃ oc : Oc, go (putE x.dst oc.d env) (putT x.dst oc.d tl) (oc.ext ++ mem) nx ∧ (oc.ext = [] ∨ (∃ b, oc.ext = [(base + j, b)]) ∧ Cfg.makesI x.i = true) ∧
  ∀ env2 tl2 mem2 nx2 (go2 : Env → Env → Mem → Nat → Prop), (∀ s ∈ Cfg.sees x, look env s = look env2 s ∧ look tl s = look tl2 s) → (∀ p ∈ Cfg.lookO x.i, ∀ d, ro tl env p = some d → kN d mem mem2) →
   go2 (putE x.dst oc.d env2) (putT x.dst oc.d tl2) (oc.ext ++ mem2) nx2 → One C base x j env2 tl2 mem2 nx2 go2 := by
 obtain ⟨d, g, i⟩ := x
 cases g with
 | none =>
  obtain ⟨r, ext, h1, h2, h3⟩ := tR hf h
  rw [aT] at h1
  refine ⟨⟨r, ext⟩, h1, h2, fun e t m n go2 hs hm hgo => ?_⟩
  refine dA (h3 e t m n (fun s hs' => hs s (by simpa [Cfg.sees] using hs')) hm) ?_
  rintro d' m' n' ⟨rfl, rfl, rfl⟩
  rw [aT]; exact hgo
 | some p =>
  obtain ⟨g, want⟩ := p
  simp only [One, gd] at h
  split at h
  ·rename_i b hro
   by_cases hb : b = want
   ·subst hb
    obtain ⟨s1, s2⟩ := dU hro
    have h0 := h.1 rfl
    rw [s1, s2] at h0
    obtain ⟨r, ext, h1, h2, h3⟩ := tR hf h0
    rw [aT] at h1
    refine ⟨⟨r, ext⟩, h1, h2, fun e t m n go2 hs hm hgo => ?_⟩
    have hro2 : ro t e g = some (.pl (.bool b)) := by rw [← aO (x := g) fun s h => hs s (by simp [Cfg.sees, h])]; exact hro
    obtain ⟨s3, s4⟩ := dU hro2
    simp only [One, gd, hro2]
    refine ⟨fun _ => ?_, fun hn => by cases b <;> simp at hn⟩
    rw [s3, s4]
    refine dA (h3 e t m n (fun s hs' => hs s (by simp [Cfg.sees, hs'])) hm) ?_
    rintro d' m' n' ⟨rfl, rfl, rfl⟩
    rw [aT]; exact hgo
   ·have hbn : b = !want := by cases b <;> cases want <;> simp_all
    obtain ⟨s1, s2⟩ := dU hro
    have h0 := h.2 hbn
    rw [← hbn, s1, s2, aT] at h0
    refine ⟨⟨.pl undef, []⟩, h0, .inl rfl, fun e t m n go2 hs hm hgo => ?_⟩
    have hro2 : ro t e g = some (.pl (.bool b)) := by rw [← aO (x := g) fun s h => hs s (by simp [Cfg.sees, h])]; exact hro
    obtain ⟨s3, s4⟩ := dU hro2
    simp only [One, gd, hro2]
    refine ⟨fun h => absurd h hb, fun _ => ?_⟩
    rw [← hbn, s3, s4, aT]; exact hgo
  ·rename_i vs hro
   rw [aT] at h
   refine ⟨⟨.pl undef, []⟩, h, .inl rfl, fun e t m n go2 hs hm hgo => ?_⟩
   have hro2 : ro t e g = some (.pl (.tuple vs)) := by rw [← aO (x := g) fun s h => hs s (by simp [Cfg.sees, h])]; exact hro
   simp only [One, gd, hro2]
   rw [aT]; exact hgo
  ·exact h.elim
end
section
variable {C : Cfg} {w w' : World} {S S' : Nat → Prop} {φ φ' : bA} {a : Act} {env tl env2 tl2 : Env} {mem mem2 : Mem} {nx nx2 id base : Nat}
theorem pX {d : Dst} {v : D} {e : Env} {t : Nat} (h : d ≠ .g t) : look (putE d v e) t = look e t := by
 cases d with
 | g j => simp only [putE]; exact bC _ (fun e => h (by rw [e])) _
 | _ => rfl
theorem mR {d : Dst} {v : D} {e : Env} {t : Nat} (h : d ≠ .t t) : look (putT d v e) t = look e t := by
 cases d with
 | t j => simp only [putT, look]; rw [if_neg (fun e => h (by rw [e]))]
 | _ => rfl
theorem c_ {α : Type} (j : Nat) (v : α) : ∀ (e : List (Nat × α)), look (upd e j v) j = (look e j).map fun _ => v
 | [] => rfl
 | (k, x) :: e => by
  by_cases hk : k = j
  ·simp [upd, look, hk]
  ·simp [upd, look, hk, c_ j v e]
def Lk {α : Type} (e e2 : List (Nat × α)) : Prop := ∀ t, look e t = look e2 t
theorem Lk.refl {α : Type} (e : List (Nat × α)) : Lk e e := fun _ => rfl
theorem Lk.symm {α : Type} {e e2 : List (Nat × α)} (h : Lk e e2) : Lk e2 e := fun t => (h t).symm
theorem Lk.trans {α : Type} {e e2 e3 : List (Nat × α)} (h : Lk e e2) (k : Lk e2 e3) : Lk e e3 := fun t => (h t).trans (k t)
theorem Lk.upd {α : Type} {e e2 : List (Nat × α)} (h : Lk e e2) (j : Nat) (v : α) : Lk (upd e j v) (upd e2 j v) := fun t => by
 by_cases ht : t = j
 ·subst ht; rw [c_, c_, h]
 ·rw [bC _ ht, bC _ ht, h]
theorem Lk.cons {α : Type} {e e2 : List (Nat × α)} (h : Lk e e2) (x : Nat × α) : Lk (x :: e) (x :: e2) := fun t => by
 obtain ⟨k, v⟩ := x
 simp only [look]; rw [h]
theorem Lk.app {α : Type} {e e2 : List (Nat × α)} (h : Lk e e2) : ∀ (x : List (Nat × α)), Lk (x ++ e) (x ++ e2)
 | [] => h
 | y :: x => (Lk.app h x).cons y
theorem Lk.putE {e e2 : Env} (h : Lk e e2) (d : Dst) (v : D) : Lk (putE d v e) (putE d v e2) := by
 cases d with
 | g j => exact h.upd j v
 | _ => exact h
theorem Lk.putT {e e2 : Env} (h : Lk e e2) (d : Dst) (v : D) : Lk (putT d v e) (putT d v e2) := by
 cases d with
 | t j => exact h.cons _
 | _ => exact h
theorem Lk.sub {m m2 : Mem} (h : Lk m m2) : Sub m m2 := fun i b hb => by rw [← h]; exact hb
theorem fM {d d2 : Dst} {v v2 : D} {e : Env} (h : ∀ t ∈ Cfg.dstO d, t ∉ Cfg.dstO d2) : Lk (putE d v (putE d2 v2 e)) (putE d2 v2 (putE d v e)) := by
 cases d with
 | g j =>
  cases d2 with
  | g k =>
   have hne : j ≠ k := fun e => h j (by simp [Cfg.dstO]) (by simp [Cfg.dstO, e])
   intro t
   simp only [Go.Fx.putE]
   by_cases h1 : t = j
   ·subst h1; rw [c_, bC _ hne, bC _ hne, c_]
   ·rw [bC _ h1]
    by_cases h2 : t = k
    ·subst h2; rw [c_, c_, bC _ h1]
    ·rw [bC _ h2, bC _ h2, bC _ h1]
  | _ => exact Lk.refl _
 | _ => exact Lk.refl _
theorem fU {d d2 : Dst} {v v2 : D} {e : Env} (h : ∀ t ∈ Cfg.dstO d, t ∉ Cfg.dstO d2) : Lk (putT d v (putT d2 v2 e)) (putT d2 v2 (putT d v e)) := by
 cases d with
 | t j =>
  cases d2 with
  | t k =>
   have hne : j ≠ k := fun e => h j (by simp [Cfg.dstO]) (by simp [Cfg.dstO, e])
   intro t
   simp only [Go.Fx.putT, look]
   by_cases h1 : j = t
   ·subst h1; rw [if_pos rfl, if_neg (fun e => hne e.symm), if_pos rfl]
   ·rw [if_neg h1, if_neg h1]
  | _ => exact Lk.refl _
 | _ => exact Lk.refl _
abbrev Go4 := Env → Env → Mem → Nat → Prop
def Inv (go : Go4) : Prop := ∀ e t m n e2 t2 m2, Lk e e2 → Lk t t2 → Lk m m2 → go e t m n → go e2 t2 m2 n
abbrev I.call : I → Bool := Cfg.callI
theorem wrc_lk {n : Nat} {x : D} {new : List D} {m : Mem} (h : wrc mem n x new = some m) (hm : Lk mem mem2) : ∃ m2, wrc mem2 n x new = some m2 ∧ Lk m m2 := by
 cases x with
 | opt id off =>
  simp only [wrc] at h ⊢
  split at h
  ·rename_i hc
   rw [if_pos hc, ← hm]
   split at h
   ·split at h
    ·rename_i h2
     rw [if_pos h2]
     simp only [Option.some.injEq] at h; subst h
     exact ⟨_, rfl, hm.upd _ _⟩
    ·simp at h
   ·simp at h
  ·simp at h
 | oel id ver i off =>
  simp only [wrc] at h ⊢
  split at h
  ·rename_i hc
   rw [if_pos hc, ← hm]
   split at h
   ·split at h
    ·rename_i h2
     rw [if_pos h2]
     split at h
     ·split at h
      ·rename_i h3
       rw [if_pos h3]
       simp only [Option.some.injEq] at h; subst h
       exact ⟨_, rfl, hm.upd _ _⟩
      ·simp at h
     ·simp at h
    ·simp at h
   ·simp at h
  ·simp at h
 | _ => simp [wrc] at h
theorem MO {k b : Nat} {x y : Option D} {d : D} {m : Mem} (h : iK id mem k b x y = some (d, m)) (hm : Lk mem mem2) : ∃ m2, iK id mem2 k b x y = some (d, m2) ∧ Lk m m2 := by
 unfold iK at h ⊢
 split at h
 ·split at h
  ·rename_i hr
   rw [if_pos hr]
   split at h
   ·rename_i he
    rw [wD (hm.sub.at _) he]
    simp only at h ⊢
    split at h
    ·rename_i hb
     rw [if_pos hb]
     simp only [Option.some.injEq, Prod.mk.injEq] at h
     obtain ⟨rfl, rfl⟩ := h
     exact ⟨_, rfl, hm.cons _⟩
    ·simp at h
   ·simp at h
  ·simp at h
 ·simp at h
theorem NG {k b : Nat} {x y : Option D} {d : D} {m : Mem} (h : oR id mem k b x y = some (d, m)) (hm : Lk mem mem2) : ∃ m2, oR id mem2 k b x y = some (d, m2) ∧ Lk m m2 := by
 unfold oR at h ⊢
 split at h
 ·rename_i i ver lo n y
  split at h
  ·rename_i h1 h2
   rw [← hm, h1, wD (hm.sub.at _) h2]
   simp only
   split at h
   ·rename_i h3
    rw [if_pos h3]
    simp only [Option.some.injEq, Prod.mk.injEq] at h
    obtain ⟨rfl, rfl⟩ := h
    exact ⟨_, rfl, hm.upd _ _⟩
   ·simp at h
  ·simp at h
 ·exact MO h hm
theorem GR {n : Nat} {x y : Option D} {d : D} {m : Mem} (h : stM mem n x y = some (d, m)) (hm : Lk mem mem2) : ∃ m2, stM mem2 n x y = some (d, m2) ∧ Lk m m2 := by
 unfold stM at h ⊢
 split at h
 ·split at h
  ·rename_i hw
   simp only [Option.some.injEq, Prod.mk.injEq] at h
   obtain ⟨rfl, rfl⟩ := h
   obtain ⟨m2, h1, h2⟩ := wrc_lk hw hm
   rw [h1]; exact ⟨m2, rfl, h2⟩
  ·simp at h
 ·simp at h
theorem MI {x : Option D} {d : D} {m : Mem} (h : rZ mem x = some (d, m)) (hm : Lk mem mem2) : ∃ m2, rZ mem2 x = some (d, m2) ∧ Lk m m2 := by
 unfold rZ at h ⊢
 split at h
 ·split at h
  ·rename_i hl
   rw [← hm, hl]
   simp only at h ⊢
   split at h
   ·rename_i hc
    rw [if_pos hc]
    simp only [Option.some.injEq, Prod.mk.injEq] at h
    obtain ⟨rfl, rfl⟩ := h
    exact ⟨_, rfl, hm.upd _ _⟩
   ·simp at h
  ·simp at h
 ·simp at h
theorem NA {kd : Option IntKind} {x y v : Option D} {d : D} {m : Mem} (h : nP mem kd x y v = some (d, m)) (hm : Lk mem mem2) : ∃ m2, nP mem2 kd x y v = some (d, m2) ∧ Lk m m2 := by
 unfold nP at h ⊢
 split at h
 ·split at h
  ·rename_i hl
   rw [← hm, hl]
   simp only at h ⊢
   split at h
   ·rename_i hc
    rw [if_pos hc]
    simp only [Option.some.injEq, Prod.mk.injEq] at h
    obtain ⟨rfl, rfl⟩ := h
    exact ⟨_, rfl, hm.upd _ _⟩
   ·simp at h
  ·simp at h
 ·simp at h
theorem H2 {n : Nat} {x : D} {new : List D} {m : Mem} (h : wrc mem n x new = some m) : ∃ i b b', x.hd = some i ∧ look mem i = some b ∧ m = upd mem i b' ∧ ∀ mem2, look mem2 i = some b → wrc mem2 n x new = some (upd mem2 i b') := by
 cases x with
 | opt id off =>
  simp only [wrc] at h ⊢
  split at h
  ·rename_i hc
   split at h
   ·rename_i cs hl
    split at h
    ·rename_i h2
     simp only [Option.some.injEq] at h; subst h
     exact ⟨id, _, _, rfl, hl, rfl, fun mem2 hl2 => by rw [if_pos hc, hl2]; simp only; rw [if_pos h2]⟩
    ·simp at h
   ·simp at h
  ·simp at h
 | oel id ver i off =>
  simp only [wrc] at h ⊢
  split at h
  ·rename_i hc
   split at h
   ·rename_i v k es hl
    split at h
    ·rename_i h2
     split at h
     ·rename_i e he
      split at h
      ·rename_i h3
       simp only [Option.some.injEq] at h; subst h
       exact ⟨id, _, _, rfl, hl, rfl, fun mem2 hl2 => by rw [if_pos hc, hl2]; simp only; rw [if_pos h2, he]; simp only; rw [if_pos h3]⟩
      ·simp at h
     ·simp at h
    ·simp at h
   ·simp at h
  ·simp at h
 | _ => simp [wrc] at h
theorem BQ {n : Nat} {a y : Option D} {d : D} {m : Mem} (h : stM mem n a y = some (d, m)) : ∃ x i b b', a = some x ∧ x.hd = some i ∧ look mem i = some b ∧ m = upd mem i b' ∧ ∀ mem2, look mem2 i = some b → stM mem2 n a y = some (d, upd mem2 i b') := by
 unfold stM at h ⊢
 split at h
 ·rename_i a0 y0
  split at h
  ·rename_i m0 hw
   simp only [Option.some.injEq, Prod.mk.injEq] at h
   obtain ⟨rfl, rfl⟩ := h
   obtain ⟨i, b, b', h1, h2, h3, h4⟩ := H2 hw
   exact ⟨_, i, b, b', rfl, h1, h2, h3, fun mem2 h => by rw [h4 mem2 h]⟩
  ·simp at h
 ·simp at h
theorem upd_comm {α : Type} {i j : Nat} {x y : α} (h : i ≠ j) (m : List (Nat × α)) : Lk (upd (upd m i x) j y) (upd (upd m j y) i x) := fun t => by
 by_cases h1 : t = i
 ·subst h1; rw [bC _ h, c_, c_, bC _ h]
 ·by_cases h2 : t = j
  ·subst h2; rw [c_, bC _ h1, bC _ h1, c_]
  ·rw [bC _ h2, bC _ h1, bC _ h1, bC _ h2]
theorem rU {i : I} {K : KD} (hf : i.free = false) (hc : i.call = false) (h : aX C id i env tl mem nx K) : ∃ d m, K d m nx ∧
  ∀ env2 tl2 mem2 nx2, (∀ s ∈ Cfg.seesI i, look env s = look env2 s ∧ look tl s = look tl2 s) → Lk mem mem2 → ∃ m2, Lk m m2 ∧ aX C id i env2 tl2 mem2 nx2 (Sg d m2 nx2) := by
 cases i with
 | st n x y =>
  obtain ⟨d, m, h1, h2⟩ := dF h
  refine ⟨d, m, h2, fun e t m2 n2 hs hm => ?_⟩
  rw [aO (x := x) fun s h => hs s (by simp [Cfg.seesI, h]), aO (x := y) fun s h => hs s (by simp [Cfg.seesI, h])] at h1
  obtain ⟨m', g1, g2⟩ := GR h1 hm
  exact ⟨m', g2, iA g1 ⟨rfl, rfl, rfl⟩⟩
 | sta n x y ps =>
  obtain ⟨d, m, h1, h2⟩ := dF h
  refine ⟨d, m, h2, fun e t m2 n2 hs hm => ?_⟩
  rw [aO (x := x) fun s h => hs s (by simp [Cfg.seesI, h]), aO (x := y) fun s h => hs s (by simp [Cfg.seesI, h]), gH (xs := ps) fun s h => hs s (by simp only [Cfg.seesI, List.mem_append]; exact .inr h)] at h1
  unfold pZ at h1
  split at h1
  ·rename_i hap
   obtain ⟨m', g1, g2⟩ := GR h1 hm
   exact ⟨m', g2, iA (by unfold pZ; rw [if_pos hap]; exact g1) ⟨rfl, rfl, rfl⟩⟩
  ·simp at h1
 | app k b z x y =>
  obtain ⟨d, m, h1, h2⟩ := dF h
  refine ⟨d, m, h2, fun e t m2 n2 hs hm => ?_⟩
  rw [aO (x := x) fun s h => hs s (by simp [Cfg.seesI, h]), aO (x := y) fun s h => hs s (by simp [Cfg.seesI, h])] at h1
  obtain ⟨m', g1, g2⟩ := NG h1 hm
  exact ⟨m', g2, iA g1 ⟨rfl, rfl, rfl⟩⟩
 | cvo x =>
  obtain ⟨d, m, h1, h2⟩ := dF h
  refine ⟨d, m, h2, fun e t m2 n2 hs hm => ?_⟩
  rw [aO (x := x) fun s h => hs s (by simp [Cfg.seesI, h])] at h1
  obtain ⟨m', g1, g2⟩ := MI h1 hm
  exact ⟨m', g2, iA g1 ⟨rfl, rfl, rfl⟩⟩
 | mup kd x y v =>
  obtain ⟨d, m, h1, h2⟩ := dF h
  refine ⟨d, m, h2, fun e t m2 n2 hs hm => ?_⟩
  rw [aO (x := x) fun s h => hs s (by simp [Cfg.seesI, h]), aO (x := y) fun s h => hs s (by simp [Cfg.seesI, h]), aO (x := v) fun s h => hs s (by simp [Cfg.seesI, h])] at h1
  obtain ⟨m', g1, g2⟩ := NA h1 hm
  exact ⟨m', g2, iA g1 ⟨rfl, rfl, rfl⟩⟩
 | cl _ _ => simp [I.call, Cfg.callI] at hc
 | cln _ _ => simp [I.call, Cfg.callI] at hc
 | _ => simp [I.free] at hf
theorem CW (hm : Lk mem mem2) (h : MSim S φ mem nx w) : MSim S φ mem2 nx w := ⟨fun i b hi => h.mem i b (by rw [hm]; exact hi), h.inj, h.lt, h.fresh, h.sub⟩
theorem zA {P : Program} {f : FuncId} {xs : List D} {K : KD} (hm : Lk mem mem2) (h : bO P f xs mem nx K) : bO P f xs mem2 nx K :=
 ⟨h.1, fun S φ w ys h1 h2 => (h.2 S φ w ys (CW hm.symm h1) h2).mono fun e w' ⟨v, d, m', n', S', φ', g1, g2, g3, g4, g5, g6, g7, g8⟩ =>
  ⟨v, d, m', n', S', φ', g1, g2, g3, g4, g5, g6, ⟨g7.sub, fun b hb ho => g7.keep b hb fun ⟨i, blk, l, k1, k2⟩ => ho ⟨i, blk, l, by rw [← hm]; exact k1, k2⟩, g7.size,
   fun b hb ho => let ⟨i, blk, l, k1, k2⟩ := g7.own b hb ho; ⟨i, blk, l, by rw [← hm]; exact k1, k2⟩,
   fun b hb => (g7.news b hb).imp id fun h => h.imp id fun ⟨i, blk, l, k1, k2⟩ => ⟨i, blk, l, by rw [← hm]; exact k1, k2⟩, g7.os, g7.output, g7.tape⟩, g8⟩⟩
theorem AE {i : I} {K K2 : KD} (hs : ∀ s ∈ Cfg.seesI i, look env s = look env2 s ∧ look tl s = look tl2 s) (hm : Lk mem mem2) (hk : ∀ d m m2 n, Lk m m2 → K d m n → K2 d m2 n)
  (h : aX C id i env tl mem nx K) : aX C id i env2 tl2 mem2 nx K2 := by
 cases hf : i.free with
 | true =>
  obtain ⟨d, ext, h1, h2, h3⟩ := tR hf h
  refine dA (h3 env2 tl2 mem2 nx hs fun _ _ _ _ => hm.sub.at _) ?_
  rintro d' m' n' ⟨rfl, rfl, rfl⟩
  exact hk _ _ _ _ (hm.app ext) h1
 | false =>
  cases hc : i.call with
  | false =>
   obtain ⟨d, m, h1, h2⟩ := rU hf hc h
   obtain ⟨m2, h3, h4⟩ := h2 env2 tl2 mem2 nx hs hm
   refine dA h4 ?_
   rintro d' m' n' ⟨rfl, rfl, rfl⟩
   exact hk _ _ _ _ h3 h1
  | true =>
   cases i with
   | cl f xs =>
    obtain ⟨g, caps, ys, h1, h2, h3⟩ := kU h
    show clK C.P _ _ _ _ _
    rw [aO (x := f) fun s h => hs s (by simp [Cfg.seesI, h])] at h1
    rw [gH (xs := xs) fun s h => hs s (by simp only [Cfg.seesI, List.mem_append]; exact .inr h)] at h2
    rw [h1, h2]
    exact iV (zA hm h3) fun d m n hd => hk _ _ _ _ (Lk.refl m) hd
   | cln f xs =>
    obtain ⟨g, caps, ys, h1, h2, h3⟩ := kU h
    show clK C.P _ _ _ _ _
    rw [aO (x := f) fun s h => hs s (by simp [Cfg.seesI, h])] at h1
    rw [gH (xs := xs) fun s h => hs s (by simp only [Cfg.seesI, List.mem_append]; exact .inr h)] at h2
    rw [h1, h2]
    exact iV (zA hm h3) fun d m n hd => ⟨fun i b hb => hd.1 i b (by rw [hm]; exact hb), hk _ _ _ _ (Lk.refl m) hd.2⟩
   | _ => simp [I.call, Cfg.callI] at hc
theorem rO {x : Ins} {j : Nat} {go go2 : Go4} (hs : ∀ s ∈ Cfg.sees x, look env s = look env2 s ∧ look tl s = look tl2 s) (hm : Lk mem mem2)
  (hgo : ∀ d m m2 n, Lk m m2 → go (putE x.dst d env) (putT x.dst d tl) m n → go2 (putE x.dst d env2) (putT x.dst d tl2) m2 n) (h : One C base x j env tl mem nx go) : One C base x j env2 tl2 mem2 nx go2 := by
 obtain ⟨d, g, i⟩ := x
 cases g with
 | none =>
  exact AE (fun s h => hs s (by simp [Cfg.sees, h])) hm (fun v m m2 n h1 h2 => by rw [aT] at h2 ⊢; exact hgo _ _ _ _ h1 h2) h
 | some p =>
  obtain ⟨g, want⟩ := p
  have hro : ro tl env g = ro tl2 env2 g := aO fun s h => hs s (by simp [Cfg.sees, h])
  simp only [One, gd] at h ⊢
  rw [← hro]
  split at h
  ·rename_i b hb
   obtain ⟨s1, s2⟩ := dU hb
   have hb2 := hb
   rw [hro] at hb2
   obtain ⟨s3, s4⟩ := dU hb2
   refine ⟨fun e => ?_, fun e => ?_⟩
   ·have h1 := h.1 e
    subst e
    rw [s1, s2] at h1; rw [s3, s4]
    exact AE (fun s h => hs s (by simp [Cfg.sees, h])) hm (fun v m m2 n h1 h2 => by rw [aT] at h2 ⊢; exact hgo _ _ _ _ h1 h2) h1
   ·have h1 := h.2 e
    rw [← e, s1, s2, aT] at h1
    rw [← e, s3, s4, aT]
    exact hgo _ _ _ _ hm h1
  ·rename_i vs hb
   rw [aT] at h ⊢
   exact hgo _ _ _ _ hm h
  ·exact h.elim
theorem zO {x : Ins} {j : Nat} {go go2 : Go4} (hgo : ∀ e t m n, go e t m n → go2 e t m n) (h : One C base x j env tl mem nx go) : One C base x j env tl mem nx go2 := by
 obtain ⟨d, g, i⟩ := x
 cases g with
 | none => exact dA h fun v m n h => by rw [aT] at h ⊢; exact hgo _ _ _ _ h
 | some p =>
  obtain ⟨g, want⟩ := p
  simp only [One, gd] at h ⊢
  split at h
  ·exact ⟨fun e => dA (h.1 e) fun v m n h => by rw [aT] at h ⊢; exact hgo _ _ _ _ h, fun e => by have := h.2 e; rw [aT] at this ⊢; exact hgo _ _ _ _ this⟩
  ·rw [aT] at h ⊢; exact hgo _ _ _ _ h
  ·exact h.elim
theorem DD {x : Ins} {j : Nat} {go : Go4} (hg : Inv go) : Inv (fun e t m n => One C base x j e t m n go) := fun e t m n e2 t2 m2 he ht hm h =>
 rO (fun s _ => ⟨he s, ht s⟩) hm (fun d m m2 n h1 h2 => hg _ _ _ _ _ _ _ (he.putE _ _) (ht.putT _ _) h1 h2) h
theorem write_one' {x : Ins} {j : Nat} {go : Go4} (hf : x.i.free = false) (hc : x.i.call = false) (h : One C base x j env tl mem nx go) : ∃ d m, go (putE x.dst d env) (putT x.dst d tl) m nx ∧
  ∀ env2 tl2 nx2 (go2 : Go4), (∀ s ∈ Cfg.sees x, look env s = look env2 s ∧ look tl s = look tl2 s) → (∀ m2, Lk m m2 → go2 (putE x.dst d env2) (putT x.dst d tl2) m2 nx2) → One C base x j env2 tl2 mem nx2 go2 := by
 obtain ⟨d, g, i⟩ := x
 cases g with
 | none =>
  obtain ⟨v, m, h1, h2⟩ := rU hf hc h
  rw [aT] at h1
  refine ⟨v, m, h1, fun e t n go2 hs hg => ?_⟩
  obtain ⟨m2, h3, h4⟩ := h2 e t mem n (fun s h => hs s (by simp [Cfg.sees, h])) (Lk.refl _)
  refine dA h4 ?_
  rintro d' m' n' ⟨rfl, rfl, rfl⟩
  rw [aT]; exact hg _ h3
 | some p =>
  obtain ⟨g, want⟩ := p
  simp only [One, gd] at h
  split at h
  ·rename_i b hb
   obtain ⟨s1, s2⟩ := dU hb
   by_cases hbw : b = want
   ·have h1 := h.1 hbw
    subst hbw
    rw [s1, s2] at h1
    obtain ⟨v, m, h1, h2⟩ := rU hf hc h1
    rw [aT] at h1
    refine ⟨v, m, h1, fun e t n go2 hs hg => ?_⟩
    have hro2 : ro t e g = some (.pl (.bool b)) := by rw [← aO (x := g) fun s h => hs s (by simp [Cfg.sees, h])]; exact hb
    obtain ⟨s3, s4⟩ := dU hro2
    simp only [One, gd, hro2]
    refine ⟨fun _ => ?_, fun hn => by cases b <;> simp at hn⟩
    rw [s3, s4]
    obtain ⟨m2, h3, h4⟩ := h2 e t mem n (fun s h => hs s (by simp [Cfg.sees, h])) (Lk.refl _)
    refine dA h4 ?_
    rintro d' m' n' ⟨rfl, rfl, rfl⟩
    rw [aT]; exact hg _ h3
   ·have hbn : b = !want := by cases b <;> cases want <;> simp_all
    have h1 := h.2 hbn
    rw [← hbn, s1, s2, aT] at h1
    refine ⟨_, _, h1, fun e t n go2 hs hg => ?_⟩
    have hro2 : ro t e g = some (.pl (.bool b)) := by rw [← aO (x := g) fun s h => hs s (by simp [Cfg.sees, h])]; exact hb
    obtain ⟨s3, s4⟩ := dU hro2
    simp only [One, gd, hro2]
    refine ⟨fun h => absurd h hbw, fun _ => ?_⟩
    rw [← hbn, s3, s4, aT]; exact hg _ (Lk.refl _)
  ·rename_i vs hb
   rw [aT] at h
   refine ⟨_, _, h, fun e t n go2 hs hg => ?_⟩
   have hro2 : ro t e g = some (.pl (.tuple vs)) := by rw [← aO (x := g) fun s h => hs s (by simp [Cfg.sees, h])]; exact hb
   simp only [One, gd, hro2]
   rw [aT]; exact hg _ (Lk.refl _)
  ·exact h.elim
def I.adr : I → Option Opd
 | .st _ a _ | .sta _ a _ _ => some a
 | _ => none
def I.tol : I → List Opd
 | .sta _ _ _ ps => ps
 | _ => []
theorem xZ {i : I} {p : Opd} {K : KD} (hp : i.adr = some p) (h : aX C id i env tl mem nx K) : ∃ d x k b b', ro tl env p = some x ∧ x.hd = some k ∧ look mem k = some b ∧ K d (upd mem k b') nx ∧
  (∀ q ∈ i.tol, ∃ y, ro tl env q = some y ∧ y.hd ≠ some k) ∧
  ∀ env2 tl2 mem2 nx2, (∀ s ∈ Cfg.seesI i, look env s = look env2 s ∧ look tl s = look tl2 s) → look mem2 k = some b → aX C id i env2 tl2 mem2 nx2 (Sg d (upd mem2 k b') nx2) := by
 cases i with
 | st n a v =>
  simp only [I.adr, Option.some.injEq] at hp; subst hp
  obtain ⟨d, m, h1, h2⟩ := dF h
  obtain ⟨x, k, b, b', g1, g2, g3, rfl, g5⟩ := BQ h1
  refine ⟨d, x, k, b, b', g1, g2, g3, h2, by simp [I.tol], fun e t m2 n2 hs hm => ?_⟩
  rw [aO (x := a) fun s h => hs s (by simp [Cfg.seesI, h]), aO (x := v) fun s h => hs s (by simp [Cfg.seesI, h])] at g5
  exact iA (g5 m2 hm) ⟨rfl, rfl, rfl⟩
 | sta n a v ps =>
  simp only [I.adr, Option.some.injEq] at hp; subst hp
  obtain ⟨d, m, h1, h2⟩ := dF h
  unfold pZ at h1
  split at h1
  ·rename_i hap
   obtain ⟨x, k, b, b', g1, g2, g3, rfl, g5⟩ := BQ h1
   refine ⟨d, x, k, b, b', g1, g2, g3, h2, fun q hq => ?_, fun e t m2 n2 hs hm => ?_⟩
   ·rw [g1] at hap
    simp only [I.tol] at hq
    unfold lJ at hap
    split at hap
    ·rename_i a0 ps0 e1 e2
     simp only [Option.some.injEq] at e1; subst e1
     clear h1 h h2
     induction ps generalizing ps0 with
     | nil => simp at hq
     | cons r ps ih =>
      simp only [ros] at e2
      split at e2
      ·rename_i dr dps hr hps
       simp only [Option.some.injEq] at e2; subst e2
       simp only [List.all_cons, Bool.and_eq_true] at hap
       rcases List.mem_cons.1 hq with rfl | hq
       ·refine ⟨dr, hr, fun e => ?_⟩
        have := hap.1
        rw [e, g2] at this; simp at this
       ·exact ih hq _ hps hap.2
      ·simp at e2
    ·simp at hap
   ·rw [aO (x := a) fun s h => hs s (by simp [Cfg.seesI, h]), aO (x := v) fun s h => hs s (by simp [Cfg.seesI, h])] at g5
    rw [aO (x := a) fun s h => hs s (by simp [Cfg.seesI, h]), gH (xs := ps) fun s h => hs s (by simp only [Cfg.seesI, List.mem_append]; exact .inr h)] at hap
    exact iA (by unfold pZ; rw [if_pos hap]; exact g5 m2 hm) ⟨rfl, rfl, rfl⟩
  ·simp at h1
 | _ => simp [I.adr] at hp
theorem r_ {x : Ins} {p : Opd} {j : Nat} {go : Go4} (hp : x.i.adr = some p) (h : One C base x j env tl mem nx go) : ∃ d,
  (go (putE x.dst d env) (putT x.dst d tl) mem nx ∧ ∀ env2 tl2 mem2 nx2 (go2 : Go4), (∀ s ∈ Cfg.sees x, look env s = look env2 s ∧ look tl s = look tl2 s) → go2 (putE x.dst d env2) (putT x.dst d tl2) mem2 nx2 → One C base x j env2 tl2 mem2 nx2 go2) ∨
  ∃ a k b b', go (putE x.dst d env) (putT x.dst d tl) (upd mem k b') nx ∧ ro tl env p = some a ∧ a.hd = some k ∧ look mem k = some b ∧ (∀ q ∈ x.i.tol, ∃ y, ro tl env q = some y ∧ y.hd ≠ some k) ∧
   ∀ env2 tl2 mem2 nx2 (go2 : Go4), (∀ s ∈ Cfg.sees x, look env s = look env2 s ∧ look tl s = look tl2 s) → look mem2 k = some b → go2 (putE x.dst d env2) (putT x.dst d tl2) (upd mem2 k b') nx2 → One C base x j env2 tl2 mem2 nx2 go2 := by
 obtain ⟨d, g, i⟩ := x
 cases g with
 | none =>
  obtain ⟨v, a, k, b, b', h1, h2, h3, h4, h5, h6⟩ := xZ hp h
  rw [aT] at h4
  refine ⟨v, .inr ⟨a, k, b, b', h4, h1, h2, h3, h5, fun e t m n go2 hs hm hg => ?_⟩⟩
  refine dA (h6 e t m n (fun s h => hs s (by simp [Cfg.sees, h])) hm) ?_
  rintro d' m' n' ⟨rfl, rfl, rfl⟩
  rw [aT]; exact hg
 | some q =>
  obtain ⟨g, want⟩ := q
  simp only [One, gd] at h
  split at h
  ·rename_i b0 hb
   obtain ⟨s1, s2⟩ := dU hb
   by_cases hbw : b0 = want
   ·have h1 := h.1 hbw
    subst hbw
    rw [s1, s2] at h1
    obtain ⟨v, a, k, b, b', g1, g2, g3, g4, g5, g6⟩ := xZ hp h1
    rw [aT] at g4
    refine ⟨v, .inr ⟨a, k, b, b', g4, g1, g2, g3, g5, fun e t m n go2 hs hm hg => ?_⟩⟩
    have hro2 : ro t e g = some (.pl (.bool b0)) := by rw [← aO (x := g) fun s h => hs s (by simp [Cfg.sees, h])]; exact hb
    obtain ⟨s3, s4⟩ := dU hro2
    simp only [One, gd, hro2]
    refine ⟨fun _ => ?_, fun hn => by cases b0 <;> simp at hn⟩
    rw [s3, s4]
    refine dA (g6 e t m n (fun s h => hs s (by simp [Cfg.sees, h])) hm) ?_
    rintro d' m' n' ⟨rfl, rfl, rfl⟩
    rw [aT]; exact hg
   ·have hbn : b0 = !want := by cases b0 <;> cases want <;> simp_all
    have h1 := h.2 hbn
    rw [← hbn, s1, s2, aT] at h1
    refine ⟨_, .inl ⟨h1, fun e t m n go2 hs hg => ?_⟩⟩
    have hro2 : ro t e g = some (.pl (.bool b0)) := by rw [← aO (x := g) fun s h => hs s (by simp [Cfg.sees, h])]; exact hb
    obtain ⟨s3, s4⟩ := dU hro2
    simp only [One, gd, hro2]
    refine ⟨fun h => absurd h hbw, fun _ => ?_⟩
    rw [← hbn, s3, s4, aT]; exact hg
  ·rename_i vs hb
   rw [aT] at h
   refine ⟨_, .inl ⟨h, fun e t m n go2 hs hg => ?_⟩⟩
   have hro2 : ro t e g = some (.pl (.tuple vs)) := by rw [← aO (x := g) fun s h => hs s (by simp [Cfg.sees, h])]; exact hb
   simp only [One, gd, hro2]
   rw [aT]; exact hg
  ·exact h.elim
theorem yJ {p q : Opd} (h : Cfg.sameO p q = true) : p = q := by
 cases p <;> cases q <;> simp_all [Cfg.sameO]
theorem uW {x y : Ins} {d : D} {p : Opd} (h : ∀ t ∈ Cfg.dstO x.dst, t ∉ Cfg.sees y) (hp : ∀ s ∈ Cfg.seesO p, s ∈ Cfg.sees y) : ro (putT x.dst d tl) (putE x.dst d env) p = ro tl env p :=
 aO fun s hs => ⟨pX fun e => h s (by simp [e, Cfg.dstO]) (hp s hs), mR fun e => h s (by simp [e, Cfg.dstO]) (hp s hs)⟩
theorem u6 {i : I} {p : Opd} (h : p ∈ Cfg.lookO i) : ∀ s ∈ Cfg.seesO p, s ∈ Cfg.seesI i := by
 intro s hs
 cases i <;> simp_all [Cfg.lookO, Cfg.seesI]
theorem zK {i : I} {p : Opd} (h : p ∈ i.tol) : ∀ s ∈ Cfg.seesO p, s ∈ Cfg.seesI i := by
 intro s hs
 cases i <;> simp only [I.tol] at h <;> try simp at h
 simp only [Cfg.seesI, List.mem_append, List.mem_flatMap]
 exact .inr ⟨p, h, hs⟩
theorem C6 {rm : List (Nat × Opd)} {x y : I} (h : Cfg.staI rm x y = true) : (∃ q, y.adr = some q) ∧ ((x.free = true ∧ Cfg.makesI x = false ∧ ∀ p ∈ Cfg.lookO x, Cfg.rootOf rm p ∈ y.tol) ∨ ∃ p, x.adr = some p ∧ Cfg.rootOf rm p ∈ y.tol) := by
 have key : ∀ {p : Opd} {ps : List Opd}, ps.any (Cfg.sameO p) = true → p ∈ ps := fun h => by
  obtain ⟨q, h1, h2⟩ := List.any_eq_true.1 h
  rw [yJ h2]; exact h1
 cases y with
 | sta n a v ps =>
  refine ⟨⟨a, rfl⟩, ?_⟩
  cases x with
  | st _ b _ => exact .inr ⟨b, rfl, key h⟩
  | sta _ b _ _ => exact .inr ⟨b, rfl, key h⟩
  | _ =>
   left
   simp only [Cfg.staI, Bool.and_eq_true, Bool.not_eq_true', List.all_eq_true] at h
   exact ⟨h.1, h.2.1, fun p hp => key (h.2.2 p hp)⟩
 | _ => cases x <;> simp [Cfg.staI] at h
theorem CE {x y : I} (h : Cfg.clnI x y = true) : (∃ f xs, y = .cln f xs) ∧ x.free = true ∧ Cfg.makesI x = false := by
 cases y with
 | cln f xs =>
  simp only [Cfg.clnI, Bool.and_eq_true, Bool.not_eq_true'] at h
  exact ⟨⟨f, xs, rfl⟩, h.1, h.2⟩
 | _ => simp [Cfg.clnI] at h
theorem H7 {f : Opd} {xs : List Opd} {K : KD} (h : aX C id (.cln f xs) env tl mem nx K) : aX C id (.cln f xs) env tl mem nx (fun d m n => nM mem m ∧ K d m n) := by
 obtain ⟨g, caps, ys, h1, h2, h3⟩ := kU h
 show clK C.P _ _ _ _ _
 rw [h1, h2]; exact iV h3 fun d m n h => ⟨h.1, h⟩
theorem LA {x : Ins} {f : Opd} {xs : List Opd} {j : Nat} {go : Go4} (hx : x.i = .cln f xs) (h : One C base x j env tl mem nx go) : One C base x j env tl mem nx (fun e t m n => nM mem m ∧ go e t m n) := by
 obtain ⟨d, g, i⟩ := x
 simp only at hx
 subst hx
 have key : ∀ {env tl : Env} , One C base ⟨d, none, .cln f xs⟩ j env tl mem nx go → One C base ⟨d, none, .cln f xs⟩ j env tl mem nx (fun e t m n => nM mem m ∧ go e t m n) := fun h => by
  refine dA (id := base + j) (H7 (id := base + j) h) fun v m n h => ?_
  obtain ⟨h1, h2⟩ := h
  rw [aT] at h2 ⊢
  exact ⟨h1, h2⟩
 cases g with
 | none => exact key h
 | some q =>
  obtain ⟨g, want⟩ := q
  simp only [One, gd] at h ⊢
  split at h
  ·refine ⟨fun e => key (h.1 e), fun e => ?_⟩
   have := h.2 e
   rw [aT] at this ⊢
   exact ⟨fun _ _ h => h, this⟩
  ·rw [aT] at h ⊢
   exact ⟨fun _ _ h => h, h⟩
  ·exact h.elim
def kC (rm : List (Nat × Opd)) (env tl : Env) : Prop := ∀ e ∈ rm, ∀ d, look tl e.1 = some d → d.hd = none ∨ ∃ dr, ro tl env e.2 = some dr ∧ d.hd = dr.hd
theorem EA {rm : List (Nat × Opd)} : kC rm env [] := fun e _ d h => by simp [look] at h
theorem rX {rm : List (Nat × Opd)} (h : kC rm env tl) {p : Opd} {d : D} (hd : ro tl env p = some d) : d.hd = none ∨ ∃ dr, ro tl env (Cfg.rootOf rm p) = some dr ∧ d.hd = dr.hd := by
 cases p with
 | t k =>
  simp only [Cfg.rootOf]
  split
  ·rename_i e he
   have h1 := List.mem_of_find?_eq_some he
   have h2 := List.find?_some he
   simp only [beq_iff_eq] at h2
   exact h e h1 d (by rw [h2]; exact hd)
  ·exact .inr ⟨d, hd, rfl⟩
 | _ => exact .inr ⟨d, hd, rfl⟩
theorem C9 {i : I} {p : Opd} {K : KD} (hp : Cfg.partO i = some p) (h : aX C id i env tl mem nx K) {K2 : KD} (hk : ∀ d m n, (∃ dp, ro tl env p = some dp ∧ d.hd = dp.hd) → K d m n → K2 d m n) : aX C id i env tl mem nx K2 := by
 cases i <;> simp only [Cfg.partO, Option.some.injEq] at hp <;> try simp at hp
 case mv x =>
  subst hp
  obtain ⟨d, h1, h2⟩ := iH h
  exact qI h1 (hk _ _ _ ⟨d, h1, rfl⟩ h2)
 case chk x =>
  subst hp
  obtain ⟨d, r, h1, h2, h3⟩ := bV h
  refine eV h1 h2 (hk _ _ _ ⟨d, h1, ?_⟩ h3)
  cases d <;> simp only [t4, Option.some.injEq] at h2 <;> try simp at h2
  all_goals subst h2; rfl
 case fa off x =>
  subst hp
  obtain ⟨d, r, h1, h2, h3⟩ := bV h
  refine eV h1 h2 (hk _ _ _ ⟨d, h1, ?_⟩ h3)
  cases d <;> simp only [faD, Option.some.injEq, Option.ite_none_right_eq_some] at h2 <;> try simp at h2
  ·obtain ⟨_, rfl⟩ := h2; rfl
  ·subst h2; rfl
  ·obtain ⟨_, rfl⟩ := h2; rfl
 case ia k x y =>
  subst hp
  obtain ⟨d, d2, r, h1, h2, h3, h4⟩ := gF h
  refine nV h1 h2 h3 (hk _ _ _ ⟨d, h1, ?_⟩ h4)
  unfold iaD at h3
  split at h3
  ·split at h3
   ·split at h3
    ·split at h3
     ·simp only [Option.some.injEq] at h3; subst h3; rfl
     ·simp at h3
    ·simp at h3
   ·simp at h3
  ·split at h3
   ·split at h3
    ·simp only [Option.some.injEq] at h3; subst h3; rfl
    ·simp at h3
   ·simp at h3
  ·simp at h3
 case iaa len k x y =>
  subst hp
  obtain ⟨d, d2, r, h1, h2, h3, h4⟩ := gF h
  refine nV h1 h2 h3 (hk _ _ _ ⟨d, h1, ?_⟩ h4)
  unfold pY at h3
  split at h3
  ·simp only [Option.ite_none_right_eq_some] at h3
   obtain ⟨_, h3⟩ := h3
   cases d <;> simp only [faD, Option.some.injEq, Option.ite_none_right_eq_some] at h3 <;> try simp at h3
   ·obtain ⟨_, rfl⟩ := h3; rfl
   ·subst h3; rfl
   ·obtain ⟨_, rfl⟩ := h3; rfl
  ·simp at h3
theorem LP {x : Ins} {d : D} {r : Opd} (h : Cfg.writes x.dst r = false) : ro (putT x.dst d tl) (putE x.dst d env) r = ro tl env r := by
 obtain ⟨dst, g, i⟩ := x
 cases r with
 | t j => exact mR fun e => by simp only at e h; rw [e] at h; simp [Cfg.writes] at h
 | g j => exact pX fun e => by simp only at e h; rw [e] at h; simp [Cfg.writes] at h
 | _ => rfl
theorem fV {rm : List (Nat × Opd)} {x : Ins} {d : D} (hf : Cfg.rootFits rm x = true) (hr : kC rm env tl) (hd : d.hd = none ∨ Cfg.partO x.i = none ∨ ∃ p dp, Cfg.partO x.i = some p ∧ ro tl env p = some dp ∧ d.hd = dp.hd) :
  kC rm (putE x.dst d env) (putT x.dst d tl) := by
 simp only [Cfg.rootFits, Bool.and_eq_true, List.all_eq_true, Bool.not_eq_true'] at hf
 obtain ⟨hf1, hf2⟩ := hf
 intro e he d' hl
 have hw := hf1 e he
 rw [LP hw]
 by_cases hx : x.dst = .t e.1
 ·rw [hx] at hf2 hl
  simp only [putT, look, if_true, Option.some.injEq] at hl
  subst hl
  simp only [List.all_eq_true, Bool.or_eq_true, bne_iff_ne] at hf2
  have h2 := (hf2 e he).resolve_left (by simp)
  rcases hd with hd | hd | ⟨p, dp, h3, h4, h5⟩
  ·exact .inl hd
  ·rw [hd] at h2; simp at h2
  ·rw [h3] at h2
   simp only at h2
   have h6 := yJ h2
   rcases rX hr h4 with h7 | ⟨dr, h7, h8⟩
   ·exact .inl (by rw [h5, h7])
   ·exact .inr ⟨dr, by rw [← h6]; exact h7, by rw [h5, h8]⟩
 ·rw [mR hx] at hl
  exact hr e he d' hl
theorem pA {rm : List (Nat × Opd)} {x : Ins} {j : Nat} {go : Go4} (hf : Cfg.rootFits rm x = true) (hr : kC rm env tl) (h : One C base x j env tl mem nx go) :
  One C base x j env tl mem nx (fun e t m n => kC rm e t ∧ go e t m n) := by
 cases hp : Cfg.partO x.i with
 | none =>
  obtain ⟨d, g, i⟩ := x
  cases g with
  | none => exact dA h fun v m n h => by rw [aT] at h ⊢; exact ⟨fV hf hr (.inr (.inl hp)), h⟩
  | some q =>
   obtain ⟨g, want⟩ := q
   simp only [One, gd] at h ⊢
   split at h
   ·rename_i b hb
    obtain ⟨s1, s2⟩ := dU hb
    refine ⟨fun e => ?_, fun e => ?_⟩
    ·have := h.1 e
     subst e
     rw [s1, s2] at this ⊢
     exact dA this fun v m n (h : eE _ _ _ _ v m n) => by rw [aT] at h ⊢; exact ⟨fV hf hr (.inr (.inl hp)), h⟩
    ·have := h.2 e
     rw [← e, s1, s2, aT] at this
     rw [← e, s1, s2, aT]
     exact ⟨fV hf hr (.inl rfl), this⟩
   ·rw [aT] at h ⊢; exact ⟨fV hf hr (.inl rfl), h⟩
   ·exact h.elim
 | some p =>
  obtain ⟨d, g, i⟩ := x
  cases g with
  | none => exact C9 hp h fun v m n ⟨dp, h1, h2⟩ (h : eE _ _ _ _ v m n) => by rw [aT] at h ⊢; exact ⟨fV hf hr (.inr (.inr ⟨p, dp, hp, h1, h2⟩)), h⟩
  | some q =>
   obtain ⟨g, want⟩ := q
   simp only [One, gd] at h ⊢
   split at h
   ·rename_i b hb
    obtain ⟨s1, s2⟩ := dU hb
    refine ⟨fun e => ?_, fun e => ?_⟩
    ·have := h.1 e
     subst e
     rw [s1, s2] at this ⊢
     exact C9 hp this fun v m n ⟨dp, h1, h2⟩ (h : eE _ _ _ _ v m n) => by rw [aT] at h ⊢; exact ⟨fV hf hr (.inr (.inr ⟨p, dp, hp, h1, h2⟩)), h⟩
    ·have := h.2 e
     rw [← e, s1, s2, aT] at this
     rw [← e, s1, s2, aT]
     exact ⟨fV hf hr (.inl rfl), this⟩
   ·rw [aT] at h ⊢; exact ⟨fV hf hr (.inl rfl), h⟩
   ·exact h.elim
end
section
variable {C : Cfg} {w w' : World} {S S' : Nat → Prop} {φ φ' : bA} {a : Act} {env tl : Env} {mem : Mem} {nx id base : Nat} {is : List Ins} {oc oc' : Nat → Oc}
theorem mU {α β : Type} (h : Array β → α → β) : ∀ (l : List α) (acc : Array β), (l.foldl (fun acc o => acc.push (h acc o)) acc).size = acc.size + l.length ∧
  (∀ j, j < acc.size → (l.foldl (fun acc o => acc.push (h acc o)) acc)[j]? = acc[j]?) ∧
  ∀ i x, l[i]? = some x → (l.foldl (fun acc o => acc.push (h acc o)) acc)[acc.size + i]? = some (h ((l.take i).foldl (fun acc o => acc.push (h acc o)) acc) x)
 | [], acc => ⟨by simp, fun _ _ => rfl, fun i x h => by simp at h⟩
 | y :: l, acc => by
  obtain ⟨h1, h2, h3⟩ := mU h l (acc.push (h acc y))
  simp only [List.foldl_cons]
  refine ⟨by rw [h1]; simp; omega, fun j hj => ?_, fun i x hx => ?_⟩
  ·rw [h2 j (by simp; omega), Array.getElem?_push, if_neg (by omega)]
  ·cases i with
   | zero =>
    simp only [List.getElem?_cons_zero, Option.some.injEq] at hx; subst hx
    simp only [Nat.add_zero, List.take_zero, List.foldl_nil]
    rw [h2 acc.size (by simp)]
    simp
   | succ i =>
    simp only [List.getElem?_cons_succ] at hx
    have := h3 i x hx
    simp only [Array.size_push] at this
    rw [show acc.size + (i + 1) = acc.size + 1 + i by omega]
    simpa using this
def gC (acc : Array Nat) (o : Oper) : Nat := o.after.foldl (fun s e => if Region.binds .any e then s ||| 2 ^ e.on ||| acc.getD e.on 0 else s) 0
theorem x6 (ops : Array Oper) : Region.before ops = ops.toList.foldl (fun acc o => acc.push (gC acc o)) #[] := by
 unfold Region.before
 rw [← Array.foldl_toList]; rfl
theorem rW (acc : Array Nat) (j : Nat) : ∀ (l : List Edge) (s : Nat), (l.foldl (fun s e => if Region.binds .any e then s ||| 2 ^ e.on ||| acc.getD e.on 0 else s) s).testBit j = true →
  s.testBit j = true ∨ ∃ e ∈ l, Region.binds .any e = true ∧ (e.on = j ∨ (acc.getD e.on 0).testBit j = true)
 | [], s, h => .inl h
 | e :: l, s, h => by
  simp only [List.foldl_cons] at h
  rcases rW acc j l _ h with h1 | ⟨e', h1, h2⟩
  ·split at h1
   ·rename_i hb
    simp only [Nat.testBit_or, Bool.or_eq_true] at h1
    rcases h1 with (h1 | h1) | h1
    ·exact .inl h1
    ·rw [Nat.testBit_two_pow] at h1
     exact .inr ⟨e, by simp, hb, .inl (by simpa using h1)⟩
    ·exact .inr ⟨e, by simp, hb, .inr h1⟩
   ·exact .inl h1
  ·exact .inr ⟨e', by simp [h1], h2⟩
theorem zE {acc : Array Nat} {o : Oper} {j : Nat} (h : (gC acc o).testBit j = true) : ∃ e ∈ o.after.toList, Region.binds .any e = true ∧ (e.on = j ∨ (acc.getD e.on 0).testBit j = true) := by
 unfold gC at h
 rw [← Array.foldl_toList] at h
 rcases rW _ j _ _ h with h1 | h1
 ·simp at h1
 ·exact h1
theorem BJ {ops : Array Oper} {i j : Nat} {o : Oper} (ho : ops[i]? = some o) (h : ((Region.before ops).getD i 0).testBit j = true) :
  ∃ e ∈ o.after.toList, Region.binds .any e = true ∧ (e.on = j ∨ (e.on < i ∧ ((Region.before ops).getD e.on 0).testBit j = true)) := by
 have ho' : ops.toList[i]? = some o := by simpa using ho
 obtain ⟨f1, f2, f3⟩ := mU gC ops.toList #[]
 have hi := f3 i o ho'
 simp only [Array.size_empty, Nat.zero_add] at hi
 rw [x6, Array.getD_eq_getD_getElem?, hi] at h
 simp only [Option.getD_some] at h
 obtain ⟨e, h1, h2, h3⟩ := zE h
 refine ⟨e, h1, h2, ?_⟩
 rcases h3 with h3 | h3
 ·exact .inl h3
 ·right
  have hlen : i ≤ ops.toList.length := Nat.le_of_lt (List.getElem?_eq_some_iff.1 ho').1
  obtain ⟨k1, k2, k3⟩ := mU gC (ops.toList.take i) #[]
  have hsz : ((ops.toList.take i).foldl (fun acc o => acc.push (gC acc o)) #[]).size = i := by
   rw [k1, List.length_take]; simp only [Array.size_empty]; omega
  by_cases hlt : e.on < i
  ·refine ⟨hlt, ?_⟩
   have hsplit : ops.toList.foldl (fun acc o => acc.push (gC acc o)) #[] = (ops.toList.drop i).foldl (fun acc o => acc.push (gC acc o)) ((ops.toList.take i).foldl (fun acc o => acc.push (gC acc o)) #[]) := by
    rw [← List.foldl_append, List.take_append_drop]
   obtain ⟨_, m2, _⟩ := mU gC (ops.toList.drop i) ((ops.toList.take i).foldl (fun acc o => acc.push (gC acc o)) #[])
   rw [x6, Array.getD_eq_getD_getElem?, hsplit, m2 e.on (by rw [hsz]; exact hlt), ← Array.getD_eq_getD_getElem?]
   exact h3
  ·exfalso
   rw [Array.getD_eq_getD_getElem?, Array.getElem?_eq_none (by rw [hsz]; omega)] at h3
   simp at h3
def vP (ops : Array Oper) (listed : Array Bool) : Prop := ∀ i o, ops[i]? = some o → listed.getD i false = true → ∀ j, ((Region.before ops).getD i 0).testBit j = true → listed.getD j false = true
theorem rE {ops : Array Oper} {listed : Array Bool} {i j : Nat} {o : Oper} (ho : ops[i]? = some o) (hc : vP ops listed) (hr : o.after.all (fun e => !Region.binds .any e || listed.getD e.on false) = true) (h : ((Region.before ops).getD i 0).testBit j = true) : listed.getD j false = true := by
 obtain ⟨e, he, hb, hj⟩ := BJ ho h
 have h1 := Array.all_eq_true_iff_forall_mem.1 hr e (by simpa using he)
 simp only [hb, Bool.not_true, Bool.false_or] at h1
 rcases hj with rfl | ⟨hlt, hj⟩
 ·exact h1
 ·have : e.on < ops.size := by have := (Array.getElem?_eq_some_iff.1 ho).1; omega
  exact hc e.on _ (Array.getElem?_eq_getElem this) h1 j hj
def unl (n : Nat) (listed : Array Bool) : Nat := ((List.range n).filter fun i => !listed.getD i true).length
theorem pQ {listed : Array Bool} {i j : Nat} (hi : i < listed.size) (d : Bool) : (listed.setIfInBounds i true).getD j d = if i = j then true else listed.getD j d := by
 simp only [Array.getD_eq_getD_getElem?, Array.getElem?_setIfInBounds]
 by_cases h : i = j
 ·subst h; simp [hi]
 ·simp [h]
theorem xA {p q : Nat → Bool} : ∀ (l : List Nat) (i : Nat), i ∈ l → p i = true → q i = false → (∀ j, q j = true → p j = true) → (l.filter q).length < (l.filter p).length
 | [], i, h, _, _, _ => by simp at h
 | x :: l, i, h, hp, hq, hqp => by
  have hle : ∀ l : List Nat, (l.filter q).length ≤ (l.filter p).length := by
   intro l
   induction l with
   | nil => simp
   | cons y l ih =>
    simp only [List.filter_cons]
    by_cases h1 : q y = true
    ·simp [h1, hqp y h1]; exact ih
    ·by_cases h2 : p y = true <;> simp [h1, h2] <;> omega
  simp only [List.filter_cons]
  rcases List.mem_cons.1 h with rfl | h
  ·simp only [hp, hq, if_true, Bool.false_eq_true, if_false, List.length_cons]
   have := hle l; omega
  ·have ih := xA l i h hp hq hqp
   by_cases h1 : q x = true
   ·simp [h1, hqp x h1]; exact ih
   ·by_cases h2 : p x = true <;> simp [h1, h2] <;> omega
theorem wO {ops : Array Oper} {listed : Array Bool} {i : Nat} (h : i ∈ Region.ready .any ops listed) : ∃ o, ops[i]? = some o ∧ i < ops.size ∧ listed.getD i true = false ∧ o.after.all (fun e => !Region.binds .any e || listed.getD e.on false) = true := by
 simp only [Region.ready, List.mem_filter, List.mem_range, Bool.and_eq_true, Bool.not_eq_true'] at h
 obtain ⟨h1, h2, h3⟩ := h
 refine ⟨ops[i], Array.getElem?_eq_getElem h1, h1, h2, ?_⟩
 simpa [Array.getElem?_eq_getElem h1] using h3
theorem D8 {ops : Array Oper} {listed : Array Bool} (hsz : listed.size = ops.size) (hedge : ∀ i o, ops[i]? = some o → ∀ e ∈ o.after.toList, Region.binds .any e = true → e.on < i) (h : Region.ready .any ops listed = []) : ∀ i, i < ops.size → listed.getD i false = true := by
 intro i
 induction i using Nat.strongRecOn with
 | _ i ih =>
  intro hi
  cases hl : listed.getD i false with
  | true => rfl
  | false =>
   exfalso
   have hl' : listed.getD i true = false := by
    rw [Array.getD_eq_getD_getElem?, Array.getElem?_eq_getElem (by omega)] at hl ⊢
    exact hl
   have : i ∈ Region.ready .any ops listed := by
    simp only [Region.ready, List.mem_filter, List.mem_range, Bool.and_eq_true, Bool.not_eq_true']
    refine ⟨hi, hl', ?_⟩
    rw [Array.getElem?_eq_getElem hi]
    simp only [Option.map_some, Option.getD_some]
    refine Array.all_eq_true_iff_forall_mem.2 fun e he => ?_
    cases hb : Region.binds .any e with
    | false => rfl
    | true =>
     simp only [Bool.not_true, Bool.false_or]
     have hlt := hedge i _ (Array.getElem?_eq_getElem hi) e (by simpa using he) hb
     exact ih e.on hlt (by omega)
   rw [h] at this
   simp at this
def runL (C : Cfg) (base : Nat) : List (Nat × Ins) → Go4 → Go4
 | [], K => K
 | (j, x) :: r, K => fun e t m n => One C base x j e t m n (runL C base r K)
theorem tU {K : Go4} : ∀ (l r : List (Nat × Ins)), runL C base (l ++ r) K = runL C base l (runL C base r K)
 | [], r => rfl
 | (j, x) :: l, r => by simp only [List.cons_append, runL, tU l r]
theorem qP {K : Go4} (h : Inv K) : ∀ (l : List (Nat × Ins)), Inv (runL C base l K)
 | [] => h
 | (j, x) :: l => DD (qP h l)
theorem zZ {K : Go4} : ∀ (l : List Ins) (j : Nat) (env tl : Env) (mem : Mem) (nx : Nat), run C base K l j env tl mem nx → runL C base ((l.zipIdx j).map fun p => (p.2, p.1)) K env tl mem nx
 | [], j, _, _, _, _, h => h
 | x :: l, j, env, tl, mem, nx, h => by
  rw [v_] at h
  simp only [List.zipIdx_cons, List.map_cons, runL]
  exact zO (fun e t m n h => zZ l (j + 1) e t m n h) h
theorem AP {K K2 : Go4} (hk : ∀ e t m n, K e t m n → K2 e t m n) : ∀ (l : List Ins) (j : Nat) (env tl : Env) (mem : Mem) (nx : Nat), run C base K l j env tl mem nx → run C base K2 l j env tl mem nx
 | [], _, _, _, _, _, h => hk _ _ _ _ h
 | x :: l, j, env, tl, mem, nx, h => by
  rw [v_] at h ⊢
  exact zO (fun e t m n h => AP hk l (j + 1) e t m n h) h
theorem jW {i : I} (h : Cfg.quietI i = true) : i.free = true ∧ (∀ p : Opd, Cfg.lookO i = []) ∧ Cfg.makesI i = false := by
 simp only [Cfg.quietI, Bool.and_eq_true, Bool.not_eq_true'] at h
 refine ⟨h.1, fun _ => ?_, h.2.2⟩
 cases i <;> first | rfl | simp [Cfg.looksI] at h
theorem xV {x y : Ins} (h : Cfg.slotsApart x y = true) : (∀ d ∈ Cfg.dstO x.dst, d ∉ Cfg.dstO y.dst) ∧ (∀ d ∈ Cfg.dstO x.dst, d ∉ Cfg.sees y) ∧ (∀ d ∈ Cfg.dstO y.dst, d ∉ Cfg.sees x) := by
 simp only [Cfg.slotsApart, Bool.and_eq_true, List.all_eq_true] at h
 refine ⟨fun d hd => ?_, fun d hd => ?_, fun d hd => ?_⟩
 ·have := (h.1 d hd).1; simpa using this
 ·have := (h.1 d hd).2; simpa using this
 ·have := h.2 d hd; simpa using this
theorem eM {x y : Ins} {d : D} (h : ∀ t ∈ Cfg.dstO x.dst, t ∉ Cfg.sees y) (e t : Env) : ∀ s ∈ Cfg.sees y, look (putE x.dst d e) s = look e s ∧ look (putT x.dst d t) s = look t s := fun s hs =>
 ⟨pX fun e => h s (by simp [e, Cfg.dstO]) hs, mR fun e => h s (by simp [e, Cfg.dstO]) hs⟩
theorem LH {ext : Mem} {i : Nat} (h : ext = [] ∨ ∃ b, ext = [(i, b)]) (hf : look mem i = none) : Sub mem (ext ++ mem) := fun k b hb => by
 rcases h with rfl | ⟨c, rfl⟩
 ·exact hb
 ·simp only [List.singleton_append, look]
  split
  ·rename_i e; subst e; rw [hf] at hb; simp at hb
  ·exact hb
theorem I9 {e1 e2 : Mem} {i j : Nat} (h1 : e1 = [] ∨ ∃ b, e1 = [(i, b)]) (h2 : e2 = [] ∨ ∃ b, e2 = [(j, b)]) (hij : i ≠ j) (m : Mem) : Lk (e1 ++ (e2 ++ m)) (e2 ++ (e1 ++ m)) := by
 rcases h1 with rfl | ⟨b, rfl⟩
 ·exact Lk.refl _
 ·rcases h2 with rfl | ⟨c, rfl⟩
  ·exact Lk.refl _
  ·intro t
   simp only [List.singleton_append, look]
   by_cases e : i = t
   ·subst e; rw [if_pos rfl, if_neg (fun e => hij e.symm), if_pos rfl]
   ·rw [if_neg e, if_neg e]
theorem sS {x : Ins} {s : Nat} (h : s ∈ Cfg.seesI x.i) : s ∈ Cfg.sees x := by simp [Cfg.sees, h]
theorem swap {rm : List (Nat × Opd)} {x y : Ins} {i j : Nat} {go : Go4} (hij : i ≠ j) (hs : Cfg.swapI rm x y = true) (hrt : kC rm env tl) (hfr : Cfg.makesI y.i = true → look mem (base + j) = none)
  (hcl : ∀ p ∈ Cfg.lookO y.i, ∀ d, ro tl env p = some d → d.hd ≠ some (base + i)) (hg : Inv go)
  (h : One C base x i env tl mem nx (fun e t m n => One C base y j e t m n go)) : One C base y j env tl mem nx (fun e t m n => One C base x i e t m n go) := by
 simp only [Cfg.swapI, Bool.and_eq_true, Bool.or_eq_true] at hs
 obtain ⟨hsl, hs⟩ := hs
 obtain ⟨s1, s2, s3⟩ := xV hsl
 have s1' : ∀ d ∈ Cfg.dstO y.dst, d ∉ Cfg.dstO x.dst := fun d h1 h2 => s1 d h2 h1
 have back : ∀ (d : D), ∀ s ∈ Cfg.sees x, look env s = look (putE y.dst d env) s ∧ look tl s = look (putT y.dst d tl) s := fun d s hs' =>
  ⟨(eM (d := d) s3 env tl s hs').1.symm, (eM (d := d) s3 env tl s hs').2.symm⟩
 by_cases hsta : Cfg.staI rm x.i y.i = true
 ·obtain ⟨⟨q, hq⟩, hx⟩ := C6 hsta
  rcases hx with ⟨hxf, hxm, hxl⟩ | ⟨p, hp, hpt⟩
  ·obtain ⟨ox, hx1, hx2, hx3⟩ := k_ hxf h
   have he : ox.ext = [] := by
    rcases hx2 with e | ⟨_, e⟩
    ·exact e
    ·rw [hxm] at e; simp at e
   simp only [he, List.nil_append] at hx1 hx3
   obtain ⟨d, ⟨hy1, hy2⟩ | ⟨a, k, b, b', hy1, hy2, hy3, hy4, hy5, hy6⟩⟩ := r_ hq hx1
   ·refine hy2 env tl mem nx _ (eM s2 env tl) (hx3 _ _ _ _ _ (back d) (fun _ _ _ _ => fun _ _ _ h => h) ?_)
    exact hg _ _ _ _ _ _ _ (fM s1') (fU s1') (Lk.refl _) hy1
   ·refine hy6 env tl mem nx _ (eM s2 env tl) hy4 (hx3 _ _ _ _ _ (back d) (fun p hp dd hd i hi bb hbb => ?_) ?_)
    ·obtain ⟨y', e1, e2⟩ := hy5 _ (hxl p hp)
     rw [uW s2 (fun s hs => sS (zK (hxl p hp) s hs))] at e1
     rcases rX hrt hd with h0 | ⟨dr, h1, h2⟩
     ·rw [h0] at hi; simp at hi
     ·rw [h1] at e1
      simp only [Option.some.injEq] at e1; subst e1
      rw [bC _ (fun e => e2 (by rw [← h2, hi, e]))]; exact hbb
    ·exact hg _ _ _ _ _ _ _ (fM s1') (fU s1') (Lk.refl _) hy1
  ·obtain ⟨dx, ⟨hx1, hx2⟩ | ⟨ax, kx, bx, bx', hx1, hx2, hx3, hx4, _, hx6⟩⟩ := r_ hp h
   ·refine rO (eM s2 env tl) (Lk.refl mem) (fun d m m2 n hm hgo => hx2 _ _ _ _ _ (back d) ?_) hx1
    exact hg _ _ _ _ _ _ _ (fM s1') (fU s1') hm hgo
   ·obtain ⟨d, ⟨hy1, hy2⟩ | ⟨a, k, b, b', hy1, hy2, hy3, hy4, hy5, hy6⟩⟩ := r_ hq hx1
    ·refine hy2 env tl mem nx _ (eM s2 env tl) (hx6 _ _ _ _ _ (back d) hx4 ?_)
     exact hg _ _ _ _ _ _ _ (fM s1') (fU s1') (Lk.refl _) hy1
    ·obtain ⟨y', e1, e2⟩ := hy5 _ hpt
     rw [uW s2 (fun s hs => sS (zK hpt s hs))] at e1
     have hne : k ≠ kx := by
      rcases rX hrt hx2 with h0 | ⟨dr, h1, h2⟩
      ·rw [hx3] at h0; simp at h0
      ·rw [h1] at e1
       simp only [Option.some.injEq] at e1; subst e1
       exact fun e => e2 (by rw [← h2, hx3, e])
     rw [bC _ hne] at hy4
     refine hy6 env tl mem nx _ (eM s2 env tl) hy4 (hx6 _ _ _ _ _ (back d) (by rw [bC _ (fun e => hne e.symm)]; exact hx4) ?_)
     exact hg _ _ _ _ _ _ _ (fM s1') (fU s1') (upd_comm (fun e => hne e.symm) mem) hy1
 by_cases hcln : Cfg.clnI x.i y.i = true
 ·obtain ⟨⟨f, xs, hy⟩, hxf, hxm⟩ := CE hcln
  obtain ⟨ox, hx1, hx2, hx3⟩ := k_ hxf h
  have he : ox.ext = [] := by
   rcases hx2 with e | ⟨_, e⟩
   ·exact e
   ·rw [hxm] at e; simp at e
  simp only [he, List.nil_append] at hx1 hx3
  refine rO (eM s2 env tl) (Lk.refl mem) (fun d m m2 n hm hgo => ?_) (LA hy hx1)
  obtain ⟨hk, hgo⟩ := hgo
  refine hx3 _ _ _ _ _ (back d) (fun p hp dd hd i hi b hb => ?_) ?_
  ·rw [← hm]; exact hk i b hb
  ·exact hg _ _ _ _ _ _ _ (fM s1') (fU s1') hm hgo
 by_cases hxf : x.i.free = true
 ·obtain ⟨ox, hx1, hx2, hx3⟩ := k_ hxf h
  have hx2' : ox.ext = [] ∨ ∃ b, ox.ext = [(base + i, b)] := hx2.imp id (·.1)
  by_cases hyf : y.i.free = true
  ·obtain ⟨oy, hy1, hy2, hy3⟩ := k_ hyf hx1
   have hy2' : oy.ext = [] ∨ ∃ b, oy.ext = [(base + j, b)] := hy2.imp id (·.1)
   refine hy3 env tl mem nx _ (eM s2 env tl) (fun p hp d hd i' hi b hb => ?_) ?_
   ·rw [uW s2 (fun s hs => sS (u6 hp s hs))] at hd
    have hne := hcl p hp d hd
    rcases hx2' with e | ⟨_, e⟩
    ·rw [e] at hb; exact hb
    ·rw [e] at hb
     simp only [List.singleton_append, look] at hb
     rw [if_neg (fun e => hne (by rw [hi, e]))] at hb; exact hb
   ·refine hx3 _ _ _ _ _ (back oy.d) (fun _ _ _ _ => Sub.at ?_ _) ?_
    ·rcases hy2 with e | ⟨⟨b, e⟩, hm⟩
     ·rw [e]; exact fun _ _ h => h
     ·exact LH (.inr ⟨b, e⟩) (hfr hm)
    ·exact hg _ _ _ _ _ _ _ (fM s1') (fU s1') (I9 hy2' hx2' (by omega) mem) hy1
  ·have hxq : Cfg.quietI x.i = true := by
    rcases hs with (((⟨h1, _⟩ | h1) | ⟨_, h1⟩) | h1) | h1
    ·exact absurd (jW h1).1 hyf
    ·exact h1
    ·exact absurd h1 hyf
    ·exact absurd h1 hsta
    ·exact absurd h1 hcln
   obtain ⟨_, q2, q3⟩ := jW hxq
   have he : ox.ext = [] := by
    rcases hx2 with e | ⟨_, e⟩
    ·exact e
    ·rw [q3] at e; simp at e
   rw [he, List.nil_append] at hx1
   refine rO (eM s2 env tl) (Lk.refl mem) (fun d m m2 n hm hgo => ?_) hx1
   refine hx3 _ _ _ _ _ (back d) (fun p hp => by rw [q2 p] at hp; simp at hp) ?_
   rw [he, List.nil_append]
   exact hg _ _ _ _ _ _ _ (fM s1') (fU s1') hm hgo
 ·have hyq : Cfg.quietI y.i = true ∧ x.i.call = false := by
   rcases hs with (((⟨h1, h2⟩ | h1) | ⟨h1, _⟩) | h1) | h1
   ·exact ⟨h1, by simpa using h2⟩
   ·exact absurd (jW h1).1 hxf
   ·exact absurd h1 hxf
   ·exact absurd h1 hsta
   ·exact absurd h1 hcln
  obtain ⟨hyf, q2, q3⟩ := jW hyq.1
  obtain ⟨d, m, hx1, hx2⟩ := write_one' (by simpa using hxf) hyq.2 h
  obtain ⟨oy, hy1, hy2, hy3⟩ := k_ hyf hx1
  have he : oy.ext = [] := by
   rcases hy2 with e | ⟨_, e⟩
   ·exact e
   ·rw [q3] at e; simp at e
  rw [he, List.nil_append] at hy1
  refine hy3 env tl mem nx _ (eM s2 env tl) (fun p hp => by rw [q2 p] at hp; simp at hp) ?_
  rw [he, List.nil_append]
  refine hx2 _ _ _ _ (back oy.d) (fun m2 hm => ?_)
  exact hg _ _ _ _ _ _ _ (fM s1') (fU s1') hm hy1
theorem GC {xs : List Ins} {i : I} : Cfg.makesI (Cfg.cutI xs i) = Cfg.makesI i := by cases i <;> rfl
theorem KK {xs : List Ins} {i : I} : Cfg.lookO (Cfg.cutI xs i) = Cfg.lookO i := by cases i <;> rfl
theorem IV {xs : List Ins} {i : I} : Cfg.partO (Cfg.cutI xs i) = Cfg.partO i := by cases i <;> rfl
theorem BP {x : Ins} {xs : List Ins} {y : Ins} : Cfg.cutL (x :: xs) y = Cfg.cutL [x] (Cfg.cutL xs y) := by
 obtain ⟨d, g, i⟩ := y
 cases i with
 | sta n a v ps =>
  simp only [Cfg.cutL, Cfg.cutI, List.filter_filter, List.all_cons, List.all_nil, Bool.and_true]
 | _ => rfl
theorem IZ {rm : List (Nat × Opd)} {xs : List Ins} {y : Ins} (h : Cfg.rootFits rm y = true) : Cfg.rootFits rm (Cfg.cutL xs y) = true := by
 unfold Cfg.rootFits Cfg.cutL at *
 simp only [IV]
 exact h
theorem u9 {f : Opd → Bool} : ∀ (ps : List Opd) (ds : List D), ros tl env ps = some ds → ∃ ds', ros tl env (ps.filter f) = some ds' ∧ ∀ d ∈ ds', d ∈ ds
 | [], ds, h => ⟨ds, h, fun _ h => h⟩
 | p :: ps, ds, h => by
  unfold ros at h
  split at h
  ·rename_i d ds0 h1 h2
   simp only [Option.some.injEq] at h
   subst h
   obtain ⟨ds', g1, g2⟩ := u9 ps ds0 h2
   rw [List.filter_cons]
   split
   ·exact ⟨d :: ds', by unfold ros; rw [h1, g1], fun x hx => by
     rcases List.mem_cons.1 hx with rfl | hx
     ·simp
     ·exact List.mem_cons_of_mem _ (g2 x hx)⟩
   ·exact ⟨ds', g1, fun x hx => List.mem_cons_of_mem _ (g2 x hx)⟩
  ·simp at h
theorem yR {f : Opd → Bool} {o : Option D} {ps : List Opd} (h : lJ o (ros tl env ps) = true) : lJ o (ros tl env (ps.filter f)) = true := by
 cases o with
 | none => simp [lJ] at h
 | some a =>
  cases hr : ros tl env ps with
  | none => rw [hr] at h; simp [lJ] at h
  | some ds =>
   rw [hr] at h
   obtain ⟨ds', g1, g2⟩ := u9 (f := f) ps ds hr
   rw [g1]
   simp only [lJ, List.all_eq_true] at h ⊢
   exact fun d hd => h d (g2 d hd)
theorem wH {xs : List Ins} {y : Ins} {j : Nat} {go : Go4} (h : One C base y j env tl mem nx go) : One C base (Cfg.cutL xs y) j env tl mem nx go := by
 obtain ⟨d, g, i0⟩ := y
 cases i0 with
 | sta n a v ps =>
  have key : ∀ {f : Opd → Bool} {env tl : Env} {K : KD}, aX C (base + j) (.sta n a v ps) env tl mem nx K → aX C (base + j) (.sta n a v (ps.filter f)) env tl mem nx K := by
   intro f env tl K h
   obtain ⟨d, m, h1, h2⟩ := dF h
   refine iA (d := d) (m := m) ?_ h2
   unfold pZ at h1 ⊢
   split at h1
   ·rename_i ha
    rw [if_pos (yR ha)]; exact h1
   ·simp at h1
  cases g with
  | none =>
   simp only [One, Cfg.cutL, Cfg.cutI] at h ⊢
   exact key h
  | some q =>
   obtain ⟨g, want⟩ := q
   simp only [One, gd, Cfg.cutL, Cfg.cutI] at h ⊢
   split at h
   ·exact ⟨fun e => key (h.1 e), h.2⟩
   ·exact h
   ·exact h.elim
 | _ => exact h
theorem FV {rm : List (Nat × Opd)} {x y : Ins} {A B : List Ins} (hAB : ∀ z ∈ A, z ∈ B) (hx : x ∈ A) (h : Cfg.swapI rm x (Cfg.cutL B y) = true) : Cfg.swapI rm x (Cfg.cutL A y) = true := by
 obtain ⟨d, g, i⟩ := y
 cases i with
 | sta n a v ps =>
  have hsub : ∀ p ∈ (ps.filter fun p => B.all fun x => (Cfg.dstO x.dst).all fun s => !(Cfg.seesO p).contains s), p ∈ (ps.filter fun p => A.all fun x => (Cfg.dstO x.dst).all fun s => !(Cfg.seesO p).contains s) := by
   intro p hp
   rw [List.mem_filter] at hp ⊢
   refine ⟨hp.1, ?_⟩
   rw [List.all_eq_true] at hp ⊢
   exact fun z hz => hp.2 z (hAB z hz)
  have hno : ∀ p ∈ (ps.filter fun p => A.all fun x => (Cfg.dstO x.dst).all fun s => !(Cfg.seesO p).contains s), ∀ s ∈ Cfg.dstO x.dst, s ∉ Cfg.seesO p := by
   intro p hp s hs
   rw [List.mem_filter, List.all_eq_true] at hp
   have := hp.2 x hx
   rw [List.all_eq_true] at this
   simpa using this s hs
  simp only [Cfg.swapI, Bool.and_eq_true] at h ⊢
  obtain ⟨h1, h2⟩ := h
  refine ⟨?_, ?_⟩
  ·simp only [Cfg.slotsApart, Bool.and_eq_true, List.all_eq_true, Bool.not_eq_true', Cfg.cutL, Cfg.cutI, Cfg.sees, Cfg.seesI] at h1 ⊢
   refine ⟨fun s hs => ?_, h1.2⟩
   obtain ⟨k1, k2⟩ := h1.1 s hs
   refine ⟨k1, ?_⟩
   have k3 : s ∉ _ := fun hm => by
    have := List.contains_iff_mem.2 hm
    rw [k2] at this
    exact Bool.noConfusion this
   rw [← Bool.not_eq_true]
   intro hm
   rw [List.contains_iff_mem] at hm
   apply k3
   rw [List.mem_append, List.mem_append] at hm ⊢
   rcases hm with hm | hm | hm
   ·exact .inl hm
   ·exact .inr (.inl hm)
   ·exfalso
    rw [List.mem_flatMap] at hm
    obtain ⟨p, hp, hsp⟩ := hm
    exact hno p hp s hs hsp
  ·have any_mono : ∀ {q : Opd → Bool}, (ps.filter fun p => B.all fun x => (Cfg.dstO x.dst).all fun s => !(Cfg.seesO p).contains s).any q = true → (ps.filter fun p => A.all fun x => (Cfg.dstO x.dst).all fun s => !(Cfg.seesO p).contains s).any q = true := by
    intro q hq
    rw [List.any_eq_true] at hq ⊢
    obtain ⟨p, hp, hpq⟩ := hq
    exact ⟨p, hsub p hp, hpq⟩
   have hst : Cfg.staI rm x.i (Cfg.cutI B (.sta n a v ps)) = true → Cfg.staI rm x.i (Cfg.cutI A (.sta n a v ps)) = true := by
    intro h
    cases hxi : x.i with
    | st _ b _ => rw [hxi] at h; exact any_mono h
    | sta _ b _ _ => rw [hxi] at h; exact any_mono h
    | _ =>
     rw [hxi] at h
     simp only [Cfg.cutI, Cfg.staI, Bool.and_eq_true, List.all_eq_true] at h ⊢
     exact ⟨h.1, h.2.1, fun p hp => any_mono (h.2.2 p hp)⟩
   have hq : ∀ L, Cfg.quietI (Cfg.cutI L (.sta n a v ps)) = false := fun _ => rfl
   have hf : ∀ L, (Cfg.cutI L (.sta n a v ps)).free = false := fun _ => rfl
   have hc : ∀ L, Cfg.clnI x.i (Cfg.cutI L (.sta n a v ps)) = false := fun _ => rfl
   simp only [Cfg.cutL, hq, hf, hc, Bool.false_and, Bool.and_false, Bool.false_or, Bool.or_false, Bool.or_eq_true] at h2 ⊢
   exact h2.imp id hst
 | _ => exact h
def vC (rm : List (Nat × Opd)) (y : Ins) : List (Nat × Ins) → Prop
 | [] => True
 | (_, x) :: xs => Cfg.swapI rm x (Cfg.cutL (x :: xs.map (·.2)) y) = true ∧ vC rm y xs
theorem pass {rm : List (Nat × Opd)} {y : Ins} {j : Nat} {go : Go4} (hg : Inv go) : ∀ (xs : List (Nat × Ins)) (env tl : Env) (mem : Mem) (nx : Nat), vC rm y xs → (∀ p ∈ xs, p.1 ≠ j ∧ Cfg.rootFits rm p.2 = true) → kC rm env tl → (Cfg.makesI y.i = true → look mem (base + j) = none) →
  (∀ q ∈ Cfg.lookO y.i, ∀ d, ro tl env q = some d → ∀ p ∈ xs, d.hd ≠ some (base + p.1)) →
  runL C base xs (fun e t m n => One C base y j e t m n go) env tl mem nx → One C base (Cfg.cutL (xs.map (·.2)) y) j env tl mem nx (runL C base xs go)
 | [], _, _, _, _, _, _, _, _, _, h => wH h
 | (i, x) :: xs, env, tl, mem, nx, hpk, hs, hrt, hfr, hcl, h => by
  simp only [runL] at h
  obtain ⟨hsw, hpk⟩ := hpk
  obtain ⟨hij, hrf⟩ := hs (i, x) (by simp)
  have hs' : ∀ p ∈ xs, p.1 ≠ j ∧ Cfg.rootFits rm p.2 = true := fun p hp => hs p (by simp [hp])
  have hlk : Cfg.lookO (Cfg.cutL (x :: xs.map (·.2)) y).i = Cfg.lookO y.i := KK
  have hmk : Cfg.makesI (Cfg.cutL (x :: xs.map (·.2)) y).i = Cfg.makesI y.i := GC
  have hsl : ∀ d ∈ Cfg.dstO x.dst, d ∉ Cfg.sees (Cfg.cutL (x :: xs.map (·.2)) y) := by
   simp only [Cfg.swapI, Bool.and_eq_true] at hsw
   exact (xV hsw.1).2.1
  have hcl2 : ∀ (v : D), ∀ q ∈ Cfg.lookO y.i, ∀ d, ro (putT x.dst v tl) (putE x.dst v env) q = some d → ∀ p ∈ xs, d.hd ≠ some (base + p.1) := fun v q hq d hd p hp => by
   rw [uW hsl (fun s hs => sS (u6 (by rw [hlk]; exact hq) s hs))] at hd
   exact hcl q hq d hd p (by simp [hp])
  have h2 : One C base x i env tl mem nx (fun e t m n => One C base (Cfg.cutL (x :: xs.map (·.2)) y) j e t m n (runL C base xs go)) := by
   by_cases hm : Cfg.makesI y.i = true
   ·have hxf : x.i.free = true := by
     simp only [Cfg.swapI, Bool.and_eq_true, Bool.or_eq_true] at hsw
     rcases hsw.2 with (((⟨h1, _⟩ | h1) | ⟨h1, _⟩) | h1) | h1
     ·have := (jW h1).2.2; rw [hmk, hm] at this; simp at this
     ·exact (jW h1).1
     ·exact h1
     ·obtain ⟨⟨q, hq⟩, _⟩ := C6 h1
      rw [← hmk] at hm
      cases hy : (Cfg.cutL (x :: xs.map (·.2)) y).i <;> rw [hy] at hq hm <;> simp [I.adr] at hq <;> simp [Cfg.makesI] at hm
     ·exact (CE h1).2.1
    obtain ⟨ox, hx1, hx2, hx3⟩ := k_ hxf (pA hrf hrt h)
    refine hx3 env tl mem nx _ (fun s _ => ⟨rfl, rfl⟩) (fun _ _ _ _ => fun _ _ _ h => h) ?_
    rw [BP]
    refine wH (pass hg xs _ _ _ _ hpk hs' hx1.1 (fun _ => ?_) (hcl2 _) hx1.2)
    rcases hx2 with e | ⟨⟨b, e⟩, _⟩
    ·rw [e]; exact hfr hm
    ·rw [e]; simp only [List.singleton_append, look]; rw [if_neg (by omega)]; exact hfr hm
   ·refine rO (fun s _ => ⟨rfl, rfl⟩) (Lk.refl mem) (fun d m m2 n hmm h => ?_) (pA hrf hrt h)
    rw [BP]
    exact wH (pass hg xs _ _ _ _ hpk hs' h.1 (fun h => absurd h hm) (hcl2 d) (qP (DD hg) xs _ _ _ _ _ _ _ (Lk.refl _) (Lk.refl _) hmm h.2))
  exact swap hij hsw hrt (fun h => hfr (hmk ▸ h)) (fun p hp d hd => hcl p (hlk ▸ hp) d hd (i, x) (by simp)) (qP hg xs) h2
structure Okd (C : Cfg) (ops : Array Oper) (pi : List Nat) (bf : Nat → Nat → Bool) (is : List Ins) : Prop where
 edge : ∀ i o, ops[i]? = some o → ∀ e ∈ o.after.toList, Region.binds .any e = true → e.on < i
 fit : ∀ x ∈ is, (∀ p ∈ Cfg.lookO x.i, Cfg.fitO C.gs p = true) ∧ Cfg.rootFits (Cfg.roots is) x = true
 apart : ∀ i j x y, i < j → is[i]? = some x → is[j]? = some y → pi.getD i 0 ≠ pi.getD j 0 ∧ (bf j i = true ∨ Cfg.swapI (Cfg.roots is) x (Cfg.cutL ((is.take j).drop i) y) = true)
theorem GI {ops : Array Oper} {pi : List Nat} {bf : Nat → Nat → Bool} (h : Cfg.drawOk C.gs ops pi bf is = true) : Okd C ops pi bf is := by
 simp only [Cfg.drawOk, Bool.and_eq_true, List.all_eq_true] at h
 obtain ⟨h1, h3, h2⟩ := h
 have mem_zip : ∀ {α : Type} (l : List α) (i : Nat) (x : α), l[i]? = some x → (x, i) ∈ l.zipIdx := by
  intro α l i x hx
  rw [List.mk_mem_zipIdx_iff_getElem?]; exact hx
 refine ⟨fun i o ho e he hb => ?_, fun x hx => by
  have := h3 x hx
  exact this, fun i j x y hij hx hy => ?_⟩
 ·have := h1 (o, i) (mem_zip _ _ _ (by simpa using ho)) e he
  simpa [hb] using this
 ·have := h2 (y, j) (mem_zip _ _ _ hy) (x, i) (mem_zip _ _ _ hx)
  simp only [hij, if_true, Bool.and_eq_true, bne_iff_ne, ne_eq, Bool.or_eq_true] at this
  exact this
theorem ID {b : Nat → Bool} {c kp : Bool} {i j : Nat} {x : Ins} {is xs : List Ins} {go : Go4} (hns : Cfg.notSta x.i = true) (h : One C base (Cfg.cutL xs (Cfg.tellI b c kp is x j)) i env tl mem nx go) : One C base x i env tl mem nx go := by
 obtain ⟨d, g, i0⟩ := x
 have lift : ∀ {i1 : I} (_ : ∀ {env tl : Env} {K : KD}, aX C (base + i) i1 env tl mem nx K → aX C (base + i) i0 env tl mem nx K), One C base ⟨d, g, i1⟩ i env tl mem nx go → One C base ⟨d, g, i0⟩ i env tl mem nx go := by
  intro i1 key h
  cases g with
  | none =>
   simp only [One] at h ⊢
   exact key h
  | some q =>
   obtain ⟨g, want⟩ := q
   simp only [One, gd] at h ⊢
   split at h
   ·exact ⟨fun e => key (h.1 e), h.2⟩
   ·exact h
   ·exact h.elim
 cases i0 with
 | st n a v =>
  simp only [Cfg.tellI] at h
  split at h
  ·exact h
  ·rename_i ps _
   simp only [Cfg.cutL, Cfg.cutI] at h
   refine lift ?_ h
   intro env tl K h
   obtain ⟨d, m, h1, h2⟩ := dF h
   unfold pZ at h1
   split at h1
   ·exact iA h1 h2
   ·simp at h1
 | ld g n y =>
  simp only [Cfg.tellI] at h
  split at h
  ·simp only [Cfg.cutL, Cfg.cutI] at h
   refine lift ?_ h
   intro env tl K h
   obtain ⟨d, r, h1, h2, h3⟩ := bV h
   refine eV h1 ?_ h3
   cases d <;> simp only [ldpD] at h2 <;> first | exact h2 | simp at h2
  ·exact h
 | fa off y =>
  simp only [Cfg.tellI] at h
  split at h
  ·simp only [Cfg.cutL, Cfg.cutI] at h
   refine lift ?_ h
   intro env tl K h
   obtain ⟨d, r, h1, h2, h3⟩ := bV h
   refine eV h1 ?_ h3
   cases d <;> simp only [fapD] at h2 <;> first | exact h2 | simp at h2
  ·exact h
 | cl f ys =>
  simp only [Cfg.tellI] at h
  split at h
  ·simp only [Cfg.cutL, Cfg.cutI] at h
   refine lift ?_ h
   intro env tl K h
   obtain ⟨g, caps, zs, h1, h2, h3⟩ := kU h
   show clK C.P _ _ _ _ _
   rw [h1, h2]; exact iV h3 fun d m n h => h.2
  ·exact h
 | sta n a v ps => simp [Cfg.notSta] at hns
 | _ => exact h
theorem sZ {is : List Ins} {z : Ins} {p j i : Nat} (h : is[p]? = some z) (h1 : j ≤ p) (h2 : p < i) : z ∈ (is.take i).drop j := by
 refine List.mem_of_getElem? (i := p - j) ?_
 rw [List.getElem?_drop, List.getElem?_take_of_lt (by omega), show j + (p - j) = p by omega]
 exact h
theorem IX {bf : Nat → Nat → Bool} {late kp : Bool} {i : Nat} : ∃ c, (Cfg.tell bf late kp is)[i]? = (is[i]?).map fun y => Cfg.tellI (bf i) c kp is y i := by
 simp only [Cfg.tell, List.getElem?_map, List.getElem?_zipIdx]
 cases is[i]? with
 | none => exact ⟨false, rfl⟩
 | some y => exact ⟨_, by simp only [Option.map_some, Nat.zero_add]; rfl⟩
theorem lU {bf : Nat → Nat → Bool} {late kp : Bool} : (Cfg.tell bf late kp is).length = is.length := by simp [Cfg.tell]
theorem M3 {n i : Nat} {listed : Array Bool} (hi : i < n) (hsz : listed.size = n) (hl : listed.getD i true = false) : unl n (listed.setIfInBounds i true) < unl n listed := by
 unfold unl
 refine xA _ i (by simpa using hi) (by simp [hl]) ?_ ?_
 ·rw [pQ (by omega)]; simp
 ·intro j hj
  rw [pQ (by omega)] at hj
  split at hj
  ·simp at hj
  ·exact hj
theorem HZ {n i : Nat} {listed : Array Bool} (h : unl n listed ≤ 0) (hi : i < n) : listed.getD i true = true := by
 unfold unl at h
 have h0 : (List.range n).filter (fun i => !listed.getD i true) = [] := List.eq_nil_of_length_eq_zero (by omega)
 have := List.filter_eq_nil_iff.1 h0 i (by simpa using hi)
 simpa using this
theorem CC {listed : Array Bool} {i : Nat} (hi : i < listed.size) : listed.getD i true = listed.getD i false := by
 simp [Array.getD_eq_getD_getElem?, hi]
theorem D2 {ops : Array Oper} {listed : Array Bool} {i : Nat} {o : Oper} (hsz : listed.size = ops.size) (ho : ops[i]? = some o) (hr : o.after.all (fun e => !Region.binds .any e || listed.getD e.on false) = true) (hc : vP ops listed) : vP ops (listed.setIfInBounds i true) := by
 have hi : i < ops.size := (Array.getElem?_eq_some_iff.1 ho).1
 intro j o' ho' hj m hm
 rw [pQ (by omega)] at hj ⊢
 split
 ·rfl
 ·rename_i him
  by_cases hij : i = j
  ·subst hij
   exact rE ho hc hr hm
  ·simp only [hij, if_false] at hj
   exact hc j o' ho' hj m hm
def dS (is : List Ins) (dn : Nat → Bool) (j n : Nat) : List (Nat × Ins) := (List.range' j n).filterMap fun i => if dn i then none else (is[i]?).map fun x => (i, x)
theorem y7 : ∀ (l : List Ins) (is : List Ins) (j : Nat) (dn : Nat → Bool), (∀ i, is[j + i]? = l[i]?) → (∀ i, dn i = false) → dS is dn j l.length = (l.zipIdx j).map fun p => (p.2, p.1)
 | [], _, _, _, _, _ => rfl
 | x :: l, is, j, dn, h, hl => by
  have h0 := h 0
  simp only [Nat.add_zero, List.getElem?_cons_zero] at h0
  have ih := y7 l is (j + 1) dn (fun i => by
   have := h (i + 1)
   rw [show j + (i + 1) = j + 1 + i by omega] at this
   simpa using this) hl
  unfold dS at ih ⊢
  simp only [hl, Bool.false_eq_true, if_false] at ih
  rw [List.length_cons, List.range'_succ, List.filterMap_cons]
  simp only [hl, h0, Option.map_some, Bool.false_eq_true, if_false, List.zipIdx_cons, List.map_cons]
  rw [ih]
theorem DS {dn : Nat → Bool} {i k : Nat} {x : Ins} (hi : i < k) (hl : dn i = false) (hx : is[i]? = some x) :
  dS is dn 0 k = dS is dn 0 i ++ (i, x) :: dS is dn (i + 1) (k - (i + 1)) := by
 unfold dS
 have e : List.range' 0 k = List.range' 0 i ++ i :: List.range' (i + 1) (k - (i + 1)) := by
  have e1 : i :: List.range' (i + 1) (k - (i + 1)) = List.range' i (k - i) := by
   rw [show k - i = (k - (i + 1)) + 1 by omega, List.range'_succ]
  rw [e1, show (List.range' i (k - i)) = List.range' (0 + 1 * i) (k - i) by simp, List.range'_append]
  congr 1; omega
 rw [e, List.filterMap_append, List.filterMap_cons]
 simp [hl, hx]
theorem oW {α β : Type} {f g : α → Option β} : ∀ {l : List α}, (∀ x ∈ l, f x = g x) → l.filterMap f = l.filterMap g
 | [], _ => rfl
 | x :: l, h => by rw [List.filterMap_cons, List.filterMap_cons, h x (by simp), oW fun y hy => h y (by simp [hy])]
theorem xW {dn dn' : Nat → Bool} : ∀ (j n : Nat), (∀ m, j ≤ m → m < j + n → dn' m = dn m) → dS is dn' j n = dS is dn j n := by
 intro j n h
 unfold dS
 refine oW fun m hm => ?_
 rw [List.mem_range'_1] at hm
 rw [h m hm.1 hm.2]
theorem qR {dn : Nat → Bool} {j n : Nat} {p : Nat × Ins} (h : p ∈ dS is dn j n) : j ≤ p.1 ∧ p.1 < j + n ∧ dn p.1 = false ∧ is[p.1]? = some p.2 := by
 unfold dS at h
 rw [List.mem_filterMap] at h
 obtain ⟨i, hi, h⟩ := h
 rw [List.mem_range'_1] at hi
 split at h
 ·simp at h
 ·rename_i hl
  rw [Option.map_eq_some_iff] at h
  obtain ⟨x, hx, rfl⟩ := h
  exact ⟨hi.1, hi.2, by simpa using hl, hx⟩
theorem xX {rm : List (Nat × Opd)} {is : List Ins} {dn : Nat → Bool} {y : Ins} {i : Nat} (hap : ∀ p x, p < i → dn p = false → is[p]? = some x → Cfg.swapI rm x (Cfg.cutL ((is.take i).drop p) y) = true) : ∀ n j, j + n = i → vC rm y (dS is dn j n)
 | 0, j, _ => trivial
 | n + 1, j, hj => by
  have ih := xX hap n (j + 1) (by omega)
  have hmem : ∀ q ∈ dS is dn (j + 1) n, j + 1 ≤ q.1 ∧ q.1 < i ∧ is[q.1]? = some q.2 := fun q hq => by
   obtain ⟨g1, g2, _, g4⟩ := qR hq
   exact ⟨g1, by omega, g4⟩
  have e : dS is dn j (n + 1) = (if dn j then [] else ((is[j]?).map fun x => (j, x)).toList) ++ dS is dn (j + 1) n := by
   unfold dS
   rw [List.range'_succ, List.filterMap_cons]
   cases hl : dn j with
   | true => simp
   | false => cases hx : is[j]? <;> simp
  rw [e]
  cases hl : dn j with
  | true => simpa using ih
  | false =>
   cases hx : is[j]? with
   | none => simpa using ih
   | some x =>
    show vC rm y ((j, x) :: dS is dn (j + 1) n)
    refine ⟨FV (fun z hz => ?_) (by simp) (hap j x (by omega) hl hx), ih⟩
    rcases List.mem_cons.1 hz with rfl | hz
    ·exact sZ hx (Nat.le_refl _) (by omega)
    ·obtain ⟨q, hq, rfl⟩ := List.mem_map.1 hz
     obtain ⟨g1, g2, g3⟩ := hmem q hq
     exact sZ g3 (by omega) g2
structure Perm (C : Cfg) (ops : Array Oper) (pi : List Nat) (bf : Nat → Nat → Bool) (js : List Ins) : Prop where
 len : js.length = ops.size
 ins : ∀ p x, js[p]? = some x → ∃ o, ops[pi.getD p 0]? = some o ∧ C.ins ops o = some x
 inj : ∀ p q, p < ops.size → q < ops.size → pi.getD p 0 = pi.getD q 0 → p = q
 all : ∀ i, i < ops.size → ∃ p, p < ops.size ∧ pi.getD p 0 = i
 bef : ∀ p q, p < ops.size → q < ops.size → bf q p = true → ((Region.before ops).getD (pi.getD q 0) 0).testBit (pi.getD p 0) = true
def eR (pi : List Nat) (listed : Array Bool) : Nat → Bool := fun p => listed.getD (pi.getD p 0) false
theorem LL {B : Rx} {ops : Array Oper} {K : Go4} {S0 : Nat → Prop} {φ0 : bA} {mem0 : Mem} {w0 : World} {N : Nat} {pi : List Nat} {bf : Nat → Nat → Bool} {late kp : Bool} (hK : Inv K) (hN : N ≤ base) (hpi : Perm C ops pi bf is) (hns : ∀ x ∈ is, Cfg.notSta x.i = true) (hok : Okd C ops pi bf (Cfg.tell bf late kp is))
  {Q : Exit → Act → World → Prop} (hQ : ∀ env tl mem nx S φ a w, K env tl mem nx → rV C B S φ env tl mem nx a w → Ext S0 φ0 mem0 w0 S φ mem w → Grow N φ0 φ nx → Q .normal a w) :
  ∀ (fuel : Nat) (listed : Array Bool) (env tl : Env) (mem : Mem) (nx : Nat) (S : Nat → Prop) (φ : bA) (a : Act) (w : World),
  listed.size = ops.size → unl ops.size listed ≤ fuel → vP ops listed → runL C base (dS (Cfg.tell bf late kp is) (eR pi listed) 0 ops.size) K env tl mem nx → kC (Cfg.roots (Cfg.tell bf late kp is)) env tl → rV C B S φ env tl mem nx a w → Ext S0 φ0 mem0 w0 S φ mem w → Grow N φ0 φ nx →
  (∀ p, p < ops.size → eR pi listed p = false → φ (base + p) = none) → base + ops.size ≤ nx → wpAny C.P .any ops Q fuel listed a w := by
 intro fuel
 have hbd : ∀ p, p < ops.size → pi.getD p 0 < ops.size := fun p hp => by
  obtain ⟨x, hx⟩ : ∃ x, is[p]? = some x := ⟨_, List.getElem?_eq_getElem (by rw [hpi.len]; exact hp)⟩
  obtain ⟨o, ho, _⟩ := hpi.ins p x hx
  exact (Array.getElem?_eq_some_iff.1 ho).1
 have hend : ∀ (listed : Array Bool) (env tl : Env) (mem : Mem) (nx : Nat), listed.size = ops.size → Region.ready .any ops listed = [] → runL C base (dS (Cfg.tell bf late kp is) (eR pi listed) 0 ops.size) K env tl mem nx → K env tl mem nx := by
  intro listed env tl mem nx hsz hall hr
  have : dS (Cfg.tell bf late kp is) (eR pi listed) 0 ops.size = [] := by
   apply List.eq_nil_iff_forall_not_mem.2
   intro p hp
   obtain ⟨_, h2, h3, _⟩ := qR hp
   have := D8 hsz hok.edge hall (pi.getD p.1 0) (hbd _ (by omega))
   unfold eR at h3
   rw [h3] at this; simp at this
  rw [this] at hr; exact hr
 induction fuel with
 | zero =>
  intro listed env tl mem nx S φ a w hsz hun hcl hr hrt hh hx hgr hf hn
  have hall : Region.ready .any ops listed = [] := by
   cases h : Region.ready .any ops listed with
   | nil => rfl
   | cons i l =>
    obtain ⟨o, _, h1, h2, _⟩ := wO (ops := ops) (listed := listed) (i := i) (by rw [h]; simp)
    rw [HZ hun h1] at h2; simp at h2
  exact ⟨hall, hQ _ _ _ _ _ _ _ _ (hend _ _ _ _ _ hsz hall hr) hh hx hgr⟩
 | succ fuel ih =>
  intro listed env tl mem nx S φ a w hsz hun hcl hr hrt hh hx hgr hf hn
  refine ⟨fun hall => hQ _ _ _ _ _ _ _ _ (hend _ _ _ _ _ hsz hall hr) hh hx hgr, fun i0 hi => ?_⟩
  obtain ⟨o, ho, h1, h2, h3⟩ := wO hi
  rw [CC (by omega)] at h2
  obtain ⟨i, hip, hpe⟩ := hpi.all i0 h1
  have hdn : eR pi listed i = false := by unfold eR; rw [hpe]; exact h2
  obtain ⟨x0, hx0⟩ : ∃ x, is[i]? = some x := ⟨_, List.getElem?_eq_getElem (by rw [hpi.len]; exact hip)⟩
  obtain ⟨x, c, hx', hxt⟩ : ∃ x c, (Cfg.tell bf late kp is)[i]? = some x ∧ x = Cfg.tellI (bf i) c kp is x0 i := by
   obtain ⟨c, h⟩ := IX (is := is) (bf := bf) (late := late) (kp := kp) (i := i)
   rw [hx0, Option.map_some] at h
   exact ⟨_, c, h, rfl⟩
  obtain ⟨o', ho', hins⟩ := hpi.ins i x0 hx0
  have : o' = o := by
   rw [hpe, ho] at ho'; exact (Option.some.inj ho').symm
  subst this
  rw [DS hip hdn hx', tU] at hr
  simp only [runL] at hr
  have hfree := hf i hip hdn
  have hone := pass (qP hK _) _ _ _ _ _ (xX (y := x) (i := i) (rm := Cfg.roots (Cfg.tell bf late kp is)) (fun p z hlt g3 g4 => by
   refine (hok.apart p i z x hlt g4 hx').2.resolve_left fun hb => ?_
   have hb := hpi.bef p i (by omega) hip hb
   rw [hpe] at hb
   have := rE ho hcl h3 hb
   unfold eR at g3
   rw [g3] at this; simp at this) i 0 (by omega)) (fun p hp => by
   obtain ⟨_, g2, g3, g4⟩ := qR hp
   exact ⟨by omega, (hok.fit _ (List.mem_of_getElem? g4)).2⟩) hrt (fun _ => by
   cases hl : look mem (base + i) with
   | none => rfl
   | some b =>
    obtain ⟨l, g1, _⟩ := hh.m.mem _ _ hl
    rw [hfree] at g1; simp at g1) (fun q hq d hd p hp e => by
   obtain ⟨_, g2, g3, g4⟩ := qR hp
   have hp2 := hf p.1 (by omega) g3
   have hfit := (hok.fit x (List.mem_of_getElem? hx')).1 q hq
   have hrep : ∃ v, Rep w S φ d v := by
    cases q with
    | t s => exact ⟨_, hh.known.tl s d (by simpa [Cfg.fitO] using hfit) hd⟩
    | g s => exact ⟨_, hh.known.env s d (by simpa [Cfg.fitO] using hfit) hd⟩
    | c v => simp only [ro, Option.some.injEq] at hd; subst hd; simp [D.hd] at e
    | f v => simp only [ro, Option.some.injEq] at hd; subst hd; simp [D.hd] at e
   obtain ⟨v, hv⟩ := hrep
   cases d <;> simp only [D.hd, Option.some.injEq] at e <;> try simp at e
   all_goals
    subst e
    simp only [Rep] at hv
    obtain ⟨l, hl, _⟩ := hv
    rw [hp2] at hl; simp at hl) hr
  rw [← tU] at hone
  have hone := pA (IZ (hok.fit x (List.mem_of_getElem? hx')).2) hrt hone
  rw [hxt] at hone
  have hone := ID (hns x0 (List.mem_of_getElem? hx0)) hone
  refine wpOp_mono ?_ (xR (k := i0) ho hins hone hh hfree (by omega))
  rintro a' w' ⟨S', φ', env', tl', mem', nx', g1, g2, g3, g4, g5, g6, _⟩
  have hdone : ∀ m, m < ops.size → eR pi (listed.setIfInBounds i0 true) m = if m = i then true else eR pi listed m := fun m hm => by
   unfold eR
   rw [pQ (by omega)]
   by_cases e : m = i
   ·subst e; rw [if_pos hpe.symm, if_pos rfl]
   ·rw [if_neg e, if_neg fun g => e (hpi.inj m i hm hip (by rw [hpe]; exact g.symm))]
  have hset : dS (Cfg.tell bf late kp is) (eR pi (listed.setIfInBounds i0 true)) 0 ops.size = dS (Cfg.tell bf late kp is) (eR pi listed) 0 i ++ dS (Cfg.tell bf late kp is) (eR pi listed) (i + 1) (ops.size - (i + 1)) := by
   have e : ∀ (L : Nat → Bool), dS (Cfg.tell bf late kp is) L 0 ops.size = dS (Cfg.tell bf late kp is) L 0 i ++ (dS (Cfg.tell bf late kp is) L i 1 ++ dS (Cfg.tell bf late kp is) L (i + 1) (ops.size - (i + 1))) := by
    intro L
    unfold dS
    rw [← List.filterMap_append, ← List.filterMap_append]
    congr 1
    rw [show List.range' i 1 ++ List.range' (i + 1) (ops.size - (i + 1)) = List.range' i (ops.size - i) by
     rw [show i + 1 = i + 1 * 1 by omega, List.range'_append]; congr 1; omega]
    rw [show (List.range' i (ops.size - i)) = List.range' (0 + 1 * i) (ops.size - i) by simp, List.range'_append]
    congr 1; omega
   rw [e, xW (dn := eR pi listed) 0 i (fun m _ hm => by rw [hdone m (by omega), if_neg (by omega)]), xW (dn := eR pi listed) (i + 1) _ (fun m hm hm2 => by rw [hdone m (by omega), if_neg (by omega)])]
   congr 1
   have : dS (Cfg.tell bf late kp is) (eR pi (listed.setIfInBounds i0 true)) i 1 = [] := by
    unfold dS
    simp [hdone i hip]
   rw [this, List.nil_append]
  refine ih (listed.setIfInBounds i0 true) env' tl' mem' nx' S' φ' a' w' (by simpa using hsz) (by have := M3 h1 hsz (by rw [CC (by omega)]; exact h2); omega) (D2 hsz ho h3 hcl) (by rw [hset]; exact g1.2) g1.1 g2 (hx.trans g4)
   (hgr.trans ⟨by omega, fun i hi hnn => g6 i (by omega) (by omega) hnn, g3.loc⟩) (fun m hm hml => ?_) (by omega)
  rw [hdone m hm] at hml
  split at hml
  ·simp at hml
  ·exact g6 _ (by omega) (by omega) (hf m hm hml)
def vL (ops : Array Oper) : Prop := ∀ (i : Nat) (o : Oper), ops[i]? = some o → ∀ c, o.op ≠ Op.defer c
theorem yY {rd : Option Nat} {P : Program} {ops : Array Oper} {Q : Exit → Act → World → Prop} (hd : vL ops) (hq : ∀ a w, ¬ Q .outgrown a w) {i : Nat} {K K' : Act → World → Prop} (hK : ∀ a w, K a w → K' a w) {a : Act} {w : World} (h : wpOp P ops Q i K a w) : wpOpIn (FrR rd) 0 P ops Q i K' a w := by
 unfold wpOp at h
 unfold wpOpIn
 cases ho : ops[i]? with
 | none => simp only [ho] at h ⊢; exact hK _ _ h
 | some o =>
  simp only [ho] at h ⊢
  have hcalls : ∀ {f : FuncId} {args : Array Value} {w : World} {R : Ending → World → Prop}, Calls P f args w R → CallsIn (FrR rd) 0 P f args w R := fun {f args w R} h => by
   have h2 := (callsIn_wide (n := 0)).2 h
   exact ⟨trivial, fun cs hr => by
    obtain ⟨e, w', fr, k1, k2, k3⟩ := h2.2 cs (room_wide _)
    exact ⟨e, w', fr, k1, k2, k3⟩⟩
  split
  ·rename_i hw
   simp only [hw, if_true] at h
   rcases h with h | ⟨_, a0, w0, h0⟩
   ·refine ⟨fun _ _ => trivial, ?_⟩
    rw [Oper.semAt_eq _ _ _ (hd i o ho)]
    unfold Oper.wp at h
    generalize (execOp a.eval o).run P w = r at h
    cases r with
    | ok x w' =>
     cases x <;> simp only [Oper.upon] at h <;> simp only [Oper.uponIn]
     all_goals first
      | exact hK _ _ h
      | exact ⟨fun g => by simp [FrR] at g, hcalls (h.mono fun e w'' he => by cases e <;> first | exact hK _ _ he | exact he)⟩
      | exact ⟨fun g => by simp [FrR] at g, fun c cs _ => by
        obtain ⟨v, w2, k1, k2⟩ := h c cs
        exact ⟨v, w2, hK _ _ k1, stepsIn_wide.2 k2⟩⟩
      | exact h.elim
    | halt x w' => cases x <;> simp only [Oper.upon] at h <;> simp only [Oper.uponIn] <;> first | exact h | exact h.elim
   ·exact absurd h0 (hq _ _)
  ·rename_i hw
   simp only [hw] at h
   exact ⟨fun _ _ => trivial, hK _ _ h⟩
theorem xT {rd : Option Nat} {P : Program} {ops : Array Oper} {Q : Exit → Act → World → Prop} (hd : vL ops) (hq : ∀ a w, ¬ Q .outgrown a w) : ∀ (l : List Nat) (a : Act) (w : World), wpOps P ops Q l a w → wpOpsIn (FrR rd) 0 P ops Q l a w
 | [], a, w, h => h
 | i :: l, a, w, h => by
  rw [wpOps_cons] at h
  rw [wpOpsIn_cons]
  exact yY hd hq (xT hd hq l) h
theorem wK {rd : Option Nat} {P : Program} {ops : Array Oper} {md : Region.Mode} {Q : Exit → Act → World → Prop} (hd : vL ops) (hq : ∀ a w, ¬ Q .outgrown a w) : ∀ (fuel : Nat) (listed : Array Bool) (a : Act) (w : World), wpAny P md ops Q fuel listed a w → wpAnyIn (FrR rd) 0 P md ops Q fuel listed a w
 | 0, listed, a, w, h => h
 | fuel + 1, listed, a, w, h => ⟨h.1, fun i hi => yY hd hq (wK hd hq fuel _) (h.2 i hi)⟩
theorem BH {ops : Array Oper} (his : ops.toList.mapM (C.ins ops) = some is) : vL ops := by
 intro i o ho c hc
 have hlen := fW his
 have hi : i < is.length := by
  rw [← hlen]
  simpa using (Array.getElem?_eq_some_iff.1 ho).1
 obtain ⟨o', ho', hins⟩ := kV his i is[i] (List.getElem?_eq_getElem hi)
 have e : ops.toList[i]? = some o := by simpa using ho
 rw [e] at ho'
 simp only [Option.some.injEq] at ho'
 subst ho'
 have := (CM hins).2.1
 rw [hc] at this
 simp [Cfg.op] at this
theorem EN {rd : Option Nat} {B : Rx} {rid : Nat} {ops : Array Oper} {K : Env → Env → Mem → Nat → Prop} {pi : List Nat} {bf : Nat → Nat → Bool} {late kp : Bool} (hmix : C.P.follows .mixedOrders = true) (hpi : Perm C ops pi bf is) (hnd : vL ops) (hns : ∀ x ∈ is, Cfg.notSta x.i = true) (hok : Cfg.drawOk C.gs ops pi bf (Cfg.tell bf late kp is) = true) (h : run C nx K (Cfg.tell bf late kp is) 0 env [] mem (nx + is.length))
  {N : Nat} (hN : N ≤ nx) (hh : rV C B S φ env [] mem (nx + is.length) a w) (hfree : ∀ i, i < is.length → φ (nx + i) = none) : (Code.region rid ops true).wpIn (FrR rd) 0 C.P (Post C B N S φ mem w (fun e s => e = .normal ∧ K s.env s.tl s.mem s.nx)) a w := by
 have hlen : is.length = ops.size := hpi.len
 have ho := GI hok
 refine wpIn_region_any hmix (wK hnd (fun a w ⟨_, _, _, h, _⟩ => by simp at h) _ _ _ _ ?_)
 obtain ⟨m1, m2, m3⟩ := MSim.of_heap (w := w) (w1 := { w with drawn := w.drawn + 1 }) rfl rfl rfl rfl hh.m
 have hk1 : d8 C { w with drawn := w.drawn + 1 } S φ env [] a := ⟨fun j d hj hl => Rep.mono m2 _ _ (hh.known.env j d hj hl), fun j d hj hl => Rep.mono m2 _ _ (hh.known.tl j d hj hl)⟩
 have hf0 : ∀ i, eR pi (Array.replicate ops.size false) i = false := by
  intro i
  unfold eR
  simp only [Array.getD_eq_getD_getElem?, Array.getElem?_replicate]
  split <;> rfl
 have hK : Inv (fun e t m n => ∃ e2 t2 m2, Lk e e2 ∧ Lk t t2 ∧ Lk m m2 ∧ K e2 t2 m2 n) := fun e t m n e2 t2 m2 he ht hm ⟨e3, t3, m3, h1, h2, h3, h4⟩ => ⟨e3, t3, m3, he.symm.trans h1, ht.symm.trans h2, hm.symm.trans h3, h4⟩
 have hr := zZ (K := fun e t m n => ∃ e2 t2 m2, Lk e e2 ∧ Lk t t2 ∧ Lk m m2 ∧ K e2 t2 m2 n) (Cfg.tell bf late kp is) 0 env [] mem (nx + is.length) (AP (fun e t m n h => ⟨e, t, m, Lk.refl _, Lk.refl _, Lk.refl _, h⟩) (Cfg.tell bf late kp is) 0 _ _ _ _ h)
 rw [← y7 (Cfg.tell bf late kp is) (Cfg.tell bf late kp is) 0 (eR pi (Array.replicate ops.size false)) (fun i => by simp) hf0, lU, hlen] at hr
 refine LL hK hN hpi hns ho (fun env tl mem nx S φ a w ⟨e2, t2, m2, h1, h2, h3, h4⟩ hh hx hg => ?_) ops.size (Array.replicate ops.size false) env [] mem (nx + ops.size) S φ a _ (by simp) ?_ ?_ hr EA ⟨hk1, hh.size, ⟨hh.defers.nd, hh.defers.marks, hh.defers.rd⟩, by rw [← hlen]; exact m1⟩ m3 (Grow.refl (by omega)) (fun i hi _ => hfree i (by omega)) (Nat.le_refl _)
 ·unfold unl
  exact Nat.le_trans (List.length_filter_le _ _) (by simp)
 ·intro i o _ hi
  have : (Array.replicate ops.size false).getD i false = false := by
   simp only [Array.getD_eq_getD_getElem?, Array.getElem?_replicate]
   split <;> rfl
  rw [this] at hi; simp at hi
 ·exact ⟨⟨e2, t2, m2, nx⟩, S, φ, ⟨rfl, h4⟩, ⟨hh.size, hh.defers, fun j d hj hl => hh.known.env j d hj (by rw [h1]; exact hl), fun j d hj hl => hh.known.tl j d hj (by rw [h2]; exact hl), CW h3 hh.m⟩,
   ⟨hx.sub, hx.keep, hx.size, fun b hb ⟨i, blk, l, g1, g2⟩ => hx.own b hb ⟨i, blk, l, by rw [h3]; exact g1, g2⟩, hx.news, hx.os, hx.output, hx.tape⟩, hg⟩
theorem iQ {n p : Nat} (h : p < n) : (List.range n).getD p 0 = p := by simp [List.getD_eq_getElem?_getD, h]
theorem Perm.text {ops : Array Oper} (his : ops.toList.mapM (C.ins ops) = some is) : Perm C ops (List.range is.length) (fun q p => ((Region.before ops).getD q 0).testBit p) is := by
 have hlen : is.length = ops.size := by rw [← fW his]; simp
 rw [hlen]
 refine ⟨hlen, fun p x hx => ?_, fun p q hp hq h => ?_, fun i hi => ⟨i, hi, iQ hi⟩, fun p q hp hq h => ?_⟩
 ·have hp : p < ops.size := by
   rw [← hlen]; exact (List.getElem?_eq_some_iff.1 hx).1
  obtain ⟨o, ho, hins⟩ := kV his p x hx
  rw [iQ hp]
  exact ⟨o, by simpa using ho, hins⟩
 ·rwa [iQ hp, iQ hq] at h
 ·rw [iQ hp, iQ hq]; exact h
theorem uV : ∀ (n : Nat) (f : Nat → Nat), (∀ p, p < n → f p < n) → (∀ p q, p < n → q < n → f p = f q → p = q) → ∀ i, i < n → ∃ p, p < n ∧ f p = i
 | 0, _, _, _, i, hi => absurd hi (by omega)
 | n + 1, f, hb, hinj, i, hi => by
  -- the last one's place is filled by n
  let g : Nat → Nat := fun p => if f p = n then f n else f p
  have hg : ∀ p, p < n → g p < n := fun p hp => by
   have h1 := hb p (by omega)
   have h2 := hb n (by omega)
   by_cases e : f p = n
   ·have : f n ≠ n := fun h => by have := hinj p n (by omega) (by omega) (by omega); omega
    simp only [g, if_pos e]; omega
   ·simp only [g, if_neg e]; omega
  have hgi : ∀ p q, p < n → q < n → g p = g q → p = q := fun p q hp hq h => by
   by_cases e1 : f p = n <;> by_cases e2 : f q = n
   ·exact hinj p q (by omega) (by omega) (by omega)
   ·simp only [g, if_pos e1, if_neg e2] at h
    have := hinj n q (by omega) (by omega) h; omega
   ·simp only [g, if_neg e1, if_pos e2] at h
    have := hinj p n (by omega) (by omega) h; omega
   ·simp only [g, if_neg e1, if_neg e2] at h
    exact hinj p q (by omega) (by omega) h
  have ih := uV n g hg hgi
  by_cases hin : i = n
  ·by_cases e : f n = n
   ·exact ⟨n, by omega, by omega⟩
   ·obtain ⟨p, hp, hgp⟩ := ih (f n) (by have := hb n (by omega); omega)
    by_cases e2 : f p = n
    ·exact ⟨p, by omega, by omega⟩
    ·simp only [g, if_neg e2] at hgp
     have := hinj p n (by omega) (by omega) hgp; omega
  ·obtain ⟨p, hp, hgp⟩ := ih i (by omega)
   by_cases e2 : f p = n
   ·simp only [g, if_pos e2] at hgp
    exact ⟨n, by omega, hgp⟩
   ·simp only [g, if_neg e2] at hgp
    exact ⟨p, by omega, hgp⟩
theorem Perm.of {ops : Array Oper} {pi : List Nat} {js : List Ins} (his : ops.toList.mapM (C.ins ops) = some is) (hjs : pi.mapM (is[·]?) = some js) (hl : is.length = pi.length) (hne : ∀ p q, p < q → q < pi.length → pi.getD p 0 ≠ pi.getD q 0) :
  Perm C ops pi (fun q p => ((Region.before ops).getD (pi.getD q 0) 0).testBit (pi.getD p 0)) js := by
 have hlen : is.length = ops.size := by rw [← fW his]; simp
 have hjl : js.length = ops.size := by rw [← fW hjs, ← hl, hlen]
 have hget : ∀ p x, js[p]? = some x → is[pi.getD p 0]? = some x := fun p x hx => by
  obtain ⟨i, hi, h⟩ := kV hjs p x hx
  rw [List.getD_eq_getElem?_getD, hi]; exact h
 have hb : ∀ p, p < ops.size → pi.getD p 0 < ops.size := fun p hp => by
  obtain ⟨x, hx⟩ : ∃ x, js[p]? = some x := ⟨_, List.getElem?_eq_getElem (by omega)⟩
  have := (List.getElem?_eq_some_iff.1 (hget p x hx)).1
  omega
 have hinj : ∀ p q, p < ops.size → q < ops.size → pi.getD p 0 = pi.getD q 0 → p = q := fun p q hp hq h => by
  rcases Nat.lt_trichotomy p q with h1 | h1 | h1
  ·exact absurd h (hne p q h1 (by omega))
  ·exact h1
  ·exact absurd h.symm (hne q p h1 (by omega))
 refine ⟨hjl, fun p x hx => ?_, hinj, uV _ _ hb hinj, fun p q _ _ h => h⟩
 obtain ⟨o, ho, hins⟩ := kV his _ x (hget p x hx)
 exact ⟨o, by simpa using ho, hins⟩
theorem IL {ops : Array Oper} {js : List Ins} (his : ops.toList.mapM (C.ins ops) = some is) (h : C.drawI ops is = some js) : ∃ pi bf late kp js0, js = Cfg.tell bf late kp js0 ∧ js0.length = is.length ∧ Perm C ops pi bf js0 ∧ Cfg.drawOk C.gs ops pi bf (Cfg.tell bf late kp js0) = true ∧ C.P.follows .mixedOrders = true ∧ ∀ x ∈ js0, Cfg.notSta x.i = true := by
 unfold Cfg.drawI at h
 simp only at h
 split at h
 ·rename_i hm
  simp only [Bool.and_eq_true, List.all_eq_true] at hm
  split at h
  ·rename_i hd
   simp only [Option.some.injEq] at h
   exact ⟨_, _, _, _, is, h.symm, rfl, Perm.text his, hd, hm.1, hm.2⟩
  ·split at h
   ·rename_i js0 hjs
    split at h
    ·rename_i hd
     simp only [Option.some.injEq] at h
     simp only [Bool.and_eq_true, beq_iff_eq] at hd
     have hl : js0.length = is.length := by rw [← fW hjs]; exact hd.1.symm
     refine ⟨_, _, _, _, js0, h.symm, hl, Perm.of his hjs hd.1 (fun p q hpq hq => ?_), hd.2, hm.1, fun x hx => ?_⟩
     ·have ho := GI hd.2
      have hpl : p < js0.length := by omega
      have hql : q < js0.length := by omega
      exact (ho.apart p q _ _ hpq (List.getElem?_eq_getElem (by rw [lU]; exact hpl)) (List.getElem?_eq_getElem (by rw [lU]; exact hql))).1
     ·obtain ⟨i, hi⟩ := List.getElem?_of_mem hx
      obtain ⟨k, hk, h2⟩ := kV hjs i x hi
      exact hm.2 x (List.mem_of_getElem? h2)
    ·simp at h
   ·simp at h
 ·simp at h
end
section
variable {C : Cfg} {Q : Exit → St → Prop} {env tl : Env} {mem : Mem} {nx : Nat}
theorem tN {id : Nat} {ops : Array Oper} {draw : Bool} {is : List Ins} {K : Env → Env → Mem → Nat → Prop} (hc : C.comp (.region id ops draw) = some (.reg is)) (h : run C nx K is 0 env [] mem (nx + is.length)) :
  T C (.region id ops draw) (fun e s => e = .normal ∧ K s.env s.tl s.mem s.nx) ⟨env, tl, mem, nx⟩ := by
 simp only [Cfg.comp, Option.bind_eq_bind, Option.bind_eq_some_iff] at hc
 obtain ⟨is', his, hc⟩ := hc
 intro x N S φ a w hN hB hs
 have hN : N ≤ nx := hN
 have hlen := fW his
 have hh : rV C x S φ env [] mem (nx + is'.length) a w := ⟨⟨hs.env, fun j d _ h => by simp [look] at h⟩, hs.size, hs.defers, ⟨hs.m.mem, hs.m.inj, hs.m.lt, fun i hi => hs.m.fresh i (Nat.le_trans (Nat.le_add_right _ _) hi), hs.m.sub⟩⟩
 cases draw with
 | false =>
  simp only [Bool.false_eq_true, if_false, Option.some.injEq, AC.reg.injEq] at hc; subst hc
  refine wpIn_region (xT (BH his) (fun a w ⟨_, _, _, h, _⟩ => by simp at h) _ _ _ ?_)
  rw [List.range_eq_range', ← Array.length_toList]
  exact wL hN ops.toList is' 0 env [] mem (nx + is'.length) S φ a w (fun i => by simp) his h hh (fun i _ _ => hs.m.fresh _ (Nat.le_add_right _ _)) (by omega)
 | true =>
  simp only [if_true] at hc
  split at hc
  ·rename_i js hd
   simp only [Option.some.injEq, AC.reg.injEq] at hc; subst hc
   obtain ⟨pi, bf, late, kp, js0, rfl, hl, hp, hok, hmix, hns⟩ := IL his hd
   rw [lU] at h
   rw [← hl] at hh
   exact EN hmix hp (BH his) hns hok h hN hh (fun i hi => hs.m.fresh _ (Nat.le_add_right _ _))
  ·simp at hc
theorem dH : Wk C ⟨env, tl, mem, nx⟩ ⟨env, [], mem, nx⟩ := fun B N S φ a w hn hs =>
 ⟨S, φ, ⟨hs.size, hs.defers, hs.env, fun j d _ h => by simp [look] at h, hs.m⟩, Ext.refl .., Grow.refl hn⟩
theorem E5 {c : Operand} {y : Opd} {x1 x2 : Code} {p q : Env → Mem → Nat → Prop} (hc : C.opd c = some y) (h : ifK y p q env tl mem nx) (hp : p env mem nx → T C x1 Q ⟨env, [], mem, nx⟩) (hq : q env mem nx → T C x2 Q ⟨env, [], mem, nx⟩) :
  T C (.cond c x1 x2) Q ⟨env, tl, mem, nx⟩ := by
 intro x N S φ a w hn hB hs
 unfold ifK ifb at h
 split at h
 ·rename_i b hro
  have hb := aU ⟨hs.env, hs.tl⟩ hc hro
  simp only [Rep] at hb
  refine wpIn_cond hb ?_
  cases b with
  | true => exact eB dH (hp (h.1 rfl)) x N S φ a w hn hB hs
  | false => exact eB dH (hq (h.2 rfl)) x N S φ a w hn hB hs
 ·exact h.elim
theorem BA {x : Code} {K : Env → Env → Mem → Nat → Prop} {s : St} {next : Code} (h : T C x (fun e s => e = .normal ∧ K s.env s.tl s.mem s.nx) s) (hn : ∀ env tl mem nx, K env tl mem nx → T C next Q ⟨env, tl, mem, nx⟩) : T C (.seq x next) Q s := by
 refine T_seq (vG ?_ h)
 rintro e s ⟨rfl, hk⟩
 exact hn _ _ _ _ hk
theorem FO {c : Code} {s : St} (h : T C c (fun e s => ∃ s', Wk C s s' ∧ Q e s') s) : T C c Q s := by
 intro x N S φ a w hn hB hs
 refine wpIn_mono (h x N S φ a w hn hB hs) ?_
 rintro e a' w' ⟨s1, S1, φ1, ⟨s2, hw, hq⟩, h1, h2, g1⟩
 obtain ⟨S2, φ2, h3, h4, g2⟩ := hw x N S1 φ1 a' w' g1.le h1
 exact ⟨s2, S2, φ2, hq, h3, h2.trans h4, g1.trans g2⟩
def A' (C : Cfg) : AC → (Exit → St → Prop) → Env → Env → Mem → Nat → Prop
 | .cond y p q, Q, env, tl, mem, nx => ifK y (A C p Q) (A C q Q) env tl mem nx
 | .seq (.cond y p q) z, Q, env, tl, mem, nx => ifK y (A C p (fZ (fun s => A C z Q s.env s.mem s.nx) Q)) (A C q (fZ (fun s => A C z Q s.env s.mem s.nx) Q)) env tl mem nx
 | ac, Q, env, _, mem, nx => A C ac Q env mem nx
theorem A'_of_A {ac : AC} (h : A C ac Q env mem nx) : A' C ac Q env [] mem nx := by
 unfold A'
 split <;> exact h
theorem AI {x : Code} {is : List Ins} (h : C.comp x = some (.reg is)) : ∃ id ops draw, x = .region id ops draw := by
 cases x with
 | region id ops draw => exact ⟨id, ops, draw, rfl⟩
 | seq p q =>
  simp only [Cfg.comp, Option.bind_eq_bind, Option.bind_eq_some_iff] at h
  obtain ⟨a, _, b, _, h⟩ := h
  split at h <;> simp at h
 | _ => simp [Cfg.comp, Option.bind_eq_some_iff] at h
theorem B7 {x y : Code} {ac : AC} (h : C.comp (.seq x y) = some ac) : ∃ a b, C.comp x = some a ∧ C.comp y = some b ∧
  ((∃ is c p q, a = .reg is ∧ b = .cond c p q ∧ ac = .ifr is c p q) ∨ (∃ is c p q z, a = .reg is ∧ b = .seq (.cond c p q) z ∧ ac = .seq (.ifr is c p q) z) ∨ ac = .seq a b) := by
 simp only [Cfg.comp, Option.bind_eq_bind, Option.bind_eq_some_iff] at h
 obtain ⟨a, ha, b, hb, h⟩ := h
 refine ⟨a, b, ha, hb, ?_⟩
 split at h
 ·simp only [Option.some.injEq] at h
  exact .inl ⟨_, _, _, _, rfl, rfl, h.symm⟩
 ·simp only [Option.some.injEq] at h
  exact .inr (.inl ⟨_, _, _, _, _, rfl, rfl, h.symm⟩)
 ·simp only [Option.some.injEq] at h
  exact .inr (.inr h.symm)
theorem A'_sound : ∀ (c : Code) (ac : AC), C.comp c = some ac → ∀ (Q : Exit → St → Prop) (env tl : Env) (mem : Mem) (nx : Nat), A' C ac Q env tl mem nx → T C c Q ⟨env, tl, mem, nx⟩ := by
 intro c
 induction c with
 | skip => intro ac h Q env tl mem nx hA; simp only [Cfg.comp, Option.some.injEq] at h; subst h; exact eB dH (T_skip hA)
 | region id ops draw =>
  intro ac h Q env tl mem nx hA
  have h0 := h
  simp only [Cfg.comp, Option.bind_eq_bind, Option.bind_eq_some_iff] at h
  obtain ⟨is, his, h⟩ := h
  obtain ⟨is0, rfl⟩ : ∃ is0, ac = .reg is0 := by
   split at h
   ·split at h
    ·simp only [Option.some.injEq] at h; exact ⟨_, h.symm⟩
    ·simp at h
   ·simp only [Option.some.injEq] at h; exact ⟨_, h.symm⟩
  refine FO (vG ?_ (tN (tl := tl) h0 hA))
  rintro e ⟨env', tl', mem', nx'⟩ ⟨rfl, hk⟩
  exact ⟨_, dH, hk⟩
 | seq x y ihx ihy =>
  intro ac h Q env tl mem nx hA
  obtain ⟨a, b, ha, hb, h | h | h⟩ := B7 h
  ·obtain ⟨is, c, p, q, rfl, rfl, rfl⟩ := h
   obtain ⟨id, ops, draw, rfl⟩ := AI ha
   exact BA (tN (tl := tl) ha hA) fun env' tl' mem' nx' hk => ihy _ hb Q env' tl' mem' nx' hk
  ·obtain ⟨is, c, p, q, z, rfl, rfl, rfl⟩ := h
   obtain ⟨id, ops, draw, rfl⟩ := AI ha
   exact BA (tN (tl := tl) ha hA) fun env' tl' mem' nx' hk => ihy _ hb Q env' tl' mem' nx' hk
  ·subst h
   refine T_seq ?_
   have hQ : ∀ e s, fZ (fun s => A C b Q s.env s.mem s.nx) Q e s → ∃ s', Wk C s s' ∧ fZ (T C y Q) Q e s' := by
    intro e s hq
    cases e with
    | normal =>
     obtain ⟨env', tl', mem', nx'⟩ := s
     exact ⟨_, dH, ihy b hb Q env' [] mem' nx' (A'_of_A hq)⟩
    | _ => exact ⟨s, Wk.refl, hq⟩
   refine FO (vG hQ ?_)
   cases a with
   | cond y' p q => exact ihx _ ha _ env tl mem nx hA
   | _ => exact eB dH (ihx _ ha _ env [] mem nx (A'_of_A hA))
 | cond c x y ihx ihy =>
  intro ac h Q env tl mem nx hA
  simp only [Cfg.comp, Option.bind_eq_bind, Option.bind_eq_some_iff, Option.some.injEq] at h
  obtain ⟨o, ho, a1, h1, a2, h2, rfl⟩ := h
  exact E5 ho hA (fun h => ihx a1 h1 Q env [] mem nx (A'_of_A h)) (fun h => ihy a2 h2 Q env [] mem nx (A'_of_A h))
 | block id x ih =>
  intro ac h Q env tl mem nx hA
  simp only [Cfg.comp, Option.bind_eq_bind, Option.bind_eq_some_iff, Option.some.injEq] at h
  obtain ⟨a1, h1, rfl⟩ := h
  exact eB dH (L8 (ih a1 h1 _ env [] mem nx (A'_of_A hA)))
 | loop x ih =>
  intro ac h Q env tl mem nx hA
  have h0 := h
  simp only [Cfg.comp, Option.bind_eq_bind, Option.bind_eq_some_iff, Option.some.injEq] at h
  obtain ⟨a1, h1, rfl⟩ := h
  exact eB dH (hA _ h0)
 | rangeFunc f ps a b iha ihb =>
  intro ac h Q env tl mem nx hA
  have h0 := h
  simp only [Cfg.comp, Option.bind_eq_bind, Option.bind_eq_some_iff] at h
  obtain ⟨g, hg, a1, h1, a2, h2, h⟩ := h
  simp only [Option.some.injEq] at h
  subst h
  exact eB dH (hA _ h0)
 | exit id => intro ac h Q env tl mem nx hA; simp only [Cfg.comp, Option.some.injEq] at h; subst h; exact eB dH (T_exit hA)
 | scope x ih =>
  intro ac h Q env tl mem nx hA
  have h0 := h
  simp only [Cfg.comp, Option.bind_eq_bind, Option.bind_eq_some_iff, Option.some.injEq] at h
  obtain ⟨a1, h1, rfl⟩ := h
  exact eB dH (hA _ h0)
 | label l => intro ac h Q env tl mem nx hA; simp only [Cfg.comp, Option.some.injEq] at h; subst h; exact eB dH (L7 hA)
 | goto l => intro ac h Q env tl mem nx hA; simp only [Cfg.comp, Option.some.injEq] at h; subst h; exact eB dH (T_goto hA)
 | ret => intro ac h Q env tl mem nx hA; simp only [Cfg.comp, Option.some.injEq] at h; subst h; exact eB dH (T_ret hA)
 | refuse w => intro ac h; simp [Cfg.comp] at h
theorem v7 {c : Code} {ac : AC} (h : C.comp c = some ac) (hA : A C ac Q env mem nx) : T C c Q ⟨env, [], mem, nx⟩ := A'_sound c ac h Q env [] mem nx (A'_of_A hA)
theorem LF {ac : AC} (h : A C ac Q env mem nx) : TA C ac Q ⟨env, [], mem, nx⟩ := fun _ hc => v7 hc h
theorem rY {ac : AC} {s s' : St} (h : Wk C s s') (k : TA C ac Q s') : TA C ac Q s := fun c hc => eB h (k c hc)
theorem MZ {ac : AC} {Q' : Exit → St → Prop} {s : St} (hq : ∀ e s, Q e s → Q' e s) (h : TA C ac Q s) : TA C ac Q' s := fun c hc => vG hq (h c hc)
theorem NI {α : Type} {x : AC} (st : α → St) (inv : α → Prop) (μ : α → Nat)
  (round : ∀ y, inv y → TA C x (fZ (fun s' => ∃ z, inv z ∧ μ z < μ y ∧ Wk C s' (st z)) Q) (st y)) (x0 : α) (h0 : inv x0) : TA C (.loop x) Q (st x0) := by
 intro c hc
 cases c with
 | loop y =>
  simp only [Cfg.comp, Option.bind_eq_bind, Option.bind_eq_some_iff, Option.some.injEq, AC.loop.injEq] at hc
  obtain ⟨a1, h1, rfl⟩ := hc
  exact T_loop st inv μ (fun y' hy => round y' hy _ h1) x0 h0
 | seq p q =>
  obtain ⟨a, b, _, _, h | h | h⟩ := B7 hc
  ·obtain ⟨is, c, p, q, _, _, e⟩ := h; simp at e
  ·obtain ⟨is, c, p, q, z, _, _, e⟩ := h; simp at e
  ·simp at h
 | region id ops draw =>
  simp only [Cfg.comp, Option.bind_eq_bind, Option.bind_eq_some_iff] at hc
  obtain ⟨is, _, h⟩ := hc
  split at h
  ·split at h <;> simp at h
  ·simp at h
 | _ => simp [Cfg.comp, Option.bind_eq_some_iff] at hc
end
inductive RV where
 | t (j : Nat)
 | c (j : Nat) (g : Bool) (n : Nat)
def Cfg.rv (C : Cfg) : ResultVar → Option RV
 | .tmp t => if C.gs.contains t then some (.t t) else none
 | .cell t ty => if C.gs.contains t then (match Program.tsz C.P ty with
  | some (g, n) => some (.c t g n)
  | none => none) else none
def resV (env : Env) (mem : Mem) : RV → Option D
 | .t j => look env j
 | .c j g n => match look env j with
  | some x => ldD mem g n x
  | none => none
def mD (env : Env) (mem : Mem) : List RV → Option (List D)
 | [] => some []
 | r :: rs => match resV env mem r, mD env mem rs with
  | some d, some ds => some (d :: ds)
  | _, _ => none
mutual
/-- What is handed back: owned blocks are only read from then on. -/
def frz (mem : Mem) : Nat → D → Option D
 | 0, _ => none
 | _ + 1, .top => some .top
 | _ + 1, .zs => some (.sl [])
 | _ + 1, .pl v => match v with
  | .slice none 0 0 => some (.sl [])
  | v => some (.pl v)
 | _ + 1, .sl es => if D.immss es then some (.sl es) else none
 | _ + 1, .pt cs => if D.imms cs then some (.pt cs) else none
 | n + 1, .opt id off => match look mem id with
  | some (.box cs) => match gL mem n (cs.drop off) with
   | some ds => some (.pt ds)
   | none => none
  | _ => none
 | _ + 1, .osl id ver lo m => match look mem id with
  | some (.arr v _ es) => if v = ver ∧ lo + m ≤ es.length ∧ D.immss es = true then some (.sl ((es.drop lo).take m)) else none
  | _ => none
 | _ + 1, .oel _ _ _ _ => none
 | _ + 1, .omap _ => none
 | _ + 1, .fn f cs => if D.imms cs then some (.fn f cs) else none
 | n + 1, .agg cs => match gL mem n cs with
  | some ds => some (.agg ds)
  | none => none
 | n + 1, .tup cs => match gL mem n cs with
  | some ds => some (.tup ds)
  | none => none
def gL (mem : Mem) : Nat → List D → Option (List D)
 | 0, _ => none
 | _ + 1, [] => some []
 | n + 1, d :: ds => match frz mem n d, gL mem n ds with
  | some d, some ds => some (d :: ds)
  | _, _ => none
end
def kI : List D → D
 | [d] => d
 | ds => .tup ds
def fin (rs : List RV) (env : Env) (mem : Mem) : Option D :=
 match mD env mem rs with
 | some ds => frz mem 100 (kI ds)
 | none => none
def RetQ (rs : List RV) (res : D) : Exit → St → Prop
 | .normal, s => fin rs s.env s.mem = some res
 | .ret, s => fin rs s.env s.mem = some res
 | _, _ => False
def rF (gs : List Nat) (args : List D) : Env := gs.map fun j => (j, (args[j]?).getD (.pl undef))
section
variable {C : Cfg} {w w' : World} {S S' : Nat → Prop} {φ φ' : bA} {a : Act} {env tl : Env} {mem : Mem} {nx id : Nat}
def SF (S : Nat → Prop) (φ : bA) (mem : Mem) (b : Nat) : Prop := S b ∨ Own φ mem b
theorem jI : Stays w S φ w (SF S φ mem) φ := Stays.of_heap (fun _ h => .inl h) (fun _ _ => rfl) (fun _ _ h => h)
theorem zM {d : D} {x : Value} (hi : D.imm d = true) (h : Rep w S φ d x) : Rep w (SF S φ mem) cN d x :=
 vV d x hi (Rep.mono jI d x h)
mutual
theorem jU (hm : MSim S φ mem nx w) : ∀ (n : Nat) (d d' : D) (x : Value), frz mem n d = some d' → Rep w S φ d x → Rep w (SF S φ mem) cN d' x
 | 0, d, d', x, h, _ => by simp [frz] at h
 | n + 1, .top, d', x, h, _ => by simp only [frz, Option.some.injEq] at h; subst h; simp [Rep]
 | n + 1, .zs, d', x, h, hr => by
  simp only [frz, Option.some.injEq] at h; subst h
  simp only [Rep] at hr ⊢
  exact .inl ⟨trivial, hr⟩
 | n + 1, .pl v, d', x, h, hr => by
  simp only [Rep] at hr; subst hr
  simp only [frz] at h
  split at h
  ·simp only [Option.some.injEq] at h; subst h; simp [Rep, Zs]
  ·simp only [Option.some.injEq] at h; subst h; simp [Rep]
 | n + 1, .sl es, d', x, h, hr => by
  simp only [frz, Option.ite_none_right_eq_some, Option.some.injEq] at h
  obtain ⟨hi, rfl⟩ := h
  exact zM (by simpa [D.imm] using hi) hr
 | n + 1, .pt cs, d', x, h, hr => by
  simp only [frz, Option.ite_none_right_eq_some, Option.some.injEq] at h
  obtain ⟨hi, rfl⟩ := h
  exact zM (by simpa [D.imm] using hi) hr
 | n + 1, .opt i off, d', x, h, hr => by
  simp only [frz] at h
  split at h
  ·rename_i cs hl
   split at h
   ·rename_i ds hds
    simp only [Option.some.injEq] at h; subst h
    obtain ⟨l, hφ, _, hb⟩ := hm.mem i _ hl
    simp only [Rep] at hr
    obtain ⟨l', hφ', _, rfl⟩ := hr
    rw [hφ] at hφ'; simp only [Option.some.injEq] at hφ'; subst hφ'
    simp only [BRep] at hb
    obtain ⟨hrl, _, h0, _, hc⟩ := hb
    simp only [Rep]
    refine ⟨l.b, l.base + off, rfl, .inr ⟨i, _, l, hl, hφ, hrl, rfl⟩, ?_⟩
    rw [h0]
    exact uO hm n (cs.drop off) ds l.b (0 + off) hds (fT off cs l.b 0 hc)
   ·simp at h
  ·simp at h
 | n + 1, .osl i ver lo m, d', x, h, hr => by
  simp only [frz] at h
  split at h
  ·rename_i v k es hl
   simp only [Option.ite_none_right_eq_some, Option.some.injEq] at h
   obtain ⟨⟨hv, hle, hi⟩, rfl⟩ := h
   obtain ⟨l, hφ, _, hb⟩ := hm.mem i _ hl
   simp only [Rep] at hr
   obtain ⟨l', hφ', _, _, hx⟩ := hr
   rw [hφ] at hφ'; simp only [Option.some.injEq] at hφ'; subst hφ'
   simp only [BRep] at hb
   obtain ⟨_, hver, hk, hb⟩ := hb
   have hlen : ((es.drop lo).take m).length = m := by simp; omega
   rcases hx (by omega) with ⟨r1, rfl, rfl, hz⟩ | ⟨r1, cap, rfl, c1, c2⟩ | ⟨r1, rfl, _, oo, c0, rfl⟩
   rotate_right
   ·simp only [List.take_zero, Rep]
    exact .inr ⟨l.b, oo, c0, k, rfl, by simp, .inr ⟨i, _, l, hl, hφ, r1, rfl⟩, trivial⟩
   ·simp only [List.take_zero, Rep]
    exact .inl ⟨trivial, hz⟩
   ·rcases hb with hb | ⟨_, _, _, hes⟩
    ·simp [hb.1] at r1
    ·simp only [Rep]
     right
     refine ⟨l.b, l.base + lo * l.k, cap, k, by rw [hlen], by rw [hlen]; exact c1, .inr ⟨i, _, l, hl, hφ, r1, rfl⟩, ?_⟩
     have himm : D.immss ((es.drop lo).take m) = true := w_ hi fun e he => List.mem_of_mem_drop (List.mem_of_mem_take he)
     rw [hk]
     exact rN _ _ _ _ himm (RepEs.mono jI _ _ _ _ (fun _ => rfl) (kF m _ _ _ _ (j7 lo _ _ _ _ hes)))
  ·simp at h
 | n + 1, .oel _ _ _ _, d', x, h, hr => by simp [frz] at h
 | n + 1, .omap _, d', x, h, hr => by simp [frz] at h
 | n + 1, .fn f cs, d', x, h, hr => by
  simp only [frz, Option.ite_none_right_eq_some, Option.some.injEq] at h
  obtain ⟨hi, rfl⟩ := h
  exact zM (by simpa [D.imm] using hi) hr
 | n + 1, .agg cs, d', x, h, hr => by
  simp only [frz] at h
  split at h
  ·rename_i ds hds
   simp only [Option.some.injEq] at h; subst h
   simp only [Rep] at hr ⊢
   obtain ⟨vs, rfl, hv⟩ := hr
   exact ⟨vs, rfl, iU hm n cs ds _ hds hv⟩
  ·simp at h
 | n + 1, .tup cs, d', x, h, hr => by
  simp only [frz] at h
  split at h
  ·rename_i ds hds
   simp only [Option.some.injEq] at h; subst h
   simp only [Rep] at hr ⊢
   obtain ⟨vs, rfl, hv⟩ := hr
   exact ⟨vs, rfl, iU hm n cs ds _ hds hv⟩
  ·simp at h
theorem iU (hm : MSim S φ mem nx w) : ∀ (n : Nat) (ds ds' : List D) (xs : List Value), gL mem n ds = some ds' → RepVs w S φ ds xs → RepVs w (SF S φ mem) cN ds' xs
 | 0, ds, ds', xs, h, _ => by simp [gL] at h
 | n + 1, [], ds', xs, h, hr => by
  simp only [gL, Option.some.injEq] at h; subst h
  simpa [RepVs] using hr
 | n + 1, d :: ds, ds', xs, h, hr => by
  simp only [gL] at h
  split at h
  ·rename_i d1 ds1 h1 h2
   simp only [Option.some.injEq] at h; subst h
   simp only [RepVs] at hr ⊢
   obtain ⟨x, r, rfl, g1, g2⟩ := hr
   exact ⟨x, r, rfl, jU hm n d d1 x h1 g1, iU hm n ds ds1 r h2 g2⟩
  ·simp at h
theorem uO (hm : MSim S φ mem nx w) : ∀ (n : Nat) (ds ds' : List D) (b o : Nat), gL mem n ds = some ds' → RepCs w S φ ds b o → RepCs w (SF S φ mem) cN ds' b o
 | 0, ds, ds', b, o, h, _ => by simp [gL] at h
 | n + 1, [], ds', b, o, h, hr => by
  simp only [gL, Option.some.injEq] at h; subst h
  simp [RepCs]
 | n + 1, d :: ds, ds', b, o, h, hr => by
  simp only [gL] at h
  split at h
  ·rename_i d1 ds1 h1 h2
   simp only [Option.some.injEq] at h; subst h
   simp only [RepCs] at hr ⊢
   obtain ⟨⟨x, hx, g1⟩, g2⟩ := hr
   exact ⟨⟨x, hx, jU hm n d d1 x h1 g1⟩, uO hm n ds ds1 b (o + 1) h2 g2⟩
  ·simp at h
theorem w_ : ∀ {es : List (List D)} {fs : List (List D)}, D.immss es = true → (∀ e ∈ fs, e ∈ es) → D.immss fs = true
 | es, [], _, _ => rfl
 | es, f :: fs, h, hs => by
  simp only [D.immss, Bool.and_eq_true]
  refine ⟨?_, w_ h fun e he => hs e (by simp [he])⟩
  have : ∀ (es : List (List D)), D.immss es = true → ∀ e ∈ es, D.imms e = true := by
   intro es
   induction es with
   | nil => intro _ e he; simp at he
   | cons a es ih =>
    intro h e he
    simp only [D.immss, Bool.and_eq_true] at h
    rcases List.mem_cons.1 he with rfl | he
    ·exact h.1
    ·exact ih h.2 e he
  exact this es h f (hs f (by simp))
end
def u5 (a : Act) : ResultVar → Sem Value
 | .tmp t => Pure.pure (a.tmps.getD t undef)
 | .cell t ty => do loadVar ty (← asAddr (a.tmps.getD t undef))
theorem DG {r : ResultVar} {x : RV} {d : D} (hr : C.rv r = some x) (h : resV env mem x = some d) (hk : d8 C w S φ env tl a) (hm : MSim S φ mem nx w) :
  ∃ v, Rep w S φ d v ∧ (u5 a r).run C.P w = .ok v w := by
 cases r with
 | tmp t =>
  simp only [Cfg.rv, Option.ite_none_right_eq_some, Option.some.injEq] at hr
  obtain ⟨ht, rfl⟩ := hr
  exact ⟨_, hk.env t d (by simpa using ht) h, rfl⟩
 | cell t ty =>
  simp only [Cfg.rv, Option.ite_none_right_eq_some] at hr
  obtain ⟨ht, hr⟩ := hr
  split at hr
  ·rename_i g n htz
   simp only [Option.some.injEq] at hr; subst hr
   simp only [resV] at h
   split at h
   ·rename_i y hy
    have hrep := hk.env t y (by simpa using ht) hy
    obtain ⟨v, hv, hrun⟩ := y_ htz h hm hrep
    refine ⟨v, hv, ?_⟩
    obtain ⟨cs, hc⟩ : ∃ cs, rdc mem n y = some cs := by
     unfold ldD at h
     split at h
     ·exact ⟨_, by assumption⟩
     ·simp at h
    obtain ⟨_, b, o, hp, _⟩ := yD hc hm hrep
    simp only [u5]
    rw [hp] at hrun ⊢
    simpa [Instr.loadAt, Instr.sureAddr, asAddr] using hrun
   ·simp at h
  ·simp at hr
theorem vS (hk : d8 C w S φ env tl a) (hm : MSim S φ mem nx w) : ∀ (rs : List ResultVar) (xs : List RV) (ds : List D), rs.mapM C.rv = some xs → mD env mem xs = some ds →
  ∃ vs : List Value, RepVs w S φ ds vs ∧ (rs.mapM (u5 a)).run C.P w = .ok vs w
 | [], xs, ds, h1, h2 => by
  simp only [List.mapM_nil, Option.pure_def, Option.some.injEq] at h1; subst h1
  simp only [mD, Option.some.injEq] at h2; subst h2
  exact ⟨[], by simp [RepVs], rfl⟩
 | r :: rs, xs, ds, h1, h2 => by
  simp only [List.mapM_cons, Option.bind_eq_bind, Option.bind_eq_some_iff, Option.pure_def, Option.some.injEq] at h1
  obtain ⟨x, hx, xs', hxs, rfl⟩ := h1
  simp only [mD] at h2
  split at h2
  ·rename_i d ds' hd hds
   simp only [Option.some.injEq] at h2; subst h2
   obtain ⟨v, hv, hrun⟩ := DG hx hd hk hm
   obtain ⟨vs, hvs, hrun2⟩ := vS hk hm rs xs' ds' hxs hds
   refine ⟨v :: vs, by simp only [RepVs]; exact ⟨v, vs, rfl, hv, hvs⟩, ?_⟩
   rw [List.mapM_cons, Sem.run_bind]
   rw [hrun]
   simp only [Result.andThen_ok, Sem.run_bind, hrun2, Sem.run_pure]
  ·simp at h2
theorem sY {fn : Func} {xs : List RV} {ds : List D} (hk : d8 C w S φ env tl a) (hm : MSim S φ mem nx w) (h1 : fn.results.toList.mapM C.rv = some xs) (h2 : mD env mem xs = some ds) :
  ∃ v, Rep w S φ (kI ds) v ∧ (results fn a.tmps).run C.P w = .ok v w := by
 obtain ⟨vs, hv, hrun⟩ := vS hk hm _ _ _ h1 h2
 have hres : results fn a.tmps = (do let vs ← fn.results.mapM (u5 a); pure (if h : vs.size = 1 then vs[0] else .tuple vs)) := by
  unfold results
  congr 2
 rw [hres, Sem.run_bind, Array.mapM_eq_mapM_toList, Sem.run_map]
 refine ⟨if h : vs.toArray.size = 1 then vs.toArray[0] else .tuple vs.toArray, ?_, ?_⟩
 ·cases ds with
  | nil =>
   simp only [RepVs] at hv; subst hv
   simp [kI, Rep, RepVs]
  | cons d ds =>
   cases ds with
   | nil =>
    simp only [RepVs] at hv
    obtain ⟨x, r, rfl, h1, rfl⟩ := hv
    simpa [kI] using h1
   | cons d2 ds =>
    have hl := cC _ _ hv
    have : ¬ vs.toArray.size = 1 := by simp at hl ⊢; omega
    rw [dif_neg this]
    simp only [kI, Rep]
    exact ⟨vs.toArray, rfl, by simpa using hv⟩
 ·rw [hrun]
  simp only [Result.andThen_ok, Sem.run_pure]
theorem rL (args : List D) : ∀ (gs : List Nat) (j : Nat) (d : D), look (rF gs args) j = some d → d = (args[j]?).getD (.pl undef)
 | [], j, d, h => by simp [rF, look] at h
 | g :: gs, j, d, h => by
  simp only [rF, List.map_cons, look] at h
  by_cases e : g = j
  ·subst e; simp only [if_true, Option.some.injEq] at h; exact h.symm
  ·simp only [e, if_false] at h
   exact rL args gs j d h
structure Shut (B : Nat) (S : Nat → Prop) (w w' : World) : Prop where
 size : w'.heap.size = w.heap.size
 same : ∀ b, (b < B ∨ S b ∨ ∀ x, w.heap[b]? ≠ some (.deferred x)) → w'.heap[b]? = w.heap[b]?
 os : w'.os = w.os
 output : w'.output = w.output
 tape : w'.tape = w.tape
theorem Shut.refl {B : Nat} {S : Nat → Prop} {w : World} : Shut B S w w := ⟨rfl, fun _ _ => rfl, rfl, rfl, rfl⟩
theorem IP {P : Program} {r : Nat} {w : World} (h : w.heap[r]? = some (.deferred (some []))) : (Instr.takeDeferred r).run P w = .ok [] (w.putObj r (.deferred none)) := by
 exact run_takeDeferred h
theorem nA {P : Program} {fn : Func} {tmps : Array Value} {R : Ending → World → Prop} {B : Nat} {S : Nat → Prop} : ∀ (ds : List Deferred) (w : World), Dfr ⟨none, B⟩ S w ds → (∀ w', Shut B S w w' → ∃ v, (results fn tmps).run P w' = .ok v w' ∧ R (.returned v) w') → LeavesInM Fence.wide 0 P fn tmps R ds .returning w
 | [], w, _, h => h w Shut.refl
 | d :: ds, w, hd, h => by
  refine ⟨by simp, .inl ?_⟩
  obtain ⟨D, h1, h2, h3, h4⟩ := hd.marks d (by simp)
  have hlt : D < w.heap.size := (Array.getElem?_eq_some_iff.1 h3).1
  refine ⟨D, _, h2, IP h3, ?_⟩
  have hn := hd.1
  simp only [List.map_cons, List.nodup_cons] at hn
  have hsh : ∀ w', Shut B S (w.putObj D (.deferred none)) w' → Shut B S w w' := fun w' k => ⟨k.size.trans (by simp), fun b hb => by
    have hbD : b ≠ D := by
     rintro rfl
     rcases hb with g | g | g
     ·exact absurd h1 (Nat.not_le_of_lt g)
     ·exact h4 g
     ·exact g _ h3
    have hsame : (w.putObj D (.deferred none)).heap[b]? = w.heap[b]? := World.putObj_heap_other hbD
    refine (k.same b ?_).trans hsame
    rcases hb with g | g | g
    ·exact .inl g
    ·exact .inr (.inl g)
    ·exact .inr (.inr fun x => by rw [hsame]; exact g x), k.os, k.output, k.tape⟩
  refine nA ds _ ⟨hn.2, fun e he => ?_, fun l h => by simp at h⟩ (fun w' k => h w' (hsh w' k))
  obtain ⟨E, k1, k2, k3, k4⟩ := hd.marks e (by simp [he])
  refine ⟨E, k1, k2, (World.putObj_heap_other ?_).trans k3, k4⟩
  rintro rfl
  exact hn.1 (List.mem_map.2 ⟨e, he, by rw [k2, h2]⟩)
structure SimE (C : Cfg) (S : Nat → Prop) (φ : bA) (s : St) (a : Act) (w : World) : Prop where
 env : ∀ j d, j ∈ C.gs → look s.env j = some d → Rep w S φ d (a.tmps.getD j undef)
 tl : ∀ j d, j ∉ C.gs → look s.tl j = some d → Rep w S φ d (a.tmps.getD j undef)
 m : MSim S φ s.mem s.nx w
theorem zC {S0 S : Nat → Prop} {φ0 φ : bA} {mem0 : Mem} {w0 w w' : World} {s : St} {a : Act} (hs : Sim C ⟨none, w0.heap.size⟩ S φ s a w) (hx : Ext S0 φ0 mem0 w0 S φ s.mem w) (h : Shut w0.heap.size S w w') : SimE C S φ s a w' ∧ Ext S0 φ0 mem0 w0 S φ s.mem w' := by
 have hS : ∀ b, S b → w'.heap[b]? = w.heap[b]? := fun b hb => h.same b (.inr (.inl hb))
 have hst : Stays w S φ w' S φ := Stays.of_heap (fun _ h => h) hS (fun _ _ h => h)
 have hown : ∀ i blk l, look s.mem i = some blk → φ i = some l → l.real = true → w'.heap[l.b]? = w.heap[l.b]? := fun i blk l h1 h2 h3 => by
  refine h.same _ (.inr (.inr fun x hx => v6 hs.m hx ⟨i, blk, l, h1, h2, h3, rfl⟩))
 refine ⟨⟨fun j d hj hl => Rep.mono hst _ _ (hs.env j d hj hl), fun j d hj hl => Rep.mono hst _ _ (hs.tl j d hj hl), ⟨fun i blk hi => ?_, hs.m.inj, fun i l h1 h2 => by rw [h.size]; exact hs.m.lt i l h1 h2, hs.m.fresh, fun b hb => by rw [h.size]; exact hs.m.sub b hb⟩⟩,
  ⟨hx.sub, fun b hb ho => (h.same b (.inl hb)).trans (hx.keep b hb ho), by rw [h.size]; exact hx.size, hx.own, hx.news, h.os.trans hx.os, h.output.trans hx.output, h.tape.trans hx.tape⟩⟩
 obtain ⟨l, g1, g2, g3⟩ := hs.m.mem i blk hi
 exact ⟨l, g1, g2, g3.mono hst fun hr => hown i blk l hi g1 hr⟩
theorem LD {f : FuncId} {fn : Func} {c : Code} {ac : AC} {rs : List RV} {args : List D} {res : D} (hf : C.P.funcs[f]? = some fn) (hname : (fn.name == "runtime.NumGoroutine") = false) (hb : fn.body = some c) (hn : fn.ntmps = C.n) (hl : args.length ≤ C.n)
  (hrs : fn.results.toList.mapM C.rv = some rs) (hc : C.comp c = some ac) (hA : A C ac (dJ C (RetQ rs res) []) (rF C.gs args) [] 0) : Pure C.P f args res := by
 refine ⟨⟨fn, hf, hname, by rw [hb]; rfl⟩, fun S w xs hS hx => ?_⟩
 have hlen := cC _ _ hx
 have hT := v7 hc hA ⟨none, w.heap.size⟩ 0 S cN { tmps := xs.toArray ++ Array.replicate (fn.ntmps - xs.toArray.size) undef, defers := [] } w (Nat.le_refl _) (Nat.le_refl _) ⟨by simp; omega, Dfr.nil, fun j d _ hd => by
   have := rL args _ _ _ hd
   subst this
   cases ha : args[j]? with
   | none =>
    have hj : args.length ≤ j := List.getElem?_eq_none_iff.1 ha
    simp only [Option.getD_none, Rep]
    rw [Array.getD_eq_getD_getElem?, Array.getElem?_append_right (by simp; omega)]
    simp only [Array.getElem?_replicate]
    split <;> rfl
   | some d =>
    obtain ⟨x, hx1, hr⟩ := l8 _ _ _ _ hx ha
    have hj : j < xs.length := (List.getElem?_eq_some_iff.1 hx1).1
    simp only [Option.getD_some]
    rw [Array.getD_eq_getD_getElem?, Array.getElem?_append_left (by simpa using hj)]
    simpa [hx1] using hr, fun j d _ h => by simp [look] at h, ⟨fun i blk h => by simp [look] at h, fun i j l m h => by simp [cN] at h, fun i l h => by simp [cN] at h, fun _ _ => rfl, hS⟩⟩
 refine (callsIn_wide (n := 0)).1 (callsIn_of_wp_marks hf hb trivial (wpIn_mono hT ?_))
 rintro e a' w' ⟨s', S', φ', hq, hs, hext, _⟩
 have fin_ok : fin rs s'.env s'.mem = some res → bodyPostM Fence.wide 0 C.P fn (fun e w' => ∃ v S', e = .returned v ∧ Rep w' S' cN res v ∧ Ext S cN [] w S' cN [] w' ∧ ∀ b, S' b → b < w'.heap.size) .ret a' w' := by
  intro hfin
  refine nA a'.defers w' hs.defers (fun w2 hsh => ?_)
  obtain ⟨hs, hext⟩ := zC hs hext hsh
  generalize w2 = w' at *
  unfold fin at hfin
  split at hfin
  ·rename_i ds hds
   obtain ⟨v, hv, hrun⟩ := sY ⟨hs.env, hs.tl⟩ hs.m hrs hds
   refine ⟨v, hrun, v, SF S' φ' s'.mem, rfl, jU hs.m 100 _ _ _ hfin hv, ⟨fun b h => .inl (hext.sub b h), hext.keep, hext.size, fun b _ h => h, ?_, hext.os, hext.output, hext.tape⟩, ?_⟩
   ·rintro b (h | h)
    ·exact hext.news b h
    ·by_cases hlt : b < w.heap.size
     ·exact .inr (.inr (hext.own b hlt h))
     ·exact .inr (.inl (by omega))
   ·rintro b (h | ⟨i, blk, l, _, h2, h3, rfl⟩)
    ·exact hs.m.sub b h
    ·exact hs.m.lt i l h2 h3
  ·simp at hfin
 cases e with
 | normal => exact fin_ok hq
 | ret => exact fin_ok hq
 | exit id => exact hq.elim
 | goto l => exact hq.elim
 | panic ch => exact hq.elim
 | outgrown => exact hq.elim
def cD (mem mem' : Mem) : Prop := ∀ id b, look mem' id = some b → look mem id = some b
def RetC (rs : List RV) (K : KD) : Exit → St → Prop
 | .normal, s => ∃ ds, mD s.env s.mem rs = some ds ∧ ∃ mem', cD s.mem mem' ∧ K (kI ds) mem' s.nx
 | .ret, s => ∃ ds, mD s.env s.mem rs = some ds ∧ ∃ mem', cD s.mem mem' ∧ K (kI ds) mem' s.nx
 | _, _ => False
theorem KI {f : FuncId} {fn : Func} {c : Code} {ac : AC} {rs : List RV} {args : List D} {K : KD} (hf : C.P.funcs[f]? = some fn) (hname : (fn.name == "runtime.NumGoroutine") = false) (hb : fn.body = some c) (hn : fn.ntmps = C.n) (hl : args.length ≤ C.n)
  (hrs : fn.results.toList.mapM C.rv = some rs) (hc : C.comp c = some ac) (hA : (∀ i, nx ≤ i → look mem i = none) → A C ac (dJ C (RetC rs K) []) (rF C.gs args) mem nx) : bO C.P f args mem nx K := by
 refine ⟨⟨fn, hf, hname, by rw [hb]; rfl⟩, fun S φ w xs hm hx => ?_⟩
 have hA := hA fun i hi => by
  cases hl : look mem i with
  | none => rfl
  | some b =>
   obtain ⟨l, h1, _⟩ := hm.mem i b hl
   rw [hm.fresh i hi] at h1; simp at h1
 have hlen := cC _ _ hx
 have hT := v7 hc hA ⟨none, w.heap.size⟩ nx S φ { tmps := xs.toArray ++ Array.replicate (fn.ntmps - xs.toArray.size) undef, defers := [] } w (Nat.le_refl _) (Nat.le_refl _) ⟨by simp; omega, Dfr.nil, fun j d _ hd => by
   have := rL args _ _ _ hd
   subst this
   cases ha : args[j]? with
   | none =>
    have hj : args.length ≤ j := List.getElem?_eq_none_iff.1 ha
    simp only [Option.getD_none, Rep]
    rw [Array.getD_eq_getD_getElem?, Array.getElem?_append_right (by simp; omega)]
    simp only [Array.getElem?_replicate]
    split <;> rfl
   | some d =>
    obtain ⟨x, hx1, hr⟩ := l8 _ _ _ _ hx ha
    have hj : j < xs.length := (List.getElem?_eq_some_iff.1 hx1).1
    simp only [Option.getD_some]
    rw [Array.getD_eq_getD_getElem?, Array.getElem?_append_left (by simpa using hj)]
    simpa [hx1] using hr, fun j d _ h => by simp [look] at h, hm⟩
 refine (callsIn_wide (n := 0)).1 (callsIn_of_wp_marks hf hb trivial (wpIn_mono hT ?_))
 rintro e a' w' ⟨s', S', φ', hq, hs, hext, hgr⟩
 have ret_ok : (∃ ds, mD s'.env s'.mem rs = some ds ∧ ∃ mem', cD s'.mem mem' ∧ K (kI ds) mem' s'.nx) → bodyPostM Fence.wide 0 C.P fn (fun e w' => ∃ v d mem' nx' S' φ', e = .returned v ∧ K d mem' nx' ∧ nx ≤ nx' ∧ MSim S' φ' mem' nx' w' ∧ Rep w' S' φ' d v ∧ Stays w S φ w' S' φ' ∧ Ext S φ mem w S' φ' mem' w' ∧ ∀ i, i < nx → φ i = none → φ' i = none) .ret a' w' := by
  rintro ⟨ds, hds, mem', hsub, hK⟩
  refine nA a'.defers w' hs.defers (fun w2 hsh => ?_)
  obtain ⟨hs, hext⟩ := zC hs hext hsh
  generalize w2 = w' at *
  obtain ⟨v, hv, hrun⟩ := sY ⟨hs.env, hs.tl⟩ hs.m hrs hds
  refine ⟨v, hrun, v, _, mem', s'.nx, S', φ', rfl, hK, hgr.le, ⟨fun i b hi => hs.m.mem i b (hsub i b hi), hs.m.inj, hs.m.lt, hs.m.fresh, hs.m.sub⟩, hv, ⟨hext.sub, ?_, hgr.loc⟩,
   ⟨hext.sub, hext.keep, hext.size, fun b hb ⟨i, blk, l, h1, h2, h3, h4⟩ => hext.own b hb ⟨i, blk, l, hsub i blk h1, h2, h3, h4⟩, hext.news, hext.os, hext.output, hext.tape⟩, hgr.low⟩
  intro b hb o
  have := hext.keep b (hm.sub b hb) (by
   rintro ⟨i, blk, l, h1, h2, h3, rfl⟩
   obtain ⟨l', g1, g2, _⟩ := hm.mem i blk h1
   rw [h2] at g1; simp only [Option.some.injEq] at g1; subst g1
   exact g2 h3 hb)
  unfold World.cell?
  simp only [this]
 cases e with
 | normal => exact ret_ok hq
 | ret => exact ret_ok hq
 | exit id => exact hq.elim
 | goto l => exact hq.elim
 | panic ch => exact hq.elim
 | outgrown => exact hq.elim
end
attribute [simp] A_seq MU A_skip A_ret A_exit A_reg A_ifr A_cond zY KH zX yG EI wB vR ifK_at NS IJ MY MV LG KA FQ a8 KE ro_t ro_g ro_c ro_f setT_t setE_t MJ k0_if K0 MC K3 MT km_if
attribute [simp 1100] KB gd_yes gd_tf gd_ft H9 F3
attribute [simp 900] gd_any LS
section
variable {C : Cfg} {id : Nat} {env tl : Env} {mem : Mem} {nx : Nat} {K : KD} {P : Program}
@[simp] theorem sI_mv {x : Opd} : aX C id (.mv x) env tl mem nx K = k0 (ro tl env x) mem nx K := (rfl)
@[simp] theorem sI_pick {c a b : Opd} : aX C id (.pick c a b) env tl mem nx K = k1 (ro tl env c) (mS (ro tl env a) (ro tl env b)) mem nx K := (rfl)
@[simp] theorem sI_bld {z : List Value} {ps : List (Nat × Nat × Opd)} : aX C id (.bld z ps) env tl mem nx K = kl (rps tl env ps) (tZ z) mem nx K := (rfl)
@[simp] theorem sI_bsl {k len : Nat} {z : List Value} {ps : List (Nat × Nat × Opd)} : aX C id (.bsl k len z ps) env tl mem nx K = kl (rps tl env ps) (bslI k len z) mem nx K := (rfl)
@[simp] theorem sI_z0 : aX C id .z0 env tl mem nx K = K .zs mem nx := (rfl)
@[simp] theorem sI_ld {g : Bool} {n : Nat} {x : Opd} : aX C id (.ld g n x) env tl mem nx K = k1 (ro tl env x) (ldD mem g n) mem nx K := (rfl)
@[simp] theorem sI_chk {x : Opd} : aX C id (.chk x) env tl mem nx K = k1 (ro tl env x) t4 mem nx K := (rfl)
@[simp] theorem sI_bin {op : BinOp} {ty : TypeId} {x y : Opd} : aX C id (.bin op ty x y) env tl mem nx K = k2 (ro tl env x) (ro tl env y) (bF C.P op ty) mem nx K := (rfl)
@[simp] theorem sI_un {op : UnOp} {x : Opd} : aX C id (.un op x) env tl mem nx K = k1 (ro tl env x) (unD C.P op) mem nx K := (rfl)
@[simp] theorem sI_cv {s d : TypeId} {x : Opd} : aX C id (.cv s d x) env tl mem nx K = k1 (ro tl env x) (cvD C.P s d) mem nx K := (rfl)
@[simp] theorem sI_ldp {g : Bool} {n : Nat} {x : Opd} : aX C id (.ldp g n x) env tl mem nx K = k1 (ro tl env x) (ldpD g n) mem nx K := (rfl)
@[simp] theorem sI_fap {off : Nat} {x : Opd} : aX C id (.fap off x) env tl mem nx K = k1 (ro tl env x) (fapD off) mem nx K := (rfl)
@[simp] theorem ldp_eq {g : Bool} {n : Nat} {cs : List D} : ldpD g n (.pt cs) = ldD [] g n (.pt cs) := (rfl)
@[simp] theorem fap_eq {off : Nat} {cs : List D} : fapD off (.pt cs) = faD [] off (.pt cs) := (rfl)
@[simp] theorem sI_fa {off : Nat} {x : Opd} : aX C id (.fa off x) env tl mem nx K = k1 (ro tl env x) (faD mem off) mem nx K := (rfl)
@[simp] theorem sI_fld {g : Bool} {n off : Nat} {x : Opd} : aX C id (.fld g n off x) env tl mem nx K = k1 (ro tl env x) (fldD g n off) mem nx K := (rfl)
@[simp] theorem sI_ia {k : Nat} {x i : Opd} : aX C id (.ia k x i) env tl mem nx K = k2 (ro tl env x) (ro tl env i) (iaD mem k) mem nx K := (rfl)
@[simp] theorem sI_ext {i : Nat} {x : Opd} : aX C id (.ext i x) env tl mem nx K = k1 (ro tl env x) (extD i) mem nx K := (rfl)
@[simp] theorem sI_len {s : Bool} {x : Opd} : aX C id (.len s x) env tl mem nx K = k1 (ro tl env x) (iL mem s) mem nx K := (rfl)
@[simp] theorem sI_bi {b : Builtin} {xs : List Opd} : aX C id (.bi b xs) env tl mem nx K = kl (ros tl env xs) (biD C.P b) mem nx K := (rfl)
@[simp] theorem sI_sls {s : Bool} {k : Nat} {x : Opd} {lo hi : Option Opd} : aX C id (.sls s k x lo hi) env tl mem nx K = k0 (slsO mem s k (ro tl env x) (roo tl env lo) (roo tl env hi)) mem nx K := (rfl)
@[simp] theorem sI_mkf {f : FuncId} {cs : List Opd} : aX C id (.mkf f cs) env tl mem nx K = kl (ros tl env cs) (mkfD f) mem nx K := (rfl)
@[simp] theorem sI_bxi {x : Opd} : aX C id (.bxi x) env tl mem nx K = k1 (ro tl env x) bxiD mem nx K := (rfl)
@[simp] theorem sI_mki {k bytes : Nat} {z : List Value} {n : Opd} : aX C id (.mki k bytes z n) env tl mem nx K = k1 (ro tl env n) (mkiD bytes z) mem nx K := (rfl)
@[simp] theorem sI_pc {f : Opd} {xs : List Opd} : aX C id (.pc f xs) env tl mem nx K = pcK C.P (ro tl env f) (ros tl env xs) mem nx K := (rfl)
@[simp] theorem sI_al {z : List Value} : aX C id (.al z) env tl mem nx K = K (.opt id 0) ((id, .box (z.map .pl)) :: mem) nx := (rfl)
@[simp] theorem sI_bx {x : Opd} : aX C id (.bx x) env tl mem nx K = km (bxM id mem (ro tl env x)) nx K := (rfl)
@[simp] theorem sI_bso {k len : Nat} {z : List Value} {ps : List (Nat × Nat × Opd)} : aX C id (.bso k len z ps) env tl mem nx K = km (rI id mem k len z (rps tl env ps)) nx K := (rfl)
@[simp] theorem sI_mks {k bytes : Nat} {z : List Value} {n : Opd} : aX C id (.mks k bytes z n) env tl mem nx K = km (mksM id mem k bytes z (ro tl env n)) nx K := (rfl)
@[simp] theorem sI_apn {k bytes : Nat} {z : List Value} {x y : Opd} : aX C id (.apn k bytes z x y) env tl mem nx K = km (iK id mem k bytes (ro tl env x) (ro tl env y)) nx K := (rfl)
@[simp] theorem sI_st {n : Nat} {x y : Opd} : aX C id (.st n x y) env tl mem nx K = km (stM mem n (ro tl env x) (ro tl env y)) nx K := (rfl)
@[simp] theorem sI_sta {n : Nat} {x y : Opd} {ps : List Opd} : aX C id (.sta n x y ps) env tl mem nx K = km (pZ mem n (ro tl env x) (ro tl env y) (ros tl env ps)) nx K := (rfl)
@[simp] theorem sI_app {k bytes : Nat} {z : List Value} {x y : Opd} : aX C id (.app k bytes z x y) env tl mem nx K = km (oR id mem k bytes (ro tl env x) (ro tl env y)) nx K := (rfl)
@[simp] theorem sI_iaa {len k : Nat} {x i : Opd} : aX C id (.iaa len k x i) env tl mem nx K = k2 (ro tl env x) (ro tl env i) (pY mem len k) mem nx K := (rfl)
@[simp] theorem sI_ixs {x i : Opd} : aX C id (.ixs x i) env tl mem nx K = k2 (ro tl env x) (ro tl env i) ixsD mem nx K := (rfl)
@[simp] theorem sI_lk {kd : Option IntKind} {z : Value} {two : Bool} {m k : Opd} : aX C id (.lk kd z two m k) env tl mem nx K = k2 (ro tl env m) (ro tl env k) (lkD mem kd z two) mem nx K := (rfl)
@[simp] theorem sI_lnm {x : Opd} : aX C id (.lnm x) env tl mem nx K = k1 (ro tl env x) (tV mem) mem nx K := (rfl)
@[simp] theorem sI_mkm : aX C id .mkm env tl mem nx K = K (.omap id) ((id, .map []) :: mem) nx := (rfl)
@[simp] theorem sI_cvo {x : Opd} : aX C id (.cvo x) env tl mem nx K = km (rZ mem (ro tl env x)) nx K := (rfl)
@[simp] theorem sI_mup {kd : Option IntKind} {m k v : Opd} : aX C id (.mup kd m k v) env tl mem nx K = km (nP mem kd (ro tl env m) (ro tl env k) (ro tl env v)) nx K := (rfl)
@[simp] theorem sI_cln {f : Opd} {xs : List Opd} : aX C id (.cln f xs) env tl mem nx K = clK C.P (ro tl env f) (ros tl env xs) mem nx (fun d m n => nM mem m ∧ K d m n) := (rfl)
@[simp] theorem sI_cl {f : Opd} {xs : List Opd} : aX C id (.cl f xs) env tl mem nx K = clK C.P (ro tl env f) (ros tl env xs) mem nx K := (rfl)
def lI (k : IntKind) (a b : Int) : Int := k.wrap (BitVec.ofInt k.bits a &&& BitVec.ofInt k.bits b).toNat
def bOr (k : IntKind) (a b : Int) : Int := k.wrap (BitVec.ofInt k.bits a ||| BitVec.ofInt k.bits b).toNat
def nQ (k : IntKind) (a b : Int) : Int := k.wrap (BitVec.ofInt k.bits a ^^^ BitVec.ofInt k.bits b).toNat
def bClr (k : IntKind) (a b : Int) : Int := k.wrap (BitVec.ofInt k.bits a &&& ~~~(BitVec.ofInt k.bits b)).toNat
def rH (k : IntKind) (n : Int) : Int := k.wrap (BitVec.ofInt k.bits (if k.signed then -1 else k.max) ^^^ BitVec.ofInt k.bits n).toNat
def mE (k : IntKind) (a b : Int) : Int := k.wrap (a * 2 ^ min b.toNat k.bits)
def jA (k : IntKind) (a b : Int) : Int := a.fdiv (2 ^ min b.toNat k.bits)
@[simp] theorem bin_add {ty : TypeId} {k : IntKind} {a b : Int} : bF P .add ty (.pl (.int k a)) (.pl (.int k b)) = some (.pl (.int k (k.wrap (a + b)))) := by simp [bF, lit, binOp, Op.intArith, Sem.look, Pure.pure]
@[simp] theorem bin_sub {ty : TypeId} {k : IntKind} {a b : Int} : bF P .sub ty (.pl (.int k a)) (.pl (.int k b)) = some (.pl (.int k (k.wrap (a - b)))) := by simp [bF, lit, binOp, Op.intArith, Sem.look, Pure.pure]
@[simp] theorem bin_mul {ty : TypeId} {k : IntKind} {a b : Int} : bF P .mul ty (.pl (.int k a)) (.pl (.int k b)) = some (.pl (.int k (k.wrap (a * b)))) := by simp [bF, lit, binOp, Op.intArith, Sem.look, Pure.pure]
theorem mQ {α : Type} {m : String} : Sem.look P (runtimePanic (α := α) (.error m)) = none := by simp [runtimePanic, program, Sem.look, Bind.bind, Sem.bind, goPanic]
@[simp] theorem bin_quo {ty : TypeId} {k : IntKind} {a b : Int} : bF P .quo ty (.pl (.int k a)) (.pl (.int k b)) = if b ≠ 0 then some (.pl (.int k (k.wrap (a.tdiv b)))) else none := by
 by_cases h : b = 0
 ·simp [bF, lit, binOp, Op.intDiv, h, mQ]
 ·simp [bF, lit, binOp, Op.intDiv, h, Sem.look, Pure.pure]
@[simp] theorem bin_rem {ty : TypeId} {k : IntKind} {a b : Int} : bF P .rem ty (.pl (.int k a)) (.pl (.int k b)) = if b ≠ 0 then some (.pl (.int k (a.tmod b))) else none := by
 by_cases h : b = 0
 ·simp [bF, lit, binOp, Op.intDiv, h, mQ]
 ·simp [bF, lit, binOp, Op.intDiv, h, Sem.look, Pure.pure]
@[simp] theorem bin_and {ty : TypeId} {k : IntKind} {a b : Int} : bF P .and ty (.pl (.int k a)) (.pl (.int k b)) = some (.pl (.int k (lI k a b))) := by simp [lI, bF, lit, binOp, Op.intBits, Sem.look, Pure.pure]
@[simp] theorem bin_or {ty : TypeId} {k : IntKind} {a b : Int} : bF P .or ty (.pl (.int k a)) (.pl (.int k b)) = some (.pl (.int k (bOr k a b))) := by simp [bOr, bF, lit, binOp, Op.intBits, Sem.look, Pure.pure]
@[simp] theorem bin_xor {ty : TypeId} {k : IntKind} {a b : Int} : bF P .xor ty (.pl (.int k a)) (.pl (.int k b)) = some (.pl (.int k (nQ k a b))) := by simp [nQ, bF, lit, binOp, Op.intBits, Sem.look, Pure.pure]
@[simp] theorem bin_shl {ty : TypeId} {k j : IntKind} {a b : Int} : bF P .shl ty (.pl (.int k a)) (.pl (.int j b)) = if 0 ≤ b then some (.pl (.int k (mE k a b))) else none := by
 by_cases h : b < 0
 ·rw [if_neg (by omega)]; simp [bF, lit, binOp, Op.shift, h, mQ]
 ·rw [if_pos (by omega)]; simp [mE, jA, bF, lit, binOp, Op.shift, h, Sem.look, Pure.pure]
@[simp] theorem bin_shr {ty : TypeId} {k j : IntKind} {a b : Int} : bF P .shr ty (.pl (.int k a)) (.pl (.int j b)) = if 0 ≤ b then some (.pl (.int k (jA k a b))) else none := by
 by_cases h : b < 0
 ·rw [if_neg (by omega)]; simp [bF, lit, binOp, Op.shift, h, mQ]
 ·rw [if_pos (by omega)]; simp [mE, jA, bF, lit, binOp, Op.shift, h, Sem.look, Pure.pure]
@[simp] theorem bin_eql {ty : TypeId} {k : IntKind} {a b : Int} : bF P .eql ty (.pl (.int k a)) (.pl (.int k b)) = some (.pl (.bool (decide (a = b)))) := by simp [bF, lit, binOp, Op.intCmp, Sem.look, Pure.pure]; rfl
@[simp] theorem bin_neq {ty : TypeId} {k : IntKind} {a b : Int} : bF P .neq ty (.pl (.int k a)) (.pl (.int k b)) = some (.pl (.bool (!decide (a = b)))) := by simp [bF, lit, binOp, Op.intCmp, Sem.look, Pure.pure]; rfl
@[simp] theorem bin_lss {ty : TypeId} {k : IntKind} {a b : Int} : bF P .lss ty (.pl (.int k a)) (.pl (.int k b)) = some (.pl (.bool (decide (a < b)))) := by simp [bF, lit, binOp, Op.intCmp, Sem.look, Pure.pure]
@[simp] theorem bin_leq {ty : TypeId} {k : IntKind} {a b : Int} : bF P .leq ty (.pl (.int k a)) (.pl (.int k b)) = some (.pl (.bool (decide (a ≤ b)))) := by simp [bF, lit, binOp, Op.intCmp, Sem.look, Pure.pure]
@[simp] theorem bin_gtr {ty : TypeId} {k : IntKind} {a b : Int} : bF P .gtr ty (.pl (.int k a)) (.pl (.int k b)) = some (.pl (.bool (decide (b < a)))) := by simp [bF, lit, binOp, Op.intCmp, Sem.look, Pure.pure]
@[simp] theorem bin_geq {ty : TypeId} {k : IntKind} {a b : Int} : bF P .geq ty (.pl (.int k a)) (.pl (.int k b)) = some (.pl (.bool (decide (b ≤ a)))) := by simp [bF, lit, binOp, Op.intCmp, Sem.look, Pure.pure]
theorem nX {α β : Type} (k : α → Sem β) : ∀ (m : Sem α), Sem.look P (m >>= k) = (Sem.look P m).bind fun x => Sem.look P (k x) := by
 intro m
 show Sem.look P (Sem.bind m k) = _
 induction m with
 | pure a => rfl
 | program f ih => exact ih P
 | _ => first | rfl | simp [Sem.bind, Sem.look]
theorem FH (a b : ByteArray) : (a == b) = decide (a = b) := by
 rw [Bool.eq_iff_iff, decide_eq_true_eq]
 cases a with | mk x => cases b with | mk y =>
 show (x == y) = true ↔ _
 rw [beq_iff_eq]
 exact ⟨fun h => by rw [h], fun h => by injection h⟩
theorem AN (a b : ByteArray) : (a.toList == b.toList) = decide (a = b) := by
 rw [Bool.eq_iff_iff, decide_eq_true_eq, beq_iff_eq, Go.ByteArray.toList_eq, Go.ByteArray.toList_eq]
 refine ⟨fun h => ?_, fun h => by rw [h]⟩
 cases a with | mk x => cases b with | mk y =>
 simp only [ByteArray.mk.injEq]
 exact Array.ext' h
theorem s_ {ty : TypeId} {a b : ByteArray} (h : P.underlying ty = some .string) : Sem.look P (Op.equal ty (.string a) (.string b)) = some (decide (a = b)) := by
 rw [← FH]
 show Sem.look P (Op.equalIn (9999 + 1) ty (.string a) (.string b)) = _
 unfold Op.equalIn
 simp [Sem.look, underlying, program, h, Pure.pure, Bind.bind, Sem.bind]
theorem kO {ty : TypeId} {a b : ByteArray} (h : P.underlying ty = some .string) : bF P .eql ty (.pl (.string a)) (.pl (.string b)) = some (.pl (.bool (decide (a = b)))) := by
 have : Sem.look P (binOp .eql ty (.string a) (.string b)) = some (.bool (decide (a = b))) := by
  first
  | (simp only [binOp, nX, s_ h, Option.bind_some]; rfl)
  | (simp [binOp, Op.stringOp, Sem.look, Pure.pure, AN])
 simp only [bF, lit, Bool.and_self, if_true, this, Option.map_some]
theorem pM {ty : TypeId} {a b : ByteArray} (h : P.underlying ty = some .string) : bF P .neq ty (.pl (.string a)) (.pl (.string b)) = some (.pl (.bool (!decide (a = b)))) := by
 have : Sem.look P (binOp .neq ty (.string a) (.string b)) = some (.bool (!decide (a = b))) := by
  first
  | (simp only [binOp, nX, s_ h, Option.bind_some]; rfl)
  | (simp [binOp, Op.stringOp, Sem.look, Pure.pure, AN, bne])
 simp only [bF, lit, Bool.and_self, if_true, this, Option.map_some]
@[simp] theorem un_not {b : Bool} : unD P .not (.pl (.bool b)) = some (.pl (.bool (!b))) := by simp [unD, lit, Op.unary, Sem.look, Pure.pure]
@[simp] theorem un_neg {k : IntKind} {n : Int} : unD P .neg (.pl (.int k n)) = some (.pl (.int k (k.wrap (0 - n)))) := by simp [unD, lit, Op.unary, Op.intArith, Sem.look, Pure.pure]
@[simp] theorem un_xor {k : IntKind} {n : Int} : unD P .xor (.pl (.int k n)) = some (.pl (.int k (rH k n))) := by simp [rH, unD, lit, Op.unary, Op.intBits, Sem.look, Pure.pure]
@[simp] theorem bi_max {k : IntKind} {a b : Int} : biD P .max [.pl (.int k a), .pl (.int k b)] = some (.pl (.int k (max a b))) := by
 have : (if a < b then b else a) = max a b := by rw [Int.max_def]; split <;> split <;> omega
 simp [biD, D.vals, D.val, lit, Builtin.max_, Builtin.max2, Sem.look, Pure.pure, this, Bind.bind, Sem.bind]
@[simp] theorem bi_min {k : IntKind} {a b : Int} : biD P .min [.pl (.int k a), .pl (.int k b)] = some (.pl (.int k (min a b))) := by
 have : (if b < a then b else a) = min a b := by rw [Int.min_def]; split <;> split <;> omega
 simp [biD, D.vals, D.val, lit, Builtin.min_, Builtin.min2, Sem.look, Pure.pure, this, Bind.bind, Sem.bind]
@[simp] theorem pick_t {a b : Option D} : mS a b (.pl (.bool true)) = a := (rfl)
@[simp] theorem pick_f {a b : Option D} : mS a b (.pl (.bool false)) = b := (rfl)
attribute [simp] pY zD kOk pZ lJ D.hd mkv faD D.cells D.cell D.solid bxiD iL fldD extD t4 ros rps roo slsO mkfD tZ iW place bslI bslD gB bxM rI mksM mkiD iK oR rZ D.roomless els cur mA L9 dP D.imm D.imms D.immss mD resV fin kI frz gL RetQ rF D.vals D.val
section
variable {n off i id ver lo : Nat} {cs new : List D} {g : Bool} {x : D}
@[simp] theorem y6 {α β : Type} {p : Prop} [Decidable p] {o : Option α} {f : α → Option β} : (if p then o else none).bind f = if p then o.bind f else none := by by_cases h : p <;> simp [h]
@[simp] theorem rdc_pt : rdc mem n (.pt cs) = if n ≤ cs.length then some (cs.take n) else none := (rfl)
def ED : Blk → Option (List D)
 | .box cs => some cs
 | _ => none
def EH (ver : Nat) : Blk → Option (Nat × List (List D))
 | .arr v k es => if v = ver then some (k, es) else none
 | _ => none
@[simp] theorem boxOf_box : ED (.box cs) = some cs := (rfl)
@[simp] theorem xQ {v k : Nat} {es : List (List D)} : EH ver (.arr v k es) = if v = ver then some (k, es) else none := (rfl)
@[simp] theorem rdc_opt : rdc mem n (.opt id off) = (look mem id).bind fun b => (ED b).bind fun cs => if off + n ≤ cs.length then some ((cs.drop off).take n) else none := by
 simp only [rdc]
 cases look mem id with
 | none => rfl
 | some b => cases b <;> rfl
@[simp] theorem rdc_oel : rdc mem n (.oel id ver i off) = (look mem id).bind fun b => (EH ver b).bind fun p => p.2[i]?.bind fun e => if off + n ≤ e.length then some ((e.drop off).take n) else none := by
 simp only [rdc]
 cases look mem id with
 | none => rfl
 | some b =>
  cases b with
  | arr v k es =>
   simp only [Option.bind_some, xQ, y6]
   split
   ·cases es[i]? <;> rfl
   ·rfl
  | _ => rfl
@[simp] theorem ld_eq : ldD mem g n x = (rdc mem n x).bind (mkv g) := by unfold ldD; cases rdc mem n x <;> rfl
@[simp] theorem wrc_opt : wrc mem n (.opt id off) new = if new.length = n ∧ new.all D.cell = true then (look mem id).bind fun b => (ED b).bind fun cs => if off + n ≤ cs.length then some (upd mem id (.box (place off cs new))) else none else none := by
 simp only [wrc]
 split
 ·cases look mem id with
  | none => rfl
  | some b => cases b <;> rfl
 ·rfl
@[simp] theorem wrc_oel : wrc mem n (.oel id ver i off) new = if new.length = n ∧ new.all D.cell = true then (look mem id).bind fun b => (EH ver b).bind fun p => p.2[i]?.bind fun e => if off + n ≤ e.length then some (upd mem id (.arr ver p.1 (p.2.set i (place off e new)))) else none else none := by
 simp only [wrc]
 split
 ·cases look mem id with
  | none => rfl
  | some b =>
   cases b with
   | arr v k es =>
    simp only [Option.bind_some, xQ, y6]
    split
    ·rename_i h; subst h; cases es[i]? <;> rfl
    ·rfl
   | _ => rfl
 ·rfl
@[simp] theorem stM_some {a : D} : stM mem n (some a) (some x) = (wrc mem n a x.cells).bind fun m => some (.top, m) := by simp only [stM]; cases wrc mem n a x.cells <;> rfl
@[simp] theorem ia_osl {k : Nat} {j : IntKind} {i : Int} : iaD mem k (.osl id ver lo n) (.pl (.int j i)) = if cur mem id ver k = true then (if 0 ≤ i ∧ i < n then some (.oel id ver (lo + i.toNat) 0) else none) else none := (rfl)
end
theorem nE {s d : TypeId} {k j : IntKind} {n : Int} (hs : P.underlying s = some (.int k)) (hd : P.underlying d = some (.int j)) : cvD P s d (.pl (.int k n)) = some (.pl (.int j (j.wrap n))) := by
 simp [cvD, lit, convert, underlying, program, Bind.bind, Sem.bind, Sem.look, hs, hd, Pure.pure, Conv.intToInt]
theorem NF {α : Type} [Inhabited α] (f : α → List D) (l : List α) (i : Nat) : (l.map f)[i]? = if i < l.length then some (f (l[i]?.getD default)) else none := by
 by_cases h : i < l.length
 ·simp [h]
 ·rw [if_neg h]; simp; omega
theorem ia_map {α : Type} [Inhabited α] {f : α → List D} {l : List α} {k : Nat} {j : IntKind} {i : Int} (hk : ∀ x, (f x).length = k) :
  iaD mem k (.sl (l.map f)) (.pl (.int j i)) = if 0 ≤ i ∧ i < l.length then some (.pt (f (l.getD i.toNat default))) else none := by
 simp only [iaD, List.length_map]
 by_cases h : 0 ≤ i ∧ i < l.length
 ·have hi : i.toNat < l.length := by omega
  rw [if_pos h, if_pos h]
  simp [List.getElem?_map, List.getElem?_eq_getElem hi, hk, List.getD_eq_getElem?_getD]
 ·rw [if_neg h, if_neg h]
end
def WtS (R : TypeId → List D → Prop) : List TypeId → List D → Prop
 | [], ds => ds = []
 | t :: ts, ds => ∃ c r, ds = c ++ r ∧ R t c ∧ WtS R ts r
def Wt (P : Program) : Nat → TypeId → List D → Prop
 | 0, _, _ => False
 | n + 1, t, ds => match P.underlying t with
  | some .bool => ∃ b, ds = [.pl (.bool b)]
  | some (.int k) => ∃ x, ds = [.pl (.int k x)] ∧ (Lit.int k x).wf = true
  | some (.float k) => ∃ b, ds = [.pl (.float k b)] ∧ (Lit.float k b).wf = true
  | some .string => ∃ s, ds = [.pl (.string s)] ∧ s.size ≤ reachBytes
  | some (.pointer e) => ds = [.pl (.pointer none)] ∨ ∃ cs, ds = [.pt cs] ∧ Wt P n e cs
  | some (.slice e) => ∃ es : List (List D), ds = [.sl es] ∧ es.length * P.bytesOf e ≤ reachBytes ∧ ∀ c ∈ es, Wt P n e c
  | some (.struct fs) => WtS (Wt P n) (fs.toList.map (·.type)) ds
  | some (.array m e) => WtS (Wt P n) (List.replicate m e) ds
  | _ => ds = [.top]
section
variable {H : Type} {enc : TypeId × Value → H} {P : Program} {w : World} {S : Nat → Prop} {φ : bA}
theorem cells?_out {base n : Nat} {a : Addr} {cs : List Value} (h : w.cells? base a n = some cs) : cs.length = n ∧ ∀ i, i < n → w.cell? (a.add i) = cs[i]? := by
 unfold World.cells? at h
 split at h
 ·exact ⟨by simpa using mapM_some_length h, fun i hi => mapM_some_get h i i (by simp [hi])⟩
 ·simp at h
theorem cell?_lt {a : Addr} {v : Value} (h : w.cell? a = some v) : a.block < w.heap.size ∧ a.spot = none := by
 unfold World.cell? at h
 split at h
 ·rename_i c _ _ hc
  split at h
  ·simp at h
  ·rename_i hs
   exact ⟨(Array.getElem?_eq_some_iff.1 hc).1, by simpa using hs⟩
 ·simp at h
theorem tM {b : Nat} : ∀ (ds : List D) (cs : List Value) (o : Nat), RepVs w S φ ds cs → (∀ i, i < cs.length → w.cell? ⟨b, o + i, none⟩ = cs[i]?) → RepCs w S φ ds b o
 | [], cs, o, _, _ => by simp [RepCs]
 | d :: ds, cs, o, h, hc => by
  simp only [RepVs] at h
  obtain ⟨x, r, rfl, h1, h2⟩ := h
  simp only [RepCs]
  exact ⟨⟨x, by simpa using hc 0 (by simp), h1⟩, tM ds r (o + 1) h2 fun i hi => by
   have := hc (i + 1) (by simpa using hi)
   rw [show o + (i + 1) = o + 1 + i by omega] at this
   simpa using this⟩
theorem xJ : ∀ (ds es : List D) (xs ys : List Value), RepVs w S φ ds xs → RepVs w S φ es ys → RepVs w S φ (ds ++ es) (xs ++ ys)
 | [], es, xs, ys, h, k => by simp only [RepVs] at h; subst h; simpa using k
 | d :: ds, es, xs, ys, h, k => by
  simp only [RepVs, List.cons_append] at h ⊢
  obtain ⟨x, r, rfl, h1, h2⟩ := h
  exact ⟨x, r ++ ys, rfl, h1, xJ ds es r ys h2 k⟩
theorem pJ {T : TypeId → Prop} {R : TypeId → List D → Prop} {W : TypeId → DataW H → Prop} {rd : TypeId → List Value → Option (DataW H × List MemPlace)}
  (ih : ∀ (t : TypeId) (cs : List Value) (x : DataW H × List MemPlace), rd t cs = some x → W t x.1 → T t → ∃ ds, R t ds ∧ RepVs w S φ ds cs) :
  ∀ (ts : List TypeId) (xs : List (DataW H × List MemPlace)) (cs : List Value), xs.length = ts.length → cs.length = (ts.map P.cellsOf).sum → (∀ t ∈ ts, T t) →
   (∀ (i : Nat) (t : TypeId) (x : DataW H × List MemPlace), ts[i]? = some t → xs[i]? = some x → W t x.1) →
   (∀ (i : Nat) (t : TypeId), ts[i]? = some t → rd t ((cs.drop ((ts.take i).map P.cellsOf).sum).take (P.cellsOf t)) = xs[i]?) → ∃ ds, WtS R ts ds ∧ RepVs w S φ ds cs
 | [], xs, cs, _, hl, _, _, _ => ⟨[], rfl, by
   simp only [List.map_nil, List.sum_nil] at hl
   simp [RepVs, List.eq_nil_of_length_eq_zero hl]⟩
 | t :: ts, [], cs, hx, _, _, _, _ => by simp at hx
 | t :: ts, x :: xs, cs, hx, hl, hv, hw, h => by
  have h0 := h 0 t rfl
  simp only [List.take_zero, List.map_nil, List.sum_nil, List.drop_zero, List.getElem?_cons_zero] at h0
  obtain ⟨c, hc, hr⟩ := ih _ _ _ h0 (hw 0 t x rfl rfl) (hv t (by simp))
  obtain ⟨r, hr1, hr2⟩ := pJ ih ts xs (cs.drop (P.cellsOf t)) (by simpa using hx) (by simp at hl ⊢; omega) (fun u hu => hv u (by simp [hu])) (fun i u x h1 h2 => hw (i + 1) u x (by simpa using h1) (by simpa using h2)) (fun i u hu => by
   have := h (i + 1) u (by simpa using hu)
   simpa [List.take_succ_cons, List.map_cons, List.sum_cons, List.drop_drop] using this)
  refine ⟨c ++ r, ⟨c, r, rfl, hc, hr1⟩, ?_⟩
  have := xJ _ _ _ _ hr hr2
  simpa [List.take_append_drop] using this
theorem sB {n : Nat} : ∀ (ts : List TypeId) (ds : List (DataW H)), (DataW.weightsEach P ts ds).all (· ≤ n) = true → ∀ (i : Nat) (t : TypeId) (x : DataW H), ts[i]? = some t → ds[i]? = some x → (x.weights P t).all (· ≤ n) = true
 | [], _, _, i, t, x, h, _ => by simp at h
 | _ :: _, [], _, i, t, x, _, h => by simp at h
 | t :: ts, d :: ds, hw, 0, u, x, h1, h2 => by
  simp only [List.getElem?_cons_zero, Option.some.injEq] at h1 h2; subst h1 h2
  simp only [DataW.weightsEach, List.all_append, Bool.and_eq_true] at hw
  exact hw.1
 | t :: ts, d :: ds, hw, i + 1, u, x, h1, h2 => by
  simp only [DataW.weightsEach, List.all_append, Bool.and_eq_true] at hw
  exact sB ts ds hw.2 i u x (by simpa using h1) (by simpa using h2)
theorem oT {n : Nat} {e : TypeId} : ∀ (ds : List (DataW H)), (DataW.weightsAll P e ds).all (· ≤ n) = true → ∀ x ∈ ds, (x.weights P e).all (· ≤ n) = true
 | [], _, x, h => by simp at h
 | d :: ds, hw, x, h => by
  simp only [DataW.weightsAll, List.all_append, Bool.and_eq_true] at hw
  rcases List.mem_cons.1 h with rfl | h
  ·exact hw.1
  ·exact oT ds hw.2 x h
theorem uK {R : List D → Prop} {W : DataW H → Prop} {rd : List Value → Option (DataW H × List MemPlace)} {k b : Nat}
  (ih : ∀ (cs : List Value) (x : DataW H × List MemPlace), rd cs = some x → W x.1 → ∃ ds, R ds ∧ RepVs w S φ ds cs) :
  ∀ (xs : List (DataW H × List MemPlace)) (o : Nat), (∀ x ∈ xs, W x.1) →
   (∀ i, i < xs.length → (w.cells? 0 ⟨b, o + i * k, none⟩ k).bind rd = xs[i]?) → ∃ es : List (List D), es.length = xs.length ∧ (∀ c ∈ es, R c) ∧ RepEs w S φ es k b o
 | [], o, _, _ => ⟨[], rfl, by simp, by simp [RepEs]⟩
 | x :: xs, o, hw, h => by
  have h0 := h 0 (by simp)
  simp only [Nat.zero_mul, Nat.add_zero, List.getElem?_cons_zero, Option.bind_eq_some_iff] at h0
  obtain ⟨cs, hcs, hrd⟩ := h0
  obtain ⟨hl, hc⟩ := cells?_out hcs
  obtain ⟨ds, hR, hrep⟩ := ih _ _ hrd (hw x (by simp))
  obtain ⟨es, h1, h2, h3⟩ := uK ih xs (o + k) (fun y hy => hw y (by simp [hy])) (fun i hi => by
   have := h (i + 1) (by simpa using hi)
   rw [show o + (i + 1) * k = o + k + i * k by rw [Nat.succ_mul]; omega] at this
   simpa using this)
  refine ⟨ds :: es, by simp [h1], by simpa using ⟨hR, h2⟩, ?_⟩
  simp only [RepEs]
  exact ⟨(cC _ _ hrep).symm.trans hl, tM _ _ _ hrep (fun i hi => by simpa [Addr.add_mid] using hc i (by omega)), h3⟩
set_option maxHeartbeats 2000000 in
theorem CD (hl : laidOutB P = true) {t0 : TypeId} (hp : P.readableRec t0 = true) : ∀ (n : Nat) (t : TypeId) (cs : List Value) (x : DataW H × List MemPlace), DataW.trod enc P w 0 (fun _ => true) true n t cs = some x →
  (x.1.weights P t).all (· ≤ reachBytes) = true → isVar P t = true ∧ t ∈ P.book t0 → ∃ ds, Wt P n t ds ∧ RepVs w (· < w.heap.size) φ ds cs
 | 0, t, cs, x, h, _, _ => by simp [DataW.trod] at h
 | n + 1, t, cs, x, h, hw, hv => by
  obtain ⟨hv, hbk⟩ := hv
  have hkid : P.fineRow t = true ∧ ∀ u ∈ P.partsOf t, u ∈ P.book t0 := by
   have := List.all_eq_true.1 hp t hbk
   simp only [Bool.and_eq_true, List.all_eq_true, List.contains_iff_mem] at this
   exact ⟨this.1, fun u hu => by simpa using this.2 u hu⟩
  have hlt : t < P.types.size := by simp only [isVar, Bool.and_eq_true, decide_eq_true_eq] at hv; exact hv.1
  have hfine := rowFine_of hl hlt
  have ih := CD hl hp n
  simp only [Wt]
  cases hu : P.underlying t with
  | none => simp [isVar, hu, kindOk] at hv
  | some td =>
   cases td with
   | bool =>
    obtain ⟨b, rfl, rfl⟩ := DataW.trod_bool hu h
    exact ⟨_, ⟨b, rfl⟩, by simp [RepVs, Rep]⟩
   | int k =>
    obtain ⟨z, rfl, rfl, hz⟩ := DataW.trod_int hu h
    exact ⟨_, ⟨z, rfl, hz⟩, by simp [RepVs, Rep]⟩
   | float k =>
    have : ∃ b, cs = [.float k b] ∧ (Lit.float k b).wf = true := by
     unfold DataW.trod at h
     rw [hu] at h
     split at h <;> simp_all
    obtain ⟨b, rfl, hb⟩ := this
    exact ⟨_, ⟨b, rfl, hb⟩, by simp [RepVs, Rep]⟩
   | string =>
    obtain ⟨s, rfl, rfl, hs⟩ := DataW.trod_string hu h
    exact ⟨_, ⟨s, rfl, by simpa [DataW.weights] using hw⟩, by simp [RepVs, Rep]⟩
   | pointer e =>
    rcases DataW.trod_pointer hu h with ⟨rfl, rfl⟩ | ⟨a, cs', y, m, hm, rfl, rfl, hc, hy⟩
    ·exact ⟨_, .inl rfl, by simp [RepVs, Rep]⟩
    ·simp only [Nat.add_right_cancel_iff] at hm; subst hm
     obtain ⟨hcl, hcc⟩ := cells?_out hc
     simp only [rowFine, hv, hu, Bool.not_true, Bool.false_or, Bool.and_eq_true] at hfine
     obtain ⟨ds, h1, h2⟩ := ih e cs' y hy (by simpa [DataW.weights, hu] using hw) ⟨hfine.1, hkid.2 e (by simp [Program.partsOf, hu])⟩
     have hpos : 0 < P.cellsOf e := by
      have := hkid.1
      simpa [Program.fineRow, hu] using this
     have h0 := hcc 0 hpos
     rw [List.getElem?_eq_getElem (by omega)] at h0
     obtain ⟨hb, hsp⟩ := cell?_lt h0
     obtain ⟨b, o, sp⟩ := a
     have hsp' : sp = none := by simpa [Addr.add] using hsp
     subst hsp'
     have hb' : b < w.heap.size := by simpa [Addr.add_mid] using hb
     refine ⟨_, .inr ⟨ds, rfl, h1⟩, ?_⟩
     simp only [RepVs, Rep]
     exact ⟨_, [], rfl, ⟨b, o, rfl, hb', tM _ _ _ h2 fun i hi => by simpa [Addr.add_mid] using hcc i (by omega)⟩, rfl⟩
   | slice e =>
    simp only [rowFine, hv, hu, Bool.not_true, Bool.false_or, Bool.and_eq_true] at hfine
    have hpos : 0 < P.cellsOf e := by
     have := hkid.1
     simpa [Program.fineRow, hu] using this
    have hbe : e ∈ P.book t0 := hkid.2 e (by simp [Program.partsOf, hu])
    rcases DataW.trod_slice hu h with ⟨rfl, rfl⟩ | ⟨a, len, cap, elems, rest, m, hm, rfl, rfl, _, hlc, _, hel, helem, hrest, _⟩
    ·exact ⟨_, ⟨[], rfl, by simp, by simp⟩, by simp [RepVs, Rep, Zs]⟩
    ·simp only [Nat.add_right_cancel_iff] at hm; subst hm
     simp only [DataW.weights, hu, List.all_cons, List.all_append, Bool.and_eq_true, decide_eq_true_eq, List.length_map] at hw
     obtain ⟨hwl, hwe, _⟩ := hw
     by_cases h0 : cap = 0
     ·subst h0
      obtain rfl : len = 0 := by omega
      exact ⟨_, ⟨[], rfl, by simp, by simp⟩, by simp [RepVs, Rep, Zs]⟩
     ·obtain ⟨v, hv0⟩ : ∃ v, w.cell? a = some v := by
       have key : ∀ y, (w.cells? 0 (a.add (0 * P.cellsOf e)) (P.cellsOf e)).bind (DataW.trod enc P w 0 (fun _ => true) true n e) = some y → ∃ v, w.cell? a = some v := by
        intro y hy
        simp only [Option.bind_eq_some_iff] at hy
        obtain ⟨c, hc, _⟩ := hy
        obtain ⟨hcl, hcc⟩ := cells?_out hc
        have := hcc 0 hpos
        simp only [Nat.zero_mul, Addr.add, Nat.add_zero] at this
        rw [List.getElem?_eq_getElem (by omega)] at this
        exact ⟨_, this⟩
       by_cases hl0 : len = 0
       ·obtain ⟨hr1, hr2⟩ := hrest rfl
        have := hr2 0 (by omega)
        rw [hl0, List.getElem?_eq_getElem (by omega)] at this
        exact key _ this
       ·have := helem 0 (by omega)
        rw [List.getElem?_eq_getElem (by omega)] at this
        exact key _ this
      obtain ⟨hb, hsp⟩ := cell?_lt hv0
      obtain ⟨b, o, sp⟩ := a
      simp only at hb hsp; subst hsp
      obtain ⟨es, h1, h2, h3⟩ := uK (φ := φ) (S := (· < w.heap.size)) (k := P.cellsOf e) (b := b) (R := Wt P n e) (W := fun x => (x.weights P e).all (· ≤ reachBytes) = true) (fun cs x hx hwx => ih e cs x hx hwx ⟨hfine.1, hbe⟩) elems o
       (fun x hx => oT _ (by simpa using hwe) x.1 (List.mem_map.2 ⟨x, hx, rfl⟩)) (fun i hi => by simpa [Addr.add_mid] using helem i (by omega))
      refine ⟨_, ⟨es, rfl, ?_, h2⟩, ?_⟩
      ·rw [h1]
       exact Nat.le_trans (Nat.mul_le_mul_right _ (by omega)) hwl
      ·simp only [RepVs, Rep]
       exact ⟨_, [], rfl, .inr ⟨b, o, cap, _, by rw [h1, hel], by omega, hb, h3⟩, rfl⟩
   | struct fs =>
    simp only [rowFine, hv, hu, Bool.not_true, Bool.false_or, Bool.and_eq_true, beq_iff_eq] at hfine
    obtain ⟨⟨hf1, hf2⟩, hf3⟩ := hfine
    obtain ⟨xs, m, hm, rfl, hcl, hxl, hx⟩ := DataW.trod_struct hu h
    simp only [Nat.add_right_cancel_iff] at hm; subst hm
    simp only [DataW.weights, hu] at hw
    refine pJ (P := P) (T := fun t => isVar P t = true ∧ t ∈ P.book t0) (W := fun t x => (x.weights P t).all (· ≤ reachBytes) = true) (rd := DataW.trod enc P w 0 (fun _ => true) true n) (fun t cs x hx hwx hvx => ih t cs x hx hwx hvx) (fs.toList.map (·.type)) xs cs (by simpa using hxl) (by rw [hcl, hf2]; simp [List.map_map, Function.comp_def])
     (fun u huu => by
      obtain ⟨f, hf, rfl⟩ := List.mem_map.1 huu
      exact ⟨List.all_eq_true.1 hf1 f hf, hkid.2 f.type (by simp only [Program.partsOf, hu]; exact List.mem_map.2 ⟨f, hf, rfl⟩)⟩)
     (fun i u x h1 h2 => sB _ _ hw i u x.1 h1 (by simp [h2])) (fun i u hi => ?_)
    simp only [List.getElem?_map, Option.map_eq_some_iff] at hi
    obtain ⟨f, hf, rfl⟩ := hi
    have h3 := List.all_eq_true.1 hf3 i (by simp; exact (List.getElem?_eq_some_iff.1 hf).1)
    rw [hf] at h3
    simp only [beq_iff_eq] at h3
    have := hx i f (by simpa using hf)
    rw [h3] at this
    rw [← List.map_take, List.map_map]
    exact this
   | array m e =>
    simp only [rowFine, hv, hu, Bool.not_true, Bool.false_or, Bool.and_eq_true, beq_iff_eq] at hfine
    obtain ⟨hf1, hf2⟩ := hfine
    have htk : ∀ i : Nat, ((List.replicate m e).take i).map P.cellsOf = List.replicate (min i m) (P.cellsOf e) := by intro i; simp
    obtain ⟨xs, m', hm', rfl, hcl, hxl, hx⟩ := DataW.trod_array hu h
    simp only [Nat.add_right_cancel_iff] at hm'; subst hm'
    simp only [DataW.weights, hu] at hw
    have hwx : ∀ x ∈ xs, (x.1.weights P e).all (· ≤ reachBytes) = true := fun x hx => oT _ hw x.1 (List.mem_map.2 ⟨x, hx, rfl⟩)
    refine pJ (P := P) (T := fun t => isVar P t = true ∧ t ∈ P.book t0) (W := fun t x => (x.weights P t).all (· ≤ reachBytes) = true) (rd := DataW.trod enc P w 0 (fun _ => true) true n) (fun t cs x hx hwx hvx => ih t cs x hx hwx hvx) (List.replicate m e) xs cs (by simpa using hxl) (by rw [hcl, hf2]; simp)
     (fun u hu => by rw [List.mem_replicate] at hu; rw [hu.2]; exact ⟨hf1, hkid.2 e (by simp [Program.partsOf, *])⟩)
     (fun i u x h1 h2 => by
      rw [List.getElem?_replicate] at h1
      split at h1
      ·simp only [Option.some.injEq] at h1; subst h1
       exact hwx x (List.mem_of_getElem? h2)
      ·simp at h1) (fun i u hi => ?_)
    rw [List.getElem?_replicate] at hi
    split at hi
    ·rename_i him
     simp only [Option.some.injEq] at hi; subst hi
     rw [htk]
     have : min i m = i := by omega
     rw [this]
     simpa using hx i him
    ·simp at hi
   | _ =>
    cases cs with
    | nil => simp only [DataW.trod, hu] at h; cases h
    | cons c r =>
     cases r with
     | nil => exact ⟨[.top], rfl, by simp [RepVs, Rep]⟩
     | cons c2 r =>
      exfalso
      first
      | (simp only [DataW.trod, hu] at h; cases h)
      | (simp [isVar, hu, kindOk] at hv)
end
open Go.ChangeShapes Go.WideShapes Go.ChangeAt Go.RowKit
def Arg (P : Program) (t : TypeId) (x : D) : Prop := ∃ n ds, Wt P n t ds ∧ match P.underlying t with
 | some (.struct _) | some (.array _ _) => x = .agg ds
 | _ => ds = [x]
def Args (P : Program) : List TypeId → List D → Prop
 | [], xs => xs = []
 | t :: ts, xs => ∃ x r, xs = x :: r ∧ Arg P t x ∧ Args P ts r
section
variable {H : Type} {enc : TypeId × Value → H} {P : Program} {w W W' : World}
theorem noAgg {r : Reach} {base : Nat} {t : TypeId} {cs : Array Value} (h : Value.okWide P w r base t (.agg cs)) : (∃ fs, P.underlying t = some (.struct fs)) ∨ ∃ n e, P.underlying t = some (.array n e) := by
 unfold Value.okWide at h
 split at h
 ·rename_i fs hf; exact .inl ⟨fs, hf⟩
 ·rename_i n e hf; exact .inr ⟨n, e, hf⟩
 ·unfold Cell.okWide at h
  split at h <;> try simp_all
  unfold Cell.ok at h
  split at h <;> simp_all
theorem IH {r : Reach} {base : Nat} (hl : laidOutB P = true) {t : TypeId} {v : Value} {d : DataW H} {ps : List MemPlace} (hp : P.readableRec t = true) (hv : isVar P t = true) (hval : Value.okWide P w r base t v)
  (h : DataW.Trod enc P w 0 (fun _ => true) true t v d ps) (hw : (d.weights P t).all (· ≤ reachBytes) = true) : ∃ x, Arg P t x ∧ Rep w (· < w.heap.size) cN x v := by
 obtain ⟨n, hn⟩ := h
 obtain ⟨ds, h1, h2⟩ := CD (φ := cN) hl hp n t _ _ hn hw ⟨hv, book_self t⟩
 by_cases hag : (∃ fs, P.underlying t = some (.struct fs)) ∨ ∃ n e, P.underlying t = some (.array n e)
 ·have : ∃ cs, v = .agg cs := by
   unfold Value.okWide at hval
   rcases hag with ⟨fs, hf⟩ | ⟨m, e, hf⟩
   ·rw [hf] at hval; obtain ⟨cs, h, _⟩ := hval; exact ⟨cs, h⟩
   ·rw [hf] at hval; obtain ⟨cs, h, _⟩ := hval; exact ⟨cs, h⟩
  obtain ⟨cs, rfl⟩ := this
  refine ⟨.agg ds, ⟨n, ds, h1, ?_⟩, ?_⟩
  ·rcases hag with ⟨fs, hf⟩ | ⟨m, e, hf⟩ <;> simp [hf]
  ·simp only [Rep]; exact ⟨cs, rfl, by simpa [Value.cells] using h2⟩
 ·have hc : v.cells = #[v] := by
   cases v <;> try rfl
   exact absurd (noAgg hval) hag
  rw [hc] at h2
  cases ds with
  | nil => simp [RepVs] at h2
  | cons x r =>
   simp only [RepVs, List.cons.injEq] at h2
   obtain ⟨y, r', ⟨rfl, rfl⟩, hx, hr⟩ := h2
   cases r with
   | cons _ _ => simp [RepVs] at hr
   | nil =>
    refine ⟨x, ⟨n, [x], h1, ?_⟩, hx⟩
    split
    ·rename_i fs hf; exact absurd (.inl ⟨fs, hf⟩) hag
    ·rename_i m e hf; exact absurd (.inr ⟨m, e, hf⟩) hag
    ·rfl
theorem x_ {r : Reach} {base : Nat} (hl : laidOutB P = true) : ∀ {ts : List TypeId} {vs : List Value} {ds : List (DataW H)} {ps : List MemPlace}, (∀ t ∈ ts, isVar P t = true ∧ P.readableRec t = true) →
  (∀ (j : Nat) t v, ts[j]? = some t → vs[j]? = some v → Value.okWide P w r base t v) →
  DataW.TrodAll enc P w 0 (fun _ => true) true ts vs ds ps → (DataW.weightsEach P ts ds).all (· ≤ reachBytes) = true → ∃ xs, Args P ts xs ∧ RepVs w (· < w.heap.size) cN xs vs
 | [], [], [], _, _, _, _, _ => ⟨[], rfl, by simp [RepVs]⟩
 | t :: ts, v :: vs, d :: ds, _, hv, hval, ⟨p, q, h1, h2, _⟩, hw => by
  simp only [DataW.weightsEach, List.all_append, Bool.and_eq_true] at hw
  obtain ⟨x, hx, hr⟩ := IH hl (hv t (by simp)).2 (hv t (by simp)).1 (hval 0 t v rfl rfl) h1 hw.1
  obtain ⟨xs, hxs, hrs⟩ := x_ hl (fun u hu => hv u (by simp [hu])) (fun j u v hu hv => hval (j + 1) u v (by simpa using hu) (by simpa using hv)) h2 hw.2
  exact ⟨x :: xs, ⟨x, xs, rfl, hx, hxs⟩, by simp only [RepVs]; exact ⟨v, vs, rfl, hr, hrs⟩⟩
 | [], [], _ :: _, _, _, _, h, _ => h.elim
 | [], _ :: _, _, _, _, _, h, _ => h.elim
 | _ :: _, [], _, _, _, _, h, _ => h.elim
 | _ :: _, _ :: _, [], _, _, _, h, _ => h.elim
theorem xL (hl : laidOutB P = true) (hb : Below W.heap.size W W') : ∀ {ts : List TypeId} {vs : List Value} {ds : List (DataW H)} {ps : List MemPlace}, (∀ t ∈ ts, P.readableRec t = true ∧ t < P.types.size) →
  DataW.TrodAll enc P W 0 (fun _ => true) true ts vs ds ps → DataW.TrodAll enc P W' 0 (fun b => decide (b < W.heap.size)) true ts vs ds ps
 | [], [], [], _, _, h => h
 | t :: ts, v :: vs, d :: ds, _, hr, ⟨p, q, h1, h2, e⟩ =>
  ⟨p, q, Below.trod hl (hr t (by simp)).1 (hr t (by simp)).2 h1 hb (by obtain ⟨m, hm⟩ := h1; exact DataW.trod_lt m _ _ _ hm), xL hl hb (fun u hu => hr u (by simp [hu])) h2, e⟩
 | [], [], _ :: _, _, _, h => h.elim
 | [], _ :: _, _, _, _, h => h.elim
 | _ :: _, [], _, _, _, h => h.elim
 | _ :: _, _ :: _, [], _, _, h => h.elim
theorem sV {base : Nat} {sp : Nat → Bool} {hd : Bool} : ∀ {ts : List TypeId} {vs : List Value} {ds : List (DataW H)} {ps : List MemPlace}, DataW.TrodAll enc P w base sp hd ts vs ds ps → ds.length = ts.length
 | [], [], [], _, _ => rfl
 | t :: ts, v :: vs, d :: ds, _, ⟨p, q, _, h2, _⟩ => by simpa using sV h2
 | [], [], _ :: _, _, h => h.elim
 | [], _ :: _, _, _, h => h.elim
 | _ :: _, [], _, _, h => h.elim
 | _ :: _, _ :: _, [], _, h => h.elim
theorem tE : ∀ (ts us : List TypeId) (ds es : List (DataW H)), ds.length = ts.length → (DataW.weightsEach P (ts ++ us) (ds ++ es)).all (· ≤ reachBytes) = true → (DataW.weightsEach P ts ds).all (· ≤ reachBytes) = true
 | [], us, [], es, _, _ => rfl
 | t :: ts, us, d :: ds, es, hl, h => by
  simp only [List.cons_append, DataW.weightsEach, List.all_append, Bool.and_eq_true] at h ⊢
  exact ⟨h.1, tE ts us ds es (by simpa using hl) h.2⟩
 | [], us, _ :: _, es, hl, _ => by simp at hl
 | _ :: _, us, [], es, hl, _ => by simp at hl
end
structure RowFn (C : Checked) (f : FuncId) (fn : Func) (s : ChangeSpec) (rt : TypeId) : Prop where
 own : ownKnob C.prog.godebug = none
 noInit : C.prog.inits.idxOf? f = none
 func : C.prog.funcs[f]? = some fn
 laid : laidOutB C.prog = true
 params : fn.params.toList.all (fun t => isVar C.prog t && C.prog.readableRec t) = true
 res : fn.resultTypes = #[rt]
 bool : C.prog.underlying rt = some .bool
 vars : s.vars = []
 spec : ∀ (H : Type) (ds : List (DataW H)), ds.length = fn.params.size → s.fn H ds = { results := [.lit (.bool true)], args := ds }
theorem row_of {C : Checked} {os : Os} {f : FuncId} {fn : Func} {s : ChangeSpec} {rt : TypeId} {conds : List PathCond} {H : Type} {enc : TypeId × Value → H} (R : RowFn C f fn s rt) (started : os.Started)
  (witness : ∃ (w : World) (tape : Tape) (i : Input), w.os = os ∧ (w.forCall tape i).Shaped C.prog ∧ i.vars = [] ∧ Input.okWide C.prog (w.forCall tape i) .any w.heap.size f i ∧
   s.pre6 enc C.prog fn conds false (w.forCall tape i).memory i.args ∧ Assume.holds {} C.prog (lone (Frame.enter C.prog f i.args .normal) [] (w.forCall tape i)))
  (law : ∀ xs, Args C.prog fn.params.toList xs → Pure C.prog f xs (.pl (.bool true))) :
  ReturnsInHanded {} C os f .any (s.pre6 enc C.prog fn conds false) (s.post enc C.prog fn false true false false) := by
 refine returnsInHanded_of_change_sized (C := C) R.own started R.noInit R.func witness ?_
 intro Wd base args ds gs before hval hW hcnd hsz _
 have hW' := hW
 have hpar : ∀ t ∈ fn.params.toList, isVar C.prog t = true ∧ C.prog.readableRec t = true := fun t ht => by
  have := List.all_eq_true.1 R.params t ht
  simpa using this
 have hlt : ∀ t ∈ fn.params.toList, C.prog.readableRec t = true ∧ t < C.prog.types.size := fun t ht => by
  have h := (hpar t ht).1
  simp only [isVar, Bool.and_eq_true, decide_eq_true_eq] at h
  exact ⟨(hpar t ht).2, h.1⟩
 obtain ⟨p, q, hA, hV, rfl, hfz, hnd⟩ := hW
 rw [R.vars] at hV
 obtain ⟨rfl, rfl⟩ := trodVars_none hV
 have hlen := sV hA
 have hw := tE _ _ _ _ hlen hsz
 obtain ⟨xs, hxs, hrep⟩ := x_ (r := .any) (base := base) R.laid hpar (fun j t v h1 h2 => hval j t v (by simpa using h1) (by simpa using h2)) hA hw
 have hc := (law xs hxs).2 (· < Wd.heap.size) Wd args.toList (fun b hb => hb) hrep
 rw [Array.toArray_toList] at hc
 refine hc.mono fun e W' ⟨v, S', he, hv, hx, _⟩ => ?_
 subst he
 simp only [Rep] at hv; subst hv
 have bel : Below Wd.heap.size Wd W' := ⟨hx.os, hx.tape, hx.output, hx.size, fun k hk => hx.keep k hk (by rintro ⟨i, blk, l, h, _⟩; simp [look] at h)⟩
 have hsp := R.spec H ds (by rw [hlen]; simp)
 refine ⟨_, rfl, ds, [], _, [], p, [], hW', ?_, ?_, ?_, bel.frame _, fun h => by cases h⟩
 ·rw [List.append_nil, hsp, R.res]
  exact trodAll_mk1 (shut_bool R.bool _)
 ·rw [List.append_nil, hsp]
  exact xL R.laid bel hlt hA
 ·rw [List.append_nil, hsp, R.vars]
  rfl
section
variable {C : Cfg} {Q : Exit → St → Prop} {env env' tl tl' : Env} {mem mem' : Mem} {nx nx' : Nat} {w : World} {S : Nat → Prop} {φ : bA}
def dLe (d d' : D) : Prop := d' = d ∨ d' = .top ∨ (d' = .sl [] ∧ (d = .zs ∨ d = .pl (.slice none 0 0)))
theorem u0 {d d' : D} {x : Value} (h : dLe d d') (hr : Rep w S φ d x) : Rep w S φ d' x := by
 rcases h with rfl | rfl | ⟨rfl, rfl | rfl⟩
 ·exact hr
 ·simp [Rep]
 ·simp only [Rep] at hr ⊢; exact .inl ⟨trivial, hr⟩
 ·simp only [Rep] at hr ⊢; exact .inl ⟨trivial, .inl hr⟩
def lQ : Env → Env → Prop
 | [], [] => True
 | (k, d) :: e, (k', d') :: e' => k' = k ∧ dLe d d' ∧ lQ e e'
 | _, _ => False
theorem vH : ∀ {e e' : Env}, lQ e e' → ∀ j d', look e' j = some d' → ∃ d, look e j = some d ∧ dLe d d'
 | [], [], _, j, d', h => by simp [look] at h
 | (k, d) :: e, (k', d1) :: e', h, j, d', hl => by
  obtain ⟨rfl, h1, h2⟩ := h
  simp only [look] at hl ⊢
  by_cases hk : k' = j
  ·simp only [hk, if_true, Option.some.injEq] at hl ⊢; subst hl; exact ⟨d, rfl, h1⟩
  ·simp only [hk, if_false] at hl ⊢; exact vH h2 j d' hl
 | [], _ :: _, h, _, _, _ => h.elim
 | _ :: _, [], h, _, _, _ => h.elim
theorem qS : ∀ (e : Env), lQ e e
 | [] => trivial
 | (k, d) :: e => ⟨rfl, .inl rfl, qS e⟩
def sH : List D → List D → Prop
 | [], [] => True
 | d :: ds, e :: es => dLe d e ∧ sH ds es
 | _, _ => False
def yQ (b b' : Blk) : Prop := b' = b ∨ ∃ cs cs', b = .box cs ∧ b' = .box cs' ∧ sH cs cs'
theorem tD {b : Nat} : ∀ {cs cs' : List D} {o : Nat}, sH cs cs' → RepCs w S φ cs b o → RepCs w S φ cs' b o
 | [], [], _, _, h => h
 | d :: ds, e :: es, o, ⟨h1, h2⟩, h => by
  simp only [RepCs] at h ⊢
  obtain ⟨⟨x, hx, hr⟩, h⟩ := h
  exact ⟨⟨x, hx, u0 h1 hr⟩, tD h2 h⟩
 | [], _ :: _, _, h, _ => h.elim
 | _ :: _, [], _, h, _ => h.elim
theorem sX : ∀ {cs cs' : List D}, sH cs cs' → cs'.length = cs.length
 | [], [], _ => rfl
 | d :: ds, e :: es, ⟨_, h2⟩ => by simp [sX h2]
 | [], _ :: _, h => h.elim
 | _ :: _, [], h => h.elim
theorem L4 {l : Loc} {b b' : Blk} (h : yQ b b') (hr : BRep w S φ l b) : BRep w S φ l b' := by
 rcases h with rfl | ⟨cs, cs', rfl, rfl, h⟩
 ·exact hr
 ·simp only [BRep] at hr ⊢
  rw [sX h]
  exact ⟨hr.1, hr.2.1, hr.2.2.1, hr.2.2.2.1, tD h hr.2.2.2.2⟩
def g_ (mem mem' : Mem) : Prop := ∀ id blk', look mem' id = some blk' → ∃ blk, look mem id = some blk ∧ yQ blk blk'
theorem aK (mem : Mem) : g_ mem mem := fun _ b h => ⟨b, h, .inl rfl⟩
theorem GP (mem : Mem) : g_ mem [] := fun _ _ h => by simp [look] at h
theorem memLe_cons' {i : Nat} {b b' : Blk} (hb : yQ b b') (h : g_ mem mem') : g_ ((i, b) :: mem) ((i, b') :: mem') := fun id blk hl => by
 simp only [look] at hl ⊢
 split at hl
 ·rename_i e
  simp only [Option.some.injEq] at hl; subst hl
  simp only [e, if_true]
  exact ⟨b, rfl, hb⟩
 ·rename_i e; simpa [e] using h id blk hl
theorem aN {i : Nat} {b : Blk} (h : g_ mem mem') (hi : look mem' i = none) : g_ ((i, b) :: mem) mem' := fun id blk hl => by
 simp only [look]
 split
 ·rename_i e; subst e; rw [hi] at hl; simp at hl
 ·exact h id blk hl
theorem gA (h : MSim S φ mem nx w) (hm : g_ mem mem') (hn : nx ≤ nx') : MSim S φ mem' nx' w :=
 ⟨fun id blk hl => by obtain ⟨b, h1, h2⟩ := hm id blk hl; obtain ⟨l, h3, h4, h5⟩ := h.mem id b h1; exact ⟨l, h3, h4, L4 h2 h5⟩, h.inj, h.lt, fun i hi => h.fresh i (Nat.le_trans hn hi), h.sub⟩
theorem Wk_to (he : lQ env env') (hm : g_ mem mem') (hn : nx ≤ nx') : Wk C ⟨env, tl, mem, nx⟩ ⟨env', [], mem', nx'⟩ := fun B N S φ a w hN hs =>
 ⟨S, φ, ⟨hs.size, hs.defers, fun j d' hj hl => by
   obtain ⟨d, h1, h2⟩ := vH he j d' hl
   exact u0 h2 (hs.env j d hj h1), fun j d _ h => by simp [look] at h, gA hs.m hm hn⟩,
  ⟨fun _ h => h, fun _ _ _ => rfl, Nat.le_refl _, fun b _ ⟨id, blk, l, h1, h2, h3, h4⟩ => by obtain ⟨b1, g1, _⟩ := hm id blk h1; exact ⟨id, b1, l, g1, h2, h3, h4⟩, fun _ h => .inl h, rfl, rfl, rfl⟩, Grow.refl (Nat.le_trans hN hn)⟩
theorem Wk_own {j k : Nat} {d : D} (hj : look env j = some d) (hd : d = .pl (.slice none 0 0) ∨ d = .zs) : Wk C ⟨env, tl, mem, nx⟩ ⟨upd env j (.osl nx 0 0 0), [], (nx, .arr 0 k []) :: mem, nx + 1⟩ := fun B N S φ a w hN hs => by
 have hm1 : MSim S φ mem (nx + 1) w := gA hs.m (aK _) (Nat.le_succ _)
 obtain ⟨φ', h1, h2, h3, h4, h5⟩ := wG (k := k) hm1 (hs.m.fresh nx (Nat.le_refl _)) (Nat.lt_succ_self _)
 refine ⟨S, φ', ⟨hs.size, hs.defers, fun i d' hi hl => ?_, fun j d _ h => by simp [look] at h, h2⟩, h4, ⟨Nat.le_succ_of_le hN, fun i hi hnn => by rw [h5 i (by simp only at hN; omega)]; exact hnn, h3.loc⟩⟩
 rcases dW j _ env i d' hl with ⟨rfl, rfl⟩ | ⟨_, hl⟩
 ·have hr := hs.env i d hi hj
  have hz : Zs S (a.tmps.getD i undef) := by
   rcases hd with rfl | rfl
   ·simp only [Rep] at hr; exact .inl hr
   ·simpa only [Rep] using hr
  simp only [Rep]
  refine ⟨_, h1, Nat.le_refl _, ?_, fun _ => .inl ⟨rfl, trivial, trivial, hz⟩⟩
  rcases hz with h | ⟨p, h⟩ <;> exact ⟨_, _, _, h⟩
 ·exact Rep.mono h3 _ _ (hs.env i d' hi hl)
theorem yC {b : Nat} {d d' : D} : ∀ {cs : List D} {off o : Nat}, cs[off]? = some d → (∀ x, Rep w S φ d x → Rep w S φ d' x) → RepCs w S φ cs b o → RepCs w S φ (cs.set off d') b o
 | [], _, _, h, _, _ => by simp at h
 | c :: cs, 0, o, h, hd, hr => by
  simp only [List.getElem?_cons_zero, Option.some.injEq] at h; subst h
  simp only [List.set_cons_zero, RepCs] at hr ⊢
  obtain ⟨⟨x, hx, hr1⟩, h⟩ := hr
  exact ⟨⟨x, hx, hd x hr1⟩, h⟩
 | c :: cs, off + 1, o, h, hd, hr => by
  simp only [List.set_cons_succ, RepCs] at hr ⊢
  exact ⟨hr.1, yC (by simpa using h) hd hr.2⟩
theorem H4 {id off : Nat} {cs : List D} {d d' : D} (h : MSim S φ mem nx w) (hl : look mem id = some (.box cs)) (ho : cs[off]? = some d) (hd : ∀ x, Rep w S φ d x → Rep w S φ d' x) :
  MSim S φ (upd mem id (.box (cs.set off d'))) nx w :=
 ⟨fun i blk hi => by
  rcases dW id _ mem i blk hi with ⟨rfl, rfl⟩ | ⟨_, hi⟩
  ·obtain ⟨l, h1, h2, h3⟩ := h.mem i _ hl
   refine ⟨l, h1, h2, ?_⟩
   simp only [BRep, List.length_set] at h3 ⊢
   exact ⟨h3.1, h3.2.1, h3.2.2.1, h3.2.2.2.1, yC ho hd h3.2.2.2.2⟩
  ·exact h.mem i blk hi, h.inj, h.lt, h.fresh, h.sub⟩
theorem CN {id off k : Nat} {cs : List D} {d : D} (hl : look mem id = some (.box cs)) (ho : cs[off]? = some d) (hd : d = .pl (.slice none 0 0) ∨ d = .zs) :
  Wk C ⟨env, tl, mem, nx⟩ ⟨env, [], (nx, .arr 0 k []) :: upd mem id (.box (cs.set off (.osl nx 0 0 0))), nx + 1⟩ := fun B N S φ a w hN hs => by
 have hm1 : MSim S φ mem (nx + 1) w := gA hs.m (aK _) (Nat.le_succ _)
 obtain ⟨φ', h1, h2, h3, h4, h5⟩ := wG (k := k) hm1 (hs.m.fresh nx (Nat.le_refl _)) (Nat.lt_succ_self _)
 have hne : nx ≠ id := by
  rintro rfl
  obtain ⟨l, hφ, _⟩ := hs.m.mem _ _ hl
  rw [hs.m.fresh nx (Nat.le_refl _)] at hφ; simp at hφ
 have hl2 : look ((nx, Blk.arr 0 k []) :: mem) id = some (.box cs) := by simp only [look, hne, if_false]; exact hl
 have hm2 := H4 (off := off) (d' := .osl nx 0 0 0) h2 hl2 ho (fun x hr => by
  have hz : Zs S x := by
   rcases hd with rfl | rfl
   ·simp only [Rep] at hr; exact .inl hr
   ·simpa only [Rep] using hr
  simp only [Rep]
  refine ⟨_, h1, Nat.le_refl _, ?_, fun _ => .inl ⟨rfl, trivial, trivial, hz⟩⟩
  rcases hz with h | ⟨p, h⟩ <;> exact ⟨_, _, _, h⟩)
 simp only [upd, hne, if_false] at hm2
 refine ⟨S, φ', ⟨hs.size, hs.defers, fun i d' hi hl => Rep.mono h3 _ _ (hs.env i d' hi hl), fun j d _ h => by simp [look] at h, hm2⟩, ?_, ⟨Nat.le_succ_of_le hN, fun i hi hnn => by rw [h5 i (by simp only at hN; omega)]; exact hnn, h3.loc⟩⟩
 refine h4.trans ⟨fun _ h => h, fun _ _ _ => rfl, Nat.le_refl _, ?_, fun _ h => .inl h, rfl, rfl, rfl⟩
 rintro b _ ⟨i, blk, l, g1, g2, g3, g4⟩
 simp only [look] at g1
 by_cases e : nx = i
 ·subst e; exact ⟨nx, .arr 0 k [], l, by simp [look], g2, g3, g4⟩
 ·simp only [e, if_false] at g1
  rcases dW id _ mem i blk g1 with ⟨rfl, rfl⟩ | ⟨_, g1⟩
  ·exact ⟨i, _, l, hl2, g2, g3, g4⟩
  ·exact ⟨i, blk, l, by simp only [look, e, if_false]; exact g1, g2, g3, g4⟩
def yI {α : Type} (C : Cfg) (E : α → Nat → Env) (M : α → Nat → Mem) (inv : α → Nat → Prop) (μ : α → Nat) (y : α) (s : St) : Prop :=
 ∃ z n, inv z n ∧ μ z < μ y ∧ Wk C s ⟨E z n, [], M z n, n⟩
theorem aI {α : Type} {E : α → Nat → Env} {M : α → Nat → Mem} {inv : α → Nat → Prop} {μ : α → Nat} {y : α} (z : α) (hi : inv z nx) (hlt : μ z < μ y) (he : lQ env (E z nx)) (hm : g_ mem (M z nx)) :
  yI C E M inv μ y ⟨env, tl, mem, nx⟩ := ⟨z, nx, hi, hlt, Wk_to he hm (Nat.le_refl _)⟩
theorem xB {α : Type} {x : AC} (E : α → Nat → Env) (M : α → Nat → Mem) (inv : α → Nat → Prop) (μ : α → Nat)
  (h0 : ∃ x0 n0, inv x0 n0 ∧ Wk C ⟨env, [], mem, nx⟩ ⟨E x0 n0, [], M x0 n0, n0⟩)
  (round : ∀ y n, inv y n → A C x (dJ C (fZ (yI C E M inv μ y) Q) []) (E y n) (M y n) n) : A C (.loop x) Q env mem nx := by
 rw [uI]
 obtain ⟨x0, n0, hi, hw⟩ := h0
 refine rY hw ?_
 refine NI (α := α × Nat) (fun p => ⟨E p.1 p.2, [], M p.1 p.2, p.2⟩) (fun p => inv p.1 p.2) (fun p => μ p.1) (fun p hp => ?_) (x0, n0) hi
 refine MZ ?_ (LF (round p.1 p.2 hp))
 intro e s h
 rw [zY] at h
 cases e with
 | normal =>
  obtain ⟨z, n, h1, h2, h3⟩ := h
  exact ⟨(z, n), h1, h2, h3⟩
 | _ => exact h
theorem HS {α : Type} {x : AC} (E : α → Nat → Env) (M : α → Nat → Mem) (inv : α → Nat → Prop) (μ : α → Nat) (x0 : α) (h0 : inv x0 nx) (he : lQ env (E x0 nx)) (hm : g_ mem (M x0 nx))
  (round : ∀ y n, inv y n → A C x (dJ C (fZ (yI C E M inv μ y) Q) []) (E y n) (M y n) n) : A C (.loop x) Q env mem nx :=
 xB E M inv μ ⟨x0, nx, h0, Wk_to he hm (Nat.le_refl _)⟩ round
def rC (ws : List Nat) : Env → Env
 | [] => []
 | (k, d) :: e => (k, if ws.contains k then .top else d) :: rC ws e
def rJ : Env → List (Nat × D) → Env
 | e, [] => e
 | e, (j, d) :: r => rJ (upd e j d) r
@[simp] theorem tops_nil {ws : List Nat} : rC ws [] = [] := (rfl)
@[simp] theorem tops_cons {ws : List Nat} {k : Nat} {d : D} {e : Env} : rC ws ((k, d) :: e) = (k, if ws.contains k then .top else d) :: rC ws e := (rfl)
@[simp] theorem upds_nil {e : Env} : rJ e [] = e := by cases e <;> rfl
@[simp] theorem upds_cons {e : Env} {j : Nat} {d : D} {r : List (Nat × D)} : rJ e ((j, d) :: r) = rJ (upd e j d) r := by cases e <;> rfl
@[simp] theorem dLe_same {d : D} : dLe d d = True := by simp [dLe]
@[simp] theorem dLe_top {d : D} : dLe d .top = True := by simp [dLe]
@[simp] theorem envLe_nil : lQ [] [] = True := (rfl)
@[simp] theorem envLe_cons {k k' : Nat} {d d' : D} {e e' : Env} : lQ ((k, d) :: e) ((k', d') :: e') = (k' = k ∧ dLe d d' ∧ lQ e e') := (rfl)
@[simp] theorem memLe_same {m : Mem} : g_ m m = True := eq_true (aK m)
@[simp] theorem memLe_none {m : Mem} : g_ m [] = True := eq_true (GP m)
theorem cW {x : AC} {j k : Nat} {d : D} (hj : look env j = some d) (hd : d = .pl (.slice none 0 0) ∨ d = .zs) (h : A C (.loop x) Q (upd env j (.osl nx 0 0 0)) ((nx, .arr 0 k []) :: mem) (nx + 1)) : A C (.loop x) Q env mem nx := by
 rw [uI] at h ⊢
 exact rY (Wk_own hj hd) h
theorem oM {x : AC} {id off k : Nat} {cs : List D} {d : D} (hl : look mem id = some (.box cs)) (ho : cs[off]? = some d) (hd : d = .pl (.slice none 0 0) ∨ d = .zs)
  (h : A C (.loop x) Q env ((nx, .arr 0 k []) :: upd mem id (.box (cs.set off (.osl nx 0 0 0)))) (nx + 1)) : A C (.loop x) Q env mem nx := by
 rw [uI] at h ⊢
 exact rY (CN hl ho hd) h
@[simp] theorem NU {next : St → Prop} {s : St} : fZ next Q .normal s = next s := (rfl)
@[simp] theorem thenQ_ret {next : St → Prop} {s : St} : fZ next Q .ret s = Q .ret s := (rfl)
@[simp] theorem thenQ_exit {next : St → Prop} {s : St} {i : Nat} : fZ next Q (.exit i) s = Q (.exit i) s := (rfl)
@[simp] theorem thenQ_goto {next : St → Prop} {s : St} {i : Nat} : fZ next Q (.goto i) s = Q (.goto i) s := (rfl)
@[simp] theorem I7 {s : St} : q7 Q .normal s = Q .normal s := (rfl)
@[simp] theorem NT {s : St} : q7 Q .ret s = Q .ret s := (rfl)
@[simp] theorem M8 {s : St} {i : Nat} : q7 Q (.exit i) s = Q (.exit i) s := (rfl)
theorem aG {P : Program} {f : FuncId} {xs : List D} {r : D} {K : KD} (h : Pure P f xs r) (hi : D.imms xs = true) (hk : K r mem nx) : pcK P (some (.fn f [])) (some xs) mem nx K := by
 refine ⟨r, .inl ?_, ?_, hk⟩ <;> simpa
end
def em {α : Type} (enc : α → List D) (l : List α) : List (List D) := l.map enc
section
variable {α : Type} {enc : α → List D} {l : List α}
@[simp] theorem em_nil : em enc [] = [] := (rfl)
@[simp] theorem uF : (em enc l).length = l.length := by simp [em]
@[simp] theorem MQ {i : Nat} : (em enc l).take i = em enc (l.take i) := by simp [em, List.map_take]
@[simp] theorem K4 {i : Nat} : (em enc l).drop i = em enc (l.drop i) := by simp [em, List.map_drop]
@[simp 1100] theorem em_get [Inhabited α] {i : Nat} : (em enc l)[i]? = if i < l.length then some (enc (l[i]?.getD default)) else none := NF enc l i
theorem rB {i : Nat} {x : α} : (em enc l).set i (enc x) = em enc (l.set i x) := by simp [em, List.map_set]
theorem fP {x : α} : em enc l ++ [enc x] = em enc (l ++ [x]) := by simp [em]
@[simp] theorem LU {k : List α} : em enc l ++ em enc k = em enc (l ++ k) := by simp [em]
theorem GF {k : Nat} {x : α} : List.replicate k (enc x) = em enc (List.replicate k x) := by simp [em]
theorem gQ (h : ∀ x, D.imms (enc x) = true) : D.immss (em enc l) = true := by
 induction l with
 | nil => rfl
 | cons a l ih => simp only [em, List.map_cons, D.immss] at ih ⊢; rw [h, ih]; rfl
theorem FC {k : Nat} (h : ∀ x, (enc x).all D.cell = true) (hk : ∀ x, (enc x).length = k) : (em enc l).all (fun e => e.length == k && e.all D.cell) = true := by
 simp only [em, List.all_map, List.all_eq_true, Function.comp_apply, Bool.and_eq_true, beq_iff_eq]
 intro x _; exact ⟨hk x, List.all_eq_true.1 (h x)⟩
theorem iX [Inhabited α] {mem : Mem} {k : Nat} {j : IntKind} {i : Int} (hk : ∀ x, (enc x).length = k) :
  iaD mem k (.sl (em enc l)) (.pl (.int j i)) = if 0 ≤ i ∧ i < l.length then some (.pt (enc (l[i.toNat]?.getD default))) else none := by
 have := ia_map (f := enc) (l := l) (mem := mem) (j := j) (i := i) hk
 simpa [em] using this
theorem sL {p : α → Prop} : ∀ {es : List (List D)}, (∀ c ∈ es, ∃ x, c = enc x ∧ p x) → ∃ l : List α, es = em enc l ∧ ∀ x ∈ l, p x
 | [], _ => ⟨[], rfl, by simp⟩
 | c :: es, h => by
  obtain ⟨x, rfl, hx⟩ := h c (by simp)
  obtain ⟨l, rfl, hl⟩ := sL (es := es) fun d hd => h d (by simp [hd])
  exact ⟨x :: l, rfl, by simpa using ⟨hx, hl⟩⟩
end
section
variable {C : Cfg} {P : Program} {mem mf mk : Mem} {nx : Nat} {w : World} {S : Nat → Prop} {φ : bA} {f : FuncId} {args : List D} {K : KD}
theorem aD (h : bO P f args mem nx K) : clK P (some (.fn f [])) (some args) mem nx K := by
 unfold clK; simpa using h
theorem jL {caps : List D} (h : bO P f (args ++ caps) mem nx K) : clK P (some (.fn f caps)) (some args) mem nx K := h
theorem aF (mem : Mem) : cD mem mem := fun _ _ h => h
theorem iO (mem : Mem) : cD mem [] := fun _ _ h => by simp [look] at h
theorem lL {i : Nat} {b : Blk} {m m' : Mem} (h : cD m m') : cD ((i, b) :: m) ((i, b) :: m') := fun id blk hl => by
 simp only [look] at hl ⊢
 split at hl
 ·rename_i e; simpa [e] using hl
 ·rename_i e; simpa [e] using h id blk hl
theorem aE {i : Nat} {b : Blk} {m m' : Mem} (h : cD m m') (hi : look m' i = none) : cD ((i, b) :: m) m' := fun id blk hl => by
 simp only [look]
 split
 ·rename_i e; subst e; rw [hi] at hl; simp at hl
 ·exact h id blk hl
theorem gI {m m' : Mem} (h : cD m m') : g_ m m' := fun i b hl => ⟨b, h i b hl, .inl rfl⟩
theorem xF {args' : List D} {r : D} (h1 : cD mem mf) (h2 : cD mem mk) (hd : ∀ i, look mf i = none ∨ look mk i = none) (hfr : gL mf 100 args = some args') (hp : Pure P f args' r) (hk : K r mk nx) :
  bO P f args mem nx K := by
 refine ⟨hp.1, fun S φ w xs hm hx => ?_⟩
 have hmf : MSim S φ mf nx w := gA hm (gI h1) (Nat.le_refl _)
 have hmk0 : MSim S φ mk nx w := gA hm (gI h2) (Nat.le_refl _)
 have hargs := iU hmf 100 args args' xs hfr hx
 have hS2 : ∀ b, SF S φ mf b → b < w.heap.size := by
  rintro b (h | ⟨i, blk, l, _, g2, g3, rfl⟩)
  ·exact hm.sub b h
  ·exact hm.lt i l g2 g3
 have hmk : MSim (SF S φ mf) φ mk nx w := ⟨fun i blk hi => by
   obtain ⟨l, g1, g2, g3⟩ := hmk0.mem i blk hi
   refine ⟨l, g1, fun hr hs => ?_, BRep.mono jI (fun _ => rfl) blk g3⟩
   rcases hs with hs | ⟨j, blk', l', k1, k2, k3, k4⟩
   ·exact g2 hr hs
   ·have := hm.inj j i l' l k2 g1 k3 hr k4
    subst this
    rcases hd j with e | e
    ·rw [e] at k1; simp at k1
    ·rw [e] at hi; simp at hi, hm.inj, hm.lt, hm.fresh, hS2⟩
 refine (hp.2 (SF S φ mf) w xs hS2 hargs).mono ?_
 rintro e w' ⟨v, S', rfl, hr, hx', hS'⟩
 have hsame : ∀ b, b < w.heap.size → w'.heap[b]? = w.heap[b]? := fun b hb => hx'.keep b hb (by rintro ⟨i, blk, l, h1, _⟩; simp [look] at h1)
 have hst2 : Stays w (SF S φ mf) φ w' S' φ := Stays.of_heap hx'.sub (fun b hb => hsame b (hS2 b hb)) (fun _ _ h => h)
 have hst : Stays w S φ w' S' φ := ⟨fun b hb => hst2.sub b (.inl hb), fun b hb => hst2.cell b (.inl hb), hst2.loc⟩
 have hnews : ∀ b, S' b → SF S φ mf b ∨ w.heap.size ≤ b := fun b hb => by
  rcases hx'.news b hb with h | h | ⟨i, blk, l, h1, _⟩
  ·exact .inl h
  ·exact .inr h
  ·simp [look] at h1
 refine ⟨v, r, mk, nx, S', φ, rfl, hk, Nat.le_refl _, ⟨?_, hm.inj, ?_, hm.fresh, hS'⟩, Rep.mono (φ' := φ) ⟨fun _ h => h, fun _ _ _ => rfl, fun _ _ h => by simp [cN] at h⟩ _ _ hr, hst,
  ⟨fun b hb => hx'.sub b (.inl hb), fun b hb _ => hsame b hb, hx'.size, fun b _ ⟨i, blk, l, g1, g2, g3, g4⟩ => ⟨i, blk, l, h2 i blk g1, g2, g3, g4⟩, fun b hb => ?_, hx'.os, hx'.output, hx'.tape⟩, fun _ _ h => h⟩
 ·intro i blk hi'
  obtain ⟨l, h1, h2, h3⟩ := hmk.mem i blk hi'
  refine ⟨l, h1, fun hr hs => ?_, h3.mono hst2 fun hr => hsame _ (hm.lt i l h1 hr)⟩
  rcases hnews _ hs with h | h
  ·exact h2 hr h
  ·have := hm.lt i l h1 hr; omega
 ·intro i l h1 hr
  exact Nat.lt_of_lt_of_le (hm.lt i l h1 hr) hx'.size
 ·rcases hnews b hb with (h | ⟨i, blk, l, g1, g2, g3, g4⟩) | h
  ·exact .inl h
  ·exact .inr (.inr ⟨i, blk, l, h1 i blk g1, g2, g3, g4⟩)
  ·exact .inr (.inl h)
@[simp] theorem RetC_ret {rs : List RV} {s : St} : RetC rs K .ret s = ∃ ds, mD s.env s.mem rs = some ds ∧ ∃ mem', cD s.mem mem' ∧ K (kI ds) mem' s.nx := (rfl)
@[simp] theorem NV {rs : List RV} {s : St} : RetC rs K .normal s = ∃ ds, mD s.env s.mem rs = some ds ∧ ∃ mem', cD s.mem mem' ∧ K (kI ds) mem' s.nx := (rfl)
theorem yE {args : List D} {res : D} (hi : D.imms args = true) (h : bO P f args [] 0 (fun d mem _ => frz mem 100 d = some res)) : Pure P f args res := by
 refine ⟨h.1, fun S w xs hS hx => (h.2 S cN w xs ⟨fun i b h => by simp [look] at h, fun i j l m h => by simp [cN] at h, fun i l h => by simp [cN] at h, fun _ _ => rfl, hS⟩ hx).mono ?_⟩
 rintro e w' ⟨v, d, mem', nx', S', φ', rfl, hk, _, hm, hr, hst, hx', _⟩
 refine ⟨v, SF S' φ' mem', rfl, jU hm 100 _ _ _ hk hr, ⟨fun b hb => .inl (hx'.sub b hb), hx'.keep, hx'.size, fun b _ h => h, ?_, hx'.os, hx'.output, hx'.tape⟩, ?_⟩
 ·rintro b (h | h)
  ·exact hx'.news b h
  ·by_cases hlt : b < w.heap.size
   ·exact .inr (.inr (hx'.own b hlt h))
   ·exact .inr (.inl (by omega))
 ·rintro b (h | ⟨i, blk, l, _, h2, h3, rfl⟩)
  ·exact hm.sub b h
  ·exact hm.lt i l h2 h3
end
section
variable {P : Program}
end
theorem lpG (C : Cfg) (x : AC) (js : List Nat) {α : Type} {Q : Exit → St → Prop} {env : Env} {mem : Mem} {nx : Nat} (V : α → Nat → List (Nat × D)) (M : α → Nat → Mem) (inv : α → Nat → Prop) (μ : α → Nat) (x0 : α) (h0 : inv x0 nx) (he : lQ env (rJ (rC js env) (V x0 nx))) (hm : g_ mem (M x0 nx))
 (round : ∀ y n, inv y n → A C x (dJ C (fZ (yI C (fun y n => rJ (rC js env) (V y n)) M inv μ y) Q) []) (rJ (rC js env) (V y n)) (M y n) n) : A C (.loop x) Q env mem nx :=
 HS (fun y n => rJ (rC js env) (V y n)) M inv μ x0 h0 he hm round
structure FI (P : Program) (f : FuncId) (C : Cfg) (a : AC) (rs : List RV) (g : List Nat) (k : Nat) : Prop where
 pu : ∀ {args : List D} {res : D}, args.length ≤ k → A C a (dJ C (RetQ rs res) []) (rF g args) [] 0 → Pure P f args res
 ct : ∀ {args : List D} {mem : Mem} {nx : Nat} {K : KD}, args.length ≤ k → ((∀ i, nx ≤ i → look mem i = none) → A C a (dJ C (RetC rs K) []) (rF g args) mem nx) → bO P f args mem nx K
theorem FI_of {C : Cfg} {P : Program} {f : FuncId} {fn : Func} {c : Code} {ac : AC} {rs : List RV} {g : List Nat} {k : Nat} (hf : C.P.funcs[f]? = some fn) (hname : (fn.name == "runtime.NumGoroutine") = false) (hb : fn.body = some c) (hn : fn.ntmps = C.n) (hrs : fn.results.toList.mapM C.rv = some rs) (hc : C.comp c = some ac) (hP : C.P = P) (hg : C.gs = g) (hk : C.n = k) : FI P f C ac rs g k := by
 subst hP hg hk
 exact ⟨fun hl h => LD hf hname hb hn hl hrs hc h, fun hl h => KI hf hname hb hn hl hrs hc h⟩
end Go.Fx
set_option maxRecDepth 1000000
set_option maxHeartbeats 0
namespace Go.Fx.YtlhdpfaohphbaaaGreat
open Go Go.Fx Go.Proofs
noncomputable def cf68 : Cfg := ⟨Tryz.prog, 34, [0, 1, 2, 4, 5, 6], [7, 12]⟩
noncomputable def lb68_0 : AC :=
 .seq (.ifr [JA 17 6, JO 18 (.bin .geq 3 (.t 17) (JT 0))] (.t 18) .skip (.exit 0)) (.seq (.block 1 (.reg [JA 21 5, JM 22 21, JH 23 0 22, JD 24 1 23, JG 25 0 2, JD 26 1 25, JA 27 6, JL 28 11 26 27, JH 29 0 28, JD 30 1 29, JA 31 6, JO 32 (.bin .add 3 (.t 31) (JT 1)), JQ (.mup none (.t 24) (.t 30) (.t 32))])) (.reg [JA 19 6, JO 20 (.bin .sub 3 (.t 19) (JT 1)), JB 6 20]))
noncomputable def ac68 : AC :=
 (.seq (.reg [JN 2 0, JP 4 (.mv (.c (.pointer none)))]) (.seq (.reg [.mk (.t 7) none .mkm, JG 8 0 2, JD 9 1 8, JA 10 1, JO 11 (.bld [.map none, JW, JW, .nilFunc] [(0, 1, .t 7), (1, 1, .t 9), (3, 1, .t 10)]), JO 12 (.bx (.t 11)), JB 5 12]) (.seq (.seq (.reg [JG 13 0 2, JD 14 1 13, JO 15 (.len false (.t 14)), JO 16 (.bin .sub 3 (.t 15) (JT 1)), JB 6 16]) (.block 0 (.loop lb68_0))) (.seq (.reg [JA 33 5, JB 4 33]) .ret))))
theorem fi68 : FI Tryz.prog 68 cf68 ac68 [.t 4] [0, 1, 2, 4, 5, 6] 34 := FI_of (c := Tryz.f68.body.getD .skip) Tryz.func68 (by kernel_rfl) (by rfl) (by rfl) (by kernel_rfl) (by kernel_rfl) rfl rfl rfl
@[simp] theorem cfP68 : cf68.P = Tryz.prog := (rfl)
noncomputable def cf65 : Cfg := ⟨Tryz.prog, 37, [0, 1, 2, 3, 4, 6, 17, 18, 19], [15, 26, 34]⟩
noncomputable def lb65_0 : AC :=
 .seq (.ifr [JO 20 (.bin .lss 3 (.g 19) (.g 18))] (.t 20) .skip (.exit 0)) (.seq (.block 1 (.seq (.reg [JO 21 (.ia 11 (.g 17) (.g 19)), JE 22 11 21, JP 6 (.al [JU, JW, JV, JV, JU, JU, JV, .complex .f64 0 0, JW, JV, JV]), JQ (.st 11 (.g 6) (.t 22))]) (.seq (.reg [JA 23 4, JG 24 1 6, JD 25 1 24, JO 26 (.app 3 32 [JU, JV, JV] (.c (.slice none 0 0)) (.t 25)), JM 27 23, JH 28 2 27, JQ (.st 1 (.t 28) (.t 26))]) (.reg [JA 29 4, JG 30 3 6, JE 31 7 30, JG 32 2 6, JD 33 1 32, JO 34 (.cl (.f 70) [.t 29, .t 31, .t 33])])))) (.reg [JO 35 (.bin .add 3 (.g 19) (JT 1)), JB 19 35]))
noncomputable def ac65 : AC :=
 (.seq (.reg [JN 1 0, JP 2 (.al [JV, JV])]) (.seq (.reg [JF 7 1 1, JO 8 (.pc (.f 93) [.t 7]), JP 3 (.al [JV, JV]), JQ (.st 2 (.g 3) (.t 8))]) (.seq (.ifr [JG 9 0 3, JD 10 1 9, JO 11 (.bin .neq 52 (.t 10) (JT 0))] (.t 11) (.seq (.reg [JF 12 2 3, JQ (.st 2 (.g 2) (.t 12))]) .ret) .skip) (.seq (.reg [JF 13 1 1, JO 14 (.mkf 94 [.g 3]), JO 15 (.cl (.f 68) [.t 13, .t 14]), JB 4 15]) (.seq (.seq (.reg [JG 16 0 1, JP 17 (.ld false 1 (.t 16)), JP 18 (.len false (.g 17)), JI 19 0]) (.block 0 (.loop lb65_0))) (.seq (.reg [JF 36 2 3, JQ (.st 2 (.g 2) (.t 36))]) .ret))))))
theorem fi65 : FI Tryz.prog 65 cf65 ac65 [.c 2 true 2] [0, 1, 2, 3, 4, 6, 17, 18, 19] 37 := FI_of (c := Tryz.f65.body.getD .skip) Tryz.func65 (by kernel_rfl) (by rfl) (by rfl) (by kernel_rfl) (by kernel_rfl) rfl rfl rfl
@[simp] theorem cfP65 : cf65.P = Tryz.prog := (rfl)
noncomputable def cf37 : Cfg := ⟨Tryz.prog, 38, [0, 1, 2, 3, 5, 6, 7, 9, 10, 11, 12, 13, 14], [20, 27, 33]⟩
noncomputable def lb37_0 : AC :=
 .seq (.ifr [JO 15 (.bin .lss 3 (.g 14) (.g 13))] (.t 15) .skip (.exit 0)) (.seq (.block 1 (.seq (.reg [JO 16 (.ia 1 (.g 12) (.g 14)), JD 17 1 16, JB 9 17]) (.seq (.reg [JP 10 (.al [JV]), JQ (.st 1 (.g 10) (JT 0))]) (.seq (.reg [JF 18 1 3, JO 19 (.mkf 69 [.g 10]), JO 20 (.cl (.f 68) [.t 18, .t 19]), JB 11 20]) (.seq (.reg [JA 21 11, JA 22 11, JM 23 22, JH 24 2 23, JD 25 1 24, JA 26 1, JO 27 (.app 3 32 [JU, JV, JV] (.t 25) (.t 26)), JM 28 21, JH 29 2 28, JQ (.st 1 (.t 29) (.t 27))]) (.seq (.reg [JA 30 11, JF 31 7 5, JA 32 9, JO 33 (.cl (.f 70) [.t 30, .t 31, .t 32])]) (.ifr [JO 34 (.ld false 1 (.g 10)), JO 35 (.bin .eql 3 (.t 34) (JT 0))] (.t 35) (.seq (.reg [JA 36 9, JB 6 36, JI 7 0]) .ret) .skip))))))) (.reg [JO 37 (.bin .add 3 (.g 14) (JT 1)), JB 14 37]))
noncomputable def ac37 : AC :=
 (.seq (.reg [JN 3 0, JN 5 2, JI 6 0, JI 7 0]) (.seq (.seq (.reg [JP 12 (.bsl 1 3 [JV] [(0, 1, .c (.int .i64 1)), (1, 1, .c (.int .i64 2)), (2, 1, .c (.int .i64 3))]), JP 13 (.len false (.g 12)), JI 14 0]) (.block 0 (.loop lb37_0))) (.seq (.reg [JI 6 0, JI 7 34]) .ret)))
theorem fi37 : FI Tryz.prog 37 cf37 ac37 [.t 6, .t 7] [0, 1, 2, 3, 5, 6, 7, 9, 10, 11, 12, 13, 14] 38 := FI_of (c := Tryz.f37.body.getD .skip) Tryz.func37 (by kernel_rfl) (by rfl) (by rfl) (by kernel_rfl) (by kernel_rfl) rfl rfl rfl
@[simp] theorem cfP37 : cf37.P = Tryz.prog := (rfl)
noncomputable def cf97 : Cfg := ⟨Tryz.prog, 32, [0, 1, 2, 6], [18, 22]⟩
noncomputable def ac97 : AC :=
 (.seq (.reg [JA 7 0, JM 8 7, JH 9 2 8, JD 10 1 9, JO 11 (.len false (.t 10)), JB 6 11]) (.seq (.reg [JA 12 0, JA 13 0, JM 14 13, JH 15 2 14, JD 16 1 15, JA 17 2, JO 18 (.app 3 32 [JU, JV, JV] (.t 16) (.t 17)), JM 19 12, JH 20 2 19, JQ (.st 1 (.t 20) (.t 18))]) (.seq (.reg [JA 21 1, JO 22 (.cl (.t 21) [])]) (.reg [JA 23 0, JA 24 0, JM 25 24, JH 26 2 25, JD 27 1 26, JA 28 6, JO 29 (.sls false 3 (.t 27) none (some (.t 28))), JM 30 23, JH 31 2 30, JQ (.st 1 (.t 31) (.t 29))]))))
theorem fi97 : FI Tryz.prog 97 cf97 ac97 [] [0, 1, 2, 6] 32 := FI_of (c := Tryz.f97.body.getD .skip) Tryz.func97 (by kernel_rfl) (by rfl) (by rfl) (by kernel_rfl) (by kernel_rfl) rfl rfl rfl
@[simp] theorem cfP97 : cf97.P = Tryz.prog := (rfl)
noncomputable def cf96 : Cfg := ⟨Tryz.prog, 19, [0, 1, 2, 7, 8, 9, 10], [17]⟩
noncomputable def lb96_0 : AC :=
 .seq (.ifr [JO 11 (.bin .lss 3 (.g 10) (.g 9))] (.t 11) .skip (.exit 0)) (.seq (.block 1 (.seq (.reg [JO 12 (.ia 7 (.g 8) (.g 10)), JE 13 7 12, JP 7 (.al [JV, JU, JU, JV, .complex .f64 0 0, JW, JV]), JQ (.st 7 (.g 7) (.t 13))]) (.reg [JA 14 0, JF 15 7 7, JA 16 1, JO 17 (.cl (.f 70) [.t 14, .t 15, .t 16])]))) (.reg [JO 18 (.bin .add 3 (.g 10) (JT 1)), JB 10 18]))
noncomputable def ac96 : AC :=
 (.seq (.reg [JP 8 (.mv (.g 2)), JP 9 (.len false (.g 8)), JI 10 0]) (.block 0 (.loop lb96_0)))
theorem fi96 : FI Tryz.prog 96 cf96 ac96 [] [0, 1, 2, 7, 8, 9, 10] 19 := FI_of (c := Tryz.f96.body.getD .skip) Tryz.func96 (by kernel_rfl) (by rfl) (by rfl) (by kernel_rfl) (by kernel_rfl) rfl rfl rfl
@[simp] theorem cfP96 : cf96.P = Tryz.prog := (rfl)
noncomputable def cf70 : Cfg := ⟨Tryz.prog, 92, [0, 1, 2, 3, 4, 5, 6, 9], [3, 4, 5, 12, 20, 26, 34, 41, 51, 62, 72, 81, 91]⟩
noncomputable def ac70 : AC :=
 (.seq (.reg [JP 3 (.bx (.g 0)), JP 4 (.bx (.g 1)), JP 5 (.bx (.g 2))]) (.seq (.reg [JO 7 (.ld false 1 (.g 5)), JB 6 7]) (.seq (.seq (.reg [JG 8 0 4, JP 9 (.ld false 1 (.t 8))]) (.block 0 (.ifr [JO 14 (.bin .eql 40 (.g 9) (JT 19)), JC 13 14] (.t 13) (.seq (.reg [JO 15 (.ld false 1 (.g 3)), JG 16 5 4, JD 17 1 16, JO 18 (.ia 7 (.t 17) (JT 0)), JE 19 7 18, JO 20 (.cl (.f 70) [.t 15, .t 19, .c (.int .i64 2)])]) (.reg [JO 21 (.ld false 1 (.g 3)), JO 22 (.ld false 1 (.g 5)), JG 23 5 4, JD 24 1 23, JO 25 (.sls false 7 (.t 24) (some (JT 1)) none), JO 26 (.cl (.f 96) [.t 21, .t 22, .t 25])])) (.ifr [JO 28 (.bin .eql 40 (.g 9) (JT 20)), JC 27 28] (.t 27) (.seq (.reg [JO 29 (.ld false 1 (.g 3)), JG 30 5 4, JD 31 1 30, JO 32 (.ia 7 (.t 31) (JT 0)), JE 33 7 32, JO 34 (.cl (.f 70) [.t 29, .t 33, .c (.int .i64 3)])]) (.seq (.reg [JO 35 (.ld false 1 (.g 3)), JG 36 5 4, JD 37 1 36, JO 38 (.ia 7 (.t 37) (JT 1)), JE 39 7 38, JO 40 (.ld false 1 (.g 5)), JO 41 (.cl (.f 70) [.t 35, .t 39, .t 40])]) (.reg [JO 42 (.ld false 1 (.g 3)), JO 43 (.mkf 98 [.g 3, .g 4, .g 5]), JG 44 1 4, JD 45 1 44, JO 46 (.bld [JU, JV, JV] [(0, 1, .t 45), (1, 1, .c (.int .i64 1))]), JG 47 2 4, JD 48 1 47, JO 49 (.bld [JU, JV, JV] [(0, 1, .t 48), (1, 1, .c (.int .i64 3))]), JO 50 (.bsl 3 2 [JU, JV, JV] [(0, 3, .t 46), (3, 3, .t 49)]), JO 51 (.cl (.f 97) [.t 42, .t 43, .t 50])]))) (.ifr [JO 53 (.bin .eql 40 (.g 9) (JT 21)), JC 52 53] (.t 52) (.reg [JO 54 (.ld false 1 (.g 3)), JO 55 (.mkf 99 [.g 3, .g 4, .g 5]), JG 56 1 4, JD 57 1 56, JG 58 3 4, JD 59 1 58, JO 60 (.bld [JU, JV, JV] [(0, 1, .t 57), (1, 1, .t 59)]), JO 61 (.bsl 3 1 [JU, JV, JV] [(0, 3, .t 60)]), JO 62 (.cl (.f 97) [.t 54, .t 55, .t 61])]) (.ifr [JO 64 (.bin .eql 40 (.g 9) (JT 22)), JC 63 64] (.t 63) (.seq (.reg [JO 65 (.ld false 1 (.g 3)), JG 66 5 4, JD 67 1 66, JO 68 (.ia 7 (.t 67) (JT 0)), JE 69 7 68, JG 70 3 4, JD 71 1 70, JO 72 (.cl (.f 70) [.t 65, .t 69, .t 71])]) (.reg [JO 73 (.ld false 1 (.g 3)), JO 74 (.mkf 100 [.g 3, .g 4, .g 5]), JG 75 1 4, JD 76 1 75, JG 77 3 4, JD 78 1 77, JO 79 (.bld [JU, JV, JV] [(0, 1, .t 76), (1, 1, .t 78)]), JO 80 (.bsl 3 1 [JU, JV, JV] [(0, 3, .t 79)]), JO 81 (.cl (.f 97) [.t 73, .t 74, .t 80])])) (.reg [JO 10 (.ld false 1 (.g 3)), JF 11 7 4, JO 12 (.cl (.f 101) [.t 10, .t 11]), JB 6 12]))))))) (.ifr [JA 82 6, JO 83 (.ld false 1 (.g 5)), JO 84 (.bin .neq 25 (.t 82) (.t 83))] (.t 84) (.reg [JO 85 (.ld false 1 (.g 3)), JM 86 85, JH 87 3 86, JD 88 1 87, JG 89 6 4, JD 90 1 89, JO 91 (.cl (.t 88) [.t 90])]) .skip))))
theorem fi70 : FI Tryz.prog 70 cf70 ac70 [] [0, 1, 2, 3, 4, 5, 6, 9] 92 := FI_of (c := Tryz.f70.body.getD .skip) Tryz.func70 (by kernel_rfl) (by rfl) (by rfl) (by kernel_rfl) (by kernel_rfl) rfl rfl rfl
@[simp] theorem cfP70 : cf70.P = Tryz.prog := (rfl)
noncomputable def cf98 : Cfg := ⟨Tryz.prog, 10, [0, 1, 2], [9]⟩
noncomputable def ac98 : AC :=
 (.reg [JO 3 (.ld false 1 (.g 0)), JG 4 5 1, JD 5 1 4, JO 6 (.ia 7 (.t 5) (JT 2)), JE 7 7 6, JO 8 (.ld false 1 (.g 2)), JO 9 (.cl (.f 70) [.t 3, .t 7, .t 8])])
theorem fi98 : FI Tryz.prog 98 cf98 ac98 [] [0, 1, 2] 10 := FI_of (c := Tryz.f98.body.getD .skip) Tryz.func98 (by kernel_rfl) (by rfl) (by rfl) (by kernel_rfl) (by kernel_rfl) rfl rfl rfl
@[simp] theorem cfP98 : cf98.P = Tryz.prog := (rfl)
noncomputable def cf99 : Cfg := ⟨Tryz.prog, 18, [0, 1, 2], [10, 17]⟩
noncomputable def ac99 : AC :=
 (.seq (.reg [JO 3 (.ld false 1 (.g 0)), JG 4 5 1, JD 5 1 4, JO 6 (.ia 7 (.t 5) (JT 0)), JE 7 7 6, JG 8 3 1, JD 9 1 8, JO 10 (.cl (.f 70) [.t 3, .t 7, .t 9])]) (.reg [JO 11 (.ld false 1 (.g 0)), JG 12 5 1, JD 13 1 12, JO 14 (.ia 7 (.t 13) (JT 1)), JE 15 7 14, JO 16 (.ld false 1 (.g 2)), JO 17 (.cl (.f 70) [.t 11, .t 15, .t 16])]))
theorem fi99 : FI Tryz.prog 99 cf99 ac99 [] [0, 1, 2] 18 := FI_of (c := Tryz.f99.body.getD .skip) Tryz.func99 (by kernel_rfl) (by rfl) (by rfl) (by kernel_rfl) (by kernel_rfl) rfl rfl rfl
@[simp] theorem cfP99 : cf99.P = Tryz.prog := (rfl)
noncomputable def cf100 : Cfg := ⟨Tryz.prog, 10, [0, 1, 2], [9]⟩
noncomputable def ac100 : AC :=
 (.reg [JO 3 (.ld false 1 (.g 0)), JG 4 5 1, JD 5 1 4, JO 6 (.ia 7 (.t 5) (JT 1)), JE 7 7 6, JO 8 (.ld false 1 (.g 2)), JO 9 (.cl (.f 70) [.t 3, .t 7, .t 8])])
theorem fi100 : FI Tryz.prog 100 cf100 ac100 [] [0, 1, 2] 10 := FI_of (c := Tryz.f100.body.getD .skip) Tryz.func100 (by kernel_rfl) (by rfl) (by rfl) (by kernel_rfl) (by kernel_rfl) rfl rfl rfl
@[simp] theorem cfP100 : cf100.P = Tryz.prog := (rfl)
noncomputable def cf101 : Cfg := ⟨Tryz.prog, 85, [0, 1, 3, 4, 5, 7, 8], [52, 58, 66, 72, 76]⟩
noncomputable def lb101_0 : AC :=
 .seq (.ifr [JA 25 5, JO 26 (.bin .geq 3 (.t 25) (JT 0))] (.t 26) .skip (.exit 1)) (.seq (.block 2 (.ifr [JA 29 0, JM 30 29, JH 31 2 30, JD 32 1 31, JA 33 5, JL 34 3 32 33, JH 35 0 34, JD 36 1 35, JG 37 1 3, JD 38 1 37, JO 39 (.bin .eql 9 (.t 36) (.t 38))] (.t 39) (.seq (.reg [JA 40 0, JM 41 40, JH 42 2 41, JD 43 1 42, JA 44 5, JL 45 3 43 44, JH 46 1 45, JD 47 1 46, JB 4 47]) .ret) .skip)) (.reg [JA 27 5, JO 28 (.bin .sub 3 (.t 27) (JT 1)), JB 5 28]))
noncomputable def ac101 : AC :=
 (.seq (.reg [JN 3 1, JI 4 0]) (.seq (.seq (.reg [JG 6 0 3, JP 7 (.ld false 1 (.t 6))]) (.block 0 (.seq (.ifr [JO 9 (.bin .eql 40 (.g 7) (JT 2)), JB 8 9] (.g 8) .skip (.reg [JO 10 (.bin .eql 40 (.g 7) (JT 3)), JB 8 10])) (.cond (.g 8) (.seq (.reg [JI 4 2]) .ret) (.ifr [JO 12 (.bin .eql 40 (.g 7) (JT 4)), JC 11 12] (.t 11) (.seq (.reg [JI 4 3]) .ret) (.ifr [JO 14 (.bin .eql 40 (.g 7) (JT 5)), JC 13 14] (.t 13) (.seq (.reg [JG 15 3 3, JD 16 1 15, JB 4 16]) .ret) (.ifr [JO 18 (.bin .eql 40 (.g 7) (JT 6)), JC 17 18] (.t 17) (.seq (.seq (.reg [JA 19 0, JM 20 19, JH 21 2 20, JD 22 1 21, JO 23 (.len false (.t 22)), JO 24 (.bin .sub 3 (.t 23) (JT 1)), JB 5 24]) (.block 1 (.loop lb101_0))) (.seq (.reg [JI 4 0]) .ret)) (.ifr [JO 49 (.bin .eql 40 (.g 7) (JT 7)), JC 48 49] (.t 48) (.seq (.reg [JA 50 0, JF 51 7 3, JO 52 (.cl (.f 130) [.t 50, .t 51]), JB 4 52]) .ret) (.ifr [JO 54 (.bin .eql 40 (.g 7) (JT 14)), JC 53 54] (.t 53) (.seq (.reg [JA 55 0, JG 56 5 3, JD 57 1 56, JO 58 (.cl (.f 96) [.t 55, .c (.int .i64 2), .t 57])]) (.seq (.reg [JI 4 2]) .ret)) (.ifr [JO 60 (.bin .eql 40 (.g 7) (JT 18)), JC 59 60] (.t 59) (.seq (.reg [JA 61 0, JG 62 5 3, JD 63 1 62, JO 64 (.ia 7 (.t 63) (JT 0)), JE 65 7 64, JO 66 (.cl (.f 70) [.t 61, .t 65, .c (.int .i64 1)])]) (.seq (.reg [JA 67 0, JG 68 5 3, JD 69 1 68, JO 70 (.ia 7 (.t 69) (JT 1)), JE 71 7 70, JO 72 (.cl (.f 70) [.t 67, .t 71, .c (.int .i64 3)])]) (.seq (.reg [JI 4 3]) .ret))) .skip)))))))))) (.seq (.reg [JA 73 0, JG 74 5 3, JD 75 1 74, JO 76 (.cl (.f 96) [.t 73, .c (.int .i64 1), .t 75])]) (.seq (.ifr [JG 77 0 3, JD 78 1 77, JO 79 (.bin .eql 40 (.t 78) (JT 12)), JC 80 79, JR 81 80 (.fa 0 (.g 3)), JR 82 80 (.ld false 1 (.t 81)), JR 83 80 (.bin .eql 40 (.t 82) (JT 13)), JO 84 (.pick (.t 80) JX (.t 83))] (.t 84) (.seq (.reg [JI 4 2]) .ret) .skip) (.seq (.reg [JI 4 1]) .ret)))))
theorem fi101 : FI Tryz.prog 101 cf101 ac101 [.t 4] [0, 1, 3, 4, 5, 7, 8] 85 := FI_of (c := Tryz.f101.body.getD .skip) Tryz.func101 (by kernel_rfl) (by rfl) (by rfl) (by kernel_rfl) (by kernel_rfl) rfl rfl rfl
@[simp] theorem cfP101 : cf101.P = Tryz.prog := (rfl)
noncomputable def cf130 : Cfg := ⟨Tryz.prog, 67, [0, 1, 3, 4, 5, 6, 7, 41, 42, 43], [56]⟩
noncomputable def lb130_0 : AC :=
 .seq (.ifr [JO 44 (.bin .lss 3 (.g 43) (.g 42))] (.t 44) .skip (.exit 0)) (.seq (.block 1 (.seq (.reg [JA 45 43, JO 46 (.ia 3 (.g 41) (.g 43)), JE 47 3 46, JP 7 (.al [JU, JV, JV]), JB 6 45, JQ (.st 3 (.g 7) (.t 47))]) (.reg [JA 48 0, JG 49 5 3, JD 50 1 49, JA 51 6, JL 52 7 50 51, JE 53 7 52, JG 54 1 7, JD 55 1 54, JO 56 (.cl (.f 70) [.t 48, .t 53, .t 55])]))) (.reg [JO 57 (.bin .add 3 (.g 43) (JT 1)), JB 43 57]))
noncomputable def ac130 : AC :=
 (.seq (.reg [JN 3 1, JI 4 0]) (.seq (.reg [JA 8 0, JM 9 8, JH 10 0 9, JD 11 1 10, JG 12 1 3, JD 13 1 12, JO 14 (.lk none (.int .i64 0) false (.t 11) (.t 13)), JB 5 14]) (.seq (.ifr [JA 15 5, JO 16 (.bin .eql 3 (.t 15) (JT 0)), JC 17 16, JR 18 17 (.mv (.g 0)), JR 19 17 (.chk (.t 18)), JR 20 17 (.fa 1 (.t 19)), JR 21 17 (.ld false 1 (.t 20)), JR 22 17 (.mv (.g 5)), JR 23 17 (.bin .sub 3 (.t 22) (JT 1)), JR 24 17 (.ia 11 (.t 21) (.t 23)), JR 25 17 (.fa 1 (.t 24)), JR 26 17 (.ld false 1 (.t 25)), JR 27 17 (.len false (.t 26)), JR 28 17 (.fa 5 (.g 3)), JR 29 17 (.ld false 1 (.t 28)), JR 30 17 (.len false (.t 29)), JR 31 17 (.bin .neq 3 (.t 27) (.t 30)), JO 32 (.pick (.t 17) JX (.t 31))] (.t 32) (.seq (.reg [JI 4 0]) .ret) .skip) (.seq (.seq (.reg [JA 33 0, JM 34 33, JH 35 1 34, JD 36 1 35, JA 37 5, JO 38 (.bin .sub 3 (.t 37) (JT 1)), JL 39 11 36 38, JH 40 1 39, JP 41 (.ld false 1 (.t 40)), JP 42 (.len false (.g 41)), JI 43 0]) (.block 0 (.loop lb130_0))) (.seq (.reg [JA 58 0, JM 59 58, JH 60 1 59, JD 61 1 60, JA 62 5, JO 63 (.bin .sub 3 (.t 62) (JT 1)), JL 64 11 61 63, JH 65 2 64, JD 66 1 65, JB 4 66]) .ret)))))
theorem fi130 : FI Tryz.prog 130 cf130 ac130 [.t 4] [0, 1, 3, 4, 5, 6, 7, 41, 42, 43] 67 := FI_of (c := Tryz.f130.body.getD .skip) Tryz.func130 (by kernel_rfl) (by rfl) (by rfl) (by kernel_rfl) (by kernel_rfl) rfl rfl rfl
@[simp] theorem cfP130 : cf130.P = Tryz.prog := (rfl)
noncomputable def cf94 : Cfg := ⟨Tryz.prog, 14, [0, 1], []⟩
noncomputable def ac94 : AC :=
 (.ifr [JG 3 0 1, JD 4 1 3, JO 5 (.bin .eql 52 (.t 4) (JT 0)), JC 6 5, JR 7 6 (.mv (.g 0)), JR 8 6 (.fa 1 (.g 1)), JR 9 6 (.ld false 1 (.t 8)), JR 10 6 (.bin .lss 3 (.t 7) (.t 9)), JO 11 (.pick (.t 6) JX (.t 10))] (.t 11) (.reg [JA 12 0, JO 13 (.bld [JV, JV] [(0, 1, .c (.int .i64 34)), (1, 1, .t 12)]), JQ (.st 2 (.g 1) (.t 13))]) .skip)
theorem fi94 : FI Tryz.prog 94 cf94 ac94 [] [0, 1] 14 := FI_of (c := Tryz.f94.body.getD .skip) Tryz.func94 (by kernel_rfl) (by rfl) (by rfl) (by kernel_rfl) (by kernel_rfl) rfl rfl rfl
@[simp] theorem cfP94 : cf94.P = Tryz.prog := (rfl)
noncomputable def cf69 : Cfg := ⟨Tryz.prog, 5, [0, 1], []⟩
noncomputable def ac69 : AC :=
 (.reg [JO 3 (.ld false 1 (.g 1)), JO 4 (.bin .add 3 (.t 3) (JT 1)), JQ (.st 1 (.g 1) (.t 4))])
theorem fi69 : FI Tryz.prog 69 cf69 ac69 [] [0, 1] 5 := FI_of (c := Tryz.f69.body.getD .skip) Tryz.func69 (by kernel_rfl) (by rfl) (by rfl) (by kernel_rfl) (by kernel_rfl) rfl rfl rfl
@[simp] theorem cfP69 : cf69.P = Tryz.prog := (rfl)
@[simp] theorem eqTypes7_9 {a b : ByteArray} : bF Tryz.prog .eql 9 (.pl (.string a)) (.pl (.string b)) = some (.pl (.bool (decide (a = b)))) := kO Tryz.underlying9
@[simp] theorem neTypes7_9 {a b : ByteArray} : bF Tryz.prog .neq 9 (.pl (.string a)) (.pl (.string b)) = some (.pl (.bool (!decide (a = b)))) := pM Tryz.underlying9
noncomputable def cf17 : Cfg := ⟨Tryz.prog, 18, [0, 1, 4, 5], []⟩
noncomputable def lb17_0 : AC :=
 .seq (.ifr [JA 6 5, JA 7 0, JO 8 (.len false (.t 7)), JO 9 (.bin .lss 3 (.t 6) (.t 8))] (.t 9) .skip (.exit 0)) (.seq (.block 1 (.ifr [JA 12 0, JA 13 5, JL 14 1 12 13, JD 15 1 14, JA 16 1, JO 17 (.bin .eql 9 (.t 15) (.t 16))] (.t 17) (.seq (.reg [JP 4 (.mv JX)]) .ret) .skip)) (.reg [JA 10 5, JO 11 (.bin .add 3 (.t 10) (JT 1)), JB 5 11]))
noncomputable def ac17 : AC :=
 (.seq (.reg [JP 4 (.mv JY)]) (.seq (.seq (.reg [JI 5 0]) (.block 0 (.loop lb17_0))) (.seq (.reg [JP 4 (.mv JY)]) .ret)))
theorem fi17 : FI Tryz.prog 17 cf17 ac17 [.t 4] [0, 1, 4, 5] 18 := FI_of (c := Tryz.f17.body.getD .skip) Tryz.func17 (by kernel_rfl) (by rfl) (by rfl) (by kernel_rfl) (by kernel_rfl) rfl rfl rfl
@[simp] theorem cfP17 : cf17.P = Tryz.prog := (rfl)
noncomputable def cf48 : Cfg := ⟨Tryz.prog, 12, [0, 1, 4, 5], [8, 11]⟩
noncomputable def ac48 : AC :=
 (.seq (.reg [JP 4 (.mv (.c (.slice none 0 0)))]) (.seq (.reg [JP 5 (.mv (.c (.slice none 0 0)))]) (.seq (.reg [JA 6 5, JA 7 0, JO 8 (.app 1 16 [JU] (.t 6) (.t 7)), JB 5 8]) (.seq (.reg [JA 9 5, JA 10 1, JO 11 (.app 1 16 [JU] (.t 9) (.t 10)), JB 4 11]) .ret))))
theorem fi48 : FI Tryz.prog 48 cf48 ac48 [.t 4] [0, 1, 4, 5] 12 := FI_of (c := Tryz.f48.body.getD .skip) Tryz.func48 (by kernel_rfl) (by rfl) (by rfl) (by kernel_rfl) (by kernel_rfl) rfl rfl rfl
@[simp] theorem cfP48 : cf48.P = Tryz.prog := (rfl)
noncomputable def cf131 : Cfg := ⟨Tryz.prog, 32, [0, 1, 2, 4, 5], []⟩
noncomputable def ac131 : AC :=
 (.seq (.reg [JN 2 0, JP 4 (.mv (.c (.slice none 0 0)))]) (.seq (.block 0 (.seq (.ifr [JG 6 0 2, JD 7 1 6, JO 8 (.bin .eql 40 (.t 7) (JT 21)), JB 5 8] (.g 5) .skip (.reg [JG 9 0 2, JD 10 1 9, JO 11 (.bin .eql 40 (.t 10) (JT 22)), JC 12 11, JS 13 12 (.mv (.g 1)), JS 14 12 (.bin .eql 3 (.t 13) (JT 1)), JO 15 (.pick (.t 12) (.t 14) JY), JB 5 15])) (.cond (.g 5) (.seq (.reg [JG 16 1 2, JD 17 1 16, JO 18 (.bsl 1 1 [JU] [(0, 1, .t 17)]), JB 4 18]) .ret) (.ifr [JG 20 0 2, JD 21 1 20, JO 22 (.bin .eql 40 (.t 21) (JT 20)), JC 23 22, JS 24 23 (.mv (.g 1)), JS 25 23 (.bin .eql 3 (.t 24) (JT 2)), JO 26 (.pick (.t 23) (.t 25) JY), JC 19 26] (.t 19) (.seq (.reg [JG 27 1 2, JD 28 1 27, JG 29 2 2, JD 30 1 29, JO 31 (.bsl 1 2 [JU] [(0, 1, .t 28), (1, 1, .t 30)]), JB 4 31]) .ret) .skip)))) (.seq (.reg [JP 4 (.mv (.c (.slice none 0 0)))]) .ret)))
theorem fi131 : FI Tryz.prog 131 cf131 ac131 [.t 4] [0, 1, 2, 4, 5] 32 := FI_of (c := Tryz.f131.body.getD .skip) Tryz.func131 (by kernel_rfl) (by rfl) (by rfl) (by kernel_rfl) (by kernel_rfl) rfl rfl rfl
@[simp] theorem cfP131 : cf131.P = Tryz.prog := (rfl)
noncomputable def cf109 : Cfg := ⟨Tryz.prog, 55, [0, 1, 2, 4, 5, 6, 7, 8], [31, 53]⟩
noncomputable def lb109_0 : AC :=
 .seq (.ifr [JA 32 6, JG 33 5 2, JD 34 1 33, JO 35 (.len false (.t 34)), JO 36 (.bin .lss 3 (.t 32) (.t 35))] (.t 36) .skip (.exit 0)) (.seq (.block 1 (.seq (.reg [JA 39 1, JF 40 7 2, JA 41 6, JO 42 (.pc (.f 131) [.t 40, .t 41]), JO 43 (.pc (.f 48) [.t 39, .t 42]), JB 7 43]) (.seq (.reg [JG 44 5 2, JD 45 1 44, JA 46 6, JL 47 7 45 46, JE 48 7 47, JA 49 7, JO 50 (.pc (.f 109) [.t 48, .t 49]), JB 8 50]) (.reg [JA 51 5, JA 52 8, JO 53 (.app 8 104 [JV, JU, JU, JV, .complex .f64 0 0, JW, JV, .bool false] (.t 51) (.t 52)), JB 5 53])))) (.reg [JA 37 6, JO 38 (.bin .add 3 (.t 37) (JT 1)), JB 6 38]))
noncomputable def ac109 : AC :=
 (.seq (.reg [JN 2 0, JP 4 (.mv (.c (.slice none 0 0)))]) (.seq (.reg [JP 5 (.mv (.c (.slice none 0 0)))]) (.seq (.ifr [JG 9 0 2, JD 10 1 9, JO 11 (.bin .eql 40 (.t 10) (JT 6)), JC 12 11, JR 13 12 (.fa 0 (.g 2)), JR 14 12 (.ld false 1 (.t 13)), JR 15 12 (.bin .eql 40 (.t 14) (JT 7)), JO 16 (.pick (.t 12) JX (.t 15))] (.t 16) (.reg [JA 17 5, JF 18 7 2, JG 19 0 2, JD 20 1 19, JO 21 (.bin .eql 40 (.t 20) (JT 6)), JC 22 21, JS 23 22 (.mv (.g 1)), JS 24 22 (.fa 1 (.g 2)), JS 25 22 (.ld false 1 (.t 24)), JS 26 22 (.pc (.f 17) [.t 23, .t 25]), JS 27 22 (.un .not (.t 26)), JO 28 (.pick (.t 22) (.t 27) JY), JO 29 (.bld [JV, JU, JU, JV, .complex .f64 0 0, JW, JV, .bool false] [(0, 7, .t 18), (7, 1, .t 28)]), JO 30 (.bsl 8 1 [JV, JU, JU, JV, .complex .f64 0 0, JW, JV, .bool false] [(0, 8, .t 29)]), JO 31 (.app 8 104 [JV, JU, JU, JV, .complex .f64 0 0, JW, JV, .bool false] (.t 17) (.t 30)), JB 5 31]) .skip) (.seq (.seq (.reg [JI 6 0]) (.block 0 (.loop lb109_0))) (.seq (.reg [JA 54 5, JB 4 54]) .ret)))))
theorem fi109 : FI Tryz.prog 109 cf109 ac109 [.t 4] [0, 1, 2, 4, 5, 6, 7, 8] 55 := FI_of (c := Tryz.f109.body.getD .skip) Tryz.func109 (by kernel_rfl) (by rfl) (by rfl) (by kernel_rfl) (by kernel_rfl) rfl rfl rfl
@[simp] theorem cfP109 : cf109.P = Tryz.prog := (rfl)
noncomputable def cf108 : Cfg := ⟨Tryz.prog, 22, [0, 1, 2, 4, 5], []⟩
noncomputable def lb108_0 : AC :=
 .seq (.ifr [JA 6 5, JG 7 0 2, JD 8 1 7, JO 9 (.len false (.t 8)), JO 10 (.bin .lss 3 (.t 6) (.t 9))] (.t 10) .skip (.exit 0)) (.seq (.block 1 (.ifr [JG 13 0 2, JD 14 1 13, JA 15 5, JL 16 11 14 15, JH 17 0 16, JD 18 1 17, JA 19 1, JO 20 (.bin .eql 9 (.t 18) (.t 19))] (.t 20) (.seq (.reg [JA 21 5, JB 4 21]) .ret) .skip)) (.reg [JA 11 5, JO 12 (.bin .add 3 (.t 11) (JT 1)), JB 5 12]))
noncomputable def ac108 : AC :=
 (.seq (.reg [JN 2 0, JI 4 0]) (.seq (.seq (.reg [JI 5 0]) (.block 0 (.loop lb108_0))) (.seq (.reg [JI 4 (-1)]) .ret)))
theorem fi108 : FI Tryz.prog 108 cf108 ac108 [.t 4] [0, 1, 2, 4, 5] 22 := FI_of (c := Tryz.f108.body.getD .skip) Tryz.func108 (by kernel_rfl) (by rfl) (by rfl) (by kernel_rfl) (by kernel_rfl) rfl rfl rfl
@[simp] theorem cfP108 : cf108.P = Tryz.prog := (rfl)
noncomputable def cf78 : Cfg := ⟨Tryz.prog, 129, [0, 1, 2, 3, 4, 5, 6, 7, 8, 9, 10, 11], [35, 50, 60, 69, 95, 110, 127]⟩
noncomputable def lb78_0 : AC :=
 .seq (.ifr [JA 74 9, JA 75 8, JO 76 (.len false (.t 75)), JO 77 (.bin .lss 3 (.t 74) (.t 76))] (.t 77) .skip (.exit 4)) (.seq (.block 5 (.seq (.reg [JA 80 8, JA 81 9, JL 82 8 80 81, JH 83 0 82, JE 84 7 83, JP 10 (.al [JV, JU, JU, JV, .complex .f64 0 0, JW, JV]), JQ (.st 7 (.g 10) (.t 84))]) (.seq (.ifr [JA 85 8, JA 86 9, JL 87 8 85 86, JH 88 7 87, JD 89 1 88] (.t 89) (.reg [JA 90 3, JG 91 6 10, JD 92 1 91, JO 93 (.bld [JV, JV] [(0, 1, .c (.int .i64 31)), (1, 1, .t 92)]), JO 94 (.bsl 2 1 [JV, JV] [(0, 2, .t 93)]), JO 95 (.app 2 16 [JV, JV] (.t 90) (.t 94)), JB 3 95]) .skip) (.seq (.ifr [JG 96 0 10, JD 97 1 96, JO 98 (.bin .neq 40 (.t 97) (JT 7))] (.t 98) (.exit 5) .skip) (.seq (.reg [JF 99 1 1, JG 100 1 10, JD 101 1 100, JO 102 (.pc (.f 108) [.t 99, .t 101]), JB 11 102]) (.ifr [JA 103 11, JO 104 (.bin .lss 3 (.t 103) (JT 0))] (.t 104) (.reg [JA 105 3, JG 106 6 10, JD 107 1 106, JO 108 (.bld [JV, JV] [(0, 1, .c (.int .i64 32)), (1, 1, .t 107)]), JO 109 (.bsl 2 1 [JV, JV] [(0, 2, .t 108)]), JO 110 (.app 2 16 [JV, JV] (.t 105) (.t 109)), JB 3 110]) (.ifr [JG 111 0 1, JD 112 1 111, JA 113 11, JL 114 11 112 113, JH 115 1 114, JD 116 1 115, JO 117 (.len false (.t 116)), JG 118 5 10, JD 119 1 118, JO 120 (.len false (.t 119)), JO 121 (.bin .neq 3 (.t 117) (.t 120))] (.t 121) (.reg [JA 122 3, JG 123 6 10, JD 124 1 123, JO 125 (.bld [JV, JV] [(0, 1, .c (.int .i64 33)), (1, 1, .t 124)]), JO 126 (.bsl 2 1 [JV, JV] [(0, 2, .t 125)]), JO 127 (.app 2 16 [JV, JV] (.t 122) (.t 126)), JB 3 127]) .skip))))))) (.reg [JA 78 9, JO 79 (.bin .add 3 (.t 78) (JT 1)), JB 9 79]))
noncomputable def lb78_1 : AC :=
 .seq (.ifr [JA 36 7, JG 37 1 5, JD 38 1 37, JO 39 (.len false (.t 38)), JO 40 (.bin .lss 3 (.t 36) (.t 39))] (.t 40) .skip (.exit 2)) (.seq (.block 3 (.seq (.ifr [JA 43 6, JG 44 1 5, JD 45 1 44, JA 46 7, JL 47 3 45 46, JH 48 0 47, JD 49 1 48, JO 50 (.cl (.f 17) [.t 43, .t 49])] (.t 50) (.reg [JA 51 3, JG 52 1 5, JD 53 1 52, JA 54 7, JL 55 3 53 54, JH 56 2 55, JD 57 1 56, JO 58 (.bld [JV, JV] [(0, 1, .c (.int .i64 30)), (1, 1, .t 57)]), JO 59 (.bsl 2 1 [JV, JV] [(0, 2, .t 58)]), JO 60 (.app 2 16 [JV, JV] (.t 51) (.t 59)), JB 3 60]) .skip) (.reg [JA 61 6, JG 62 1 5, JD 63 1 62, JA 64 7, JL 65 3 63 64, JH 66 0 65, JD 67 1 66, JO 68 (.bsl 1 1 [JU] [(0, 1, .t 67)]), JO 69 (.app 1 16 [JU] (.t 61) (.t 68)), JB 6 69]))) (.reg [JA 41 7, JO 42 (.bin .add 3 (.t 41) (JT 1)), JB 7 42]))
noncomputable def lb78_2 : AC :=
 .seq (.ifr [JA 12 4, JG 13 0 1, JD 14 1 13, JO 15 (.len false (.t 14)), JO 16 (.bin .lss 3 (.t 12) (.t 15))] (.t 16) .skip (.exit 0)) (.seq (.block 1 (.seq (.reg [JG 19 0 1, JD 20 1 19, JA 21 4, JL 22 11 20 21, JE 23 11 22, JP 5 (.al [JU, JW, JV, JV, JU, JU, JV, .complex .f64 0 0, JW, JV, JV]), JQ (.st 11 (.g 5) (.t 23))]) (.seq (.ifr [JF 24 1 1, JG 25 0 5, JD 26 1 25, JO 27 (.pc (.f 108) [.t 24, .t 26]), JA 28 4, JO 29 (.bin .lss 3 (.t 27) (.t 28))] (.t 29) (.reg [JA 30 3, JG 31 10 5, JD 32 1 31, JO 33 (.bld [JV, JV] [(0, 1, .c (.int .i64 30)), (1, 1, .t 32)]), JO 34 (.bsl 2 1 [JV, JV] [(0, 2, .t 33)]), JO 35 (.app 2 16 [JV, JV] (.t 30) (.t 34)), JB 3 35]) .skip) (.seq (.reg [JP 6 (.mv (.c (.slice none 0 0)))]) (.seq (.seq (.reg [JI 7 0]) (.block 2 (.loop lb78_1))) (.seq (.reg [JG 70 3 5, JE 71 7 70, JA 72 6, JO 73 (.pc (.f 109) [.t 71, .t 72]), JB 8 73]) (.seq (.reg [JI 9 0]) (.block 4 (.loop lb78_0))))))))) (.reg [JA 17 4, JO 18 (.bin .add 3 (.t 17) (JT 1)), JB 4 18]))
noncomputable def ac78 : AC :=
 (.seq (.reg [JN 1 0, JP 2 (.mv (.c (.slice none 0 0)))]) (.seq (.reg [JP 3 (.mv (.c (.slice none 0 0)))]) (.seq (.seq (.reg [JI 4 0]) (.block 0 (.loop lb78_2))) (.seq (.reg [JA 128 3, JB 2 128]) .ret))))
theorem fi78 : FI Tryz.prog 78 cf78 ac78 [.t 2] [0, 1, 2, 3, 4, 5, 6, 7, 8, 9, 10, 11] 129 := FI_of (c := Tryz.f78.body.getD .skip) Tryz.func78 (by kernel_rfl) (by rfl) (by rfl) (by kernel_rfl) (by kernel_rfl) rfl rfl rfl
@[simp] theorem cfP78 : cf78.P = Tryz.prog := (rfl)
noncomputable def cf44 : Cfg := ⟨Tryz.prog, 32, [0, 1, 2, 3, 4, 5], []⟩
noncomputable def lb44_0 : AC :=
 .seq (.ifr [JA 8 5, JA 9 3, JO 10 (.len false (.t 9)), JO 11 (.bin .lss 3 (.t 8) (.t 10))] (.t 11) .skip (.exit 0)) (.seq (.block 1 (.ifr [JG 14 0 4, JD 15 1 14, JO 16 (.bin .eql 52 (.t 15) (JT 0)), JC 17 16, JR 18 17 (.mv (.g 3)), JR 19 17 (.mv (.g 5)), JR 20 17 (.ia 2 (.t 18) (.t 19)), JR 21 17 (.fa 1 (.t 20)), JR 22 17 (.ld false 1 (.t 21)), JR 23 17 (.fa 1 (.g 4)), JR 24 17 (.ld false 1 (.t 23)), JR 25 17 (.bin .lss 3 (.t 22) (.t 24)), JO 26 (.pick (.t 17) JX (.t 25))] (.t 26) (.reg [JA 27 3, JA 28 5, JL 29 2 27 28, JE 30 2 29, JQ (.st 2 (.g 4) (.t 30))]) .skip)) (.reg [JA 12 5, JO 13 (.bin .add 3 (.t 12) (JT 1)), JB 5 13]))
noncomputable def ac44 : AC :=
 (.seq (.reg [JN 1 0, JP 2 (.al [JV, JV])]) (.seq (.reg [JF 6 1 1, JO 7 (.pc (.f 78) [.t 6]), JB 3 7]) (.seq (.reg [JP 4 (.al [JV, JV])]) (.seq (.seq (.reg [JI 5 0]) (.block 0 (.loop lb44_0))) (.seq (.reg [JF 31 2 4, JQ (.st 2 (.g 2) (.t 31))]) .ret)))))
theorem fi44 : FI Tryz.prog 44 cf44 ac44 [.c 2 true 2] [0, 1, 2, 3, 4, 5] 32 := FI_of (c := Tryz.f44.body.getD .skip) Tryz.func44 (by kernel_rfl) (by rfl) (by rfl) (by kernel_rfl) (by kernel_rfl) rfl rfl rfl
@[simp] theorem cfP44 : cf44.P = Tryz.prog := (rfl)
@[simp] theorem eqRef6_9 {a b : ByteArray} : bF Tryz.prog .eql 9 (.pl (.string a)) (.pl (.string b)) = some (.pl (.bool (decide (a = b)))) := kO Tryz.underlying9
@[simp] theorem neRef6_9 {a b : ByteArray} : bF Tryz.prog .neq 9 (.pl (.string a)) (.pl (.string b)) = some (.pl (.bool (!decide (a = b)))) := pM Tryz.underlying9
noncomputable def cf141 : Cfg := ⟨Tryz.prog, 32, [0, 1, 2, 4, 5], []⟩
noncomputable def ac141 : AC :=
 (.seq (.reg [JN 2 0, JP 4 (.mv (.c (.slice none 0 0)))]) (.seq (.block 0 (.seq (.ifr [JG 6 0 2, JD 7 1 6, JO 8 (.bin .eql 40 (.t 7) (JT 21)), JB 5 8] (.g 5) .skip (.reg [JG 9 0 2, JD 10 1 9, JO 11 (.bin .eql 40 (.t 10) (JT 22)), JC 12 11, JS 13 12 (.mv (.g 1)), JS 14 12 (.bin .eql 3 (.t 13) (JT 1)), JO 15 (.pick (.t 12) (.t 14) JY), JB 5 15])) (.cond (.g 5) (.seq (.reg [JG 16 1 2, JD 17 1 16, JO 18 (.bsl 1 1 [JU] [(0, 1, .t 17)]), JB 4 18]) .ret) (.ifr [JG 20 0 2, JD 21 1 20, JO 22 (.bin .eql 40 (.t 21) (JT 20)), JC 23 22, JS 24 23 (.mv (.g 1)), JS 25 23 (.bin .eql 3 (.t 24) (JT 2)), JO 26 (.pick (.t 23) (.t 25) JY), JC 19 26] (.t 19) (.seq (.reg [JG 27 1 2, JD 28 1 27, JG 29 2 2, JD 30 1 29, JO 31 (.bsl 1 2 [JU] [(0, 1, .t 28), (1, 1, .t 30)]), JB 4 31]) .ret) .skip)))) (.seq (.reg [JP 4 (.mv (.c (.slice none 0 0)))]) .ret)))
theorem fi141 : FI Tryz.prog 141 cf141 ac141 [.t 4] [0, 1, 2, 4, 5] 32 := FI_of (c := Tryz.f141.body.getD .skip) Tryz.func141 (by kernel_rfl) (by rfl) (by rfl) (by kernel_rfl) (by kernel_rfl) rfl rfl rfl
@[simp] theorem cfP141 : cf141.P = Tryz.prog := (rfl)
noncomputable def cf127 : Cfg := ⟨Tryz.prog, 55, [0, 1, 2, 3, 6, 7, 8, 10, 12, 18, 19, 20, 28, 29, 30, 43, 44, 45], [16, 42]⟩
noncomputable def lb127_0 : AC :=
 .seq (.ifr [JO 46 (.bin .lss 3 (.g 45) (.g 44))] (.t 46) .skip (.exit 4)) (.seq (.block 5 (.seq (.reg [JO 47 (.ia 1 (.g 43) (.g 45)), JD 48 1 47, JB 12 48]) (.reg [JA 49 1, JA 50 12, JO 51 (.lk none (.int .i64 0) false (.t 49) (.t 50)), JO 52 (.bin .sub 3 (.t 51) (JT 1)), JQ (.mup none (.t 49) (.t 50) (.t 52))]))) (.reg [JO 53 (.bin .add 3 (.g 45) (JT 1)), JB 45 53]))
noncomputable def lb127_1 : AC :=
 .seq (.ifr [JO 31 (.bin .lss 3 (.g 30) (.g 29))] (.t 31) .skip (.exit 2)) (.seq (.block 3 (.seq (.reg [JO 32 (.ia 1 (.g 28) (.g 30)), JD 33 1 32, JB 10 33]) (.reg [JA 34 1, JA 35 10, JO 36 (.lk none (.int .i64 0) false (.t 34) (.t 35)), JO 37 (.bin .add 3 (.t 36) (JT 1)), JQ (.mup none (.t 34) (.t 35) (.t 37))]))) (.reg [JO 38 (.bin .add 3 (.g 30) (JT 1)), JB 30 38]))
noncomputable def lb127_2 : AC :=
 .seq (.ifr [JO 21 (.bin .lss 3 (.g 20) (.g 19))] (.t 21) .skip (.exit 0)) (.seq (.block 1 (.seq (.reg [JA 22 20, JO 23 (.ia 7 (.g 18) (.g 20)), JE 24 7 23, JP 7 (.al [JV, JU, JU, JV, .complex .f64 0 0, JW, JV]), JB 6 22, JQ (.st 7 (.g 7) (.t 24))]) (.seq (.reg [JF 25 7 3, JA 26 6, JO 27 (.pc (.f 141) [.t 25, .t 26]), JB 8 27]) (.seq (.seq (.reg [JP 28 (.mv (.g 8)), JP 29 (.len false (.g 28)), JI 30 0]) (.block 2 (.loop lb127_1))) (.seq (.reg [JF 39 7 7, JA 40 1, JA 41 2, JO 42 (.cl (.f 127) [.t 39, .t 40, .t 41])]) (.seq (.reg [JP 43 (.mv (.g 8)), JP 44 (.len false (.g 43)), JI 45 0]) (.block 4 (.loop lb127_0)))))))) (.reg [JO 54 (.bin .add 3 (.g 20) (JT 1)), JB 20 54]))
noncomputable def ac127 : AC :=
 (.seq (.reg [JN 3 0]) (.seq (.reg [JA 13 2, JF 14 7 3, JA 15 1, JO 16 (.cl (.t 13) [.t 14, .t 15])]) (.seq (.reg [JG 17 5 3, JP 18 (.ld false 1 (.t 17)), JP 19 (.len false (.g 18)), JI 20 0]) (.block 0 (.loop lb127_2)))))
theorem fi127 : FI Tryz.prog 127 cf127 ac127 [] [0, 1, 2, 3, 6, 7, 8, 10, 12, 18, 19, 20, 28, 29, 30, 43, 44, 45] 55 := FI_of (c := Tryz.f127.body.getD .skip) Tryz.func127 (by kernel_rfl) (by rfl) (by rfl) (by kernel_rfl) (by kernel_rfl) rfl rfl rfl
@[simp] theorem cfP127 : cf127.P = Tryz.prog := (rfl)
noncomputable def cf93 : Cfg := ⟨Tryz.prog, 75, [0, 1, 2, 3, 4, 5, 6, 7, 9, 10, 12, 16, 17, 18, 39, 40, 41, 47, 48, 49], [1, 31, 61, 72]⟩
noncomputable def lb93_0 : AC :=
 .seq (.ifr [JO 50 (.bin .lss 3 (.g 49) (.g 48))] (.t 50) .skip (.exit 4)) (.seq (.block 5 (.seq (.reg [JO 51 (.ia 3 (.g 47) (.g 49)), JE 52 3 51, JP 12 (.al [JU, JV, JV]), JQ (.st 3 (.g 12) (.t 52))]) (.seq (.ifr [JA 53 10, JG 54 0 12, JD 55 1 54, JO 56 (.lk none (.int .i64 0) false (.t 53) (.t 55)), JO 57 (.bin .gtr 3 (.t 56) (JT 0))] (.t 57) (.reg [JO 58 (.ld false 1 (.g 4)), JG 59 2 12, JD 60 1 59, JO 61 (.cl (.t 58) [.c (.int .i64 30), .t 60])]) .skip) (.reg [JA 62 10, JG 63 0 12, JD 64 1 63, JO 65 (.lk none (.int .i64 0) false (.t 62) (.t 64)), JO 66 (.bin .add 3 (.t 65) (JT 1)), JQ (.mup none (.t 62) (.t 64) (.t 66))])))) (.reg [JO 67 (.bin .add 3 (.g 49) (JT 1)), JB 49 67]))
noncomputable def lb93_1 : AC :=
 .seq (.ifr [JO 42 (.bin .lss 3 (.g 41) (.g 40))] (.t 42) .skip (.exit 2)) (.seq (.block 3 (.seq (.reg [JO 43 (.ia 11 (.g 39) (.g 41)), JE 44 11 43, JP 9 (.al [JU, JW, JV, JV, JU, JU, JV, .complex .f64 0 0, JW, JV, JV]), JQ (.st 11 (.g 9) (.t 44))]) (.seq (.reg [.mk (.t 45) none .mkm, JB 10 45]) (.seq (.seq (.reg [JG 46 1 9, JP 47 (.ld false 1 (.t 46)), JP 48 (.len false (.g 47)), JI 49 0]) (.block 4 (.loop lb93_0))) (.reg [JG 68 3 9, JE 69 7 68, JA 70 10, JO 71 (.mkf 128 [.g 5, .g 4, .g 1]), JO 72 (.cl (.f 127) [.t 69, .t 70, .t 71])]))))) (.reg [JO 73 (.bin .add 3 (.g 41) (JT 1)), JB 41 73]))
noncomputable def lb93_2 : AC :=
 .seq (.ifr [JO 19 (.bin .lss 3 (.g 18) (.g 17))] (.t 19) .skip (.exit 0)) (.seq (.block 1 (.seq (.reg [JA 20 18, JO 21 (.ia 11 (.g 16) (.g 18)), JE 22 11 21, JP 7 (.al [JU, JW, JV, JV, JU, JU, JV, .complex .f64 0 0, JW, JV, JV]), JB 6 20, JQ (.st 11 (.g 7) (.t 22))]) (.ifr [JO 23 (.ld false 1 (.g 5)), JG 24 0 7, JD 25 1 24, JO 26 (.lk none (.int .i64 0) false (.t 23) (.t 25)), JO 27 (.bin .gtr 3 (.t 26) (JT 0))] (.t 27) (.reg [JO 28 (.ld false 1 (.g 4)), JG 29 10 7, JD 30 1 29, JO 31 (.cl (.t 28) [.c (.int .i64 30), .t 30])]) (.reg [JO 32 (.ld false 1 (.g 5)), JG 33 0 7, JD 34 1 33, JA 35 6, JO 36 (.bin .add 3 (.t 35) (JT 1)), JQ (.mup none (.t 32) (.t 34) (.t 36))])))) (.reg [JO 37 (.bin .add 3 (.g 18) (JT 1)), JB 18 37]))
noncomputable def ac93 : AC :=
 (.seq (.reg [JP 1 (.bx (.g 0)), JP 2 (.al [JV, JV])]) (.seq (.reg [JP 3 (.al [JV, JV])]) (.seq (.reg [JO 13 (.mkf 126 [.g 3]), JP 4 (.al [.nilFunc]), JQ (.st 1 (.g 4) (.t 13))]) (.seq (.reg [.mk (.t 14) none .mkm, JP 5 (.al [.map none]), JQ (.st 1 (.g 5) (.t 14))]) (.seq (.seq (.reg [JG 15 0 1, JP 16 (.ld false 1 (.t 15)), JP 17 (.len false (.g 16)), JI 18 0]) (.block 0 (.loop lb93_2))) (.seq (.seq (.reg [JG 38 0 1, JP 39 (.ld false 1 (.t 38)), JP 40 (.len false (.g 39)), JI 41 0]) (.block 2 (.loop lb93_1))) (.seq (.reg [JF 74 2 3, JQ (.st 2 (.g 2) (.t 74))]) .ret)))))))
theorem fi93 : FI Tryz.prog 93 cf93 ac93 [.c 2 true 2] [0, 1, 2, 3, 4, 5, 6, 7, 9, 10, 12, 16, 17, 18, 39, 40, 41, 47, 48, 49] 75 := FI_of (c := Tryz.f93.body.getD .skip) Tryz.func93 (by kernel_rfl) (by rfl) (by rfl) (by kernel_rfl) (by kernel_rfl) rfl rfl rfl
@[simp] theorem cfP93 : cf93.P = Tryz.prog := (rfl)
noncomputable def cf126 : Cfg := ⟨Tryz.prog, 17, [0, 1, 2], []⟩
noncomputable def ac126 : AC :=
 (.ifr [JG 5 0 2, JD 6 1 5, JO 7 (.bin .eql 52 (.t 6) (JT 0)), JC 8 7, JR 9 8 (.mv (.g 1)), JR 10 8 (.fa 1 (.g 2)), JR 11 8 (.ld false 1 (.t 10)), JR 12 8 (.bin .lss 3 (.t 9) (.t 11)), JO 13 (.pick (.t 8) JX (.t 12))] (.t 13) (.reg [JA 14 0, JA 15 1, JO 16 (.bld [JV, JV] [(0, 1, .t 14), (1, 1, .t 15)]), JQ (.st 2 (.g 2) (.t 16))]) .skip)
theorem fi126 : FI Tryz.prog 126 cf126 ac126 [] [0, 1, 2] 17 := FI_of (c := Tryz.f126.body.getD .skip) Tryz.func126 (by kernel_rfl) (by rfl) (by rfl) (by kernel_rfl) (by kernel_rfl) rfl rfl rfl
@[simp] theorem cfP126 : cf126.P = Tryz.prog := (rfl)
noncomputable def cf128 : Cfg := ⟨Tryz.prog, 61, [0, 1, 2, 3, 4, 5, 7], [26, 38, 60]⟩
noncomputable def ac128 : AC :=
 (.seq (.reg [JN 5 0]) (.seq (.reg [JO 8 (.ld false 1 (.g 2)), JG 9 1 5, JD 10 1 9, JO 11 (.lk none (.int .i64 0) false (.t 8) (.t 10)), JB 7 11]) (.block 0 (.ifr [JG 13 0 5, JD 14 1 13, JO 15 (.bin .eql 40 (.t 14) (JT 6)), JC 16 15, JS 17 16 (.mv (.g 1)), JS 18 16 (.fa 1 (.g 5)), JS 19 16 (.ld false 1 (.t 18)), JS 20 16 (.lk none (.int .i64 0) false (.t 17) (.t 19)), JS 21 16 (.bin .eql 3 (.t 20) (JT 0)), JO 22 (.pick (.t 16) (.t 21) JY), JC 12 22] (.t 12) (.reg [JO 23 (.ld false 1 (.g 3)), JG 24 6 5, JD 25 1 24, JO 26 (.cl (.t 23) [.c (.int .i64 31), .t 25])]) (.ifr [JG 28 0 5, JD 29 1 28, JO 30 (.bin .eql 40 (.t 29) (JT 7)), JC 31 30, JS 32 31 (.mv (.g 7)), JS 33 31 (.bin .eql 3 (.t 32) (JT 0)), JO 34 (.pick (.t 31) (.t 33) JY), JC 27 34] (.t 27) (.reg [JO 35 (.ld false 1 (.g 3)), JG 36 6 5, JD 37 1 36, JO 38 (.cl (.t 35) [.c (.int .i64 32), .t 37])]) (.ifr [JG 40 0 5, JD 41 1 40, JO 42 (.bin .eql 40 (.t 41) (JT 7)), JC 43 42, JS 44 43 (.fa 0 (.g 4)), JS 45 43 (.ld false 1 (.t 44)), JS 46 43 (.mv (.g 7)), JS 47 43 (.bin .sub 3 (.t 46) (JT 1)), JS 48 43 (.ia 11 (.t 45) (.t 47)), JS 49 43 (.fa 1 (.t 48)), JS 50 43 (.ld false 1 (.t 49)), JS 51 43 (.len false (.t 50)), JS 52 43 (.fa 5 (.g 5)), JS 53 43 (.ld false 1 (.t 52)), JS 54 43 (.len false (.t 53)), JS 55 43 (.bin .neq 3 (.t 51) (.t 54)), JO 56 (.pick (.t 43) (.t 55) JY), JC 39 56] (.t 39) (.reg [JO 57 (.ld false 1 (.g 3)), JG 58 6 5, JD 59 1 58, JO 60 (.cl (.t 57) [.c (.int .i64 33), .t 59])]) .skip))))))
theorem fi128 : FI Tryz.prog 128 cf128 ac128 [] [0, 1, 2, 3, 4, 5, 7] 61 := FI_of (c := Tryz.f128.body.getD .skip) Tryz.func128 (by kernel_rfl) (by rfl) (by rfl) (by kernel_rfl) (by kernel_rfl) rfl rfl rfl
@[simp] theorem cfP128 : cf128.P = Tryz.prog := (rfl)
end Go.Fx.YtlhdpfaohphbaaaGreat

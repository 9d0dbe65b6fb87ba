/- Joined texts of this claim. No condition. -/
import Derived.Test.YtackkeoannbnbaaDoorBa1
set_option linter.all false
namespace Go.Fx
open Go
section
variable {C : Cfg} {w w' : World} {S S' : Nat → Prop} {φ φ' : aR} {a : Act} {env tl : Env} {mem : Mem} {nx id : Nat}
theorem iK {t j : Nat} (x : Value) (h : j ≠ t) : (a.tmps.setIfInBounds t x).getD j undef = a.tmps.getD j undef := by
 simp only [Array.getD_eq_getD_getElem?, Array.getElem?_setIfInBounds]
 rw [if_neg (Ne.symm h)]
theorem pA {t : Nat} (x : Value) (h : t < a.tmps.size) : (a.tmps.setIfInBounds t x).getD t undef = x := by
 simp only [Array.getD_eq_getD_getElem?, Array.getElem?_setIfInBounds]
 simp [h]
theorem nH {B : Rx} {o : Oper} {d : Dst} {v : D} {x : Value} {go : Env → Env → Mem → Nat → Prop} (hd : C.dst o.dst = some d) (hk : cV C w S φ env tl a) (hsz : a.tmps.size = C.n) (hdf : Dfr C.P B S' w' a.defers) (hst : Stays w S φ w' S' φ') (hv : Rep w' S' φ' v x)
  (hK : dB d env tl go v mem nx) : ∃ env' tl', go env' tl' mem nx ∧ cV C w' S' φ' env' tl' (a.put o.dst x) ∧ (a.put o.dst x).tmps.size = C.n ∧ Dfr C.P B S' w' (a.put o.dst x).defers := by
 have hk' : cV C w' S' φ' env tl a := ⟨fun j d hj hl => Rep.mono hst _ _ (hk.env j d hj hl), fun j d hj hl => Rep.mono hst _ _ (hk.tl j d hj hl)⟩
 cases ho : o.dst with
 | none =>
  rw [ho] at hd
  simp only [Cfg.dst, Option.some.injEq] at hd; subst hd
  exact ⟨env, tl, hK, hk', hsz, hdf⟩
 | some t =>
  rw [ho] at hd
  simp only [Cfg.dst] at hd
  have hlt : t < C.n := by
   by_cases h : t < C.n
   ·exact h
   ·simp [h] at hd
  simp only [hlt, if_true, Option.some.injEq] at hd
  have hts : t < a.tmps.size := by rw [hsz]; exact hlt
  by_cases ht : t ∈ C.gs
  ·have hc : C.gs.contains t = true := by simpa using ht
   simp only [hc, if_true] at hd; subst hd
   refine ⟨upd env t v, tl, hK, ⟨fun j d hj hl => ?_, fun j d hj hl => ?_⟩, by simp [Act.put, hsz], hdf⟩
   ·rcases cY t v env j d hl with ⟨rfl, rfl⟩ | ⟨hne, hl⟩
    ·simp only [Act.put]; rw [pA x hts]; exact hv
    ·simp only [Act.put]; rw [iK x hne]; exact hk'.env j d hj hl
   ·have hne : j ≠ t := by rintro rfl; exact hj ht
    simp only [Act.put]; rw [iK x hne]; exact hk'.tl j d hj hl
  ·have hc : C.gs.contains t = false := by simpa using ht
   simp only [hc, Bool.false_eq_true, if_false] at hd; subst hd
   refine ⟨env, (t, v) :: tl, hK, ⟨fun j d hj hl => ?_, fun j d hj hl => ?_⟩, by simp [Act.put, hsz], hdf⟩
   ·have hne : j ≠ t := by rintro rfl; exact ht hj
    simp only [Act.put]; rw [iK x hne]; exact hk'.env j d hj hl
   ·simp only [look] at hl
    by_cases e : t = j
    ·simp only [e, if_true, Option.some.injEq] at hl; subst hl; subst e
     simp only [Act.put]; rw [pA x hts]; exact hv
    ·simp only [e, if_false] at hl
     simp only [Act.put]; rw [iK x (Ne.symm e)]; exact hk'.tl j d hj hl
theorem rT {t : Nat} {b : Bool} (hk : cV C w S φ env tl a) (h : a.tmps.getD t undef = .bool b) :
  cV C w S φ (gH b env (if C.gs.contains t then .g t else .t t)) (gG b tl (if C.gs.contains t then .g t else .t t)) a := by
 by_cases ht : C.gs.contains t = true
 ·simp only [ht, if_true, gH, gG]
  refine ⟨fun j d hj hl => ?_, hk.tl⟩
  rcases cY t _ env j d hl with ⟨rfl, rfl⟩ | ⟨hne, hl⟩
  ·rw [h]; simp [Rep]
  ·exact hk.env j d hj hl
 ·simp only [ht, gH, gG]
  refine ⟨hk.env, fun j d hj hl => ?_⟩
  rcases cY t _ tl j d hl with ⟨rfl, rfl⟩ | ⟨hne, hl⟩
  ·rw [h]; simp [Rep]
  ·exact hk.tl j d hj hl
theorem wI (t : Nat) : C.opd (.tmp t) = some (if C.gs.contains t then .g t else .t t) := rfl
theorem wL {ops : Array Oper} {o : Oper} {x : Ins} (h : C.ins ops o = some x) : C.dst o.dst = some x.dst ∧ C.op (C.owned o.dst) o.op = some x.i ∧
  ((o.guard = none ∧ x.guard = none) ∨ ∃ j want t, o.guard = some (j, want) ∧ (ops[j]?).bind (·.dst) = some t ∧ x.guard = some (if C.gs.contains t then .g t else .t t, want)) := by
 unfold Cfg.ins at h
 split at h
 ·rename_i d g i hd hg hi
  simp only [Option.some.injEq] at h; subst h
  refine ⟨hd, hi, ?_⟩
  cases hgo : o.guard with
  | none =>
   rw [hgo] at hg
   simp only [Cfg.guardO, Option.some.injEq] at hg; subst hg
   exact .inl ⟨rfl, rfl⟩
  | some p =>
   obtain ⟨j, want⟩ := p
   rw [hgo] at hg
   simp only [Cfg.guardO] at hg
   split at hg
   ·rename_i t ht
    simp only [Option.some.injEq] at hg; subst hg
    exact .inr ⟨j, want, t, rfl, ht, rfl⟩
   ·simp at hg
 ·simp at h
def One (C : Cfg) (base : Nat) (x : Ins) (j : Nat) (env tl : Env) (mem : Mem) (nx : Nat) (go : Env → Env → Mem → Nat → Prop) : Prop :=
 match x with
 | ⟨d, none, i⟩ => aP C (base + j) i env tl mem nx (dB d env tl go)
 | ⟨d, some (g, want), i⟩ => gd C (ro tl env g) g want d (base + j) i env tl mem nx go
theorem rM {base j : Nat} {K : Env → Env → Mem → Nat → Prop} {x : Ins} {r : List Ins} : run C base K (x :: r) j env tl mem nx = One C base x j env tl mem nx (run C base K r (j + 1)) := by
 obtain ⟨d, g, i⟩ := x
 cases g with
 | none => rfl
 | some p => obtain ⟨g, want⟩ := p; rfl
structure oE (C : Cfg) (B : Rx) (S : Nat → Prop) (φ : aR) (env tl : Env) (mem : Mem) (nx : Nat) (a : Act) (w : World) : Prop where
 known : cV C w S φ env tl a
 size : a.tmps.size = C.n
 defers : Dfr C.P B S w a.defers
 m : MSim S φ mem nx w
theorem l_ {o : Oper} {v : Value} : (a.put o.dst v).defers = a.defers := by cases ho : o.dst <;> simp [Act.put]
theorem sS {B : Rx} {ops : Array Oper} {o : Oper} {x : Ins} {base j k : Nat} {go : Env → Env → Mem → Nat → Prop} (hj : ops[k]? = some o) (hx : C.ins ops o = some x) (h : One C base x j env tl mem nx go) (hh : oE C B S φ env tl mem nx a w)
  (hfree : φ (base + j) = none) (hlt : base + j < nx) {Q : Exit → Act → World → Prop} :
  wpOp C.P ops Q k (fun a' w' => ∃ S' φ' env' tl' mem' nx', go env' tl' mem' nx' ∧ oE C B S' φ' env' tl' mem' nx' a' w' ∧ Stays w S φ w' S' φ' ∧ Ext S φ mem w S' φ' mem' w' ∧ nx ≤ nx' ∧ (∀ i, i ≠ base + j → i < nx → φ i = none → φ' i = none) ∧ a'.defers = a.defers) a w := by
 obtain ⟨hd, hi, hg⟩ := wL hx
 have step : ∀ (env tl : Env), cV C w S φ env tl a → aP C (base + j) x.i env tl mem nx (dB x.dst env tl go) →
   o.wp C.P a w (fun a' w' => ∃ S' φ' env' tl' mem' nx', go env' tl' mem' nx' ∧ oE C B S' φ' env' tl' mem' nx' a' w' ∧ Stays w S φ w' S' φ' ∧ Ext S φ mem w S' φ' mem' w' ∧ nx ≤ nx' ∧ (∀ i, i ≠ base + j → i < nx → φ i = none → φ' i = none) ∧ a'.defers = a.defers) Q := by
  intro env tl hk hs
  refine Oper.wp_monoQ ?_ (fun _ _ _ h => h.elim) (wJ hi hs hk hh.m hh.defers.tb hfree hlt)
  rintro a' w' ⟨r, rfl, v, mem', nx', S', φ', h1, h2, h3, h4, h5, h6, h7⟩
  obtain ⟨env', tl', g1, g2, g3, g4⟩ := nH hd hk hh.size (hh.defers.ext hh.m h6) h5 h3 h1
  exact ⟨S', φ', env', tl', mem', nx', g1, ⟨g2, g3, g4, h4⟩, h5, h6, h2, h7, l_⟩
 unfold wpOp
 simp only [hj]
 rcases hg with ⟨hg, hxg⟩ | ⟨jj, want, t, hg, ht, hxg⟩
 ·have hw : Region.wanted o (yielded ops a.tmps) = true := by simp [Region.wanted, hg]
  simp only [hw, if_true]
  left
  obtain ⟨d, g, i⟩ := x
  simp only at hxg; subst hxg
  exact step env tl hh.known h
 ·obtain ⟨d, g, i⟩ := x
  simp only at hxg; subst hxg
  simp only [One, gd] at h
  split at h
  ·rename_i b hro
   have hb := aM hh.known (wI t) hro
   simp only [Rep, Act.eval] at hb
   have hy : yielded ops a.tmps jj = some b := by
    unfold yielded
    rw [ht]
    simp only [Option.bind_some]
    cases hq : a.tmps[t]? with
    | none => simp [Array.getD_eq_getD_getElem?, hq, undef] at hb
    | some u =>
     simp only [Array.getD_eq_getD_getElem?, hq, Option.getD_some] at hb
     subst hb; rfl
   by_cases hbw : b = want
   ·subst hbw
    have hw : Region.wanted o (yielded ops a.tmps) = true := by simp [Region.wanted, hg, hy]
    simp only [hw, if_true]
    left
    exact step _ _ (rT hh.known hb) (h.1 rfl)
   ·have hw : Region.wanted o (yielded ops a.tmps) = false := by
     simp only [Region.wanted, hg, hy]
     simp [hbw]
    simp only [hw, Bool.false_eq_true, if_false]
    have hbn : b = !want := by cases b <;> cases want <;> simp_all
    have h2 := h.2 hbn
    rw [← hbn] at h2
    obtain ⟨env', tl', g1, g2, g3, g4⟩ := nH (x := undef) hd (rT hh.known hb) hh.size hh.defers (Stays.refl w S φ) (by simp [Rep]) h2
    exact ⟨S, φ, env', tl', mem, nx, g1, ⟨g2, g3, g4, hh.m⟩, Stays.refl .., Ext.refl .., Nat.le_refl _, fun _ _ _ h => h, l_⟩
  ·rename_i vs hro
   have hb := aM hh.known (wI t) hro
   simp only [Rep, Act.eval] at hb
   have hy : yielded ops a.tmps jj = none := by
    unfold yielded
    rw [ht]
    simp only [Option.bind_some]
    cases hq : a.tmps[t]? with
    | none => rfl
    | some u =>
     simp only [Array.getD_eq_getD_getElem?, hq, Option.getD_some] at hb
     subst hb; rfl
   have hw : Region.wanted o (yielded ops a.tmps) = false := by
    simp only [Region.wanted, hg, hy]
    rfl
   simp only [hw, Bool.false_eq_true, if_false]
   obtain ⟨env', tl', g1, g2, g3, g4⟩ := nH (x := undef) hd hh.known hh.size hh.defers (Stays.refl w S φ) (by simp [Rep]) h
   exact ⟨S, φ, env', tl', mem, nx, g1, ⟨g2, g3, g4, hh.m⟩, Stays.refl .., Ext.refl .., Nat.le_refl _, fun _ _ _ h => h, l_⟩
  ·exact h.elim
theorem tE {B : Rx} {ops : Array Oper} {base N : Nat} (hN : N ≤ base) {K : Env → Env → Mem → Nat → Prop} : ∀ (rest : List Oper) (is : List Ins) (j : Nat) (env tl : Env) (mem : Mem) (nx : Nat) (S : Nat → Prop) (φ : aR) (a : Act) (w : World),
  (∀ i, ops[j + i]? = rest[i]?) → rest.mapM (C.ins ops) = some is → run C base K is j env tl mem nx → oE C B S φ env tl mem nx a w → (∀ i, j ≤ i → i < j + rest.length → φ (base + i) = none) → base + j + rest.length ≤ nx →
  wpOps C.P ops (Post C B N S φ mem w (fun e s => e = .normal ∧ K s.env s.tl s.mem s.nx)) (List.range' j rest.length) a w
 | [], is, j, env, tl, mem, nx, S, φ, a, w, _, hm, hr, hh, _, hn => by
  simp only [List.mapM_nil, Option.pure_def, Option.some.injEq] at hm; subst hm
  exact ⟨⟨env, tl, mem, nx⟩, S, φ, ⟨rfl, hr⟩, ⟨hh.size, hh.defers, hh.known.env, hh.known.tl, hh.m⟩, Ext.refl .., Grow.refl (by simp only at hn ⊢; omega)⟩
 | o :: rest, is, j, env, tl, mem, nx, S, φ, a, w, ho, hm, hr, hh, hf, hn => by
  simp only [List.mapM_cons, Option.bind_eq_bind, Option.bind_eq_some_iff, Option.pure_def, Option.some.injEq] at hm
  obtain ⟨x, hx, is', his, rfl⟩ := hm
  rw [rM] at hr
  have hj : ops[j]? = some o := by have := ho 0; simpa using this
  simp only [List.length_cons] at hf hn ⊢
  rw [List.range'_succ, wpOps_cons]
  refine wpOp_mono ?_ (sS (k := j) hj hx hr hh (hf j (Nat.le_refl _) (by omega)) (by omega))
  rintro a' w' ⟨S', φ', env', tl', mem', nx', h1, h2, h3, h4, h5, h6, _⟩
  refine jC (fun e a w hp => hp.trans h4 (n1 := nx') ⟨by omega, fun i hi hnn => h6 i (by omega) (by omega) hnn, h3.loc⟩) _ _ _ (tE hN rest is' (j + 1) env' tl' mem' nx' S' φ' a' w' (fun i => ?_) his h1 h2 (fun i hi hi2 => ?_) (by omega))
  ·have := ho (i + 1)
   rw [show j + (i + 1) = j + 1 + i by omega] at this
   simpa using this
  ·exact h6 _ (by omega) (by omega) (hf i (by omega) (by omega))
end
section
variable {C : Cfg} {w w' : World} {S S' : Nat → Prop} {φ φ' : aR} {a : Act} {env tl env2 tl2 : Env} {mem mem2 : Mem} {nx nx2 id : Nat}
theorem eE {α β : Type} {f : α → Option β} : ∀ {l : List α} {r : List β}, l.mapM f = some r → l.length = r.length
 | [], r, h => by simp only [List.mapM_nil, Option.pure_def, Option.some.injEq] at h; subst h; rfl
 | x :: l, r, h => by
  simp only [List.mapM_cons, Option.bind_eq_bind, Option.bind_eq_some_iff, Option.pure_def, Option.some.injEq] at h
  obtain ⟨y, _, r', hr, rfl⟩ := h
  simp [eE hr]
theorem hD {α β : Type} {f : α → Option β} : ∀ {l : List α} {r : List β}, l.mapM f = some r → ∀ (i : Nat) (x : β), r[i]? = some x → ∃ y, l[i]? = some y ∧ f y = some x
 | [], r, h, i, x, hx => by simp only [List.mapM_nil, Option.pure_def, Option.some.injEq] at h; subst h; simp at hx
 | y :: l, r, h, i, x, hx => by
  simp only [List.mapM_cons, Option.bind_eq_bind, Option.bind_eq_some_iff, Option.pure_def, Option.some.injEq] at h
  obtain ⟨z, hz, r', hr, rfl⟩ := h
  cases i with
  | zero => simp only [List.getElem?_cons_zero, Option.some.injEq] at hx; subst hx; exact ⟨y, rfl, hz⟩
  | succ i => simp only [List.getElem?_cons_succ] at hx ⊢; exact hD hr i x hx
theorem aI {x : Opd} (h : ∀ s ∈ Cfg.seesO x, look env s = look env2 s ∧ look tl s = look tl2 s) : ro tl env x = ro tl2 env2 x := by
 cases x with
 | t j => exact (h j (by simp [Cfg.seesO])).2
 | g j => exact (h j (by simp [Cfg.seesO])).1
 | c v => rfl
 | f i => rfl
theorem eP : ∀ {xs : List Opd}, (∀ s ∈ xs.flatMap Cfg.seesO, look env s = look env2 s ∧ look tl s = look tl2 s) → ros tl env xs = ros tl2 env2 xs
 | [], _ => rfl
 | x :: xs, h => by
  simp only [ros]
  rw [aI (x := x) fun s hs => h s (by simp [hs]), eP (xs := xs) fun s hs => h s (by simp only [List.flatMap_cons, List.mem_append]; exact .inr hs)]
theorem kI : ∀ {ps : List (Nat × Nat × Opd)}, (∀ s ∈ ps.flatMap (fun p => Cfg.seesO p.2.2), look env s = look env2 s ∧ look tl s = look tl2 s) → rps tl env ps = rps tl2 env2 ps
 | [], _ => rfl
 | (o, n, x) :: ps, h => by
  simp only [rps]
  rw [aI (x := x) fun s hs => h s (by simp [hs]), kI (ps := ps) fun s hs => h s (by simp only [List.flatMap_cons, List.mem_append]; exact .inr hs)]
def Sub (m m2 : Mem) : Prop := ∀ i b, look m i = some b → look m2 i = some b
def g_ (d : D) (m m2 : Mem) : Prop := ∀ i, d.hd = some i → ∀ b, look m i = some b → look m2 i = some b
theorem Sub.at {m m2 : Mem} (h : Sub m m2) (d : D) : g_ d m m2 := fun i _ b hb => h i b hb
theorem pR {i v : Nat} (h : ∀ b, look mem i = some b → look mem2 i = some b) (hc : jR mem i v = true) : jR mem2 i v = true := by
 unfold jR at hc ⊢
 split at hc
 ·rename_i hl; rw [h _ hl]; exact hc
 ·simp at hc
theorem vW {i v k : Nat} (h : ∀ b, look mem i = some b → look mem2 i = some b) (hc : cur mem i v k = true) : cur mem2 i v k = true := by
 unfold cur at hc ⊢
 split at hc
 ·rename_i hl; rw [h _ hl]; exact hc
 ·simp at hc
theorem BG {len k : Nat} {x y d : D} (h : g_ x mem mem2) (hc : mL mem len k x y = some d) (hf : ∀ {n : Nat} {d : D}, faD mem n x = some d → faD mem2 n x = some d) : mL mem2 len k x y = some d := by
 unfold mL at hc ⊢
 split at hc
 ·simp only [Option.ite_none_right_eq_some] at hc ⊢
  exact ⟨hc.1, hf hc.2⟩
 ·simp at hc
theorem A2 {x d : D} (h : g_ x mem mem2) (hc : pW mem x = some d) : pW mem2 x = some d := by
 unfold pW at hc ⊢
 split at hc
 ·split at hc
  ·rename_i hl; rw [h _ rfl _ hl]; exact hc
  ·simp at hc
 ·exact hc
 ·simp at hc
theorem D4 {kd : Option IntKind} {z : Value} {two : Bool} {x y d : D} (h : g_ x mem mem2) (hc : lkD mem kd z two x y = some d) : lkD mem2 kd z two x y = some d := by
 have key : ∀ es, mY mem kd x = some es → mY mem2 kd x = some es := by
  intro es he
  unfold mY at he ⊢
  split at he
  ·split at he
   ·rename_i hl; rw [h _ rfl _ hl]; exact he
   ·simp at he
  ·exact he
  ·simp at he
 unfold lkD at hc ⊢
 split at hc
 ·rename_i hes
  rw [key _ hes]; exact hc
 ·simp at hc
theorem CG {n : Nat} {x : D} {cs : List D} (h : g_ x mem mem2) (hc : rdc mem n x = some cs) : rdc mem2 n x = some cs := by
 cases x with
 | opt i off =>
  simp only [rdc] at hc ⊢
  split at hc
  ·rename_i hl; rw [h _ rfl _ hl]; exact hc
  ·simp at hc
 | oel i v ix off =>
  simp only [rdc] at hc ⊢
  split at hc
  ·rename_i hl; rw [h _ rfl _ hl]; exact hc
  ·simp at hc
 | _ => exact hc
theorem EF {g : Bool} {n : Nat} {x d : D} (h : g_ x mem mem2) (hc : ldD mem g n x = some d) : ldD mem2 g n x = some d := by
 unfold ldD at hc ⊢
 split at hc
 ·rename_i hl; rw [CG h hl]; exact hc
 ·simp at hc
theorem v8 {n : Nat} {x d : D} (h : g_ x mem mem2) (hc : faD mem n x = some d) : faD mem2 n x = some d := by
 cases x with
 | oel i v ix off =>
  simp only [faD, Option.ite_none_right_eq_some, Option.some.injEq] at hc ⊢
  exact ⟨pR (h _ rfl) hc.1, hc.2⟩
 | _ => exact hc
theorem CZ {k : Nat} {x y d : D} (h : g_ x mem mem2) (hc : iaD mem k x y = some d) : iaD mem2 k x y = some d := by
 unfold iaD at hc ⊢
 split at hc
 ·exact hc
 ·simp only [Option.ite_none_right_eq_some] at hc ⊢
  exact ⟨vW (h _ rfl) hc.1, hc.2⟩
 ·simp at hc
theorem BM {s : Bool} {x d : D} (h : g_ x mem mem2) (hc : fO mem s x = some d) : fO mem2 s x = some d := by
 cases x with
 | osl i v lo n =>
  simp only [fO] at hc ⊢
  split at hc
  ·simp at hc
  ·rename_i hn
   simp only [Bool.or_eq_true, Bool.not_eq_true', not_or, Bool.not_eq_true, Bool.not_eq_false] at hn
   rw [if_neg (by simp [hn.1, pR (h _ rfl) hn.2])]; exact hc
 | pl v =>
  cases v with
  | slice p n c => cases p <;> cases n <;> cases c <;> exact hc
  | _ => exact hc
 | _ => exact hc
theorem A0 {s : Bool} {k : Nat} {x d : D} {lo hi : Option D} (h : g_ x mem mem2) (hc : gY mem s k x lo hi = some d) : gY mem2 s k x lo hi = some d := by
 cases x with
 | osl i v o n =>
  simp only [gY] at hc ⊢
  split at hc
  ·simp at hc
  ·rename_i hn
   simp only [Bool.or_eq_true, Bool.not_eq_true', not_or, Bool.not_eq_true, Bool.not_eq_false] at hn
   rw [if_neg (by simp [hn.1, pR (h _ rfl) hn.2])]
   split at hc
   ·rename_i l hh h1 h2
    split at hc
    ·rename_i g; rw [if_pos g]; exact hc
    ·rename_i g
     rw [if_neg g]
     split at hc
     ·rename_i g2; rw [if_pos ⟨g2.1, vW (h _ rfl) g2.2⟩]; exact hc
     ·simp at hc
   ·simp at hc
 | pl v =>
  cases v with
  | slice p n c => cases p <;> cases n <;> cases c <;> exact hc
  | _ => exact hc
 | _ => exact hc
theorem rC {k : Nat} {x : D} {es : List (List D)} (h : g_ x mem mem2) (hc : els mem k x = some es) : els mem2 k x = some es := by
 cases x with
 | osl i v lo n =>
  simp only [els] at hc ⊢
  split at hc
  ·rename_i hl; rw [h _ rfl _ hl]; exact hc
  ·simp at hc
 | pl v =>
  cases v with
  | slice p n c => cases p <;> cases n <;> cases c <;> exact hc
  | _ => exact hc
 | _ => exact hc
def Sg (d : D) (m : Mem) (n : Nat) : KD := fun d' m' n' => d' = d ∧ m' = m ∧ n' = n
theorem mB {o : Option D} {d : D} {K : KD} (h : o = some d) (hk : K d mem nx) : k0 o mem nx K := by subst h; exact hk
theorem dL {o : Option D} {g : D → Option D} {x d : D} {K : KD} (h : o = some x) (h2 : g x = some d) (hk : K d mem nx) : k1 o g mem nx K := by subst h; exact mB h2 hk
theorem kC {o p : Option D} {g : D → D → Option D} {x y d : D} {K : KD} (h : o = some x) (h1 : p = some y) (h2 : g x y = some d) (hk : K d mem nx) : k2 o p g mem nx K := by subst h h1; exact mB h2 hk
theorem p_ {α : Type} {o : Option α} {g : α → Option D} {x : α} {d : D} {K : KD} (h : o = some x) (h2 : g x = some d) (hk : K d mem nx) : kl o g mem nx K := by subst h; exact mB h2 hk
theorem e_ {o : Option (D × Mem)} {d : D} {m : Mem} {K : KD} (h : o = some (d, m)) (hk : K d m nx) : km o nx K := by subst h; exact hk
theorem zS {a b : Option D} {c d : D} (h : jE a b c = some d) {a' b' : Option D} (ha : a = a') (hb : b = b') : jE a' b' c = some d := by subst ha hb; exact h
theorem pL {i : I} {K : KD} (hf : i.free = true) (h : aP C id i env tl mem nx K) : ∃ d ext, K d (ext ++ mem) nx ∧ (ext = [] ∨ (∃ b, ext = [(id, b)]) ∧ Cfg.makesI i = true) ∧
  ∀ env2 tl2 mem2 nx2, (∀ s ∈ Cfg.seesI i, look env s = look env2 s ∧ look tl s = look tl2 s) → (∀ p ∈ Cfg.lookO i, ∀ d, ro tl env p = some d → g_ d mem mem2) → aP C id i env2 tl2 mem2 nx2 (Sg d (ext ++ mem2) nx2) := by
 cases i with
 | mv x =>
  obtain ⟨d, h1, h2⟩ := fP h
  exact ⟨d, [], h2, .inl rfl, fun e t m n hs _ => mB (by rw [← aI hs]; exact h1) ⟨rfl, rfl, rfl⟩⟩
 | pick c x y =>
  obtain ⟨d, r, h1, h2, h3⟩ := bE h
  refine ⟨r, [], h3, .inl rfl, fun e t m n hs _ => dL (x := d) (d := r) ?_ (zS h2 ?_ ?_) ⟨rfl, rfl, rfl⟩⟩
  ·rw [← aI (x := c) fun s h => hs s (by simp [Cfg.seesI, h])]; exact h1
  ·exact aI fun s h => hs s (by simp [Cfg.seesI, h])
  ·exact aI fun s h => hs s (by simp [Cfg.seesI, h])
 | bld z ps =>
  obtain ⟨d, r, h1, h2, h3⟩ := gB h
  exact ⟨r, [], h3, .inl rfl, fun e t m n hs _ => p_ (by rw [← kI hs]; exact h1) h2 ⟨rfl, rfl, rfl⟩⟩
 | bsl k len z ps =>
  obtain ⟨d, r, h1, h2, h3⟩ := gB h
  exact ⟨r, [], h3, .inl rfl, fun e t m n hs _ => p_ (by rw [← kI hs]; exact h1) h2 ⟨rfl, rfl, rfl⟩⟩
 | z0 => exact ⟨.zs, [], h, .inl rfl, fun e t m n hs _ => ⟨rfl, rfl, rfl⟩⟩
 | ld g k x =>
  obtain ⟨d, r, h1, h2, h3⟩ := bE h
  exact ⟨r, [], h3, .inl rfl, fun e t m n hs hm => dL (by rw [← aI hs]; exact h1) (EF (hm _ (by simp [Cfg.lookO]) _ h1) h2) ⟨rfl, rfl, rfl⟩⟩
 | chk x =>
  obtain ⟨d, r, h1, h2, h3⟩ := bE h
  exact ⟨r, [], h3, .inl rfl, fun e t m n hs hm => dL (by rw [← aI hs]; exact h1) h2 ⟨rfl, rfl, rfl⟩⟩
 | bin op ty x y =>
  obtain ⟨d, d2, r, h1, h2, h3, h4⟩ := eN h
  refine ⟨r, [], h4, .inl rfl, fun e t m n hs hm => kC (x := d) (y := d2) ?_ ?_ h3 ⟨rfl, rfl, rfl⟩⟩
  ·rw [← aI (x := x) fun s h => hs s (by simp [Cfg.seesI, h])]; exact h1
  ·rw [← aI (x := y) fun s h => hs s (by simp [Cfg.seesI, h])]; exact h2
 | un op x =>
  obtain ⟨d, r, h1, h2, h3⟩ := bE h
  exact ⟨r, [], h3, .inl rfl, fun e t m n hs hm => dL (by rw [← aI hs]; exact h1) h2 ⟨rfl, rfl, rfl⟩⟩
 | cv s0 d0 x =>
  obtain ⟨d, r, h1, h2, h3⟩ := bE h
  exact ⟨r, [], h3, .inl rfl, fun e t m n hs hm => dL (by rw [← aI hs]; exact h1) h2 ⟨rfl, rfl, rfl⟩⟩
 | fa off x =>
  obtain ⟨d, r, h1, h2, h3⟩ := bE h
  exact ⟨r, [], h3, .inl rfl, fun e t m n hs hm => dL (by rw [← aI hs]; exact h1) (v8 (hm _ (by simp [Cfg.lookO]) _ h1) h2) ⟨rfl, rfl, rfl⟩⟩
 | fld g k off x =>
  obtain ⟨d, r, h1, h2, h3⟩ := bE h
  exact ⟨r, [], h3, .inl rfl, fun e t m n hs hm => dL (by rw [← aI hs]; exact h1) h2 ⟨rfl, rfl, rfl⟩⟩
 | ia k x y =>
  obtain ⟨d, d2, r, h1, h2, h3, h4⟩ := eN h
  refine ⟨r, [], h4, .inl rfl, fun e t m n hs hm => kC (x := d) (y := d2) ?_ ?_ (CZ (hm _ (by simp [Cfg.lookO]) _ h1) h3) ⟨rfl, rfl, rfl⟩⟩
  ·rw [← aI (x := x) fun s h => hs s (by simp [Cfg.seesI, h])]; exact h1
  ·rw [← aI (x := y) fun s h => hs s (by simp [Cfg.seesI, h])]; exact h2
 | ext j x =>
  obtain ⟨d, r, h1, h2, h3⟩ := bE h
  exact ⟨r, [], h3, .inl rfl, fun e t m n hs hm => dL (by rw [← aI hs]; exact h1) h2 ⟨rfl, rfl, rfl⟩⟩
 | len s0 x =>
  obtain ⟨d, r, h1, h2, h3⟩ := bE h
  exact ⟨r, [], h3, .inl rfl, fun e t m n hs hm => dL (by rw [← aI hs]; exact h1) (BM (hm _ (by simp [Cfg.lookO]) _ h1) h2) ⟨rfl, rfl, rfl⟩⟩
 | bi b xs =>
  obtain ⟨d, r, h1, h2, h3⟩ := gB h
  exact ⟨r, [], h3, .inl rfl, fun e t m n hs _ => p_ (by rw [← eP hs]; exact h1) h2 ⟨rfl, rfl, rfl⟩⟩
 | sls s0 k x lo hi =>
  obtain ⟨d, h1, h2⟩ := fP h
  refine ⟨d, [], h2, .inl rfl, fun e t m n hs hm => mB ?_ ⟨rfl, rfl, rfl⟩⟩
  have e1 : ro tl env x = ro t e x := aI fun s h => hs s (by simp [Cfg.seesI, h])
  have e2 : roo tl env lo = roo t e lo := by
   cases lo with
   | none => rfl
   | some l => simp only [roo]; rw [aI (x := l) fun s h => hs s (by simp [Cfg.seesI, h])]
  have e3 : roo tl env hi = roo t e hi := by
   cases hi with
   | none => rfl
   | some l => simp only [roo]; rw [aI (x := l) fun s h => hs s (by simp [Cfg.seesI, h])]
  rw [← e1, ← e2, ← e3]
  unfold slsO at h1 ⊢
  split at h1
  ·rename_i h4 _ _
   exact A0 (hm x (by simp [Cfg.lookO]) _ h4) h1
  ·simp at h1
 | mkf f xs =>
  obtain ⟨d, r, h1, h2, h3⟩ := gB h
  exact ⟨r, [], h3, .inl rfl, fun e t m n hs _ => p_ (by rw [← eP hs]; exact h1) h2 ⟨rfl, rfl, rfl⟩⟩
 | bxi x =>
  obtain ⟨d, r, h1, h2, h3⟩ := bE h
  exact ⟨r, [], h3, .inl rfl, fun e t m n hs hm => dL (by rw [← aI hs]; exact h1) h2 ⟨rfl, rfl, rfl⟩⟩
 | mki k bytes z x =>
  obtain ⟨d, r, h1, h2, h3⟩ := bE h
  exact ⟨r, [], h3, .inl rfl, fun e t m n hs hm => dL (by rw [← aI hs]; exact h1) h2 ⟨rfl, rfl, rfl⟩⟩
 | pc f xs =>
  obtain ⟨g, caps, ys, r, h1, h2, h3, h4, h5⟩ := rR h
  refine ⟨r, [], h5, .inl rfl, fun e t m n hs _ => ?_⟩
  show pcK C.P (ro t e f) (ros t e xs) m n _
  rw [← aI (x := f) fun s h => hs s (by simp [Cfg.seesI, h]), ← eP (xs := xs) fun s h => hs s (by simp only [Cfg.seesI, List.mem_append]; exact .inr h), h1, h2]
  exact ⟨r, h3, h4, rfl, rfl, rfl⟩
 | al z => exact ⟨_, [(id, .box (z.map .pl))], h, .inr ⟨⟨_, rfl⟩, rfl⟩, fun e t m n hs _ => ⟨rfl, rfl, rfl⟩⟩
 | bx x =>
  obtain ⟨d, m', h1, h2⟩ := cB h
  cases hd : ro tl env x with
  | none => simp [hd, bxM] at h1
  | some dd =>
   rw [hd] at h1
   simp only [bxM, Option.ite_none_right_eq_some, Option.some.injEq, Prod.mk.injEq] at h1
   obtain ⟨h3, rfl, rfl⟩ := h1
   refine ⟨_, [(id, .box dd.cells)], h2, .inr ⟨⟨_, rfl⟩, rfl⟩, fun e t m n hs _ => e_ (d := .opt id 0) (m := (id, .box dd.cells) :: m) ?_ ⟨rfl, rfl, rfl⟩⟩
   rw [← aI (x := x) hs, hd]; simp [bxM, h3]
 | bso k len z ps =>
  obtain ⟨d, m', h1, h2⟩ := cB h
  cases hd : rps tl env ps with
  | none => simp [hd, oM] at h1
  | some dd =>
   rw [hd] at h1
   simp only [oM] at h1
   split at h1
   ·rename_i es hes
    simp only [Option.some.injEq, Prod.mk.injEq] at h1
    obtain ⟨rfl, rfl⟩ := h1
    refine ⟨_, [(id, .arr 0 k es)], h2, .inr ⟨⟨_, rfl⟩, rfl⟩, fun e t m n hs _ => e_ (d := .osl id 0 0 len) (m := (id, .arr 0 k es) :: m) ?_ ⟨rfl, rfl, rfl⟩⟩
    rw [← kI (ps := ps) hs, hd]; simp [oM, hes]
   ·simp at h1
 | mks k bytes z x =>
  obtain ⟨d, m', h1, h2⟩ := cB h
  unfold mksM at h1
  split at h1
  ·rename_i n hro
   simp only [Option.ite_none_right_eq_some, Option.some.injEq, Prod.mk.injEq] at h1
   obtain ⟨h3, rfl, rfl⟩ := h1
   refine ⟨_, [(id, .arr 0 k (List.replicate n.toNat (z.map .pl)))], h2, .inr ⟨⟨_, rfl⟩, rfl⟩, fun e t m n' hs _ => e_ (d := .osl id 0 0 n.toNat) (m := (id, .arr 0 k (List.replicate n.toNat (z.map .pl))) :: m) ?_ ⟨rfl, rfl, rfl⟩⟩
   rw [← aI (x := x) hs, hro]; simp only [mksM, h3, and_self, if_true]
  ·simp at h1
 | apn k bytes z x y =>
  obtain ⟨d, m', h1, h2⟩ := cB h
  cases hdx : ro tl env x with
  | none => simp [hdx, fR] at h1
  | some dx =>
   cases hdy : ro tl env y with
   | none => simp [hdx, hdy, fR] at h1
   | some dy =>
    rw [hdx, hdy] at h1
    simp only [fR, Option.ite_none_right_eq_some] at h1
    obtain ⟨h3, h1⟩ := h1
    split at h1
    ·rename_i es hes
     simp only [Option.ite_none_right_eq_some, Option.some.injEq, Prod.mk.injEq] at h1
     obtain ⟨h4, rfl, rfl⟩ := h1
     refine ⟨_, [(id, .arr 0 k es)], h2, .inr ⟨⟨_, rfl⟩, rfl⟩, fun e t m n hs hm => e_ (d := .osl id 0 0 es.length) (m := (id, .arr 0 k es) :: m) ?_ ⟨rfl, rfl, rfl⟩⟩
     rw [← aI (x := x) fun s h => hs s (by simp [Cfg.seesI, h]), ← aI (x := y) fun s h => hs s (by simp [Cfg.seesI, h]), hdx, hdy]
     simp only [fR, h3, if_true, rC (hm _ (by simp [Cfg.lookO]) _ hdy) hes, h4]
    ·simp at h1
 | st _ _ _ => simp [I.free] at hf
 | sta _ _ _ _ => simp [I.free] at hf
 | app _ _ _ _ _ => simp [I.free] at hf
 | cl _ _ => simp [I.free] at hf
 | cln _ _ => simp [I.free] at hf
 | iaa len k x y =>
  obtain ⟨d, d2, r, h1, h2, h3, h4⟩ := eN h
  refine ⟨r, [], h4, .inl rfl, fun e t m n hs hm => kC (x := d) (y := d2) ?_ ?_ (BG (hm _ (by simp [Cfg.lookO]) _ h1) h3 (v8 (hm _ (by simp [Cfg.lookO]) _ h1))) ⟨rfl, rfl, rfl⟩⟩
  ·rw [← aI (x := x) fun s h => hs s (by simp [Cfg.seesI, h])]; exact h1
  ·rw [← aI (x := y) fun s h => hs s (by simp [Cfg.seesI, h])]; exact h2
 | ixs x y =>
  obtain ⟨d, d2, r, h1, h2, h3, h4⟩ := eN h
  refine ⟨r, [], h4, .inl rfl, fun e t m n hs hm => kC (x := d) (y := d2) ?_ ?_ h3 ⟨rfl, rfl, rfl⟩⟩
  ·rw [← aI (x := x) fun s h => hs s (by simp [Cfg.seesI, h])]; exact h1
  ·rw [← aI (x := y) fun s h => hs s (by simp [Cfg.seesI, h])]; exact h2
 | lk kd z two x y =>
  obtain ⟨d, d2, r, h1, h2, h3, h4⟩ := eN h
  refine ⟨r, [], h4, .inl rfl, fun e t m n hs hm => kC (x := d) (y := d2) ?_ ?_ (D4 (hm _ (by simp [Cfg.lookO]) _ h1) h3) ⟨rfl, rfl, rfl⟩⟩
  ·rw [← aI (x := x) fun s h => hs s (by simp [Cfg.seesI, h])]; exact h1
  ·rw [← aI (x := y) fun s h => hs s (by simp [Cfg.seesI, h])]; exact h2
 | lnm x =>
  obtain ⟨d, r, h1, h2, h3⟩ := bE h
  exact ⟨r, [], h3, .inl rfl, fun e t m n hs hm => dL (by rw [← aI hs]; exact h1) (A2 (hm _ (by simp [Cfg.lookO]) _ h1) h2) ⟨rfl, rfl, rfl⟩⟩
 | ldp g k x =>
  obtain ⟨d, r, h1, h2, h3⟩ := bE h
  exact ⟨r, [], h3, .inl rfl, fun e t m n hs hm => dL (by rw [← aI hs]; exact h1) h2 ⟨rfl, rfl, rfl⟩⟩
 | fap off x =>
  obtain ⟨d, r, h1, h2, h3⟩ := bE h
  exact ⟨r, [], h3, .inl rfl, fun e t m n hs hm => dL (by rw [← aI hs]; exact h1) h2 ⟨rfl, rfl, rfl⟩⟩
 | mkm => exact ⟨_, [(id, .map [])], h, .inr ⟨⟨_, rfl⟩, rfl⟩, fun e t m n hs _ => ⟨rfl, rfl, rfl⟩⟩
 | mup _ _ _ _ => simp [I.free] at hf
 | cvo _ => simp [I.free] at hf
theorem wD {o : Option D} {K K' : KD} (h : k0 o mem nx K) (hk : ∀ d m n, K d m n → K' d m n) : k0 o mem nx K' := by
 obtain ⟨d, h1, h2⟩ := fP h; exact mB h1 (hk _ _ _ h2)
theorem dK {o : Option D} {g : D → Option D} {K K' : KD} (h : k1 o g mem nx K) (hk : ∀ d m n, K d m n → K' d m n) : k1 o g mem nx K' := by
 obtain ⟨x, d, h1, h2, h3⟩ := bE h; exact dL h1 h2 (hk _ _ _ h3)
theorem lM {o p : Option D} {g : D → D → Option D} {K K' : KD} (h : k2 o p g mem nx K) (hk : ∀ d m n, K d m n → K' d m n) : k2 o p g mem nx K' := by
 obtain ⟨x, y, d, h1, h2, h3, h4⟩ := eN h; exact kC h1 h2 h3 (hk _ _ _ h4)
theorem oR {α : Type} {o : Option α} {g : α → Option D} {K K' : KD} (h : kl o g mem nx K) (hk : ∀ d m n, K d m n → K' d m n) : kl o g mem nx K' := by
 obtain ⟨x, d, h1, h2, h3⟩ := gB h; exact p_ h1 h2 (hk _ _ _ h3)
theorem fV {o : Option (D × Mem)} {K K' : KD} (h : km o nx K) (hk : ∀ d m n, K d m n → K' d m n) : km o nx K' := by
 obtain ⟨d, m, h1, h2⟩ := cB h; exact e_ h1 (hk _ _ _ h2)
theorem fX {P : Program} {f : FuncId} {xs : List D} {K K' : KD} (h : bP P f xs mem nx K) (hk : ∀ d m n, K d m n → K' d m n) : bP P f xs mem nx K' :=
 ⟨h.1, fun S φ w ys h1 hb h2 => (h.2 S φ w ys h1 hb h2).mono fun e w' ⟨v, d, m', n', S', φ', g1, g2, g3⟩ => ⟨v, d, m', n', S', φ', g1, hk _ _ _ g2, g3⟩⟩
theorem bJ {i : I} {K K' : KD} (h : aP C id i env tl mem nx K) (hk : ∀ d m n, K d m n → K' d m n) : aP C id i env tl mem nx K' := by
 cases i with
 | pc f xs =>
  obtain ⟨g, caps, ys, r, h1, h2, h3, h4, h5⟩ := rR h
  show pcK C.P _ _ _ _ _
  rw [h1, h2]; exact ⟨r, h3, h4, hk _ _ _ h5⟩
 | cl f xs =>
  obtain ⟨g, caps, ys, h1, h2, h3⟩ := iC h
  show clK C.P _ _ _ _ _
  rw [h1, h2]; exact fX h3 hk
 | cln f xs =>
  obtain ⟨g, caps, ys, h1, h2, h3⟩ := iC h
  show clK C.P _ _ _ _ _
  rw [h1, h2]; exact fX h3 fun d m n h => ⟨h.1, hk _ _ _ h.2⟩
 | z0 => exact hk _ _ _ h
 | al z => exact hk _ _ _ h
 | mv _ => exact wD h hk
 | sls _ _ _ _ _ => exact wD h hk
 | pick _ _ _ => exact dK h hk
 | ld _ _ _ => exact dK h hk
 | chk _ => exact dK h hk
 | un _ _ => exact dK h hk
 | cv _ _ _ => exact dK h hk
 | fa _ _ => exact dK h hk
 | fld _ _ _ _ => exact dK h hk
 | ext _ _ => exact dK h hk
 | len _ _ => exact dK h hk
 | bxi _ => exact dK h hk
 | mki _ _ _ _ => exact dK h hk
 | bin _ _ _ _ => exact lM h hk
 | ia _ _ _ => exact lM h hk
 | bld _ _ => exact oR h hk
 | bsl _ _ _ _ => exact oR h hk
 | bi _ _ => exact oR h hk
 | mkf _ _ => exact oR h hk
 | bx _ => exact fV h hk
 | bso _ _ _ _ => exact fV h hk
 | mks _ _ _ _ => exact fV h hk
 | apn _ _ _ _ _ => exact fV h hk
 | st _ _ _ => exact fV h hk
 | sta _ _ _ _ => exact fV h hk
 | app _ _ _ _ _ => exact fV h hk
 | iaa _ _ _ _ => exact lM h hk
 | ixs _ _ => exact lM h hk
 | lk _ _ _ _ _ => exact lM h hk
 | lnm _ => exact dK h hk
 | ldp _ _ _ => exact dK h hk
 | fap _ _ => exact dK h hk
 | mkm => exact hk _ _ _ h
 | mup _ _ _ _ => exact fV h hk
 | cvo _ => exact fV h hk
structure Oc where
 d : D
 ext : Mem
instance : Inhabited Oc := ⟨⟨.top, []⟩⟩
def putE : Dst → D → Env → Env
 | .g j, v, e => upd e j v
 | _, _, e => e
def putT : Dst → D → Env → Env
 | .t j, v, e => (j, v) :: e
 | _, _, e => e
theorem aK {d : Dst} {v : D} {go : Env → Env → Mem → Nat → Prop} : dB d env tl go v mem nx = go (putE d v env) (putT d v tl) mem nx := by
 cases d <;> rfl
theorem pG {α : Type} (j : Nat) (d : α) : ∀ (e : List (Nat × α)), look e j = some d → upd e j d = e
 | [], _ => rfl
 | (k, x) :: e, h => by
  simp only [look] at h
  simp only [upd]
  by_cases hk : k = j
  ·simp only [hk, if_true, Option.some.injEq] at h ⊢; rw [h]
  ·simp only [hk, if_false] at h ⊢; rw [pG j d e h]
theorem cQ {g : Opd} {b : Bool} (h : ro tl env g = some (.pl (.bool b))) : gH b env g = env ∧ gG b tl g = tl := by
 cases g with
 | t j => exact ⟨rfl, pG j _ tl h⟩
 | g j => exact ⟨pG j _ env h, rfl⟩
 | _ => exact ⟨rfl, rfl⟩
theorem iE {base : Nat} {x : Ins} {j : Nat} {go : Env → Env → Mem → Nat → Prop} (hf : x.i.free = true) (h : One C base x j env tl mem nx go) :
  ∃ oc : Oc, go (putE x.dst oc.d env) (putT x.dst oc.d tl) (oc.ext ++ mem) nx ∧ (oc.ext = [] ∨ (∃ b, oc.ext = [(base + j, b)]) ∧ Cfg.makesI x.i = true) ∧
  ∀ env2 tl2 mem2 nx2 (go2 : Env → Env → Mem → Nat → Prop), (∀ s ∈ Cfg.sees x, look env s = look env2 s ∧ look tl s = look tl2 s) → (∀ p ∈ Cfg.lookO x.i, ∀ d, ro tl env p = some d → g_ d mem mem2) →
   go2 (putE x.dst oc.d env2) (putT x.dst oc.d tl2) (oc.ext ++ mem2) nx2 → One C base x j env2 tl2 mem2 nx2 go2 := by
 obtain ⟨d, g, i⟩ := x
 cases g with
 | none =>
  obtain ⟨r, ext, h1, h2, h3⟩ := pL hf h
  rw [aK] at h1
  refine ⟨⟨r, ext⟩, h1, h2, fun e t m n go2 hs hm hgo => ?_⟩
  refine bJ (h3 e t m n (fun s hs' => hs s (by simpa [Cfg.sees] using hs')) hm) ?_
  rintro d' m' n' ⟨rfl, rfl, rfl⟩
  rw [aK]; exact hgo
 | some p =>
  obtain ⟨g, want⟩ := p
  simp only [One, gd] at h
  split at h
  ·rename_i b hro
   by_cases hb : b = want
   ·subst hb
    obtain ⟨s1, s2⟩ := cQ hro
    have h0 := h.1 rfl
    rw [s1, s2] at h0
    obtain ⟨r, ext, h1, h2, h3⟩ := pL hf h0
    rw [aK] at h1
    refine ⟨⟨r, ext⟩, h1, h2, fun e t m n go2 hs hm hgo => ?_⟩
    have hro2 : ro t e g = some (.pl (.bool b)) := by rw [← aI (x := g) fun s h => hs s (by simp [Cfg.sees, h])]; exact hro
    obtain ⟨s3, s4⟩ := cQ hro2
    simp only [One, gd, hro2]
    refine ⟨fun _ => ?_, fun hn => by cases b <;> simp at hn⟩
    rw [s3, s4]
    refine bJ (h3 e t m n (fun s hs' => hs s (by simp [Cfg.sees, hs'])) hm) ?_
    rintro d' m' n' ⟨rfl, rfl, rfl⟩
    rw [aK]; exact hgo
   ·have hbn : b = !want := by cases b <;> cases want <;> simp_all
    obtain ⟨s1, s2⟩ := cQ hro
    have h0 := h.2 hbn
    rw [← hbn, s1, s2, aK] at h0
    refine ⟨⟨.pl undef, []⟩, h0, .inl rfl, fun e t m n go2 hs hm hgo => ?_⟩
    have hro2 : ro t e g = some (.pl (.bool b)) := by rw [← aI (x := g) fun s h => hs s (by simp [Cfg.sees, h])]; exact hro
    obtain ⟨s3, s4⟩ := cQ hro2
    simp only [One, gd, hro2]
    refine ⟨fun h => absurd h hb, fun _ => ?_⟩
    rw [← hbn, s3, s4, aK]; exact hgo
  ·rename_i vs hro
   rw [aK] at h
   refine ⟨⟨.pl undef, []⟩, h, .inl rfl, fun e t m n go2 hs hm hgo => ?_⟩
   have hro2 : ro t e g = some (.pl (.tuple vs)) := by rw [← aI (x := g) fun s h => hs s (by simp [Cfg.sees, h])]; exact hro
   simp only [One, gd, hro2]
   rw [aK]; exact hgo
  ·exact h.elim
end
section
variable {C : Cfg} {w w' : World} {S S' : Nat → Prop} {φ φ' : aR} {a : Act} {env tl env2 tl2 : Env} {mem mem2 : Mem} {nx nx2 id base : Nat}
theorem lR {d : Dst} {v : D} {e : Env} {t : Nat} (h : d ≠ .g t) : look (putE d v e) t = look e t := by
 cases d with
 | g j => simp only [putE]; exact aT _ (fun e => h (by rw [e])) _
 | _ => rfl
theorem jB {d : Dst} {v : D} {e : Env} {t : Nat} (h : d ≠ .t t) : look (putT d v e) t = look e t := by
 cases d with
 | t j => simp only [putT, look]; rw [if_neg (fun e => h (by rw [e]))]
 | _ => rfl
theorem bX {α : Type} (j : Nat) (v : α) : ∀ (e : List (Nat × α)), look (upd e j v) j = (look e j).map fun _ => v
 | [] => rfl
 | (k, x) :: e => by
  by_cases hk : k = j
  ·simp [upd, look, hk]
  ·simp [upd, look, hk, bX j v e]
def Lk {α : Type} (e e2 : List (Nat × α)) : Prop := ∀ t, look e t = look e2 t
theorem Lk.refl {α : Type} (e : List (Nat × α)) : Lk e e := fun _ => rfl
theorem Lk.symm {α : Type} {e e2 : List (Nat × α)} (h : Lk e e2) : Lk e2 e := fun t => (h t).symm
theorem Lk.trans {α : Type} {e e2 e3 : List (Nat × α)} (h : Lk e e2) (k : Lk e2 e3) : Lk e e3 := fun t => (h t).trans (k t)
theorem Lk.upd {α : Type} {e e2 : List (Nat × α)} (h : Lk e e2) (j : Nat) (v : α) : Lk (upd e j v) (upd e2 j v) := fun t => by
 by_cases ht : t = j
 ·subst ht; rw [bX, bX, h]
 ·rw [aT _ ht, aT _ ht, h]
theorem Lk.cons {α : Type} {e e2 : List (Nat × α)} (h : Lk e e2) (x : Nat × α) : Lk (x :: e) (x :: e2) := fun t => by
 obtain ⟨k, v⟩ := x
 simp only [look]; rw [h]
theorem Lk.app {α : Type} {e e2 : List (Nat × α)} (h : Lk e e2) : ∀ (x : List (Nat × α)), Lk (x ++ e) (x ++ e2)
 | [] => h
 | y :: x => (Lk.app h x).cons y
theorem Lk.putE {e e2 : Env} (h : Lk e e2) (d : Dst) (v : D) : Lk (putE d v e) (putE d v e2) := by
 cases d with
 | g j => exact h.upd j v
 | _ => exact h
theorem Lk.putT {e e2 : Env} (h : Lk e e2) (d : Dst) (v : D) : Lk (putT d v e) (putT d v e2) := by
 cases d with
 | t j => exact h.cons _
 | _ => exact h
theorem Lk.sub {m m2 : Mem} (h : Lk m m2) : Sub m m2 := fun i b hb => by rw [← h]; exact hb
theorem dZ {d d2 : Dst} {v v2 : D} {e : Env} (h : ∀ t ∈ Cfg.dstO d, t ∉ Cfg.dstO d2) : Lk (putE d v (putE d2 v2 e)) (putE d2 v2 (putE d v e)) := by
 cases d with
 | g j =>
  cases d2 with
  | g k =>
   have hne : j ≠ k := fun e => h j (by simp [Cfg.dstO]) (by simp [Cfg.dstO, e])
   intro t
   simp only [Go.Fx.putE]
   by_cases h1 : t = j
   ·subst h1; rw [bX, aT _ hne, aT _ hne, bX]
   ·rw [aT _ h1]
    by_cases h2 : t = k
    ·subst h2; rw [bX, bX, aT _ h1]
    ·rw [aT _ h2, aT _ h2, aT _ h1]
  | _ => exact Lk.refl _
 | _ => exact Lk.refl _
theorem d8 {d d2 : Dst} {v v2 : D} {e : Env} (h : ∀ t ∈ Cfg.dstO d, t ∉ Cfg.dstO d2) : Lk (putT d v (putT d2 v2 e)) (putT d2 v2 (putT d v e)) := by
 cases d with
 | t j =>
  cases d2 with
  | t k =>
   have hne : j ≠ k := fun e => h j (by simp [Cfg.dstO]) (by simp [Cfg.dstO, e])
   intro t
   simp only [Go.Fx.putT, look]
   by_cases h1 : j = t
   ·subst h1; rw [if_pos rfl, if_neg (fun e => hne e.symm), if_pos rfl]
   ·rw [if_neg h1, if_neg h1]
  | _ => exact Lk.refl _
 | _ => exact Lk.refl _
abbrev Go4 := Env → Env → Mem → Nat → Prop
def Inv (go : Go4) : Prop := ∀ e t m n e2 t2 m2, Lk e e2 → Lk t t2 → Lk m m2 → go e t m n → go e2 t2 m2 n
abbrev I.call : I → Bool := Cfg.callI
theorem wrc_lk {n : Nat} {x : D} {new : List D} {m : Mem} (h : wrc mem n x new = some m) (hm : Lk mem mem2) : ∃ m2, wrc mem2 n x new = some m2 ∧ Lk m m2 := by
 cases x with
 | opt id off =>
  simp only [wrc] at h ⊢
  split at h
  ·rename_i hc
   rw [if_pos hc, ← hm]
   split at h
   ·split at h
    ·rename_i h2
     rw [if_pos h2]
     simp only [Option.some.injEq] at h; subst h
     exact ⟨_, rfl, hm.upd _ _⟩
    ·simp at h
   ·simp at h
  ·simp at h
 | oel id ver i off =>
  simp only [wrc] at h ⊢
  split at h
  ·rename_i hc
   rw [if_pos hc, ← hm]
   split at h
   ·split at h
    ·rename_i h2
     rw [if_pos h2]
     split at h
     ·split at h
      ·rename_i h3
       rw [if_pos h3]
       simp only [Option.some.injEq] at h; subst h
       exact ⟨_, rfl, hm.upd _ _⟩
      ·simp at h
     ·simp at h
    ·simp at h
   ·simp at h
  ·simp at h
 | _ => simp [wrc] at h
theorem D7 {k b : Nat} {x y : Option D} {d : D} {m : Mem} (h : fR id mem k b x y = some (d, m)) (hm : Lk mem mem2) : ∃ m2, fR id mem2 k b x y = some (d, m2) ∧ Lk m m2 := by
 unfold fR at h ⊢
 split at h
 ·split at h
  ·rename_i hr
   rw [if_pos hr]
   split at h
   ·rename_i he
    rw [rC (hm.sub.at _) he]
    simp only at h ⊢
    split at h
    ·rename_i hb
     rw [if_pos hb]
     simp only [Option.some.injEq, Prod.mk.injEq] at h
     obtain ⟨rfl, rfl⟩ := h
     exact ⟨_, rfl, hm.cons _⟩
    ·simp at h
   ·simp at h
  ·simp at h
 ·simp at h
theorem DZ {k b : Nat} {x y : Option D} {d : D} {m : Mem} (h : kT id mem k b x y = some (d, m)) (hm : Lk mem mem2) : ∃ m2, kT id mem2 k b x y = some (d, m2) ∧ Lk m m2 := by
 unfold kT at h ⊢
 split at h
 ·rename_i i ver lo n y
  split at h
  ·rename_i h1 h2
   rw [← hm, h1, rC (hm.sub.at _) h2]
   simp only
   split at h
   ·rename_i h3
    rw [if_pos h3]
    simp only [Option.some.injEq, Prod.mk.injEq] at h
    obtain ⟨rfl, rfl⟩ := h
    exact ⟨_, rfl, hm.upd _ _⟩
   ·simp at h
  ·simp at h
 ·exact D7 h hm
theorem yM {n : Nat} {x y : Option D} {d : D} {m : Mem} (h : stM mem n x y = some (d, m)) (hm : Lk mem mem2) : ∃ m2, stM mem2 n x y = some (d, m2) ∧ Lk m m2 := by
 unfold stM at h ⊢
 split at h
 ·split at h
  ·rename_i hw
   simp only [Option.some.injEq, Prod.mk.injEq] at h
   obtain ⟨rfl, rfl⟩ := h
   obtain ⟨m2, h1, h2⟩ := wrc_lk hw hm
   rw [h1]; exact ⟨m2, rfl, h2⟩
  ·simp at h
 ·simp at h
theorem CR {x : Option D} {d : D} {m : Mem} (h : n_ mem x = some (d, m)) (hm : Lk mem mem2) : ∃ m2, n_ mem2 x = some (d, m2) ∧ Lk m m2 := by
 unfold n_ at h ⊢
 split at h
 ·split at h
  ·rename_i hl
   rw [← hm, hl]
   simp only at h ⊢
   split at h
   ·rename_i hc
    rw [if_pos hc]
    simp only [Option.some.injEq, Prod.mk.injEq] at h
    obtain ⟨rfl, rfl⟩ := h
    exact ⟨_, rfl, hm.upd _ _⟩
   ·simp at h
  ·simp at h
 ·simp at h
theorem CO {kd : Option IntKind} {x y v : Option D} {d : D} {m : Mem} (h : j6 mem kd x y v = some (d, m)) (hm : Lk mem mem2) : ∃ m2, j6 mem2 kd x y v = some (d, m2) ∧ Lk m m2 := by
 unfold j6 at h ⊢
 split at h
 ·split at h
  ·rename_i hl
   rw [← hm, hl]
   simp only at h ⊢
   split at h
   ·rename_i hc
    rw [if_pos hc]
    simp only [Option.some.injEq, Prod.mk.injEq] at h
    obtain ⟨rfl, rfl⟩ := h
    exact ⟨_, rfl, hm.upd _ _⟩
   ·simp at h
  ·simp at h
 ·simp at h
theorem BR {n : Nat} {x : D} {new : List D} {m : Mem} (h : wrc mem n x new = some m) : ∃ i b b', x.hd = some i ∧ look mem i = some b ∧ m = upd mem i b' ∧ ∀ mem2, look mem2 i = some b → wrc mem2 n x new = some (upd mem2 i b') := by
 cases x with
 | opt id off =>
  simp only [wrc] at h ⊢
  split at h
  ·rename_i hc
   split at h
   ·rename_i cs hl
    split at h
    ·rename_i h2
     simp only [Option.some.injEq] at h; subst h
     exact ⟨id, _, _, rfl, hl, rfl, fun mem2 hl2 => by rw [if_pos hc, hl2]; simp only; rw [if_pos h2]⟩
    ·simp at h
   ·simp at h
  ·simp at h
 | oel id ver i off =>
  simp only [wrc] at h ⊢
  split at h
  ·rename_i hc
   split at h
   ·rename_i v k es hl
    split at h
    ·rename_i h2
     split at h
     ·rename_i e he
      split at h
      ·rename_i h3
       simp only [Option.some.injEq] at h; subst h
       exact ⟨id, _, _, rfl, hl, rfl, fun mem2 hl2 => by rw [if_pos hc, hl2]; simp only; rw [if_pos h2, he]; simp only; rw [if_pos h3]⟩
      ·simp at h
     ·simp at h
    ·simp at h
   ·simp at h
  ·simp at h
 | _ => simp [wrc] at h
theorem uO {n : Nat} {a y : Option D} {d : D} {m : Mem} (h : stM mem n a y = some (d, m)) : ∃ x i b b', a = some x ∧ x.hd = some i ∧ look mem i = some b ∧ m = upd mem i b' ∧ ∀ mem2, look mem2 i = some b → stM mem2 n a y = some (d, upd mem2 i b') := by
 unfold stM at h ⊢
 split at h
 ·rename_i a0 y0
  split at h
  ·rename_i m0 hw
   simp only [Option.some.injEq, Prod.mk.injEq] at h
   obtain ⟨rfl, rfl⟩ := h
   obtain ⟨i, b, b', h1, h2, h3, h4⟩ := BR hw
   exact ⟨_, i, b, b', rfl, h1, h2, h3, fun mem2 h => by rw [h4 mem2 h]⟩
  ·simp at h
 ·simp at h
theorem upd_comm {α : Type} {i j : Nat} {x y : α} (h : i ≠ j) (m : List (Nat × α)) : Lk (upd (upd m i x) j y) (upd (upd m j y) i x) := fun t => by
 by_cases h1 : t = i
 ·subst h1; rw [aT _ h, bX, bX, aT _ h]
 ·by_cases h2 : t = j
  ·subst h2; rw [bX, aT _ h1, aT _ h1, bX]
  ·rw [aT _ h2, aT _ h1, aT _ h1, aT _ h2]
theorem nU {i : I} {K : KD} (hf : i.free = false) (hc : i.call = false) (h : aP C id i env tl mem nx K) : ∃ d m, K d m nx ∧
  ∀ env2 tl2 mem2 nx2, (∀ s ∈ Cfg.seesI i, look env s = look env2 s ∧ look tl s = look tl2 s) → Lk mem mem2 → ∃ m2, Lk m m2 ∧ aP C id i env2 tl2 mem2 nx2 (Sg d m2 nx2) := by
 cases i with
 | st n x y =>
  obtain ⟨d, m, h1, h2⟩ := cB h
  refine ⟨d, m, h2, fun e t m2 n2 hs hm => ?_⟩
  rw [aI (x := x) fun s h => hs s (by simp [Cfg.seesI, h]), aI (x := y) fun s h => hs s (by simp [Cfg.seesI, h])] at h1
  obtain ⟨m', g1, g2⟩ := yM h1 hm
  exact ⟨m', g2, e_ g1 ⟨rfl, rfl, rfl⟩⟩
 | sta n x y ps =>
  obtain ⟨d, m, h1, h2⟩ := cB h
  refine ⟨d, m, h2, fun e t m2 n2 hs hm => ?_⟩
  rw [aI (x := x) fun s h => hs s (by simp [Cfg.seesI, h]), aI (x := y) fun s h => hs s (by simp [Cfg.seesI, h]), eP (xs := ps) fun s h => hs s (by simp only [Cfg.seesI, List.mem_append]; exact .inr h)] at h1
  unfold mM at h1
  split at h1
  ·rename_i hap
   obtain ⟨m', g1, g2⟩ := yM h1 hm
   exact ⟨m', g2, e_ (by unfold mM; rw [if_pos hap]; exact g1) ⟨rfl, rfl, rfl⟩⟩
  ·simp at h1
 | app k b z x y =>
  obtain ⟨d, m, h1, h2⟩ := cB h
  refine ⟨d, m, h2, fun e t m2 n2 hs hm => ?_⟩
  rw [aI (x := x) fun s h => hs s (by simp [Cfg.seesI, h]), aI (x := y) fun s h => hs s (by simp [Cfg.seesI, h])] at h1
  obtain ⟨m', g1, g2⟩ := DZ h1 hm
  exact ⟨m', g2, e_ g1 ⟨rfl, rfl, rfl⟩⟩
 | cvo x =>
  obtain ⟨d, m, h1, h2⟩ := cB h
  refine ⟨d, m, h2, fun e t m2 n2 hs hm => ?_⟩
  rw [aI (x := x) fun s h => hs s (by simp [Cfg.seesI, h])] at h1
  obtain ⟨m', g1, g2⟩ := CR h1 hm
  exact ⟨m', g2, e_ g1 ⟨rfl, rfl, rfl⟩⟩
 | mup kd x y v =>
  obtain ⟨d, m, h1, h2⟩ := cB h
  refine ⟨d, m, h2, fun e t m2 n2 hs hm => ?_⟩
  rw [aI (x := x) fun s h => hs s (by simp [Cfg.seesI, h]), aI (x := y) fun s h => hs s (by simp [Cfg.seesI, h]), aI (x := v) fun s h => hs s (by simp [Cfg.seesI, h])] at h1
  obtain ⟨m', g1, g2⟩ := CO h1 hm
  exact ⟨m', g2, e_ g1 ⟨rfl, rfl, rfl⟩⟩
 | cl _ _ => simp [I.call, Cfg.callI] at hc
 | cln _ _ => simp [I.call, Cfg.callI] at hc
 | _ => simp [I.free] at hf
theorem vZ (hm : Lk mem mem2) (h : MSim S φ mem nx w) : MSim S φ mem2 nx w := ⟨fun i b hi => h.mem i b (by rw [hm]; exact hi), h.inj, h.lt, h.fresh, h.sub⟩
theorem u1 {P : Program} {f : FuncId} {xs : List D} {K : KD} (hm : Lk mem mem2) (h : bP P f xs mem nx K) : bP P f xs mem2 nx K :=
 ⟨h.1, fun S φ w ys h1 hb h2 => (h.2 S φ w ys (vZ hm.symm h1) hb h2).mono fun e w' ⟨v, d, m', n', S', φ', g1, g2, g3, g4, g5, g6, g7, g8⟩ =>
  ⟨v, d, m', n', S', φ', g1, g2, g3, g4, g5, g6, ⟨g7.sub, fun b hb ho => g7.keep b hb fun ⟨i, blk, l, k1, k2⟩ => ho ⟨i, blk, l, by rw [← hm]; exact k1, k2⟩, g7.size,
   fun b hb ho => let ⟨i, blk, l, k1, k2⟩ := g7.own b hb ho; ⟨i, blk, l, by rw [← hm]; exact k1, k2⟩,
   fun b hb => (g7.news b hb).imp id fun h => h.imp id fun ⟨i, blk, l, k1, k2⟩ => ⟨i, blk, l, by rw [← hm]; exact k1, k2⟩, g7.os, g7.output, g7.tape⟩, g8⟩⟩
theorem uX {i : I} {K K2 : KD} (hs : ∀ s ∈ Cfg.seesI i, look env s = look env2 s ∧ look tl s = look tl2 s) (hm : Lk mem mem2) (hk : ∀ d m m2 n, Lk m m2 → K d m n → K2 d m2 n)
  (h : aP C id i env tl mem nx K) : aP C id i env2 tl2 mem2 nx K2 := by
 cases hf : i.free with
 | true =>
  obtain ⟨d, ext, h1, h2, h3⟩ := pL hf h
  refine bJ (h3 env2 tl2 mem2 nx hs fun _ _ _ _ => hm.sub.at _) ?_
  rintro d' m' n' ⟨rfl, rfl, rfl⟩
  exact hk _ _ _ _ (hm.app ext) h1
 | false =>
  cases hc : i.call with
  | false =>
   obtain ⟨d, m, h1, h2⟩ := nU hf hc h
   obtain ⟨m2, h3, h4⟩ := h2 env2 tl2 mem2 nx hs hm
   refine bJ h4 ?_
   rintro d' m' n' ⟨rfl, rfl, rfl⟩
   exact hk _ _ _ _ h3 h1
  | true =>
   cases i with
   | cl f xs =>
    obtain ⟨g, caps, ys, h1, h2, h3⟩ := iC h
    show clK C.P _ _ _ _ _
    rw [aI (x := f) fun s h => hs s (by simp [Cfg.seesI, h])] at h1
    rw [eP (xs := xs) fun s h => hs s (by simp only [Cfg.seesI, List.mem_append]; exact .inr h)] at h2
    rw [h1, h2]
    exact fX (u1 hm h3) fun d m n hd => hk _ _ _ _ (Lk.refl m) hd
   | cln f xs =>
    obtain ⟨g, caps, ys, h1, h2, h3⟩ := iC h
    show clK C.P _ _ _ _ _
    rw [aI (x := f) fun s h => hs s (by simp [Cfg.seesI, h])] at h1
    rw [eP (xs := xs) fun s h => hs s (by simp only [Cfg.seesI, List.mem_append]; exact .inr h)] at h2
    rw [h1, h2]
    exact fX (u1 hm h3) fun d m n hd => ⟨fun i b hb => hd.1 i b (by rw [hm]; exact hb), hk _ _ _ _ (Lk.refl m) hd.2⟩
   | _ => simp [I.call, Cfg.callI] at hc
theorem nM {x : Ins} {j : Nat} {go go2 : Go4} (hs : ∀ s ∈ Cfg.sees x, look env s = look env2 s ∧ look tl s = look tl2 s) (hm : Lk mem mem2)
  (hgo : ∀ d m m2 n, Lk m m2 → go (putE x.dst d env) (putT x.dst d tl) m n → go2 (putE x.dst d env2) (putT x.dst d tl2) m2 n) (h : One C base x j env tl mem nx go) : One C base x j env2 tl2 mem2 nx go2 := by
 obtain ⟨d, g, i⟩ := x
 cases g with
 | none =>
  exact uX (fun s h => hs s (by simp [Cfg.sees, h])) hm (fun v m m2 n h1 h2 => by rw [aK] at h2 ⊢; exact hgo _ _ _ _ h1 h2) h
 | some p =>
  obtain ⟨g, want⟩ := p
  have hro : ro tl env g = ro tl2 env2 g := aI fun s h => hs s (by simp [Cfg.sees, h])
  simp only [One, gd] at h ⊢
  rw [← hro]
  split at h
  ·rename_i b hb
   obtain ⟨s1, s2⟩ := cQ hb
   have hb2 := hb
   rw [hro] at hb2
   obtain ⟨s3, s4⟩ := cQ hb2
   refine ⟨fun e => ?_, fun e => ?_⟩
   ·have h1 := h.1 e
    subst e
    rw [s1, s2] at h1; rw [s3, s4]
    exact uX (fun s h => hs s (by simp [Cfg.sees, h])) hm (fun v m m2 n h1 h2 => by rw [aK] at h2 ⊢; exact hgo _ _ _ _ h1 h2) h1
   ·have h1 := h.2 e
    rw [← e, s1, s2, aK] at h1
    rw [← e, s3, s4, aK]
    exact hgo _ _ _ _ hm h1
  ·rename_i vs hb
   rw [aK] at h ⊢
   exact hgo _ _ _ _ hm h
  ·exact h.elim
theorem tP {x : Ins} {j : Nat} {go go2 : Go4} (hgo : ∀ e t m n, go e t m n → go2 e t m n) (h : One C base x j env tl mem nx go) : One C base x j env tl mem nx go2 := by
 obtain ⟨d, g, i⟩ := x
 cases g with
 | none => exact bJ h fun v m n h => by rw [aK] at h ⊢; exact hgo _ _ _ _ h
 | some p =>
  obtain ⟨g, want⟩ := p
  simp only [One, gd] at h ⊢
  split at h
  ·exact ⟨fun e => bJ (h.1 e) fun v m n h => by rw [aK] at h ⊢; exact hgo _ _ _ _ h, fun e => by have := h.2 e; rw [aK] at this ⊢; exact hgo _ _ _ _ this⟩
  ·rw [aK] at h ⊢; exact hgo _ _ _ _ h
  ·exact h.elim
theorem wQ {x : Ins} {j : Nat} {go : Go4} (hg : Inv go) : Inv (fun e t m n => One C base x j e t m n go) := fun e t m n e2 t2 m2 he ht hm h =>
 nM (fun s _ => ⟨he s, ht s⟩) hm (fun d m m2 n h1 h2 => hg _ _ _ _ _ _ _ (he.putE _ _) (ht.putT _ _) h1 h2) h
theorem write_one' {x : Ins} {j : Nat} {go : Go4} (hf : x.i.free = false) (hc : x.i.call = false) (h : One C base x j env tl mem nx go) : ∃ d m, go (putE x.dst d env) (putT x.dst d tl) m nx ∧
  ∀ env2 tl2 nx2 (go2 : Go4), (∀ s ∈ Cfg.sees x, look env s = look env2 s ∧ look tl s = look tl2 s) → (∀ m2, Lk m m2 → go2 (putE x.dst d env2) (putT x.dst d tl2) m2 nx2) → One C base x j env2 tl2 mem nx2 go2 := by
 obtain ⟨d, g, i⟩ := x
 cases g with
 | none =>
  obtain ⟨v, m, h1, h2⟩ := nU hf hc h
  rw [aK] at h1
  refine ⟨v, m, h1, fun e t n go2 hs hg => ?_⟩
  obtain ⟨m2, h3, h4⟩ := h2 e t mem n (fun s h => hs s (by simp [Cfg.sees, h])) (Lk.refl _)
  refine bJ h4 ?_
  rintro d' m' n' ⟨rfl, rfl, rfl⟩
  rw [aK]; exact hg _ h3
 | some p =>
  obtain ⟨g, want⟩ := p
  simp only [One, gd] at h
  split at h
  ·rename_i b hb
   obtain ⟨s1, s2⟩ := cQ hb
   by_cases hbw : b = want
   ·have h1 := h.1 hbw
    subst hbw
    rw [s1, s2] at h1
    obtain ⟨v, m, h1, h2⟩ := nU hf hc h1
    rw [aK] at h1
    refine ⟨v, m, h1, fun e t n go2 hs hg => ?_⟩
    have hro2 : ro t e g = some (.pl (.bool b)) := by rw [← aI (x := g) fun s h => hs s (by simp [Cfg.sees, h])]; exact hb
    obtain ⟨s3, s4⟩ := cQ hro2
    simp only [One, gd, hro2]
    refine ⟨fun _ => ?_, fun hn => by cases b <;> simp at hn⟩
    rw [s3, s4]
    obtain ⟨m2, h3, h4⟩ := h2 e t mem n (fun s h => hs s (by simp [Cfg.sees, h])) (Lk.refl _)
    refine bJ h4 ?_
    rintro d' m' n' ⟨rfl, rfl, rfl⟩
    rw [aK]; exact hg _ h3
   ·have hbn : b = !want := by cases b <;> cases want <;> simp_all
    have h1 := h.2 hbn
    rw [← hbn, s1, s2, aK] at h1
    refine ⟨_, _, h1, fun e t n go2 hs hg => ?_⟩
    have hro2 : ro t e g = some (.pl (.bool b)) := by rw [← aI (x := g) fun s h => hs s (by simp [Cfg.sees, h])]; exact hb
    obtain ⟨s3, s4⟩ := cQ hro2
    simp only [One, gd, hro2]
    refine ⟨fun h => absurd h hbw, fun _ => ?_⟩
    rw [← hbn, s3, s4, aK]; exact hg _ (Lk.refl _)
  ·rename_i vs hb
   rw [aK] at h
   refine ⟨_, _, h, fun e t n go2 hs hg => ?_⟩
   have hro2 : ro t e g = some (.pl (.tuple vs)) := by rw [← aI (x := g) fun s h => hs s (by simp [Cfg.sees, h])]; exact hb
   simp only [One, gd, hro2]
   rw [aK]; exact hg _ (Lk.refl _)
  ·exact h.elim
def I.adr : I → Option Opd
 | .st _ a _ | .sta _ a _ _ => some a
 | _ => none
def I.tol : I → List Opd
 | .sta _ _ _ ps => ps
 | _ => []
theorem sP {i : I} {p : Opd} {K : KD} (hp : i.adr = some p) (h : aP C id i env tl mem nx K) : ∃ d x k b b', ro tl env p = some x ∧ x.hd = some k ∧ look mem k = some b ∧ K d (upd mem k b') nx ∧
  (∀ q ∈ i.tol, ∃ y, ro tl env q = some y ∧ y.hd ≠ some k) ∧
  ∀ env2 tl2 mem2 nx2, (∀ s ∈ Cfg.seesI i, look env s = look env2 s ∧ look tl s = look tl2 s) → look mem2 k = some b → aP C id i env2 tl2 mem2 nx2 (Sg d (upd mem2 k b') nx2) := by
 cases i with
 | st n a v =>
  simp only [I.adr, Option.some.injEq] at hp; subst hp
  obtain ⟨d, m, h1, h2⟩ := cB h
  obtain ⟨x, k, b, b', g1, g2, g3, rfl, g5⟩ := uO h1
  refine ⟨d, x, k, b, b', g1, g2, g3, h2, by simp [I.tol], fun e t m2 n2 hs hm => ?_⟩
  rw [aI (x := a) fun s h => hs s (by simp [Cfg.seesI, h]), aI (x := v) fun s h => hs s (by simp [Cfg.seesI, h])] at g5
  exact e_ (g5 m2 hm) ⟨rfl, rfl, rfl⟩
 | sta n a v ps =>
  simp only [I.adr, Option.some.injEq] at hp; subst hp
  obtain ⟨d, m, h1, h2⟩ := cB h
  unfold mM at h1
  split at h1
  ·rename_i hap
   obtain ⟨x, k, b, b', g1, g2, g3, rfl, g5⟩ := uO h1
   refine ⟨d, x, k, b, b', g1, g2, g3, h2, fun q hq => ?_, fun e t m2 n2 hs hm => ?_⟩
   ·rw [g1] at hap
    simp only [I.tol] at hq
    unfold iM at hap
    split at hap
    ·rename_i a0 ps0 e1 e2
     simp only [Option.some.injEq] at e1; subst e1
     clear h1 h h2
     induction ps generalizing ps0 with
     | nil => simp at hq
     | cons r ps ih =>
      simp only [ros] at e2
      split at e2
      ·rename_i dr dps hr hps
       simp only [Option.some.injEq] at e2; subst e2
       simp only [List.all_cons, Bool.and_eq_true] at hap
       rcases List.mem_cons.1 hq with rfl | hq
       ·refine ⟨dr, hr, fun e => ?_⟩
        have := hap.1
        rw [e, g2] at this; simp at this
       ·exact ih hq _ hps hap.2
      ·simp at e2
    ·simp at hap
   ·rw [aI (x := a) fun s h => hs s (by simp [Cfg.seesI, h]), aI (x := v) fun s h => hs s (by simp [Cfg.seesI, h])] at g5
    rw [aI (x := a) fun s h => hs s (by simp [Cfg.seesI, h]), eP (xs := ps) fun s h => hs s (by simp only [Cfg.seesI, List.mem_append]; exact .inr h)] at hap
    exact e_ (by unfold mM; rw [if_pos hap]; exact g5 m2 hm) ⟨rfl, rfl, rfl⟩
  ·simp at h1
 | _ => simp [I.adr] at hp
theorem nW {x : Ins} {p : Opd} {j : Nat} {go : Go4} (hp : x.i.adr = some p) (h : One C base x j env tl mem nx go) : ∃ d,
  (go (putE x.dst d env) (putT x.dst d tl) mem nx ∧ ∀ env2 tl2 mem2 nx2 (go2 : Go4), (∀ s ∈ Cfg.sees x, look env s = look env2 s ∧ look tl s = look tl2 s) → go2 (putE x.dst d env2) (putT x.dst d tl2) mem2 nx2 → One C base x j env2 tl2 mem2 nx2 go2) ∨
  ∃ a k b b', go (putE x.dst d env) (putT x.dst d tl) (upd mem k b') nx ∧ ro tl env p = some a ∧ a.hd = some k ∧ look mem k = some b ∧ (∀ q ∈ x.i.tol, ∃ y, ro tl env q = some y ∧ y.hd ≠ some k) ∧
   ∀ env2 tl2 mem2 nx2 (go2 : Go4), (∀ s ∈ Cfg.sees x, look env s = look env2 s ∧ look tl s = look tl2 s) → look mem2 k = some b → go2 (putE x.dst d env2) (putT x.dst d tl2) (upd mem2 k b') nx2 → One C base x j env2 tl2 mem2 nx2 go2 := by
 obtain ⟨d, g, i⟩ := x
 cases g with
 | none =>
  obtain ⟨v, a, k, b, b', h1, h2, h3, h4, h5, h6⟩ := sP hp h
  rw [aK] at h4
  refine ⟨v, .inr ⟨a, k, b, b', h4, h1, h2, h3, h5, fun e t m n go2 hs hm hg => ?_⟩⟩
  refine bJ (h6 e t m n (fun s h => hs s (by simp [Cfg.sees, h])) hm) ?_
  rintro d' m' n' ⟨rfl, rfl, rfl⟩
  rw [aK]; exact hg
 | some q =>
  obtain ⟨g, want⟩ := q
  simp only [One, gd] at h
  split at h
  ·rename_i b0 hb
   obtain ⟨s1, s2⟩ := cQ hb
   by_cases hbw : b0 = want
   ·have h1 := h.1 hbw
    subst hbw
    rw [s1, s2] at h1
    obtain ⟨v, a, k, b, b', g1, g2, g3, g4, g5, g6⟩ := sP hp h1
    rw [aK] at g4
    refine ⟨v, .inr ⟨a, k, b, b', g4, g1, g2, g3, g5, fun e t m n go2 hs hm hg => ?_⟩⟩
    have hro2 : ro t e g = some (.pl (.bool b0)) := by rw [← aI (x := g) fun s h => hs s (by simp [Cfg.sees, h])]; exact hb
    obtain ⟨s3, s4⟩ := cQ hro2
    simp only [One, gd, hro2]
    refine ⟨fun _ => ?_, fun hn => by cases b0 <;> simp at hn⟩
    rw [s3, s4]
    refine bJ (g6 e t m n (fun s h => hs s (by simp [Cfg.sees, h])) hm) ?_
    rintro d' m' n' ⟨rfl, rfl, rfl⟩
    rw [aK]; exact hg
   ·have hbn : b0 = !want := by cases b0 <;> cases want <;> simp_all
    have h1 := h.2 hbn
    rw [← hbn, s1, s2, aK] at h1
    refine ⟨_, .inl ⟨h1, fun e t m n go2 hs hg => ?_⟩⟩
    have hro2 : ro t e g = some (.pl (.bool b0)) := by rw [← aI (x := g) fun s h => hs s (by simp [Cfg.sees, h])]; exact hb
    obtain ⟨s3, s4⟩ := cQ hro2
    simp only [One, gd, hro2]
    refine ⟨fun h => absurd h hbw, fun _ => ?_⟩
    rw [← hbn, s3, s4, aK]; exact hg
  ·rename_i vs hb
   rw [aK] at h
   refine ⟨_, .inl ⟨h, fun e t m n go2 hs hg => ?_⟩⟩
   have hro2 : ro t e g = some (.pl (.tuple vs)) := by rw [← aI (x := g) fun s h => hs s (by simp [Cfg.sees, h])]; exact hb
   simp only [One, gd, hro2]
   rw [aK]; exact hg
  ·exact h.elim
theorem uK {p q : Opd} (h : Cfg.sameO p q = true) : p = q := by
 cases p <;> cases q <;> simp_all [Cfg.sameO]
theorem qL {x y : Ins} {d : D} {p : Opd} (h : ∀ t ∈ Cfg.dstO x.dst, t ∉ Cfg.sees y) (hp : ∀ s ∈ Cfg.seesO p, s ∈ Cfg.sees y) : ro (putT x.dst d tl) (putE x.dst d env) p = ro tl env p :=
 aI fun s hs => ⟨lR fun e => h s (by simp [e, Cfg.dstO]) (hp s hs), jB fun e => h s (by simp [e, Cfg.dstO]) (hp s hs)⟩
theorem qD {i : I} {p : Opd} (h : p ∈ Cfg.lookO i) : ∀ s ∈ Cfg.seesO p, s ∈ Cfg.seesI i := by
 intro s hs
 cases i <;> simp_all [Cfg.lookO, Cfg.seesI]
theorem uG {i : I} {p : Opd} (h : p ∈ i.tol) : ∀ s ∈ Cfg.seesO p, s ∈ Cfg.seesI i := by
 intro s hs
 cases i <;> simp only [I.tol] at h <;> try simp at h
 simp only [Cfg.seesI, List.mem_append, List.mem_flatMap]
 exact .inr ⟨p, h, hs⟩
theorem wP {rm : List (Nat × Opd)} {x y : I} (h : Cfg.staI rm x y = true) : (∃ q, y.adr = some q) ∧ ((x.free = true ∧ Cfg.makesI x = false ∧ ∀ p ∈ Cfg.lookO x, Cfg.rootOf rm p ∈ y.tol) ∨ ∃ p, x.adr = some p ∧ Cfg.rootOf rm p ∈ y.tol) := by
 have key : ∀ {p : Opd} {ps : List Opd}, ps.any (Cfg.sameO p) = true → p ∈ ps := fun h => by
  obtain ⟨q, h1, h2⟩ := List.any_eq_true.1 h
  rw [uK h2]; exact h1
 cases y with
 | sta n a v ps =>
  refine ⟨⟨a, rfl⟩, ?_⟩
  cases x with
  | st _ b _ => exact .inr ⟨b, rfl, key h⟩
  | sta _ b _ _ => exact .inr ⟨b, rfl, key h⟩
  | _ =>
   left
   simp only [Cfg.staI, Bool.and_eq_true, Bool.not_eq_true', List.all_eq_true] at h
   exact ⟨h.1, h.2.1, fun p hp => key (h.2.2 p hp)⟩
 | _ => cases x <;> simp [Cfg.staI] at h
theorem wB {x y : I} (h : Cfg.clnI x y = true) : (∃ f xs, y = .cln f xs) ∧ x.free = true ∧ Cfg.makesI x = false := by
 cases y with
 | cln f xs =>
  simp only [Cfg.clnI, Bool.and_eq_true, Bool.not_eq_true'] at h
  exact ⟨⟨f, xs, rfl⟩, h.1, h.2⟩
 | _ => simp [Cfg.clnI] at h
theorem B_ {f : Opd} {xs : List Opd} {K : KD} (h : aP C id (.cln f xs) env tl mem nx K) : aP C id (.cln f xs) env tl mem nx (fun d m n => jM mem m ∧ K d m n) := by
 obtain ⟨g, caps, ys, h1, h2, h3⟩ := iC h
 show clK C.P _ _ _ _ _
 rw [h1, h2]; exact fX h3 fun d m n h => ⟨h.1, h⟩
theorem C_ {x : Ins} {f : Opd} {xs : List Opd} {j : Nat} {go : Go4} (hx : x.i = .cln f xs) (h : One C base x j env tl mem nx go) : One C base x j env tl mem nx (fun e t m n => jM mem m ∧ go e t m n) := by
 obtain ⟨d, g, i⟩ := x
 simp only at hx
 subst hx
 have key : ∀ {env tl : Env} , One C base ⟨d, none, .cln f xs⟩ j env tl mem nx go → One C base ⟨d, none, .cln f xs⟩ j env tl mem nx (fun e t m n => jM mem m ∧ go e t m n) := fun h => by
  refine bJ (id := base + j) (B_ (id := base + j) h) fun v m n h => ?_
  obtain ⟨h1, h2⟩ := h
  rw [aK] at h2 ⊢
  exact ⟨h1, h2⟩
 cases g with
 | none => exact key h
 | some q =>
  obtain ⟨g, want⟩ := q
  simp only [One, gd] at h ⊢
  split at h
  ·refine ⟨fun e => key (h.1 e), fun e => ?_⟩
   have := h.2 e
   rw [aK] at this ⊢
   exact ⟨fun _ _ h => h, this⟩
  ·rw [aK] at h ⊢
   exact ⟨fun _ _ h => h, h⟩
  ·exact h.elim
def gU (rm : List (Nat × Opd)) (env tl : Env) : Prop := ∀ e ∈ rm, ∀ d, look tl e.1 = some d → d.hd = none ∨ ∃ dr, ro tl env e.2 = some dr ∧ d.hd = dr.hd
theorem xX {rm : List (Nat × Opd)} : gU rm env [] := fun e _ d h => by simp [look] at h
theorem oB {rm : List (Nat × Opd)} (h : gU rm env tl) {p : Opd} {d : D} (hd : ro tl env p = some d) : d.hd = none ∨ ∃ dr, ro tl env (Cfg.rootOf rm p) = some dr ∧ d.hd = dr.hd := by
 cases p with
 | t k =>
  simp only [Cfg.rootOf]
  split
  ·rename_i e he
   have h1 := List.mem_of_find?_eq_some he
   have h2 := List.find?_some he
   simp only [beq_iff_eq] at h2
   exact h e h1 d (by rw [h2]; exact hd)
  ·exact .inr ⟨d, hd, rfl⟩
 | _ => exact .inr ⟨d, hd, rfl⟩
theorem wM {i : I} {p : Opd} {K : KD} (hp : Cfg.partO i = some p) (h : aP C id i env tl mem nx K) {K2 : KD} (hk : ∀ d m n, (∃ dp, ro tl env p = some dp ∧ d.hd = dp.hd) → K d m n → K2 d m n) : aP C id i env tl mem nx K2 := by
 cases i <;> simp only [Cfg.partO, Option.some.injEq] at hp <;> try simp at hp
 case mv x =>
  subst hp
  obtain ⟨d, h1, h2⟩ := fP h
  exact mB h1 (hk _ _ _ ⟨d, h1, rfl⟩ h2)
 case chk x =>
  subst hp
  obtain ⟨d, r, h1, h2, h3⟩ := bE h
  refine dL h1 h2 (hk _ _ _ ⟨d, h1, ?_⟩ h3)
  cases d <;> simp only [pS, Option.some.injEq] at h2 <;> try simp at h2
  all_goals subst h2; rfl
 case fa off x =>
  subst hp
  obtain ⟨d, r, h1, h2, h3⟩ := bE h
  refine dL h1 h2 (hk _ _ _ ⟨d, h1, ?_⟩ h3)
  cases d <;> simp only [faD, Option.some.injEq, Option.ite_none_right_eq_some] at h2 <;> try simp at h2
  ·obtain ⟨_, rfl⟩ := h2; rfl
  ·subst h2; rfl
  ·obtain ⟨_, rfl⟩ := h2; rfl
 case ia k x y =>
  subst hp
  obtain ⟨d, d2, r, h1, h2, h3, h4⟩ := eN h
  refine kC h1 h2 h3 (hk _ _ _ ⟨d, h1, ?_⟩ h4)
  unfold iaD at h3
  split at h3
  ·split at h3
   ·split at h3
    ·split at h3
     ·simp only [Option.some.injEq] at h3; subst h3; rfl
     ·simp at h3
    ·simp at h3
   ·simp at h3
  ·split at h3
   ·split at h3
    ·simp only [Option.some.injEq] at h3; subst h3; rfl
    ·simp at h3
   ·simp at h3
  ·simp at h3
 case iaa len k x y =>
  subst hp
  obtain ⟨d, d2, r, h1, h2, h3, h4⟩ := eN h
  refine kC h1 h2 h3 (hk _ _ _ ⟨d, h1, ?_⟩ h4)
  unfold mL at h3
  split at h3
  ·simp only [Option.ite_none_right_eq_some] at h3
   obtain ⟨_, h3⟩ := h3
   cases d <;> simp only [faD, Option.some.injEq, Option.ite_none_right_eq_some] at h3 <;> try simp at h3
   ·obtain ⟨_, rfl⟩ := h3; rfl
   ·subst h3; rfl
   ·obtain ⟨_, rfl⟩ := h3; rfl
  ·simp at h3
theorem C3 {x : Ins} {d : D} {r : Opd} (h : Cfg.writes x.dst r = false) : ro (putT x.dst d tl) (putE x.dst d env) r = ro tl env r := by
 obtain ⟨dst, g, i⟩ := x
 cases r with
 | t j => exact jB fun e => by simp only at e h; rw [e] at h; simp [Cfg.writes] at h
 | g j => exact lR fun e => by simp only at e h; rw [e] at h; simp [Cfg.writes] at h
 | _ => rfl
theorem eB {rm : List (Nat × Opd)} {x : Ins} {d : D} (hf : Cfg.rootFits rm x = true) (hr : gU rm env tl) (hd : d.hd = none ∨ Cfg.partO x.i = none ∨ ∃ p dp, Cfg.partO x.i = some p ∧ ro tl env p = some dp ∧ d.hd = dp.hd) :
  gU rm (putE x.dst d env) (putT x.dst d tl) := by
 simp only [Cfg.rootFits, Bool.and_eq_true, List.all_eq_true, Bool.not_eq_true'] at hf
 obtain ⟨hf1, hf2⟩ := hf
 intro e he d' hl
 have hw := hf1 e he
 rw [C3 hw]
 by_cases hx : x.dst = .t e.1
 ·rw [hx] at hf2 hl
  simp only [putT, look, if_true, Option.some.injEq] at hl
  subst hl
  simp only [List.all_eq_true, Bool.or_eq_true, bne_iff_ne] at hf2
  have h2 := (hf2 e he).resolve_left (by simp)
  rcases hd with hd | hd | ⟨p, dp, h3, h4, h5⟩
  ·exact .inl hd
  ·rw [hd] at h2; simp at h2
  ·rw [h3] at h2
   simp only at h2
   have h6 := uK h2
   rcases oB hr h4 with h7 | ⟨dr, h7, h8⟩
   ·exact .inl (by rw [h5, h7])
   ·exact .inr ⟨dr, by rw [← h6]; exact h7, by rw [h5, h8]⟩
 ·rw [jB hx] at hl
  exact hr e he d' hl
theorem lV {rm : List (Nat × Opd)} {x : Ins} {j : Nat} {go : Go4} (hf : Cfg.rootFits rm x = true) (hr : gU rm env tl) (h : One C base x j env tl mem nx go) :
  One C base x j env tl mem nx (fun e t m n => gU rm e t ∧ go e t m n) := by
 cases hp : Cfg.partO x.i with
 | none =>
  obtain ⟨d, g, i⟩ := x
  cases g with
  | none => exact bJ h fun v m n h => by rw [aK] at h ⊢; exact ⟨eB hf hr (.inr (.inl hp)), h⟩
  | some q =>
   obtain ⟨g, want⟩ := q
   simp only [One, gd] at h ⊢
   split at h
   ·rename_i b hb
    obtain ⟨s1, s2⟩ := cQ hb
    refine ⟨fun e => ?_, fun e => ?_⟩
    ·have := h.1 e
     subst e
     rw [s1, s2] at this ⊢
     exact bJ this fun v m n (h : dB _ _ _ _ v m n) => by rw [aK] at h ⊢; exact ⟨eB hf hr (.inr (.inl hp)), h⟩
    ·have := h.2 e
     rw [← e, s1, s2, aK] at this
     rw [← e, s1, s2, aK]
     exact ⟨eB hf hr (.inl rfl), this⟩
   ·rw [aK] at h ⊢; exact ⟨eB hf hr (.inl rfl), h⟩
   ·exact h.elim
 | some p =>
  obtain ⟨d, g, i⟩ := x
  cases g with
  | none => exact wM hp h fun v m n ⟨dp, h1, h2⟩ (h : dB _ _ _ _ v m n) => by rw [aK] at h ⊢; exact ⟨eB hf hr (.inr (.inr ⟨p, dp, hp, h1, h2⟩)), h⟩
  | some q =>
   obtain ⟨g, want⟩ := q
   simp only [One, gd] at h ⊢
   split at h
   ·rename_i b hb
    obtain ⟨s1, s2⟩ := cQ hb
    refine ⟨fun e => ?_, fun e => ?_⟩
    ·have := h.1 e
     subst e
     rw [s1, s2] at this ⊢
     exact wM hp this fun v m n ⟨dp, h1, h2⟩ (h : dB _ _ _ _ v m n) => by rw [aK] at h ⊢; exact ⟨eB hf hr (.inr (.inr ⟨p, dp, hp, h1, h2⟩)), h⟩
    ·have := h.2 e
     rw [← e, s1, s2, aK] at this
     rw [← e, s1, s2, aK]
     exact ⟨eB hf hr (.inl rfl), this⟩
   ·rw [aK] at h ⊢; exact ⟨eB hf hr (.inl rfl), h⟩
   ·exact h.elim
end
section
variable {C : Cfg} {w w' : World} {S S' : Nat → Prop} {φ φ' : aR} {a : Act} {env tl : Env} {mem : Mem} {nx id base : Nat} {is : List Ins} {oc oc' : Nat → Oc}
theorem jD {α β : Type} (h : Array β → α → β) : ∀ (l : List α) (acc : Array β), (l.foldl (fun acc o => acc.push (h acc o)) acc).size = acc.size + l.length ∧
  (∀ j, j < acc.size → (l.foldl (fun acc o => acc.push (h acc o)) acc)[j]? = acc[j]?) ∧
  ∀ i x, l[i]? = some x → (l.foldl (fun acc o => acc.push (h acc o)) acc)[acc.size + i]? = some (h ((l.take i).foldl (fun acc o => acc.push (h acc o)) acc) x)
 | [], acc => ⟨by simp, fun _ _ => rfl, fun i x h => by simp at h⟩
 | y :: l, acc => by
  obtain ⟨h1, h2, h3⟩ := jD h l (acc.push (h acc y))
  simp only [List.foldl_cons]
  refine ⟨by rw [h1]; simp; omega, fun j hj => ?_, fun i x hx => ?_⟩
  ·rw [h2 j (by simp; omega), Array.getElem?_push, if_neg (by omega)]
  ·cases i with
   | zero =>
    simp only [List.getElem?_cons_zero, Option.some.injEq] at hx; subst hx
    simp only [Nat.add_zero, List.take_zero, List.foldl_nil]
    rw [h2 acc.size (by simp)]
    simp
   | succ i =>
    simp only [List.getElem?_cons_succ] at hx
    have := h3 i x hx
    simp only [Array.size_push] at this
    rw [show acc.size + (i + 1) = acc.size + 1 + i by omega]
    simpa using this
def eK (acc : Array Nat) (o : Oper) : Nat := o.after.foldl (fun s e => if Region.binds .any e then s ||| 2 ^ e.on ||| acc.getD e.on 0 else s) 0
theorem rU (ops : Array Oper) : Region.before ops = ops.toList.foldl (fun acc o => acc.push (eK acc o)) #[] := by
 unfold Region.before
 rw [← Array.foldl_toList]; rfl
theorem nK (acc : Array Nat) (j : Nat) : ∀ (l : List Edge) (s : Nat), (l.foldl (fun s e => if Region.binds .any e then s ||| 2 ^ e.on ||| acc.getD e.on 0 else s) s).testBit j = true →
  s.testBit j = true ∨ ∃ e ∈ l, Region.binds .any e = true ∧ (e.on = j ∨ (acc.getD e.on 0).testBit j = true)
 | [], s, h => .inl h
 | e :: l, s, h => by
  simp only [List.foldl_cons] at h
  rcases nK acc j l _ h with h1 | ⟨e', h1, h2⟩
  ·split at h1
   ·rename_i hb
    simp only [Nat.testBit_or, Bool.or_eq_true] at h1
    rcases h1 with (h1 | h1) | h1
    ·exact .inl h1
    ·rw [Nat.testBit_two_pow] at h1
     exact .inr ⟨e, by simp, hb, .inl (by simpa using h1)⟩
    ·exact .inr ⟨e, by simp, hb, .inr h1⟩
   ·exact .inl h1
  ·exact .inr ⟨e', by simp [h1], h2⟩
theorem u3 {acc : Array Nat} {o : Oper} {j : Nat} (h : (eK acc o).testBit j = true) : ∃ e ∈ o.after.toList, Region.binds .any e = true ∧ (e.on = j ∨ (acc.getD e.on 0).testBit j = true) := by
 unfold eK at h
 rw [← Array.foldl_toList] at h
 rcases nK _ j _ _ h with h1 | h1
 ·simp at h1
 ·exact h1
theorem vP {ops : Array Oper} {i j : Nat} {o : Oper} (ho : ops[i]? = some o) (h : ((Region.before ops).getD i 0).testBit j = true) :
  ∃ e ∈ o.after.toList, Region.binds .any e = true ∧ (e.on = j ∨ (e.on < i ∧ ((Region.before ops).getD e.on 0).testBit j = true)) := by
 have ho' : ops.toList[i]? = some o := by simpa using ho
 obtain ⟨f1, f2, f3⟩ := jD eK ops.toList #[]
 have hi := f3 i o ho'
 simp only [Array.size_empty, Nat.zero_add] at hi
 rw [rU, Array.getD_eq_getD_getElem?, hi] at h
 simp only [Option.getD_some] at h
 obtain ⟨e, h1, h2, h3⟩ := u3 h
 refine ⟨e, h1, h2, ?_⟩
 rcases h3 with h3 | h3
 ·exact .inl h3
 ·right
  have hlen : i ≤ ops.toList.length := Nat.le_of_lt (List.getElem?_eq_some_iff.1 ho').1
  obtain ⟨k1, k2, k3⟩ := jD eK (ops.toList.take i) #[]
  have hsz : ((ops.toList.take i).foldl (fun acc o => acc.push (eK acc o)) #[]).size = i := by
   rw [k1, List.length_take]; simp only [Array.size_empty]; omega
  by_cases hlt : e.on < i
  ·refine ⟨hlt, ?_⟩
   have hsplit : ops.toList.foldl (fun acc o => acc.push (eK acc o)) #[] = (ops.toList.drop i).foldl (fun acc o => acc.push (eK acc o)) ((ops.toList.take i).foldl (fun acc o => acc.push (eK acc o)) #[]) := by
    rw [← List.foldl_append, List.take_append_drop]
   obtain ⟨_, m2, _⟩ := jD eK (ops.toList.drop i) ((ops.toList.take i).foldl (fun acc o => acc.push (eK acc o)) #[])
   rw [rU, Array.getD_eq_getD_getElem?, hsplit, m2 e.on (by rw [hsz]; exact hlt), ← Array.getD_eq_getD_getElem?]
   exact h3
  ·exfalso
   rw [Array.getD_eq_getD_getElem?, Array.getElem?_eq_none (by rw [hsz]; omega)] at h3
   simp at h3
def qF (ops : Array Oper) (listed : Array Bool) : Prop := ∀ i o, ops[i]? = some o → listed.getD i false = true → ∀ j, ((Region.before ops).getD i 0).testBit j = true → listed.getD j false = true
theorem nY {ops : Array Oper} {listed : Array Bool} {i j : Nat} {o : Oper} (ho : ops[i]? = some o) (hc : qF ops listed) (hr : o.after.all (fun e => !Region.binds .any e || listed.getD e.on false) = true) (h : ((Region.before ops).getD i 0).testBit j = true) : listed.getD j false = true := by
 obtain ⟨e, he, hb, hj⟩ := vP ho h
 have h1 := Array.all_eq_true_iff_forall_mem.1 hr e (by simpa using he)
 simp only [hb, Bool.not_true, Bool.false_or] at h1
 rcases hj with rfl | ⟨hlt, hj⟩
 ·exact h1
 ·have : e.on < ops.size := by have := (Array.getElem?_eq_some_iff.1 ho).1; omega
  exact hc e.on _ (Array.getElem?_eq_getElem this) h1 j hj
def unl (n : Nat) (listed : Array Bool) : Nat := ((List.range n).filter fun i => !listed.getD i true).length
theorem mZ {listed : Array Bool} {i j : Nat} (hi : i < listed.size) (d : Bool) : (listed.setIfInBounds i true).getD j d = if i = j then true else listed.getD j d := by
 simp only [Array.getD_eq_getD_getElem?, Array.getElem?_setIfInBounds]
 by_cases h : i = j
 ·subst h; simp [hi]
 ·simp [h]
theorem r8 {p q : Nat → Bool} : ∀ (l : List Nat) (i : Nat), i ∈ l → p i = true → q i = false → (∀ j, q j = true → p j = true) → (l.filter q).length < (l.filter p).length
 | [], i, h, _, _, _ => by simp at h
 | x :: l, i, h, hp, hq, hqp => by
  have hle : ∀ l : List Nat, (l.filter q).length ≤ (l.filter p).length := by
   intro l
   induction l with
   | nil => simp
   | cons y l ih =>
    simp only [List.filter_cons]
    by_cases h1 : q y = true
    ·simp [h1, hqp y h1]; exact ih
    ·by_cases h2 : p y = true <;> simp [h1, h2] <;> omega
  simp only [List.filter_cons]
  rcases List.mem_cons.1 h with rfl | h
  ·simp only [hp, hq, if_true, Bool.false_eq_true, if_false, List.length_cons]
   have := hle l; omega
  ·have ih := r8 l i h hp hq hqp
   by_cases h1 : q x = true
   ·simp [h1, hqp x h1]; exact ih
   ·by_cases h2 : p x = true <;> simp [h1, h2] <;> omega
theorem sX {ops : Array Oper} {listed : Array Bool} {i : Nat} (h : i ∈ Region.ready .any ops listed) : ∃ o, ops[i]? = some o ∧ i < ops.size ∧ listed.getD i true = false ∧ o.after.all (fun e => !Region.binds .any e || listed.getD e.on false) = true := by
 simp only [Region.ready, List.mem_filter, List.mem_range, Bool.and_eq_true, Bool.not_eq_true'] at h
 obtain ⟨h1, h2, h3⟩ := h
 refine ⟨ops[i], Array.getElem?_eq_getElem h1, h1, h2, ?_⟩
 simpa [Array.getElem?_eq_getElem h1] using h3
theorem w9 {ops : Array Oper} {listed : Array Bool} (hsz : listed.size = ops.size) (hedge : ∀ i o, ops[i]? = some o → ∀ e ∈ o.after.toList, Region.binds .any e = true → e.on < i) (h : Region.ready .any ops listed = []) : ∀ i, i < ops.size → listed.getD i false = true := by
 intro i
 induction i using Nat.strongRecOn with
 | _ i ih =>
  intro hi
  cases hl : listed.getD i false with
  | true => rfl
  | false =>
   exfalso
   have hl' : listed.getD i true = false := by
    rw [Array.getD_eq_getD_getElem?, Array.getElem?_eq_getElem (by omega)] at hl ⊢
    exact hl
   have : i ∈ Region.ready .any ops listed := by
    simp only [Region.ready, List.mem_filter, List.mem_range, Bool.and_eq_true, Bool.not_eq_true']
    refine ⟨hi, hl', ?_⟩
    rw [Array.getElem?_eq_getElem hi]
    simp only [Option.map_some, Option.getD_some]
    refine Array.all_eq_true_iff_forall_mem.2 fun e he => ?_
    cases hb : Region.binds .any e with
    | false => rfl
    | true =>
     simp only [Bool.not_true, Bool.false_or]
     have hlt := hedge i _ (Array.getElem?_eq_getElem hi) e (by simpa using he) hb
     exact ih e.on hlt (by omega)
   rw [h] at this
   simp at this
def runL (C : Cfg) (base : Nat) : List (Nat × Ins) → Go4 → Go4
 | [], K => K
 | (j, x) :: r, K => fun e t m n => One C base x j e t m n (runL C base r K)
theorem pQ {K : Go4} : ∀ (l r : List (Nat × Ins)), runL C base (l ++ r) K = runL C base l (runL C base r K)
 | [], r => rfl
 | (j, x) :: l, r => by simp only [List.cons_append, runL, pQ l r]
theorem lW {K : Go4} (h : Inv K) : ∀ (l : List (Nat × Ins)), Inv (runL C base l K)
 | [] => h
 | (j, x) :: l => wQ (lW h l)
theorem tO {K : Go4} : ∀ (l : List Ins) (j : Nat) (env tl : Env) (mem : Mem) (nx : Nat), run C base K l j env tl mem nx → runL C base ((l.zipIdx j).map fun p => (p.2, p.1)) K env tl mem nx
 | [], j, _, _, _, _, h => h
 | x :: l, j, env, tl, mem, nx, h => by
  rw [rM] at h
  simp only [List.zipIdx_cons, List.map_cons, runL]
  exact tP (fun e t m n h => tO l (j + 1) e t m n h) h
theorem uT {K K2 : Go4} (hk : ∀ e t m n, K e t m n → K2 e t m n) : ∀ (l : List Ins) (j : Nat) (env tl : Env) (mem : Mem) (nx : Nat), run C base K l j env tl mem nx → run C base K2 l j env tl mem nx
 | [], _, _, _, _, _, h => hk _ _ _ _ h
 | x :: l, j, env, tl, mem, nx, h => by
  rw [rM] at h ⊢
  exact tP (fun e t m n h => uT hk l (j + 1) e t m n h) h
theorem gP {i : I} (h : Cfg.quietI i = true) : i.free = true ∧ (∀ p : Opd, Cfg.lookO i = []) ∧ Cfg.makesI i = false := by
 simp only [Cfg.quietI, Bool.and_eq_true, Bool.not_eq_true'] at h
 refine ⟨h.1, fun _ => ?_, h.2.2⟩
 cases i <;> first | rfl | simp [Cfg.looksI] at h
theorem tC {x y : Ins} (h : Cfg.slotsApart x y = true) : (∀ d ∈ Cfg.dstO x.dst, d ∉ Cfg.dstO y.dst) ∧ (∀ d ∈ Cfg.dstO x.dst, d ∉ Cfg.sees y) ∧ (∀ d ∈ Cfg.dstO y.dst, d ∉ Cfg.sees x) := by
 simp only [Cfg.slotsApart, Bool.and_eq_true, List.all_eq_true] at h
 refine ⟨fun d hd => ?_, fun d hd => ?_, fun d hd => ?_⟩
 ·have := (h.1 d hd).1; simpa using this
 ·have := (h.1 d hd).2; simpa using this
 ·have := h.2 d hd; simpa using this
theorem dF {x y : Ins} {d : D} (h : ∀ t ∈ Cfg.dstO x.dst, t ∉ Cfg.sees y) (e t : Env) : ∀ s ∈ Cfg.sees y, look (putE x.dst d e) s = look e s ∧ look (putT x.dst d t) s = look t s := fun s hs =>
 ⟨lR fun e => h s (by simp [e, Cfg.dstO]) hs, jB fun e => h s (by simp [e, Cfg.dstO]) hs⟩
theorem C1 {ext : Mem} {i : Nat} (h : ext = [] ∨ ∃ b, ext = [(i, b)]) (hf : look mem i = none) : Sub mem (ext ++ mem) := fun k b hb => by
 rcases h with rfl | ⟨c, rfl⟩
 ·exact hb
 ·simp only [List.singleton_append, look]
  split
  ·rename_i e; subst e; rw [hf] at hb; simp at hb
  ·exact hb
theorem BO {e1 e2 : Mem} {i j : Nat} (h1 : e1 = [] ∨ ∃ b, e1 = [(i, b)]) (h2 : e2 = [] ∨ ∃ b, e2 = [(j, b)]) (hij : i ≠ j) (m : Mem) : Lk (e1 ++ (e2 ++ m)) (e2 ++ (e1 ++ m)) := by
 rcases h1 with rfl | ⟨b, rfl⟩
 ·exact Lk.refl _
 ·rcases h2 with rfl | ⟨c, rfl⟩
  ·exact Lk.refl _
  ·intro t
   simp only [List.singleton_append, look]
   by_cases e : i = t
   ·subst e; rw [if_pos rfl, if_neg (fun e => hij e.symm), if_pos rfl]
   ·rw [if_neg e, if_neg e]
theorem oW {x : Ins} {s : Nat} (h : s ∈ Cfg.seesI x.i) : s ∈ Cfg.sees x := by simp [Cfg.sees, h]
theorem swap {rm : List (Nat × Opd)} {x y : Ins} {i j : Nat} {go : Go4} (hij : i ≠ j) (hs : Cfg.swapI rm x y = true) (hrt : gU rm env tl) (hfr : Cfg.makesI y.i = true → look mem (base + j) = none)
  (hcl : ∀ p ∈ Cfg.lookO y.i, ∀ d, ro tl env p = some d → d.hd ≠ some (base + i)) (hg : Inv go)
  (h : One C base x i env tl mem nx (fun e t m n => One C base y j e t m n go)) : One C base y j env tl mem nx (fun e t m n => One C base x i e t m n go) := by
 simp only [Cfg.swapI, Bool.and_eq_true, Bool.or_eq_true] at hs
 obtain ⟨hsl, hs⟩ := hs
 obtain ⟨s1, s2, s3⟩ := tC hsl
 have s1' : ∀ d ∈ Cfg.dstO y.dst, d ∉ Cfg.dstO x.dst := fun d h1 h2 => s1 d h2 h1
 have back : ∀ (d : D), ∀ s ∈ Cfg.sees x, look env s = look (putE y.dst d env) s ∧ look tl s = look (putT y.dst d tl) s := fun d s hs' =>
  ⟨(dF (d := d) s3 env tl s hs').1.symm, (dF (d := d) s3 env tl s hs').2.symm⟩
 by_cases hsta : Cfg.staI rm x.i y.i = true
 ·obtain ⟨⟨q, hq⟩, hx⟩ := wP hsta
  rcases hx with ⟨hxf, hxm, hxl⟩ | ⟨p, hp, hpt⟩
  ·obtain ⟨ox, hx1, hx2, hx3⟩ := iE hxf h
   have he : ox.ext = [] := by
    rcases hx2 with e | ⟨_, e⟩
    ·exact e
    ·rw [hxm] at e; simp at e
   simp only [he, List.nil_append] at hx1 hx3
   obtain ⟨d, ⟨hy1, hy2⟩ | ⟨a, k, b, b', hy1, hy2, hy3, hy4, hy5, hy6⟩⟩ := nW hq hx1
   ·refine hy2 env tl mem nx _ (dF s2 env tl) (hx3 _ _ _ _ _ (back d) (fun _ _ _ _ => fun _ _ _ h => h) ?_)
    exact hg _ _ _ _ _ _ _ (dZ s1') (d8 s1') (Lk.refl _) hy1
   ·refine hy6 env tl mem nx _ (dF s2 env tl) hy4 (hx3 _ _ _ _ _ (back d) (fun p hp dd hd i hi bb hbb => ?_) ?_)
    ·obtain ⟨y', e1, e2⟩ := hy5 _ (hxl p hp)
     rw [qL s2 (fun s hs => oW (uG (hxl p hp) s hs))] at e1
     rcases oB hrt hd with h0 | ⟨dr, h1, h2⟩
     ·rw [h0] at hi; simp at hi
     ·rw [h1] at e1
      simp only [Option.some.injEq] at e1; subst e1
      rw [aT _ (fun e => e2 (by rw [← h2, hi, e]))]; exact hbb
    ·exact hg _ _ _ _ _ _ _ (dZ s1') (d8 s1') (Lk.refl _) hy1
  ·obtain ⟨dx, ⟨hx1, hx2⟩ | ⟨ax, kx, bx, bx', hx1, hx2, hx3, hx4, _, hx6⟩⟩ := nW hp h
   ·refine nM (dF s2 env tl) (Lk.refl mem) (fun d m m2 n hm hgo => hx2 _ _ _ _ _ (back d) ?_) hx1
    exact hg _ _ _ _ _ _ _ (dZ s1') (d8 s1') hm hgo
   ·obtain ⟨d, ⟨hy1, hy2⟩ | ⟨a, k, b, b', hy1, hy2, hy3, hy4, hy5, hy6⟩⟩ := nW hq hx1
    ·refine hy2 env tl mem nx _ (dF s2 env tl) (hx6 _ _ _ _ _ (back d) hx4 ?_)
     exact hg _ _ _ _ _ _ _ (dZ s1') (d8 s1') (Lk.refl _) hy1
    ·obtain ⟨y', e1, e2⟩ := hy5 _ hpt
     rw [qL s2 (fun s hs => oW (uG hpt s hs))] at e1
     have hne : k ≠ kx := by
      rcases oB hrt hx2 with h0 | ⟨dr, h1, h2⟩
      ·rw [hx3] at h0; simp at h0
      ·rw [h1] at e1
       simp only [Option.some.injEq] at e1; subst e1
       exact fun e => e2 (by rw [← h2, hx3, e])
     rw [aT _ hne] at hy4
     refine hy6 env tl mem nx _ (dF s2 env tl) hy4 (hx6 _ _ _ _ _ (back d) (by rw [aT _ (fun e => hne e.symm)]; exact hx4) ?_)
     exact hg _ _ _ _ _ _ _ (dZ s1') (d8 s1') (upd_comm (fun e => hne e.symm) mem) hy1
 by_cases hcln : Cfg.clnI x.i y.i = true
 ·obtain ⟨⟨f, xs, hy⟩, hxf, hxm⟩ := wB hcln
  obtain ⟨ox, hx1, hx2, hx3⟩ := iE hxf h
  have he : ox.ext = [] := by
   rcases hx2 with e | ⟨_, e⟩
   ·exact e
   ·rw [hxm] at e; simp at e
  simp only [he, List.nil_append] at hx1 hx3
  refine nM (dF s2 env tl) (Lk.refl mem) (fun d m m2 n hm hgo => ?_) (C_ hy hx1)
  obtain ⟨hk, hgo⟩ := hgo
  refine hx3 _ _ _ _ _ (back d) (fun p hp dd hd i hi b hb => ?_) ?_
  ·rw [← hm]; exact hk i b hb
  ·exact hg _ _ _ _ _ _ _ (dZ s1') (d8 s1') hm hgo
 by_cases hxf : x.i.free = true
 ·obtain ⟨ox, hx1, hx2, hx3⟩ := iE hxf h
  have hx2' : ox.ext = [] ∨ ∃ b, ox.ext = [(base + i, b)] := hx2.imp id (·.1)
  by_cases hyf : y.i.free = true
  ·obtain ⟨oy, hy1, hy2, hy3⟩ := iE hyf hx1
   have hy2' : oy.ext = [] ∨ ∃ b, oy.ext = [(base + j, b)] := hy2.imp id (·.1)
   refine hy3 env tl mem nx _ (dF s2 env tl) (fun p hp d hd i' hi b hb => ?_) ?_
   ·rw [qL s2 (fun s hs => oW (qD hp s hs))] at hd
    have hne := hcl p hp d hd
    rcases hx2' with e | ⟨_, e⟩
    ·rw [e] at hb; exact hb
    ·rw [e] at hb
     simp only [List.singleton_append, look] at hb
     rw [if_neg (fun e => hne (by rw [hi, e]))] at hb; exact hb
   ·refine hx3 _ _ _ _ _ (back oy.d) (fun _ _ _ _ => Sub.at ?_ _) ?_
    ·rcases hy2 with e | ⟨⟨b, e⟩, hm⟩
     ·rw [e]; exact fun _ _ h => h
     ·exact C1 (.inr ⟨b, e⟩) (hfr hm)
    ·exact hg _ _ _ _ _ _ _ (dZ s1') (d8 s1') (BO hy2' hx2' (by omega) mem) hy1
  ·have hxq : Cfg.quietI x.i = true := by
    rcases hs with (((⟨h1, _⟩ | h1) | ⟨_, h1⟩) | h1) | h1
    ·exact absurd (gP h1).1 hyf
    ·exact h1
    ·exact absurd h1 hyf
    ·exact absurd h1 hsta
    ·exact absurd h1 hcln
   obtain ⟨_, q2, q3⟩ := gP hxq
   have he : ox.ext = [] := by
    rcases hx2 with e | ⟨_, e⟩
    ·exact e
    ·rw [q3] at e; simp at e
   rw [he, List.nil_append] at hx1
   refine nM (dF s2 env tl) (Lk.refl mem) (fun d m m2 n hm hgo => ?_) hx1
   refine hx3 _ _ _ _ _ (back d) (fun p hp => by rw [q2 p] at hp; simp at hp) ?_
   rw [he, List.nil_append]
   exact hg _ _ _ _ _ _ _ (dZ s1') (d8 s1') hm hgo
 ·have hyq : Cfg.quietI y.i = true ∧ x.i.call = false := by
   rcases hs with (((⟨h1, h2⟩ | h1) | ⟨h1, _⟩) | h1) | h1
   ·exact ⟨h1, by simpa using h2⟩
   ·exact absurd (gP h1).1 hxf
   ·exact absurd h1 hxf
   ·exact absurd h1 hsta
   ·exact absurd h1 hcln
  obtain ⟨hyf, q2, q3⟩ := gP hyq.1
  obtain ⟨d, m, hx1, hx2⟩ := write_one' (by simpa using hxf) hyq.2 h
  obtain ⟨oy, hy1, hy2, hy3⟩ := iE hyf hx1
  have he : oy.ext = [] := by
   rcases hy2 with e | ⟨_, e⟩
   ·exact e
   ·rw [q3] at e; simp at e
  rw [he, List.nil_append] at hy1
  refine hy3 env tl mem nx _ (dF s2 env tl) (fun p hp => by rw [q2 p] at hp; simp at hp) ?_
  rw [he, List.nil_append]
  refine hx2 _ _ _ _ (back oy.d) (fun m2 hm => ?_)
  exact hg _ _ _ _ _ _ _ (dZ s1') (d8 s1') hm hy1
theorem zP {xs : List Ins} {i : I} : Cfg.makesI (Cfg.cutI xs i) = Cfg.makesI i := by cases i <;> rfl
theorem AY {xs : List Ins} {i : I} : Cfg.lookO (Cfg.cutI xs i) = Cfg.lookO i := by cases i <;> rfl
theorem A3 {xs : List Ins} {i : I} : Cfg.partO (Cfg.cutI xs i) = Cfg.partO i := by cases i <;> rfl
theorem tQ {x : Ins} {xs : List Ins} {y : Ins} : Cfg.cutL (x :: xs) y = Cfg.cutL [x] (Cfg.cutL xs y) := by
 obtain ⟨d, g, i⟩ := y
 cases i with
 | sta n a v ps =>
  simp only [Cfg.cutL, Cfg.cutI, List.filter_filter, List.all_cons, List.all_nil, Bool.and_true]
 | _ => rfl
theorem BU {rm : List (Nat × Opd)} {xs : List Ins} {y : Ins} (h : Cfg.rootFits rm y = true) : Cfg.rootFits rm (Cfg.cutL xs y) = true := by
 unfold Cfg.rootFits Cfg.cutL at *
 simp only [A3]
 exact h
theorem qQ {f : Opd → Bool} : ∀ (ps : List Opd) (ds : List D), ros tl env ps = some ds → ∃ ds', ros tl env (ps.filter f) = some ds' ∧ ∀ d ∈ ds', d ∈ ds
 | [], ds, h => ⟨ds, h, fun _ h => h⟩
 | p :: ps, ds, h => by
  unfold ros at h
  split at h
  ·rename_i d ds0 h1 h2
   simp only [Option.some.injEq] at h
   subst h
   obtain ⟨ds', g1, g2⟩ := qQ ps ds0 h2
   rw [List.filter_cons]
   split
   ·exact ⟨d :: ds', by unfold ros; rw [h1, g1], fun x hx => by
     rcases List.mem_cons.1 hx with rfl | hx
     ·simp
     ·exact List.mem_cons_of_mem _ (g2 x hx)⟩
   ·exact ⟨ds', g1, fun x hx => List.mem_cons_of_mem _ (g2 x hx)⟩
  ·simp at h
theorem tX {f : Opd → Bool} {o : Option D} {ps : List Opd} (h : iM o (ros tl env ps) = true) : iM o (ros tl env (ps.filter f)) = true := by
 cases o with
 | none => simp [iM] at h
 | some a =>
  cases hr : ros tl env ps with
  | none => rw [hr] at h; simp [iM] at h
  | some ds =>
   rw [hr] at h
   obtain ⟨ds', g1, g2⟩ := qQ (f := f) ps ds hr
   rw [g1]
   simp only [iM, List.all_eq_true] at h ⊢
   exact fun d hd => h d (g2 d hd)
theorem rG {xs : List Ins} {y : Ins} {j : Nat} {go : Go4} (h : One C base y j env tl mem nx go) : One C base (Cfg.cutL xs y) j env tl mem nx go := by
 obtain ⟨d, g, i0⟩ := y
 cases i0 with
 | sta n a v ps =>
  have key : ∀ {f : Opd → Bool} {env tl : Env} {K : KD}, aP C (base + j) (.sta n a v ps) env tl mem nx K → aP C (base + j) (.sta n a v (ps.filter f)) env tl mem nx K := by
   intro f env tl K h
   obtain ⟨d, m, h1, h2⟩ := cB h
   refine e_ (d := d) (m := m) ?_ h2
   unfold mM at h1 ⊢
   split at h1
   ·rename_i ha
    rw [if_pos (tX ha)]; exact h1
   ·simp at h1
  cases g with
  | none =>
   simp only [One, Cfg.cutL, Cfg.cutI] at h ⊢
   exact key h
  | some q =>
   obtain ⟨g, want⟩ := q
   simp only [One, gd, Cfg.cutL, Cfg.cutI] at h ⊢
   split at h
   ·exact ⟨fun e => key (h.1 e), h.2⟩
   ·exact h
   ·exact h.elim
 | _ => exact h
theorem yX {rm : List (Nat × Opd)} {x y : Ins} {A B : List Ins} (hAB : ∀ z ∈ A, z ∈ B) (hx : x ∈ A) (h : Cfg.swapI rm x (Cfg.cutL B y) = true) : Cfg.swapI rm x (Cfg.cutL A y) = true := by
 obtain ⟨d, g, i⟩ := y
 cases i with
 | sta n a v ps =>
  have hsub : ∀ p ∈ (ps.filter fun p => B.all fun x => (Cfg.dstO x.dst).all fun s => !(Cfg.seesO p).contains s), p ∈ (ps.filter fun p => A.all fun x => (Cfg.dstO x.dst).all fun s => !(Cfg.seesO p).contains s) := by
   intro p hp
   rw [List.mem_filter] at hp ⊢
   refine ⟨hp.1, ?_⟩
   rw [List.all_eq_true] at hp ⊢
   exact fun z hz => hp.2 z (hAB z hz)
  have hno : ∀ p ∈ (ps.filter fun p => A.all fun x => (Cfg.dstO x.dst).all fun s => !(Cfg.seesO p).contains s), ∀ s ∈ Cfg.dstO x.dst, s ∉ Cfg.seesO p := by
   intro p hp s hs
   rw [List.mem_filter, List.all_eq_true] at hp
   have := hp.2 x hx
   rw [List.all_eq_true] at this
   simpa using this s hs
  simp only [Cfg.swapI, Bool.and_eq_true] at h ⊢
  obtain ⟨h1, h2⟩ := h
  refine ⟨?_, ?_⟩
  ·simp only [Cfg.slotsApart, Bool.and_eq_true, List.all_eq_true, Bool.not_eq_true', Cfg.cutL, Cfg.cutI, Cfg.sees, Cfg.seesI] at h1 ⊢
   refine ⟨fun s hs => ?_, h1.2⟩
   obtain ⟨k1, k2⟩ := h1.1 s hs
   refine ⟨k1, ?_⟩
   have k3 : s ∉ _ := fun hm => by
    have := List.contains_iff_mem.2 hm
    rw [k2] at this
    exact Bool.noConfusion this
   rw [← Bool.not_eq_true]
   intro hm
   rw [List.contains_iff_mem] at hm
   apply k3
   rw [List.mem_append, List.mem_append] at hm ⊢
   rcases hm with hm | hm | hm
   ·exact .inl hm
   ·exact .inr (.inl hm)
   ·exfalso
    rw [List.mem_flatMap] at hm
    obtain ⟨p, hp, hsp⟩ := hm
    exact hno p hp s hs hsp
  ·have any_mono : ∀ {q : Opd → Bool}, (ps.filter fun p => B.all fun x => (Cfg.dstO x.dst).all fun s => !(Cfg.seesO p).contains s).any q = true → (ps.filter fun p => A.all fun x => (Cfg.dstO x.dst).all fun s => !(Cfg.seesO p).contains s).any q = true := by
    intro q hq
    rw [List.any_eq_true] at hq ⊢
    obtain ⟨p, hp, hpq⟩ := hq
    exact ⟨p, hsub p hp, hpq⟩
   have hst : Cfg.staI rm x.i (Cfg.cutI B (.sta n a v ps)) = true → Cfg.staI rm x.i (Cfg.cutI A (.sta n a v ps)) = true := by
    intro h
    cases hxi : x.i with
    | st _ b _ => rw [hxi] at h; exact any_mono h
    | sta _ b _ _ => rw [hxi] at h; exact any_mono h
    | _ =>
     rw [hxi] at h
     simp only [Cfg.cutI, Cfg.staI, Bool.and_eq_true, List.all_eq_true] at h ⊢
     exact ⟨h.1, h.2.1, fun p hp => any_mono (h.2.2 p hp)⟩
   have hq : ∀ L, Cfg.quietI (Cfg.cutI L (.sta n a v ps)) = false := fun _ => rfl
   have hf : ∀ L, (Cfg.cutI L (.sta n a v ps)).free = false := fun _ => rfl
   have hc : ∀ L, Cfg.clnI x.i (Cfg.cutI L (.sta n a v ps)) = false := fun _ => rfl
   simp only [Cfg.cutL, hq, hf, hc, Bool.false_and, Bool.and_false, Bool.false_or, Bool.or_false, Bool.or_eq_true] at h2 ⊢
   exact h2.imp id hst
 | _ => exact h
def pZ (rm : List (Nat × Opd)) (y : Ins) : List (Nat × Ins) → Prop
 | [] => True
 | (_, x) :: xs => Cfg.swapI rm x (Cfg.cutL (x :: xs.map (·.2)) y) = true ∧ pZ rm y xs
theorem pass {rm : List (Nat × Opd)} {y : Ins} {j : Nat} {go : Go4} (hg : Inv go) : ∀ (xs : List (Nat × Ins)) (env tl : Env) (mem : Mem) (nx : Nat), pZ rm y xs → (∀ p ∈ xs, p.1 ≠ j ∧ Cfg.rootFits rm p.2 = true) → gU rm env tl → (Cfg.makesI y.i = true → look mem (base + j) = none) →
  (∀ q ∈ Cfg.lookO y.i, ∀ d, ro tl env q = some d → ∀ p ∈ xs, d.hd ≠ some (base + p.1)) →
  runL C base xs (fun e t m n => One C base y j e t m n go) env tl mem nx → One C base (Cfg.cutL (xs.map (·.2)) y) j env tl mem nx (runL C base xs go)
 | [], _, _, _, _, _, _, _, _, _, h => rG h
 | (i, x) :: xs, env, tl, mem, nx, hpk, hs, hrt, hfr, hcl, h => by
  simp only [runL] at h
  obtain ⟨hsw, hpk⟩ := hpk
  obtain ⟨hij, hrf⟩ := hs (i, x) (by simp)
  have hs' : ∀ p ∈ xs, p.1 ≠ j ∧ Cfg.rootFits rm p.2 = true := fun p hp => hs p (by simp [hp])
  have hlk : Cfg.lookO (Cfg.cutL (x :: xs.map (·.2)) y).i = Cfg.lookO y.i := AY
  have hmk : Cfg.makesI (Cfg.cutL (x :: xs.map (·.2)) y).i = Cfg.makesI y.i := zP
  have hsl : ∀ d ∈ Cfg.dstO x.dst, d ∉ Cfg.sees (Cfg.cutL (x :: xs.map (·.2)) y) := by
   simp only [Cfg.swapI, Bool.and_eq_true] at hsw
   exact (tC hsw.1).2.1
  have hcl2 : ∀ (v : D), ∀ q ∈ Cfg.lookO y.i, ∀ d, ro (putT x.dst v tl) (putE x.dst v env) q = some d → ∀ p ∈ xs, d.hd ≠ some (base + p.1) := fun v q hq d hd p hp => by
   rw [qL hsl (fun s hs => oW (qD (by rw [hlk]; exact hq) s hs))] at hd
   exact hcl q hq d hd p (by simp [hp])
  have h2 : One C base x i env tl mem nx (fun e t m n => One C base (Cfg.cutL (x :: xs.map (·.2)) y) j e t m n (runL C base xs go)) := by
   by_cases hm : Cfg.makesI y.i = true
   ·have hxf : x.i.free = true := by
     simp only [Cfg.swapI, Bool.and_eq_true, Bool.or_eq_true] at hsw
     rcases hsw.2 with (((⟨h1, _⟩ | h1) | ⟨h1, _⟩) | h1) | h1
     ·have := (gP h1).2.2; rw [hmk, hm] at this; simp at this
     ·exact (gP h1).1
     ·exact h1
     ·obtain ⟨⟨q, hq⟩, _⟩ := wP h1
      rw [← hmk] at hm
      cases hy : (Cfg.cutL (x :: xs.map (·.2)) y).i <;> rw [hy] at hq hm <;> simp [I.adr] at hq <;> simp [Cfg.makesI] at hm
     ·exact (wB h1).2.1
    obtain ⟨ox, hx1, hx2, hx3⟩ := iE hxf (lV hrf hrt h)
    refine hx3 env tl mem nx _ (fun s _ => ⟨rfl, rfl⟩) (fun _ _ _ _ => fun _ _ _ h => h) ?_
    rw [tQ]
    refine rG (pass hg xs _ _ _ _ hpk hs' hx1.1 (fun _ => ?_) (hcl2 _) hx1.2)
    rcases hx2 with e | ⟨⟨b, e⟩, _⟩
    ·rw [e]; exact hfr hm
    ·rw [e]; simp only [List.singleton_append, look]; rw [if_neg (by omega)]; exact hfr hm
   ·refine nM (fun s _ => ⟨rfl, rfl⟩) (Lk.refl mem) (fun d m m2 n hmm h => ?_) (lV hrf hrt h)
    rw [tQ]
    exact rG (pass hg xs _ _ _ _ hpk hs' h.1 (fun h => absurd h hm) (hcl2 d) (lW (wQ hg) xs _ _ _ _ _ _ _ (Lk.refl _) (Lk.refl _) hmm h.2))
  exact swap hij hsw hrt (fun h => hfr (hmk ▸ h)) (fun p hp d hd => hcl p (hlk ▸ hp) d hd (i, x) (by simp)) (lW hg xs) h2
structure Okd (C : Cfg) (ops : Array Oper) (pi : List Nat) (bf : Nat → Nat → Bool) (is : List Ins) : Prop where
 edge : ∀ i o, ops[i]? = some o → ∀ e ∈ o.after.toList, Region.binds .any e = true → e.on < i
 fit : ∀ x ∈ is, (∀ p ∈ Cfg.lookO x.i, Cfg.fitO C.gs p = true) ∧ Cfg.rootFits (Cfg.roots is) x = true
 apart : ∀ i j x y, i < j → is[i]? = some x → is[j]? = some y → pi.getD i 0 ≠ pi.getD j 0 ∧ (bf j i = true ∨ Cfg.swapI (Cfg.roots is) x (Cfg.cutL ((is.take j).drop i) y) = true)
theorem zZ {ops : Array Oper} {pi : List Nat} {bf : Nat → Nat → Bool} (h : Cfg.drawOk C.gs ops pi bf is = true) : Okd C ops pi bf is := by
 simp only [Cfg.drawOk, Bool.and_eq_true, List.all_eq_true] at h
 obtain ⟨h1, h3, h2⟩ := h
 have mem_zip : ∀ {α : Type} (l : List α) (i : Nat) (x : α), l[i]? = some x → (x, i) ∈ l.zipIdx := by
  intro α l i x hx
  rw [List.mk_mem_zipIdx_iff_getElem?]; exact hx
 refine ⟨fun i o ho e he hb => ?_, fun x hx => by
  have := h3 x hx
  exact this, fun i j x y hij hx hy => ?_⟩
 ·have := h1 (o, i) (mem_zip _ _ _ (by simpa using ho)) e he
  simpa [hb] using this
 ·have := h2 (y, j) (mem_zip _ _ _ hy) (x, i) (mem_zip _ _ _ hx)
  simp only [hij, if_true, Bool.and_eq_true, bne_iff_ne, ne_eq, Bool.or_eq_true] at this
  exact this
theorem AJ {b : Nat → Bool} {c kp : Bool} {i j : Nat} {x : Ins} {is xs : List Ins} {go : Go4} (hns : Cfg.notSta x.i = true) (h : One C base (Cfg.cutL xs (Cfg.tellI b c kp is x j)) i env tl mem nx go) : One C base x i env tl mem nx go := by
 obtain ⟨d, g, i0⟩ := x
 have lift : ∀ {i1 : I} (_ : ∀ {env tl : Env} {K : KD}, aP C (base + i) i1 env tl mem nx K → aP C (base + i) i0 env tl mem nx K), One C base ⟨d, g, i1⟩ i env tl mem nx go → One C base ⟨d, g, i0⟩ i env tl mem nx go := by
  intro i1 key h
  cases g with
  | none =>
   simp only [One] at h ⊢
   exact key h
  | some q =>
   obtain ⟨g, want⟩ := q
   simp only [One, gd] at h ⊢
   split at h
   ·exact ⟨fun e => key (h.1 e), h.2⟩
   ·exact h
   ·exact h.elim
 cases i0 with
 | st n a v =>
  simp only [Cfg.tellI] at h
  split at h
  ·exact h
  ·rename_i ps _
   simp only [Cfg.cutL, Cfg.cutI] at h
   refine lift ?_ h
   intro env tl K h
   obtain ⟨d, m, h1, h2⟩ := cB h
   unfold mM at h1
   split at h1
   ·exact e_ h1 h2
   ·simp at h1
 | ld g n y =>
  simp only [Cfg.tellI] at h
  split at h
  ·simp only [Cfg.cutL, Cfg.cutI] at h
   refine lift ?_ h
   intro env tl K h
   obtain ⟨d, r, h1, h2, h3⟩ := bE h
   refine dL h1 ?_ h3
   cases d <;> simp only [ldpD] at h2 <;> first | exact h2 | simp at h2
  ·exact h
 | fa off y =>
  simp only [Cfg.tellI] at h
  split at h
  ·simp only [Cfg.cutL, Cfg.cutI] at h
   refine lift ?_ h
   intro env tl K h
   obtain ⟨d, r, h1, h2, h3⟩ := bE h
   refine dL h1 ?_ h3
   cases d <;> simp only [fapD] at h2 <;> first | exact h2 | simp at h2
  ·exact h
 | cl f ys =>
  simp only [Cfg.tellI] at h
  split at h
  ·simp only [Cfg.cutL, Cfg.cutI] at h
   refine lift ?_ h
   intro env tl K h
   obtain ⟨g, caps, zs, h1, h2, h3⟩ := iC h
   show clK C.P _ _ _ _ _
   rw [h1, h2]; exact fX h3 fun d m n h => h.2
  ·exact h
 | sta n a v ps => simp [Cfg.notSta] at hns
 | _ => exact h
theorem o_ {is : List Ins} {z : Ins} {p j i : Nat} (h : is[p]? = some z) (h1 : j ≤ p) (h2 : p < i) : z ∈ (is.take i).drop j := by
 refine List.mem_of_getElem? (i := p - j) ?_
 rw [List.getElem?_drop, List.getElem?_take_of_lt (by omega), show j + (p - j) = p by omega]
 exact h
theorem BN {bf : Nat → Nat → Bool} {late kp : Bool} {i : Nat} : ∃ c, (Cfg.tell bf late kp is)[i]? = (is[i]?).map fun y => Cfg.tellI (bf i) c kp is y i := by
 simp only [Cfg.tell, List.getElem?_map, List.getElem?_zipIdx]
 cases is[i]? with
 | none => exact ⟨false, rfl⟩
 | some y => exact ⟨_, by simp only [Option.map_some, Nat.zero_add]; rfl⟩
theorem iL {bf : Nat → Nat → Bool} {late kp : Bool} : (Cfg.tell bf late kp is).length = is.length := by simp [Cfg.tell]
theorem C7 {n i : Nat} {listed : Array Bool} (hi : i < n) (hsz : listed.size = n) (hl : listed.getD i true = false) : unl n (listed.setIfInBounds i true) < unl n listed := by
 unfold unl
 refine r8 _ i (by simpa using hi) (by simp [hl]) ?_ ?_
 ·rw [mZ (by omega)]; simp
 ·intro j hj
  rw [mZ (by omega)] at hj
  split at hj
  ·simp at hj
  ·exact hj
theorem BE {n i : Nat} {listed : Array Bool} (h : unl n listed ≤ 0) (hi : i < n) : listed.getD i true = true := by
 unfold unl at h
 have h0 : (List.range n).filter (fun i => !listed.getD i true) = [] := List.eq_nil_of_length_eq_zero (by omega)
 have := List.filter_eq_nil_iff.1 h0 i (by simpa using hi)
 simpa using this
theorem wR {listed : Array Bool} {i : Nat} (hi : i < listed.size) : listed.getD i true = listed.getD i false := by
 simp [Array.getD_eq_getD_getElem?, hi]
theorem xH {ops : Array Oper} {listed : Array Bool} {i : Nat} {o : Oper} (hsz : listed.size = ops.size) (ho : ops[i]? = some o) (hr : o.after.all (fun e => !Region.binds .any e || listed.getD e.on false) = true) (hc : qF ops listed) : qF ops (listed.setIfInBounds i true) := by
 have hi : i < ops.size := (Array.getElem?_eq_some_iff.1 ho).1
 intro j o' ho' hj m hm
 rw [mZ (by omega)] at hj ⊢
 split
 ·rfl
 ·rename_i him
  by_cases hij : i = j
  ·subst hij
   exact nY ho hc hr hm
  ·simp only [hij, if_false] at hj
   exact hc j o' ho' hj m hm
def cP (is : List Ins) (dn : Nat → Bool) (j n : Nat) : List (Nat × Ins) := (List.range' j n).filterMap fun i => if dn i then none else (is[i]?).map fun x => (i, x)
theorem tT : ∀ (l : List Ins) (is : List Ins) (j : Nat) (dn : Nat → Bool), (∀ i, is[j + i]? = l[i]?) → (∀ i, dn i = false) → cP is dn j l.length = (l.zipIdx j).map fun p => (p.2, p.1)
 | [], _, _, _, _, _ => rfl
 | x :: l, is, j, dn, h, hl => by
  have h0 := h 0
  simp only [Nat.add_zero, List.getElem?_cons_zero] at h0
  have ih := tT l is (j + 1) dn (fun i => by
   have := h (i + 1)
   rw [show j + (i + 1) = j + 1 + i by omega] at this
   simpa using this) hl
  unfold cP at ih ⊢
  simp only [hl, Bool.false_eq_true, if_false] at ih
  rw [List.length_cons, List.range'_succ, List.filterMap_cons]
  simp only [hl, h0, Option.map_some, Bool.false_eq_true, if_false, List.zipIdx_cons, List.map_cons]
  rw [ih]
theorem wY {dn : Nat → Bool} {i k : Nat} {x : Ins} (hi : i < k) (hl : dn i = false) (hx : is[i]? = some x) :
  cP is dn 0 k = cP is dn 0 i ++ (i, x) :: cP is dn (i + 1) (k - (i + 1)) := by
 unfold cP
 have e : List.range' 0 k = List.range' 0 i ++ i :: List.range' (i + 1) (k - (i + 1)) := by
  have e1 : i :: List.range' (i + 1) (k - (i + 1)) = List.range' i (k - i) := by
   rw [show k - i = (k - (i + 1)) + 1 by omega, List.range'_succ]
  rw [e1, show (List.range' i (k - i)) = List.range' (0 + 1 * i) (k - i) by simp, List.range'_append]
  congr 1; omega
 rw [e, List.filterMap_append, List.filterMap_cons]
 simp [hl, hx]
theorem lH {α β : Type} {f g : α → Option β} : ∀ {l : List α}, (∀ x ∈ l, f x = g x) → l.filterMap f = l.filterMap g
 | [], _ => rfl
 | x :: l, h => by rw [List.filterMap_cons, List.filterMap_cons, h x (by simp), lH fun y hy => h y (by simp [hy])]
theorem r7 {dn dn' : Nat → Bool} : ∀ (j n : Nat), (∀ m, j ≤ m → m < j + n → dn' m = dn m) → cP is dn' j n = cP is dn j n := by
 intro j n h
 unfold cP
 refine lH fun m hm => ?_
 rw [List.mem_range'_1] at hm
 rw [h m hm.1 hm.2]
theorem mP {dn : Nat → Bool} {j n : Nat} {p : Nat × Ins} (h : p ∈ cP is dn j n) : j ≤ p.1 ∧ p.1 < j + n ∧ dn p.1 = false ∧ is[p.1]? = some p.2 := by
 unfold cP at h
 rw [List.mem_filterMap] at h
 obtain ⟨i, hi, h⟩ := h
 rw [List.mem_range'_1] at hi
 split at h
 ·simp at h
 ·rename_i hl
  rw [Option.map_eq_some_iff] at h
  obtain ⟨x, hx, rfl⟩ := h
  exact ⟨hi.1, hi.2, by simpa using hl, hx⟩
theorem sH {rm : List (Nat × Opd)} {is : List Ins} {dn : Nat → Bool} {y : Ins} {i : Nat} (hap : ∀ p x, p < i → dn p = false → is[p]? = some x → Cfg.swapI rm x (Cfg.cutL ((is.take i).drop p) y) = true) : ∀ n j, j + n = i → pZ rm y (cP is dn j n)
 | 0, j, _ => trivial
 | n + 1, j, hj => by
  have ih := sH hap n (j + 1) (by omega)
  have hmem : ∀ q ∈ cP is dn (j + 1) n, j + 1 ≤ q.1 ∧ q.1 < i ∧ is[q.1]? = some q.2 := fun q hq => by
   obtain ⟨g1, g2, _, g4⟩ := mP hq
   exact ⟨g1, by omega, g4⟩
  have e : cP is dn j (n + 1) = (if dn j then [] else ((is[j]?).map fun x => (j, x)).toList) ++ cP is dn (j + 1) n := by
   unfold cP
   rw [List.range'_succ, List.filterMap_cons]
   cases hl : dn j with
   | true => simp
   | false => cases hx : is[j]? <;> simp
  rw [e]
  cases hl : dn j with
  | true => simpa using ih
  | false =>
   cases hx : is[j]? with
   | none => simpa using ih
   | some x =>
    show pZ rm y ((j, x) :: cP is dn (j + 1) n)
    refine ⟨yX (fun z hz => ?_) (by simp) (hap j x (by omega) hl hx), ih⟩
    rcases List.mem_cons.1 hz with rfl | hz
    ·exact o_ hx (Nat.le_refl _) (by omega)
    ·obtain ⟨q, hq, rfl⟩ := List.mem_map.1 hz
     obtain ⟨g1, g2, g3⟩ := hmem q hq
     exact o_ g3 (by omega) g2
structure Perm (C : Cfg) (ops : Array Oper) (pi : List Nat) (bf : Nat → Nat → Bool) (js : List Ins) : Prop where
 len : js.length = ops.size
 ins : ∀ p x, js[p]? = some x → ∃ o, ops[pi.getD p 0]? = some o ∧ C.ins ops o = some x
 inj : ∀ p q, p < ops.size → q < ops.size → pi.getD p 0 = pi.getD q 0 → p = q
 all : ∀ i, i < ops.size → ∃ p, p < ops.size ∧ pi.getD p 0 = i
 bef : ∀ p q, p < ops.size → q < ops.size → bf q p = true → ((Region.before ops).getD (pi.getD q 0) 0).testBit (pi.getD p 0) = true
def dI (pi : List Nat) (listed : Array Bool) : Nat → Bool := fun p => listed.getD (pi.getD p 0) false
theorem DO {B : Rx} {ops : Array Oper} {K : Go4} {S0 : Nat → Prop} {φ0 : aR} {mem0 : Mem} {w0 : World} {N : Nat} {pi : List Nat} {bf : Nat → Nat → Bool} {late kp : Bool} (hK : Inv K) (hN : N ≤ base) (hpi : Perm C ops pi bf is) (hns : ∀ x ∈ is, Cfg.notSta x.i = true) (hok : Okd C ops pi bf (Cfg.tell bf late kp is))
  {Q : Exit → Act → World → Prop} (hQ : ∀ env tl mem nx S φ a w, K env tl mem nx → oE C B S φ env tl mem nx a w → Ext S0 φ0 mem0 w0 S φ mem w → Grow N φ0 φ nx → Q .normal a w) :
  ∀ (fuel : Nat) (listed : Array Bool) (env tl : Env) (mem : Mem) (nx : Nat) (S : Nat → Prop) (φ : aR) (a : Act) (w : World),
  listed.size = ops.size → unl ops.size listed ≤ fuel → qF ops listed → runL C base (cP (Cfg.tell bf late kp is) (dI pi listed) 0 ops.size) K env tl mem nx → gU (Cfg.roots (Cfg.tell bf late kp is)) env tl → oE C B S φ env tl mem nx a w → Ext S0 φ0 mem0 w0 S φ mem w → Grow N φ0 φ nx →
  (∀ p, p < ops.size → dI pi listed p = false → φ (base + p) = none) → base + ops.size ≤ nx → wpAny C.P .any ops Q fuel listed a w := by
 intro fuel
 have hbd : ∀ p, p < ops.size → pi.getD p 0 < ops.size := fun p hp => by
  obtain ⟨x, hx⟩ : ∃ x, is[p]? = some x := ⟨_, List.getElem?_eq_getElem (by rw [hpi.len]; exact hp)⟩
  obtain ⟨o, ho, _⟩ := hpi.ins p x hx
  exact (Array.getElem?_eq_some_iff.1 ho).1
 have hend : ∀ (listed : Array Bool) (env tl : Env) (mem : Mem) (nx : Nat), listed.size = ops.size → Region.ready .any ops listed = [] → runL C base (cP (Cfg.tell bf late kp is) (dI pi listed) 0 ops.size) K env tl mem nx → K env tl mem nx := by
  intro listed env tl mem nx hsz hall hr
  have : cP (Cfg.tell bf late kp is) (dI pi listed) 0 ops.size = [] := by
   apply List.eq_nil_iff_forall_not_mem.2
   intro p hp
   obtain ⟨_, h2, h3, _⟩ := mP hp
   have := w9 hsz hok.edge hall (pi.getD p.1 0) (hbd _ (by omega))
   unfold dI at h3
   rw [h3] at this; simp at this
  rw [this] at hr; exact hr
 induction fuel with
 | zero =>
  intro listed env tl mem nx S φ a w hsz hun hcl hr hrt hh hx hgr hf hn
  have hall : Region.ready .any ops listed = [] := by
   cases h : Region.ready .any ops listed with
   | nil => rfl
   | cons i l =>
    obtain ⟨o, _, h1, h2, _⟩ := sX (ops := ops) (listed := listed) (i := i) (by rw [h]; simp)
    rw [BE hun h1] at h2; simp at h2
  exact ⟨hall, hQ _ _ _ _ _ _ _ _ (hend _ _ _ _ _ hsz hall hr) hh hx hgr⟩
 | succ fuel ih =>
  intro listed env tl mem nx S φ a w hsz hun hcl hr hrt hh hx hgr hf hn
  refine ⟨fun hall => hQ _ _ _ _ _ _ _ _ (hend _ _ _ _ _ hsz hall hr) hh hx hgr, fun i0 hi => ?_⟩
  obtain ⟨o, ho, h1, h2, h3⟩ := sX hi
  rw [wR (by omega)] at h2
  obtain ⟨i, hip, hpe⟩ := hpi.all i0 h1
  have hdn : dI pi listed i = false := by unfold dI; rw [hpe]; exact h2
  obtain ⟨x0, hx0⟩ : ∃ x, is[i]? = some x := ⟨_, List.getElem?_eq_getElem (by rw [hpi.len]; exact hip)⟩
  obtain ⟨x, c, hx', hxt⟩ : ∃ x c, (Cfg.tell bf late kp is)[i]? = some x ∧ x = Cfg.tellI (bf i) c kp is x0 i := by
   obtain ⟨c, h⟩ := BN (is := is) (bf := bf) (late := late) (kp := kp) (i := i)
   rw [hx0, Option.map_some] at h
   exact ⟨_, c, h, rfl⟩
  obtain ⟨o', ho', hins⟩ := hpi.ins i x0 hx0
  have : o' = o := by
   rw [hpe, ho] at ho'; exact (Option.some.inj ho').symm
  subst this
  rw [wY hip hdn hx', pQ] at hr
  simp only [runL] at hr
  have hfree := hf i hip hdn
  have hone := pass (lW hK _) _ _ _ _ _ (sH (y := x) (i := i) (rm := Cfg.roots (Cfg.tell bf late kp is)) (fun p z hlt g3 g4 => by
   refine (hok.apart p i z x hlt g4 hx').2.resolve_left fun hb => ?_
   have hb := hpi.bef p i (by omega) hip hb
   rw [hpe] at hb
   have := nY ho hcl h3 hb
   unfold dI at g3
   rw [g3] at this; simp at this) i 0 (by omega)) (fun p hp => by
   obtain ⟨_, g2, g3, g4⟩ := mP hp
   exact ⟨by omega, (hok.fit _ (List.mem_of_getElem? g4)).2⟩) hrt (fun _ => by
   cases hl : look mem (base + i) with
   | none => rfl
   | some b =>
    obtain ⟨l, g1, _⟩ := hh.m.mem _ _ hl
    rw [hfree] at g1; simp at g1) (fun q hq d hd p hp e => by
   obtain ⟨_, g2, g3, g4⟩ := mP hp
   have hp2 := hf p.1 (by omega) g3
   have hfit := (hok.fit x (List.mem_of_getElem? hx')).1 q hq
   have hrep : ∃ v, Rep w S φ d v := by
    cases q with
    | t s => exact ⟨_, hh.known.tl s d (by simpa [Cfg.fitO] using hfit) hd⟩
    | g s => exact ⟨_, hh.known.env s d (by simpa [Cfg.fitO] using hfit) hd⟩
    | c v => simp only [ro, Option.some.injEq] at hd; subst hd; simp [D.hd] at e
    | f v => simp only [ro, Option.some.injEq] at hd; subst hd; simp [D.hd] at e
   obtain ⟨v, hv⟩ := hrep
   cases d <;> simp only [D.hd, Option.some.injEq] at e <;> try simp at e
   all_goals
    subst e
    simp only [Rep] at hv
    obtain ⟨l, hl, _⟩ := hv
    rw [hp2] at hl; simp at hl) hr
  rw [← pQ] at hone
  have hone := lV (BU (hok.fit x (List.mem_of_getElem? hx')).2) hrt hone
  rw [hxt] at hone
  have hone := AJ (hns x0 (List.mem_of_getElem? hx0)) hone
  refine wpOp_mono ?_ (sS (k := i0) ho hins hone hh hfree (by omega))
  rintro a' w' ⟨S', φ', env', tl', mem', nx', g1, g2, g3, g4, g5, g6, _⟩
  have hdone : ∀ m, m < ops.size → dI pi (listed.setIfInBounds i0 true) m = if m = i then true else dI pi listed m := fun m hm => by
   unfold dI
   rw [mZ (by omega)]
   by_cases e : m = i
   ·subst e; rw [if_pos hpe.symm, if_pos rfl]
   ·rw [if_neg e, if_neg fun g => e (hpi.inj m i hm hip (by rw [hpe]; exact g.symm))]
  have hset : cP (Cfg.tell bf late kp is) (dI pi (listed.setIfInBounds i0 true)) 0 ops.size = cP (Cfg.tell bf late kp is) (dI pi listed) 0 i ++ cP (Cfg.tell bf late kp is) (dI pi listed) (i + 1) (ops.size - (i + 1)) := by
   have e : ∀ (L : Nat → Bool), cP (Cfg.tell bf late kp is) L 0 ops.size = cP (Cfg.tell bf late kp is) L 0 i ++ (cP (Cfg.tell bf late kp is) L i 1 ++ cP (Cfg.tell bf late kp is) L (i + 1) (ops.size - (i + 1))) := by
    intro L
    unfold cP
    rw [← List.filterMap_append, ← List.filterMap_append]
    congr 1
    rw [show List.range' i 1 ++ List.range' (i + 1) (ops.size - (i + 1)) = List.range' i (ops.size - i) by
     rw [show i + 1 = i + 1 * 1 by omega, List.range'_append]; congr 1; omega]
    rw [show (List.range' i (ops.size - i)) = List.range' (0 + 1 * i) (ops.size - i) by simp, List.range'_append]
    congr 1; omega
   rw [e, r7 (dn := dI pi listed) 0 i (fun m _ hm => by rw [hdone m (by omega), if_neg (by omega)]), r7 (dn := dI pi listed) (i + 1) _ (fun m hm hm2 => by rw [hdone m (by omega), if_neg (by omega)])]
   congr 1
   have : cP (Cfg.tell bf late kp is) (dI pi (listed.setIfInBounds i0 true)) i 1 = [] := by
    unfold cP
    simp [hdone i hip]
   rw [this, List.nil_append]
  refine ih (listed.setIfInBounds i0 true) env' tl' mem' nx' S' φ' a' w' (by simpa using hsz) (by have := C7 h1 hsz (by rw [wR (by omega)]; exact h2); omega) (xH hsz ho h3 hcl) (by rw [hset]; exact g1.2) g1.1 g2 (hx.trans g4)
   (hgr.trans ⟨by omega, fun i hi hnn => g6 i (by omega) (by omega) hnn, g3.loc⟩) (fun m hm hml => ?_) (by omega)
  rw [hdone m hm] at hml
  split at hml
  ·simp at hml
  ·exact g6 _ (by omega) (by omega) (hf m hm hml)
def qS (ops : Array Oper) : Prop := ∀ (i : Nat) (o : Oper), ops[i]? = some o → ∀ c, o.op ≠ Op.defer c
theorem uV {rd : Option Nat} {P : Program} {ops : Array Oper} {Q : Exit → Act → World → Prop} (hd : qS ops) (hq : ∀ a w, ¬ Q .outgrown a w) {i : Nat} {K K' : Act → World → Prop} (hK : ∀ a w, K a w → K' a w) {a : Act} {w : World} (h : wpOp P ops Q i K a w) : wpOpIn (FrR rd) 0 P ops Q i K' a w := by
 unfold wpOp at h
 unfold wpOpIn
 cases ho : ops[i]? with
 | none => simp only [ho] at h ⊢; exact hK _ _ h
 | some o =>
  simp only [ho] at h ⊢
  have hcalls : ∀ {f : FuncId} {args : Array Value} {w : World} {R : Ending → World → Prop}, Calls P f args w R → CallsIn (FrR rd) 0 P f args w R := fun {f args w R} h => by
   have h2 := (callsIn_wide (n := 0)).2 h
   exact ⟨trivial, fun cs hr => by
    obtain ⟨e, w', fr, k1, k2, k3⟩ := h2.2 cs (room_wide _)
    exact ⟨e, w', fr, k1, k2, k3⟩⟩
  split
  ·rename_i hw
   simp only [hw, if_true] at h
   rcases h with h | ⟨_, a0, w0, h0⟩
   ·refine ⟨fun _ _ => trivial, ?_⟩
    rw [Oper.semAt_eq _ _ _ (hd i o ho)]
    unfold Oper.wp at h
    generalize (execOp a.eval o).run P w = r at h
    cases r with
    | ok x w' =>
     cases x <;> simp only [Oper.upon] at h <;> simp only [Oper.uponIn]
     all_goals first
      | exact hK _ _ h
      | exact ⟨fun g => by simp [FrR] at g, hcalls (h.mono fun e w'' he => by cases e <;> first | exact hK _ _ he | exact he)⟩
      | exact ⟨fun g => by simp [FrR] at g, fun c cs _ => by
        obtain ⟨v, w2, k1, k2⟩ := h c cs
        exact ⟨v, w2, hK _ _ k1, stepsIn_wide.2 k2⟩⟩
      | exact h.elim
    | halt x w' => cases x <;> simp only [Oper.upon] at h <;> simp only [Oper.uponIn] <;> first | exact h | exact h.elim
   ·exact absurd h0 (hq _ _)
  ·rename_i hw
   simp only [hw] at h
   exact ⟨fun _ _ => trivial, hK _ _ h⟩
theorem sJ {rd : Option Nat} {P : Program} {ops : Array Oper} {Q : Exit → Act → World → Prop} (hd : qS ops) (hq : ∀ a w, ¬ Q .outgrown a w) : ∀ (l : List Nat) (a : Act) (w : World), wpOps P ops Q l a w → wpOpsIn (FrR rd) 0 P ops Q l a w
 | [], a, w, h => h
 | i :: l, a, w, h => by
  rw [wpOps_cons] at h
  rw [wpOpsIn_cons]
  exact uV hd hq (sJ hd hq l) h
theorem sD {rd : Option Nat} {P : Program} {ops : Array Oper} {md : Region.Mode} {Q : Exit → Act → World → Prop} (hd : qS ops) (hq : ∀ a w, ¬ Q .outgrown a w) : ∀ (fuel : Nat) (listed : Array Bool) (a : Act) (w : World), wpAny P md ops Q fuel listed a w → wpAnyIn (FrR rd) 0 P md ops Q fuel listed a w
 | 0, listed, a, w, h => h
 | fuel + 1, listed, a, w, h => ⟨h.1, fun i hi => uV hd hq (sD hd hq fuel _) (h.2 i hi)⟩
theorem uQ {ops : Array Oper} (his : ops.toList.mapM (C.ins ops) = some is) : qS ops := by
 intro i o ho c hc
 have hlen := eE his
 have hi : i < is.length := by
  rw [← hlen]
  simpa using (Array.getElem?_eq_some_iff.1 ho).1
 obtain ⟨o', ho', hins⟩ := hD his i is[i] (List.getElem?_eq_getElem hi)
 have e : ops.toList[i]? = some o := by simpa using ho
 rw [e] at ho'
 simp only [Option.some.injEq] at ho'
 subst ho'
 have := (wL hins).2.1
 rw [hc] at this
 simp [Cfg.op] at this
theorem xW {rd : Option Nat} {B : Rx} {rid : Nat} {ops : Array Oper} {K : Env → Env → Mem → Nat → Prop} {pi : List Nat} {bf : Nat → Nat → Bool} {late kp : Bool} (hmix : C.P.follows .mixedOrders = true) (hpi : Perm C ops pi bf is) (hnd : qS ops) (hns : ∀ x ∈ is, Cfg.notSta x.i = true) (hok : Cfg.drawOk C.gs ops pi bf (Cfg.tell bf late kp is) = true) (h : run C nx K (Cfg.tell bf late kp is) 0 env [] mem (nx + is.length))
  {N : Nat} (hN : N ≤ nx) (hh : oE C B S φ env [] mem (nx + is.length) a w) (hfree : ∀ i, i < is.length → φ (nx + i) = none) : (Code.region rid ops true).wpIn (FrR rd) 0 C.P (Post C B N S φ mem w (fun e s => e = .normal ∧ K s.env s.tl s.mem s.nx)) a w := by
 have hlen : is.length = ops.size := hpi.len
 have ho := zZ hok
 refine wpIn_region_any hmix (sD hnd (fun a w ⟨_, _, _, h, _⟩ => by simp at h) _ _ _ _ ?_)
 obtain ⟨m1, m2, m3⟩ := MSim.of_heap (w := w) (w1 := { w with drawn := w.drawn + 1 }) rfl rfl rfl rfl hh.m
 have hk1 : cV C { w with drawn := w.drawn + 1 } S φ env [] a := ⟨fun j d hj hl => Rep.mono m2 _ _ (hh.known.env j d hj hl), fun j d hj hl => Rep.mono m2 _ _ (hh.known.tl j d hj hl)⟩
 have hf0 : ∀ i, dI pi (Array.replicate ops.size false) i = false := by
  intro i
  unfold dI
  simp only [Array.getD_eq_getD_getElem?, Array.getElem?_replicate]
  split <;> rfl
 have hK : Inv (fun e t m n => ∃ e2 t2 m2, Lk e e2 ∧ Lk t t2 ∧ Lk m m2 ∧ K e2 t2 m2 n) := fun e t m n e2 t2 m2 he ht hm ⟨e3, t3, m3, h1, h2, h3, h4⟩ => ⟨e3, t3, m3, he.symm.trans h1, ht.symm.trans h2, hm.symm.trans h3, h4⟩
 have hr := tO (K := fun e t m n => ∃ e2 t2 m2, Lk e e2 ∧ Lk t t2 ∧ Lk m m2 ∧ K e2 t2 m2 n) (Cfg.tell bf late kp is) 0 env [] mem (nx + is.length) (uT (fun e t m n h => ⟨e, t, m, Lk.refl _, Lk.refl _, Lk.refl _, h⟩) (Cfg.tell bf late kp is) 0 _ _ _ _ h)
 rw [← tT (Cfg.tell bf late kp is) (Cfg.tell bf late kp is) 0 (dI pi (Array.replicate ops.size false)) (fun i => by simp) hf0, iL, hlen] at hr
 refine DO hK hN hpi hns ho (fun env tl mem nx S φ a w ⟨e2, t2, m2, h1, h2, h3, h4⟩ hh hx hg => ?_) ops.size (Array.replicate ops.size false) env [] mem (nx + ops.size) S φ a _ (by simp) ?_ ?_ hr xX ⟨hk1, hh.size, ⟨hh.defers.nd, hh.defers.marks, hh.defers.rd, hh.defers.tb⟩, by rw [← hlen]; exact m1⟩ m3 (Grow.refl (by omega)) (fun i hi _ => hfree i (by omega)) (Nat.le_refl _)
 ·unfold unl
  exact Nat.le_trans (List.length_filter_le _ _) (by simp)
 ·intro i o _ hi
  have : (Array.replicate ops.size false).getD i false = false := by
   simp only [Array.getD_eq_getD_getElem?, Array.getElem?_replicate]
   split <;> rfl
  rw [this] at hi; simp at hi
 ·exact ⟨⟨e2, t2, m2, nx⟩, S, φ, ⟨rfl, h4⟩, ⟨hh.size, hh.defers, fun j d hj hl => hh.known.env j d hj (by rw [h1]; exact hl), fun j d hj hl => hh.known.tl j d hj (by rw [h2]; exact hl), vZ h3 hh.m⟩,
   ⟨hx.sub, hx.keep, hx.size, fun b hb ⟨i, blk, l, g1, g2⟩ => hx.own b hb ⟨i, blk, l, by rw [h3]; exact g1, g2⟩, hx.news, hx.os, hx.output, hx.tape⟩, hg⟩
theorem gA {n p : Nat} (h : p < n) : (List.range n).getD p 0 = p := by simp [List.getD_eq_getElem?_getD, h]
theorem Perm.text {ops : Array Oper} (his : ops.toList.mapM (C.ins ops) = some is) : Perm C ops (List.range is.length) (fun q p => ((Region.before ops).getD q 0).testBit p) is := by
 have hlen : is.length = ops.size := by rw [← eE his]; simp
 rw [hlen]
 refine ⟨hlen, fun p x hx => ?_, fun p q hp hq h => ?_, fun i hi => ⟨i, hi, gA hi⟩, fun p q hp hq h => ?_⟩
 ·have hp : p < ops.size := by
   rw [← hlen]; exact (List.getElem?_eq_some_iff.1 hx).1
  obtain ⟨o, ho, hins⟩ := hD his p x hx
  rw [gA hp]
  exact ⟨o, by simpa using ho, hins⟩
 ·rwa [gA hp, gA hq] at h
 ·rw [gA hp, gA hq]; exact h
theorem q9 : ∀ (n : Nat) (f : Nat → Nat), (∀ p, p < n → f p < n) → (∀ p q, p < n → q < n → f p = f q → p = q) → ∀ i, i < n → ∃ p, p < n ∧ f p = i
 | 0, _, _, _, i, hi => absurd hi (by omega)
 | n + 1, f, hb, hinj, i, hi => by
  -- the last one's dN is filled by n
  let g : Nat → Nat := fun p => if f p = n then f n else f p
  have hg : ∀ p, p < n → g p < n := fun p hp => by
   have h1 := hb p (by omega)
   have h2 := hb n (by omega)
   by_cases e : f p = n
   ·have : f n ≠ n := fun h => by have := hinj p n (by omega) (by omega) (by omega); omega
    simp only [g, if_pos e]; omega
   ·simp only [g, if_neg e]; omega
  have hgi : ∀ p q, p < n → q < n → g p = g q → p = q := fun p q hp hq h => by
   by_cases e1 : f p = n <;> by_cases e2 : f q = n
   ·exact hinj p q (by omega) (by omega) (by omega)
   ·simp only [g, if_pos e1, if_neg e2] at h
    have := hinj n q (by omega) (by omega) h; omega
   ·simp only [g, if_neg e1, if_pos e2] at h
    have := hinj p n (by omega) (by omega) h; omega
   ·simp only [g, if_neg e1, if_neg e2] at h
    exact hinj p q (by omega) (by omega) h
  have ih := q9 n g hg hgi
  by_cases hin : i = n
  ·by_cases e : f n = n
   ·exact ⟨n, by omega, by omega⟩
   ·obtain ⟨p, hp, hgp⟩ := ih (f n) (by have := hb n (by omega); omega)
    by_cases e2 : f p = n
    ·exact ⟨p, by omega, by omega⟩
    ·simp only [g, if_neg e2] at hgp
     have := hinj p n (by omega) (by omega) hgp; omega
  ·obtain ⟨p, hp, hgp⟩ := ih i (by omega)
   by_cases e2 : f p = n
   ·simp only [g, if_pos e2] at hgp
    exact ⟨n, by omega, hgp⟩
   ·simp only [g, if_neg e2] at hgp
    exact ⟨p, by omega, hgp⟩
theorem Perm.of {ops : Array Oper} {pi : List Nat} {js : List Ins} (his : ops.toList.mapM (C.ins ops) = some is) (hjs : pi.mapM (is[·]?) = some js) (hl : is.length = pi.length) (hne : ∀ p q, p < q → q < pi.length → pi.getD p 0 ≠ pi.getD q 0) :
  Perm C ops pi (fun q p => ((Region.before ops).getD (pi.getD q 0) 0).testBit (pi.getD p 0)) js := by
 have hlen : is.length = ops.size := by rw [← eE his]; simp
 have hjl : js.length = ops.size := by rw [← eE hjs, ← hl, hlen]
 have hget : ∀ p x, js[p]? = some x → is[pi.getD p 0]? = some x := fun p x hx => by
  obtain ⟨i, hi, h⟩ := hD hjs p x hx
  rw [List.getD_eq_getElem?_getD, hi]; exact h
 have hb : ∀ p, p < ops.size → pi.getD p 0 < ops.size := fun p hp => by
  obtain ⟨x, hx⟩ : ∃ x, js[p]? = some x := ⟨_, List.getElem?_eq_getElem (by omega)⟩
  have := (List.getElem?_eq_some_iff.1 (hget p x hx)).1
  omega
 have hinj : ∀ p q, p < ops.size → q < ops.size → pi.getD p 0 = pi.getD q 0 → p = q := fun p q hp hq h => by
  rcases Nat.lt_trichotomy p q with h1 | h1 | h1
  ·exact absurd h (hne p q h1 (by omega))
  ·exact h1
  ·exact absurd h.symm (hne q p h1 (by omega))
 refine ⟨hjl, fun p x hx => ?_, hinj, q9 _ _ hb hinj, fun p q _ _ h => h⟩
 obtain ⟨o, ho, hins⟩ := hD his _ x (hget p x hx)
 exact ⟨o, by simpa using ho, hins⟩
theorem A5 {ops : Array Oper} {js : List Ins} (his : ops.toList.mapM (C.ins ops) = some is) (h : C.drawI ops is = some js) : ∃ pi bf late kp js0, js = Cfg.tell bf late kp js0 ∧ js0.length = is.length ∧ Perm C ops pi bf js0 ∧ Cfg.drawOk C.gs ops pi bf (Cfg.tell bf late kp js0) = true ∧ C.P.follows .mixedOrders = true ∧ ∀ x ∈ js0, Cfg.notSta x.i = true := by
 unfold Cfg.drawI at h
 simp only at h
 split at h
 ·rename_i hm
  simp only [Bool.and_eq_true, List.all_eq_true] at hm
  split at h
  ·rename_i hd
   simp only [Option.some.injEq] at h
   exact ⟨_, _, _, _, is, h.symm, rfl, Perm.text his, hd, hm.1, hm.2⟩
  ·split at h
   ·rename_i js0 hjs
    split at h
    ·rename_i hd
     simp only [Option.some.injEq] at h
     simp only [Bool.and_eq_true, beq_iff_eq] at hd
     have hl : js0.length = is.length := by rw [← eE hjs]; exact hd.1.symm
     refine ⟨_, _, _, _, js0, h.symm, hl, Perm.of his hjs hd.1 (fun p q hpq hq => ?_), hd.2, hm.1, fun x hx => ?_⟩
     ·have ho := zZ hd.2
      have hpl : p < js0.length := by omega
      have hql : q < js0.length := by omega
      exact (ho.apart p q _ _ hpq (List.getElem?_eq_getElem (by rw [iL]; exact hpl)) (List.getElem?_eq_getElem (by rw [iL]; exact hql))).1
     ·obtain ⟨i, hi⟩ := List.getElem?_of_mem hx
      obtain ⟨k, hk, h2⟩ := hD hjs i x hi
      exact hm.2 x (List.mem_of_getElem? h2)
    ·simp at h
   ·simp at h
 ·simp at h
end
section
variable {C : Cfg} {Q : Exit → St → Prop} {env tl : Env} {mem : Mem} {nx : Nat}
theorem pV {id : Nat} {ops : Array Oper} {draw : Bool} {is : List Ins} {K : Env → Env → Mem → Nat → Prop} (hc : C.comp (.region id ops draw) = some (.reg is)) (h : run C nx K is 0 env [] mem (nx + is.length)) :
  T C (.region id ops draw) (fun e s => e = .normal ∧ K s.env s.tl s.mem s.nx) ⟨env, tl, mem, nx⟩ := by
 simp only [Cfg.comp, Option.bind_eq_bind, Option.bind_eq_some_iff] at hc
 obtain ⟨is', his, hc⟩ := hc
 intro x N S φ a w hN hB hs
 have hN : N ≤ nx := hN
 have hlen := eE his
 have hh : oE C x S φ env [] mem (nx + is'.length) a w := ⟨⟨hs.env, fun j d _ h => by simp [look] at h⟩, hs.size, hs.defers, ⟨hs.m.mem, hs.m.inj, hs.m.lt, fun i hi => hs.m.fresh i (Nat.le_trans (Nat.le_add_right _ _) hi), hs.m.sub⟩⟩
 cases draw with
 | false =>
  simp only [Bool.false_eq_true, if_false, Option.some.injEq, AC.reg.injEq] at hc; subst hc
  refine wpIn_region (sJ (uQ his) (fun a w ⟨_, _, _, h, _⟩ => by simp at h) _ _ _ ?_)
  rw [List.range_eq_range', ← Array.length_toList]
  exact tE hN ops.toList is' 0 env [] mem (nx + is'.length) S φ a w (fun i => by simp) his h hh (fun i _ _ => hs.m.fresh _ (Nat.le_add_right _ _)) (by omega)
 | true =>
  simp only [if_true] at hc
  split at hc
  ·rename_i js hd
   simp only [Option.some.injEq, AC.reg.injEq] at hc; subst hc
   obtain ⟨pi, bf, late, kp, js0, rfl, hl, hp, hok, hmix, hns⟩ := A5 his hd
   rw [iL] at h
   rw [← hl] at hh
   exact xW hmix hp (uQ his) hns hok h hN hh (fun i hi => hs.m.fresh _ (Nat.le_add_right _ _))
  ·simp at hc
theorem cD : Wk C ⟨env, tl, mem, nx⟩ ⟨env, [], mem, nx⟩ := fun B N S φ a w hn hs =>
 ⟨S, φ, ⟨hs.size, hs.defers, hs.env, fun j d _ h => by simp [look] at h, hs.m⟩, Ext.refl .., Grow.refl hn⟩
theorem y_ {c : Operand} {y : Opd} {x1 x2 : Code} {p q : Env → Mem → Nat → Prop} (hc : C.opd c = some y) (h : ifK y p q env tl mem nx) (hp : p env mem nx → T C x1 Q ⟨env, [], mem, nx⟩) (hq : q env mem nx → T C x2 Q ⟨env, [], mem, nx⟩) :
  T C (.cond c x1 x2) Q ⟨env, tl, mem, nx⟩ := by
 intro x N S φ a w hn hB hs
 unfold ifK ifb at h
 split at h
 ·rename_i b hro
  have hb := aM ⟨hs.env, hs.tl⟩ hc hro
  simp only [Rep] at hb
  refine wpIn_cond hb ?_
  cases b with
  | true => exact cZ cD (hp (h.1 rfl)) x N S φ a w hn hB hs
  | false => exact cZ cD (hq (h.2 rfl)) x N S φ a w hn hB hs
 ·exact h.elim
theorem tW {x : Code} {K : Env → Env → Mem → Nat → Prop} {s : St} {next : Code} (h : T C x (fun e s => e = .normal ∧ K s.env s.tl s.mem s.nx) s) (hn : ∀ env tl mem nx, K env tl mem nx → T C next Q ⟨env, tl, mem, nx⟩) : T C (.seq x next) Q s := by
 refine T_seq (rA ?_ h)
 rintro e s ⟨rfl, hk⟩
 exact hn _ _ _ _ hk
theorem yY {c : Code} {s : St} (h : T C c (fun e s => ∃ s', Wk C s s' ∧ Q e s') s) : T C c Q s := by
 intro x N S φ a w hn hB hs
 refine wpIn_mono (h x N S φ a w hn hB hs) ?_
 rintro e a' w' ⟨s1, S1, φ1, ⟨s2, hw, hq⟩, h1, h2, g1⟩
 obtain ⟨S2, φ2, h3, h4, g2⟩ := hw x N S1 φ1 a' w' g1.le h1
 exact ⟨s2, S2, φ2, hq, h3, h2.trans h4, g1.trans g2⟩
def A' (C : Cfg) : AC → (Exit → St → Prop) → Env → Env → Mem → Nat → Prop
 | .cond y p q, Q, env, tl, mem, nx => ifK y (A C p Q) (A C q Q) env tl mem nx
 | .seq (.cond y p q) z, Q, env, tl, mem, nx => ifK y (A C p (eH (fun s => A C z Q s.env s.mem s.nx) Q)) (A C q (eH (fun s => A C z Q s.env s.mem s.nx) Q)) env tl mem nx
 | ac, Q, env, _, mem, nx => A C ac Q env mem nx
theorem A'_of_A {ac : AC} (h : A C ac Q env mem nx) : A' C ac Q env [] mem nx := by
 unfold A'
 split <;> exact h
theorem uP {x : Code} {is : List Ins} (h : C.comp x = some (.reg is)) : ∃ id ops draw, x = .region id ops draw := by
 cases x with
 | region id ops draw => exact ⟨id, ops, draw, rfl⟩
 | seq p q =>
  simp only [Cfg.comp, Option.bind_eq_bind, Option.bind_eq_some_iff] at h
  obtain ⟨a, _, b, _, h⟩ := h
  split at h <;> simp at h
 | _ => simp [Cfg.comp, Option.bind_eq_some_iff] at h
theorem wW {x y : Code} {ac : AC} (h : C.comp (.seq x y) = some ac) : ∃ a b, C.comp x = some a ∧ C.comp y = some b ∧
  ((∃ is c p q, a = .reg is ∧ b = .cond c p q ∧ ac = .ifr is c p q) ∨ (∃ is c p q z, a = .reg is ∧ b = .seq (.cond c p q) z ∧ ac = .seq (.ifr is c p q) z) ∨ ac = .seq a b) := by
 simp only [Cfg.comp, Option.bind_eq_bind, Option.bind_eq_some_iff] at h
 obtain ⟨a, ha, b, hb, h⟩ := h
 refine ⟨a, b, ha, hb, ?_⟩
 split at h
 ·simp only [Option.some.injEq] at h
  exact .inl ⟨_, _, _, _, rfl, rfl, h.symm⟩
 ·simp only [Option.some.injEq] at h
  exact .inr (.inl ⟨_, _, _, _, _, rfl, rfl, h.symm⟩)
 ·simp only [Option.some.injEq] at h
  exact .inr (.inr h.symm)
theorem A'_sound : ∀ (c : Code) (ac : AC), C.comp c = some ac → ∀ (Q : Exit → St → Prop) (env tl : Env) (mem : Mem) (nx : Nat), A' C ac Q env tl mem nx → T C c Q ⟨env, tl, mem, nx⟩ := by
 intro c
 induction c with
 | skip => intro ac h Q env tl mem nx hA; simp only [Cfg.comp, Option.some.injEq] at h; subst h; exact cZ cD (T_skip hA)
 | region id ops draw =>
  intro ac h Q env tl mem nx hA
  have h0 := h
  simp only [Cfg.comp, Option.bind_eq_bind, Option.bind_eq_some_iff] at h
  obtain ⟨is, his, h⟩ := h
  obtain ⟨is0, rfl⟩ : ∃ is0, ac = .reg is0 := by
   split at h
   ·split at h
    ·simp only [Option.some.injEq] at h; exact ⟨_, h.symm⟩
    ·simp at h
   ·simp only [Option.some.injEq] at h; exact ⟨_, h.symm⟩
  refine yY (rA ?_ (pV (tl := tl) h0 hA))
  rintro e ⟨env', tl', mem', nx'⟩ ⟨rfl, hk⟩
  exact ⟨_, cD, hk⟩
 | seq x y ihx ihy =>
  intro ac h Q env tl mem nx hA
  obtain ⟨a, b, ha, hb, h | h | h⟩ := wW h
  ·obtain ⟨is, c, p, q, rfl, rfl, rfl⟩ := h
   obtain ⟨id, ops, draw, rfl⟩ := uP ha
   exact tW (pV (tl := tl) ha hA) fun env' tl' mem' nx' hk => ihy _ hb Q env' tl' mem' nx' hk
  ·obtain ⟨is, c, p, q, z, rfl, rfl, rfl⟩ := h
   obtain ⟨id, ops, draw, rfl⟩ := uP ha
   exact tW (pV (tl := tl) ha hA) fun env' tl' mem' nx' hk => ihy _ hb Q env' tl' mem' nx' hk
  ·subst h
   refine T_seq ?_
   have hQ : ∀ e s, eH (fun s => A C b Q s.env s.mem s.nx) Q e s → ∃ s', Wk C s s' ∧ eH (T C y Q) Q e s' := by
    intro e s hq
    cases e with
    | normal =>
     obtain ⟨env', tl', mem', nx'⟩ := s
     exact ⟨_, cD, ihy b hb Q env' [] mem' nx' (A'_of_A hq)⟩
    | _ => exact ⟨s, Wk.refl, hq⟩
   refine yY (rA hQ ?_)
   cases a with
   | cond y' p q => exact ihx _ ha _ env tl mem nx hA
   | _ => exact cZ cD (ihx _ ha _ env [] mem nx (A'_of_A hA))
 | cond c x y ihx ihy =>
  intro ac h Q env tl mem nx hA
  simp only [Cfg.comp, Option.bind_eq_bind, Option.bind_eq_some_iff, Option.some.injEq] at h
  obtain ⟨o, ho, a1, h1, a2, h2, rfl⟩ := h
  exact y_ ho hA (fun h => ihx a1 h1 Q env [] mem nx (A'_of_A h)) (fun h => ihy a2 h2 Q env [] mem nx (A'_of_A h))
 | block id x ih =>
  intro ac h Q env tl mem nx hA
  simp only [Cfg.comp, Option.bind_eq_bind, Option.bind_eq_some_iff, Option.some.injEq] at h
  obtain ⟨a1, h1, rfl⟩ := h
  exact cZ cD (DT (ih a1 h1 _ env [] mem nx (A'_of_A hA)))
 | loop x ih =>
  intro ac h Q env tl mem nx hA
  have h0 := h
  simp only [Cfg.comp, Option.bind_eq_bind, Option.bind_eq_some_iff, Option.some.injEq] at h
  obtain ⟨a1, h1, rfl⟩ := h
  exact cZ cD (hA _ h0)
 | rangeFunc f ps a b iha ihb =>
  intro ac h Q env tl mem nx hA
  have h0 := h
  simp only [Cfg.comp, Option.bind_eq_bind, Option.bind_eq_some_iff] at h
  obtain ⟨g, hg, a1, h1, a2, h2, h⟩ := h
  simp only [Option.some.injEq] at h
  subst h
  exact cZ cD (hA _ h0)
 | exit id => intro ac h Q env tl mem nx hA; simp only [Cfg.comp, Option.some.injEq] at h; subst h; exact cZ cD (T_exit hA)
 | scope x ih =>
  intro ac h Q env tl mem nx hA
  have h0 := h
  simp only [Cfg.comp, Option.bind_eq_bind, Option.bind_eq_some_iff, Option.some.injEq] at h
  obtain ⟨a1, h1, rfl⟩ := h
  exact cZ cD (hA _ h0)
 | label l => intro ac h Q env tl mem nx hA; simp only [Cfg.comp, Option.some.injEq] at h; subst h; exact cZ cD (CV hA)
 | goto l => intro ac h Q env tl mem nx hA; simp only [Cfg.comp, Option.some.injEq] at h; subst h; exact cZ cD (T_goto hA)
 | ret => intro ac h Q env tl mem nx hA; simp only [Cfg.comp, Option.some.injEq] at h; subst h; exact cZ cD (T_ret hA)
 | refuse w => intro ac h; simp [Cfg.comp] at h
theorem rN {c : Code} {ac : AC} (h : C.comp c = some ac) (hA : A C ac Q env mem nx) : T C c Q ⟨env, [], mem, nx⟩ := A'_sound c ac h Q env [] mem nx (A'_of_A hA)
theorem D5 {ac : AC} (h : A C ac Q env mem nx) : TA C ac Q ⟨env, [], mem, nx⟩ := fun _ hc => rN hc h
theorem nD {ac : AC} {s s' : St} (h : Wk C s s') (k : TA C ac Q s') : TA C ac Q s := fun c hc => cZ h (k c hc)
theorem EE {ac : AC} {Q' : Exit → St → Prop} {s : St} (hq : ∀ e s, Q e s → Q' e s) (h : TA C ac Q s) : TA C ac Q' s := fun c hc => rA hq (h c hc)
theorem C2 {α : Type} {x : AC} (st : α → St) (inv : α → Prop) (μ : α → Nat)
  (round : ∀ y, inv y → TA C x (eH (fun s' => ∃ z, inv z ∧ μ z < μ y ∧ Wk C s' (st z)) Q) (st y)) (x0 : α) (h0 : inv x0) : TA C (.loop x) Q (st x0) := by
 intro c hc
 cases c with
 | loop y =>
  simp only [Cfg.comp, Option.bind_eq_bind, Option.bind_eq_some_iff, Option.some.injEq, AC.loop.injEq] at hc
  obtain ⟨a1, h1, rfl⟩ := hc
  exact T_loop st inv μ (fun y' hy => round y' hy _ h1) x0 h0
 | seq p q =>
  obtain ⟨a, b, _, _, h | h | h⟩ := wW hc
  ·obtain ⟨is, c, p, q, _, _, e⟩ := h; simp at e
  ·obtain ⟨is, c, p, q, z, _, _, e⟩ := h; simp at e
  ·simp at h
 | region id ops draw =>
  simp only [Cfg.comp, Option.bind_eq_bind, Option.bind_eq_some_iff] at hc
  obtain ⟨is, _, h⟩ := hc
  split at h
  ·split at h <;> simp at h
  ·simp at h
 | _ => simp [Cfg.comp, Option.bind_eq_some_iff] at hc
end
inductive RV where
 | t (j : Nat)
 | c (j : Nat) (g : Bool) (n : Nat)
def Cfg.rv (C : Cfg) : ResultVar → Option RV
 | .tmp t => if C.gs.contains t then some (.t t) else none
 | .cell t ty => if C.gs.contains t then (match Program.tsz C.P ty with
  | some (g, n) => some (.c t g n)
  | none => none) else none
def resV (env : Env) (mem : Mem) : RV → Option D
 | .t j => look env j
 | .c j g n => match look env j with
  | some x => ldD mem g n x
  | none => none
def iY (env : Env) (mem : Mem) : List RV → Option (List D)
 | [] => some []
 | r :: rs => match resV env mem r, iY env mem rs with
  | some d, some ds => some (d :: ds)
  | _, _ => none
mutual
/-- What is handed back: owned blocks are only read from then on. -/
def frz (mem : Mem) : Nat → D → Option D
 | 0, _ => none
 | _ + 1, .top => some .top
 | _ + 1, .zs => some (.sl [])
 | _ + 1, .pl v => match v with
  | .slice none 0 0 => some (.sl [])
  | v => some (.pl v)
 | _ + 1, .sl es => if D.immss es then some (.sl es) else none
 | _ + 1, .pt cs => if D.imms cs then some (.pt cs) else none
 | n + 1, .opt id off => match look mem id with
  | some (.box cs) => match gF mem n (cs.drop off) with
   | some ds => some (.pt ds)
   | none => none
  | _ => none
 | _ + 1, .osl id ver lo m => match look mem id with
  | some (.arr v _ es) => if v = ver ∧ lo + m ≤ es.length ∧ D.immss es = true then some (.sl ((es.drop lo).take m)) else none
  | _ => none
 | _ + 1, .oel _ _ _ _ => none
 | _ + 1, .omap _ => none
 | _ + 1, .fn f cs => if D.imms cs then some (.fn f cs) else none
 | n + 1, .agg cs => match gF mem n cs with
  | some ds => some (.agg ds)
  | none => none
 | n + 1, .tup cs => match gF mem n cs with
  | some ds => some (.tup ds)
  | none => none
def gF (mem : Mem) : Nat → List D → Option (List D)
 | 0, _ => none
 | _ + 1, [] => some []
 | n + 1, d :: ds => match frz mem n d, gF mem n ds with
  | some d, some ds => some (d :: ds)
  | _, _ => none
end
def gQ : List D → D
 | [d] => d
 | ds => .tup ds
def fin (rs : List RV) (env : Env) (mem : Mem) : Option D :=
 match iY env mem rs with
 | some ds => frz mem 100 (gQ ds)
 | none => none
def RetQ (rs : List RV) (res : D) : Exit → St → Prop
 | .normal, s => fin rs s.env s.mem = some res
 | .ret, s => fin rs s.env s.mem = some res
 | _, _ => False
def oI (gs : List Nat) (args : List D) : Env := gs.map fun j => (j, (args[j]?).getD (.pl undef))
section
variable {C : Cfg} {w w' : World} {S S' : Nat → Prop} {φ φ' : aR} {a : Act} {env tl : Env} {mem : Mem} {nx id : Nat}
def SF (S : Nat → Prop) (φ : aR) (mem : Mem) (b : Nat) : Prop := S b ∨ Own φ mem b
theorem mH : Stays w S φ w (SF S φ mem) φ := Stays.of_heap (fun _ h => .inl h) (fun _ _ => rfl) (fun _ _ h => h)
theorem u9 {d : D} {x : Value} (hi : D.imm d = true) (h : Rep w S φ d x) : Rep w (SF S φ mem) bR d x :=
 rL d x hi (Rep.mono mH d x h)
mutual
theorem iT (hm : MSim S φ mem nx w) : ∀ (n : Nat) (d d' : D) (x : Value), frz mem n d = some d' → Rep w S φ d x → Rep w (SF S φ mem) bR d' x
 | 0, d, d', x, h, _ => by simp [frz] at h
 | n + 1, .top, d', x, h, _ => by simp only [frz, Option.some.injEq] at h; subst h; simp [Rep]
 | n + 1, .zs, d', x, h, hr => by
  simp only [frz, Option.some.injEq] at h; subst h
  simp only [Rep] at hr ⊢
  exact .inl ⟨trivial, hr⟩
 | n + 1, .pl v, d', x, h, hr => by
  simp only [Rep] at hr; subst hr
  simp only [frz] at h
  split at h
  ·simp only [Option.some.injEq] at h; subst h; simp [Rep, Zs]
  ·simp only [Option.some.injEq] at h; subst h; simp [Rep]
 | n + 1, .sl es, d', x, h, hr => by
  simp only [frz, Option.ite_none_right_eq_some, Option.some.injEq] at h
  obtain ⟨hi, rfl⟩ := h
  exact u9 (by simpa [D.imm] using hi) hr
 | n + 1, .pt cs, d', x, h, hr => by
  simp only [frz, Option.ite_none_right_eq_some, Option.some.injEq] at h
  obtain ⟨hi, rfl⟩ := h
  exact u9 (by simpa [D.imm] using hi) hr
 | n + 1, .opt i off, d', x, h, hr => by
  simp only [frz] at h
  split at h
  ·rename_i cs hl
   split at h
   ·rename_i ds hds
    simp only [Option.some.injEq] at h; subst h
    obtain ⟨l, hφ, _, hb⟩ := hm.mem i _ hl
    simp only [Rep] at hr
    obtain ⟨l', hφ', _, rfl⟩ := hr
    rw [hφ] at hφ'; simp only [Option.some.injEq] at hφ'; subst hφ'
    simp only [BRep] at hb
    obtain ⟨hrl, _, h0, _, hc⟩ := hb
    simp only [Rep]
    refine ⟨l.b, l.base + off, rfl, .inr ⟨i, _, l, hl, hφ, hrl, rfl⟩, ?_⟩
    rw [h0]
    exact qJ hm n (cs.drop off) ds l.b (0 + off) hds (dJ off cs l.b 0 hc)
   ·simp at h
  ·simp at h
 | n + 1, .osl i ver lo m, d', x, h, hr => by
  simp only [frz] at h
  split at h
  ·rename_i v k es hl
   simp only [Option.ite_none_right_eq_some, Option.some.injEq] at h
   obtain ⟨⟨hv, hle, hi⟩, rfl⟩ := h
   obtain ⟨l, hφ, _, hb⟩ := hm.mem i _ hl
   simp only [Rep] at hr
   obtain ⟨l', hφ', _, _, hx⟩ := hr
   rw [hφ] at hφ'; simp only [Option.some.injEq] at hφ'; subst hφ'
   simp only [BRep] at hb
   obtain ⟨_, hver, hk, hb⟩ := hb
   have hlen : ((es.drop lo).take m).length = m := by simp; omega
   rcases hx (by omega) with ⟨r1, rfl, rfl, hz⟩ | ⟨r1, cap, rfl, c1, c2⟩ | ⟨r1, rfl, _, oo, c0, rfl⟩
   rotate_right
   ·simp only [List.take_zero, Rep]
    exact .inr ⟨l.b, oo, c0, k, rfl, by simp, .inr ⟨i, _, l, hl, hφ, r1, rfl⟩, trivial⟩
   ·simp only [List.take_zero, Rep]
    exact .inl ⟨trivial, hz⟩
   ·rcases hb with hb | ⟨_, _, _, hes⟩
    ·simp [hb.1] at r1
    ·simp only [Rep]
     right
     refine ⟨l.b, l.base + lo * l.k, cap, k, by rw [hlen], by rw [hlen]; exact c1, .inr ⟨i, _, l, hl, hφ, r1, rfl⟩, ?_⟩
     have himm : D.immss ((es.drop lo).take m) = true := sV hi fun e he => List.mem_of_mem_drop (List.mem_of_mem_take he)
     rw [hk]
     exact n4 _ _ _ _ himm (RepEs.mono mH _ _ _ _ (fun _ => rfl) (gX m _ _ _ _ (gT lo _ _ _ _ hes)))
  ·simp at h
 | n + 1, .oel _ _ _ _, d', x, h, hr => by simp [frz] at h
 | n + 1, .omap _, d', x, h, hr => by simp [frz] at h
 | n + 1, .fn f cs, d', x, h, hr => by
  simp only [frz, Option.ite_none_right_eq_some, Option.some.injEq] at h
  obtain ⟨hi, rfl⟩ := h
  exact u9 (by simpa [D.imm] using hi) hr
 | n + 1, .agg cs, d', x, h, hr => by
  simp only [frz] at h
  split at h
  ·rename_i ds hds
   simp only [Option.some.injEq] at h; subst h
   simp only [Rep] at hr ⊢
   obtain ⟨vs, rfl, hv⟩ := hr
   exact ⟨vs, rfl, mA hm n cs ds _ hds hv⟩
  ·simp at h
 | n + 1, .tup cs, d', x, h, hr => by
  simp only [frz] at h
  split at h
  ·rename_i ds hds
   simp only [Option.some.injEq] at h; subst h
   simp only [Rep] at hr ⊢
   obtain ⟨vs, rfl, hv⟩ := hr
   exact ⟨vs, rfl, mA hm n cs ds _ hds hv⟩
  ·simp at h
theorem mA (hm : MSim S φ mem nx w) : ∀ (n : Nat) (ds ds' : List D) (xs : List Value), gF mem n ds = some ds' → RepVs w S φ ds xs → RepVs w (SF S φ mem) bR ds' xs
 | 0, ds, ds', xs, h, _ => by simp [gF] at h
 | n + 1, [], ds', xs, h, hr => by
  simp only [gF, Option.some.injEq] at h; subst h
  simpa [RepVs] using hr
 | n + 1, d :: ds, ds', xs, h, hr => by
  simp only [gF] at h
  split at h
  ·rename_i d1 ds1 h1 h2
   simp only [Option.some.injEq] at h; subst h
   simp only [RepVs] at hr ⊢
   obtain ⟨x, r, rfl, g1, g2⟩ := hr
   exact ⟨x, r, rfl, iT hm n d d1 x h1 g1, mA hm n ds ds1 r h2 g2⟩
  ·simp at h
theorem qJ (hm : MSim S φ mem nx w) : ∀ (n : Nat) (ds ds' : List D) (b o : Nat), gF mem n ds = some ds' → RepCs w S φ ds b o → RepCs w (SF S φ mem) bR ds' b o
 | 0, ds, ds', b, o, h, _ => by simp [gF] at h
 | n + 1, [], ds', b, o, h, hr => by
  simp only [gF, Option.some.injEq] at h; subst h
  simp [RepCs]
 | n + 1, d :: ds, ds', b, o, h, hr => by
  simp only [gF] at h
  split at h
  ·rename_i d1 ds1 h1 h2
   simp only [Option.some.injEq] at h; subst h
   simp only [RepCs] at hr ⊢
   obtain ⟨⟨x, hx, g1⟩, g2⟩ := hr
   exact ⟨⟨x, hx, iT hm n d d1 x h1 g1⟩, qJ hm n ds ds1 b (o + 1) h2 g2⟩
  ·simp at h
theorem sV : ∀ {es : List (List D)} {fs : List (List D)}, D.immss es = true → (∀ e ∈ fs, e ∈ es) → D.immss fs = true
 | es, [], _, _ => rfl
 | es, f :: fs, h, hs => by
  simp only [D.immss, Bool.and_eq_true]
  refine ⟨?_, sV h fun e he => hs e (by simp [he])⟩
  have : ∀ (es : List (List D)), D.immss es = true → ∀ e ∈ es, D.imms e = true := by
   intro es
   induction es with
   | nil => intro _ e he; simp at he
   | cons a es ih =>
    intro h e he
    simp only [D.immss, Bool.and_eq_true] at h
    rcases List.mem_cons.1 he with rfl | he
    ·exact h.1
    ·exact ih h.2 e he
  exact this es h f (hs f (by simp))
end
def p6 (a : Act) : ResultVar → Sem Value
 | .tmp t => Pure.pure (a.tmps.getD t undef)
 | .cell t ty => do loadVar ty (← asAddr (a.tmps.getD t undef))
theorem x4 {r : ResultVar} {x : RV} {d : D} (hr : C.rv r = some x) (h : resV env mem x = some d) (hk : cV C w S φ env tl a) (hm : MSim S φ mem nx w) :
  ∃ v, Rep w S φ d v ∧ (p6 a r).run C.P w = .ok v w := by
 cases r with
 | tmp t =>
  simp only [Cfg.rv, Option.ite_none_right_eq_some, Option.some.injEq] at hr
  obtain ⟨ht, rfl⟩ := hr
  exact ⟨_, hk.env t d (by simpa using ht) h, rfl⟩
 | cell t ty =>
  simp only [Cfg.rv, Option.ite_none_right_eq_some] at hr
  obtain ⟨ht, hr⟩ := hr
  split at hr
  ·rename_i g n htz
   simp only [Option.some.injEq] at hr; subst hr
   simp only [resV] at h
   split at h
   ·rename_i y hy
    have hrep := hk.env t y (by simpa using ht) hy
    obtain ⟨v, hv, hrun⟩ := u0 htz h hm hrep
    refine ⟨v, hv, ?_⟩
    obtain ⟨cs, hc⟩ : ∃ cs, rdc mem n y = some cs := by
     unfold ldD at h
     split at h
     ·exact ⟨_, by assumption⟩
     ·simp at h
    obtain ⟨_, b, o, hp, _⟩ := sM hc hm hrep
    simp only [p6]
    rw [hp] at hrun ⊢
    simpa [Instr.loadAt, Instr.sureAddr, asAddr] using hrun
   ·simp at h
  ·simp at hr
theorem qA (hk : cV C w S φ env tl a) (hm : MSim S φ mem nx w) : ∀ (rs : List ResultVar) (xs : List RV) (ds : List D), rs.mapM C.rv = some xs → iY env mem xs = some ds →
  ∃ vs : List Value, RepVs w S φ ds vs ∧ (rs.mapM (p6 a)).run C.P w = .ok vs w
 | [], xs, ds, h1, h2 => by
  simp only [List.mapM_nil, Option.pure_def, Option.some.injEq] at h1; subst h1
  simp only [iY, Option.some.injEq] at h2; subst h2
  exact ⟨[], by simp [RepVs], rfl⟩
 | r :: rs, xs, ds, h1, h2 => by
  simp only [List.mapM_cons, Option.bind_eq_bind, Option.bind_eq_some_iff, Option.pure_def, Option.some.injEq] at h1
  obtain ⟨x, hx, xs', hxs, rfl⟩ := h1
  simp only [iY] at h2
  split at h2
  ·rename_i d ds' hd hds
   simp only [Option.some.injEq] at h2; subst h2
   obtain ⟨v, hv, hrun⟩ := x4 hx hd hk hm
   obtain ⟨vs, hvs, hrun2⟩ := qA hk hm rs xs' ds' hxs hds
   refine ⟨v :: vs, by simp only [RepVs]; exact ⟨v, vs, rfl, hv, hvs⟩, ?_⟩
   rw [List.mapM_cons, Sem.run_bind]
   rw [hrun]
   simp only [Result.andThen_ok, Sem.run_bind, hrun2, Sem.run_pure]
  ·simp at h2
theorem o7 {fn : Func} {xs : List RV} {ds : List D} (hk : cV C w S φ env tl a) (hm : MSim S φ mem nx w) (h1 : fn.results.toList.mapM C.rv = some xs) (h2 : iY env mem xs = some ds) :
  ∃ v, Rep w S φ (gQ ds) v ∧ (results fn a.tmps).run C.P w = .ok v w := by
 obtain ⟨vs, hv, hrun⟩ := qA hk hm _ _ _ h1 h2
 have hres : results fn a.tmps = (do let vs ← fn.results.mapM (p6 a); pure (if h : vs.size = 1 then vs[0] else .tuple vs)) := by
  unfold results
  congr 2
 rw [hres, Sem.run_bind, Array.mapM_eq_mapM_toList, Sem.run_map]
 refine ⟨if h : vs.toArray.size = 1 then vs.toArray[0] else .tuple vs.toArray, ?_, ?_⟩
 ·cases ds with
  | nil =>
   simp only [RepVs] at hv; subst hv
   simp [gQ, Rep, RepVs]
  | cons d ds =>
   cases ds with
   | nil =>
    simp only [RepVs] at hv
    obtain ⟨x, r, rfl, h1, rfl⟩ := hv
    simpa [gQ] using h1
   | cons d2 ds =>
    have hl := bL _ _ hv
    have : ¬ vs.toArray.size = 1 := by simp at hl ⊢; omega
    rw [dif_neg this]
    simp only [gQ, Rep]
    exact ⟨vs.toArray, rfl, by simpa using hv⟩
 ·rw [hrun]
  simp only [Result.andThen_ok, Sem.run_pure]
theorem nX (args : List D) : ∀ (gs : List Nat) (j : Nat) (d : D), look (oI gs args) j = some d → d = (args[j]?).getD (.pl undef)
 | [], j, d, h => by simp [oI, look] at h
 | g :: gs, j, d, h => by
  simp only [oI, List.map_cons, look] at h
  by_cases e : g = j
  ·subst e; simp only [if_true, Option.some.injEq] at h; exact h.symm
  ·simp only [e, if_false] at h
   exact nX args gs j d h
structure Shut (B : Nat) (S : Nat → Prop) (w w' : World) : Prop where
 size : w'.heap.size = w.heap.size
 same : ∀ b, (b < B ∨ S b ∨ ∀ x, w.heap[b]? ≠ some (.deferred x)) → w'.heap[b]? = w.heap[b]?
 os : w'.os = w.os
 output : w'.output = w.output
 tape : w'.tape = w.tape
theorem Shut.refl {B : Nat} {S : Nat → Prop} {w : World} : Shut B S w w := ⟨rfl, fun _ _ => rfl, rfl, rfl, rfl⟩
theorem B6 {P : Program} {r : Nat} {w : World} (h : w.heap[r]? = some (.deferred (some []))) : (Instr.takeDeferred r).run P w = .ok [] (w.putObj r (.deferred none)) := by
 exact run_takeDeferred h
theorem j5 {P : Program} {fn : Func} {tmps : Array Value} {R : Ending → World → Prop} {B : Nat} {S : Nat → Prop} : ∀ (ds : List Deferred) (w : World), Dfr P ⟨none, B⟩ S w ds → (∀ w', Shut B S w w' → ∃ v, (results fn tmps).run P w' = .ok v w' ∧ R (.returned v) w') → LeavesInM Fence.wide 0 P fn tmps R ds .returning w
 | [], w, _, h => h w Shut.refl
 | d :: ds, w, hd, h => by
  refine ⟨by simp, .inl ?_⟩
  obtain ⟨D, h1, h2, h3, h4⟩ := hd.marks d (by simp)
  have hlt : D < w.heap.size := (Array.getElem?_eq_some_iff.1 h3).1
  refine ⟨D, _, h2, B6 h3, ?_⟩
  have hn := hd.1
  simp only [List.map_cons, List.nodup_cons] at hn
  have hsh : ∀ w', Shut B S (w.putObj D (.deferred none)) w' → Shut B S w w' := fun w' k => ⟨k.size.trans (by simp), fun b hb => by
    have hbD : b ≠ D := by
     rintro rfl
     rcases hb with g | g | g
     ·exact absurd h1 (Nat.not_le_of_lt g)
     ·exact h4 g
     ·exact g _ h3
    have hsame : (w.putObj D (.deferred none)).heap[b]? = w.heap[b]? := World.putObj_heap_other hbD
    refine (k.same b ?_).trans hsame
    rcases hb with g | g | g
    ·exact .inl g
    ·exact .inr (.inl g)
    ·exact .inr (.inr fun x => by rw [hsame]; exact g x), k.os, k.output, k.tape⟩
  refine j5 ds _ ⟨hn.2, fun e he => ?_, fun l h => by simp at h, hd.tb.same fun b hb => World.putObj_heap_other (by rintro rfl; exact h4 hb)⟩ (fun w' k => h w' (hsh w' k))
  obtain ⟨E, k1, k2, k3, k4⟩ := hd.marks e (by simp [he])
  refine ⟨E, k1, k2, (World.putObj_heap_other ?_).trans k3, k4⟩
  rintro rfl
  exact hn.1 (List.mem_map.2 ⟨e, he, by rw [k2, h2]⟩)
structure SimE (C : Cfg) (S : Nat → Prop) (φ : aR) (s : St) (a : Act) (w : World) : Prop where
 env : ∀ j d, j ∈ C.gs → look s.env j = some d → Rep w S φ d (a.tmps.getD j undef)
 tl : ∀ j d, j ∉ C.gs → look s.tl j = some d → Rep w S φ d (a.tmps.getD j undef)
 m : MSim S φ s.mem s.nx w
theorem vD {S0 S : Nat → Prop} {φ0 φ : aR} {mem0 : Mem} {w0 w w' : World} {s : St} {a : Act} (hs : Sim C ⟨none, w0.heap.size⟩ S φ s a w) (hx : Ext S0 φ0 mem0 w0 S φ s.mem w) (h : Shut w0.heap.size S w w') : SimE C S φ s a w' ∧ Ext S0 φ0 mem0 w0 S φ s.mem w' := by
 have hS : ∀ b, S b → w'.heap[b]? = w.heap[b]? := fun b hb => h.same b (.inr (.inl hb))
 have hst : Stays w S φ w' S φ := Stays.of_heap (fun _ h => h) hS (fun _ _ h => h)
 have hown : ∀ i blk l, look s.mem i = some blk → φ i = some l → l.real = true → w'.heap[l.b]? = w.heap[l.b]? := fun i blk l h1 h2 h3 => by
  refine h.same _ (.inr (.inr fun x hx => rO hs.m hx ⟨i, blk, l, h1, h2, h3, rfl⟩))
 refine ⟨⟨fun j d hj hl => Rep.mono hst _ _ (hs.env j d hj hl), fun j d hj hl => Rep.mono hst _ _ (hs.tl j d hj hl), ⟨fun i blk hi => ?_, hs.m.inj, fun i l h1 h2 => by rw [h.size]; exact hs.m.lt i l h1 h2, hs.m.fresh, fun b hb => by rw [h.size]; exact hs.m.sub b hb⟩⟩,
  ⟨hx.sub, fun b hb ho => (h.same b (.inl hb)).trans (hx.keep b hb ho), by rw [h.size]; exact hx.size, hx.own, hx.news, h.os.trans hx.os, h.output.trans hx.output, h.tape.trans hx.tape⟩⟩
 obtain ⟨l, g1, g2, g3⟩ := hs.m.mem i blk hi
 exact ⟨l, g1, g2, g3.mono hst fun hr => hown i blk l hi g1 hr⟩
theorem D_ {f : FuncId} {fn : Func} {c : Code} {ac : AC} {rs : List RV} {args : List D} {res : D} (hf : C.P.funcs[f]? = some fn) (hname : (fn.name == "runtime.NumGoroutine") = false) (hb : fn.body = some c) (hn : fn.ntmps = C.n) (hl : args.length ≤ C.n)
  (hrs : fn.results.toList.mapM C.rv = some rs) (hc : C.comp c = some ac) (hA : A C ac (cT C (RetQ rs res) []) (oI C.gs args) [] 0) : Pure C.P f args res := by
 refine ⟨⟨fn, hf, hname, by rw [hb]; rfl⟩, fun S w xs hS htb hx => ?_⟩
 have hlen := bL _ _ hx
 have hT := rN hc hA ⟨none, w.heap.size⟩ 0 S bR { tmps := xs.toArray ++ Array.replicate (fn.ntmps - xs.toArray.size) undef, defers := [] } w (Nat.le_refl _) (Nat.le_refl _) ⟨by simp; omega, Dfr.nil htb, fun j d _ hd => by
   have := nX args _ _ _ hd
   subst this
   cases ha : args[j]? with
   | none =>
    have hj : args.length ≤ j := List.getElem?_eq_none_iff.1 ha
    simp only [Option.getD_none, Rep]
    rw [Array.getD_eq_getD_getElem?, Array.getElem?_append_right (by simp; omega)]
    simp only [Array.getElem?_replicate]
    split <;> rfl
   | some d =>
    obtain ⟨x, hx1, hr⟩ := iN _ _ _ _ hx ha
    have hj : j < xs.length := (List.getElem?_eq_some_iff.1 hx1).1
    simp only [Option.getD_some]
    rw [Array.getD_eq_getD_getElem?, Array.getElem?_append_left (by simpa using hj)]
    simpa [hx1] using hr, fun j d _ h => by simp [look] at h, ⟨fun i blk h => by simp [look] at h, fun i j l m h => by simp [bR] at h, fun i l h => by simp [bR] at h, fun _ _ => rfl, hS⟩⟩
 refine (callsIn_wide (n := 0)).1 (callsIn_of_wp_marks hf hb trivial (wpIn_mono hT ?_))
 rintro e a' w' ⟨s', S', φ', hq, hs, hext, _⟩
 have fin_ok : fin rs s'.env s'.mem = some res → bodyPostM Fence.wide 0 C.P fn (fun e w' => ∃ v S', e = .returned v ∧ Rep w' S' bR res v ∧ Ext S bR [] w S' bR [] w' ∧ ∀ b, S' b → b < w'.heap.size) .ret a' w' := by
  intro hfin
  refine j5 a'.defers w' hs.defers (fun w2 hsh => ?_)
  obtain ⟨hs, hext⟩ := vD hs hext hsh
  generalize w2 = w' at *
  unfold fin at hfin
  split at hfin
  ·rename_i ds hds
   obtain ⟨v, hv, hrun⟩ := o7 ⟨hs.env, hs.tl⟩ hs.m hrs hds
   refine ⟨v, hrun, v, SF S' φ' s'.mem, rfl, iT hs.m 100 _ _ _ hfin hv, ⟨fun b h => .inl (hext.sub b h), hext.keep, hext.size, fun b _ h => h, ?_, hext.os, hext.output, hext.tape⟩, ?_⟩
   ·rintro b (h | h)
    ·exact hext.news b h
    ·by_cases hlt : b < w.heap.size
     ·exact .inr (.inr (hext.own b hlt h))
     ·exact .inr (.inl (by omega))
   ·rintro b (h | ⟨i, blk, l, _, h2, h3, rfl⟩)
    ·exact hs.m.sub b h
    ·exact hs.m.lt i l h2 h3
  ·simp at hfin
 cases e with
 | normal => exact fin_ok hq
 | ret => exact fin_ok hq
 | exit id => exact hq.elim
 | goto l => exact hq.elim
 | panic ch => exact hq.elim
 | outgrown => exact hq.elim
def cW (mem mem' : Mem) : Prop := ∀ id b, look mem' id = some b → look mem id = some b
def RetC (rs : List RV) (K : KD) : Exit → St → Prop
 | .normal, s => ∃ ds, iY s.env s.mem rs = some ds ∧ ∃ mem', cW s.mem mem' ∧ K (gQ ds) mem' s.nx
 | .ret, s => ∃ ds, iY s.env s.mem rs = some ds ∧ ∃ mem', cW s.mem mem' ∧ K (gQ ds) mem' s.nx
 | _, _ => False
theorem BV {f : FuncId} {fn : Func} {c : Code} {ac : AC} {rs : List RV} {args : List D} {K : KD} (hf : C.P.funcs[f]? = some fn) (hname : (fn.name == "runtime.NumGoroutine") = false) (hb : fn.body = some c) (hn : fn.ntmps = C.n) (hl : args.length ≤ C.n)
  (hrs : fn.results.toList.mapM C.rv = some rs) (hc : C.comp c = some ac) (hA : (∀ i, nx ≤ i → look mem i = none) → A C ac (cT C (RetC rs K) []) (oI C.gs args) mem nx) : bP C.P f args mem nx K := by
 refine ⟨⟨fn, hf, hname, by rw [hb]; rfl⟩, fun S φ w xs hm htb hx => ?_⟩
 have hA := hA fun i hi => by
  cases hl : look mem i with
  | none => rfl
  | some b =>
   obtain ⟨l, h1, _⟩ := hm.mem i b hl
   rw [hm.fresh i hi] at h1; simp at h1
 have hlen := bL _ _ hx
 have hT := rN hc hA ⟨none, w.heap.size⟩ nx S φ { tmps := xs.toArray ++ Array.replicate (fn.ntmps - xs.toArray.size) undef, defers := [] } w (Nat.le_refl _) (Nat.le_refl _) ⟨by simp; omega, Dfr.nil htb, fun j d _ hd => by
   have := nX args _ _ _ hd
   subst this
   cases ha : args[j]? with
   | none =>
    have hj : args.length ≤ j := List.getElem?_eq_none_iff.1 ha
    simp only [Option.getD_none, Rep]
    rw [Array.getD_eq_getD_getElem?, Array.getElem?_append_right (by simp; omega)]
    simp only [Array.getElem?_replicate]
    split <;> rfl
   | some d =>
    obtain ⟨x, hx1, hr⟩ := iN _ _ _ _ hx ha
    have hj : j < xs.length := (List.getElem?_eq_some_iff.1 hx1).1
    simp only [Option.getD_some]
    rw [Array.getD_eq_getD_getElem?, Array.getElem?_append_left (by simpa using hj)]
    simpa [hx1] using hr, fun j d _ h => by simp [look] at h, hm⟩
 refine (callsIn_wide (n := 0)).1 (callsIn_of_wp_marks hf hb trivial (wpIn_mono hT ?_))
 rintro e a' w' ⟨s', S', φ', hq, hs, hext, hgr⟩
 have ret_ok : (∃ ds, iY s'.env s'.mem rs = some ds ∧ ∃ mem', cW s'.mem mem' ∧ K (gQ ds) mem' s'.nx) → bodyPostM Fence.wide 0 C.P fn (fun e w' => ∃ v d mem' nx' S' φ', e = .returned v ∧ K d mem' nx' ∧ nx ≤ nx' ∧ MSim S' φ' mem' nx' w' ∧ Rep w' S' φ' d v ∧ Stays w S φ w' S' φ' ∧ Ext S φ mem w S' φ' mem' w' ∧ ∀ i, i < nx → φ i = none → φ' i = none) .ret a' w' := by
  rintro ⟨ds, hds, mem', hsub, hK⟩
  refine j5 a'.defers w' hs.defers (fun w2 hsh => ?_)
  obtain ⟨hs, hext⟩ := vD hs hext hsh
  generalize w2 = w' at *
  obtain ⟨v, hv, hrun⟩ := o7 ⟨hs.env, hs.tl⟩ hs.m hrs hds
  refine ⟨v, hrun, v, _, mem', s'.nx, S', φ', rfl, hK, hgr.le, ⟨fun i b hi => hs.m.mem i b (hsub i b hi), hs.m.inj, hs.m.lt, hs.m.fresh, hs.m.sub⟩, hv, ⟨hext.sub, ?_, hgr.loc⟩,
   ⟨hext.sub, hext.keep, hext.size, fun b hb ⟨i, blk, l, h1, h2, h3, h4⟩ => hext.own b hb ⟨i, blk, l, hsub i blk h1, h2, h3, h4⟩, hext.news, hext.os, hext.output, hext.tape⟩, hgr.low⟩
  intro b hb o
  have := hext.keep b (hm.sub b hb) (by
   rintro ⟨i, blk, l, h1, h2, h3, rfl⟩
   obtain ⟨l', g1, g2, _⟩ := hm.mem i blk h1
   rw [h2] at g1; simp only [Option.some.injEq] at g1; subst g1
   exact g2 h3 hb)
  unfold World.cell?
  simp only [this]
 cases e with
 | normal => exact ret_ok hq
 | ret => exact ret_ok hq
 | exit id => exact hq.elim
 | goto l => exact hq.elim
 | panic ch => exact hq.elim
 | outgrown => exact hq.elim
end
attribute [simp] A_seq D9 A_skip A_ret A_exit A_reg A_ifr A_cond uC BP uF tI xL rE q8 ifK_at D3 BH DQ DM DY CF AU a_ BT ro_t ro_g ro_c ro_f setT_t setE_t DB k0_if DR DK DJ DC km_if
attribute [simp 1100] A_ gd_yes gd_tf gd_ft BI AT
attribute [simp 900] gd_any D6
section
variable {C : Cfg} {id : Nat} {env tl : Env} {mem : Mem} {nx : Nat} {K : KD} {P : Program}
@[simp] theorem sI_mv {x : Opd} : aP C id (.mv x) env tl mem nx K = k0 (ro tl env x) mem nx K := (rfl)
@[simp] theorem sI_pick {c a b : Opd} : aP C id (.pick c a b) env tl mem nx K = k1 (ro tl env c) (jE (ro tl env a) (ro tl env b)) mem nx K := (rfl)
@[simp] theorem sI_bld {z : List Value} {ps : List (Nat × Nat × Opd)} : aP C id (.bld z ps) env tl mem nx K = kl (rps tl env ps) (pX z) mem nx K := (rfl)
@[simp] theorem sI_bsl {k len : Nat} {z : List Value} {ps : List (Nat × Nat × Opd)} : aP C id (.bsl k len z ps) env tl mem nx K = kl (rps tl env ps) (pU k len z) mem nx K := (rfl)
@[simp] theorem sI_z0 : aP C id .z0 env tl mem nx K = K .zs mem nx := (rfl)
@[simp] theorem sI_ld {g : Bool} {n : Nat} {x : Opd} : aP C id (.ld g n x) env tl mem nx K = k1 (ro tl env x) (ldD mem g n) mem nx K := (rfl)
@[simp] theorem sI_chk {x : Opd} : aP C id (.chk x) env tl mem nx K = k1 (ro tl env x) pS mem nx K := (rfl)
@[simp] theorem sI_bin {op : BinOp} {ty : TypeId} {x y : Opd} : aP C id (.bin op ty x y) env tl mem nx K = k2 (ro tl env x) (ro tl env y) (bD C.P op ty) mem nx K := (rfl)
@[simp] theorem sI_un {op : UnOp} {x : Opd} : aP C id (.un op x) env tl mem nx K = k1 (ro tl env x) (unD C.P op) mem nx K := (rfl)
@[simp] theorem sI_cv {s d : TypeId} {x : Opd} : aP C id (.cv s d x) env tl mem nx K = k1 (ro tl env x) (cvD C.P s d) mem nx K := (rfl)
@[simp] theorem sI_ldp {g : Bool} {n : Nat} {x : Opd} : aP C id (.ldp g n x) env tl mem nx K = k1 (ro tl env x) (ldpD g n) mem nx K := (rfl)
@[simp] theorem sI_fap {off : Nat} {x : Opd} : aP C id (.fap off x) env tl mem nx K = k1 (ro tl env x) (fapD off) mem nx K := (rfl)
@[simp] theorem ldp_eq {g : Bool} {n : Nat} {cs : List D} : ldpD g n (.pt cs) = ldD [] g n (.pt cs) := (rfl)
@[simp] theorem fap_eq {off : Nat} {cs : List D} : fapD off (.pt cs) = faD [] off (.pt cs) := (rfl)
@[simp] theorem sI_fa {off : Nat} {x : Opd} : aP C id (.fa off x) env tl mem nx K = k1 (ro tl env x) (faD mem off) mem nx K := (rfl)
@[simp] theorem sI_fld {g : Bool} {n off : Nat} {x : Opd} : aP C id (.fld g n off x) env tl mem nx K = k1 (ro tl env x) (fldD g n off) mem nx K := (rfl)
@[simp] theorem sI_ia {k : Nat} {x i : Opd} : aP C id (.ia k x i) env tl mem nx K = k2 (ro tl env x) (ro tl env i) (iaD mem k) mem nx K := (rfl)
@[simp] theorem sI_ext {i : Nat} {x : Opd} : aP C id (.ext i x) env tl mem nx K = k1 (ro tl env x) (extD i) mem nx K := (rfl)
@[simp] theorem sI_len {s : Bool} {x : Opd} : aP C id (.len s x) env tl mem nx K = k1 (ro tl env x) (fO mem s) mem nx K := (rfl)
@[simp] theorem sI_bi {b : Builtin} {xs : List Opd} : aP C id (.bi b xs) env tl mem nx K = kl (ros tl env xs) (biD C.P b) mem nx K := (rfl)
@[simp] theorem sI_sls {s : Bool} {k : Nat} {x : Opd} {lo hi : Option Opd} : aP C id (.sls s k x lo hi) env tl mem nx K = k0 (slsO mem s k (ro tl env x) (roo tl env lo) (roo tl env hi)) mem nx K := (rfl)
@[simp] theorem sI_mkf {f : FuncId} {cs : List Opd} : aP C id (.mkf f cs) env tl mem nx K = kl (ros tl env cs) (mkfD f) mem nx K := (rfl)
@[simp] theorem sI_bxi {x : Opd} : aP C id (.bxi x) env tl mem nx K = k1 (ro tl env x) bxiD mem nx K := (rfl)
@[simp] theorem sI_mki {k bytes : Nat} {z : List Value} {n : Opd} : aP C id (.mki k bytes z n) env tl mem nx K = k1 (ro tl env n) (mkiD bytes z) mem nx K := (rfl)
@[simp] theorem sI_pc {f : Opd} {xs : List Opd} : aP C id (.pc f xs) env tl mem nx K = pcK C.P (ro tl env f) (ros tl env xs) mem nx K := (rfl)
@[simp] theorem sI_al {z : List Value} : aP C id (.al z) env tl mem nx K = K (.opt id 0) ((id, .box (z.map .pl)) :: mem) nx := (rfl)
@[simp] theorem sI_bx {x : Opd} : aP C id (.bx x) env tl mem nx K = km (bxM id mem (ro tl env x)) nx K := (rfl)
@[simp] theorem sI_bso {k len : Nat} {z : List Value} {ps : List (Nat × Nat × Opd)} : aP C id (.bso k len z ps) env tl mem nx K = km (oM id mem k len z (rps tl env ps)) nx K := (rfl)
@[simp] theorem sI_mks {k bytes : Nat} {z : List Value} {n : Opd} : aP C id (.mks k bytes z n) env tl mem nx K = km (mksM id mem k bytes z (ro tl env n)) nx K := (rfl)
@[simp] theorem sI_apn {k bytes : Nat} {z : List Value} {x y : Opd} : aP C id (.apn k bytes z x y) env tl mem nx K = km (fR id mem k bytes (ro tl env x) (ro tl env y)) nx K := (rfl)
@[simp] theorem sI_st {n : Nat} {x y : Opd} : aP C id (.st n x y) env tl mem nx K = km (stM mem n (ro tl env x) (ro tl env y)) nx K := (rfl)
@[simp] theorem sI_sta {n : Nat} {x y : Opd} {ps : List Opd} : aP C id (.sta n x y ps) env tl mem nx K = km (mM mem n (ro tl env x) (ro tl env y) (ros tl env ps)) nx K := (rfl)
@[simp] theorem sI_app {k bytes : Nat} {z : List Value} {x y : Opd} : aP C id (.app k bytes z x y) env tl mem nx K = km (kT id mem k bytes (ro tl env x) (ro tl env y)) nx K := (rfl)
@[simp] theorem sI_iaa {len k : Nat} {x i : Opd} : aP C id (.iaa len k x i) env tl mem nx K = k2 (ro tl env x) (ro tl env i) (mL mem len k) mem nx K := (rfl)
@[simp] theorem sI_ixs {x i : Opd} : aP C id (.ixs x i) env tl mem nx K = k2 (ro tl env x) (ro tl env i) ixsD mem nx K := (rfl)
@[simp] theorem sI_lk {kd : Option IntKind} {z : Value} {two : Bool} {m k : Opd} : aP C id (.lk kd z two m k) env tl mem nx K = k2 (ro tl env m) (ro tl env k) (lkD mem kd z two) mem nx K := (rfl)
@[simp] theorem sI_lnm {x : Opd} : aP C id (.lnm x) env tl mem nx K = k1 (ro tl env x) (pW mem) mem nx K := (rfl)
@[simp] theorem sI_mkm : aP C id .mkm env tl mem nx K = K (.omap id) ((id, .map []) :: mem) nx := (rfl)
@[simp] theorem sI_cvo {x : Opd} : aP C id (.cvo x) env tl mem nx K = km (n_ mem (ro tl env x)) nx K := (rfl)
@[simp] theorem sI_mup {kd : Option IntKind} {m k v : Opd} : aP C id (.mup kd m k v) env tl mem nx K = km (j6 mem kd (ro tl env m) (ro tl env k) (ro tl env v)) nx K := (rfl)
@[simp] theorem sI_cln {f : Opd} {xs : List Opd} : aP C id (.cln f xs) env tl mem nx K = clK C.P (ro tl env f) (ros tl env xs) mem nx (fun d m n => jM mem m ∧ K d m n) := (rfl)
@[simp] theorem sI_cl {f : Opd} {xs : List Opd} : aP C id (.cl f xs) env tl mem nx K = clK C.P (ro tl env f) (ros tl env xs) mem nx K := (rfl)
@[simp] theorem bin_add {ty : TypeId} {k : IntKind} {a b : Int} : bD P .add ty (.pl (.int k a)) (.pl (.int k b)) = some (.pl (.int k (k.wrap (a + b)))) := by simp [bD, lit, binOp, Op.intArith, Sem.look, Pure.pure]
@[simp] theorem bin_sub {ty : TypeId} {k : IntKind} {a b : Int} : bD P .sub ty (.pl (.int k a)) (.pl (.int k b)) = some (.pl (.int k (k.wrap (a - b)))) := by simp [bD, lit, binOp, Op.intArith, Sem.look, Pure.pure]
@[simp] theorem bin_mul {ty : TypeId} {k : IntKind} {a b : Int} : bD P .mul ty (.pl (.int k a)) (.pl (.int k b)) = some (.pl (.int k (k.wrap (a * b)))) := by simp [bD, lit, binOp, Op.intArith, Sem.look, Pure.pure]
theorem p8 {α : Type} {m : String} : Sem.look P (runtimePanic (α := α) (.error m)) = none := by simp [runtimePanic, program, Sem.look, Bind.bind, Sem.bind, goPanic]
@[simp] theorem bin_quo {ty : TypeId} {k : IntKind} {a b : Int} : bD P .quo ty (.pl (.int k a)) (.pl (.int k b)) = if b ≠ 0 then some (.pl (.int k (k.wrap (a.tdiv b)))) else none := by
 by_cases h : b = 0
 ·simp [bD, lit, binOp, Op.intDiv, h, p8]
 ·simp [bD, lit, binOp, Op.intDiv, h, Sem.look, Pure.pure]
@[simp] theorem bin_rem {ty : TypeId} {k : IntKind} {a b : Int} : bD P .rem ty (.pl (.int k a)) (.pl (.int k b)) = if b ≠ 0 then some (.pl (.int k (a.tmod b))) else none := by
 by_cases h : b = 0
 ·simp [bD, lit, binOp, Op.intDiv, h, p8]
 ·simp [bD, lit, binOp, Op.intDiv, h, Sem.look, Pure.pure]
@[simp] theorem bin_eql {ty : TypeId} {k : IntKind} {a b : Int} : bD P .eql ty (.pl (.int k a)) (.pl (.int k b)) = some (.pl (.bool (decide (a = b)))) := by simp [bD, lit, binOp, Op.intCmp, Sem.look, Pure.pure]; rfl
@[simp] theorem bin_neq {ty : TypeId} {k : IntKind} {a b : Int} : bD P .neq ty (.pl (.int k a)) (.pl (.int k b)) = some (.pl (.bool (!decide (a = b)))) := by simp [bD, lit, binOp, Op.intCmp, Sem.look, Pure.pure]; rfl
@[simp] theorem bin_lss {ty : TypeId} {k : IntKind} {a b : Int} : bD P .lss ty (.pl (.int k a)) (.pl (.int k b)) = some (.pl (.bool (decide (a < b)))) := by simp [bD, lit, binOp, Op.intCmp, Sem.look, Pure.pure]
@[simp] theorem bin_leq {ty : TypeId} {k : IntKind} {a b : Int} : bD P .leq ty (.pl (.int k a)) (.pl (.int k b)) = some (.pl (.bool (decide (a ≤ b)))) := by simp [bD, lit, binOp, Op.intCmp, Sem.look, Pure.pure]
@[simp] theorem bin_gtr {ty : TypeId} {k : IntKind} {a b : Int} : bD P .gtr ty (.pl (.int k a)) (.pl (.int k b)) = some (.pl (.bool (decide (b < a)))) := by simp [bD, lit, binOp, Op.intCmp, Sem.look, Pure.pure]
@[simp] theorem bin_geq {ty : TypeId} {k : IntKind} {a b : Int} : bD P .geq ty (.pl (.int k a)) (.pl (.int k b)) = some (.pl (.bool (decide (b ≤ a)))) := by simp [bD, lit, binOp, Op.intCmp, Sem.look, Pure.pure]
theorem vG {ty : TypeId} {a b : Bool} (h : P.underlying ty = some .bool) : Sem.look P (Op.equal ty (.bool a) (.bool b)) = some (a == b) := by
 show Sem.look P (Op.equalIn (9999 + 1) ty (.bool a) (.bool b)) = _
 unfold Op.equalIn
 simp [Sem.look, underlying, program, h, Pure.pure, Bind.bind, Sem.bind]
theorem bW {α β : Type} (k : α → Sem β) : ∀ (m : Sem α), Sem.look P (m >>= k) = (Sem.look P m).bind fun x => Sem.look P (k x) := by
 intro m
 show Sem.look P (Sem.bind m k) = _
 induction m with
 | pure a => rfl
 | program f ih => exact ih P
 | _ => first | rfl | simp [Sem.bind, Sem.look]
theorem B9 {ty : TypeId} {a b : Bool} (h : P.underlying ty = some .bool) : bD P .neq ty (.pl (.bool a)) (.pl (.bool b)) = some (.pl (.bool (!decide (a = b)))) := by
 simp only [bD, lit, binOp, Bool.and_self, if_true, bW, vG h, Option.bind_some]
 simp only [Pure.pure, Sem.look, Option.map_some]
 cases a <;> cases b <;> rfl
theorem zU (a b : ByteArray) : (a == b) = decide (a = b) := by
 rw [Bool.eq_iff_iff, decide_eq_true_eq]
 cases a with | mk x => cases b with | mk y =>
 show (x == y) = true ↔ _
 rw [beq_iff_eq]
 exact ⟨fun h => by rw [h], fun h => by injection h⟩
theorem u2 (a b : ByteArray) : (a.toList == b.toList) = decide (a = b) := by
 rw [Bool.eq_iff_iff, decide_eq_true_eq, beq_iff_eq, Go.ByteArray.toList_eq, Go.ByteArray.toList_eq]
 refine ⟨fun h => ?_, fun h => by rw [h]⟩
 cases a with | mk x => cases b with | mk y =>
 simp only [ByteArray.mk.injEq]
 exact Array.ext' h
theorem pC {ty : TypeId} {a b : ByteArray} (h : P.underlying ty = some .string) : Sem.look P (Op.equal ty (.string a) (.string b)) = some (decide (a = b)) := by
 rw [← zU]
 show Sem.look P (Op.equalIn (9999 + 1) ty (.string a) (.string b)) = _
 unfold Op.equalIn
 simp [Sem.look, underlying, program, h, Pure.pure, Bind.bind, Sem.bind]
theorem mW {ty : TypeId} {a b : ByteArray} (h : P.underlying ty = some .string) : bD P .eql ty (.pl (.string a)) (.pl (.string b)) = some (.pl (.bool (decide (a = b)))) := by
 have : Sem.look P (binOp .eql ty (.string a) (.string b)) = some (.bool (decide (a = b))) := by
  first
  | (simp only [binOp, bW, pC h, Option.bind_some]; rfl)
  | (simp [binOp, Op.stringOp, Sem.look, Pure.pure, u2])
 simp only [bD, lit, Bool.and_self, if_true, this, Option.map_some]
theorem pI {ty : TypeId} {a b : ByteArray} (h : P.underlying ty = some .string) : bD P .neq ty (.pl (.string a)) (.pl (.string b)) = some (.pl (.bool (!decide (a = b)))) := by
 have : Sem.look P (binOp .neq ty (.string a) (.string b)) = some (.bool (!decide (a = b))) := by
  first
  | (simp only [binOp, bW, pC h, Option.bind_some]; rfl)
  | (simp [binOp, Op.stringOp, Sem.look, Pure.pure, u2, bne])
 simp only [bD, lit, Bool.and_self, if_true, this, Option.map_some]
@[simp] theorem un_not {b : Bool} : unD P .not (.pl (.bool b)) = some (.pl (.bool (!b))) := by simp [unD, lit, Op.unary, Sem.look, Pure.pure]
@[simp] theorem un_neg {k : IntKind} {n : Int} : unD P .neg (.pl (.int k n)) = some (.pl (.int k (k.wrap (0 - n)))) := by simp [unD, lit, Op.unary, Op.intArith, Sem.look, Pure.pure]
@[simp] theorem bi_max {k : IntKind} {a b : Int} : biD P .max [.pl (.int k a), .pl (.int k b)] = some (.pl (.int k (max a b))) := by
 have : (if a < b then b else a) = max a b := by rw [Int.max_def]; split <;> split <;> omega
 simp [biD, D.vals, D.val, lit, Builtin.max_, Builtin.max2, Sem.look, Pure.pure, this, Bind.bind, Sem.bind]
@[simp] theorem bi_min {k : IntKind} {a b : Int} : biD P .min [.pl (.int k a), .pl (.int k b)] = some (.pl (.int k (min a b))) := by
 have : (if b < a then b else a) = min a b := by rw [Int.min_def]; split <;> split <;> omega
 simp [biD, D.vals, D.val, lit, Builtin.min_, Builtin.min2, Sem.look, Pure.pure, this, Bind.bind, Sem.bind]
@[simp] theorem pick_t {a b : Option D} : jE a b (.pl (.bool true)) = a := (rfl)
@[simp] theorem pick_f {a b : Option D} : jE a b (.pl (.bool false)) = b := (rfl)
attribute [simp] mL zD kOk mM iM D.hd mkv faD D.cells D.cell D.solid bxiD fO fldD extD pS ros rps roo slsO mkfD pX fU dN pU bslD eO bxM oM mksM mkiD fR kT n_ D.roomless els cur jR C4 bound D.imm D.imms D.immss iY resV fin gQ frz gF RetQ oI D.vals D.val
section
variable {n off i id ver lo : Nat} {cs new : List D} {g : Bool} {x : D}
@[simp] theorem CC {α β : Type} {p : Prop} [Decidable p] {o : Option α} {f : α → Option β} : (if p then o else none).bind f = if p then o.bind f else none := by by_cases h : p <;> simp [h]
@[simp] theorem rdc_pt : rdc mem n (.pt cs) = if n ≤ cs.length then some (cs.take n) else none := (rfl)
def xF : Blk → Option (List D)
 | .box cs => some cs
 | _ => none
def arrOf (ver : Nat) : Blk → Option (Nat × List (List D))
 | .arr v k es => if v = ver then some (k, es) else none
 | _ => none
@[simp] theorem boxOf_box : xF (.box cs) = some cs := (rfl)
@[simp] theorem yE {v k : Nat} {es : List (List D)} : arrOf ver (.arr v k es) = if v = ver then some (k, es) else none := (rfl)
@[simp] theorem rdc_opt : rdc mem n (.opt id off) = (look mem id).bind fun b => (xF b).bind fun cs => if off + n ≤ cs.length then some ((cs.drop off).take n) else none := by
 simp only [rdc]
 cases look mem id with
 | none => rfl
 | some b => cases b <;> rfl
@[simp] theorem rdc_oel : rdc mem n (.oel id ver i off) = (look mem id).bind fun b => (arrOf ver b).bind fun p => p.2[i]?.bind fun e => if off + n ≤ e.length then some ((e.drop off).take n) else none := by
 simp only [rdc]
 cases look mem id with
 | none => rfl
 | some b =>
  cases b with
  | arr v k es =>
   simp only [Option.bind_some, yE, CC]
   split
   ·cases es[i]? <;> rfl
   ·rfl
  | _ => rfl
@[simp] theorem ld_eq : ldD mem g n x = (rdc mem n x).bind (mkv g) := by unfold ldD; cases rdc mem n x <;> rfl
@[simp] theorem wrc_opt : wrc mem n (.opt id off) new = if new.length = n ∧ new.all D.cell = true then (look mem id).bind fun b => (xF b).bind fun cs => if off + n ≤ cs.length then some (upd mem id (.box (dN off cs new))) else none else none := by
 simp only [wrc]
 split
 ·cases look mem id with
  | none => rfl
  | some b => cases b <;> rfl
 ·rfl
@[simp] theorem stM_some {a : D} : stM mem n (some a) (some x) = (wrc mem n a x.cells).bind fun m => some (.top, m) := by simp only [stM]; cases wrc mem n a x.cells <;> rfl
@[simp] theorem ia_osl {k : Nat} {j : IntKind} {i : Int} : iaD mem k (.osl id ver lo n) (.pl (.int j i)) = if cur mem id ver k = true then (if 0 ≤ i ∧ i < n then some (.oel id ver (lo + i.toNat) 0) else none) else none := (rfl)
end
theorem AS {s d : TypeId} {k j : IntKind} {n : Int} (hs : P.underlying s = some (.int k)) (hd : P.underlying d = some (.int j)) : cvD P s d (.pl (.int k n)) = some (.pl (.int j (j.wrap n))) := by
 simp [cvD, lit, convert, underlying, program, Bind.bind, Sem.bind, Sem.look, hs, hd, Pure.pure, Conv.intToInt]
theorem C5 {α : Type} [Inhabited α] (f : α → List D) (l : List α) (i : Nat) : (l.map f)[i]? = if i < l.length then some (f (l[i]?.getD default)) else none := by
 by_cases h : i < l.length
 ·simp [h]
 ·rw [if_neg h]; simp; omega
theorem ia_map {α : Type} [Inhabited α] {f : α → List D} {l : List α} {k : Nat} {j : IntKind} {i : Int} (hk : ∀ x, (f x).length = k) :
  iaD mem k (.sl (l.map f)) (.pl (.int j i)) = if 0 ≤ i ∧ i < l.length then some (.pt (f (l.getD i.toNat default))) else none := by
 simp only [iaD, List.length_map]
 by_cases h : 0 ≤ i ∧ i < l.length
 ·have hi : i.toNat < l.length := by omega
  rw [if_pos h, if_pos h]
  simp [List.getElem?_map, List.getElem?_eq_getElem hi, hk, List.getD_eq_getElem?_getD]
 ·rw [if_neg h, if_neg h]
end
def WtS (R : TypeId → List D → Prop) : List TypeId → List D → Prop
 | [], ds => ds = []
 | t :: ts, ds => ∃ c r, ds = c ++ r ∧ R t c ∧ WtS R ts r
def Wt (P : Program) : Nat → TypeId → List D → Prop
 | 0, _, _ => False
 | n + 1, t, ds => match P.underlying t with
  | some .bool => ∃ b, ds = [.pl (.bool b)]
  | some (.int k) => ∃ x, ds = [.pl (.int k x)] ∧ (Lit.int k x).wf = true
  | some (.float k) => ∃ b, ds = [.pl (.float k b)] ∧ (Lit.float k b).wf = true
  | some .string => ∃ s, ds = [.pl (.string s)] ∧ s.size ≤ reachBytes
  | some (.pointer e) => ds = [.pl (.pointer none)] ∨ ∃ cs, ds = [.pt cs] ∧ Wt P n e cs
  | some (.slice e) => ∃ es : List (List D), ds = [.sl es] ∧ es.length * P.bytesOf e ≤ reachBytes ∧ ∀ c ∈ es, Wt P n e c
  | some (.struct fs) => WtS (Wt P n) (fs.toList.map (·.type)) ds
  | some (.array m e) => WtS (Wt P n) (List.replicate m e) ds
  | _ => ds = [.top]
section
variable {H : Type} {enc : TypeId × Value → H} {P : Program} {w : World} {S : Nat → Prop} {φ : aR}
theorem cells?_out {base n : Nat} {a : Addr} {cs : List Value} (h : w.cells? base a n = some cs) : cs.length = n ∧ ∀ i, i < n → w.cell? (a.add i) = cs[i]? := by
 unfold World.cells? at h
 split at h
 ·exact ⟨by simpa using mapM_some_length h, fun i hi => mapM_some_get h i i (by simp [hi])⟩
 ·simp at h
theorem cell?_lt {a : Addr} {v : Value} (h : w.cell? a = some v) : a.block < w.heap.size ∧ a.spot = none := by
 unfold World.cell? at h
 split at h
 ·rename_i c _ _ hc
  split at h
  ·simp at h
  ·rename_i hs
   exact ⟨(Array.getElem?_eq_some_iff.1 hc).1, by simpa using hs⟩
 ·simp at h
theorem pP {b : Nat} : ∀ (ds : List D) (cs : List Value) (o : Nat), RepVs w S φ ds cs → (∀ i, i < cs.length → w.cell? ⟨b, o + i, none⟩ = cs[i]?) → RepCs w S φ ds b o
 | [], cs, o, _, _ => by simp [RepCs]
 | d :: ds, cs, o, h, hc => by
  simp only [RepVs] at h
  obtain ⟨x, r, rfl, h1, h2⟩ := h
  simp only [RepCs]
  exact ⟨⟨x, by simpa using hc 0 (by simp), h1⟩, pP ds r (o + 1) h2 fun i hi => by
   have := hc (i + 1) (by simpa using hi)
   rw [show o + (i + 1) = o + 1 + i by omega] at this
   simpa using this⟩
theorem rZ : ∀ (ds es : List D) (xs ys : List Value), RepVs w S φ ds xs → RepVs w S φ es ys → RepVs w S φ (ds ++ es) (xs ++ ys)
 | [], es, xs, ys, h, k => by simp only [RepVs] at h; subst h; simpa using k
 | d :: ds, es, xs, ys, h, k => by
  simp only [RepVs, List.cons_append] at h ⊢
  obtain ⟨x, r, rfl, h1, h2⟩ := h
  exact ⟨x, r ++ ys, rfl, h1, rZ ds es r ys h2 k⟩
theorem mE {T : TypeId → Prop} {R : TypeId → List D → Prop} {W : TypeId → DataW H → Prop} {rd : TypeId → List Value → Option (DataW H × List MemPlace)}
  (ih : ∀ (t : TypeId) (cs : List Value) (x : DataW H × List MemPlace), rd t cs = some x → W t x.1 → T t → ∃ ds, R t ds ∧ RepVs w S φ ds cs) :
  ∀ (ts : List TypeId) (xs : List (DataW H × List MemPlace)) (cs : List Value), xs.length = ts.length → cs.length = (ts.map P.cellsOf).sum → (∀ t ∈ ts, T t) →
   (∀ (i : Nat) (t : TypeId) (x : DataW H × List MemPlace), ts[i]? = some t → xs[i]? = some x → W t x.1) →
   (∀ (i : Nat) (t : TypeId), ts[i]? = some t → rd t ((cs.drop ((ts.take i).map P.cellsOf).sum).take (P.cellsOf t)) = xs[i]?) → ∃ ds, WtS R ts ds ∧ RepVs w S φ ds cs
 | [], xs, cs, _, hl, _, _, _ => ⟨[], rfl, by
   simp only [List.map_nil, List.sum_nil] at hl
   simp [RepVs, List.eq_nil_of_length_eq_zero hl]⟩
 | t :: ts, [], cs, hx, _, _, _, _ => by simp at hx
 | t :: ts, x :: xs, cs, hx, hl, hv, hw, h => by
  have h0 := h 0 t rfl
  simp only [List.take_zero, List.map_nil, List.sum_nil, List.drop_zero, List.getElem?_cons_zero] at h0
  obtain ⟨c, hc, hr⟩ := ih _ _ _ h0 (hw 0 t x rfl rfl) (hv t (by simp))
  obtain ⟨r, hr1, hr2⟩ := mE ih ts xs (cs.drop (P.cellsOf t)) (by simpa using hx) (by simp at hl ⊢; omega) (fun u hu => hv u (by simp [hu])) (fun i u x h1 h2 => hw (i + 1) u x (by simpa using h1) (by simpa using h2)) (fun i u hu => by
   have := h (i + 1) u (by simpa using hu)
   simpa [List.take_succ_cons, List.map_cons, List.sum_cons, List.drop_drop] using this)
  refine ⟨c ++ r, ⟨c, r, rfl, hc, hr1⟩, ?_⟩
  have := rZ _ _ _ _ hr hr2
  simpa [List.take_append_drop] using this
theorem oH {n : Nat} : ∀ (ts : List TypeId) (ds : List (DataW H)), (DataW.weightsEach P ts ds).all (· ≤ n) = true → ∀ (i : Nat) (t : TypeId) (x : DataW H), ts[i]? = some t → ds[i]? = some x → (x.weights P t).all (· ≤ n) = true
 | [], _, _, i, t, x, h, _ => by simp at h
 | _ :: _, [], _, i, t, x, _, h => by simp at h
 | t :: ts, d :: ds, hw, 0, u, x, h1, h2 => by
  simp only [List.getElem?_cons_zero, Option.some.injEq] at h1 h2; subst h1 h2
  simp only [DataW.weightsEach, List.all_append, Bool.and_eq_true] at hw
  exact hw.1
 | t :: ts, d :: ds, hw, i + 1, u, x, h1, h2 => by
  simp only [DataW.weightsEach, List.all_append, Bool.and_eq_true] at hw
  exact oH ts ds hw.2 i u x (by simpa using h1) (by simpa using h2)
theorem kW {n : Nat} {e : TypeId} : ∀ (ds : List (DataW H)), (DataW.weightsAll P e ds).all (· ≤ n) = true → ∀ x ∈ ds, (x.weights P e).all (· ≤ n) = true
 | [], _, x, h => by simp at h
 | d :: ds, hw, x, h => by
  simp only [DataW.weightsAll, List.all_append, Bool.and_eq_true] at hw
  rcases List.mem_cons.1 h with rfl | h
  ·exact hw.1
  ·exact kW ds hw.2 x h
theorem qE {R : List D → Prop} {W : DataW H → Prop} {rd : List Value → Option (DataW H × List MemPlace)} {k b : Nat}
  (ih : ∀ (cs : List Value) (x : DataW H × List MemPlace), rd cs = some x → W x.1 → ∃ ds, R ds ∧ RepVs w S φ ds cs) :
  ∀ (xs : List (DataW H × List MemPlace)) (o : Nat), (∀ x ∈ xs, W x.1) →
   (∀ i, i < xs.length → (w.cells? 0 ⟨b, o + i * k, none⟩ k).bind rd = xs[i]?) → ∃ es : List (List D), es.length = xs.length ∧ (∀ c ∈ es, R c) ∧ RepEs w S φ es k b o
 | [], o, _, _ => ⟨[], rfl, by simp, by simp [RepEs]⟩
 | x :: xs, o, hw, h => by
  have h0 := h 0 (by simp)
  simp only [Nat.zero_mul, Nat.add_zero, List.getElem?_cons_zero, Option.bind_eq_some_iff] at h0
  obtain ⟨cs, hcs, hrd⟩ := h0
  obtain ⟨hl, hc⟩ := cells?_out hcs
  obtain ⟨ds, hR, hrep⟩ := ih _ _ hrd (hw x (by simp))
  obtain ⟨es, h1, h2, h3⟩ := qE ih xs (o + k) (fun y hy => hw y (by simp [hy])) (fun i hi => by
   have := h (i + 1) (by simpa using hi)
   rw [show o + (i + 1) * k = o + k + i * k by rw [Nat.succ_mul]; omega] at this
   simpa using this)
  refine ⟨ds :: es, by simp [h1], by simpa using ⟨hR, h2⟩, ?_⟩
  simp only [RepEs]
  exact ⟨(bL _ _ hrep).symm.trans hl, pP _ _ _ hrep (fun i hi => by simpa [Addr.add_mid] using hc i (by omega)), h3⟩
set_option maxHeartbeats 2000000 in
theorem wE (hl : laidOutB P = true) {t0 : TypeId} (hp : P.readableRec t0 = true) : ∀ (n : Nat) (t : TypeId) (cs : List Value) (x : DataW H × List MemPlace), DataW.trod enc P w 0 (fun _ => true) true n t cs = some x →
  (x.1.weights P t).all (· ≤ reachBytes) = true → isVar P t = true ∧ t ∈ P.book t0 → ∃ ds, Wt P n t ds ∧ RepVs w (· < w.heap.size) φ ds cs
 | 0, t, cs, x, h, _, _ => by simp [DataW.trod] at h
 | n + 1, t, cs, x, h, hw, hv => by
  obtain ⟨hv, hbk⟩ := hv
  have hkid : P.fineRow t = true ∧ ∀ u ∈ P.partsOf t, u ∈ P.book t0 := by
   have := List.all_eq_true.1 hp t hbk
   simp only [Bool.and_eq_true, List.all_eq_true, List.contains_iff_mem] at this
   exact ⟨this.1, fun u hu => by simpa using this.2 u hu⟩
  have hlt : t < P.types.size := by simp only [isVar, Bool.and_eq_true, decide_eq_true_eq] at hv; exact hv.1
  have hfine := rowFine_of hl hlt
  have ih := wE hl hp n
  simp only [Wt]
  cases hu : P.underlying t with
  | none => simp [isVar, hu, kindOk] at hv
  | some td =>
   cases td with
   | bool =>
    obtain ⟨b, rfl, rfl⟩ := DataW.trod_bool hu h
    exact ⟨_, ⟨b, rfl⟩, by simp [RepVs, Rep]⟩
   | int k =>
    obtain ⟨z, rfl, rfl, hz⟩ := DataW.trod_int hu h
    exact ⟨_, ⟨z, rfl, hz⟩, by simp [RepVs, Rep]⟩
   | float k =>
    have : ∃ b, cs = [.float k b] ∧ (Lit.float k b).wf = true := by
     unfold DataW.trod at h
     rw [hu] at h
     split at h <;> simp_all
    obtain ⟨b, rfl, hb⟩ := this
    exact ⟨_, ⟨b, rfl, hb⟩, by simp [RepVs, Rep]⟩
   | string =>
    obtain ⟨s, rfl, rfl, hs⟩ := DataW.trod_string hu h
    exact ⟨_, ⟨s, rfl, by simpa [DataW.weights] using hw⟩, by simp [RepVs, Rep]⟩
   | pointer e =>
    rcases DataW.trod_pointer hu h with ⟨rfl, rfl⟩ | ⟨a, cs', y, m, hm, rfl, rfl, hc, hy⟩
    ·exact ⟨_, .inl rfl, by simp [RepVs, Rep]⟩
    ·simp only [Nat.add_right_cancel_iff] at hm; subst hm
     obtain ⟨hcl, hcc⟩ := cells?_out hc
     simp only [rowFine, hv, hu, Bool.not_true, Bool.false_or, Bool.and_eq_true] at hfine
     obtain ⟨ds, h1, h2⟩ := ih e cs' y hy (by simpa [DataW.weights, hu] using hw) ⟨hfine.1, hkid.2 e (by simp [Program.partsOf, hu])⟩
     have hpos : 0 < P.cellsOf e := by
      have := hkid.1
      simpa [Program.fineRow, hu] using this
     have h0 := hcc 0 hpos
     rw [List.getElem?_eq_getElem (by omega)] at h0
     obtain ⟨hb, hsp⟩ := cell?_lt h0
     obtain ⟨b, o, sp⟩ := a
     have hsp' : sp = none := by simpa [Addr.add] using hsp
     subst hsp'
     have hb' : b < w.heap.size := by simpa [Addr.add_mid] using hb
     refine ⟨_, .inr ⟨ds, rfl, h1⟩, ?_⟩
     simp only [RepVs, Rep]
     exact ⟨_, [], rfl, ⟨b, o, rfl, hb', pP _ _ _ h2 fun i hi => by simpa [Addr.add_mid] using hcc i (by omega)⟩, rfl⟩
   | slice e =>
    simp only [rowFine, hv, hu, Bool.not_true, Bool.false_or, Bool.and_eq_true] at hfine
    have hpos : 0 < P.cellsOf e := by
     have := hkid.1
     simpa [Program.fineRow, hu] using this
    have hbe : e ∈ P.book t0 := hkid.2 e (by simp [Program.partsOf, hu])
    rcases DataW.trod_slice hu h with ⟨rfl, rfl⟩ | ⟨a, len, cap, elems, rest, m, hm, rfl, rfl, _, hlc, _, hel, helem, hrest, _⟩
    ·exact ⟨_, ⟨[], rfl, by simp, by simp⟩, by simp [RepVs, Rep, Zs]⟩
    ·simp only [Nat.add_right_cancel_iff] at hm; subst hm
     simp only [DataW.weights, hu, List.all_cons, List.all_append, Bool.and_eq_true, decide_eq_true_eq, List.length_map] at hw
     obtain ⟨hwl, hwe, _⟩ := hw
     by_cases h0 : cap = 0
     ·subst h0
      obtain rfl : len = 0 := by omega
      exact ⟨_, ⟨[], rfl, by simp, by simp⟩, by simp [RepVs, Rep, Zs]⟩
     ·obtain ⟨v, hv0⟩ : ∃ v, w.cell? a = some v := by
       have key : ∀ y, (w.cells? 0 (a.add (0 * P.cellsOf e)) (P.cellsOf e)).bind (DataW.trod enc P w 0 (fun _ => true) true n e) = some y → ∃ v, w.cell? a = some v := by
        intro y hy
        simp only [Option.bind_eq_some_iff] at hy
        obtain ⟨c, hc, _⟩ := hy
        obtain ⟨hcl, hcc⟩ := cells?_out hc
        have := hcc 0 hpos
        simp only [Nat.zero_mul, Addr.add, Nat.add_zero] at this
        rw [List.getElem?_eq_getElem (by omega)] at this
        exact ⟨_, this⟩
       by_cases hl0 : len = 0
       ·obtain ⟨hr1, hr2⟩ := hrest rfl
        have := hr2 0 (by omega)
        rw [hl0, List.getElem?_eq_getElem (by omega)] at this
        exact key _ this
       ·have := helem 0 (by omega)
        rw [List.getElem?_eq_getElem (by omega)] at this
        exact key _ this
      obtain ⟨hb, hsp⟩ := cell?_lt hv0
      obtain ⟨b, o, sp⟩ := a
      simp only at hb hsp; subst hsp
      obtain ⟨es, h1, h2, h3⟩ := qE (φ := φ) (S := (· < w.heap.size)) (k := P.cellsOf e) (b := b) (R := Wt P n e) (W := fun x => (x.weights P e).all (· ≤ reachBytes) = true) (fun cs x hx hwx => ih e cs x hx hwx ⟨hfine.1, hbe⟩) elems o
       (fun x hx => kW _ (by simpa using hwe) x.1 (List.mem_map.2 ⟨x, hx, rfl⟩)) (fun i hi => by simpa [Addr.add_mid] using helem i (by omega))
      refine ⟨_, ⟨es, rfl, ?_, h2⟩, ?_⟩
      ·rw [h1]
       exact Nat.le_trans (Nat.mul_le_mul_right _ (by omega)) hwl
      ·simp only [RepVs, Rep]
       exact ⟨_, [], rfl, .inr ⟨b, o, cap, _, by rw [h1, hel], by omega, hb, h3⟩, rfl⟩
   | struct fs =>
    simp only [rowFine, hv, hu, Bool.not_true, Bool.false_or, Bool.and_eq_true, beq_iff_eq] at hfine
    obtain ⟨⟨hf1, hf2⟩, hf3⟩ := hfine
    obtain ⟨xs, m, hm, rfl, hcl, hxl, hx⟩ := DataW.trod_struct hu h
    simp only [Nat.add_right_cancel_iff] at hm; subst hm
    simp only [DataW.weights, hu] at hw
    refine mE (P := P) (T := fun t => isVar P t = true ∧ t ∈ P.book t0) (W := fun t x => (x.weights P t).all (· ≤ reachBytes) = true) (rd := DataW.trod enc P w 0 (fun _ => true) true n) (fun t cs x hx hwx hvx => ih t cs x hx hwx hvx) (fs.toList.map (·.type)) xs cs (by simpa using hxl) (by rw [hcl, hf2]; simp [List.map_map, Function.comp_def])
     (fun u huu => by
      obtain ⟨f, hf, rfl⟩ := List.mem_map.1 huu
      exact ⟨List.all_eq_true.1 hf1 f hf, hkid.2 f.type (by simp only [Program.partsOf, hu]; exact List.mem_map.2 ⟨f, hf, rfl⟩)⟩)
     (fun i u x h1 h2 => oH _ _ hw i u x.1 h1 (by simp [h2])) (fun i u hi => ?_)
    simp only [List.getElem?_map, Option.map_eq_some_iff] at hi
    obtain ⟨f, hf, rfl⟩ := hi
    have h3 := List.all_eq_true.1 hf3 i (by simp; exact (List.getElem?_eq_some_iff.1 hf).1)
    rw [hf] at h3
    simp only [beq_iff_eq] at h3
    have := hx i f (by simpa using hf)
    rw [h3] at this
    rw [← List.map_take, List.map_map]
    exact this
   | array m e =>
    simp only [rowFine, hv, hu, Bool.not_true, Bool.false_or, Bool.and_eq_true, beq_iff_eq] at hfine
    obtain ⟨hf1, hf2⟩ := hfine
    have htk : ∀ i : Nat, ((List.replicate m e).take i).map P.cellsOf = List.replicate (min i m) (P.cellsOf e) := by intro i; simp
    obtain ⟨xs, m', hm', rfl, hcl, hxl, hx⟩ := DataW.trod_array hu h
    simp only [Nat.add_right_cancel_iff] at hm'; subst hm'
    simp only [DataW.weights, hu] at hw
    have hwx : ∀ x ∈ xs, (x.1.weights P e).all (· ≤ reachBytes) = true := fun x hx => kW _ hw x.1 (List.mem_map.2 ⟨x, hx, rfl⟩)
    refine mE (P := P) (T := fun t => isVar P t = true ∧ t ∈ P.book t0) (W := fun t x => (x.weights P t).all (· ≤ reachBytes) = true) (rd := DataW.trod enc P w 0 (fun _ => true) true n) (fun t cs x hx hwx hvx => ih t cs x hx hwx hvx) (List.replicate m e) xs cs (by simpa using hxl) (by rw [hcl, hf2]; simp)
     (fun u hu => by rw [List.mem_replicate] at hu; rw [hu.2]; exact ⟨hf1, hkid.2 e (by simp [Program.partsOf, *])⟩)
     (fun i u x h1 h2 => by
      rw [List.getElem?_replicate] at h1
      split at h1
      ·simp only [Option.some.injEq] at h1; subst h1
       exact hwx x (List.mem_of_getElem? h2)
      ·simp at h1) (fun i u hi => ?_)
    rw [List.getElem?_replicate] at hi
    split at hi
    ·rename_i him
     simp only [Option.some.injEq] at hi; subst hi
     rw [htk]
     have : min i m = i := by omega
     rw [this]
     simpa using hx i him
    ·simp at hi
   | _ =>
    cases cs with
    | nil => simp only [DataW.trod, hu] at h; cases h
    | cons c r =>
     cases r with
     | nil => exact ⟨[.top], rfl, by simp [RepVs, Rep]⟩
     | cons c2 r =>
      exfalso
      first
      | (simp only [DataW.trod, hu] at h; cases h)
      | (simp [isVar, hu, kindOk] at hv)
end
open Go.ChangeShapes Go.WideShapes Go.ChangeAt Go.RowKit
def Arg (P : Program) (t : TypeId) (x : D) : Prop := ∃ n ds, Wt P n t ds ∧ match P.underlying t with
 | some (.struct _) | some (.array _ _) => x = .agg ds
 | _ => ds = [x]
def Args (P : Program) : List TypeId → List D → Prop
 | [], xs => xs = []
 | t :: ts, xs => ∃ x r, xs = x :: r ∧ Arg P t x ∧ Args P ts r
section
variable {H : Type} {enc : TypeId × Value → H} {P : Program} {w W W' : World}
theorem noAgg {r : Reach} {base : Nat} {t : TypeId} {cs : Array Value} (h : Value.okWide P w r base t (.agg cs)) : (∃ fs, P.underlying t = some (.struct fs)) ∨ ∃ n e, P.underlying t = some (.array n e) := by
 unfold Value.okWide at h
 split at h
 ·rename_i fs hf; exact .inl ⟨fs, hf⟩
 ·rename_i n e hf; exact .inr ⟨n, e, hf⟩
 ·unfold Cell.okWide at h
  split at h <;> try simp_all
  unfold Cell.ok at h
  split at h <;> simp_all
theorem AW {r : Reach} {base : Nat} (hl : laidOutB P = true) {t : TypeId} {v : Value} {d : DataW H} {ps : List MemPlace} (hp : P.readableRec t = true) (hv : isVar P t = true) (hval : Value.okWide P w r base t v)
  (h : DataW.Trod enc P w 0 (fun _ => true) true t v d ps) (hw : (d.weights P t).all (· ≤ reachBytes) = true) : ∃ x, Arg P t x ∧ Rep w (· < w.heap.size) bR x v := by
 obtain ⟨n, hn⟩ := h
 obtain ⟨ds, h1, h2⟩ := wE (φ := bR) hl hp n t _ _ hn hw ⟨hv, book_self t⟩
 by_cases hag : (∃ fs, P.underlying t = some (.struct fs)) ∨ ∃ n e, P.underlying t = some (.array n e)
 ·have : ∃ cs, v = .agg cs := by
   unfold Value.okWide at hval
   rcases hag with ⟨fs, hf⟩ | ⟨m, e, hf⟩
   ·rw [hf] at hval; obtain ⟨cs, h, _⟩ := hval; exact ⟨cs, h⟩
   ·rw [hf] at hval; obtain ⟨cs, h, _⟩ := hval; exact ⟨cs, h⟩
  obtain ⟨cs, rfl⟩ := this
  refine ⟨.agg ds, ⟨n, ds, h1, ?_⟩, ?_⟩
  ·rcases hag with ⟨fs, hf⟩ | ⟨m, e, hf⟩ <;> simp [hf]
  ·simp only [Rep]; exact ⟨cs, rfl, by simpa [Value.cells] using h2⟩
 ·have hc : v.cells = #[v] := by
   cases v <;> try rfl
   exact absurd (noAgg hval) hag
  rw [hc] at h2
  cases ds with
  | nil => simp [RepVs] at h2
  | cons x r =>
   simp only [RepVs, List.cons.injEq] at h2
   obtain ⟨y, r', ⟨rfl, rfl⟩, hx, hr⟩ := h2
   cases r with
   | cons _ _ => simp [RepVs] at hr
   | nil =>
    refine ⟨x, ⟨n, [x], h1, ?_⟩, hx⟩
    split
    ·rename_i fs hf; exact absurd (.inl ⟨fs, hf⟩) hag
    ·rename_i m e hf; exact absurd (.inr ⟨m, e, hf⟩) hag
    ·rfl
theorem oF {r : Reach} {base : Nat} (hl : laidOutB P = true) : ∀ {ts : List TypeId} {vs : List Value} {ds : List (DataW H)} {ps : List MemPlace}, (∀ t ∈ ts, isVar P t = true ∧ P.readableRec t = true) →
  (∀ (j : Nat) t v, ts[j]? = some t → vs[j]? = some v → Value.okWide P w r base t v) →
  DataW.TrodAll enc P w 0 (fun _ => true) true ts vs ds ps → (DataW.weightsEach P ts ds).all (· ≤ reachBytes) = true → ∃ xs, Args P ts xs ∧ RepVs w (· < w.heap.size) bR xs vs
 | [], [], [], _, _, _, _, _ => ⟨[], rfl, by simp [RepVs]⟩
 | t :: ts, v :: vs, d :: ds, _, hv, hval, ⟨p, q, h1, h2, _⟩, hw => by
  simp only [DataW.weightsEach, List.all_append, Bool.and_eq_true] at hw
  obtain ⟨x, hx, hr⟩ := AW hl (hv t (by simp)).2 (hv t (by simp)).1 (hval 0 t v rfl rfl) h1 hw.1
  obtain ⟨xs, hxs, hrs⟩ := oF hl (fun u hu => hv u (by simp [hu])) (fun j u v hu hv => hval (j + 1) u v (by simpa using hu) (by simpa using hv)) h2 hw.2
  exact ⟨x :: xs, ⟨x, xs, rfl, hx, hxs⟩, by simp only [RepVs]; exact ⟨v, vs, rfl, hr, hrs⟩⟩
 | [], [], _ :: _, _, _, _, h, _ => h.elim
 | [], _ :: _, _, _, _, _, h, _ => h.elim
 | _ :: _, [], _, _, _, _, h, _ => h.elim
 | _ :: _, _ :: _, [], _, _, _, h, _ => h.elim
theorem nS (hl : laidOutB P = true) (hb : Below W.heap.size W W') : ∀ {ts : List TypeId} {vs : List Value} {ds : List (DataW H)} {ps : List MemPlace}, (∀ t ∈ ts, P.readableRec t = true ∧ t < P.types.size) →
  DataW.TrodAll enc P W 0 (fun _ => true) true ts vs ds ps → DataW.TrodAll enc P W' 0 (fun b => decide (b < W.heap.size)) true ts vs ds ps
 | [], [], [], _, _, h => h
 | t :: ts, v :: vs, d :: ds, _, hr, ⟨p, q, h1, h2, e⟩ =>
  ⟨p, q, Below.trod hl (hr t (by simp)).1 (hr t (by simp)).2 h1 hb (by obtain ⟨m, hm⟩ := h1; exact DataW.trod_lt m _ _ _ hm), nS hl hb (fun u hu => hr u (by simp [hu])) h2, e⟩
 | [], [], _ :: _, _, _, h => h.elim
 | [], _ :: _, _, _, _, h => h.elim
 | _ :: _, [], _, _, _, h => h.elim
 | _ :: _, _ :: _, [], _, _, h => h.elim
theorem kJ {base : Nat} {sp : Nat → Bool} {hd : Bool} : ∀ {ts : List TypeId} {vs : List Value} {ds : List (DataW H)} {ps : List MemPlace}, DataW.TrodAll enc P w base sp hd ts vs ds ps → ds.length = ts.length
 | [], [], [], _, _ => rfl
 | t :: ts, v :: vs, d :: ds, _, ⟨p, q, _, h2, _⟩ => by simpa using kJ h2
 | [], [], _ :: _, _, h => h.elim
 | [], _ :: _, _, _, h => h.elim
 | _ :: _, [], _, _, h => h.elim
 | _ :: _, _ :: _, [], _, h => h.elim
theorem kS : ∀ (ts us : List TypeId) (ds es : List (DataW H)), ds.length = ts.length → (DataW.weightsEach P (ts ++ us) (ds ++ es)).all (· ≤ reachBytes) = true → (DataW.weightsEach P ts ds).all (· ≤ reachBytes) = true
 | [], us, [], es, _, _ => rfl
 | t :: ts, us, d :: ds, es, hl, h => by
  simp only [List.cons_append, DataW.weightsEach, List.all_append, Bool.and_eq_true] at h ⊢
  exact ⟨h.1, kS ts us ds es (by simpa using hl) h.2⟩
 | [], us, _ :: _, es, hl, _ => by simp at hl
 | _ :: _, us, [], es, hl, _ => by simp at hl
end
structure uY (C : Checked) (f : FuncId) (fn : Func) (s : ChangeSpec) (rt : TypeId) : Prop where
 own : ownKnob C.prog.godebug = none
 noInit : C.prog.inits.idxOf? f = none
 func : C.prog.funcs[f]? = some fn
 laid : laidOutB C.prog = true
 params : fn.params.toList.all (fun t => isVar C.prog t && C.prog.readableRec t) = true
 res : fn.resultTypes = #[rt]
 bool : C.prog.underlying rt = some .bool
 vars : s.vars = []
 spec : ∀ (H : Type) (ds : List (DataW H)), ds.length = fn.params.size → s.fn H ds = { results := [.lit (.bool true)], args := ds }
structure RowFn (C : Checked) (f : FuncId) (fn : Func) (s : ChangeSpec) (rt : TypeId) : Prop extends uY C f fn s rt where
 tab : C.prog.globals.toList.all (fun gl => !is20 C.prog gl.type) = true
theorem row_of {C : Checked} {os : Os} {f : FuncId} {fn : Func} {s : ChangeSpec} {rt : TypeId} {conds : List PathCond} {H : Type} {enc : TypeId × Value → H} (R : RowFn C f fn s rt) (started : os.Started)
  (witness : ∃ (w : World) (tape : Tape) (i : Input), w.os = os ∧ (w.forCall tape i).Shaped C.prog ∧ i.vars = [] ∧ Input.okWide C.prog (w.forCall tape i) .any w.heap.size f i ∧
   s.pre6 enc C.prog fn conds false (w.forCall tape i).memory i.args ∧ Assume.holds {} C.prog (lone (Frame.enter C.prog f i.args .normal) [] (w.forCall tape i)))
  (law : ∀ xs, Args C.prog fn.params.toList xs → Pure C.prog f xs (.pl (.bool true))) :
  ReturnsInHanded {} C os f .any (s.pre6 enc C.prog fn conds false) (s.post enc C.prog fn false true false false) := by
 refine returnsInHanded_of_change_sized (C := C) R.own started R.noInit R.func witness ?_
 intro Wd base args ds gs before hval hW hcnd hsz _
 have hW' := hW
 have hpar : ∀ t ∈ fn.params.toList, isVar C.prog t = true ∧ C.prog.readableRec t = true := fun t ht => by
  have := List.all_eq_true.1 R.params t ht
  simpa using this
 have hlt : ∀ t ∈ fn.params.toList, C.prog.readableRec t = true ∧ t < C.prog.types.size := fun t ht => by
  have h := (hpar t ht).1
  simp only [isVar, Bool.and_eq_true, decide_eq_true_eq] at h
  exact ⟨(hpar t ht).2, h.1⟩
 obtain ⟨p, q, hA, hV, rfl, hfz, hnd⟩ := hW
 rw [R.vars] at hV
 obtain ⟨rfl, rfl⟩ := trodVars_none hV
 have hlen := kJ hA
 have hw := kS _ _ _ _ hlen hsz
 obtain ⟨xs, hxs, hrep⟩ := oF (r := .any) (base := base) R.laid hpar (fun j t v h1 h2 => hval j t v (by simpa using h1) (by simpa using h2)) hA hw
 have hc := (law xs hxs).2 (· < Wd.heap.size) Wd args.toList (fun b hb => hb) (TB.none R.tab _ _) hrep
 rw [Array.toArray_toList] at hc
 refine hc.mono fun e W' ⟨v, S', he, hv, hx, _⟩ => ?_
 subst he
 simp only [Rep] at hv; subst hv
 have bel : Below Wd.heap.size Wd W' := ⟨hx.os, hx.tape, hx.output, hx.size, fun k hk => hx.keep k hk (by rintro ⟨i, blk, l, h, _⟩; simp [look] at h)⟩
 have hsp := R.spec H ds (by rw [hlen]; simp)
 refine ⟨_, rfl, ds, [], _, [], p, [], hW', ?_, ?_, ?_, bel.frame _, fun h => by cases h⟩
 ·rw [List.append_nil, hsp, R.res]
  exact trodAll_mk1 (shut_bool R.bool _)
 ·rw [List.append_nil, hsp]
  exact nS R.laid bel hlt hA
 ·rw [List.append_nil, hsp, R.vars]
  rfl
theorem vM {C : Checked} {os : Os} {f : FuncId} {fn : Func} {s : ChangeSpec} {rt : TypeId} {conds : List PathCond} {H : Type} {enc : TypeId × Value → H} {X : World → Prop} (R : uY C f fn s rt) (started : os.Started) (hX : ∀ w w' : World, w.heap = w'.heap → X w → X w') (hT : ∀ w, X w → TB C.prog (· < w.heap.size) w)
  (witness : ∃ (w : World) (tape : Tape) (i : Input), w.os = os ∧ (w.forCall tape i).Shaped C.prog ∧ i.vars = [] ∧ Input.okWide C.prog (w.forCall tape i) .any w.heap.size f i ∧
   ((s.pre enc C.prog fn conds false (w.forCall tape i).memory i.args ∧ X (w.forCall tape i).memory) ∧ sizedMet enc C.prog fn (OpenSpec.ofChange s) false (w.forCall tape i).memory i.args) ∧ Assume.holds {} C.prog (lone (Frame.enter C.prog f i.args .normal) [] (w.forCall tape i)))
  (law : ∀ xs, Args C.prog fn.params.toList xs → Pure C.prog f xs (.pl (.bool true))) :
  ReturnsInHanded {} C os f .any (fun w args => (s.pre enc C.prog fn conds false w args ∧ X w) ∧ sizedMet enc C.prog fn (OpenSpec.ofChange s) false w args) (s.post enc C.prog fn false true false false) := by
 refine returnsInHanded_of_change_and (C := C) (X := fun w _ => X w) (fun w w' _ => hX w w') R.own started R.noInit R.func witness ?_
 intro Wd base args ds gs before hval hW hcnd hsz hXw _
 have hW' := hW
 have hpar : ∀ t ∈ fn.params.toList, isVar C.prog t = true ∧ C.prog.readableRec t = true := fun t ht => by
  have := List.all_eq_true.1 R.params t ht
  simpa using this
 have hlt : ∀ t ∈ fn.params.toList, C.prog.readableRec t = true ∧ t < C.prog.types.size := fun t ht => by
  have h := (hpar t ht).1
  simp only [isVar, Bool.and_eq_true, decide_eq_true_eq] at h
  exact ⟨(hpar t ht).2, h.1⟩
 obtain ⟨p, q, hA, hV, rfl, hfz, hnd⟩ := hW
 rw [R.vars] at hV
 obtain ⟨rfl, rfl⟩ := trodVars_none hV
 have hlen := kJ hA
 have hw := kS _ _ _ _ hlen hsz
 obtain ⟨xs, hxs, hrep⟩ := oF (r := .any) (base := base) R.laid hpar (fun j t v h1 h2 => hval j t v (by simpa using h1) (by simpa using h2)) hA hw
 have hc := (law xs hxs).2 (· < Wd.heap.size) Wd args.toList (fun b hb => hb) (hT Wd hXw) hrep
 rw [Array.toArray_toList] at hc
 refine hc.mono fun e W' ⟨v, S', he, hv, hx, _⟩ => ?_
 subst he
 simp only [Rep] at hv; subst hv
 have bel : Below Wd.heap.size Wd W' := ⟨hx.os, hx.tape, hx.output, hx.size, fun k hk => hx.keep k hk (by rintro ⟨i, blk, l, h, _⟩; simp [look] at h)⟩
 have hsp := R.spec H ds (by rw [hlen]; simp)
 refine ⟨_, rfl, ds, [], _, [], p, [], hW', ?_, ?_, ?_, bel.frame _, fun h => by cases h⟩
 ·rw [List.append_nil, hsp, R.res]
  exact trodAll_mk1 (shut_bool R.bool _)
 ·rw [List.append_nil, hsp]
  exact nS R.laid bel hlt hA
 ·rw [List.append_nil, hsp, R.vars]
  rfl
section
variable {C : Cfg} {Q : Exit → St → Prop} {env env' tl tl' : Env} {mem mem' : Mem} {nx nx' : Nat} {w : World} {S : Nat → Prop} {φ : aR}
def dLe (d d' : D) : Prop := d' = d ∨ d' = .top ∨ (d' = .sl [] ∧ (d = .zs ∨ d = .pl (.slice none 0 0)))
theorem yQ {d d' : D} {x : Value} (h : dLe d d') (hr : Rep w S φ d x) : Rep w S φ d' x := by
 rcases h with rfl | rfl | ⟨rfl, rfl | rfl⟩
 ·exact hr
 ·simp [Rep]
 ·simp only [Rep] at hr ⊢; exact .inl ⟨trivial, hr⟩
 ·simp only [Rep] at hr ⊢; exact .inl ⟨trivial, .inl hr⟩
def i_ : Env → Env → Prop
 | [], [] => True
 | (k, d) :: e, (k', d') :: e' => k' = k ∧ dLe d d' ∧ i_ e e'
 | _, _ => False
theorem qR : ∀ {e e' : Env}, i_ e e' → ∀ j d', look e' j = some d' → ∃ d, look e j = some d ∧ dLe d d'
 | [], [], _, j, d', h => by simp [look] at h
 | (k, d) :: e, (k', d1) :: e', h, j, d', hl => by
  obtain ⟨rfl, h1, h2⟩ := h
  simp only [look] at hl ⊢
  by_cases hk : k' = j
  ·simp only [hk, if_true, Option.some.injEq] at hl ⊢; subst hl; exact ⟨d, rfl, h1⟩
  ·simp only [hk, if_false] at hl ⊢; exact qR h2 j d' hl
 | [], _ :: _, h, _, _, _ => h.elim
 | _ :: _, [], h, _, _, _ => h.elim
def oS : List D → List D → Prop
 | [], [] => True
 | d :: ds, e :: es => dLe d e ∧ oS ds es
 | _, _ => False
def blkLe (b b' : Blk) : Prop := b' = b ∨ ∃ cs cs', b = .box cs ∧ b' = .box cs' ∧ oS cs cs'
theorem pD {b : Nat} : ∀ {cs cs' : List D} {o : Nat}, oS cs cs' → RepCs w S φ cs b o → RepCs w S φ cs' b o
 | [], [], _, _, h => h
 | d :: ds, e :: es, o, ⟨h1, h2⟩, h => by
  simp only [RepCs] at h ⊢
  obtain ⟨⟨x, hx, hr⟩, h⟩ := h
  exact ⟨⟨x, hx, yQ h1 hr⟩, pD h2 h⟩
 | [], _ :: _, _, h, _ => h.elim
 | _ :: _, [], _, h, _ => h.elim
theorem pB : ∀ {cs cs' : List D}, oS cs cs' → cs'.length = cs.length
 | [], [], _ => rfl
 | d :: ds, e :: es, ⟨_, h2⟩ => by simp [pB h2]
 | [], _ :: _, h => h.elim
 | _ :: _, [], h => h.elim
theorem DE {l : Loc} {b b' : Blk} (h : blkLe b b') (hr : BRep w S φ l b) : BRep w S φ l b' := by
 rcases h with rfl | ⟨cs, cs', rfl, rfl, h⟩
 ·exact hr
 ·simp only [BRep] at hr ⊢
  rw [pB h]
  exact ⟨hr.1, hr.2.1, hr.2.2.1, hr.2.2.2.1, pD h hr.2.2.2.2⟩
def gD (mem mem' : Mem) : Prop := ∀ id blk', look mem' id = some blk' → ∃ blk, look mem id = some blk ∧ blkLe blk blk'
theorem aN (mem : Mem) : gD mem mem := fun _ b h => ⟨b, h, .inl rfl⟩
theorem y7 (mem : Mem) : gD mem [] := fun _ _ h => by simp [look] at h
theorem aU {i : Nat} {b : Blk} (h : gD mem mem') (hi : look mem' i = none) : gD ((i, b) :: mem) mem' := fun id blk hl => by
 simp only [look]
 split
 ·rename_i e; subst e; rw [hi] at hl; simp at hl
 ·exact h id blk hl
theorem lI (h : MSim S φ mem nx w) (hm : gD mem mem') (hn : nx ≤ nx') : MSim S φ mem' nx' w :=
 ⟨fun id blk hl => by obtain ⟨b, h1, h2⟩ := hm id blk hl; obtain ⟨l, h3, h4, h5⟩ := h.mem id b h1; exact ⟨l, h3, h4, DE h2 h5⟩, h.inj, h.lt, fun i hi => h.fresh i (Nat.le_trans hn hi), h.sub⟩
theorem Wk_to (he : i_ env env') (hm : gD mem mem') (hn : nx ≤ nx') : Wk C ⟨env, tl, mem, nx⟩ ⟨env', [], mem', nx'⟩ := fun B N S φ a w hN hs =>
 ⟨S, φ, ⟨hs.size, hs.defers, fun j d' hj hl => by
   obtain ⟨d, h1, h2⟩ := qR he j d' hl
   exact yQ h2 (hs.env j d hj h1), fun j d _ h => by simp [look] at h, lI hs.m hm hn⟩,
  ⟨fun _ h => h, fun _ _ _ => rfl, Nat.le_refl _, fun b _ ⟨id, blk, l, h1, h2, h3, h4⟩ => by obtain ⟨b1, g1, _⟩ := hm id blk h1; exact ⟨id, b1, l, g1, h2, h3, h4⟩, fun _ h => .inl h, rfl, rfl, rfl⟩, Grow.refl (Nat.le_trans hN hn)⟩
theorem Wk_own {j k : Nat} {d : D} (hj : look env j = some d) (hd : d = .pl (.slice none 0 0) ∨ d = .zs) : Wk C ⟨env, tl, mem, nx⟩ ⟨upd env j (.osl nx 0 0 0), [], (nx, .arr 0 k []) :: mem, nx + 1⟩ := fun B N S φ a w hN hs => by
 have hm1 : MSim S φ mem (nx + 1) w := lI hs.m (aN _) (Nat.le_succ _)
 obtain ⟨φ', h1, h2, h3, h4, h5⟩ := rH (k := k) hm1 (hs.m.fresh nx (Nat.le_refl _)) (Nat.lt_succ_self _)
 refine ⟨S, φ', ⟨hs.size, hs.defers, fun i d' hi hl => ?_, fun j d _ h => by simp [look] at h, h2⟩, h4, ⟨Nat.le_succ_of_le hN, fun i hi hnn => by rw [h5 i (by simp only at hN; omega)]; exact hnn, h3.loc⟩⟩
 rcases cY j _ env i d' hl with ⟨rfl, rfl⟩ | ⟨_, hl⟩
 ·have hr := hs.env i d hi hj
  have hz : Zs S (a.tmps.getD i undef) := by
   rcases hd with rfl | rfl
   ·simp only [Rep] at hr; exact .inl hr
   ·simpa only [Rep] using hr
  simp only [Rep]
  refine ⟨_, h1, Nat.le_refl _, ?_, fun _ => .inl ⟨rfl, trivial, trivial, hz⟩⟩
  rcases hz with h | ⟨p, h⟩ <;> exact ⟨_, _, _, h⟩
 ·exact Rep.mono h3 _ _ (hs.env i d' hi hl)
theorem sT {b : Nat} {d d' : D} : ∀ {cs : List D} {off o : Nat}, cs[off]? = some d → (∀ x, Rep w S φ d x → Rep w S φ d' x) → RepCs w S φ cs b o → RepCs w S φ (cs.set off d') b o
 | [], _, _, h, _, _ => by simp at h
 | c :: cs, 0, o, h, hd, hr => by
  simp only [List.getElem?_cons_zero, Option.some.injEq] at h; subst h
  simp only [List.set_cons_zero, RepCs] at hr ⊢
  obtain ⟨⟨x, hx, hr1⟩, h⟩ := hr
  exact ⟨⟨x, hx, hd x hr1⟩, h⟩
 | c :: cs, off + 1, o, h, hd, hr => by
  simp only [List.set_cons_succ, RepCs] at hr ⊢
  exact ⟨hr.1, sT (by simpa using h) hd hr.2⟩
theorem B2 {id off : Nat} {cs : List D} {d d' : D} (h : MSim S φ mem nx w) (hl : look mem id = some (.box cs)) (ho : cs[off]? = some d) (hd : ∀ x, Rep w S φ d x → Rep w S φ d' x) :
  MSim S φ (upd mem id (.box (cs.set off d'))) nx w :=
 ⟨fun i blk hi => by
  rcases cY id _ mem i blk hi with ⟨rfl, rfl⟩ | ⟨_, hi⟩
  ·obtain ⟨l, h1, h2, h3⟩ := h.mem i _ hl
   refine ⟨l, h1, h2, ?_⟩
   simp only [BRep, List.length_set] at h3 ⊢
   exact ⟨h3.1, h3.2.1, h3.2.2.1, h3.2.2.2.1, sT ho hd h3.2.2.2.2⟩
  ·exact h.mem i blk hi, h.inj, h.lt, h.fresh, h.sub⟩
theorem DS {id off k : Nat} {cs : List D} {d : D} (hl : look mem id = some (.box cs)) (ho : cs[off]? = some d) (hd : d = .pl (.slice none 0 0) ∨ d = .zs) :
  Wk C ⟨env, tl, mem, nx⟩ ⟨env, [], (nx, .arr 0 k []) :: upd mem id (.box (cs.set off (.osl nx 0 0 0))), nx + 1⟩ := fun B N S φ a w hN hs => by
 have hm1 : MSim S φ mem (nx + 1) w := lI hs.m (aN _) (Nat.le_succ _)
 obtain ⟨φ', h1, h2, h3, h4, h5⟩ := rH (k := k) hm1 (hs.m.fresh nx (Nat.le_refl _)) (Nat.lt_succ_self _)
 have hne : nx ≠ id := by
  rintro rfl
  obtain ⟨l, hφ, _⟩ := hs.m.mem _ _ hl
  rw [hs.m.fresh nx (Nat.le_refl _)] at hφ; simp at hφ
 have hl2 : look ((nx, Blk.arr 0 k []) :: mem) id = some (.box cs) := by simp only [look, hne, if_false]; exact hl
 have hm2 := B2 (off := off) (d' := .osl nx 0 0 0) h2 hl2 ho (fun x hr => by
  have hz : Zs S x := by
   rcases hd with rfl | rfl
   ·simp only [Rep] at hr; exact .inl hr
   ·simpa only [Rep] using hr
  simp only [Rep]
  refine ⟨_, h1, Nat.le_refl _, ?_, fun _ => .inl ⟨rfl, trivial, trivial, hz⟩⟩
  rcases hz with h | ⟨p, h⟩ <;> exact ⟨_, _, _, h⟩)
 simp only [upd, hne, if_false] at hm2
 refine ⟨S, φ', ⟨hs.size, hs.defers, fun i d' hi hl => Rep.mono h3 _ _ (hs.env i d' hi hl), fun j d _ h => by simp [look] at h, hm2⟩, ?_, ⟨Nat.le_succ_of_le hN, fun i hi hnn => by rw [h5 i (by simp only at hN; omega)]; exact hnn, h3.loc⟩⟩
 refine h4.trans ⟨fun _ h => h, fun _ _ _ => rfl, Nat.le_refl _, ?_, fun _ h => .inl h, rfl, rfl, rfl⟩
 rintro b _ ⟨i, blk, l, g1, g2, g3, g4⟩
 simp only [look] at g1
 by_cases e : nx = i
 ·subst e; exact ⟨nx, .arr 0 k [], l, by simp [look], g2, g3, g4⟩
 ·simp only [e, if_false] at g1
  rcases cY id _ mem i blk g1 with ⟨rfl, rfl⟩ | ⟨_, g1⟩
  ·exact ⟨i, _, l, hl2, g2, g3, g4⟩
  ·exact ⟨i, blk, l, by simp only [look, e, if_false]; exact g1, g2, g3, g4⟩
def tN {α : Type} (C : Cfg) (E : α → Nat → Env) (M : α → Nat → Mem) (inv : α → Nat → Prop) (μ : α → Nat) (y : α) (s : St) : Prop :=
 ∃ z n, inv z n ∧ μ z < μ y ∧ Wk C s ⟨E z n, [], M z n, n⟩
theorem aL {α : Type} {E : α → Nat → Env} {M : α → Nat → Mem} {inv : α → Nat → Prop} {μ : α → Nat} {y : α} (z : α) (hi : inv z nx) (hlt : μ z < μ y) (he : i_ env (E z nx)) (hm : gD mem (M z nx)) :
  tN C E M inv μ y ⟨env, tl, mem, nx⟩ := ⟨z, nx, hi, hlt, Wk_to he hm (Nat.le_refl _)⟩
theorem yP {α : Type} {x : AC} (E : α → Nat → Env) (M : α → Nat → Mem) (inv : α → Nat → Prop) (μ : α → Nat)
  (h0 : ∃ x0 n0, inv x0 n0 ∧ Wk C ⟨env, [], mem, nx⟩ ⟨E x0 n0, [], M x0 n0, n0⟩)
  (round : ∀ y n, inv y n → A C x (cT C (eH (tN C E M inv μ y) Q) []) (E y n) (M y n) n) : A C (.loop x) Q env mem nx := by
 rw [u5]
 obtain ⟨x0, n0, hi, hw⟩ := h0
 refine nD hw ?_
 refine C2 (α := α × Nat) (fun p => ⟨E p.1 p.2, [], M p.1 p.2, p.2⟩) (fun p => inv p.1 p.2) (fun p => μ p.1) (fun p hp => ?_) (x0, n0) hi
 refine EE ?_ (D5 (round p.1 p.2 hp))
 intro e s h
 rw [uC] at h
 cases e with
 | normal =>
  obtain ⟨z, n, h1, h2, h3⟩ := h
  exact ⟨(z, n), h1, h2, h3⟩
 | _ => exact h
theorem yU {α : Type} {x : AC} (E : α → Nat → Env) (M : α → Nat → Mem) (inv : α → Nat → Prop) (μ : α → Nat) (x0 : α) (h0 : inv x0 nx) (he : i_ env (E x0 nx)) (hm : gD mem (M x0 nx))
  (round : ∀ y n, inv y n → A C x (cT C (eH (tN C E M inv μ y) Q) []) (E y n) (M y n) n) : A C (.loop x) Q env mem nx :=
 yP E M inv μ ⟨x0, nx, h0, Wk_to he hm (Nat.le_refl _)⟩ round
def oL (ws : List Nat) : Env → Env
 | [] => []
 | (k, d) :: e => (k, if ws.contains k then .top else d) :: oL ws e
def oD : Env → List (Nat × D) → Env
 | e, [] => e
 | e, (j, d) :: r => oD (upd e j d) r
@[simp] theorem tops_nil {ws : List Nat} : oL ws [] = [] := (rfl)
@[simp] theorem tops_cons {ws : List Nat} {k : Nat} {d : D} {e : Env} : oL ws ((k, d) :: e) = (k, if ws.contains k then .top else d) :: oL ws e := (rfl)
@[simp] theorem upds_nil {e : Env} : oD e [] = e := by cases e <;> rfl
@[simp] theorem upds_cons {e : Env} {j : Nat} {d : D} {r : List (Nat × D)} : oD e ((j, d) :: r) = oD (upd e j d) r := by cases e <;> rfl
@[simp] theorem dLe_same {d : D} : dLe d d = True := by simp [dLe]
@[simp] theorem dLe_top {d : D} : dLe d .top = True := by simp [dLe]
@[simp] theorem envLe_nil : i_ [] [] = True := (rfl)
@[simp] theorem envLe_cons {k k' : Nat} {d d' : D} {e e' : Env} : i_ ((k, d) :: e) ((k', d') :: e') = (k' = k ∧ dLe d d' ∧ i_ e e') := (rfl)
@[simp] theorem memLe_same {m : Mem} : gD m m = True := eq_true (aN m)
@[simp] theorem memLe_none {m : Mem} : gD m [] = True := eq_true (y7 m)
theorem l9 {x : AC} {j k : Nat} {d : D} (hj : look env j = some d) (hd : d = .pl (.slice none 0 0) ∨ d = .zs) (h : A C (.loop x) Q (upd env j (.osl nx 0 0 0)) ((nx, .arr 0 k []) :: mem) (nx + 1)) : A C (.loop x) Q env mem nx := by
 rw [u5] at h ⊢
 exact nD (Wk_own hj hd) h
theorem kY {x : AC} {id off k : Nat} {cs : List D} {d : D} (hl : look mem id = some (.box cs)) (ho : cs[off]? = some d) (hd : d = .pl (.slice none 0 0) ∨ d = .zs)
  (h : A C (.loop x) Q env ((nx, .arr 0 k []) :: upd mem id (.box (cs.set off (.osl nx 0 0 0)))) (nx + 1)) : A C (.loop x) Q env mem nx := by
 rw [u5] at h ⊢
 exact nD (DS hl ho hd) h
@[simp] theorem EK {next : St → Prop} {s : St} : eH next Q .normal s = next s := (rfl)
@[simp] theorem thenQ_ret {next : St → Prop} {s : St} : eH next Q .ret s = Q .ret s := (rfl)
@[simp] theorem thenQ_exit {next : St → Prop} {s : St} {i : Nat} : eH next Q (.exit i) s = Q (.exit i) s := (rfl)
@[simp] theorem thenQ_goto {next : St → Prop} {s : St} {i : Nat} : eH next Q (.goto i) s = Q (.goto i) s := (rfl)
@[simp] theorem BA {s : St} : nZ Q .normal s = Q .normal s := (rfl)
@[simp] theorem EI {s : St} : nZ Q .ret s = Q .ret s := (rfl)
@[simp] theorem CL {s : St} {i : Nat} : nZ Q (.exit i) s = Q (.exit i) s := (rfl)
theorem aH {P : Program} {f : FuncId} {xs : List D} {r : D} {K : KD} (h : Pure P f xs r) (hi : D.imms xs = true) (hk : K r mem nx) : pcK P (some (.fn f [])) (some xs) mem nx K := by
 refine ⟨r, .inl ?_, ?_, hk⟩ <;> simpa
end
def em {α : Type} (enc : α → List D) (l : List α) : List (List D) := l.map enc
section
variable {α : Type} {enc : α → List D} {l : List α}
@[simp] theorem em_nil : em enc [] = [] := (rfl)
@[simp] theorem em_len : (em enc l).length = l.length := by simp [em]
@[simp] theorem CN {i : Nat} : (em enc l).take i = em enc (l.take i) := by simp [em, List.map_take]
@[simp] theorem CH {i : Nat} : (em enc l).drop i = em enc (l.drop i) := by simp [em, List.map_drop]
@[simp 1100] theorem em_get [Inhabited α] {i : Nat} : (em enc l)[i]? = if i < l.length then some (enc (l[i]?.getD default)) else none := C5 enc l i
theorem oC {x : α} : em enc l ++ [enc x] = em enc (l ++ [x]) := by simp [em]
theorem lG (h : ∀ x, D.imms (enc x) = true) : D.immss (em enc l) = true := by
 induction l with
 | nil => rfl
 | cons a l ih => simp only [em, List.map_cons, D.immss] at ih ⊢; rw [h, ih]; rfl
theorem em_els {k : Nat} (h : ∀ x, (enc x).all D.cell = true) (hk : ∀ x, (enc x).length = k) : (em enc l).all (fun e => e.length == k && e.all D.cell) = true := by
 simp only [em, List.all_map, List.all_eq_true, Function.comp_apply, Bool.and_eq_true, beq_iff_eq]
 intro x _; exact ⟨hk x, List.all_eq_true.1 (h x)⟩
theorem oT [Inhabited α] {mem : Mem} {k : Nat} {j : IntKind} {i : Int} (hk : ∀ x, (enc x).length = k) :
  iaD mem k (.sl (em enc l)) (.pl (.int j i)) = if 0 ≤ i ∧ i < l.length then some (.pt (enc (l[i.toNat]?.getD default))) else none := by
 have := ia_map (f := enc) (l := l) (mem := mem) (j := j) (i := i) hk
 simpa [em] using this
end
section
variable {C : Cfg} {P : Program} {mem mf mk : Mem} {nx : Nat} {w : World} {S : Nat → Prop} {φ : aR} {f : FuncId} {args : List D} {K : KD}
theorem aD (h : bP P f args mem nx K) : clK P (some (.fn f [])) (some args) mem nx K := by
 unfold clK; simpa using h
theorem hJ {caps : List D} (h : bP P f (args ++ caps) mem nx K) : clK P (some (.fn f caps)) (some args) mem nx K := h
theorem aG (mem : Mem) : cW mem mem := fun _ _ h => h
theorem xQ (mem : Mem) : cW mem [] := fun _ _ h => by simp [look] at h
theorem aE {i : Nat} {b : Blk} {m m' : Mem} (h : cW m m') (hi : look m' i = none) : cW ((i, b) :: m) m' := fun id blk hl => by
 simp only [look]
 split
 ·rename_i e; subst e; rw [hi] at hl; simp at hl
 ·exact h id blk hl
theorem nI {m m' : Mem} (h : cW m m') : gD m m' := fun i b hl => ⟨b, h i b hl, .inl rfl⟩
@[simp] theorem RetC_ret {rs : List RV} {s : St} : RetC rs K .ret s = ∃ ds, iY s.env s.mem rs = some ds ∧ ∃ mem', cW s.mem mem' ∧ K (gQ ds) mem' s.nx := (rfl)
@[simp] theorem EL {rs : List RV} {s : St} : RetC rs K .normal s = ∃ ds, iY s.env s.mem rs = some ds ∧ ∃ mem', cW s.mem mem' ∧ K (gQ ds) mem' s.nx := (rfl)
theorem iJ {args : List D} {res : D} (hi : D.imms args = true) (h : bP P f args [] 0 (fun d mem _ => frz mem 100 d = some res)) : Pure P f args res := by
 refine ⟨h.1, fun S w xs hS htb hx => (h.2 S bR w xs ⟨fun i b h => by simp [look] at h, fun i j l m h => by simp [bR] at h, fun i l h => by simp [bR] at h, fun _ _ => rfl, hS⟩ htb hx).mono ?_⟩
 rintro e w' ⟨v, d, mem', nx', S', φ', rfl, hk, _, hm, hr, hst, hx', _⟩
 refine ⟨v, SF S' φ' mem', rfl, iT hm 100 _ _ _ hk hr, ⟨fun b hb => .inl (hx'.sub b hb), hx'.keep, hx'.size, fun b _ h => h, ?_, hx'.os, hx'.output, hx'.tape⟩, ?_⟩
 ·rintro b (h | h)
  ·exact hx'.news b h
  ·by_cases hlt : b < w.heap.size
   ·exact .inr (.inr (hx'.own b hlt h))
   ·exact .inr (.inl (by omega))
 ·rintro b (h | ⟨i, blk, l, _, h2, h3, rfl⟩)
  ·exact hm.sub b h
  ·exact hm.lt i l h2 h3
end
section
variable {P : Program}
def scal : TypeDesc → Value → Value → Option Bool
 | .bool, .bool a, .bool b => some (a == b)
 | .int _, .int k a, .int k' b => if k = k' then some (a == b) else none
 | .string, .string a, .string b => some (a == b)
 | .float _, .float k a, .float k' b => if k = k' then some (Op.floatEq k a b) else none
 | .complex _, .complex k a b, .complex k' a' b' => if k = k' then some (Op.floatEq k a a' && Op.floatEq k b b') else none
 | _, _, _ => none
def pF (P : Program) (vs us : List Value) : List Field → Option Bool
 | [] => some true
 | f :: fs => if f.name = "_" then none else match P.underlying f.type, vs[f.offset]?, us[f.offset]? with
  | some d, some a, some b => match scal d a b, pF P vs us fs with
   | some r, some q => some (r && q)
   | _, _ => none
  | _, _, _ => none
theorem AO {t : TypeId} {d : TypeDesc} {n : Nat} {a b : Value} {r : Bool} (hd : P.underlying t = some d) (h : scal d a b = some r) : Sem.look P (Op.equalIn (n + 1) t a b) = some r ∧ d.isRow = false := by
 unfold scal at h
 split at h
 ·refine ⟨?_, rfl⟩
  simp only [Option.some.injEq] at h; subst h
  unfold Op.equalIn
  simp [Sem.look, underlying, program, hd, Pure.pure, Bind.bind, Sem.bind]
 ·rename_i k a k' b
  refine ⟨?_, rfl⟩
  simp only [Option.ite_none_right_eq_some, Option.some.injEq] at h
  obtain ⟨rfl, rfl⟩ := h
  unfold Op.equalIn
  simp [Sem.look, underlying, program, hd, Pure.pure, Bind.bind, Sem.bind]
 ·refine ⟨?_, rfl⟩
  simp only [Option.some.injEq] at h; subst h
  unfold Op.equalIn
  simp [Sem.look, underlying, program, hd, Pure.pure, Bind.bind, Sem.bind]
 ·refine ⟨?_, rfl⟩
  simp only [Option.ite_none_right_eq_some, Option.some.injEq] at h
  obtain ⟨rfl, rfl⟩ := h
  unfold Op.equalIn
  simp [Sem.look, underlying, program, hd, Pure.pure, Bind.bind, Sem.bind]
 ·refine ⟨?_, rfl⟩
  simp only [Option.ite_none_right_eq_some, Option.some.injEq] at h
  obtain ⟨rfl, rfl⟩ := h
  unfold Op.equalIn
  simp [Sem.look, underlying, program, hd, Pure.pure, Bind.bind, Sem.bind]
 ·simp at h
theorem sU {t : TypeId} {d : TypeDesc} {cs : Array Value} {off : Nat} {a : Value} (hd : P.underlying t = some d) (hr : d.isRow = false) (h : cs[off]? = some a) : Sem.look P (part t cs off) = some a := by
 unfold part
 simp only [bW]
 have : Sem.look P (isAgg t) = some false := by
  unfold isAgg
  simp only [bW, underlying, program, Sem.look, hd, Option.bind_some]
  cases d <;> simp_all [TypeDesc.isRow, Sem.look, Pure.pure]
 rw [this]
 simp only [Option.bind_some, Bool.false_eq_true, if_false, h]
 rfl
def qO (d : Nat) (xs ys : Array Value) (f : Field) (_ : Option Bool × Unit) : Sem (ForInStep (Option Bool × Unit)) :=
 if f.name ≠ "_" then
  (part f.type xs f.offset).bind fun a => (part f.type ys f.offset).bind fun b => (Op.equalIn d f.type a b).bind fun r => if (!r) = true then Sem.pure (ForInStep.done (some false, ())) else Sem.pure (ForInStep.yield (none, ()))
 else Sem.pure (ForInStep.yield (none, ()))
def eqFin (s : Option Bool × Unit) : Sem Bool :=
 match s.1 with
 | some r => Sem.pure r
 | none => Sem.pure true
theorem o5 {n : Nat} {vs us : List Value} : ∀ (l : List Field) (r : Bool), pF P vs us l = some r → Sem.look P ((forIn l ((none : Option Bool), ()) (qO (n + 1) vs.toArray us.toArray) : Sem (Option Bool × Unit)).bind eqFin) = some r
 | [], r, h => by
  simp only [pF, Option.some.injEq] at h; subst h
  rfl
 | f :: l, r, h => by
  simp only [pF] at h
  split at h
  ·simp at h
  ·rename_i hn
   split at h
   ·rename_i d a b hd ha hb
    split at h
    ·rename_i p q hp hq
     simp only [Option.some.injEq] at h; subst h
     obtain ⟨h1, h2⟩ := AO (n := n) hd hp
     have e1 : Sem.look P (part f.type vs.toArray f.offset) = some a := sU hd h2 (by simpa using ha)
     have e2 : Sem.look P (part f.type us.toArray f.offset) = some b := sU hd h2 (by simpa using hb)
     have hb0 : Sem.look P (qO (n + 1) vs.toArray us.toArray f (none, ())) = some (if (!p) = true then ForInStep.done (some false, ()) else ForInStep.yield (none, ())) := by
      unfold qO
      rw [if_pos hn]
      show Sem.look P (part f.type vs.toArray f.offset >>= fun a => part f.type us.toArray f.offset >>= fun b => Op.equalIn (n + 1) f.type a b >>= fun r => if (!r) = true then Sem.pure (ForInStep.done (some false, ())) else Sem.pure (ForInStep.yield (none, ()))) = _
      rw [bW, e1, Option.bind_some, bW, e2, Option.bind_some, bW, h1, Option.bind_some]
      cases p <;> rfl
     have ih := o5 (n := n) l q hq
     show Sem.look P ((forIn (f :: l) ((none : Option Bool), ()) (qO (n + 1) vs.toArray us.toArray) : Sem (Option Bool × Unit)) >>= eqFin) = _
     rw [List.forIn_cons, bW, bW, hb0, Option.bind_some]
     cases p with
     | false => rfl
     | true =>
      simp only [Bool.not_true, Bool.false_eq_true, if_false, Bool.true_and]
      rw [← bW]; exact ih
    ·simp at h
   ·simp at h
theorem B4 {t : TypeId} {fs : Array Field} {vs us : List Value} {r : Bool} (hu : P.underlying t = some (.struct fs)) (hs : P.stoodInHeld t = false) (h : pF P vs us fs.toList = some r) : Sem.look P (Op.equal t (.agg vs.toArray) (.agg us.toArray)) = some r := by
 have := o5 (n := 9998) fs.toList r h
 rw [show 9998 + 1 = 9999 from rfl] at this
 show Sem.look P (Op.equalIn (9999 + 1) t (.agg vs.toArray) (.agg us.toArray)) = some r
 unfold Op.equalIn
 simp only [underlying, program, Bind.bind, Sem.bind, Sem.look, hu, Pure.pure, hs, Bool.false_eq_true, if_false, ← Array.forIn_toList]
 refine Eq.trans (congrArg (Sem.look P) ?_) this
 congr 1
 ·funext s
  rcases s with ⟨_ | r, _⟩ <;> rfl
theorem CA {t : TypeId} {fs : Array Field} {xs ys : List D} {vs us : List Value} {r : Bool} (hu : P.underlying t = some (.struct fs)) (hs : P.stoodInHeld t = false) (hg : P.eqGuardType P.depth t = false)
  (hx : D.vals xs = some vs) (hy : D.vals ys = some us) (h : pF P vs us fs.toList = some r) : bD P .eql t (.agg xs) (.agg ys) = some (.pl (.bool r)) ∧ bD P .neq t (.agg xs) (.agg ys) = some (.pl (.bool (!r))) := by
 have he := B4 hu hs h
 have g : ∀ op, Sem.look P (eqGuard op t (.tmp 0) (.tmp 0) (.agg vs.toArray) (.agg us.toArray)) = some () := by
  intro op
  have e : ∀ (K : Sem Unit), Sem.look P (Sem.program fun p => Sem.program fun q => if !p.eqGuardType q.depth t then Pure.pure () else K) = some () := by
   intro K; simp only [Sem.look, hg]; rfl
  cases op <;> first | rfl | exact e _
 refine ⟨?_, ?_⟩
 ·simp only [bD, hx, hy]
  rw [bW, g, Option.bind_some]
  simp only [binOp, bW, he, Option.bind_some]; rfl
 ·simp only [bD, hx, hy]
  rw [bW, g, Option.bind_some]
  simp only [binOp, bW, he, Option.bind_some]
  cases r <;> rfl
end
theorem lpG (C : Cfg) (x : AC) (js : List Nat) {α : Type} {Q : Exit → St → Prop} {env : Env} {mem : Mem} {nx : Nat} (V : α → Nat → List (Nat × D)) (M : α → Nat → Mem) (inv : α → Nat → Prop) (μ : α → Nat) (x0 : α) (h0 : inv x0 nx) (he : i_ env (oD (oL js env) (V x0 nx))) (hm : gD mem (M x0 nx))
 (round : ∀ y n, inv y n → A C x (cT C (eH (tN C (fun y n => oD (oL js env) (V y n)) M inv μ y) Q) []) (oD (oL js env) (V y n)) (M y n) n) : A C (.loop x) Q env mem nx :=
 yU (fun y n => oD (oL js env) (V y n)) M inv μ x0 h0 he hm round
structure FI (P : Program) (f : FuncId) (C : Cfg) (a : AC) (rs : List RV) (g : List Nat) (k : Nat) : Prop where
 pu : ∀ {args : List D} {res : D}, args.length ≤ k → A C a (cT C (RetQ rs res) []) (oI g args) [] 0 → Pure P f args res
 ct : ∀ {args : List D} {mem : Mem} {nx : Nat} {K : KD}, args.length ≤ k → ((∀ i, nx ≤ i → look mem i = none) → A C a (cT C (RetC rs K) []) (oI g args) mem nx) → bP P f args mem nx K
theorem FI_of {C : Cfg} {P : Program} {f : FuncId} {fn : Func} {c : Code} {ac : AC} {rs : List RV} {g : List Nat} {k : Nat} (hf : C.P.funcs[f]? = some fn) (hname : (fn.name == "runtime.NumGoroutine") = false) (hb : fn.body = some c) (hn : fn.ntmps = C.n) (hrs : fn.results.toList.mapM C.rv = some rs) (hc : C.comp c = some ac) (hP : C.P = P) (hg : C.gs = g) (hk : C.n = k) : FI P f C ac rs g k := by
 subst hP hg hk
 exact ⟨fun hl h => D_ hf hname hb hn hl hrs hc h, fun hl h => BV hf hname hb hn hl hrs hc h⟩
end Go.Fx
namespace Go.Proofs
open Go.Shelf
def Tryd.keys23_ren : Go.Shelf.Ren := ⟨fun | 7 => 23 | 10 => 35 | n => n, fun | 23 => 67 | 26 => 9 | 3 => 3 | 28 => 65 | 0 => 0 | 27 => 64 | 33 => 81 | 4 => 4 | n => n, fun | n => n⟩
theorem Tryd.keys23 : Go.Proofs.SlLaysZ.n7 Tryd.prog Tryd.keys23_ren := {
 mixed := by kernel_rfl
 f7 := ⟨Tryd.f23.name, by decide, Tryd.func23.trans (congrArg some (by kernel_rfl))⟩
 f10 := ⟨Tryd.f35.name, by decide, Tryd.func35.trans (congrArg some (by kernel_rfl))⟩
 t0 := Tryd.underlying0
 a0 := Tryd.isAgg0
 z0 := Tryd.sizeOf0
 v0 := Tryd.zeroValue0
 t4 := Tryd.underlying4
 a4 := Tryd.isAgg4
 z4 := Tryd.sizeOf4
 v4 := Tryd.zeroValue4
 t23 := Tryd.underlying67
 a23 := Tryd.isAgg67
 z23 := Tryd.sizeOf67
 v23 := Tryd.zeroValue67
 t26 := Tryd.underlying9
 a26 := Tryd.isAgg9
 z26 := Tryd.sizeOf9
 v26 := Tryd.zeroValue9
 t27 := Tryd.underlying64
 a27 := Tryd.isAgg64
 z27 := Tryd.sizeOf64
 v27 := Tryd.zeroValue64
 t28 := Tryd.underlying65
 a28 := Tryd.isAgg65
 z28 := Tryd.sizeOf65
 v28 := Tryd.zeroValue65
 t33 := Tryd.underlying81
 a33 := Tryd.isAgg81
 z33 := Tryd.sizeOf81
 v33 := Tryd.zeroValue81 }
def Tryd.sorted22_ren : Go.Shelf.Ren := ⟨fun | 6 => 22 | 8 => 33 | 9 => 34 | 11 => 43 | 13 => 45 | 12 => 44 | 23 => 71 | 24 => 72 | 14 => 62 | 15 => 63 | 16 => 64 | 17 => 65 | 18 => 66 | 19 => 67 | 20 => 68 | 21 => 69 | 22 => 70 | 25 => 86 | 26 => 87 | 27 => 88 | 28 => 89 | 29 => 90 | 30 => 91 | 31 => 97 | n => n, fun | 26 => 9 | 28 => 65 | 24 => 22 | 0 => 0 | 3 => 3 | 37 => 95 | 48 => 122 | 50 => 97 | 4 => 4 | 40 => 114 | 39 => 113 | 45 => 119 | 5 => 5 | 9 => 9 | 51 => 137 | 55 => 141 | 57 => 144 | 58 => 128 | 33 => 81 | n => n, fun | n => n⟩
theorem Tryd.sorted22 : Go.Proofs.SlLaysZ.n6 Tryd.prog Tryd.sorted22_ren := {
 mixed := by kernel_rfl
 f6 := ⟨Tryd.f22.name, by decide, Tryd.func22.trans (congrArg some (by kernel_rfl))⟩
 f8 := ⟨Tryd.f33.name, by decide, Tryd.func33.trans (congrArg some (by kernel_rfl))⟩
 f11 := ⟨Tryd.f43.name, by decide, Tryd.func43.trans (congrArg some (by kernel_rfl))⟩
 t0 := Tryd.underlying0
 a0 := Tryd.isAgg0
 z0 := Tryd.sizeOf0
 v0 := Tryd.zeroValue0
 t24 := Tryd.underlying22
 a24 := Tryd.isAgg22
 z24 := Tryd.sizeOf22
 v24 := Tryd.zeroValue22
 t26 := Tryd.underlying9
 a26 := Tryd.isAgg9
 z26 := Tryd.sizeOf9
 v26 := Tryd.zeroValue9
 t28 := Tryd.underlying65
 a28 := Tryd.isAgg65
 z28 := Tryd.sizeOf65
 v28 := Tryd.zeroValue65
 i26 := by kernel_rfl }
def Tryd.sort34_ren : Go.Shelf.Ren := ⟨fun | 6 => 34 | 8 => 45 | 9 => 44 | 19 => 71 | 20 => 72 | 21 => 62 | 22 => 63 | 23 => 64 | 24 => 65 | 25 => 66 | 26 => 67 | 27 => 68 | 28 => 69 | 29 => 70 | 36 => 86 | 31 => 87 | 32 => 88 | 37 => 89 | 38 => 90 | 39 => 91 | 41 => 97 | n => n, fun | 27 => 22 | 29 => 9 | 3 => 3 | 32 => 95 | 26 => 22 | 0 => 0 | 44 => 122 | 46 => 97 | 4 => 4 | 36 => 114 | 35 => 113 | 41 => 119 | 5 => 5 | 9 => 9 | 53 => 137 | 57 => 141 | 63 => 144 | 64 => 128 | n => n, fun | n => n⟩
theorem Tryd.sort34 : Go.Proofs.SlLaysM.n6 Tryd.prog Tryd.sort34_ren := {
 mixed := by kernel_rfl
 f6 := ⟨Tryd.f34.name, by decide, Tryd.func34.trans (congrArg some (by kernel_rfl))⟩
 f8 := Tryd.func45.trans (congrArg some (by kernel_rfl))
 f9 := ⟨Tryd.f44.name, by decide, Tryd.func44.trans (congrArg some (by kernel_rfl))⟩
 f19 := Tryd.func71.trans (congrArg some (by kernel_rfl))
 f20 := Tryd.func72.trans (congrArg some (by kernel_rfl))
 f21 := ⟨Tryd.f62.name, by decide, Tryd.func62.trans (congrArg some (by kernel_rfl))⟩
 f22 := ⟨Tryd.f63.name, by decide, Tryd.func63.trans (congrArg some (by kernel_rfl))⟩
 f23 := ⟨Tryd.f64.name, by decide, Tryd.func64.trans (congrArg some (by kernel_rfl))⟩
 f24 := ⟨Tryd.f65.name, by decide, Tryd.func65.trans (congrArg some (by kernel_rfl))⟩
 f25 := ⟨Tryd.f66.name, by decide, Tryd.func66.trans (congrArg some (by kernel_rfl))⟩
 f26 := ⟨Tryd.f67.name, by decide, Tryd.func67.trans (congrArg some (by kernel_rfl))⟩
 f27 := ⟨Tryd.f68.name, by decide, Tryd.func68.trans (congrArg some (by kernel_rfl))⟩
 f28 := ⟨Tryd.f69.name, by decide, Tryd.func69.trans (congrArg some (by kernel_rfl))⟩
 f29 := ⟨Tryd.f70.name, by decide, Tryd.func70.trans (congrArg some (by kernel_rfl))⟩
 f31 := Tryd.func87.trans (congrArg some (by kernel_rfl))
 f32 := Tryd.func88.trans (congrArg some (by kernel_rfl))
 f36 := ⟨Tryd.f86.name, by decide, Tryd.func86.trans (congrArg some (by kernel_rfl))⟩
 f37 := ⟨Tryd.f89.name, by decide, Tryd.func89.trans (congrArg some (by kernel_rfl))⟩
 f38 := ⟨Tryd.f90.name, by decide, Tryd.func90.trans (congrArg some (by kernel_rfl))⟩
 f39 := ⟨Tryd.f91.name, by decide, Tryd.func91.trans (congrArg some (by kernel_rfl))⟩
 f41 := ⟨Tryd.f97.name, by decide, Tryd.func97.trans (congrArg some (by kernel_rfl))⟩
 t0 := Tryd.underlying0
 a0 := Tryd.isAgg0
 z0 := Tryd.sizeOf0
 v0 := Tryd.zeroValue0
 t3 := Tryd.underlying3
 a3 := Tryd.isAgg3
 z3 := Tryd.sizeOf3
 v3 := Tryd.zeroValue3
 t4 := Tryd.underlying4
 a4 := Tryd.isAgg4
 z4 := Tryd.sizeOf4
 v4 := Tryd.zeroValue4
 t5 := Tryd.underlying5
 a5 := Tryd.isAgg5
 z5 := Tryd.sizeOf5
 v5 := Tryd.zeroValue5
 t9 := Tryd.underlying9
 a9 := Tryd.isAgg9
 z9 := Tryd.sizeOf9
 v9 := Tryd.zeroValue9
 t26 := Tryd.underlying22
 a26 := Tryd.isAgg22
 z26 := Tryd.sizeOf22
 v26 := Tryd.zeroValue22
 t27 := Tryd.underlying22
 a27 := Tryd.isAgg22
 z27 := Tryd.sizeOf22
 v27 := Tryd.zeroValue22
 t29 := Tryd.underlying9
 a29 := Tryd.isAgg9
 z29 := Tryd.sizeOf9
 v29 := Tryd.zeroValue9
 t32 := Tryd.underlying95
 a32 := Tryd.isAgg95
 z32 := Tryd.sizeOf95
 v32 := Tryd.zeroValue95
 t35 := Tryd.underlying113
 a35 := Tryd.isAgg113
 z35 := Tryd.sizeOf113
 v35 := Tryd.zeroValue113
 t36 := Tryd.underlying114
 a36 := Tryd.isAgg114
 z36 := Tryd.sizeOf114
 v36 := Tryd.zeroValue114
 t41 := Tryd.underlying119
 a41 := Tryd.isAgg119
 z41 := Tryd.sizeOf119
 v41 := Tryd.zeroValue119
 t44 := Tryd.underlying122
 a44 := Tryd.isAgg122
 z44 := Tryd.sizeOf122
 v44 := Tryd.zeroValue122
 t46 := Tryd.underlying97
 a46 := Tryd.isAgg97
 z46 := Tryd.sizeOf97
 v46 := Tryd.zeroValue97
 t53 := Tryd.underlying137
 a53 := Tryd.isAgg137
 z53 := Tryd.sizeOf137
 v53 := Tryd.zeroValue137
 t57 := Tryd.underlying141
 a57 := Tryd.isAgg141
 z57 := Tryd.sizeOf141
 v57 := Tryd.zeroValue141
 t63 := Tryd.underlying144
 a63 := Tryd.isAgg144
 z63 := Tryd.sizeOf144
 v63 := Tryd.zeroValue144
 t64 := Tryd.underlying128
 a64 := Tryd.isAgg128
 z64 := Tryd.sizeOf128
 v64 := Tryd.zeroValue128 }
def Tryd.itoaM17_ren : Go.Shelf.Ren := ⟨fun | 171 => 17 | 243 => 29 | 246 => 38 | 283 => 46 | 284 => 47 | 285 => 48 | 286 => 49 | 129 => 72 | 317 => 73 | 318 => 74 | 319 => 75 | 320 => 76 | 337 => 92 | 338 => 93 | n => n, fun | 3 => 3 | 9 => 9 | 2 => 2 | 4 => 4 | 171 => 96 | 0 => 0 | 53 => 97 | 37 => 37 | 5 => 5 | 173 => 100 | 212 => 125 | 51 => 122 | 20 => 20 | 213 => 126 | 46 => 95 | 232 => 146 | 233 => 147 | n => n, fun | 17 => 0 | 18 => 1 | 19 => 2 | n => n⟩
def Tryd.itoa17_ren : Go.Shelf.Ren := ⟨fun | 171 => 17 | 243 => 29 | 246 => 38 | 283 => 46 | 284 => 47 | 285 => 48 | 286 => 49 | 129 => 72 | 317 => 73 | 318 => 74 | 319 => 75 | 320 => 76 | 337 => 92 | 338 => 93 | n => n, fun | 3 => 3 | 9 => 9 | 2 => 2 | 4 => 4 | 171 => 96 | 0 => 0 | 53 => 97 | 37 => 37 | 5 => 5 | 173 => 100 | 212 => 125 | 51 => 122 | 20 => 20 | 213 => 126 | 46 => 95 | 232 => 146 | 233 => 147 | n => n, fun | 17 => 0 | 18 => 1 | 19 => 2 | n => n⟩
theorem Tryd.itoa17 : Go.Proofs.Lays.n171 Tryd.prog Tryd.itoa17_ren := {
 mixed := by kernel_rfl
 f129 := Tryd.func72.trans (congrArg some (by kernel_rfl))
 f171 := Tryd.func17.trans (congrArg some (by kernel_rfl))
 f243 := Tryd.func29.trans (congrArg some (by kernel_rfl))
 f246 := Tryd.func38.trans (congrArg some (by kernel_rfl))
 f283 := Tryd.func46.trans (congrArg some (by kernel_rfl))
 f284 := Tryd.func47.trans (congrArg some (by kernel_rfl))
 f285 := Tryd.func48.trans (congrArg some (by kernel_rfl))
 f286 := Tryd.func49.trans (congrArg some (by kernel_rfl))
 f317 := Tryd.func73.trans (congrArg some (by kernel_rfl))
 f318 := Tryd.func74.trans (congrArg some (by kernel_rfl))
 f319 := Tryd.func75.trans (congrArg some (by kernel_rfl))
 f320 := Tryd.func76.trans (congrArg some (by kernel_rfl))
 f337 := Tryd.func92.trans (congrArg some (by kernel_rfl))
 f338 := Tryd.func93.trans (congrArg some (by kernel_rfl))
 t0 := Tryd.underlying0
 a0 := Tryd.isAgg0
 z0 := Tryd.sizeOf0
 v0 := Tryd.zeroValue0
 t2 := Tryd.underlying2
 a2 := Tryd.isAgg2
 z2 := Tryd.sizeOf2
 v2 := Tryd.zeroValue2
 t3 := Tryd.underlying3
 a3 := Tryd.isAgg3
 z3 := Tryd.sizeOf3
 v3 := Tryd.zeroValue3
 t4 := Tryd.underlying4
 a4 := Tryd.isAgg4
 z4 := Tryd.sizeOf4
 v4 := Tryd.zeroValue4
 t5 := Tryd.underlying5
 a5 := Tryd.isAgg5
 z5 := Tryd.sizeOf5
 v5 := Tryd.zeroValue5
 t9 := Tryd.underlying9
 a9 := Tryd.isAgg9
 z9 := Tryd.sizeOf9
 v9 := Tryd.zeroValue9
 t20 := Tryd.underlying20
 a20 := Tryd.isAgg20
 z20 := Tryd.sizeOf20
 v20 := Tryd.zeroValue20
 t37 := Tryd.underlying37
 a37 := Tryd.isAgg37
 z37 := Tryd.sizeOf37
 v37 := Tryd.zeroValue37
 t46 := Tryd.underlying95
 a46 := Tryd.isAgg95
 z46 := Tryd.sizeOf95
 v46 := Tryd.zeroValue95
 t51 := Tryd.underlying122
 a51 := Tryd.isAgg122
 z51 := Tryd.sizeOf122
 v51 := Tryd.zeroValue122
 t53 := Tryd.underlying97
 a53 := Tryd.isAgg97
 z53 := Tryd.sizeOf97
 v53 := Tryd.zeroValue97
 t171 := Tryd.underlying96
 a171 := Tryd.isAgg96
 z171 := Tryd.sizeOf96
 v171 := Tryd.zeroValue96
 t173 := Tryd.underlying100
 a173 := Tryd.isAgg100
 z173 := Tryd.sizeOf100
 v173 := Tryd.zeroValue100
 t212 := Tryd.underlying125
 a212 := Tryd.isAgg125
 z212 := Tryd.sizeOf125
 v212 := Tryd.zeroValue125
 t213 := Tryd.underlying126
 a213 := Tryd.isAgg126
 z213 := Tryd.sizeOf126
 t232 := Tryd.underlying146
 a232 := Tryd.isAgg146
 z232 := Tryd.sizeOf146
 v232 := Tryd.zeroValue146
 t233 := Tryd.underlying147
 a233 := Tryd.isAgg147
 z233 := Tryd.sizeOf147
 v233 := Tryd.zeroValue147
 g17 := by kernel_rfl
 g18 := by kernel_rfl
 g19 := by kernel_rfl }
end Go.Proofs
namespace Go.Fx
open Go
theorem bB {x : Int} (h1 : -9223372036854775808 ≤ x) (h2 : x ≤ 9223372036854775807) : IntKind.i64.wrap x = x := by
 simp [IntKind.wrap, IntKind.signed, IntKind.bits]; split <;> omega
def val (b : Nat) : List Nat → Nat
 | [] => 0
 | x :: xs => x + 2 ^ b * val b xs
def bits (x : Nat) (n : Nat) : List Nat := (List.range n).map fun i => x / 2 ^ i % 2
end Go.Fx
namespace Go.Fx.Flt
open Go Ieee
abbrev f : Format := Ieee.double
def Z (d : Datum) (s : Bool) (N : Nat) : Prop := ∃ p : Nat, d = .number s (N * 2 ^ p) (-(p : Int)) ∧ p ≤ 1074 ∧ (N ≠ 0 → p ≤ 200)
def geF (a b : Nat) : Bool := f.order a b == some .gt || f.order a b == some .eq
def leF (a b : Nat) : Bool := f.order a b == some .lt || f.order a b == some .eq
def eqF (a b : Nat) : Bool := f.order a b == some .eq
def ltF (a b : Nat) : Bool := f.order a b == some .lt
def truncF (b : Nat) : Nat := f.write ((f.read b).integral .zero)
abbrev cm : Nat := 13938640846711685120
abbrev cM : Nat := 4715268809856909312
def yW (b : Nat) : Bool := geF b cm && (leF b cM && (eqF b (truncF b) && (!eqF b 0 || decide (b < 2 ^ 63))))
end Go.Fx.Flt
namespace Go.Fx
open Go
open Go.Fx.Flt
section
variable {P : Program} {ty : TypeId} {a b c d : Nat}
abbrev FL (b : Nat) : D := .pl (.float .f64 b)
abbrev CX (a b : Nat) : D := .pl (.complex .f64 a b)
@[simp] theorem bi_real : biD P .real [CX a b] = some (FL a) := (rfl)
@[simp] theorem bi_imag : biD P .imag [CX a b] = some (FL b) := (rfl)
@[simp] theorem bi_complex : biD P .complex [FL a, FL b] = some (CX a b) := (rfl)
theorem D8 {s t : TypeId} {k : IntKind} {n : Int} (hs : P.underlying s = some (.int k)) (ht : P.underlying t = some (.float .f64)) : cvD P s t (.pl (.int k n)) = some (FL (FloatKind.f64.nearest n)) := by
 simp [cvD, lit, convert, underlying, program, Bind.bind, Sem.bind, Sem.look, hs, ht, Pure.pure, Conv.intToFloat]
end
def rLe (d d' : D) : Prop := ∀ (w : World) (S : Nat → Prop) (φ : aR) (x : Value), Rep w S φ d x → Rep w S φ d' x
theorem rLe.refl {d : D} : rLe d d := fun _ _ _ _ h => h
end Go.Fx
namespace Go.Fx.Flt
open Go Ieee
def ngF (b : Nat) : Nat := b ^^^ 2 ^ 63
end Go.Fx.Flt
namespace Go.Fx
open Go Go.Fx.Flt
section
variable {P : Program} {ty : TypeId} {a b c d r s : Nat}
@[simp] theorem un_negF : unD P .neg (FL a) = some (FL (ngF a)) := (rfl)
end
section
variable {C : Cfg} {Q : Exit → St → Prop} {env env' tl : Env} {mem mf mk : Mem} {nx : Nat}
end
set_option maxRecDepth 100000
abbrev Tx (l : List UInt8) : D := .pl (.string (ByteArray.mk (Array.mk l)))
abbrev By (n : Int) : D := .pl (.int .u8 n)
def c_ (b : UInt8) : List D := [By b.toNat]
def bC (l : List UInt8) : List D := [Tx l]
theorem xM {a b : List UInt8} : (ByteArray.mk (Array.mk a) = ByteArray.mk (Array.mk b)) = (a = b) := by simp
theorem oQ {l : List UInt8} : (ByteArray.mk (Array.mk l)).size = l.length := by simp [ByteArray.size]
attribute [simp] xM oQ
theorem ba_get {l : List UInt8} {i : Nat} : (ByteArray.mk (Array.mk l))[i]? = l[i]? := by
 by_cases h : i < l.length
 ·have h2 : i < (ByteArray.mk (Array.mk l)).size := by rw [oQ]; exact h
  rw [getElem?_pos (ByteArray.mk (Array.mk l)) i h2, List.getElem?_eq_getElem h]; rfl
 ·have h2 : ¬ i < (ByteArray.mk (Array.mk l)).size := by rw [oQ]; exact h
  rw [getElem?_neg (ByteArray.mk (Array.mk l)) i h2, List.getElem?_eq_none (by omega)]
def bt8 (l : List UInt8) (i : Nat) : Int := ((l[i]?.getD 0).toNat : Int)
theorem bt8_b (l : List UInt8) (i : Nat) : 0 ≤ bt8 l i ∧ bt8 l i ≤ 255 := by
 unfold bt8
 have := (l[i]?.getD 0).toNat_lt
 omega
section
variable {l k : List UInt8} {mem : Mem} {P : Program} {ty : TypeId} {lo hi : Int} {j j2 : IntKind}
@[simp] theorem ixs_T {i : Int} : ixsD (Tx l) (.pl (.int j i)) = if 0 ≤ i ∧ i < l.length then some (By (bt8 l i.toNat)) else none := by
 unfold ixsD bt8
 by_cases h : 0 ≤ i
 ·simp only [h, if_true, ba_get, true_and]
  by_cases h2 : i < l.length
  ·have h3 : i.toNat < l.length := by omega
   rw [List.getElem?_eq_getElem h3]
   simp [h2]
  ·rw [List.getElem?_eq_none (by omega)]
   simp [h2]
 ·simp [h]
theorem ba_ext {l : List UInt8} {a b : Nat} (h : b ≤ l.length) : (ByteArray.mk (Array.mk l)).extract a b = ByteArray.mk (Array.mk ((l.take b).drop a)) := by
 have : ((ByteArray.mk (Array.mk l)).extract a b).data = (Array.mk l).extract a b := by simp
 cases hx : (ByteArray.mk (Array.mk l)).extract a b with
 | mk d =>
  rw [hx] at this
  simp only at this
  rw [this]
  congr 1
  apply Array.ext'
  simp [List.extract_eq_take_drop, List.drop_take]
@[simp] theorem sls_Tl {kk : Nat} : gY mem true kk (Tx l) (some (.pl (.int j lo))) none = if 0 ≤ lo ∧ lo ≤ l.length then some (Tx (l.drop lo.toNat)) else none := by
 simp only [gY, bound, if_true, oQ]
 by_cases h : 0 ≤ lo ∧ lo ≤ l.length
 ·rw [if_pos ⟨h.1, h.2, Int.le_refl _⟩, if_pos h, ba_ext (by omega), List.take_of_length_le (by omega)]
 ·rw [if_neg (fun g => h ⟨g.1, g.2.1⟩), if_neg h]
theorem ba_app : ByteArray.mk (Array.mk l) ++ ByteArray.mk (Array.mk k) = ByteArray.mk (Array.mk (l ++ k)) := by
 cases h : ByteArray.mk (Array.mk l) ++ ByteArray.mk (Array.mk k) with
 | mk d =>
  have : (ByteArray.mk (Array.mk l) ++ ByteArray.mk (Array.mk k)).data = (Array.mk l) ++ (Array.mk k) := by simp [ByteArray.data_append]
  rw [h] at this
  simp only at this
  rw [this]; simp
theorem bY (hlt : l.length + k.length < 2 ^ 63) : bD P .add ty (Tx l) (Tx k) = some (Tx (l ++ k)) := by
 have h : Sem.look P (binOp .add ty (.string (ByteArray.mk (Array.mk l))) (.string (ByteArray.mk (Array.mk k)))) = some (.string (ByteArray.mk (Array.mk l) ++ ByteArray.mk (Array.mk k))) := by
  have h2 : ¬ (9223372036854775807 : Int) < (l.length : Int) + (k.length : Int) := by omega
  simp [binOp, Op.stringOp, Sem.look, Pure.pure, h2]
 rw [ba_app] at h
 simp only [bD, lit, Bool.and_self, if_true, h, Option.map_some]
theorem o6 : ∀ (l : List UInt8), dP (em c_ l) = some l
 | [] => rfl
 | b :: l => by
  have h := o6 l
  unfold em at h ⊢
  have hb : b.toNat < 256 := b.toNat_lt
  have : jQ (c_ b) = some b := by
   unfold jQ c_
   simp only
   rw [if_pos ⟨by omega, by omega⟩]
   simp
  simp only [List.map_cons, dP, this, h]
theorem cv_BT {s d : TypeId} (hs : gN P s = true) (hd : mK P d = true) : cvD P s d (.sl (em c_ l)) = some (Tx l) := by
 unfold cvD
 simp [hs, hd, o6]
theorem cv_TB {s d : TypeId} (hs : mK P s = true) (hd : gN P d = true) : cvD P s d (Tx l) = some (.sl (em c_ l)) := by
 unfold cvD
 simp only [hs, hd, Bool.and_self, if_true]
 rfl
theorem ia_B {i : Int} : iaD mem 1 (.sl (em c_ l)) (.pl (.int j i)) = if 0 ≤ i ∧ i < l.length then some (.pt [By (bt8 l i.toNat)]) else none := oT fun _ => rfl
theorem imm_B (l : List UInt8) : D.immss (em c_ l) = true := lG fun _ => rfl
theorem ia_T {l : List (List UInt8)} {i : Int} : iaD mem 1 (.sl (em bC l)) (.pl (.int j i)) = if 0 ≤ i ∧ i < l.length then some (.pt [Tx (l[i.toNat]?.getD default)]) else none := oT fun _ => rfl
theorem imm_T (l : List (List UInt8)) : D.immss (em bC l) = true := lG fun _ => rfl
attribute [simp] ia_B imm_B ia_T imm_T
theorem cv_B1 {s d : TypeId} (hs : gN P s = true) (hd : mK P d = true) (c : UInt8) : cvD P s d (.sl [[By c.toNat]]) = some (Tx [c]) := cv_BT (l := [c]) hs hd
theorem wru8 {x : Int} (h1 : 0 ≤ x) (h2 : x ≤ 255) : IntKind.u8.wrap x = x := by
 simp [IntKind.wrap, IntKind.signed, IntKind.bits]; omega
end
section
variable {α : Type} {enc : α → List D} {l : List α} {mem : Mem} {kk : Nat} {lo hi : Int} {j j2 : IntKind}
theorem CW (h : (em enc l).all (fun e => e.length == kk) = true) : gY mem false kk (.sl (em enc l)) (some (.pl (.int j lo))) (some (.pl (.int j2 hi))) = if 0 ≤ lo ∧ lo ≤ hi ∧ hi ≤ l.length then some (.sl (em enc ((l.take hi.toNat).drop lo.toNat))) else none := by
 simp only [gY, bound, Bool.false_eq_true, if_false, em_len, CN, CH, h, or_true, and_true]
theorem len_B {l : List UInt8} : (em c_ l).all (fun e => e.length == 1) = true := by unfold em c_; simp
@[simp] theorem sls_B2 {l : List UInt8} : gY mem false 1 (.sl (em c_ l)) (some (.pl (.int j lo))) (some (.pl (.int j2 hi))) = if 0 ≤ lo ∧ lo ≤ hi ∧ hi ≤ l.length then some (.sl (em c_ ((l.take hi.toNat).drop lo.toNat))) else none := CW len_B
end
section
variable {α : Type}
@[simp] theorem iO {i : Nat} {b : α} : ∀ {m : List (Nat × α)}, look (upd m i b) i = (look m i).map fun _ => b
 | [] => rfl
 | (k, x) :: m => by
  by_cases h : k = i
  ·simp [upd, look, h]
  ·simp only [upd, look, h, if_false]; exact iO
@[simp] theorem hZ {i : Nat} {a b : α} : ∀ {m : List (Nat × α)}, upd (upd m i a) i b = upd m i b
 | [] => rfl
 | (k, x) :: m => by
  by_cases h : k = i
  ·simp [upd, h]
  ·simp only [upd, h, if_false]; rw [hZ]
theorem cS {i j : Nat} {b : α} (h : j ≠ i) {m : List (Nat × α)} : look (upd m i b) j = look m j := aT b h m
theorem aF {i j : Nat} {b : α} : ∀ {m : List (Nat × α)}, look m j = none → look (upd m i b) j = none
 | [], _ => rfl
 | (k, x) :: m, h => by
  simp only [look] at h
  by_cases hk : k = j
  ·simp [hk] at h
  ·simp only [hk, if_false] at h
   by_cases hi : k = i
   ·simp only [upd, hi, if_true, look]
    subst hi
    simp [hk, h]
   ·simp only [upd, hi, if_false, look, hk]
    exact aF h
theorem cE {i : Nat} {b : α} : ∀ {m : List (Nat × α)}, look m i = some b → upd m i b = m
 | [], h => rfl
 | (k, x) :: m, h => by
  simp only [look] at h
  by_cases hk : k = i
  ·simp only [hk, if_true, Option.some.injEq] at h; simp [upd, hk, h]
  ·simp only [hk, if_false] at h
   simp only [upd, hk, if_false]; rw [cE h]
end
theorem neA {i a c : Nat} (h : i < a) : (a + c = i) = False := eq_false (by omega)
theorem neC {i a : Nat} (h : i < a) : (a = i) = False := eq_false (by omega)
theorem neE {L m b : Nat} (hm : L ≤ m) (h : b < L) : (m = b) = False := eq_false (by omega)
theorem ltF {L m b : Nat} (hm : L ≤ m) (h : b < L) : (b < m) = True := eq_true (by omega)
theorem nfc {p : Prop} (h : p) {L m : Nat} (hm : L ≤ m) : p ∧ (∀ b, b < L → (m = b) = False) ∧ (∀ b, b < L → (b < m) = True) := ⟨h, fun _ k => neE hm k, fun _ k => ltF hm k⟩
theorem ltA {i a c : Nat} (h : i < a) : (i < a + c) = True := eq_true (by omega)
section
variable {P : Program} {f : FuncId} {args : List D} {mem : Mem} {nx : Nat} {K K' : KD}
def KFrz (K : KD) : KD := fun d m n => ∃ mf mk d', cW m mf ∧ cW m mk ∧ (∀ i, look mf i = none ∨ look mk i = none) ∧ frz mf 100 d = some d' ∧ K d' mk n
theorem aY (h : bP P f args mem nx (KFrz K)) : bP P f args mem nx K := by
 refine ⟨h.1, fun S φ w xs hm htb hx => (h.2 S φ w xs hm htb hx).mono ?_⟩
 rintro e w' ⟨v, d, mem', nx', S', φ', he, ⟨mf, mk, d', g1, g2, gd, gf, gk⟩, hn, hm', hr, hst, hx', hlow⟩
 have hmf : MSim S' φ' mf nx' w' := lI hm' (nI g1) (Nat.le_refl _)
 have hmk0 : MSim S' φ' mk nx' w' := lI hm' (nI g2) (Nat.le_refl _)
 have hS2 : ∀ b, SF S' φ' mf b → b < w'.heap.size := by
  rintro b (h | ⟨i, blk, l, _, k2, k3, rfl⟩)
  ·exact hm'.sub b h
  ·exact hm'.lt i l k2 k3
 have hmk : MSim (SF S' φ' mf) φ' mk nx' w' := ⟨fun i blk hi => by
   obtain ⟨l, k1, k2, k3⟩ := hmk0.mem i blk hi
   refine ⟨l, k1, fun hr hs => ?_, BRep.mono mH (fun _ => rfl) blk k3⟩
   rcases hs with hs | ⟨j, blk', l', j1, j2, j3, j4⟩
   ·exact k2 hr hs
   ·have := hm'.inj j i l' l j2 k1 j3 hr j4
    subst this
    rcases gd j with e | e
    ·rw [e] at j1; simp at j1
    ·rw [e] at hi; simp at hi, hm'.inj, hm'.lt, hm'.fresh, hS2⟩
 have hst2 : Stays w' S' φ' w' (SF S' φ' mf) φ' := mH
 refine ⟨v, d', mk, nx', SF S' φ' mf, φ', he, gk, hn, hmk, Rep.mono (φ' := φ') ⟨fun _ h => h, fun _ _ _ => rfl, fun _ _ h => by simp [bR] at h⟩ _ _ (iT hmf 100 d d' _ gf hr),
  ⟨fun b hb => .inl (hst.sub b hb), hst.cell, hst.loc⟩, ⟨fun b hb => .inl (hx'.sub b hb), fun b hb ho => hx'.keep b hb ho, hx'.size, fun b hb ho => hx'.own b hb ?_, fun b hb => ?_, hx'.os, hx'.output, hx'.tape⟩, hlow⟩
 ·obtain ⟨i, blk, l, k1, k2, k3, k4⟩ := ho
  exact ⟨i, blk, l, g2 i blk k1, k2, k3, k4⟩
 ·rcases hb with h | ⟨i, blk, l, k1, k2, k3, k4⟩
  ·exact hx'.news b h
  ·by_cases hlt : b < w.heap.size
   ·exact .inr (.inr (hx'.own b hlt ⟨i, blk, l, g1 i blk k1, k2, k3, k4⟩))
   ·exact .inr (.inl (by omega))
theorem xR {m : Mem} {L : Nat} {b : Blk} (h : look m L = some b) : cW m [(L, b)] := fun i x hx => by
 simp only [look] at hx
 split at hx
 ·rename_i e
  simp only [Option.some.injEq] at hx
  rw [← e, ← hx]; exact h
 ·simp at hx
theorem dM {m m0 : Mem} {d d' : D} {n : Nat} (h1 : cW m m0) (h2 : frz [] 100 d = some d') (h3 : K d' m0 n) : ∃ mem', cW m mem' ∧ KFrz K d mem' n :=
 ⟨m0, h1, [], m0, d', xQ _, aG _, fun _ => .inl rfl, h2, h3⟩
theorem kP {m mk : Mem} {d d' : D} {n : Nat} (L : Nat) (b : Blk) (hL : look m L = some b) (h1 : cW m mk) (hn : look mk L = none) (h2 : frz [(L, b)] 100 d = some d') (h3 : K d' mk n) : ∃ mem', cW m mem' ∧ KFrz K d mem' n :=
 ⟨m, aG _, [(L, b)], mk, d', xR hL, h1, fun i => by
  by_cases e : L = i
  ·subst e; exact .inr hn
  ·left; simp [look, e], h2, h3⟩
end
abbrev Sm := List (List UInt8 × Int)
def aV (m : Sm) : List (Value × D) := m.map fun p => (.string (ByteArray.mk (Array.mk p.1)), .pl (.int .i64 p.2))
def fE : Sm → List UInt8 → Option Int
 | [], _ => none
 | p :: m, k => if p.1 = k then some p.2 else fE m k
def dU : Sm → List UInt8 → Int → Sm
 | [], k, v => [(k, v)]
 | p :: m, k, v => if p.1 = k then (k, v) :: m else p :: dU m k v
def cF (m : Sm) (k : List UInt8) : Int := (fE m k).getD 0
theorem yI (m : Sm) (k j : List UInt8) (v : Int) : fE (dU m k v) j = if k = j then some v else fE m j := by
 induction m with
 | nil => simp [dU, fE]
 | cons p m ih =>
  by_cases h : p.1 = k
  ·by_cases h2 : k = j
   ·simp [dU, fE, h, h2]
   ·simp [dU, fE, h, h2]
  ·by_cases h2 : k = j
   ·subst h2
    simp only [dU, h, if_false, fE, ih, if_true]
   ·by_cases h3 : p.1 = j
    ·rw [dU, if_neg h, fE, if_pos h3, fE, if_pos h3, if_neg h2]
    ·simp only [dU, h, if_false, fE, h3, ih, h2]
theorem pY (m : Sm) (k j : List UInt8) (v : Int) : cF (dU m k v) j = if k = j then v else cF m j := by
 unfold cF
 rw [yI]
 split <;> rfl
theorem sm_ok (m : Sm) : (aV m).all (fun e => kOk none e.1) = true := by
 unfold aV; simp [kOk]
theorem CQ (m : Sm) (k : List UInt8) : gC (.string (ByteArray.mk (Array.mk k))) (aV m) = (fE m k).map fun v => .pl (.int .i64 v) := by
 induction m with
 | nil => rfl
 | cons p m ih =>
  unfold aV at ih ⊢
  simp only [List.map_cons, gC, e9, fE, xM, decide_eq_true_eq]
  split
  ·rfl
  ·exact ih
theorem sm_put (m : Sm) (k : List UInt8) (v : Int) : iF (.string (ByteArray.mk (Array.mk k))) (.pl (.int .i64 v)) (aV m) = aV (dU m k v) := by
 induction m with
 | nil => rfl
 | cons p m ih =>
  unfold aV at ih ⊢
  simp only [List.map_cons, iF, e9, dU, xM, decide_eq_true_eq]
  split
  ·rfl
  ·rw [ih]; rfl
def mapE (kd : Option IntKind) : Option Blk → Option (List (Value × D))
 | some (.map es) => if es.all (fun e => kOk kd e.1) then some es else none
 | _ => none
def lkE (o : Option (List (Value × D))) (kd : Option IntKind) (z : Value) (two : Bool) (k : D) : Option D :=
 match k, o with
 | .pl k, some es => if kOk kd k then some (match gC k es with
  | some v => if two then .tup [v, .pl (.bool true)] else v
  | none => if two then .tup [zD z, .pl (.bool false)] else zD z) else none
 | _, _ => none
def mupE (o : Option Blk) (mem : Mem) (id : Nat) (kd : Option IntKind) (k : Value) (v : D) : Option (D × Mem) :=
 match o with
 | some (.map es) => if kOk kd k ∧ es.all (fun e => kOk kd e.1) then some (.top, upd mem id (.map (iF k v es))) else none
 | _ => none
section
variable {mem : Mem} {id : Nat} {kd : Option IntKind} {z : Value} {two : Bool} {m k : D}
@[simp] theorem lkD_E : lkD mem kd z two m k = lkE (mY mem kd m) kd z two k := (rfl)
@[simp] theorem mapOf_E : mY mem kd (.omap id) = mapE kd (look mem id) := (rfl)
@[simp] theorem mupM_E {k : Value} {v : D} : j6 mem kd (some (.omap id)) (some (.pl k)) (some v) = mupE (look mem id) mem id kd k v := (rfl)
@[simp] theorem mapE_S {m : Sm} : mapE none (some (.map (aV m))) = some (aV m) := by
 show (if (aV m).all (fun e => kOk none e.1) = true then some (aV m) else none) = _
 rw [if_pos (sm_ok m)]
@[simp] theorem mapE_0 : mapE none (some (.map [])) = some (aV []) := (rfl)
@[simp] theorem lkE_S {m : Sm} {k : List UInt8} : lkE (some (aV m)) none (.int .i64 0) false (Tx k) = some (.pl (.int .i64 (cF m k))) := by
 unfold lkE cF
 simp only [kOk, if_true, CQ]
 cases fE m k with
 | none => rfl
 | some v => rfl
@[simp] theorem mupE_S {m : Sm} {k : List UInt8} {v : Int} : mupE (some (.map (aV m))) mem id none (.string (ByteArray.mk (Array.mk k))) (.pl (.int .i64 v)) = some (.top, upd mem id (.map (aV (dU m k v)))) := by
 show (if kOk none (.string (ByteArray.mk (Array.mk k))) = true ∧ (aV m).all (fun e => kOk none e.1) = true then some (D.top, upd mem id (.map (iF (.string (ByteArray.mk (Array.mk k))) (.pl (.int .i64 v)) (aV m)))) else none) = _
 rw [if_pos ⟨rfl, sm_ok m⟩, sm_put]
@[simp] theorem mupE_0 {k : List UInt8} {v : Int} : mupE (some (.map [])) mem id none (.string (ByteArray.mk (Array.mk k))) (.pl (.int .i64 v)) = some (.top, upd mem id (.map (aV (dU [] k v)))) := (rfl)
end
inductive rLc : List D → List D → Prop where
 | nil : rLc [] []
 | cons {d d' : D} {ds ds' : List D} (h : rLe d d') (k : rLc ds ds') : rLc (d :: ds) (d' :: ds')
inductive rLe2 : List (List D) → List (List D) → Prop where
 | nil : rLe2 [] []
 | cons {d d' : List D} {ds ds' : List (List D)} (h : rLc d d') (k : rLe2 ds ds') : rLe2 (d :: ds) (d' :: ds')
theorem rLc.refl : ∀ {ds : List D}, rLc ds ds
 | [] => .nil
 | _ :: _ => .cons rLe.refl rLc.refl
theorem rLe2.refl : ∀ {ds : List (List D)}, rLe2 ds ds
 | [] => .nil
 | _ :: _ => .cons rLc.refl rLe2.refl
theorem rLc.len {ds ds' : List D} (h : rLc ds ds') : ds'.length = ds.length := by
 induction h with
 | nil => rfl
 | cons _ _ ih => simp [ih]
theorem rLe2.len {ds ds' : List (List D)} (h : rLe2 ds ds') : ds'.length = ds.length := by
 induction h with
 | nil => rfl
 | cons _ _ ih => simp [ih]
section
variable {P : Program} {f : FuncId} {args args' : List D} {mem mf : Mem} {nx : Nat} {K : KD}
end
section
variable {C : Cfg} {w w' W W' : World} {S S' : Nat → Prop} {φ φ' : aR} {a : Act} {env tl : Env} {mem mem' : Mem} {nx nx' : Nat} {x : Rx} {s : St}
theorem x_ (hb : ∀ b, S b ∨ Own φ mem b → w'.heap[b]? = w.heap[b]?) (hn : w.heap.size ≤ w'.heap.size) (hm : MSim S φ mem nx w) : MSim S φ mem nx w' ∧ Stays w S φ w' S φ := by
 have hst : Stays w S φ w' S φ := Stays.of_heap (fun _ h => h) (fun b h => hb b (.inl h)) (fun _ _ h => h)
 refine ⟨⟨fun i blk hi => ?_, hm.inj, fun i l h1 h2 => Nat.lt_of_lt_of_le (hm.lt i l h1 h2) hn, hm.fresh, fun b h => Nat.lt_of_lt_of_le (hm.sub b h) hn⟩, hst⟩
 obtain ⟨l, g1, g2, g3⟩ := hm.mem i blk hi
 exact ⟨l, g1, g2, g3.mono hst fun hr => hb _ (.inr ⟨i, blk, l, hi, g1, hr, rfl⟩)⟩
structure Grown (w w' : World) : Prop where
 size : w.heap.size ≤ w'.heap.size
 same : ∀ b, b < w.heap.size → w'.heap[b]? = w.heap[b]?
 os : w'.os = w.os
 output : w'.output = w.output
 tape : w'.tape = w.tape
theorem own_lt (hm : MSim S φ mem nx w) {b : Nat} (h : S b ∨ Own φ mem b) : b < w.heap.size := by
 rcases h with h | ⟨i, blk, l, _, h2, h3, rfl⟩
 ·exact hm.sub b h
 ·exact hm.lt i l h2 h3
theorem Grown.ext (h : Grown w w') : Ext S φ mem w S φ mem w' := ⟨fun _ h => h, fun b hb _ => h.same b hb, h.size, fun _ _ h => h, fun _ h => .inl h, h.os, h.output, h.tape⟩
end
section
variable {C : Cfg} {Q : Exit → St → Prop} {env : Env} {mem : Mem} {nx : Nat}
end
section
variable {C : Cfg} {w : World} {S : Nat → Prop} {φ : aR} {a : Act} {env tl : Env} {mem : Mem} {nx : Nat}
end
section
variable {P : Program} {ty e : TypeId} {f : FuncId} {r : D} {es : List (List D)}
end
mutual
/-- Nothing in it but plain values and what leads to blocks of m. -/
def D.cln (m : Mem) : D → Bool
 | .pl _ => true
 | .zs => true
 | .osl id _ _ _ => (look m id).isSome
 | .opt id _ => (look m id).isSome
 | .omap id => (look m id).isSome
 | .agg cs => D.clns m cs
 | .tup cs => D.clns m cs
 | _ => false
def D.clns (m : Mem) : List D → Bool
 | [] => true
 | d :: ds => d.cln m && D.clns m ds
end
def Blk.cln (m : Mem) : Blk → Bool
 | .box cs => D.clns m cs
 | .arr _ _ es => es.all (D.clns m)
 | .map es => es.all fun e => e.2.cln m
section
variable {w : World} {S S' : Nat → Prop} {φ φ' : aR} {m : Mem}
end
open Go.Proofs Go.Maps Go.Sort Go.RowKit
section
variable {w w' : World} {S : Nat → Prop} {φ : aR} {mem : Mem} {nx : Nat}
theorem Grown.of_below (h : Below w.heap.size w w') : Grown w w' := ⟨h.size, h.block, h.os, h.output, h.tape⟩
theorem zY (hm : MSim S φ mem nx w) (hg : Grown w w') {l : Loc} {blk : Blk} (hr : l.real = true) (h1 : w.heap.size ≤ l.b) (h2 : l.b < w'.heap.size) (hb : ∀ φ', φ' nx = some l → Stays w S φ w' S φ' → BRep w' S φ' l blk) :
  ∃ φ', φ' nx = some l ∧ MSim S φ' ((nx, blk) :: mem) (nx + 1) w' ∧ Stays w S φ w' S φ' ∧ Ext S φ mem w S φ' ((nx, blk) :: mem) w' ∧ ∀ i, i ≠ nx → φ' i = φ i := by
 have hnx : φ nx = none := hm.fresh nx (Nat.le_refl _)
 have hst : Stays w S φ w' S (fun i => if i = nx then some l else φ i) := by
  refine ⟨fun b h => h, fun b h o' => eL (hg.same b (hm.sub b h)) o', fun i l1 h => ?_⟩
  have e : i ≠ nx := by rintro rfl; rw [hnx] at h; simp at h
  exact ⟨l1, by simp [e, h], .inl rfl⟩
 refine ⟨fun i => if i = nx then some l else φ i, by simp, ⟨?_, ?_, ?_, ?_, ?_⟩, hst, ⟨fun b h => h, fun b hb' _ => hg.same b hb', hg.size, ?_, fun b h => .inl h, hg.os, hg.output, hg.tape⟩, fun i h => by simp [h]⟩
 ·intro i blk' hi
  rw [a_] at hi
  split at hi
  ·rename_i e; subst e
   simp only [Option.some.injEq] at hi; subst hi
   exact ⟨l, by simp, fun _ h => by have := hm.sub _ h; omega, hb _ (by simp) hst⟩
  ·rename_i e
   obtain ⟨l1, k1, k2, k3⟩ := hm.mem i blk' hi
   exact ⟨l1, by simp [Ne.symm e, k1], k2, k3.mono hst fun hr => hg.same _ (hm.lt i l1 k1 hr)⟩
 ·intro i j l1 l2 h1' h2' r1 r2 hbb
  by_cases e1 : i = nx <;> by_cases e2 : j = nx
  ·rw [e1, e2]
  ·simp only [e1, if_true, Option.some.injEq] at h1'
   simp only [e2, if_false] at h2'
   have := hm.lt j l2 h2' r2
   subst h1'; omega
  ·simp only [e2, if_true, Option.some.injEq] at h2'
   simp only [e1, if_false] at h1'
   have := hm.lt i l1 h1' r1
   subst h2'; omega
  ·simp only [e1, if_false] at h1'
   simp only [e2, if_false] at h2'
   exact hm.inj i j l1 l2 h1' h2' r1 r2 hbb
 ·intro i l1 h hr1
  by_cases e : i = nx
  ·simp only [e, if_true, Option.some.injEq] at h; subst h; exact h2
  ·simp only [e, if_false] at h
   exact Nat.lt_of_lt_of_le (hm.lt i l1 h hr1) hg.size
 ·intro i h
  have e : i ≠ nx := by omega
  simp only [e, if_false]; exact hm.fresh i (by omega)
 ·intro b h; exact Nat.lt_of_lt_of_le (hm.sub b h) hg.size
 ·rintro b hlt' ⟨i, blk', l1, g1, g2, g3, g4⟩
  rw [a_] at g1
  split at g1
  ·rename_i e; subst e
   simp only [if_true, Option.some.injEq] at g2; subst g2; omega
  ·rename_i e
   simp only [Ne.symm e, if_false] at g2
   exact ⟨i, blk', l1, g1, g2, g3, g4⟩
end
def sR (P : Program) (fS fK : FuncId) (kt : TypeId) : Prop :=
 ∀ (bb b nn : Nat) (D0 : DataW Unit) (R : Value → Option (DataW Unit × List MemPlace)) (w : World), bb < w.heap.size → w.cell? ⟨bb, 0, none⟩ = some (.map (some b)) → w.ownsMap P kt R b nn D0 → Maps.size D0 ≤ maxLen → Maps.size D0 * 16 ≤ 140737488355328 →
  Calls P fS #[.func (.func fK) #[] #[.pointer (some ⟨bb, 0, none⟩)]] w fun e w' => ∃ (v : Value) (ss : List (List UInt8)), e = .returned v ∧ ss.Perm (strKeys D0) ∧
   w'.ownsRow w.heap.size kt 1 v ss.length ((ss.mergeSort (fun x y => decide (x ≤ y))).map encStr) ∧ (v = .slice none 0 0 ↔ ss = []) ∧ Below w.heap.size w w'
section
variable {w w' : World} {S : Nat → Prop} {φ : aR} {mem : Mem} {nx : Nat} {P : Program} {kt : TypeId}
theorem uI (hkt : P.underlying kt = some .string) {R : Value → Option (DataW Unit × List MemPlace)} (hR : ∀ v, R v = some (.nil, [])) : ∀ (c : Sm) (ms : List MapEntry), (∀ p ∈ c, p.1.length ≤ maxLen) → RepMs w S φ (aV c) ms →
  ms.map (WideElems.rg P kt R) = c.map (fun p => (Lit.string p.1, DataW.nil)) ∧ ∀ x ∈ ms, ∃ y, WideElems.rd P kt R x = some y
 | [], ms, _, h => by
  simp only [aV, List.map_nil, RepMs] at h; subst h
  exact ⟨rfl, by simp⟩
 | p :: c, ms, hp, h => by
  simp only [aV, List.map_cons, RepMs] at h
  obtain ⟨m, r, rfl, h1, h2, h3⟩ := h
  obtain ⟨i1, i2⟩ := uI hkt hR c r (fun q hq => hp q (by simp [hq])) h3
  have hk : keyOf P kt m.key = some (.string p.1) := by
   rw [h1]
   have := hp p (by simp)
   simp [keyOf, hkt, mapKey, this, ByteArray.size]
  have hrd : WideElems.rd P kt R m = some (.string p.1, .nil) := by
   simp [WideElems.rd, hk, hR]
  refine ⟨by simp only [List.map_cons, i1]; simp [WideElems.rg, hrd], fun x hx => ?_⟩
  rcases List.mem_cons.1 hx with rfl | hx
  ·exact ⟨_, hrd⟩
  ·exact i2 x hx
theorem xO {gb : Nat} {cs : Array Value} {t : TypeId} (hc : w.heap[gb]? = some (.cells cs t (0, 0))) {l : List (List UInt8)} (h : cs.toList.take (l.length * 1) = l.map encStr) : RepEs w S φ (em bC l) 1 gb 0 := by
 refine fM _ _ _ _ fun i e he => ?_
 simp only [em, List.getElem?_map, Option.map_eq_some_iff] at he
 obtain ⟨x, hx, rfl⟩ := he
 have hi : i < l.length := (List.getElem?_eq_some_iff.1 hx).1
 refine ⟨rfl, ?_⟩
 simp only [bC, RepCs, and_true]
 refine ⟨encStr x, ?_, ?_⟩
 ·have h2 : (l.map encStr)[i]? = some (encStr x) := by rw [List.getElem?_map, hx]; rfl
  rw [← h, List.getElem?_take, if_pos (by omega), Array.getElem?_toList] at h2
  simp [World.cell?, hc, h2]
 ·simp only [Rep]
  first | done | rfl
theorem CE {fS fK : FuncId} {kb id : Nat} {c : Sm} {K : KD} (he : tK P fS) (hs : sR P fS fK kt) (hkt : P.underlying kt = some .string)
  (hb : look mem kb = some (.box [.omap id])) (hm : look mem id = some (.map (aV c))) (hlen : c.length ≤ 2 ^ 42) (hk : ∀ p ∈ c, p.1.length ≤ maxLen)
  (h0 : c = [] → ∀ n', nx ≤ n' → K (.pl (.slice none 0 0)) mem n')
  (h1 : c ≠ [] → ∀ n', nx < n' → K (.osl nx 0 0 c.length) ((nx, .arr 0 1 (em bC ((c.map Prod.fst).mergeSort fun x y => decide (x ≤ y)))) :: mem) n') : bP P fS [.fn fK [.opt kb 0]] mem nx K := by
 refine ⟨he, fun S φ w xs hms htb hx => ?_⟩
 simp only [RepVs] at hx
 obtain ⟨x, r, rfl, hx, rfl⟩ := hx
 simp only [Rep] at hx
 obtain ⟨vs, rfl, hv⟩ := hx
 simp only [RepVs] at hv
 obtain ⟨y, r, hvs, hy, rfl⟩ := hv
 simp only [Rep] at hy
 obtain ⟨lb, hlb, _, rfl⟩ := hy
 obtain ⟨l', g1, g2, g3⟩ := hms.mem kb _ hb
 rw [hlb] at g1; simp only [Option.some.injEq] at g1; subst g1
 simp only [BRep] at g3
 obtain ⟨r1, _, base0, ⟨c0, t0, hc0, _⟩, hcs⟩ := g3
 simp only [RepCs, and_true] at hcs
 obtain ⟨v, hcell, hrm⟩ := hcs
 obtain ⟨lm, ms, clock, k1, k2, k3, rfl, k5, k6, k7⟩ := qH hm hrm hms
 have hvs2 : vs = #[.pointer (some ⟨lb.b, 0, none⟩)] := by
  rw [base0] at hvs
  exact Array.toList_inj.1 (by simpa using hvs)
 subst hvs2
 obtain ⟨q1, q2⟩ := uI (R := fun _ => some (.nil, [])) hkt (fun _ => rfl) c ms.toList hk k6
 have hsz : ms.size = c.length := by
  have := congrArg List.length q1
  simpa using this
 have hml : maxLen = 2 ^ 63 - 1 := rfl
 have hown : w.ownsMap P kt (fun _ => some (.nil, [])) lm.b ms.size (.map ((ms.toList.map (WideElems.rg P kt (fun _ => some ((.nil : DataW Unit), [])))).foldr DataW.insert [])) :=
  ⟨ms, clock, k5, ⟨by omega, k7, q2⟩, Nat.le_refl _, rfl⟩
 have hsize : Maps.size (DataW.map ((ms.toList.map (WideElems.rg P kt (fun _ => some ((.nil : DataW Unit), [])))).foldr DataW.insert [])) = c.length := by
  rw [Maps.size_eq, DataW.length_sorted, List.length_map, Array.length_toList, hsz]
 have hperm : (strKeys (DataW.map ((ms.toList.map (WideElems.rg P kt (fun _ => some ((.nil : DataW Unit), [])))).foldr DataW.insert []))).Perm (c.map Prod.fst) := by
  rw [q1]
  have h := (WideShapes.sorted_perm (H := Unit) (c.map (fun p => (Lit.string p.1, DataW.nil)))).map (fun p => strOf p.1)
  simpa [strKeys, strOf, Function.comp_def] using h
 refine (hs lb.b lm.b ms.size _ _ w (hms.lt kb lb hlb r1) hcell hown (by omega) (by omega)).mono ?_
 rintro e w' ⟨v, ss, rfl, hp, hrow, hnil, hbel⟩
 have hg := Grown.of_below hbel
 have hp2 := hp.trans hperm
 have hsl : ss.length = c.length := by rw [hp2.length_eq, List.length_map]
 have hms2 : ss.mergeSort (fun x y => decide (x ≤ y)) = (c.map Prod.fst).mergeSort fun x y => decide (x ≤ y) := mergeSort_of_perm hp2
 by_cases hc : c = []
 ·have hss : ss = [] := by
   subst hc
   exact List.eq_nil_of_length_eq_zero (by simpa using hsl)
  have hv := hnil.2 hss
  subst hv
  obtain ⟨m1, m2⟩ := x_ (fun b hb' => hg.same b (own_lt hms hb')) hg.size hms
  exact ⟨_, _, mem, nx, S, φ, rfl, h0 hc nx (Nat.le_refl _), Nat.le_refl _, m1, by simp only [Rep], m2, hg.ext, fun i _ h => h⟩
 ·obtain ⟨hl, hrow⟩ := hrow
  have hss : ss ≠ [] := fun e => hc (List.eq_nil_of_length_eq_zero (by rw [← hsl, e]; rfl))
  rcases hrow with ⟨rfl, hz⟩ | ⟨gb, cap, cur, rfl, hbase, hgb, r1', r2', r3', r4'⟩
  ·exact absurd (hnil.1 rfl) hss
  have hgl : gb < w'.heap.size := (Array.getElem?_eq_some_iff.1 hgb).1
  rw [hms2] at r4'
  have hlen2 : ((c.map Prod.fst).mergeSort fun x y => decide (x ≤ y)).length = c.length := by simp
  obtain ⟨φ', p1, p2, p3, p4, p5⟩ := zY (l := ⟨true, true, gb, 0, 1, 0, cur.size⟩) (blk := .arr 0 1 (em bC ((c.map Prod.fst).mergeSort fun x y => decide (x ≤ y)))) hms hg rfl hbase hgl (fun φ' _ _ => by
   simp only [BRep]
   refine ⟨trivial, trivial, trivial, .inr ⟨trivial, ⟨cur, kt, hgb, rfl⟩, ?_, xO hgb ?_⟩⟩
   ·simp only [em, List.length_map, hlen2]; omega
   ·rw [hlen2, ← hsl]; exact r4')
  refine ⟨_, _, _, nx + 1, S, φ', rfl, h1 hc (nx + 1) (by omega), by omega, p2, ?_, p3, p4, fun i hi hn => by rw [p5 i (by omega)]; exact hn⟩
  simp only [Rep]
  refine ⟨_, p1, by simp, ⟨_, _, _, rfl⟩, fun _ => .inr (.inl ⟨rfl, cap, ?_, by omega, by simp only; omega⟩)⟩
  rw [hsl]; simp
end
section
variable {P : Program} {f : FuncId} {args : List D} {mem : Mem} {nx k : Nat} {K : KD}
end
end Go.Fx
set_option maxHeartbeats 4000000
namespace Go.Fx.YtackkeoannbnbaaDoor
open Go Go.Fx Go.Proofs Go.RowKit Go.Maps Go.Sort Go.Shelf
theorem sorts6 (m : Nat) : AnyZ.SortsIn Tryd.prog Tryd.sorted22_ren Fence.wide m :=
 ⟨fun blk off cap ss W hH hblk hsz => callsIn_wide.2 (AnyM.slices_Sort_string Tryd.sort34 blk off cap ss W hH hblk hsz),
  fun p cap W => callsIn_wide.2 (AnyM.slices_Sort_string_none Tryd.sort34 p cap W)⟩
theorem AR : sR Tryd.prog 22 35 9 := by
 intro bb b nn D0 R w hbb hcell hown hmax hbytes
 have hseq : SeqGives Fence.wide 2 Tryd.prog 35 #[.pointer (some ⟨bb, 0, none⟩)] encStr (fun ss => ss.Perm (strKeys D0)) (Maps.size D0) w :=
  AnyZ.keys_gives (ρ := Tryd.keys23_ren) { Tryd.keys23 with } Fence.wide _ trivial rfl (by omega) bb b nn D0 w hbb hcell hown
 exact callsIn_wide.1 (AnyZ.sorted_in Tryd.sorted22 Fence.wide 5 trivial trivial trivial trivial rfl (by omega) (sorts6 _) (enters_of Tryd.func34 (by kernel_rfl) rfl) 35 #[.pointer (some ⟨bb, 0, none⟩)] trivial (enters_of Tryd.func35 (by kernel_rfl) rfl) _ _ hmax hbytes _ hseq)
theorem CU {kb id : Nat} {c : Sm} {mem : Mem} {nx : Nat} {K : KD} (hb : look mem kb = some (.box [.omap id])) (hm : look mem id = some (.map (aV c))) (hlen : c.length ≤ 2 ^ 42) (hk : ∀ p ∈ c, p.1.length ≤ maxLen)
  (h0 : c = [] → ∀ n', nx ≤ n' → K (.pl (.slice none 0 0)) mem n')
  (h1 : c ≠ [] → ∀ n', nx < n' → K (.osl nx 0 0 c.length) ((nx, .arr 0 1 (em bC ((c.map Prod.fst).mergeSort fun x y => decide (x ≤ y)))) :: mem) n') : bP Tryd.prog 22 [.fn 35 [.opt kb 0]] mem nx K :=
 CE ⟨Tryd.f22, Tryd.func22, by kernel_rfl, by kernel_rfl⟩ AR Tryd.underlying9 hb hm hlen hk h0 h1
theorem xA (i : Nat) (hi : i < 100) : Pure Tryd.prog 17 [.pl (.int .i64 i)] (Tx (Lib.decDigits i)) := by
 refine ⟨⟨Tryd.f17, Tryd.func17, by kernel_rfl, by kernel_rfl⟩, fun S w xs hS htb hx => ?_⟩
 simp only [RepVs, Rep] at hx
 obtain ⟨x, r, rfl, rfl, rfl⟩ := hx
 refine (Any.strconv_Itoa_small Tryd.itoa17 i hi w).mono ?_
 rintro e w' ⟨rfl, rfl⟩
 exact ⟨_, S, rfl, by simp only [Rep], Ext.refl _ _ _ _, hS⟩
set_option maxRecDepth 1000000
open Go.Proofs.YtackkeoannbnbaaDoor
theorem tb_of_laid {w : World} {n0 n1 n2 : String} {d0 d1 : DataW Unit} (hplain : ([(n0, d0), (n1, d1), (n2, Rows.laid_internal_strconv_uint64pow10)].all fun x => x.2.handleName?.isNone) = true)
  (h : laidMetH Tryd.prog [(n0, d0), (n1, d1), (n2, Rows.laid_internal_strconv_uint64pow10)] w) {G : Nat} (hg : Tryd.prog.globalNamed n2 = some G)
  (hty : (Tryd.prog.globals[G]?).map (·.type) = some 125) (hce : Tryd.prog.cellsOf 97 = 1) (hct : Tryd.prog.cellsOf 125 = 20)
  (hu : (Tryd.prog.globals.toList.zipIdx.all fun x => !is20 Tryd.prog x.1.type || x.2 == G) = true) : TB Tryd.prog (· < w.heap.size) w := by
 rw [MakeChecks.laidMetH_plain _ _ _ hplain] at h
 obtain ⟨ps, ⟨g0, t0, cs0, f0, p0, q0, hg0, ht0, hv0, hd0, ⟨g1, t1, cs1, f1, p1, q1, hg1, ht1, hv1, hd1, ⟨g2, t2, cs2, f2, p2, q2, hg2, ht2, hv2, hd2, _, _⟩, _⟩, _⟩, _, _⟩ := h
 obtain rfl := Option.some.inj (hg.symm.trans hg2)
 obtain rfl := Option.some.inj (hty.symm.trans ht2)
 have hcs := Lib.cells_of_tab (k := .u64) (zs := (List.range 20).map fun i => ((10 ^ i : Nat) : Int)) Tryd.underlying125 Tryd.underlying97 hce hct hd2
 have hcells : cs2 = powT := by
  apply Array.ext'
  rw [hcs]
  simp [powT]
 intro g gl h1 h2
 have hgG : g = G := by
  have hm : (gl, g) ∈ Tryd.prog.globals.toList.zipIdx := by
   rw [List.mem_zipIdx_iff_getElem?]
   simpa using h1
  have := List.all_eq_true.1 hu _ hm
  simp only [h2, Bool.not_true, Bool.false_or, beq_iff_eq] at this
  exact this
 subst hgG
 unfold World.var? at hv2
 rw [hg] at hv2
 simp only [Option.bind_some] at hv2
 split at hv2
 ·rename_i cs t f hc
  simp only [Option.some.injEq] at hv2
  refine ⟨(Array.getElem?_eq_some_iff.1 hc).1, t, f, ?_⟩
  rw [hc, hv2, hcells]
 ·simp at hv2
set_option maxHeartbeats 0
noncomputable def cf10 : Cfg := ⟨Tryd.prog, 16, [0, 2, 3, 4, 5], []⟩
noncomputable def ac10 : AC :=
 (.seq (.reg [JP 2 (.al [JW]), JP 3 (.mv JY)]) (.seq (.reg [JA 7 0, JO 8 (.pc (.f 21) []), JO 9 (.pc (.f 20) [.t 7, .t 8]), JC 6 9, JK 10 0 6, JK 11 1 6, JP 4 (.al [JW]), JP 5 (.al [JV, JV]), JQ (.st 1 (.g 4) (.t 10)), JQ (.st 2 (.g 5) (.t 11))]) (.seq (.reg [JF 12 1 4, JG 13 0 5, JD 14 1 13, JO 15 (.bin .eql 24 (.t 14) (JT 0)), JQ (.sta 1 (.g 2) (.t 12) [.g 5, .g 5]), JB 3 15]) .ret)))
theorem fi10 : FI Tryd.prog 10 cf10 ac10 [.c 2 true 1, .t 3] [0, 2, 3, 4, 5] 16 := FI_of (c := Tryd.f10.body.getD .skip) Tryd.func10 (by kernel_rfl) (by rfl) (by rfl) (by kernel_rfl) (by kernel_rfl) rfl rfl rfl
@[simp] theorem cfP10 : cf10.P = Tryd.prog := (rfl)
noncomputable def cf8 : Cfg := ⟨Tryd.prog, 26, [0, 1, 4, 5], []⟩
noncomputable def lb8_0 : AC :=
 .seq (.ifr [JA 11 5, JA 12 0, JO 13 (.len false (.t 12)), JO 14 (.bin .lss 3 (.t 11) (.t 13))] (.t 14) .skip (.exit 0)) (.seq (.block 1 (.ifr [JA 17 0, JA 18 5, JL 19 1 17 18, JD 20 1 19, JA 21 1, JA 22 5, JL 23 1 21 22, JD 24 1 23, JO 25 (.bin .neq 9 (.t 20) (.t 24))] (.t 25) (.seq (.reg [JP 4 (.mv JY)]) .ret) .skip)) (.reg [JA 15 5, JO 16 (.bin .add 3 (.t 15) (JT 1)), JB 5 16]))
noncomputable def ac8 : AC :=
 (.seq (.reg [JP 4 (.mv JY)]) (.seq (.ifr [JA 6 0, JO 7 (.len false (.t 6)), JA 8 1, JO 9 (.len false (.t 8)), JO 10 (.bin .neq 3 (.t 7) (.t 9))] (.t 10) (.seq (.reg [JP 4 (.mv JY)]) .ret) .skip) (.seq (.seq (.reg [JI 5 0]) (.block 0 (.loop lb8_0))) (.seq (.reg [JP 4 (.mv JX)]) .ret))))
theorem fi8 : FI Tryd.prog 8 cf8 ac8 [.t 4] [0, 1, 4, 5] 26 := FI_of (c := Tryd.f8.body.getD .skip) Tryd.func8 (by kernel_rfl) (by rfl) (by rfl) (by kernel_rfl) (by kernel_rfl) rfl rfl rfl
@[simp] theorem cfP8 : cf8.P = Tryd.prog := (rfl)
noncomputable def cf5 : Cfg := ⟨Tryd.prog, 86, [0, 1, 3, 4, 5, 6], [8, 9, 14, 15]⟩
noncomputable def ac5 : AC :=
 (.seq (.reg [JP 0 (.mv JY)]) (.seq (.reg [JO 8 (.bso 1 19 [.int .u8 0] [(0, 1, .c (.int .u8 102)), (1, 1, .c (.int .u8 40)), (2, 1, .c (.int .u8 120)), (3, 1, .c (.int .u8 32)), (4, 1, .c (.int .u8 78)), (5, 1, .c (.int .u8 44)), (6, 1, .c (.int .u8 120)), (7, 1, .c (.int .u8 32)), (8, 1, .c (.int .u8 76)), (9, 1, .c (.int .u8 41)), (10, 1, .c (.int .u8 58)), (11, 1, .c (.int .u8 78)), (12, 1, .c (.int .u8 61)), (13, 1, .c (.int .u8 122)), (14, 1, .c (.int .u8 43)), (15, 1, .c (.int .u8 103)), (16, 1, .c (.int .u8 40)), (17, 1, .c (.int .u8 41)), (18, 1, .c (.int .u8 59))]), JO 9 (.cvo (.t 8)), JO 10 (.pc (.f 10) [.t 9]), JC 7 10, JK 11 0 7, JK 12 1 7, JP 1 (.al [JW]), JQ (.st 1 (.g 1) (.t 11)), JC 2 12]) (.seq (.reg [JO 14 (.bso 1 28 [.int .u8 0] [(0, 1, .c (.int .u8 102)), (1, 1, .c (.int .u8 40)), (2, 1, .c (.int .u8 120)), (3, 1, .c (.int .u8 32)), (4, 1, .c (.int .u8 78)), (5, 1, .c (.int .u8 41)), (6, 1, .c (.int .u8 58)), (7, 1, .c (.int .u8 78)), (8, 1, .c (.int .u8 61)), (9, 1, .c (.int .u8 108)), (10, 1, .c (.int .u8 101)), (11, 1, .c (.int .u8 116)), (12, 1, .c (.int .u8 32)), (13, 1, .c (.int .u8 121)), (14, 1, .c (.int .u8 32)), (15, 1, .c (.int .u8 78)), (16, 1, .c (.int .u8 61)), (17, 1, .c (.int .u8 104)), (18, 1, .c (.int .u8 43)), (19, 1, .c (.int .u8 120)), (20, 1, .c (.int .u8 32)), (21, 1, .c (.int .u8 105)), (22, 1, .c (.int .u8 110)), (23, 1, .c (.int .u8 32)), (24, 1, .c (.int .u8 49)), (25, 1, .c (.int .u8 43)), (26, 1, .c (.int .u8 121)), (27, 1, .c (.int .u8 59))]), JO 15 (.cvo (.t 14)), JO 16 (.pc (.f 10) [.t 15]), JC 13 16, JK 17 0 13, JK 18 1 13, JP 3 (.al [JW]), JQ (.st 1 (.g 3) (.t 17)), JB 4 18]) (.seq (.reg [JO 20 (.bsl 1 1 [JU] [(0, 1, .c (.string (ByteArray.mk (Array.mk [116, 50]))))]), JO 21 (.pc (.f 6) [.t 20, .c (.int .i64 2)]), JC 19 21, JK 22 0 19, JK 23 1 19, JB 5 22, JB 6 23]) (.seq (.reg [JA 24 4, JC 25 24, JS 26 25 (.ld true 1 (.g 1)), JS 27 25 (.pc (.f 14) [.t 26]), JS 28 25 (.bld [JV, JV] [(0, 1, .c (.int .i64 30)), (1, 1, .c (.int .i64 6))]), JS 29 25 (.bin .eql 54 (.t 27) (.t 28)), JO 30 (.pick (.t 25) (.t 29) JY), JC 31 30, JS 32 31 (.fa 0 (.g 3)), JS 33 31 (.ld false 1 (.t 32)), JS 34 31 (.ia 11 (.t 33) (JT 0)), JS 35 31 (.fa 3 (.t 34)), JS 36 31 (.ld true 7 (.t 35)), JS 37 31 (.pc (.f 11) [.t 36]), JS 38 31 (.bsl 1 2 [JU] [(0, 1, .c (.string (ByteArray.mk (Array.mk [104])))), (1, 1, .c (.string (ByteArray.mk (Array.mk [120]))))]), JS 39 31 (.pc (.f 8) [.t 37, .t 38]), JO 40 (.pick (.t 31) (.t 39) JY), JC 41 40, JS 42 41 (.fa 0 (.g 3)), JS 43 41 (.ld false 1 (.t 42)), JS 44 41 (.ia 11 (.t 43) (JT 0)), JS 45 41 (.fa 3 (.t 44)), JS 46 41 (.ld true 7 (.t 45)), JS 47 41 (.pc (.f 13) [.t 46, .c (.string (ByteArray.mk (Array.mk [120])))]), JS 48 41 (.bin .eql 3 (.t 47) (JT 1)), JO 49 (.pick (.t 41) (.t 48) JY), JC 50 49, JS 51 50 (.fa 0 (.g 3)), JS 52 50 (.ld false 1 (.t 51)), JS 53 50 (.ia 11 (.t 52) (JT 0)), JS 54 50 (.ld true 11 (.t 53)), JS 55 50 (.pc (.f 15) [.t 54]), JS 56 50 (.bsl 1 4 [JU] [(0, 1, .c (.string (ByteArray.mk (Array.mk [102])))), (1, 1, .c (.string (ByteArray.mk (Array.mk [104])))), (2, 1, .c (.string (ByteArray.mk (Array.mk [120])))), (3, 1, .c (.string (ByteArray.mk (Array.mk [121]))))]), JS 57 50 (.pc (.f 8) [.t 55, .t 56]), JO 58 (.pick (.t 50) (.t 57) JY), JC 59 58, JS 60 59 (.fa 0 (.g 3)), JS 61 59 (.ld false 1 (.t 60)), JS 62 59 (.ia 11 (.t 61) (JT 0)), JS 63 59 (.fa 3 (.t 62)), JS 64 59 (.ld true 7 (.t 63)), JS 65 59 (.pc (.f 12) [.t 64]), JS 66 59 (.bin .eql 3 (.t 65) (JT 7)), JO 67 (.pick (.t 59) (.t 66) JY), JC 68 67, JS 69 68 (.fa 0 (.g 3)), JS 70 68 (.ld false 1 (.t 69)), JS 71 68 (.ia 11 (.t 70) (JT 0)), JS 72 68 (.fa 3 (.t 71)), JS 73 68 (.ld true 7 (.t 72)), JS 74 68 (.pc (.f 16) [.t 73]), JS 75 68 (.bin .eql 3 (.t 74) (JT 1)), JO 76 (.pick (.t 68) (.t 75) JY), JC 77 76, JS 78 77 (.mv (.g 6)), JS 79 77 (.bin .eql 24 (.t 78) (JT 0)), JO 80 (.pick (.t 77) (.t 79) JY), JC 81 80, JS 82 81 (.mv (.g 5)), JS 83 81 (.bsl 1 2 [JU] [(0, 1, .c (.string (ByteArray.mk (Array.mk [116, 49])))), (1, 1, .c (.string (ByteArray.mk (Array.mk [116, 51]))))]), JS 84 81 (.pc (.f 8) [.t 82, .t 83]), JO 85 (.pick (.t 81) (.t 84) JY), JB 0 85]) .ret)))))
theorem fi5 : FI Tryd.prog 5 cf5 ac5 [.t 0] [0, 1, 3, 4, 5, 6] 86 := FI_of (c := Tryd.f5.body.getD .skip) Tryd.func5 (by kernel_rfl) (by rfl) (by rfl) (by kernel_rfl) (by kernel_rfl) rfl rfl rfl
@[simp] theorem cfP5 : cf5.P = Tryd.prog := (rfl)
@[simp] theorem neL06_9 {a b : ByteArray} : bD Tryd.prog .neq 9 (.pl (.string a)) (.pl (.string b)) = some (.pl (.bool (!decide (a = b)))) := pI Tryd.underlying9
end Go.Fx.YtackkeoannbnbaaDoor

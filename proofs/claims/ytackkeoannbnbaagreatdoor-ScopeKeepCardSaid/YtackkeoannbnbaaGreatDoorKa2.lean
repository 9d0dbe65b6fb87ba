/- Joined texts of this claim. No condition. -/
import Derived.Test.YtackkeoannbnbaaGreatDoorKa1
set_option linter.all false
namespace Go.Fx
open Go
section
variable {C : Cfg} {w w' : World} {S S' : Nat → Prop} {φ φ' : aW} {a : Act} {env tl : Env} {mem : Mem} {nx id : Nat}
theorem jN {t j : Nat} (x : Value) (h : j ≠ t) : (a.tmps.setIfInBounds t x).getD j undef = a.tmps.getD j undef := by
 simp only [Array.getD_eq_getD_getElem?, Array.getElem?_setIfInBounds]
 rw [if_neg (Ne.symm h)]
theorem pI {t : Nat} (x : Value) (h : t < a.tmps.size) : (a.tmps.setIfInBounds t x).getD t undef = x := by
 simp only [Array.getD_eq_getD_getElem?, Array.getElem?_setIfInBounds]
 simp [h]
theorem oX {B : Rx} {o : Oper} {d : Dst} {v : D} {x : Value} {go : Env → Env → Mem → Nat → Prop} (hd : C.dst o.dst = some d) (hk : dH C w S φ env tl a) (hsz : a.tmps.size = C.n) (hdf : Dfr C.P B S' w' a.defers) (hst : Stays w S φ w' S' φ') (hv : Rep w' S' φ' v x)
  (hK : dM d env tl go v mem nx) : ∃ env' tl', go env' tl' mem nx ∧ dH C w' S' φ' env' tl' (a.put o.dst x) ∧ (a.put o.dst x).tmps.size = C.n ∧ Dfr C.P B S' w' (a.put o.dst x).defers := by
 have hk' : dH C w' S' φ' env tl a := ⟨fun j d hj hl => Rep.mono hst _ _ (hk.env j d hj hl), fun j d hj hl => Rep.mono hst _ _ (hk.tl j d hj hl)⟩
 cases ho : o.dst with
 | none =>
  rw [ho] at hd
  simp only [Cfg.dst, Option.some.injEq] at hd; subst hd
  exact ⟨env, tl, hK, hk', hsz, hdf⟩
 | some t =>
  rw [ho] at hd
  simp only [Cfg.dst] at hd
  have hlt : t < C.n := by
   by_cases h : t < C.n
   ·exact h
   ·simp [h] at hd
  simp only [hlt, if_true, Option.some.injEq] at hd
  have hts : t < a.tmps.size := by rw [hsz]; exact hlt
  by_cases ht : t ∈ C.gs
  ·have hc : C.gs.contains t = true := by simpa using ht
   simp only [hc, if_true] at hd; subst hd
   refine ⟨upd env t v, tl, hK, ⟨fun j d hj hl => ?_, fun j d hj hl => ?_⟩, by simp [Act.put, hsz], hdf⟩
   ·rcases dC t v env j d hl with ⟨rfl, rfl⟩ | ⟨hne, hl⟩
    ·simp only [Act.put]; rw [pI x hts]; exact hv
    ·simp only [Act.put]; rw [jN x hne]; exact hk'.env j d hj hl
   ·have hne : j ≠ t := by rintro rfl; exact hj ht
    simp only [Act.put]; rw [jN x hne]; exact hk'.tl j d hj hl
  ·have hc : C.gs.contains t = false := by simpa using ht
   simp only [hc, Bool.false_eq_true, if_false] at hd; subst hd
   refine ⟨env, (t, v) :: tl, hK, ⟨fun j d hj hl => ?_, fun j d hj hl => ?_⟩, by simp [Act.put, hsz], hdf⟩
   ·have hne : j ≠ t := by rintro rfl; exact ht hj
    simp only [Act.put]; rw [jN x hne]; exact hk'.env j d hj hl
   ·simp only [look] at hl
    by_cases e : t = j
    ·simp only [e, if_true, Option.some.injEq] at hl; subst hl; subst e
     simp only [Act.put]; rw [pI x hts]; exact hv
    ·simp only [e, if_false] at hl
     simp only [Act.put]; rw [jN x (Ne.symm e)]; exact hk'.tl j d hj hl
theorem tO {t : Nat} {b : Bool} (hk : dH C w S φ env tl a) (h : a.tmps.getD t undef = .bool b) :
  dH C w S φ (gZ b env (if C.gs.contains t then .g t else .t t)) (g9 b tl (if C.gs.contains t then .g t else .t t)) a := by
 by_cases ht : C.gs.contains t = true
 ·simp only [ht, if_true, gZ, g9]
  refine ⟨fun j d hj hl => ?_, hk.tl⟩
  rcases dC t _ env j d hl with ⟨rfl, rfl⟩ | ⟨hne, hl⟩
  ·rw [h]; simp [Rep]
  ·exact hk.env j d hj hl
 ·simp only [ht, gZ, g9]
  refine ⟨hk.env, fun j d hj hl => ?_⟩
  rcases dC t _ tl j d hl with ⟨rfl, rfl⟩ | ⟨hne, hl⟩
  ·rw [h]; simp [Rep]
  ·exact hk.tl j d hj hl
theorem yX (t : Nat) : C.opd (.tmp t) = some (if C.gs.contains t then .g t else .t t) := rfl
theorem yK {ops : Array Oper} {o : Oper} {x : Ins} (h : C.ins ops o = some x) : C.dst o.dst = some x.dst ∧ C.op (C.owned o.dst) o.op = some x.i ∧
  ((o.guard = none ∧ x.guard = none) ∨ ∃ j want t, o.guard = some (j, want) ∧ (ops[j]?).bind (·.dst) = some t ∧ x.guard = some (if C.gs.contains t then .g t else .t t, want)) := by
 unfold Cfg.ins at h
 split at h
 ·rename_i d g i hd hg hi
  simp only [Option.some.injEq] at h; subst h
  refine ⟨hd, hi, ?_⟩
  cases hgo : o.guard with
  | none =>
   rw [hgo] at hg
   simp only [Cfg.guardO, Option.some.injEq] at hg; subst hg
   exact .inl ⟨rfl, rfl⟩
  | some p =>
   obtain ⟨j, want⟩ := p
   rw [hgo] at hg
   simp only [Cfg.guardO] at hg
   split at hg
   ·rename_i t ht
    simp only [Option.some.injEq] at hg; subst hg
    exact .inr ⟨j, want, t, rfl, ht, rfl⟩
   ·simp at hg
 ·simp at h
def One (C : Cfg) (base : Nat) (x : Ins) (j : Nat) (env tl : Env) (mem : Mem) (nx : Nat) (go : Env → Env → Mem → Nat → Prop) : Prop :=
 match x with
 | ⟨d, none, i⟩ => aS C (base + j) i env tl mem nx (dM d env tl go)
 | ⟨d, some (g, want), i⟩ => gd C (ro tl env g) g want d (base + j) i env tl mem nx go
theorem sP {base j : Nat} {K : Env → Env → Mem → Nat → Prop} {x : Ins} {r : List Ins} : run C base K (x :: r) j env tl mem nx = One C base x j env tl mem nx (run C base K r (j + 1)) := by
 obtain ⟨d, g, i⟩ := x
 cases g with
 | none => rfl
 | some p => obtain ⟨g, want⟩ := p; rfl
structure oT (C : Cfg) (B : Rx) (S : Nat → Prop) (φ : aW) (env tl : Env) (mem : Mem) (nx : Nat) (a : Act) (w : World) : Prop where
 known : dH C w S φ env tl a
 size : a.tmps.size = C.n
 defers : Dfr C.P B S w a.defers
 m : MSim S φ mem nx w
theorem mN {o : Oper} {v : Value} : (a.put o.dst v).defers = a.defers := by cases ho : o.dst <;> simp [Act.put]
theorem sW {B : Rx} {ops : Array Oper} {o : Oper} {x : Ins} {base j k : Nat} {go : Env → Env → Mem → Nat → Prop} (hj : ops[k]? = some o) (hx : C.ins ops o = some x) (h : One C base x j env tl mem nx go) (hh : oT C B S φ env tl mem nx a w)
  (hfree : φ (base + j) = none) (hlt : base + j < nx) {Q : Exit → Act → World → Prop} :
  wpOp C.P ops Q k (fun a' w' => ∃ S' φ' env' tl' mem' nx', go env' tl' mem' nx' ∧ oT C B S' φ' env' tl' mem' nx' a' w' ∧ Stays w S φ w' S' φ' ∧ Ext S φ mem w S' φ' mem' w' ∧ nx ≤ nx' ∧ (∀ i, i ≠ base + j → i < nx → φ i = none → φ' i = none) ∧ a'.defers = a.defers) a w := by
 obtain ⟨hd, hi, hg⟩ := yK hx
 have step : ∀ (env tl : Env), dH C w S φ env tl a → aS C (base + j) x.i env tl mem nx (dM x.dst env tl go) →
   o.wp C.P a w (fun a' w' => ∃ S' φ' env' tl' mem' nx', go env' tl' mem' nx' ∧ oT C B S' φ' env' tl' mem' nx' a' w' ∧ Stays w S φ w' S' φ' ∧ Ext S φ mem w S' φ' mem' w' ∧ nx ≤ nx' ∧ (∀ i, i ≠ base + j → i < nx → φ i = none → φ' i = none) ∧ a'.defers = a.defers) Q := by
  intro env tl hk hs
  refine Oper.wp_monoQ ?_ (fun _ _ _ h => h.elim) (zO hi hs hk hh.m hh.defers.tb hfree hlt)
  rintro a' w' ⟨r, rfl, v, mem', nx', S', φ', h1, h2, h3, h4, h5, h6, h7⟩
  obtain ⟨env', tl', g1, g2, g3, g4⟩ := oX hd hk hh.size (hh.defers.ext hh.m h6) h5 h3 h1
  exact ⟨S', φ', env', tl', mem', nx', g1, ⟨g2, g3, g4, h4⟩, h5, h6, h2, h7, mN⟩
 unfold wpOp
 simp only [hj]
 rcases hg with ⟨hg, hxg⟩ | ⟨jj, want, t, hg, ht, hxg⟩
 ·have hw : Region.wanted o (yielded ops a.tmps) = true := by simp [Region.wanted, hg]
  simp only [hw, if_true]
  left
  obtain ⟨d, g, i⟩ := x
  simp only at hxg; subst hxg
  exact step env tl hh.known h
 ·obtain ⟨d, g, i⟩ := x
  simp only at hxg; subst hxg
  simp only [One, gd] at h
  split at h
  ·rename_i b hro
   have hb := aP hh.known (yX t) hro
   simp only [Rep, Act.eval] at hb
   have hy : yielded ops a.tmps jj = some b := by
    unfold yielded
    rw [ht]
    simp only [Option.bind_some]
    cases hq : a.tmps[t]? with
    | none => simp [Array.getD_eq_getD_getElem?, hq, undef] at hb
    | some u =>
     simp only [Array.getD_eq_getD_getElem?, hq, Option.getD_some] at hb
     subst hb; rfl
   by_cases hbw : b = want
   ·subst hbw
    have hw : Region.wanted o (yielded ops a.tmps) = true := by simp [Region.wanted, hg, hy]
    simp only [hw, if_true]
    left
    exact step _ _ (tO hh.known hb) (h.1 rfl)
   ·have hw : Region.wanted o (yielded ops a.tmps) = false := by
     simp only [Region.wanted, hg, hy]
     simp [hbw]
    simp only [hw, Bool.false_eq_true, if_false]
    have hbn : b = !want := by cases b <;> cases want <;> simp_all
    have h2 := h.2 hbn
    rw [← hbn] at h2
    obtain ⟨env', tl', g1, g2, g3, g4⟩ := oX (x := undef) hd (tO hh.known hb) hh.size hh.defers (Stays.refl w S φ) (by simp [Rep]) h2
    exact ⟨S, φ, env', tl', mem, nx, g1, ⟨g2, g3, g4, hh.m⟩, Stays.refl .., Ext.refl .., Nat.le_refl _, fun _ _ _ h => h, mN⟩
  ·rename_i vs hro
   have hb := aP hh.known (yX t) hro
   simp only [Rep, Act.eval] at hb
   have hy : yielded ops a.tmps jj = none := by
    unfold yielded
    rw [ht]
    simp only [Option.bind_some]
    cases hq : a.tmps[t]? with
    | none => rfl
    | some u =>
     simp only [Array.getD_eq_getD_getElem?, hq, Option.getD_some] at hb
     subst hb; rfl
   have hw : Region.wanted o (yielded ops a.tmps) = false := by
    simp only [Region.wanted, hg, hy]
    rfl
   simp only [hw, Bool.false_eq_true, if_false]
   obtain ⟨env', tl', g1, g2, g3, g4⟩ := oX (x := undef) hd hh.known hh.size hh.defers (Stays.refl w S φ) (by simp [Rep]) h
   exact ⟨S, φ, env', tl', mem, nx, g1, ⟨g2, g3, g4, hh.m⟩, Stays.refl .., Ext.refl .., Nat.le_refl _, fun _ _ _ h => h, mN⟩
  ·exact h.elim
theorem sT {B : Rx} {ops : Array Oper} {base N : Nat} (hN : N ≤ base) {K : Env → Env → Mem → Nat → Prop} : ∀ (rest : List Oper) (is : List Ins) (j : Nat) (env tl : Env) (mem : Mem) (nx : Nat) (S : Nat → Prop) (φ : aW) (a : Act) (w : World),
  (∀ i, ops[j + i]? = rest[i]?) → rest.mapM (C.ins ops) = some is → run C base K is j env tl mem nx → oT C B S φ env tl mem nx a w → (∀ i, j ≤ i → i < j + rest.length → φ (base + i) = none) → base + j + rest.length ≤ nx →
  wpOps C.P ops (Post C B N S φ mem w (fun e s => e = .normal ∧ K s.env s.tl s.mem s.nx)) (List.range' j rest.length) a w
 | [], is, j, env, tl, mem, nx, S, φ, a, w, _, hm, hr, hh, _, hn => by
  simp only [List.mapM_nil, Option.pure_def, Option.some.injEq] at hm; subst hm
  exact ⟨⟨env, tl, mem, nx⟩, S, φ, ⟨rfl, hr⟩, ⟨hh.size, hh.defers, hh.known.env, hh.known.tl, hh.m⟩, Ext.refl .., Grow.refl (by simp only at hn ⊢; omega)⟩
 | o :: rest, is, j, env, tl, mem, nx, S, φ, a, w, ho, hm, hr, hh, hf, hn => by
  simp only [List.mapM_cons, Option.bind_eq_bind, Option.bind_eq_some_iff, Option.pure_def, Option.some.injEq] at hm
  obtain ⟨x, hx, is', his, rfl⟩ := hm
  rw [sP] at hr
  have hj : ops[j]? = some o := by have := ho 0; simpa using this
  simp only [List.length_cons] at hf hn ⊢
  rw [List.range'_succ, wpOps_cons]
  refine wpOp_mono ?_ (sW (k := j) hj hx hr hh (hf j (Nat.le_refl _) (by omega)) (by omega))
  rintro a' w' ⟨S', φ', env', tl', mem', nx', h1, h2, h3, h4, h5, h6, _⟩
  refine j_ (fun e a w hp => hp.trans h4 (n1 := nx') ⟨by omega, fun i hi hnn => h6 i (by omega) (by omega) hnn, h3.loc⟩) _ _ _ (sT hN rest is' (j + 1) env' tl' mem' nx' S' φ' a' w' (fun i => ?_) his h1 h2 (fun i hi hi2 => ?_) (by omega))
  ·have := ho (i + 1)
   rw [show j + (i + 1) = j + 1 + i by omega] at this
   simpa using this
  ·exact h6 _ (by omega) (by omega) (hf i (by omega) (by omega))
end
section
variable {C : Cfg} {w w' : World} {S S' : Nat → Prop} {φ φ' : aW} {a : Act} {env tl env2 tl2 : Env} {mem mem2 : Mem} {nx nx2 id : Nat}
theorem eU {α β : Type} {f : α → Option β} : ∀ {l : List α} {r : List β}, l.mapM f = some r → l.length = r.length
 | [], r, h => by simp only [List.mapM_nil, Option.pure_def, Option.some.injEq] at h; subst h; rfl
 | x :: l, r, h => by
  simp only [List.mapM_cons, Option.bind_eq_bind, Option.bind_eq_some_iff, Option.pure_def, Option.some.injEq] at h
  obtain ⟨y, _, r', hr, rfl⟩ := h
  simp [eU hr]
theorem i8 {α β : Type} {f : α → Option β} : ∀ {l : List α} {r : List β}, l.mapM f = some r → ∀ (i : Nat) (x : β), r[i]? = some x → ∃ y, l[i]? = some y ∧ f y = some x
 | [], r, h, i, x, hx => by simp only [List.mapM_nil, Option.pure_def, Option.some.injEq] at h; subst h; simp at hx
 | y :: l, r, h, i, x, hx => by
  simp only [List.mapM_cons, Option.bind_eq_bind, Option.bind_eq_some_iff, Option.pure_def, Option.some.injEq] at h
  obtain ⟨z, hz, r', hr, rfl⟩ := h
  cases i with
  | zero => simp only [List.getElem?_cons_zero, Option.some.injEq] at hx; subst hx; exact ⟨y, rfl, hz⟩
  | succ i => simp only [List.getElem?_cons_succ] at hx ⊢; exact i8 hr i x hx
theorem aM {x : Opd} (h : ∀ s ∈ Cfg.seesO x, look env s = look env2 s ∧ look tl s = look tl2 s) : ro tl env x = ro tl2 env2 x := by
 cases x with
 | t j => exact (h j (by simp [Cfg.seesO])).2
 | g j => exact (h j (by simp [Cfg.seesO])).1
 | c v => rfl
 | f i => rfl
theorem fA : ∀ {xs : List Opd}, (∀ s ∈ xs.flatMap Cfg.seesO, look env s = look env2 s ∧ look tl s = look tl2 s) → ros tl env xs = ros tl2 env2 xs
 | [], _ => rfl
 | x :: xs, h => by
  simp only [ros]
  rw [aM (x := x) fun s hs => h s (by simp [hs]), fA (xs := xs) fun s hs => h s (by simp only [List.flatMap_cons, List.mem_append]; exact .inr hs)]
theorem lM : ∀ {ps : List (Nat × Nat × Opd)}, (∀ s ∈ ps.flatMap (fun p => Cfg.seesO p.2.2), look env s = look env2 s ∧ look tl s = look tl2 s) → rps tl env ps = rps tl2 env2 ps
 | [], _ => rfl
 | (o, n, x) :: ps, h => by
  simp only [rps]
  rw [aM (x := x) fun s hs => h s (by simp [hs]), lM (ps := ps) fun s hs => h s (by simp only [List.flatMap_cons, List.mem_append]; exact .inr hs)]
def Sub (m m2 : Mem) : Prop := ∀ i b, look m i = some b → look m2 i = some b
def jH (d : D) (m m2 : Mem) : Prop := ∀ i, d.hd = some i → ∀ b, look m i = some b → look m2 i = some b
theorem Sub.at {m m2 : Mem} (h : Sub m m2) (d : D) : jH d m m2 := fun i _ b hb => h i b hb
theorem qN {i v : Nat} (h : ∀ b, look mem i = some b → look mem2 i = some b) (hc : j5 mem i v = true) : j5 mem2 i v = true := by
 unfold j5 at hc ⊢
 split at hc
 ·rename_i hl; rw [h _ hl]; exact hc
 ·simp at hc
theorem x8 {i v k : Nat} (h : ∀ b, look mem i = some b → look mem2 i = some b) (hc : cur mem i v k = true) : cur mem2 i v k = true := by
 unfold cur at hc ⊢
 split at hc
 ·rename_i hl; rw [h _ hl]; exact hc
 ·simp at hc
theorem DR {len k : Nat} {x y d : D} (h : jH x mem mem2) (hc : mW mem len k x y = some d) (hf : ∀ {n : Nat} {d : D}, faD mem n x = some d → faD mem2 n x = some d) : mW mem2 len k x y = some d := by
 unfold mW at hc ⊢
 split at hc
 ·simp only [Option.ite_none_right_eq_some] at hc ⊢
  exact ⟨hc.1, hf hc.2⟩
 ·simp at hc
theorem EZ {x d : D} (h : jH x mem mem2) (hc : qK mem x = some d) : qK mem2 x = some d := by
 unfold qK at hc ⊢
 split at hc
 ·split at hc
  ·rename_i hl; rw [h _ rfl _ hl]; exact hc
  ·simp at hc
 ·exact hc
 ·simp at hc
theorem FK {kd : Option IntKind} {z : Value} {two : Bool} {x y d : D} (h : jH x mem mem2) (hc : lkD mem kd z two x y = some d) : lkD mem2 kd z two x y = some d := by
 have key : ∀ es, nO mem kd x = some es → nO mem2 kd x = some es := by
  intro es he
  unfold nO at he ⊢
  split at he
  ·split at he
   ·rename_i hl; rw [h _ rfl _ hl]; exact he
   ·simp at he
  ·exact he
  ·simp at he
 unfold lkD at hc ⊢
 split at hc
 ·rename_i hes
  rw [key _ hes]; exact hc
 ·simp at hc
theorem G9 {n : Nat} {x : D} {cs : List D} (h : jH x mem mem2) (hc : rdc mem n x = some cs) : rdc mem2 n x = some cs := by
 cases x with
 | opt i off =>
  simp only [rdc] at hc ⊢
  split at hc
  ·rename_i hl; rw [h _ rfl _ hl]; exact hc
  ·simp at hc
 | oel i v ix off =>
  simp only [rdc] at hc ⊢
  split at hc
  ·rename_i hl; rw [h _ rfl _ hl]; exact hc
  ·simp at hc
 | _ => exact hc
theorem GN {g : Bool} {n : Nat} {x d : D} (h : jH x mem mem2) (hc : ldD mem g n x = some d) : ldD mem2 g n x = some d := by
 unfold ldD at hc ⊢
 split at hc
 ·rename_i hl; rw [G9 h hl]; exact hc
 ·simp at hc
theorem y9 {n : Nat} {x d : D} (h : jH x mem mem2) (hc : faD mem n x = some d) : faD mem2 n x = some d := by
 cases x with
 | oel i v ix off =>
  simp only [faD, Option.ite_none_right_eq_some, Option.some.injEq] at hc ⊢
  exact ⟨qN (h _ rfl) hc.1, hc.2⟩
 | _ => exact hc
theorem HH {k : Nat} {x y d : D} (h : jH x mem mem2) (hc : iaD mem k x y = some d) : iaD mem2 k x y = some d := by
 unfold iaD at hc ⊢
 split at hc
 ·exact hc
 ·simp only [Option.ite_none_right_eq_some] at hc ⊢
  exact ⟨x8 (h _ rfl) hc.1, hc.2⟩
 ·simp at hc
theorem E9 {s : Bool} {x d : D} (h : jH x mem mem2) (hc : gE mem s x = some d) : gE mem2 s x = some d := by
 cases x with
 | osl i v lo n =>
  simp only [gE] at hc ⊢
  split at hc
  ·simp at hc
  ·rename_i hn
   simp only [Bool.or_eq_true, Bool.not_eq_true', not_or, Bool.not_eq_true, Bool.not_eq_false] at hn
   rw [if_neg (by simp [hn.1, qN (h _ rfl) hn.2])]; exact hc
 | pl v =>
  cases v with
  | slice p n c => cases p <;> cases n <;> cases c <;> exact hc
  | _ => exact hc
 | _ => exact hc
theorem FB {s : Bool} {k : Nat} {x d : D} {lo hi : Option D} (h : jH x mem mem2) (hc : gQ mem s k x lo hi = some d) : gQ mem2 s k x lo hi = some d := by
 cases x with
 | osl i v o n =>
  simp only [gQ] at hc ⊢
  split at hc
  ·simp at hc
  ·rename_i hn
   simp only [Bool.or_eq_true, Bool.not_eq_true', not_or, Bool.not_eq_true, Bool.not_eq_false] at hn
   rw [if_neg (by simp [hn.1, qN (h _ rfl) hn.2])]
   split at hc
   ·rename_i l hh h1 h2
    split at hc
    ·rename_i g; rw [if_pos g]; exact hc
    ·rename_i g
     rw [if_neg g]
     split at hc
     ·rename_i g2; rw [if_pos ⟨g2.1, x8 (h _ rfl) g2.2⟩]; exact hc
     ·simp at hc
   ·simp at hc
 | pl v =>
  cases v with
  | slice p n c => cases p <;> cases n <;> cases c <;> exact hc
  | _ => exact hc
 | _ => exact hc
theorem sF {k : Nat} {x : D} {es : List (List D)} (h : jH x mem mem2) (hc : els mem k x = some es) : els mem2 k x = some es := by
 cases x with
 | osl i v lo n =>
  simp only [els] at hc ⊢
  split at hc
  ·rename_i hl; rw [h _ rfl _ hl]; exact hc
  ·simp at hc
 | pl v =>
  cases v with
  | slice p n c => cases p <;> cases n <;> cases c <;> exact hc
  | _ => exact hc
 | _ => exact hc
def Sg (d : D) (m : Mem) (n : Nat) : KD := fun d' m' n' => d' = d ∧ m' = m ∧ n' = n
theorem nI {o : Option D} {d : D} {K : KD} (h : o = some d) (hk : K d mem nx) : k0 o mem nx K := by subst h; exact hk
theorem d9 {o : Option D} {g : D → Option D} {x d : D} {K : KD} (h : o = some x) (h2 : g x = some d) (hk : K d mem nx) : k1 o g mem nx K := by subst h; exact nI h2 hk
theorem lK {o p : Option D} {g : D → D → Option D} {x y d : D} {K : KD} (h : o = some x) (h1 : p = some y) (h2 : g x y = some d) (hk : K d mem nx) : k2 o p g mem nx K := by subst h h1; exact nI h2 hk
theorem r_ {α : Type} {o : Option α} {g : α → Option D} {x : α} {d : D} {K : KD} (h : o = some x) (h2 : g x = some d) (hk : K d mem nx) : kl o g mem nx K := by subst h; exact nI h2 hk
theorem fX {o : Option (D × Mem)} {d : D} {m : Mem} {K : KD} (h : o = some (d, m)) (hk : K d m nx) : km o nx K := by subst h; exact hk
theorem BO {a b : Option D} {c d : D} (h : kC a b c = some d) {a' b' : Option D} (ha : a = a') (hb : b = b') : kC a' b' c = some d := by subst ha hb; exact h
theorem qP {i : I} {K : KD} (hf : i.free = true) (h : aS C id i env tl mem nx K) : ∃ d ext, K d (ext ++ mem) nx ∧ (ext = [] ∨ (∃ b, ext = [(id, b)]) ∧ Cfg.makesI i = true) ∧
  ∀ env2 tl2 mem2 nx2, (∀ s ∈ Cfg.seesI i, look env s = look env2 s ∧ look tl s = look tl2 s) → (∀ p ∈ Cfg.lookO i, ∀ d, ro tl env p = some d → jH d mem mem2) → aS C id i env2 tl2 mem2 nx2 (Sg d (ext ++ mem2) nx2) := by
 cases i with
 | mv x =>
  obtain ⟨d, h1, h2⟩ := fZ h
  exact ⟨d, [], h2, .inl rfl, fun e t m n hs _ => nI (by rw [← aM hs]; exact h1) ⟨rfl, rfl, rfl⟩⟩
 | pick c x y =>
  obtain ⟨d, r, h1, h2, h3⟩ := bN h
  refine ⟨r, [], h3, .inl rfl, fun e t m n hs _ => d9 (x := d) (d := r) ?_ (BO h2 ?_ ?_) ⟨rfl, rfl, rfl⟩⟩
  ·rw [← aM (x := c) fun s h => hs s (by simp [Cfg.seesI, h])]; exact h1
  ·exact aM fun s h => hs s (by simp [Cfg.seesI, h])
  ·exact aM fun s h => hs s (by simp [Cfg.seesI, h])
 | bld z ps =>
  obtain ⟨d, r, h1, h2, h3⟩ := gR h
  exact ⟨r, [], h3, .inl rfl, fun e t m n hs _ => r_ (by rw [← lM hs]; exact h1) h2 ⟨rfl, rfl, rfl⟩⟩
 | bsl k len z ps =>
  obtain ⟨d, r, h1, h2, h3⟩ := gR h
  exact ⟨r, [], h3, .inl rfl, fun e t m n hs _ => r_ (by rw [← lM hs]; exact h1) h2 ⟨rfl, rfl, rfl⟩⟩
 | z0 => exact ⟨.zs, [], h, .inl rfl, fun e t m n hs _ => ⟨rfl, rfl, rfl⟩⟩
 | ld g k x =>
  obtain ⟨d, r, h1, h2, h3⟩ := bN h
  exact ⟨r, [], h3, .inl rfl, fun e t m n hs hm => d9 (by rw [← aM hs]; exact h1) (GN (hm _ (by simp [Cfg.lookO]) _ h1) h2) ⟨rfl, rfl, rfl⟩⟩
 | chk x =>
  obtain ⟨d, r, h1, h2, h3⟩ := bN h
  exact ⟨r, [], h3, .inl rfl, fun e t m n hs hm => d9 (by rw [← aM hs]; exact h1) h2 ⟨rfl, rfl, rfl⟩⟩
 | bin op ty x y =>
  obtain ⟨d, d2, r, h1, h2, h3, h4⟩ := e7 h
  refine ⟨r, [], h4, .inl rfl, fun e t m n hs hm => lK (x := d) (y := d2) ?_ ?_ h3 ⟨rfl, rfl, rfl⟩⟩
  ·rw [← aM (x := x) fun s h => hs s (by simp [Cfg.seesI, h])]; exact h1
  ·rw [← aM (x := y) fun s h => hs s (by simp [Cfg.seesI, h])]; exact h2
 | un op x =>
  obtain ⟨d, r, h1, h2, h3⟩ := bN h
  exact ⟨r, [], h3, .inl rfl, fun e t m n hs hm => d9 (by rw [← aM hs]; exact h1) h2 ⟨rfl, rfl, rfl⟩⟩
 | cv s0 d0 x =>
  obtain ⟨d, r, h1, h2, h3⟩ := bN h
  exact ⟨r, [], h3, .inl rfl, fun e t m n hs hm => d9 (by rw [← aM hs]; exact h1) h2 ⟨rfl, rfl, rfl⟩⟩
 | fa off x =>
  obtain ⟨d, r, h1, h2, h3⟩ := bN h
  exact ⟨r, [], h3, .inl rfl, fun e t m n hs hm => d9 (by rw [← aM hs]; exact h1) (y9 (hm _ (by simp [Cfg.lookO]) _ h1) h2) ⟨rfl, rfl, rfl⟩⟩
 | fld g k off x =>
  obtain ⟨d, r, h1, h2, h3⟩ := bN h
  exact ⟨r, [], h3, .inl rfl, fun e t m n hs hm => d9 (by rw [← aM hs]; exact h1) h2 ⟨rfl, rfl, rfl⟩⟩
 | ia k x y =>
  obtain ⟨d, d2, r, h1, h2, h3, h4⟩ := e7 h
  refine ⟨r, [], h4, .inl rfl, fun e t m n hs hm => lK (x := d) (y := d2) ?_ ?_ (HH (hm _ (by simp [Cfg.lookO]) _ h1) h3) ⟨rfl, rfl, rfl⟩⟩
  ·rw [← aM (x := x) fun s h => hs s (by simp [Cfg.seesI, h])]; exact h1
  ·rw [← aM (x := y) fun s h => hs s (by simp [Cfg.seesI, h])]; exact h2
 | ext j x =>
  obtain ⟨d, r, h1, h2, h3⟩ := bN h
  exact ⟨r, [], h3, .inl rfl, fun e t m n hs hm => d9 (by rw [← aM hs]; exact h1) h2 ⟨rfl, rfl, rfl⟩⟩
 | len s0 x =>
  obtain ⟨d, r, h1, h2, h3⟩ := bN h
  exact ⟨r, [], h3, .inl rfl, fun e t m n hs hm => d9 (by rw [← aM hs]; exact h1) (E9 (hm _ (by simp [Cfg.lookO]) _ h1) h2) ⟨rfl, rfl, rfl⟩⟩
 | bi b xs =>
  obtain ⟨d, r, h1, h2, h3⟩ := gR h
  exact ⟨r, [], h3, .inl rfl, fun e t m n hs _ => r_ (by rw [← fA hs]; exact h1) h2 ⟨rfl, rfl, rfl⟩⟩
 | sls s0 k x lo hi =>
  obtain ⟨d, h1, h2⟩ := fZ h
  refine ⟨d, [], h2, .inl rfl, fun e t m n hs hm => nI ?_ ⟨rfl, rfl, rfl⟩⟩
  have e1 : ro tl env x = ro t e x := aM fun s h => hs s (by simp [Cfg.seesI, h])
  have e2 : roo tl env lo = roo t e lo := by
   cases lo with
   | none => rfl
   | some l => simp only [roo]; rw [aM (x := l) fun s h => hs s (by simp [Cfg.seesI, h])]
  have e3 : roo tl env hi = roo t e hi := by
   cases hi with
   | none => rfl
   | some l => simp only [roo]; rw [aM (x := l) fun s h => hs s (by simp [Cfg.seesI, h])]
  rw [← e1, ← e2, ← e3]
  unfold slsO at h1 ⊢
  split at h1
  ·rename_i h4 _ _
   exact FB (hm x (by simp [Cfg.lookO]) _ h4) h1
  ·simp at h1
 | mkf f xs =>
  obtain ⟨d, r, h1, h2, h3⟩ := gR h
  exact ⟨r, [], h3, .inl rfl, fun e t m n hs _ => r_ (by rw [← fA hs]; exact h1) h2 ⟨rfl, rfl, rfl⟩⟩
 | bxi x =>
  obtain ⟨d, r, h1, h2, h3⟩ := bN h
  exact ⟨r, [], h3, .inl rfl, fun e t m n hs hm => d9 (by rw [← aM hs]; exact h1) h2 ⟨rfl, rfl, rfl⟩⟩
 | mki k bytes z x =>
  obtain ⟨d, r, h1, h2, h3⟩ := bN h
  exact ⟨r, [], h3, .inl rfl, fun e t m n hs hm => d9 (by rw [← aM hs]; exact h1) h2 ⟨rfl, rfl, rfl⟩⟩
 | pc f xs =>
  obtain ⟨g, caps, ys, r, h1, h2, h3, h4, h5⟩ := sM h
  refine ⟨r, [], h5, .inl rfl, fun e t m n hs _ => ?_⟩
  show pcK C.P (ro t e f) (ros t e xs) m n _
  rw [← aM (x := f) fun s h => hs s (by simp [Cfg.seesI, h]), ← fA (xs := xs) fun s h => hs s (by simp only [Cfg.seesI, List.mem_append]; exact .inr h), h1, h2]
  exact ⟨r, h3, h4, rfl, rfl, rfl⟩
 | al z => exact ⟨_, [(id, .box (z.map .pl))], h, .inr ⟨⟨_, rfl⟩, rfl⟩, fun e t m n hs _ => ⟨rfl, rfl, rfl⟩⟩
 | bx x =>
  obtain ⟨d, m', h1, h2⟩ := cW h
  cases hd : ro tl env x with
  | none => simp [hd, bxM] at h1
  | some dd =>
   rw [hd] at h1
   simp only [bxM, Option.ite_none_right_eq_some, Option.some.injEq, Prod.mk.injEq] at h1
   obtain ⟨h3, rfl, rfl⟩ := h1
   refine ⟨_, [(id, .box dd.cells)], h2, .inr ⟨⟨_, rfl⟩, rfl⟩, fun e t m n hs _ => fX (d := .opt id 0) (m := (id, .box dd.cells) :: m) ?_ ⟨rfl, rfl, rfl⟩⟩
   rw [← aM (x := x) hs, hd]; simp [bxM, h3]
 | bso k len z ps =>
  obtain ⟨d, m', h1, h2⟩ := cW h
  cases hd : rps tl env ps with
  | none => simp [hd, oZ] at h1
  | some dd =>
   rw [hd] at h1
   simp only [oZ] at h1
   split at h1
   ·rename_i es hes
    simp only [Option.some.injEq, Prod.mk.injEq] at h1
    obtain ⟨rfl, rfl⟩ := h1
    refine ⟨_, [(id, .arr 0 k es)], h2, .inr ⟨⟨_, rfl⟩, rfl⟩, fun e t m n hs _ => fX (d := .osl id 0 0 len) (m := (id, .arr 0 k es) :: m) ?_ ⟨rfl, rfl, rfl⟩⟩
    rw [← lM (ps := ps) hs, hd]; simp [oZ, hes]
   ·simp at h1
 | mks k bytes z x =>
  obtain ⟨d, m', h1, h2⟩ := cW h
  unfold mksM at h1
  split at h1
  ·rename_i n hro
   simp only [Option.ite_none_right_eq_some, Option.some.injEq, Prod.mk.injEq] at h1
   obtain ⟨h3, rfl, rfl⟩ := h1
   refine ⟨_, [(id, .arr 0 k (List.replicate n.toNat (z.map .pl)))], h2, .inr ⟨⟨_, rfl⟩, rfl⟩, fun e t m n' hs _ => fX (d := .osl id 0 0 n.toNat) (m := (id, .arr 0 k (List.replicate n.toNat (z.map .pl))) :: m) ?_ ⟨rfl, rfl, rfl⟩⟩
   rw [← aM (x := x) hs, hro]; simp only [mksM, h3, and_self, if_true]
  ·simp at h1
 | apn k bytes z x y =>
  obtain ⟨d, m', h1, h2⟩ := cW h
  cases hdx : ro tl env x with
  | none => simp [hdx, gB] at h1
  | some dx =>
   cases hdy : ro tl env y with
   | none => simp [hdx, hdy, gB] at h1
   | some dy =>
    rw [hdx, hdy] at h1
    simp only [gB, Option.ite_none_right_eq_some] at h1
    obtain ⟨h3, h1⟩ := h1
    split at h1
    ·rename_i es hes
     simp only [Option.ite_none_right_eq_some, Option.some.injEq, Prod.mk.injEq] at h1
     obtain ⟨h4, rfl, rfl⟩ := h1
     refine ⟨_, [(id, .arr 0 k es)], h2, .inr ⟨⟨_, rfl⟩, rfl⟩, fun e t m n hs hm => fX (d := .osl id 0 0 es.length) (m := (id, .arr 0 k es) :: m) ?_ ⟨rfl, rfl, rfl⟩⟩
     rw [← aM (x := x) fun s h => hs s (by simp [Cfg.seesI, h]), ← aM (x := y) fun s h => hs s (by simp [Cfg.seesI, h]), hdx, hdy]
     simp only [gB, h3, if_true, sF (hm _ (by simp [Cfg.lookO]) _ hdy) hes, h4]
    ·simp at h1
 | st _ _ _ => simp [I.free] at hf
 | sta _ _ _ _ => simp [I.free] at hf
 | app _ _ _ _ _ => simp [I.free] at hf
 | cl _ _ => simp [I.free] at hf
 | cln _ _ => simp [I.free] at hf
 | iaa len k x y =>
  obtain ⟨d, d2, r, h1, h2, h3, h4⟩ := e7 h
  refine ⟨r, [], h4, .inl rfl, fun e t m n hs hm => lK (x := d) (y := d2) ?_ ?_ (DR (hm _ (by simp [Cfg.lookO]) _ h1) h3 (y9 (hm _ (by simp [Cfg.lookO]) _ h1))) ⟨rfl, rfl, rfl⟩⟩
  ·rw [← aM (x := x) fun s h => hs s (by simp [Cfg.seesI, h])]; exact h1
  ·rw [← aM (x := y) fun s h => hs s (by simp [Cfg.seesI, h])]; exact h2
 | ixs x y =>
  obtain ⟨d, d2, r, h1, h2, h3, h4⟩ := e7 h
  refine ⟨r, [], h4, .inl rfl, fun e t m n hs hm => lK (x := d) (y := d2) ?_ ?_ h3 ⟨rfl, rfl, rfl⟩⟩
  ·rw [← aM (x := x) fun s h => hs s (by simp [Cfg.seesI, h])]; exact h1
  ·rw [← aM (x := y) fun s h => hs s (by simp [Cfg.seesI, h])]; exact h2
 | lk kd z two x y =>
  obtain ⟨d, d2, r, h1, h2, h3, h4⟩ := e7 h
  refine ⟨r, [], h4, .inl rfl, fun e t m n hs hm => lK (x := d) (y := d2) ?_ ?_ (FK (hm _ (by simp [Cfg.lookO]) _ h1) h3) ⟨rfl, rfl, rfl⟩⟩
  ·rw [← aM (x := x) fun s h => hs s (by simp [Cfg.seesI, h])]; exact h1
  ·rw [← aM (x := y) fun s h => hs s (by simp [Cfg.seesI, h])]; exact h2
 | lnm x =>
  obtain ⟨d, r, h1, h2, h3⟩ := bN h
  exact ⟨r, [], h3, .inl rfl, fun e t m n hs hm => d9 (by rw [← aM hs]; exact h1) (EZ (hm _ (by simp [Cfg.lookO]) _ h1) h2) ⟨rfl, rfl, rfl⟩⟩
 | ldp g k x =>
  obtain ⟨d, r, h1, h2, h3⟩ := bN h
  exact ⟨r, [], h3, .inl rfl, fun e t m n hs hm => d9 (by rw [← aM hs]; exact h1) h2 ⟨rfl, rfl, rfl⟩⟩
 | fap off x =>
  obtain ⟨d, r, h1, h2, h3⟩ := bN h
  exact ⟨r, [], h3, .inl rfl, fun e t m n hs hm => d9 (by rw [← aM hs]; exact h1) h2 ⟨rfl, rfl, rfl⟩⟩
 | mkm => exact ⟨_, [(id, .map [])], h, .inr ⟨⟨_, rfl⟩, rfl⟩, fun e t m n hs _ => ⟨rfl, rfl, rfl⟩⟩
 | mup _ _ _ _ => simp [I.free] at hf
 | cvo _ => simp [I.free] at hf
theorem yZ {o : Option D} {K K' : KD} (h : k0 o mem nx K) (hk : ∀ d m n, K d m n → K' d m n) : k0 o mem nx K' := by
 obtain ⟨d, h1, h2⟩ := fZ h; exact nI h1 (hk _ _ _ h2)
theorem dU {o : Option D} {g : D → Option D} {K K' : KD} (h : k1 o g mem nx K) (hk : ∀ d m n, K d m n → K' d m n) : k1 o g mem nx K' := by
 obtain ⟨x, d, h1, h2, h3⟩ := bN h; exact d9 h1 h2 (hk _ _ _ h3)
theorem mB {o p : Option D} {g : D → D → Option D} {K K' : KD} (h : k2 o p g mem nx K) (hk : ∀ d m n, K d m n → K' d m n) : k2 o p g mem nx K' := by
 obtain ⟨x, y, d, h1, h2, h3, h4⟩ := e7 h; exact lK h1 h2 h3 (hk _ _ _ h4)
theorem o6 {α : Type} {o : Option α} {g : α → Option D} {K K' : KD} (h : kl o g mem nx K) (hk : ∀ d m n, K d m n → K' d m n) : kl o g mem nx K' := by
 obtain ⟨x, d, h1, h2, h3⟩ := gR h; exact r_ h1 h2 (hk _ _ _ h3)
theorem gO {o : Option (D × Mem)} {K K' : KD} (h : km o nx K) (hk : ∀ d m n, K d m n → K' d m n) : km o nx K' := by
 obtain ⟨d, m, h1, h2⟩ := cW h; exact fX h1 (hk _ _ _ h2)
theorem gH {P : Program} {f : FuncId} {xs : List D} {K K' : KD} (h : bH P f xs mem nx K) (hk : ∀ d m n, K d m n → K' d m n) : bH P f xs mem nx K' :=
 ⟨h.1, fun S φ w ys h1 hb h2 => (h.2 S φ w ys h1 hb h2).mono fun e w' ⟨v, d, m', n', S', φ', g1, g2, g3⟩ => ⟨v, d, m', n', S', φ', g1, hk _ _ _ g2, g3⟩⟩
theorem cQ {i : I} {K K' : KD} (h : aS C id i env tl mem nx K) (hk : ∀ d m n, K d m n → K' d m n) : aS C id i env tl mem nx K' := by
 cases i with
 | pc f xs =>
  obtain ⟨g, caps, ys, r, h1, h2, h3, h4, h5⟩ := sM h
  show pcK C.P _ _ _ _ _
  rw [h1, h2]; exact ⟨r, h3, h4, hk _ _ _ h5⟩
 | cl f xs =>
  obtain ⟨g, caps, ys, h1, h2, h3⟩ := jG h
  show clK C.P _ _ _ _ _
  rw [h1, h2]; exact gH h3 hk
 | cln f xs =>
  obtain ⟨g, caps, ys, h1, h2, h3⟩ := jG h
  show clK C.P _ _ _ _ _
  rw [h1, h2]; exact gH h3 fun d m n h => ⟨h.1, hk _ _ _ h.2⟩
 | z0 => exact hk _ _ _ h
 | al z => exact hk _ _ _ h
 | mv _ => exact yZ h hk
 | sls _ _ _ _ _ => exact yZ h hk
 | pick _ _ _ => exact dU h hk
 | ld _ _ _ => exact dU h hk
 | chk _ => exact dU h hk
 | un _ _ => exact dU h hk
 | cv _ _ _ => exact dU h hk
 | fa _ _ => exact dU h hk
 | fld _ _ _ _ => exact dU h hk
 | ext _ _ => exact dU h hk
 | len _ _ => exact dU h hk
 | bxi _ => exact dU h hk
 | mki _ _ _ _ => exact dU h hk
 | bin _ _ _ _ => exact mB h hk
 | ia _ _ _ => exact mB h hk
 | bld _ _ => exact o6 h hk
 | bsl _ _ _ _ => exact o6 h hk
 | bi _ _ => exact o6 h hk
 | mkf _ _ => exact o6 h hk
 | bx _ => exact gO h hk
 | bso _ _ _ _ => exact gO h hk
 | mks _ _ _ _ => exact gO h hk
 | apn _ _ _ _ _ => exact gO h hk
 | st _ _ _ => exact gO h hk
 | sta _ _ _ _ => exact gO h hk
 | app _ _ _ _ _ => exact gO h hk
 | iaa _ _ _ _ => exact mB h hk
 | ixs _ _ => exact mB h hk
 | lk _ _ _ _ _ => exact mB h hk
 | lnm _ => exact dU h hk
 | ldp _ _ _ => exact dU h hk
 | fap _ _ => exact dU h hk
 | mkm => exact hk _ _ _ h
 | mup _ _ _ _ => exact gO h hk
 | cvo _ => exact gO h hk
structure Oc where
 d : D
 ext : Mem
instance : Inhabited Oc := ⟨⟨.top, []⟩⟩
def putE : Dst → D → Env → Env
 | .g j, v, e => upd e j v
 | _, _, e => e
def putT : Dst → D → Env → Env
 | .t j, v, e => (j, v) :: e
 | _, _, e => e
theorem aO {d : Dst} {v : D} {go : Env → Env → Mem → Nat → Prop} : dM d env tl go v mem nx = go (putE d v env) (putT d v tl) mem nx := by
 cases d <;> rfl
theorem qI {α : Type} (j : Nat) (d : α) : ∀ (e : List (Nat × α)), look e j = some d → upd e j d = e
 | [], _ => rfl
 | (k, x) :: e, h => by
  simp only [look] at h
  simp only [upd]
  by_cases hk : k = j
  ·simp only [hk, if_true, Option.some.injEq] at h ⊢; rw [h]
  ·simp only [hk, if_false] at h ⊢; rw [qI j d e h]
theorem dD {g : Opd} {b : Bool} (h : ro tl env g = some (.pl (.bool b))) : gZ b env g = env ∧ g9 b tl g = tl := by
 cases g with
 | t j => exact ⟨rfl, qI j _ tl h⟩
 | g j => exact ⟨qI j _ env h, rfl⟩
 | _ => exact ⟨rfl, rfl⟩
theorem iY {base : Nat} {x : Ins} {j : Nat} {go : Env → Env → Mem → Nat → Prop} (hf : x.i.free = true) (h : One C base x j env tl mem nx go) :
  ∃ oc : Oc, go (putE x.dst oc.d env) (putT x.dst oc.d tl) (oc.ext ++ mem) nx ∧ (oc.ext = [] ∨ (∃ b, oc.ext = [(base + j, b)]) ∧ Cfg.makesI x.i = true) ∧
  ∀ env2 tl2 mem2 nx2 (go2 : Env → Env → Mem → Nat → Prop), (∀ s ∈ Cfg.sees x, look env s = look env2 s ∧ look tl s = look tl2 s) → (∀ p ∈ Cfg.lookO x.i, ∀ d, ro tl env p = some d → jH d mem mem2) →
   go2 (putE x.dst oc.d env2) (putT x.dst oc.d tl2) (oc.ext ++ mem2) nx2 → One C base x j env2 tl2 mem2 nx2 go2 := by
 obtain ⟨d, g, i⟩ := x
 cases g with
 | none =>
  obtain ⟨r, ext, h1, h2, h3⟩ := qP hf h
  rw [aO] at h1
  refine ⟨⟨r, ext⟩, h1, h2, fun e t m n go2 hs hm hgo => ?_⟩
  refine cQ (h3 e t m n (fun s hs' => hs s (by simpa [Cfg.sees] using hs')) hm) ?_
  rintro d' m' n' ⟨rfl, rfl, rfl⟩
  rw [aO]; exact hgo
 | some p =>
  obtain ⟨g, want⟩ := p
  simp only [One, gd] at h
  split at h
  ·rename_i b hro
   by_cases hb : b = want
   ·subst hb
    obtain ⟨s1, s2⟩ := dD hro
    have h0 := h.1 rfl
    rw [s1, s2] at h0
    obtain ⟨r, ext, h1, h2, h3⟩ := qP hf h0
    rw [aO] at h1
    refine ⟨⟨r, ext⟩, h1, h2, fun e t m n go2 hs hm hgo => ?_⟩
    have hro2 : ro t e g = some (.pl (.bool b)) := by rw [← aM (x := g) fun s h => hs s (by simp [Cfg.sees, h])]; exact hro
    obtain ⟨s3, s4⟩ := dD hro2
    simp only [One, gd, hro2]
    refine ⟨fun _ => ?_, fun hn => by cases b <;> simp at hn⟩
    rw [s3, s4]
    refine cQ (h3 e t m n (fun s hs' => hs s (by simp [Cfg.sees, hs'])) hm) ?_
    rintro d' m' n' ⟨rfl, rfl, rfl⟩
    rw [aO]; exact hgo
   ·have hbn : b = !want := by cases b <;> cases want <;> simp_all
    obtain ⟨s1, s2⟩ := dD hro
    have h0 := h.2 hbn
    rw [← hbn, s1, s2, aO] at h0
    refine ⟨⟨.pl undef, []⟩, h0, .inl rfl, fun e t m n go2 hs hm hgo => ?_⟩
    have hro2 : ro t e g = some (.pl (.bool b)) := by rw [← aM (x := g) fun s h => hs s (by simp [Cfg.sees, h])]; exact hro
    obtain ⟨s3, s4⟩ := dD hro2
    simp only [One, gd, hro2]
    refine ⟨fun h => absurd h hb, fun _ => ?_⟩
    rw [← hbn, s3, s4, aO]; exact hgo
  ·rename_i vs hro
   rw [aO] at h
   refine ⟨⟨.pl undef, []⟩, h, .inl rfl, fun e t m n go2 hs hm hgo => ?_⟩
   have hro2 : ro t e g = some (.pl (.tuple vs)) := by rw [← aM (x := g) fun s h => hs s (by simp [Cfg.sees, h])]; exact hro
   simp only [One, gd, hro2]
   rw [aO]; exact hgo
  ·exact h.elim
end
section
variable {C : Cfg} {w w' : World} {S S' : Nat → Prop} {φ φ' : aW} {a : Act} {env tl env2 tl2 : Env} {mem mem2 : Mem} {nx nx2 id base : Nat}
theorem mV {d : Dst} {v : D} {e : Env} {t : Nat} (h : d ≠ .g t) : look (putE d v e) t = look e t := by
 cases d with
 | g j => simp only [putE]; exact aZ _ (fun e => h (by rw [e])) _
 | _ => rfl
theorem kB {d : Dst} {v : D} {e : Env} {t : Nat} (h : d ≠ .t t) : look (putT d v e) t = look e t := by
 cases d with
 | t j => simp only [putT, look]; rw [if_neg (fun e => h (by rw [e]))]
 | _ => rfl
theorem cO {α : Type} (j : Nat) (v : α) : ∀ (e : List (Nat × α)), look (upd e j v) j = (look e j).map fun _ => v
 | [] => rfl
 | (k, x) :: e => by
  by_cases hk : k = j
  ·simp [upd, look, hk]
  ·simp [upd, look, hk, cO j v e]
def Lk {α : Type} (e e2 : List (Nat × α)) : Prop := ∀ t, look e t = look e2 t
theorem Lk.refl {α : Type} (e : List (Nat × α)) : Lk e e := fun _ => rfl
theorem Lk.symm {α : Type} {e e2 : List (Nat × α)} (h : Lk e e2) : Lk e2 e := fun t => (h t).symm
theorem Lk.trans {α : Type} {e e2 e3 : List (Nat × α)} (h : Lk e e2) (k : Lk e2 e3) : Lk e e3 := fun t => (h t).trans (k t)
theorem Lk.upd {α : Type} {e e2 : List (Nat × α)} (h : Lk e e2) (j : Nat) (v : α) : Lk (upd e j v) (upd e2 j v) := fun t => by
 by_cases ht : t = j
 ·subst ht; rw [cO, cO, h]
 ·rw [aZ _ ht, aZ _ ht, h]
theorem Lk.cons {α : Type} {e e2 : List (Nat × α)} (h : Lk e e2) (x : Nat × α) : Lk (x :: e) (x :: e2) := fun t => by
 obtain ⟨k, v⟩ := x
 simp only [look]; rw [h]
theorem Lk.app {α : Type} {e e2 : List (Nat × α)} (h : Lk e e2) : ∀ (x : List (Nat × α)), Lk (x ++ e) (x ++ e2)
 | [] => h
 | y :: x => (Lk.app h x).cons y
theorem Lk.putE {e e2 : Env} (h : Lk e e2) (d : Dst) (v : D) : Lk (putE d v e) (putE d v e2) := by
 cases d with
 | g j => exact h.upd j v
 | _ => exact h
theorem Lk.putT {e e2 : Env} (h : Lk e e2) (d : Dst) (v : D) : Lk (putT d v e) (putT d v e2) := by
 cases d with
 | t j => exact h.cons _
 | _ => exact h
theorem Lk.sub {m m2 : Mem} (h : Lk m m2) : Sub m m2 := fun i b hb => by rw [← h]; exact hb
theorem eS {d d2 : Dst} {v v2 : D} {e : Env} (h : ∀ t ∈ Cfg.dstO d, t ∉ Cfg.dstO d2) : Lk (putE d v (putE d2 v2 e)) (putE d2 v2 (putE d v e)) := by
 cases d with
 | g j =>
  cases d2 with
  | g k =>
   have hne : j ≠ k := fun e => h j (by simp [Cfg.dstO]) (by simp [Cfg.dstO, e])
   intro t
   simp only [Go.Fx.putE]
   by_cases h1 : t = j
   ·subst h1; rw [cO, aZ _ hne, aZ _ hne, cO]
   ·rw [aZ _ h1]
    by_cases h2 : t = k
    ·subst h2; rw [cO, cO, aZ _ h1]
    ·rw [aZ _ h2, aZ _ h2, aZ _ h1]
  | _ => exact Lk.refl _
 | _ => exact Lk.refl _
theorem eP {d d2 : Dst} {v v2 : D} {e : Env} (h : ∀ t ∈ Cfg.dstO d, t ∉ Cfg.dstO d2) : Lk (putT d v (putT d2 v2 e)) (putT d2 v2 (putT d v e)) := by
 cases d with
 | t j =>
  cases d2 with
  | t k =>
   have hne : j ≠ k := fun e => h j (by simp [Cfg.dstO]) (by simp [Cfg.dstO, e])
   intro t
   simp only [Go.Fx.putT, look]
   by_cases h1 : j = t
   ·subst h1; rw [if_pos rfl, if_neg (fun e => hne e.symm), if_pos rfl]
   ·rw [if_neg h1, if_neg h1]
  | _ => exact Lk.refl _
 | _ => exact Lk.refl _
abbrev Go4 := Env → Env → Mem → Nat → Prop
def Inv (go : Go4) : Prop := ∀ e t m n e2 t2 m2, Lk e e2 → Lk t t2 → Lk m m2 → go e t m n → go e2 t2 m2 n
abbrev I.call : I → Bool := Cfg.callI
theorem wrc_lk {n : Nat} {x : D} {new : List D} {m : Mem} (h : wrc mem n x new = some m) (hm : Lk mem mem2) : ∃ m2, wrc mem2 n x new = some m2 ∧ Lk m m2 := by
 cases x with
 | opt id off =>
  simp only [wrc] at h ⊢
  split at h
  ·rename_i hc
   rw [if_pos hc, ← hm]
   split at h
   ·split at h
    ·rename_i h2
     rw [if_pos h2]
     simp only [Option.some.injEq] at h; subst h
     exact ⟨_, rfl, hm.upd _ _⟩
    ·simp at h
   ·simp at h
  ·simp at h
 | oel id ver i off =>
  simp only [wrc] at h ⊢
  split at h
  ·rename_i hc
   rw [if_pos hc, ← hm]
   split at h
   ·split at h
    ·rename_i h2
     rw [if_pos h2]
     split at h
     ·split at h
      ·rename_i h3
       rw [if_pos h3]
       simp only [Option.some.injEq] at h; subst h
       exact ⟨_, rfl, hm.upd _ _⟩
      ·simp at h
     ·simp at h
    ·simp at h
   ·simp at h
  ·simp at h
 | _ => simp [wrc] at h
theorem GY {k b : Nat} {x y : Option D} {d : D} {m : Mem} (h : gB id mem k b x y = some (d, m)) (hm : Lk mem mem2) : ∃ m2, gB id mem2 k b x y = some (d, m2) ∧ Lk m m2 := by
 unfold gB at h ⊢
 split at h
 ·split at h
  ·rename_i hr
   rw [if_pos hr]
   split at h
   ·rename_i he
    rw [sF (hm.sub.at _) he]
    simp only at h ⊢
    split at h
    ·rename_i hb
     rw [if_pos hb]
     simp only [Option.some.injEq, Prod.mk.injEq] at h
     obtain ⟨rfl, rfl⟩ := h
     exact ⟨_, rfl, hm.cons _⟩
    ·simp at h
   ·simp at h
  ·simp at h
 ·simp at h
theorem FG {k b : Nat} {x y : Option D} {d : D} {m : Mem} (h : lX id mem k b x y = some (d, m)) (hm : Lk mem mem2) : ∃ m2, lX id mem2 k b x y = some (d, m2) ∧ Lk m m2 := by
 unfold lX at h ⊢
 split at h
 ·rename_i i ver lo n y
  split at h
  ·rename_i h1 h2
   rw [← hm, h1, sF (hm.sub.at _) h2]
   simp only
   split at h
   ·rename_i h3
    rw [if_pos h3]
    simp only [Option.some.injEq, Prod.mk.injEq] at h
    obtain ⟨rfl, rfl⟩ := h
    exact ⟨_, rfl, hm.upd _ _⟩
   ·simp at h
  ·simp at h
 ·exact GY h hm
theorem BS {n : Nat} {x y : Option D} {d : D} {m : Mem} (h : stM mem n x y = some (d, m)) (hm : Lk mem mem2) : ∃ m2, stM mem2 n x y = some (d, m2) ∧ Lk m m2 := by
 unfold stM at h ⊢
 split at h
 ·split at h
  ·rename_i hw
   simp only [Option.some.injEq, Prod.mk.injEq] at h
   obtain ⟨rfl, rfl⟩ := h
   obtain ⟨m2, h1, h2⟩ := wrc_lk hw hm
   rw [h1]; exact ⟨m2, rfl, h2⟩
  ·simp at h
 ·simp at h
theorem G3 {x : Option D} {d : D} {m : Mem} (h : nT mem x = some (d, m)) (hm : Lk mem mem2) : ∃ m2, nT mem2 x = some (d, m2) ∧ Lk m m2 := by
 unfold nT at h ⊢
 split at h
 ·split at h
  ·rename_i hl
   rw [← hm, hl]
   simp only at h ⊢
   split at h
   ·rename_i hc
    rw [if_pos hc]
    simp only [Option.some.injEq, Prod.mk.injEq] at h
    obtain ⟨rfl, rfl⟩ := h
    exact ⟨_, rfl, hm.upd _ _⟩
   ·simp at h
  ·simp at h
 ·simp at h
theorem FW {kd : Option IntKind} {x y v : Option D} {d : D} {m : Mem} (h : kR mem kd x y v = some (d, m)) (hm : Lk mem mem2) : ∃ m2, kR mem2 kd x y v = some (d, m2) ∧ Lk m m2 := by
 unfold kR at h ⊢
 split at h
 ·split at h
  ·rename_i hl
   rw [← hm, hl]
   simp only at h ⊢
   split at h
   ·rename_i hc
    rw [if_pos hc]
    simp only [Option.some.injEq, Prod.mk.injEq] at h
    obtain ⟨rfl, rfl⟩ := h
    exact ⟨_, rfl, hm.upd _ _⟩
   ·simp at h
  ·simp at h
 ·simp at h
theorem D4 {n : Nat} {x : D} {new : List D} {m : Mem} (h : wrc mem n x new = some m) : ∃ i b b', x.hd = some i ∧ look mem i = some b ∧ m = upd mem i b' ∧ ∀ mem2, look mem2 i = some b → wrc mem2 n x new = some (upd mem2 i b') := by
 cases x with
 | opt id off =>
  simp only [wrc] at h ⊢
  split at h
  ·rename_i hc
   split at h
   ·rename_i cs hl
    split at h
    ·rename_i h2
     simp only [Option.some.injEq] at h; subst h
     exact ⟨id, _, _, rfl, hl, rfl, fun mem2 hl2 => by rw [if_pos hc, hl2]; simp only; rw [if_pos h2]⟩
    ·simp at h
   ·simp at h
  ·simp at h
 | oel id ver i off =>
  simp only [wrc] at h ⊢
  split at h
  ·rename_i hc
   split at h
   ·rename_i v k es hl
    split at h
    ·rename_i h2
     split at h
     ·rename_i e he
      split at h
      ·rename_i h3
       simp only [Option.some.injEq] at h; subst h
       exact ⟨id, _, _, rfl, hl, rfl, fun mem2 hl2 => by rw [if_pos hc, hl2]; simp only; rw [if_pos h2, he]; simp only; rw [if_pos h3]⟩
      ·simp at h
     ·simp at h
    ·simp at h
   ·simp at h
  ·simp at h
 | _ => simp [wrc] at h
theorem xG {n : Nat} {a y : Option D} {d : D} {m : Mem} (h : stM mem n a y = some (d, m)) : ∃ x i b b', a = some x ∧ x.hd = some i ∧ look mem i = some b ∧ m = upd mem i b' ∧ ∀ mem2, look mem2 i = some b → stM mem2 n a y = some (d, upd mem2 i b') := by
 unfold stM at h ⊢
 split at h
 ·rename_i a0 y0
  split at h
  ·rename_i m0 hw
   simp only [Option.some.injEq, Prod.mk.injEq] at h
   obtain ⟨rfl, rfl⟩ := h
   obtain ⟨i, b, b', h1, h2, h3, h4⟩ := D4 hw
   exact ⟨_, i, b, b', rfl, h1, h2, h3, fun mem2 h => by rw [h4 mem2 h]⟩
  ·simp at h
 ·simp at h
theorem upd_comm {α : Type} {i j : Nat} {x y : α} (h : i ≠ j) (m : List (Nat × α)) : Lk (upd (upd m i x) j y) (upd (upd m j y) i x) := fun t => by
 by_cases h1 : t = i
 ·subst h1; rw [aZ _ h, cO, cO, aZ _ h]
 ·by_cases h2 : t = j
  ·subst h2; rw [cO, aZ _ h1, aZ _ h1, cO]
  ·rw [aZ _ h2, aZ _ h1, aZ _ h1, aZ _ h2]
theorem oN {i : I} {K : KD} (hf : i.free = false) (hc : i.call = false) (h : aS C id i env tl mem nx K) : ∃ d m, K d m nx ∧
  ∀ env2 tl2 mem2 nx2, (∀ s ∈ Cfg.seesI i, look env s = look env2 s ∧ look tl s = look tl2 s) → Lk mem mem2 → ∃ m2, Lk m m2 ∧ aS C id i env2 tl2 mem2 nx2 (Sg d m2 nx2) := by
 cases i with
 | st n x y =>
  obtain ⟨d, m, h1, h2⟩ := cW h
  refine ⟨d, m, h2, fun e t m2 n2 hs hm => ?_⟩
  rw [aM (x := x) fun s h => hs s (by simp [Cfg.seesI, h]), aM (x := y) fun s h => hs s (by simp [Cfg.seesI, h])] at h1
  obtain ⟨m', g1, g2⟩ := BS h1 hm
  exact ⟨m', g2, fX g1 ⟨rfl, rfl, rfl⟩⟩
 | sta n x y ps =>
  obtain ⟨d, m, h1, h2⟩ := cW h
  refine ⟨d, m, h2, fun e t m2 n2 hs hm => ?_⟩
  rw [aM (x := x) fun s h => hs s (by simp [Cfg.seesI, h]), aM (x := y) fun s h => hs s (by simp [Cfg.seesI, h]), fA (xs := ps) fun s h => hs s (by simp only [Cfg.seesI, List.mem_append]; exact .inr h)] at h1
  unfold mT at h1
  split at h1
  ·rename_i hap
   obtain ⟨m', g1, g2⟩ := BS h1 hm
   exact ⟨m', g2, fX (by unfold mT; rw [if_pos hap]; exact g1) ⟨rfl, rfl, rfl⟩⟩
  ·simp at h1
 | app k b z x y =>
  obtain ⟨d, m, h1, h2⟩ := cW h
  refine ⟨d, m, h2, fun e t m2 n2 hs hm => ?_⟩
  rw [aM (x := x) fun s h => hs s (by simp [Cfg.seesI, h]), aM (x := y) fun s h => hs s (by simp [Cfg.seesI, h])] at h1
  obtain ⟨m', g1, g2⟩ := FG h1 hm
  exact ⟨m', g2, fX g1 ⟨rfl, rfl, rfl⟩⟩
 | cvo x =>
  obtain ⟨d, m, h1, h2⟩ := cW h
  refine ⟨d, m, h2, fun e t m2 n2 hs hm => ?_⟩
  rw [aM (x := x) fun s h => hs s (by simp [Cfg.seesI, h])] at h1
  obtain ⟨m', g1, g2⟩ := G3 h1 hm
  exact ⟨m', g2, fX g1 ⟨rfl, rfl, rfl⟩⟩
 | mup kd x y v =>
  obtain ⟨d, m, h1, h2⟩ := cW h
  refine ⟨d, m, h2, fun e t m2 n2 hs hm => ?_⟩
  rw [aM (x := x) fun s h => hs s (by simp [Cfg.seesI, h]), aM (x := y) fun s h => hs s (by simp [Cfg.seesI, h]), aM (x := v) fun s h => hs s (by simp [Cfg.seesI, h])] at h1
  obtain ⟨m', g1, g2⟩ := FW h1 hm
  exact ⟨m', g2, fX g1 ⟨rfl, rfl, rfl⟩⟩
 | cl _ _ => simp [I.call, Cfg.callI] at hc
 | cln _ _ => simp [I.call, Cfg.callI] at hc
 | _ => simp [I.free] at hf
theorem zA (hm : Lk mem mem2) (h : MSim S φ mem nx w) : MSim S φ mem2 nx w := ⟨fun i b hi => h.mem i b (by rw [hm]; exact hi), h.inj, h.lt, h.fresh, h.sub⟩
theorem vW {P : Program} {f : FuncId} {xs : List D} {K : KD} (hm : Lk mem mem2) (h : bH P f xs mem nx K) : bH P f xs mem2 nx K :=
 ⟨h.1, fun S φ w ys h1 hb h2 => (h.2 S φ w ys (zA hm.symm h1) hb h2).mono fun e w' ⟨v, d, m', n', S', φ', g1, g2, g3, g4, g5, g6, g7, g8⟩ =>
  ⟨v, d, m', n', S', φ', g1, g2, g3, g4, g5, g6, ⟨g7.sub, fun b hb ho => g7.keep b hb fun ⟨i, blk, l, k1, k2⟩ => ho ⟨i, blk, l, by rw [← hm]; exact k1, k2⟩, g7.size,
   fun b hb ho => let ⟨i, blk, l, k1, k2⟩ := g7.own b hb ho; ⟨i, blk, l, by rw [← hm]; exact k1, k2⟩,
   fun b hb => (g7.news b hb).imp id fun h => h.imp id fun ⟨i, blk, l, k1, k2⟩ => ⟨i, blk, l, by rw [← hm]; exact k1, k2⟩, g7.os, g7.output, g7.tape⟩, g8⟩⟩
theorem wX {i : I} {K K2 : KD} (hs : ∀ s ∈ Cfg.seesI i, look env s = look env2 s ∧ look tl s = look tl2 s) (hm : Lk mem mem2) (hk : ∀ d m m2 n, Lk m m2 → K d m n → K2 d m2 n)
  (h : aS C id i env tl mem nx K) : aS C id i env2 tl2 mem2 nx K2 := by
 cases hf : i.free with
 | true =>
  obtain ⟨d, ext, h1, h2, h3⟩ := qP hf h
  refine cQ (h3 env2 tl2 mem2 nx hs fun _ _ _ _ => hm.sub.at _) ?_
  rintro d' m' n' ⟨rfl, rfl, rfl⟩
  exact hk _ _ _ _ (hm.app ext) h1
 | false =>
  cases hc : i.call with
  | false =>
   obtain ⟨d, m, h1, h2⟩ := oN hf hc h
   obtain ⟨m2, h3, h4⟩ := h2 env2 tl2 mem2 nx hs hm
   refine cQ h4 ?_
   rintro d' m' n' ⟨rfl, rfl, rfl⟩
   exact hk _ _ _ _ h3 h1
  | true =>
   cases i with
   | cl f xs =>
    obtain ⟨g, caps, ys, h1, h2, h3⟩ := jG h
    show clK C.P _ _ _ _ _
    rw [aM (x := f) fun s h => hs s (by simp [Cfg.seesI, h])] at h1
    rw [fA (xs := xs) fun s h => hs s (by simp only [Cfg.seesI, List.mem_append]; exact .inr h)] at h2
    rw [h1, h2]
    exact gH (vW hm h3) fun d m n hd => hk _ _ _ _ (Lk.refl m) hd
   | cln f xs =>
    obtain ⟨g, caps, ys, h1, h2, h3⟩ := jG h
    show clK C.P _ _ _ _ _
    rw [aM (x := f) fun s h => hs s (by simp [Cfg.seesI, h])] at h1
    rw [fA (xs := xs) fun s h => hs s (by simp only [Cfg.seesI, List.mem_append]; exact .inr h)] at h2
    rw [h1, h2]
    exact gH (vW hm h3) fun d m n hd => ⟨fun i b hb => hd.1 i b (by rw [hm]; exact hb), hk _ _ _ _ (Lk.refl m) hd.2⟩
   | _ => simp [I.call, Cfg.callI] at hc
theorem nV {x : Ins} {j : Nat} {go go2 : Go4} (hs : ∀ s ∈ Cfg.sees x, look env s = look env2 s ∧ look tl s = look tl2 s) (hm : Lk mem mem2)
  (hgo : ∀ d m m2 n, Lk m m2 → go (putE x.dst d env) (putT x.dst d tl) m n → go2 (putE x.dst d env2) (putT x.dst d tl2) m2 n) (h : One C base x j env tl mem nx go) : One C base x j env2 tl2 mem2 nx go2 := by
 obtain ⟨d, g, i⟩ := x
 cases g with
 | none =>
  exact wX (fun s h => hs s (by simp [Cfg.sees, h])) hm (fun v m m2 n h1 h2 => by rw [aO] at h2 ⊢; exact hgo _ _ _ _ h1 h2) h
 | some p =>
  obtain ⟨g, want⟩ := p
  have hro : ro tl env g = ro tl2 env2 g := aM fun s h => hs s (by simp [Cfg.sees, h])
  simp only [One, gd] at h ⊢
  rw [← hro]
  split at h
  ·rename_i b hb
   obtain ⟨s1, s2⟩ := dD hb
   have hb2 := hb
   rw [hro] at hb2
   obtain ⟨s3, s4⟩ := dD hb2
   refine ⟨fun e => ?_, fun e => ?_⟩
   ·have h1 := h.1 e
    subst e
    rw [s1, s2] at h1; rw [s3, s4]
    exact wX (fun s h => hs s (by simp [Cfg.sees, h])) hm (fun v m m2 n h1 h2 => by rw [aO] at h2 ⊢; exact hgo _ _ _ _ h1 h2) h1
   ·have h1 := h.2 e
    rw [← e, s1, s2, aO] at h1
    rw [← e, s3, s4, aO]
    exact hgo _ _ _ _ hm h1
  ·rename_i vs hb
   rw [aO] at h ⊢
   exact hgo _ _ _ _ hm h
  ·exact h.elim
theorem vA {x : Ins} {j : Nat} {go go2 : Go4} (hgo : ∀ e t m n, go e t m n → go2 e t m n) (h : One C base x j env tl mem nx go) : One C base x j env tl mem nx go2 := by
 obtain ⟨d, g, i⟩ := x
 cases g with
 | none => exact cQ h fun v m n h => by rw [aO] at h ⊢; exact hgo _ _ _ _ h
 | some p =>
  obtain ⟨g, want⟩ := p
  simp only [One, gd] at h ⊢
  split at h
  ·exact ⟨fun e => cQ (h.1 e) fun v m n h => by rw [aO] at h ⊢; exact hgo _ _ _ _ h, fun e => by have := h.2 e; rw [aO] at this ⊢; exact hgo _ _ _ _ this⟩
  ·rw [aO] at h ⊢; exact hgo _ _ _ _ h
  ·exact h.elim
theorem yQ {x : Ins} {j : Nat} {go : Go4} (hg : Inv go) : Inv (fun e t m n => One C base x j e t m n go) := fun e t m n e2 t2 m2 he ht hm h =>
 nV (fun s _ => ⟨he s, ht s⟩) hm (fun d m m2 n h1 h2 => hg _ _ _ _ _ _ _ (he.putE _ _) (ht.putT _ _) h1 h2) h
theorem write_one' {x : Ins} {j : Nat} {go : Go4} (hf : x.i.free = false) (hc : x.i.call = false) (h : One C base x j env tl mem nx go) : ∃ d m, go (putE x.dst d env) (putT x.dst d tl) m nx ∧
  ∀ env2 tl2 nx2 (go2 : Go4), (∀ s ∈ Cfg.sees x, look env s = look env2 s ∧ look tl s = look tl2 s) → (∀ m2, Lk m m2 → go2 (putE x.dst d env2) (putT x.dst d tl2) m2 nx2) → One C base x j env2 tl2 mem nx2 go2 := by
 obtain ⟨d, g, i⟩ := x
 cases g with
 | none =>
  obtain ⟨v, m, h1, h2⟩ := oN hf hc h
  rw [aO] at h1
  refine ⟨v, m, h1, fun e t n go2 hs hg => ?_⟩
  obtain ⟨m2, h3, h4⟩ := h2 e t mem n (fun s h => hs s (by simp [Cfg.sees, h])) (Lk.refl _)
  refine cQ h4 ?_
  rintro d' m' n' ⟨rfl, rfl, rfl⟩
  rw [aO]; exact hg _ h3
 | some p =>
  obtain ⟨g, want⟩ := p
  simp only [One, gd] at h
  split at h
  ·rename_i b hb
   obtain ⟨s1, s2⟩ := dD hb
   by_cases hbw : b = want
   ·have h1 := h.1 hbw
    subst hbw
    rw [s1, s2] at h1
    obtain ⟨v, m, h1, h2⟩ := oN hf hc h1
    rw [aO] at h1
    refine ⟨v, m, h1, fun e t n go2 hs hg => ?_⟩
    have hro2 : ro t e g = some (.pl (.bool b)) := by rw [← aM (x := g) fun s h => hs s (by simp [Cfg.sees, h])]; exact hb
    obtain ⟨s3, s4⟩ := dD hro2
    simp only [One, gd, hro2]
    refine ⟨fun _ => ?_, fun hn => by cases b <;> simp at hn⟩
    rw [s3, s4]
    obtain ⟨m2, h3, h4⟩ := h2 e t mem n (fun s h => hs s (by simp [Cfg.sees, h])) (Lk.refl _)
    refine cQ h4 ?_
    rintro d' m' n' ⟨rfl, rfl, rfl⟩
    rw [aO]; exact hg _ h3
   ·have hbn : b = !want := by cases b <;> cases want <;> simp_all
    have h1 := h.2 hbn
    rw [← hbn, s1, s2, aO] at h1
    refine ⟨_, _, h1, fun e t n go2 hs hg => ?_⟩
    have hro2 : ro t e g = some (.pl (.bool b)) := by rw [← aM (x := g) fun s h => hs s (by simp [Cfg.sees, h])]; exact hb
    obtain ⟨s3, s4⟩ := dD hro2
    simp only [One, gd, hro2]
    refine ⟨fun h => absurd h hbw, fun _ => ?_⟩
    rw [← hbn, s3, s4, aO]; exact hg _ (Lk.refl _)
  ·rename_i vs hb
   rw [aO] at h
   refine ⟨_, _, h, fun e t n go2 hs hg => ?_⟩
   have hro2 : ro t e g = some (.pl (.tuple vs)) := by rw [← aM (x := g) fun s h => hs s (by simp [Cfg.sees, h])]; exact hb
   simp only [One, gd, hro2]
   rw [aO]; exact hg _ (Lk.refl _)
  ·exact h.elim
def I.adr : I → Option Opd
 | .st _ a _ | .sta _ a _ _ => some a
 | _ => none
def I.tol : I → List Opd
 | .sta _ _ _ ps => ps
 | _ => []
theorem sX {i : I} {p : Opd} {K : KD} (hp : i.adr = some p) (h : aS C id i env tl mem nx K) : ∃ d x k b b', ro tl env p = some x ∧ x.hd = some k ∧ look mem k = some b ∧ K d (upd mem k b') nx ∧
  (∀ q ∈ i.tol, ∃ y, ro tl env q = some y ∧ y.hd ≠ some k) ∧
  ∀ env2 tl2 mem2 nx2, (∀ s ∈ Cfg.seesI i, look env s = look env2 s ∧ look tl s = look tl2 s) → look mem2 k = some b → aS C id i env2 tl2 mem2 nx2 (Sg d (upd mem2 k b') nx2) := by
 cases i with
 | st n a v =>
  simp only [I.adr, Option.some.injEq] at hp; subst hp
  obtain ⟨d, m, h1, h2⟩ := cW h
  obtain ⟨x, k, b, b', g1, g2, g3, rfl, g5⟩ := xG h1
  refine ⟨d, x, k, b, b', g1, g2, g3, h2, by simp [I.tol], fun e t m2 n2 hs hm => ?_⟩
  rw [aM (x := a) fun s h => hs s (by simp [Cfg.seesI, h]), aM (x := v) fun s h => hs s (by simp [Cfg.seesI, h])] at g5
  exact fX (g5 m2 hm) ⟨rfl, rfl, rfl⟩
 | sta n a v ps =>
  simp only [I.adr, Option.some.injEq] at hp; subst hp
  obtain ⟨d, m, h1, h2⟩ := cW h
  unfold mT at h1
  split at h1
  ·rename_i hap
   obtain ⟨x, k, b, b', g1, g2, g3, rfl, g5⟩ := xG h1
   refine ⟨d, x, k, b, b', g1, g2, g3, h2, fun q hq => ?_, fun e t m2 n2 hs hm => ?_⟩
   ·rw [g1] at hap
    simp only [I.tol] at hq
    unfold jP at hap
    split at hap
    ·rename_i a0 ps0 e1 e2
     simp only [Option.some.injEq] at e1; subst e1
     clear h1 h h2
     induction ps generalizing ps0 with
     | nil => simp at hq
     | cons r ps ih =>
      simp only [ros] at e2
      split at e2
      ·rename_i dr dps hr hps
       simp only [Option.some.injEq] at e2; subst e2
       simp only [List.all_cons, Bool.and_eq_true] at hap
       rcases List.mem_cons.1 hq with rfl | hq
       ·refine ⟨dr, hr, fun e => ?_⟩
        have := hap.1
        rw [e, g2] at this; simp at this
       ·exact ih hq _ hps hap.2
      ·simp at e2
    ·simp at hap
   ·rw [aM (x := a) fun s h => hs s (by simp [Cfg.seesI, h]), aM (x := v) fun s h => hs s (by simp [Cfg.seesI, h])] at g5
    rw [aM (x := a) fun s h => hs s (by simp [Cfg.seesI, h]), fA (xs := ps) fun s h => hs s (by simp only [Cfg.seesI, List.mem_append]; exact .inr h)] at hap
    exact fX (by unfold mT; rw [if_pos hap]; exact g5 m2 hm) ⟨rfl, rfl, rfl⟩
  ·simp at h1
 | _ => simp [I.adr] at hp
theorem oH {x : Ins} {p : Opd} {j : Nat} {go : Go4} (hp : x.i.adr = some p) (h : One C base x j env tl mem nx go) : ∃ d,
  (go (putE x.dst d env) (putT x.dst d tl) mem nx ∧ ∀ env2 tl2 mem2 nx2 (go2 : Go4), (∀ s ∈ Cfg.sees x, look env s = look env2 s ∧ look tl s = look tl2 s) → go2 (putE x.dst d env2) (putT x.dst d tl2) mem2 nx2 → One C base x j env2 tl2 mem2 nx2 go2) ∨
  ∃ a k b b', go (putE x.dst d env) (putT x.dst d tl) (upd mem k b') nx ∧ ro tl env p = some a ∧ a.hd = some k ∧ look mem k = some b ∧ (∀ q ∈ x.i.tol, ∃ y, ro tl env q = some y ∧ y.hd ≠ some k) ∧
   ∀ env2 tl2 mem2 nx2 (go2 : Go4), (∀ s ∈ Cfg.sees x, look env s = look env2 s ∧ look tl s = look tl2 s) → look mem2 k = some b → go2 (putE x.dst d env2) (putT x.dst d tl2) (upd mem2 k b') nx2 → One C base x j env2 tl2 mem2 nx2 go2 := by
 obtain ⟨d, g, i⟩ := x
 cases g with
 | none =>
  obtain ⟨v, a, k, b, b', h1, h2, h3, h4, h5, h6⟩ := sX hp h
  rw [aO] at h4
  refine ⟨v, .inr ⟨a, k, b, b', h4, h1, h2, h3, h5, fun e t m n go2 hs hm hg => ?_⟩⟩
  refine cQ (h6 e t m n (fun s h => hs s (by simp [Cfg.sees, h])) hm) ?_
  rintro d' m' n' ⟨rfl, rfl, rfl⟩
  rw [aO]; exact hg
 | some q =>
  obtain ⟨g, want⟩ := q
  simp only [One, gd] at h
  split at h
  ·rename_i b0 hb
   obtain ⟨s1, s2⟩ := dD hb
   by_cases hbw : b0 = want
   ·have h1 := h.1 hbw
    subst hbw
    rw [s1, s2] at h1
    obtain ⟨v, a, k, b, b', g1, g2, g3, g4, g5, g6⟩ := sX hp h1
    rw [aO] at g4
    refine ⟨v, .inr ⟨a, k, b, b', g4, g1, g2, g3, g5, fun e t m n go2 hs hm hg => ?_⟩⟩
    have hro2 : ro t e g = some (.pl (.bool b0)) := by rw [← aM (x := g) fun s h => hs s (by simp [Cfg.sees, h])]; exact hb
    obtain ⟨s3, s4⟩ := dD hro2
    simp only [One, gd, hro2]
    refine ⟨fun _ => ?_, fun hn => by cases b0 <;> simp at hn⟩
    rw [s3, s4]
    refine cQ (g6 e t m n (fun s h => hs s (by simp [Cfg.sees, h])) hm) ?_
    rintro d' m' n' ⟨rfl, rfl, rfl⟩
    rw [aO]; exact hg
   ·have hbn : b0 = !want := by cases b0 <;> cases want <;> simp_all
    have h1 := h.2 hbn
    rw [← hbn, s1, s2, aO] at h1
    refine ⟨_, .inl ⟨h1, fun e t m n go2 hs hg => ?_⟩⟩
    have hro2 : ro t e g = some (.pl (.bool b0)) := by rw [← aM (x := g) fun s h => hs s (by simp [Cfg.sees, h])]; exact hb
    obtain ⟨s3, s4⟩ := dD hro2
    simp only [One, gd, hro2]
    refine ⟨fun h => absurd h hbw, fun _ => ?_⟩
    rw [← hbn, s3, s4, aO]; exact hg
  ·rename_i vs hb
   rw [aO] at h
   refine ⟨_, .inl ⟨h, fun e t m n go2 hs hg => ?_⟩⟩
   have hro2 : ro t e g = some (.pl (.tuple vs)) := by rw [← aM (x := g) fun s h => hs s (by simp [Cfg.sees, h])]; exact hb
   simp only [One, gd, hro2]
   rw [aO]; exact hg
  ·exact h.elim
theorem u5 {p q : Opd} (h : Cfg.sameO p q = true) : p = q := by
 cases p <;> cases q <;> simp_all [Cfg.sameO]
theorem r8 {x y : Ins} {d : D} {p : Opd} (h : ∀ t ∈ Cfg.dstO x.dst, t ∉ Cfg.sees y) (hp : ∀ s ∈ Cfg.seesO p, s ∈ Cfg.sees y) : ro (putT x.dst d tl) (putE x.dst d env) p = ro tl env p :=
 aM fun s hs => ⟨mV fun e => h s (by simp [e, Cfg.dstO]) (hp s hs), kB fun e => h s (by simp [e, Cfg.dstO]) (hp s hs)⟩
theorem rG {i : I} {p : Opd} (h : p ∈ Cfg.lookO i) : ∀ s ∈ Cfg.seesO p, s ∈ Cfg.seesI i := by
 intro s hs
 cases i <;> simp_all [Cfg.lookO, Cfg.seesI]
theorem vB {i : I} {p : Opd} (h : p ∈ i.tol) : ∀ s ∈ Cfg.seesO p, s ∈ Cfg.seesI i := by
 intro s hs
 cases i <;> simp only [I.tol] at h <;> try simp at h
 simp only [Cfg.seesI, List.mem_append, List.mem_flatMap]
 exact .inr ⟨p, h, hs⟩
theorem x7 {rm : List (Nat × Opd)} {x y : I} (h : Cfg.staI rm x y = true) : (∃ q, y.adr = some q) ∧ ((x.free = true ∧ Cfg.makesI x = false ∧ ∀ p ∈ Cfg.lookO x, Cfg.rootOf rm p ∈ y.tol) ∨ ∃ p, x.adr = some p ∧ Cfg.rootOf rm p ∈ y.tol) := by
 have key : ∀ {p : Opd} {ps : List Opd}, ps.any (Cfg.sameO p) = true → p ∈ ps := fun h => by
  obtain ⟨q, h1, h2⟩ := List.any_eq_true.1 h
  rw [u5 h2]; exact h1
 cases y with
 | sta n a v ps =>
  refine ⟨⟨a, rfl⟩, ?_⟩
  cases x with
  | st _ b _ => exact .inr ⟨b, rfl, key h⟩
  | sta _ b _ _ => exact .inr ⟨b, rfl, key h⟩
  | _ =>
   left
   simp only [Cfg.staI, Bool.and_eq_true, Bool.not_eq_true', List.all_eq_true] at h
   exact ⟨h.1, h.2.1, fun p hp => key (h.2.2 p hp)⟩
 | _ => cases x <;> simp [Cfg.staI] at h
theorem x9 {x y : I} (h : Cfg.clnI x y = true) : (∃ f xs, y = .cln f xs) ∧ x.free = true ∧ Cfg.makesI x = false := by
 cases y with
 | cln f xs =>
  simp only [Cfg.clnI, Bool.and_eq_true, Bool.not_eq_true'] at h
  exact ⟨⟨f, xs, rfl⟩, h.1, h.2⟩
 | _ => simp [Cfg.clnI] at h
theorem EY {f : Opd} {xs : List Opd} {K : KD} (h : aS C id (.cln f xs) env tl mem nx K) : aS C id (.cln f xs) env tl mem nx (fun d m n => kN mem m ∧ K d m n) := by
 obtain ⟨g, caps, ys, h1, h2, h3⟩ := jG h
 show clK C.P _ _ _ _ _
 rw [h1, h2]; exact gH h3 fun d m n h => ⟨h.1, h⟩
theorem FQ {x : Ins} {f : Opd} {xs : List Opd} {j : Nat} {go : Go4} (hx : x.i = .cln f xs) (h : One C base x j env tl mem nx go) : One C base x j env tl mem nx (fun e t m n => kN mem m ∧ go e t m n) := by
 obtain ⟨d, g, i⟩ := x
 simp only at hx
 subst hx
 have key : ∀ {env tl : Env} , One C base ⟨d, none, .cln f xs⟩ j env tl mem nx go → One C base ⟨d, none, .cln f xs⟩ j env tl mem nx (fun e t m n => kN mem m ∧ go e t m n) := fun h => by
  refine cQ (id := base + j) (EY (id := base + j) h) fun v m n h => ?_
  obtain ⟨h1, h2⟩ := h
  rw [aO] at h2 ⊢
  exact ⟨h1, h2⟩
 cases g with
 | none => exact key h
 | some q =>
  obtain ⟨g, want⟩ := q
  simp only [One, gd] at h ⊢
  split at h
  ·refine ⟨fun e => key (h.1 e), fun e => ?_⟩
   have := h.2 e
   rw [aO] at this ⊢
   exact ⟨fun _ _ h => h, this⟩
  ·rw [aO] at h ⊢
   exact ⟨fun _ _ h => h, h⟩
  ·exact h.elim
def iO (rm : List (Nat × Opd)) (env tl : Env) : Prop := ∀ e ∈ rm, ∀ d, look tl e.1 = some d → d.hd = none ∨ ∃ dr, ro tl env e.2 = some dr ∧ d.hd = dr.hd
theorem AM {rm : List (Nat × Opd)} : iO rm env [] := fun e _ d h => by simp [look] at h
theorem oJ {rm : List (Nat × Opd)} (h : iO rm env tl) {p : Opd} {d : D} (hd : ro tl env p = some d) : d.hd = none ∨ ∃ dr, ro tl env (Cfg.rootOf rm p) = some dr ∧ d.hd = dr.hd := by
 cases p with
 | t k =>
  simp only [Cfg.rootOf]
  split
  ·rename_i e he
   have h1 := List.mem_of_find?_eq_some he
   have h2 := List.find?_some he
   simp only [beq_iff_eq] at h2
   exact h e h1 d (by rw [h2]; exact hd)
  ·exact .inr ⟨d, hd, rfl⟩
 | _ => exact .inr ⟨d, hd, rfl⟩
theorem yA {i : I} {p : Opd} {K : KD} (hp : Cfg.partO i = some p) (h : aS C id i env tl mem nx K) {K2 : KD} (hk : ∀ d m n, (∃ dp, ro tl env p = some dp ∧ d.hd = dp.hd) → K d m n → K2 d m n) : aS C id i env tl mem nx K2 := by
 cases i <;> simp only [Cfg.partO, Option.some.injEq] at hp <;> try simp at hp
 case mv x =>
  subst hp
  obtain ⟨d, h1, h2⟩ := fZ h
  exact nI h1 (hk _ _ _ ⟨d, h1, rfl⟩ h2)
 case chk x =>
  subst hp
  obtain ⟨d, r, h1, h2, h3⟩ := bN h
  refine d9 h1 h2 (hk _ _ _ ⟨d, h1, ?_⟩ h3)
  cases d <;> simp only [qA, Option.some.injEq] at h2 <;> try simp at h2
  all_goals subst h2; rfl
 case fa off x =>
  subst hp
  obtain ⟨d, r, h1, h2, h3⟩ := bN h
  refine d9 h1 h2 (hk _ _ _ ⟨d, h1, ?_⟩ h3)
  cases d <;> simp only [faD, Option.some.injEq, Option.ite_none_right_eq_some] at h2 <;> try simp at h2
  ·obtain ⟨_, rfl⟩ := h2; rfl
  ·subst h2; rfl
  ·obtain ⟨_, rfl⟩ := h2; rfl
 case ia k x y =>
  subst hp
  obtain ⟨d, d2, r, h1, h2, h3, h4⟩ := e7 h
  refine lK h1 h2 h3 (hk _ _ _ ⟨d, h1, ?_⟩ h4)
  unfold iaD at h3
  split at h3
  ·split at h3
   ·split at h3
    ·split at h3
     ·simp only [Option.some.injEq] at h3; subst h3; rfl
     ·simp at h3
    ·simp at h3
   ·simp at h3
  ·split at h3
   ·split at h3
    ·simp only [Option.some.injEq] at h3; subst h3; rfl
    ·simp at h3
   ·simp at h3
  ·simp at h3
 case iaa len k x y =>
  subst hp
  obtain ⟨d, d2, r, h1, h2, h3, h4⟩ := e7 h
  refine lK h1 h2 h3 (hk _ _ _ ⟨d, h1, ?_⟩ h4)
  unfold mW at h3
  split at h3
  ·simp only [Option.ite_none_right_eq_some] at h3
   obtain ⟨_, h3⟩ := h3
   cases d <;> simp only [faD, Option.some.injEq, Option.ite_none_right_eq_some] at h3 <;> try simp at h3
   ·obtain ⟨_, rfl⟩ := h3; rfl
   ·subst h3; rfl
   ·obtain ⟨_, rfl⟩ := h3; rfl
  ·simp at h3
theorem GB {x : Ins} {d : D} {r : Opd} (h : Cfg.writes x.dst r = false) : ro (putT x.dst d tl) (putE x.dst d env) r = ro tl env r := by
 obtain ⟨dst, g, i⟩ := x
 cases r with
 | t j => exact kB fun e => by simp only at e h; rw [e] at h; simp [Cfg.writes] at h
 | g j => exact mV fun e => by simp only at e h; rw [e] at h; simp [Cfg.writes] at h
 | _ => rfl
theorem eO {rm : List (Nat × Opd)} {x : Ins} {d : D} (hf : Cfg.rootFits rm x = true) (hr : iO rm env tl) (hd : d.hd = none ∨ Cfg.partO x.i = none ∨ ∃ p dp, Cfg.partO x.i = some p ∧ ro tl env p = some dp ∧ d.hd = dp.hd) :
  iO rm (putE x.dst d env) (putT x.dst d tl) := by
 simp only [Cfg.rootFits, Bool.and_eq_true, List.all_eq_true, Bool.not_eq_true'] at hf
 obtain ⟨hf1, hf2⟩ := hf
 intro e he d' hl
 have hw := hf1 e he
 rw [GB hw]
 by_cases hx : x.dst = .t e.1
 ·rw [hx] at hf2 hl
  simp only [putT, look, if_true, Option.some.injEq] at hl
  subst hl
  simp only [List.all_eq_true, Bool.or_eq_true, bne_iff_ne] at hf2
  have h2 := (hf2 e he).resolve_left (by simp)
  rcases hd with hd | hd | ⟨p, dp, h3, h4, h5⟩
  ·exact .inl hd
  ·rw [hd] at h2; simp at h2
  ·rw [h3] at h2
   simp only at h2
   have h6 := u5 h2
   rcases oJ hr h4 with h7 | ⟨dr, h7, h8⟩
   ·exact .inl (by rw [h5, h7])
   ·exact .inr ⟨dr, by rw [← h6]; exact h7, by rw [h5, h8]⟩
 ·rw [kB hx] at hl
  exact hr e he d' hl
theorem mK {rm : List (Nat × Opd)} {x : Ins} {j : Nat} {go : Go4} (hf : Cfg.rootFits rm x = true) (hr : iO rm env tl) (h : One C base x j env tl mem nx go) :
  One C base x j env tl mem nx (fun e t m n => iO rm e t ∧ go e t m n) := by
 cases hp : Cfg.partO x.i with
 | none =>
  obtain ⟨d, g, i⟩ := x
  cases g with
  | none => exact cQ h fun v m n h => by rw [aO] at h ⊢; exact ⟨eO hf hr (.inr (.inl hp)), h⟩
  | some q =>
   obtain ⟨g, want⟩ := q
   simp only [One, gd] at h ⊢
   split at h
   ·rename_i b hb
    obtain ⟨s1, s2⟩ := dD hb
    refine ⟨fun e => ?_, fun e => ?_⟩
    ·have := h.1 e
     subst e
     rw [s1, s2] at this ⊢
     exact cQ this fun v m n (h : dM _ _ _ _ v m n) => by rw [aO] at h ⊢; exact ⟨eO hf hr (.inr (.inl hp)), h⟩
    ·have := h.2 e
     rw [← e, s1, s2, aO] at this
     rw [← e, s1, s2, aO]
     exact ⟨eO hf hr (.inl rfl), this⟩
   ·rw [aO] at h ⊢; exact ⟨eO hf hr (.inl rfl), h⟩
   ·exact h.elim
 | some p =>
  obtain ⟨d, g, i⟩ := x
  cases g with
  | none => exact yA hp h fun v m n ⟨dp, h1, h2⟩ (h : dM _ _ _ _ v m n) => by rw [aO] at h ⊢; exact ⟨eO hf hr (.inr (.inr ⟨p, dp, hp, h1, h2⟩)), h⟩
  | some q =>
   obtain ⟨g, want⟩ := q
   simp only [One, gd] at h ⊢
   split at h
   ·rename_i b hb
    obtain ⟨s1, s2⟩ := dD hb
    refine ⟨fun e => ?_, fun e => ?_⟩
    ·have := h.1 e
     subst e
     rw [s1, s2] at this ⊢
     exact yA hp this fun v m n ⟨dp, h1, h2⟩ (h : dM _ _ _ _ v m n) => by rw [aO] at h ⊢; exact ⟨eO hf hr (.inr (.inr ⟨p, dp, hp, h1, h2⟩)), h⟩
    ·have := h.2 e
     rw [← e, s1, s2, aO] at this
     rw [← e, s1, s2, aO]
     exact ⟨eO hf hr (.inl rfl), this⟩
   ·rw [aO] at h ⊢; exact ⟨eO hf hr (.inl rfl), h⟩
   ·exact h.elim
end
section
variable {C : Cfg} {w w' : World} {S S' : Nat → Prop} {φ φ' : aW} {a : Act} {env tl : Env} {mem : Mem} {nx id base : Nat} {is : List Ins} {oc oc' : Nat → Oc}
theorem kD {α β : Type} (h : Array β → α → β) : ∀ (l : List α) (acc : Array β), (l.foldl (fun acc o => acc.push (h acc o)) acc).size = acc.size + l.length ∧
  (∀ j, j < acc.size → (l.foldl (fun acc o => acc.push (h acc o)) acc)[j]? = acc[j]?) ∧
  ∀ i x, l[i]? = some x → (l.foldl (fun acc o => acc.push (h acc o)) acc)[acc.size + i]? = some (h ((l.take i).foldl (fun acc o => acc.push (h acc o)) acc) x)
 | [], acc => ⟨by simp, fun _ _ => rfl, fun i x h => by simp at h⟩
 | y :: l, acc => by
  obtain ⟨h1, h2, h3⟩ := kD h l (acc.push (h acc y))
  simp only [List.foldl_cons]
  refine ⟨by rw [h1]; simp; omega, fun j hj => ?_, fun i x hx => ?_⟩
  ·rw [h2 j (by simp; omega), Array.getElem?_push, if_neg (by omega)]
  ·cases i with
   | zero =>
    simp only [List.getElem?_cons_zero, Option.some.injEq] at hx; subst hx
    simp only [Nat.add_zero, List.take_zero, List.foldl_nil]
    rw [h2 acc.size (by simp)]
    simp
   | succ i =>
    simp only [List.getElem?_cons_succ] at hx
    have := h3 i x hx
    simp only [Array.size_push] at this
    rw [show acc.size + (i + 1) = acc.size + 1 + i by omega]
    simpa using this
def eY (acc : Array Nat) (o : Oper) : Nat := o.after.foldl (fun s e => if Region.binds .any e then s ||| 2 ^ e.on ||| acc.getD e.on 0 else s) 0
theorem t8 (ops : Array Oper) : Region.before ops = ops.toList.foldl (fun acc o => acc.push (eY acc o)) #[] := by
 unfold Region.before
 rw [← Array.foldl_toList]; rfl
theorem oP (acc : Array Nat) (j : Nat) : ∀ (l : List Edge) (s : Nat), (l.foldl (fun s e => if Region.binds .any e then s ||| 2 ^ e.on ||| acc.getD e.on 0 else s) s).testBit j = true →
  s.testBit j = true ∨ ∃ e ∈ l, Region.binds .any e = true ∧ (e.on = j ∨ (acc.getD e.on 0).testBit j = true)
 | [], s, h => .inl h
 | e :: l, s, h => by
  simp only [List.foldl_cons] at h
  rcases oP acc j l _ h with h1 | ⟨e', h1, h2⟩
  ·split at h1
   ·rename_i hb
    simp only [Nat.testBit_or, Bool.or_eq_true] at h1
    rcases h1 with (h1 | h1) | h1
    ·exact .inl h1
    ·rw [Nat.testBit_two_pow] at h1
     exact .inr ⟨e, by simp, hb, .inl (by simpa using h1)⟩
    ·exact .inr ⟨e, by simp, hb, .inr h1⟩
   ·exact .inl h1
  ·exact .inr ⟨e', by simp [h1], h2⟩
theorem v7 {acc : Array Nat} {o : Oper} {j : Nat} (h : (eY acc o).testBit j = true) : ∃ e ∈ o.after.toList, Region.binds .any e = true ∧ (e.on = j ∨ (acc.getD e.on 0).testBit j = true) := by
 unfold eY at h
 rw [← Array.foldl_toList] at h
 rcases oP _ j _ _ h with h1 | h1
 ·simp at h1
 ·exact h1
theorem xN {ops : Array Oper} {i j : Nat} {o : Oper} (ho : ops[i]? = some o) (h : ((Region.before ops).getD i 0).testBit j = true) :
  ∃ e ∈ o.after.toList, Region.binds .any e = true ∧ (e.on = j ∨ (e.on < i ∧ ((Region.before ops).getD e.on 0).testBit j = true)) := by
 have ho' : ops.toList[i]? = some o := by simpa using ho
 obtain ⟨f1, f2, f3⟩ := kD eY ops.toList #[]
 have hi := f3 i o ho'
 simp only [Array.size_empty, Nat.zero_add] at hi
 rw [t8, Array.getD_eq_getD_getElem?, hi] at h
 simp only [Option.getD_some] at h
 obtain ⟨e, h1, h2, h3⟩ := v7 h
 refine ⟨e, h1, h2, ?_⟩
 rcases h3 with h3 | h3
 ·exact .inl h3
 ·right
  have hlen : i ≤ ops.toList.length := Nat.le_of_lt (List.getElem?_eq_some_iff.1 ho').1
  obtain ⟨k1, k2, k3⟩ := kD eY (ops.toList.take i) #[]
  have hsz : ((ops.toList.take i).foldl (fun acc o => acc.push (eY acc o)) #[]).size = i := by
   rw [k1, List.length_take]; simp only [Array.size_empty]; omega
  by_cases hlt : e.on < i
  ·refine ⟨hlt, ?_⟩
   have hsplit : ops.toList.foldl (fun acc o => acc.push (eY acc o)) #[] = (ops.toList.drop i).foldl (fun acc o => acc.push (eY acc o)) ((ops.toList.take i).foldl (fun acc o => acc.push (eY acc o)) #[]) := by
    rw [← List.foldl_append, List.take_append_drop]
   obtain ⟨_, m2, _⟩ := kD eY (ops.toList.drop i) ((ops.toList.take i).foldl (fun acc o => acc.push (eY acc o)) #[])
   rw [t8, Array.getD_eq_getD_getElem?, hsplit, m2 e.on (by rw [hsz]; exact hlt), ← Array.getD_eq_getD_getElem?]
   exact h3
  ·exfalso
   rw [Array.getD_eq_getD_getElem?, Array.getElem?_eq_none (by rw [hsz]; omega)] at h3
   simp at h3
def rW (ops : Array Oper) (listed : Array Bool) : Prop := ∀ i o, ops[i]? = some o → listed.getD i false = true → ∀ j, ((Region.before ops).getD i 0).testBit j = true → listed.getD j false = true
theorem oL {ops : Array Oper} {listed : Array Bool} {i j : Nat} {o : Oper} (ho : ops[i]? = some o) (hc : rW ops listed) (hr : o.after.all (fun e => !Region.binds .any e || listed.getD e.on false) = true) (h : ((Region.before ops).getD i 0).testBit j = true) : listed.getD j false = true := by
 obtain ⟨e, he, hb, hj⟩ := xN ho h
 have h1 := Array.all_eq_true_iff_forall_mem.1 hr e (by simpa using he)
 simp only [hb, Bool.not_true, Bool.false_or] at h1
 rcases hj with rfl | ⟨hlt, hj⟩
 ·exact h1
 ·have : e.on < ops.size := by have := (Array.getElem?_eq_some_iff.1 ho).1; omega
  exact hc e.on _ (Array.getElem?_eq_getElem this) h1 j hj
def unl (n : Nat) (listed : Array Bool) : Nat := ((List.range n).filter fun i => !listed.getD i true).length
theorem mZ {listed : Array Bool} {i j : Nat} (hi : i < listed.size) (d : Bool) : (listed.setIfInBounds i true).getD j d = if i = j then true else listed.getD j d := by
 simp only [Array.getD_eq_getD_getElem?, Array.getElem?_setIfInBounds]
 by_cases h : i = j
 ·subst h; simp [hi]
 ·simp [h]
theorem tF {p q : Nat → Bool} : ∀ (l : List Nat) (i : Nat), i ∈ l → p i = true → q i = false → (∀ j, q j = true → p j = true) → (l.filter q).length < (l.filter p).length
 | [], i, h, _, _, _ => by simp at h
 | x :: l, i, h, hp, hq, hqp => by
  have hle : ∀ l : List Nat, (l.filter q).length ≤ (l.filter p).length := by
   intro l
   induction l with
   | nil => simp
   | cons y l ih =>
    simp only [List.filter_cons]
    by_cases h1 : q y = true
    ·simp [h1, hqp y h1]; exact ih
    ·by_cases h2 : p y = true <;> simp [h1, h2] <;> omega
  simp only [List.filter_cons]
  rcases List.mem_cons.1 h with rfl | h
  ·simp only [hp, hq, if_true, Bool.false_eq_true, if_false, List.length_cons]
   have := hle l; omega
  ·have ih := tF l i h hp hq hqp
   by_cases h1 : q x = true
   ·simp [h1, hqp x h1]; exact ih
   ·by_cases h2 : p x = true <;> simp [h1, h2] <;> omega
theorem tC {ops : Array Oper} {listed : Array Bool} {i : Nat} (h : i ∈ Region.ready .any ops listed) : ∃ o, ops[i]? = some o ∧ i < ops.size ∧ listed.getD i true = false ∧ o.after.all (fun e => !Region.binds .any e || listed.getD e.on false) = true := by
 simp only [Region.ready, List.mem_filter, List.mem_range, Bool.and_eq_true, Bool.not_eq_true'] at h
 obtain ⟨h1, h2, h3⟩ := h
 refine ⟨ops[i], Array.getElem?_eq_getElem h1, h1, h2, ?_⟩
 simpa [Array.getElem?_eq_getElem h1] using h3
theorem AO {ops : Array Oper} {listed : Array Bool} (hsz : listed.size = ops.size) (hedge : ∀ i o, ops[i]? = some o → ∀ e ∈ o.after.toList, Region.binds .any e = true → e.on < i) (h : Region.ready .any ops listed = []) : ∀ i, i < ops.size → listed.getD i false = true := by
 intro i
 induction i using Nat.strongRecOn with
 | _ i ih =>
  intro hi
  cases hl : listed.getD i false with
  | true => rfl
  | false =>
   exfalso
   have hl' : listed.getD i true = false := by
    rw [Array.getD_eq_getD_getElem?, Array.getElem?_eq_getElem (by omega)] at hl ⊢
    exact hl
   have : i ∈ Region.ready .any ops listed := by
    simp only [Region.ready, List.mem_filter, List.mem_range, Bool.and_eq_true, Bool.not_eq_true']
    refine ⟨hi, hl', ?_⟩
    rw [Array.getElem?_eq_getElem hi]
    simp only [Option.map_some, Option.getD_some]
    refine Array.all_eq_true_iff_forall_mem.2 fun e he => ?_
    cases hb : Region.binds .any e with
    | false => rfl
    | true =>
     simp only [Bool.not_true, Bool.false_or]
     have hlt := hedge i _ (Array.getElem?_eq_getElem hi) e (by simpa using he) hb
     exact ih e.on hlt (by omega)
   rw [h] at this
   simp at this
def runL (C : Cfg) (base : Nat) : List (Nat × Ins) → Go4 → Go4
 | [], K => K
 | (j, x) :: r, K => fun e t m n => One C base x j e t m n (runL C base r K)
theorem qD {K : Go4} : ∀ (l r : List (Nat × Ins)), runL C base (l ++ r) K = runL C base l (runL C base r K)
 | [], r => rfl
 | (j, x) :: l, r => by simp only [List.cons_append, runL, qD l r]
theorem nE {K : Go4} (h : Inv K) : ∀ (l : List (Nat × Ins)), Inv (runL C base l K)
 | [] => h
 | (j, x) :: l => yQ (nE h l)
theorem vH {K : Go4} : ∀ (l : List Ins) (j : Nat) (env tl : Env) (mem : Mem) (nx : Nat), run C base K l j env tl mem nx → runL C base ((l.zipIdx j).map fun p => (p.2, p.1)) K env tl mem nx
 | [], j, _, _, _, _, h => h
 | x :: l, j, env, tl, mem, nx, h => by
  rw [sP] at h
  simp only [List.zipIdx_cons, List.map_cons, runL]
  exact vA (fun e t m n h => vH l (j + 1) e t m n h) h
theorem vC {K K2 : Go4} (hk : ∀ e t m n, K e t m n → K2 e t m n) : ∀ (l : List Ins) (j : Nat) (env tl : Env) (mem : Mem) (nx : Nat), run C base K l j env tl mem nx → run C base K2 l j env tl mem nx
 | [], _, _, _, _, _, h => hk _ _ _ _ h
 | x :: l, j, env, tl, mem, nx, h => by
  rw [sP] at h ⊢
  exact vA (fun e t m n h => vC hk l (j + 1) e t m n h) h
theorem hZ {i : I} (h : Cfg.quietI i = true) : i.free = true ∧ (∀ p : Opd, Cfg.lookO i = []) ∧ Cfg.makesI i = false := by
 simp only [Cfg.quietI, Bool.and_eq_true, Bool.not_eq_true'] at h
 refine ⟨h.1, fun _ => ?_, h.2.2⟩
 cases i <;> first | rfl | simp [Cfg.looksI] at h
theorem tG {x y : Ins} (h : Cfg.slotsApart x y = true) : (∀ d ∈ Cfg.dstO x.dst, d ∉ Cfg.dstO y.dst) ∧ (∀ d ∈ Cfg.dstO x.dst, d ∉ Cfg.sees y) ∧ (∀ d ∈ Cfg.dstO y.dst, d ∉ Cfg.sees x) := by
 simp only [Cfg.slotsApart, Bool.and_eq_true, List.all_eq_true] at h
 refine ⟨fun d hd => ?_, fun d hd => ?_, fun d hd => ?_⟩
 ·have := (h.1 d hd).1; simpa using this
 ·have := (h.1 d hd).2; simpa using this
 ·have := h.2 d hd; simpa using this
theorem dS {x y : Ins} {d : D} (h : ∀ t ∈ Cfg.dstO x.dst, t ∉ Cfg.sees y) (e t : Env) : ∀ s ∈ Cfg.sees y, look (putE x.dst d e) s = look e s ∧ look (putT x.dst d t) s = look t s := fun s hs =>
 ⟨mV fun e => h s (by simp [e, Cfg.dstO]) hs, kB fun e => h s (by simp [e, Cfg.dstO]) hs⟩
theorem GR {ext : Mem} {i : Nat} (h : ext = [] ∨ ∃ b, ext = [(i, b)]) (hf : look mem i = none) : Sub mem (ext ++ mem) := fun k b hb => by
 rcases h with rfl | ⟨c, rfl⟩
 ·exact hb
 ·simp only [List.singleton_append, look]
  split
  ·rename_i e; subst e; rw [hf] at hb; simp at hb
  ·exact hb
theorem E1 {e1 e2 : Mem} {i j : Nat} (h1 : e1 = [] ∨ ∃ b, e1 = [(i, b)]) (h2 : e2 = [] ∨ ∃ b, e2 = [(j, b)]) (hij : i ≠ j) (m : Mem) : Lk (e1 ++ (e2 ++ m)) (e2 ++ (e1 ++ m)) := by
 rcases h1 with rfl | ⟨b, rfl⟩
 ·exact Lk.refl _
 ·rcases h2 with rfl | ⟨c, rfl⟩
  ·exact Lk.refl _
  ·intro t
   simp only [List.singleton_append, look]
   by_cases e : i = t
   ·subst e; rw [if_pos rfl, if_neg (fun e => hij e.symm), if_pos rfl]
   ·rw [if_neg e, if_neg e]
theorem pA {x : Ins} {s : Nat} (h : s ∈ Cfg.seesI x.i) : s ∈ Cfg.sees x := by simp [Cfg.sees, h]
theorem swap {rm : List (Nat × Opd)} {x y : Ins} {i j : Nat} {go : Go4} (hij : i ≠ j) (hs : Cfg.swapI rm x y = true) (hrt : iO rm env tl) (hfr : Cfg.makesI y.i = true → look mem (base + j) = none)
  (hcl : ∀ p ∈ Cfg.lookO y.i, ∀ d, ro tl env p = some d → d.hd ≠ some (base + i)) (hg : Inv go)
  (h : One C base x i env tl mem nx (fun e t m n => One C base y j e t m n go)) : One C base y j env tl mem nx (fun e t m n => One C base x i e t m n go) := by
 simp only [Cfg.swapI, Bool.and_eq_true, Bool.or_eq_true] at hs
 obtain ⟨hsl, hs⟩ := hs
 obtain ⟨s1, s2, s3⟩ := tG hsl
 have s1' : ∀ d ∈ Cfg.dstO y.dst, d ∉ Cfg.dstO x.dst := fun d h1 h2 => s1 d h2 h1
 have back : ∀ (d : D), ∀ s ∈ Cfg.sees x, look env s = look (putE y.dst d env) s ∧ look tl s = look (putT y.dst d tl) s := fun d s hs' =>
  ⟨(dS (d := d) s3 env tl s hs').1.symm, (dS (d := d) s3 env tl s hs').2.symm⟩
 by_cases hsta : Cfg.staI rm x.i y.i = true
 ·obtain ⟨⟨q, hq⟩, hx⟩ := x7 hsta
  rcases hx with ⟨hxf, hxm, hxl⟩ | ⟨p, hp, hpt⟩
  ·obtain ⟨ox, hx1, hx2, hx3⟩ := iY hxf h
   have he : ox.ext = [] := by
    rcases hx2 with e | ⟨_, e⟩
    ·exact e
    ·rw [hxm] at e; simp at e
   simp only [he, List.nil_append] at hx1 hx3
   obtain ⟨d, ⟨hy1, hy2⟩ | ⟨a, k, b, b', hy1, hy2, hy3, hy4, hy5, hy6⟩⟩ := oH hq hx1
   ·refine hy2 env tl mem nx _ (dS s2 env tl) (hx3 _ _ _ _ _ (back d) (fun _ _ _ _ => fun _ _ _ h => h) ?_)
    exact hg _ _ _ _ _ _ _ (eS s1') (eP s1') (Lk.refl _) hy1
   ·refine hy6 env tl mem nx _ (dS s2 env tl) hy4 (hx3 _ _ _ _ _ (back d) (fun p hp dd hd i hi bb hbb => ?_) ?_)
    ·obtain ⟨y', e1, e2⟩ := hy5 _ (hxl p hp)
     rw [r8 s2 (fun s hs => pA (vB (hxl p hp) s hs))] at e1
     rcases oJ hrt hd with h0 | ⟨dr, h1, h2⟩
     ·rw [h0] at hi; simp at hi
     ·rw [h1] at e1
      simp only [Option.some.injEq] at e1; subst e1
      rw [aZ _ (fun e => e2 (by rw [← h2, hi, e]))]; exact hbb
    ·exact hg _ _ _ _ _ _ _ (eS s1') (eP s1') (Lk.refl _) hy1
  ·obtain ⟨dx, ⟨hx1, hx2⟩ | ⟨ax, kx, bx, bx', hx1, hx2, hx3, hx4, _, hx6⟩⟩ := oH hp h
   ·refine nV (dS s2 env tl) (Lk.refl mem) (fun d m m2 n hm hgo => hx2 _ _ _ _ _ (back d) ?_) hx1
    exact hg _ _ _ _ _ _ _ (eS s1') (eP s1') hm hgo
   ·obtain ⟨d, ⟨hy1, hy2⟩ | ⟨a, k, b, b', hy1, hy2, hy3, hy4, hy5, hy6⟩⟩ := oH hq hx1
    ·refine hy2 env tl mem nx _ (dS s2 env tl) (hx6 _ _ _ _ _ (back d) hx4 ?_)
     exact hg _ _ _ _ _ _ _ (eS s1') (eP s1') (Lk.refl _) hy1
    ·obtain ⟨y', e1, e2⟩ := hy5 _ hpt
     rw [r8 s2 (fun s hs => pA (vB hpt s hs))] at e1
     have hne : k ≠ kx := by
      rcases oJ hrt hx2 with h0 | ⟨dr, h1, h2⟩
      ·rw [hx3] at h0; simp at h0
      ·rw [h1] at e1
       simp only [Option.some.injEq] at e1; subst e1
       exact fun e => e2 (by rw [← h2, hx3, e])
     rw [aZ _ hne] at hy4
     refine hy6 env tl mem nx _ (dS s2 env tl) hy4 (hx6 _ _ _ _ _ (back d) (by rw [aZ _ (fun e => hne e.symm)]; exact hx4) ?_)
     exact hg _ _ _ _ _ _ _ (eS s1') (eP s1') (upd_comm (fun e => hne e.symm) mem) hy1
 by_cases hcln : Cfg.clnI x.i y.i = true
 ·obtain ⟨⟨f, xs, hy⟩, hxf, hxm⟩ := x9 hcln
  obtain ⟨ox, hx1, hx2, hx3⟩ := iY hxf h
  have he : ox.ext = [] := by
   rcases hx2 with e | ⟨_, e⟩
   ·exact e
   ·rw [hxm] at e; simp at e
  simp only [he, List.nil_append] at hx1 hx3
  refine nV (dS s2 env tl) (Lk.refl mem) (fun d m m2 n hm hgo => ?_) (FQ hy hx1)
  obtain ⟨hk, hgo⟩ := hgo
  refine hx3 _ _ _ _ _ (back d) (fun p hp dd hd i hi b hb => ?_) ?_
  ·rw [← hm]; exact hk i b hb
  ·exact hg _ _ _ _ _ _ _ (eS s1') (eP s1') hm hgo
 by_cases hxf : x.i.free = true
 ·obtain ⟨ox, hx1, hx2, hx3⟩ := iY hxf h
  have hx2' : ox.ext = [] ∨ ∃ b, ox.ext = [(base + i, b)] := hx2.imp id (·.1)
  by_cases hyf : y.i.free = true
  ·obtain ⟨oy, hy1, hy2, hy3⟩ := iY hyf hx1
   have hy2' : oy.ext = [] ∨ ∃ b, oy.ext = [(base + j, b)] := hy2.imp id (·.1)
   refine hy3 env tl mem nx _ (dS s2 env tl) (fun p hp d hd i' hi b hb => ?_) ?_
   ·rw [r8 s2 (fun s hs => pA (rG hp s hs))] at hd
    have hne := hcl p hp d hd
    rcases hx2' with e | ⟨_, e⟩
    ·rw [e] at hb; exact hb
    ·rw [e] at hb
     simp only [List.singleton_append, look] at hb
     rw [if_neg (fun e => hne (by rw [hi, e]))] at hb; exact hb
   ·refine hx3 _ _ _ _ _ (back oy.d) (fun _ _ _ _ => Sub.at ?_ _) ?_
    ·rcases hy2 with e | ⟨⟨b, e⟩, hm⟩
     ·rw [e]; exact fun _ _ h => h
     ·exact GR (.inr ⟨b, e⟩) (hfr hm)
    ·exact hg _ _ _ _ _ _ _ (eS s1') (eP s1') (E1 hy2' hx2' (by omega) mem) hy1
  ·have hxq : Cfg.quietI x.i = true := by
    rcases hs with (((⟨h1, _⟩ | h1) | ⟨_, h1⟩) | h1) | h1
    ·exact absurd (hZ h1).1 hyf
    ·exact h1
    ·exact absurd h1 hyf
    ·exact absurd h1 hsta
    ·exact absurd h1 hcln
   obtain ⟨_, q2, q3⟩ := hZ hxq
   have he : ox.ext = [] := by
    rcases hx2 with e | ⟨_, e⟩
    ·exact e
    ·rw [q3] at e; simp at e
   rw [he, List.nil_append] at hx1
   refine nV (dS s2 env tl) (Lk.refl mem) (fun d m m2 n hm hgo => ?_) hx1
   refine hx3 _ _ _ _ _ (back d) (fun p hp => by rw [q2 p] at hp; simp at hp) ?_
   rw [he, List.nil_append]
   exact hg _ _ _ _ _ _ _ (eS s1') (eP s1') hm hgo
 ·have hyq : Cfg.quietI y.i = true ∧ x.i.call = false := by
   rcases hs with (((⟨h1, h2⟩ | h1) | ⟨h1, _⟩) | h1) | h1
   ·exact ⟨h1, by simpa using h2⟩
   ·exact absurd (hZ h1).1 hxf
   ·exact absurd h1 hxf
   ·exact absurd h1 hsta
   ·exact absurd h1 hcln
  obtain ⟨hyf, q2, q3⟩ := hZ hyq.1
  obtain ⟨d, m, hx1, hx2⟩ := write_one' (by simpa using hxf) hyq.2 h
  obtain ⟨oy, hy1, hy2, hy3⟩ := iY hyf hx1
  have he : oy.ext = [] := by
   rcases hy2 with e | ⟨_, e⟩
   ·exact e
   ·rw [q3] at e; simp at e
  rw [he, List.nil_append] at hy1
  refine hy3 env tl mem nx _ (dS s2 env tl) (fun p hp => by rw [q2 p] at hp; simp at hp) ?_
  rw [he, List.nil_append]
  refine hx2 _ _ _ _ (back oy.d) (fun m2 hm => ?_)
  exact hg _ _ _ _ _ _ _ (eS s1') (eP s1') hm hy1
theorem BX {xs : List Ins} {i : I} : Cfg.makesI (Cfg.cutI xs i) = Cfg.makesI i := by cases i <;> rfl
theorem E5 {xs : List Ins} {i : I} : Cfg.lookO (Cfg.cutI xs i) = Cfg.lookO i := by cases i <;> rfl
theorem FD {xs : List Ins} {i : I} : Cfg.partO (Cfg.cutI xs i) = Cfg.partO i := by cases i <;> rfl
theorem wA {x : Ins} {xs : List Ins} {y : Ins} : Cfg.cutL (x :: xs) y = Cfg.cutL [x] (Cfg.cutL xs y) := by
 obtain ⟨d, g, i⟩ := y
 cases i with
 | sta n a v ps =>
  simp only [Cfg.cutL, Cfg.cutI, List.filter_filter, List.all_cons, List.all_nil, Bool.and_true]
 | _ => rfl
theorem D9 {rm : List (Nat × Opd)} {xs : List Ins} {y : Ins} (h : Cfg.rootFits rm y = true) : Cfg.rootFits rm (Cfg.cutL xs y) = true := by
 unfold Cfg.rootFits Cfg.cutL at *
 simp only [FD]
 exact h
theorem rN {f : Opd → Bool} : ∀ (ps : List Opd) (ds : List D), ros tl env ps = some ds → ∃ ds', ros tl env (ps.filter f) = some ds' ∧ ∀ d ∈ ds', d ∈ ds
 | [], ds, h => ⟨ds, h, fun _ h => h⟩
 | p :: ps, ds, h => by
  unfold ros at h
  split at h
  ·rename_i d ds0 h1 h2
   simp only [Option.some.injEq] at h
   subst h
   obtain ⟨ds', g1, g2⟩ := rN ps ds0 h2
   rw [List.filter_cons]
   split
   ·exact ⟨d :: ds', by unfold ros; rw [h1, g1], fun x hx => by
     rcases List.mem_cons.1 hx with rfl | hx
     ·simp
     ·exact List.mem_cons_of_mem _ (g2 x hx)⟩
   ·exact ⟨ds', g1, fun x hx => List.mem_cons_of_mem _ (g2 x hx)⟩
  ·simp at h
theorem wY {f : Opd → Bool} {o : Option D} {ps : List Opd} (h : jP o (ros tl env ps) = true) : jP o (ros tl env (ps.filter f)) = true := by
 cases o with
 | none => simp [jP] at h
 | some a =>
  cases hr : ros tl env ps with
  | none => rw [hr] at h; simp [jP] at h
  | some ds =>
   rw [hr] at h
   obtain ⟨ds', g1, g2⟩ := rN (f := f) ps ds hr
   rw [g1]
   simp only [jP, List.all_eq_true] at h ⊢
   exact fun d hd => h d (g2 d hd)
theorem sE {xs : List Ins} {y : Ins} {j : Nat} {go : Go4} (h : One C base y j env tl mem nx go) : One C base (Cfg.cutL xs y) j env tl mem nx go := by
 obtain ⟨d, g, i0⟩ := y
 cases i0 with
 | sta n a v ps =>
  have key : ∀ {f : Opd → Bool} {env tl : Env} {K : KD}, aS C (base + j) (.sta n a v ps) env tl mem nx K → aS C (base + j) (.sta n a v (ps.filter f)) env tl mem nx K := by
   intro f env tl K h
   obtain ⟨d, m, h1, h2⟩ := cW h
   refine fX (d := d) (m := m) ?_ h2
   unfold mT at h1 ⊢
   split at h1
   ·rename_i ha
    rw [if_pos (wY ha)]; exact h1
   ·simp at h1
  cases g with
  | none =>
   simp only [One, Cfg.cutL, Cfg.cutI] at h ⊢
   exact key h
  | some q =>
   obtain ⟨g, want⟩ := q
   simp only [One, gd, Cfg.cutL, Cfg.cutI] at h ⊢
   split at h
   ·exact ⟨fun e => key (h.1 e), h.2⟩
   ·exact h
   ·exact h.elim
 | _ => exact h
theorem CW {rm : List (Nat × Opd)} {x y : Ins} {A B : List Ins} (hAB : ∀ z ∈ A, z ∈ B) (hx : x ∈ A) (h : Cfg.swapI rm x (Cfg.cutL B y) = true) : Cfg.swapI rm x (Cfg.cutL A y) = true := by
 obtain ⟨d, g, i⟩ := y
 cases i with
 | sta n a v ps =>
  have hsub : ∀ p ∈ (ps.filter fun p => B.all fun x => (Cfg.dstO x.dst).all fun s => !(Cfg.seesO p).contains s), p ∈ (ps.filter fun p => A.all fun x => (Cfg.dstO x.dst).all fun s => !(Cfg.seesO p).contains s) := by
   intro p hp
   rw [List.mem_filter] at hp ⊢
   refine ⟨hp.1, ?_⟩
   rw [List.all_eq_true] at hp ⊢
   exact fun z hz => hp.2 z (hAB z hz)
  have hno : ∀ p ∈ (ps.filter fun p => A.all fun x => (Cfg.dstO x.dst).all fun s => !(Cfg.seesO p).contains s), ∀ s ∈ Cfg.dstO x.dst, s ∉ Cfg.seesO p := by
   intro p hp s hs
   rw [List.mem_filter, List.all_eq_true] at hp
   have := hp.2 x hx
   rw [List.all_eq_true] at this
   simpa using this s hs
  simp only [Cfg.swapI, Bool.and_eq_true] at h ⊢
  obtain ⟨h1, h2⟩ := h
  refine ⟨?_, ?_⟩
  ·simp only [Cfg.slotsApart, Bool.and_eq_true, List.all_eq_true, Bool.not_eq_true', Cfg.cutL, Cfg.cutI, Cfg.sees, Cfg.seesI] at h1 ⊢
   refine ⟨fun s hs => ?_, h1.2⟩
   obtain ⟨k1, k2⟩ := h1.1 s hs
   refine ⟨k1, ?_⟩
   have k3 : s ∉ _ := fun hm => by
    have := List.contains_iff_mem.2 hm
    rw [k2] at this
    exact Bool.noConfusion this
   rw [← Bool.not_eq_true]
   intro hm
   rw [List.contains_iff_mem] at hm
   apply k3
   rw [List.mem_append, List.mem_append] at hm ⊢
   rcases hm with hm | hm | hm
   ·exact .inl hm
   ·exact .inr (.inl hm)
   ·exfalso
    rw [List.mem_flatMap] at hm
    obtain ⟨p, hp, hsp⟩ := hm
    exact hno p hp s hs hsp
  ·have any_mono : ∀ {q : Opd → Bool}, (ps.filter fun p => B.all fun x => (Cfg.dstO x.dst).all fun s => !(Cfg.seesO p).contains s).any q = true → (ps.filter fun p => A.all fun x => (Cfg.dstO x.dst).all fun s => !(Cfg.seesO p).contains s).any q = true := by
    intro q hq
    rw [List.any_eq_true] at hq ⊢
    obtain ⟨p, hp, hpq⟩ := hq
    exact ⟨p, hsub p hp, hpq⟩
   have hst : Cfg.staI rm x.i (Cfg.cutI B (.sta n a v ps)) = true → Cfg.staI rm x.i (Cfg.cutI A (.sta n a v ps)) = true := by
    intro h
    cases hxi : x.i with
    | st _ b _ => rw [hxi] at h; exact any_mono h
    | sta _ b _ _ => rw [hxi] at h; exact any_mono h
    | _ =>
     rw [hxi] at h
     simp only [Cfg.cutI, Cfg.staI, Bool.and_eq_true, List.all_eq_true] at h ⊢
     exact ⟨h.1, h.2.1, fun p hp => any_mono (h.2.2 p hp)⟩
   have hq : ∀ L, Cfg.quietI (Cfg.cutI L (.sta n a v ps)) = false := fun _ => rfl
   have hf : ∀ L, (Cfg.cutI L (.sta n a v ps)).free = false := fun _ => rfl
   have hc : ∀ L, Cfg.clnI x.i (Cfg.cutI L (.sta n a v ps)) = false := fun _ => rfl
   simp only [Cfg.cutL, hq, hf, hc, Bool.false_and, Bool.and_false, Bool.false_or, Bool.or_false, Bool.or_eq_true] at h2 ⊢
   exact h2.imp id hst
 | _ => exact h
def sA (rm : List (Nat × Opd)) (y : Ins) : List (Nat × Ins) → Prop
 | [] => True
 | (_, x) :: xs => Cfg.swapI rm x (Cfg.cutL (x :: xs.map (·.2)) y) = true ∧ sA rm y xs
theorem pass {rm : List (Nat × Opd)} {y : Ins} {j : Nat} {go : Go4} (hg : Inv go) : ∀ (xs : List (Nat × Ins)) (env tl : Env) (mem : Mem) (nx : Nat), sA rm y xs → (∀ p ∈ xs, p.1 ≠ j ∧ Cfg.rootFits rm p.2 = true) → iO rm env tl → (Cfg.makesI y.i = true → look mem (base + j) = none) →
  (∀ q ∈ Cfg.lookO y.i, ∀ d, ro tl env q = some d → ∀ p ∈ xs, d.hd ≠ some (base + p.1)) →
  runL C base xs (fun e t m n => One C base y j e t m n go) env tl mem nx → One C base (Cfg.cutL (xs.map (·.2)) y) j env tl mem nx (runL C base xs go)
 | [], _, _, _, _, _, _, _, _, _, h => sE h
 | (i, x) :: xs, env, tl, mem, nx, hpk, hs, hrt, hfr, hcl, h => by
  simp only [runL] at h
  obtain ⟨hsw, hpk⟩ := hpk
  obtain ⟨hij, hrf⟩ := hs (i, x) (by simp)
  have hs' : ∀ p ∈ xs, p.1 ≠ j ∧ Cfg.rootFits rm p.2 = true := fun p hp => hs p (by simp [hp])
  have hlk : Cfg.lookO (Cfg.cutL (x :: xs.map (·.2)) y).i = Cfg.lookO y.i := E5
  have hmk : Cfg.makesI (Cfg.cutL (x :: xs.map (·.2)) y).i = Cfg.makesI y.i := BX
  have hsl : ∀ d ∈ Cfg.dstO x.dst, d ∉ Cfg.sees (Cfg.cutL (x :: xs.map (·.2)) y) := by
   simp only [Cfg.swapI, Bool.and_eq_true] at hsw
   exact (tG hsw.1).2.1
  have hcl2 : ∀ (v : D), ∀ q ∈ Cfg.lookO y.i, ∀ d, ro (putT x.dst v tl) (putE x.dst v env) q = some d → ∀ p ∈ xs, d.hd ≠ some (base + p.1) := fun v q hq d hd p hp => by
   rw [r8 hsl (fun s hs => pA (rG (by rw [hlk]; exact hq) s hs))] at hd
   exact hcl q hq d hd p (by simp [hp])
  have h2 : One C base x i env tl mem nx (fun e t m n => One C base (Cfg.cutL (x :: xs.map (·.2)) y) j e t m n (runL C base xs go)) := by
   by_cases hm : Cfg.makesI y.i = true
   ·have hxf : x.i.free = true := by
     simp only [Cfg.swapI, Bool.and_eq_true, Bool.or_eq_true] at hsw
     rcases hsw.2 with (((⟨h1, _⟩ | h1) | ⟨h1, _⟩) | h1) | h1
     ·have := (hZ h1).2.2; rw [hmk, hm] at this; simp at this
     ·exact (hZ h1).1
     ·exact h1
     ·obtain ⟨⟨q, hq⟩, _⟩ := x7 h1
      rw [← hmk] at hm
      cases hy : (Cfg.cutL (x :: xs.map (·.2)) y).i <;> rw [hy] at hq hm <;> simp [I.adr] at hq <;> simp [Cfg.makesI] at hm
     ·exact (x9 h1).2.1
    obtain ⟨ox, hx1, hx2, hx3⟩ := iY hxf (mK hrf hrt h)
    refine hx3 env tl mem nx _ (fun s _ => ⟨rfl, rfl⟩) (fun _ _ _ _ => fun _ _ _ h => h) ?_
    rw [wA]
    refine sE (pass hg xs _ _ _ _ hpk hs' hx1.1 (fun _ => ?_) (hcl2 _) hx1.2)
    rcases hx2 with e | ⟨⟨b, e⟩, _⟩
    ·rw [e]; exact hfr hm
    ·rw [e]; simp only [List.singleton_append, look]; rw [if_neg (by omega)]; exact hfr hm
   ·refine nV (fun s _ => ⟨rfl, rfl⟩) (Lk.refl mem) (fun d m m2 n hmm h => ?_) (mK hrf hrt h)
    rw [wA]
    exact sE (pass hg xs _ _ _ _ hpk hs' h.1 (fun h => absurd h hm) (hcl2 d) (nE (yQ hg) xs _ _ _ _ _ _ _ (Lk.refl _) (Lk.refl _) hmm h.2))
  exact swap hij hsw hrt (fun h => hfr (hmk ▸ h)) (fun p hp d hd => hcl p (hlk ▸ hp) d hd (i, x) (by simp)) (nE hg xs) h2
structure Okd (C : Cfg) (ops : Array Oper) (pi : List Nat) (bf : Nat → Nat → Bool) (is : List Ins) : Prop where
 edge : ∀ i o, ops[i]? = some o → ∀ e ∈ o.after.toList, Region.binds .any e = true → e.on < i
 fit : ∀ x ∈ is, (∀ p ∈ Cfg.lookO x.i, Cfg.fitO C.gs p = true) ∧ Cfg.rootFits (Cfg.roots is) x = true
 apart : ∀ i j x y, i < j → is[i]? = some x → is[j]? = some y → pi.getD i 0 ≠ pi.getD j 0 ∧ (bf j i = true ∨ Cfg.swapI (Cfg.roots is) x (Cfg.cutL ((is.take j).drop i) y) = true)
theorem C5 {ops : Array Oper} {pi : List Nat} {bf : Nat → Nat → Bool} (h : Cfg.drawOk C.gs ops pi bf is = true) : Okd C ops pi bf is := by
 simp only [Cfg.drawOk, Bool.and_eq_true, List.all_eq_true] at h
 obtain ⟨h1, h3, h2⟩ := h
 have mem_zip : ∀ {α : Type} (l : List α) (i : Nat) (x : α), l[i]? = some x → (x, i) ∈ l.zipIdx := by
  intro α l i x hx
  rw [List.mk_mem_zipIdx_iff_getElem?]; exact hx
 refine ⟨fun i o ho e he hb => ?_, fun x hx => by
  have := h3 x hx
  exact this, fun i j x y hij hx hy => ?_⟩
 ·have := h1 (o, i) (mem_zip _ _ _ (by simpa using ho)) e he
  simpa [hb] using this
 ·have := h2 (y, j) (mem_zip _ _ _ hy) (x, i) (mem_zip _ _ _ hx)
  simp only [hij, if_true, Bool.and_eq_true, bne_iff_ne, ne_eq, Bool.or_eq_true] at this
  exact this
theorem D7 {b : Nat → Bool} {c kp : Bool} {i j : Nat} {x : Ins} {is xs : List Ins} {go : Go4} (hns : Cfg.notSta x.i = true) (h : One C base (Cfg.cutL xs (Cfg.tellI b c kp is x j)) i env tl mem nx go) : One C base x i env tl mem nx go := by
 obtain ⟨d, g, i0⟩ := x
 have lift : ∀ {i1 : I} (_ : ∀ {env tl : Env} {K : KD}, aS C (base + i) i1 env tl mem nx K → aS C (base + i) i0 env tl mem nx K), One C base ⟨d, g, i1⟩ i env tl mem nx go → One C base ⟨d, g, i0⟩ i env tl mem nx go := by
  intro i1 key h
  cases g with
  | none =>
   simp only [One] at h ⊢
   exact key h
  | some q =>
   obtain ⟨g, want⟩ := q
   simp only [One, gd] at h ⊢
   split at h
   ·exact ⟨fun e => key (h.1 e), h.2⟩
   ·exact h
   ·exact h.elim
 cases i0 with
 | st n a v =>
  simp only [Cfg.tellI] at h
  split at h
  ·exact h
  ·rename_i ps _
   simp only [Cfg.cutL, Cfg.cutI] at h
   refine lift ?_ h
   intro env tl K h
   obtain ⟨d, m, h1, h2⟩ := cW h
   unfold mT at h1
   split at h1
   ·exact fX h1 h2
   ·simp at h1
 | ld g n y =>
  simp only [Cfg.tellI] at h
  split at h
  ·simp only [Cfg.cutL, Cfg.cutI] at h
   refine lift ?_ h
   intro env tl K h
   obtain ⟨d, r, h1, h2, h3⟩ := bN h
   refine d9 h1 ?_ h3
   cases d <;> simp only [ldpD] at h2 <;> first | exact h2 | simp at h2
  ·exact h
 | fa off y =>
  simp only [Cfg.tellI] at h
  split at h
  ·simp only [Cfg.cutL, Cfg.cutI] at h
   refine lift ?_ h
   intro env tl K h
   obtain ⟨d, r, h1, h2, h3⟩ := bN h
   refine d9 h1 ?_ h3
   cases d <;> simp only [fapD] at h2 <;> first | exact h2 | simp at h2
  ·exact h
 | cl f ys =>
  simp only [Cfg.tellI] at h
  split at h
  ·simp only [Cfg.cutL, Cfg.cutI] at h
   refine lift ?_ h
   intro env tl K h
   obtain ⟨g, caps, zs, h1, h2, h3⟩ := jG h
   show clK C.P _ _ _ _ _
   rw [h1, h2]; exact gH h3 fun d m n h => h.2
  ·exact h
 | sta n a v ps => simp [Cfg.notSta] at hns
 | _ => exact h
theorem pM {is : List Ins} {z : Ins} {p j i : Nat} (h : is[p]? = some z) (h1 : j ≤ p) (h2 : p < i) : z ∈ (is.take i).drop j := by
 refine List.mem_of_getElem? (i := p - j) ?_
 rw [List.getElem?_drop, List.getElem?_take_of_lt (by omega), show j + (p - j) = p by omega]
 exact h
theorem E8 {bf : Nat → Nat → Bool} {late kp : Bool} {i : Nat} : ∃ c, (Cfg.tell bf late kp is)[i]? = (is[i]?).map fun y => Cfg.tellI (bf i) c kp is y i := by
 simp only [Cfg.tell, List.getElem?_map, List.getElem?_zipIdx]
 cases is[i]? with
 | none => exact ⟨false, rfl⟩
 | some y => exact ⟨_, by simp only [Option.map_some, Nat.zero_add]; rfl⟩
theorem jI {bf : Nat → Nat → Bool} {late kp : Bool} : (Cfg.tell bf late kp is).length = is.length := by simp [Cfg.tell]
theorem HG {n i : Nat} {listed : Array Bool} (hi : i < n) (hsz : listed.size = n) (hl : listed.getD i true = false) : unl n (listed.setIfInBounds i true) < unl n listed := by
 unfold unl
 refine tF _ i (by simpa using hi) (by simp [hl]) ?_ ?_
 ·rw [mZ (by omega)]; simp
 ·intro j hj
  rw [mZ (by omega)] at hj
  split at hj
  ·simp at hj
  ·exact hj
theorem D_ {n i : Nat} {listed : Array Bool} (h : unl n listed ≤ 0) (hi : i < n) : listed.getD i true = true := by
 unfold unl at h
 have h0 : (List.range n).filter (fun i => !listed.getD i true) = [] := List.eq_nil_of_length_eq_zero (by omega)
 have := List.filter_eq_nil_iff.1 h0 i (by simpa using hi)
 simpa using this
theorem y6 {listed : Array Bool} {i : Nat} (hi : i < listed.size) : listed.getD i true = listed.getD i false := by
 simp [Array.getD_eq_getD_getElem?, hi]
theorem AG {ops : Array Oper} {listed : Array Bool} {i : Nat} {o : Oper} (hsz : listed.size = ops.size) (ho : ops[i]? = some o) (hr : o.after.all (fun e => !Region.binds .any e || listed.getD e.on false) = true) (hc : rW ops listed) : rW ops (listed.setIfInBounds i true) := by
 have hi : i < ops.size := (Array.getElem?_eq_some_iff.1 ho).1
 intro j o' ho' hj m hm
 rw [mZ (by omega)] at hj ⊢
 split
 ·rfl
 ·rename_i him
  by_cases hij : i = j
  ·subst hij
   exact oL ho hc hr hm
  ·simp only [hij, if_false] at hj
   exact hc j o' ho' hj m hm
def dA (is : List Ins) (dn : Nat → Bool) (j n : Nat) : List (Nat × Ins) := (List.range' j n).filterMap fun i => if dn i then none else (is[i]?).map fun x => (i, x)
theorem vL : ∀ (l : List Ins) (is : List Ins) (j : Nat) (dn : Nat → Bool), (∀ i, is[j + i]? = l[i]?) → (∀ i, dn i = false) → dA is dn j l.length = (l.zipIdx j).map fun p => (p.2, p.1)
 | [], _, _, _, _, _ => rfl
 | x :: l, is, j, dn, h, hl => by
  have h0 := h 0
  simp only [Nat.add_zero, List.getElem?_cons_zero] at h0
  have ih := vL l is (j + 1) dn (fun i => by
   have := h (i + 1)
   rw [show j + (i + 1) = j + 1 + i by omega] at this
   simpa using this) hl
  unfold dA at ih ⊢
  simp only [hl, Bool.false_eq_true, if_false] at ih
  rw [List.length_cons, List.range'_succ, List.filterMap_cons]
  simp only [hl, h0, Option.map_some, Bool.false_eq_true, if_false, List.zipIdx_cons, List.map_cons]
  rw [ih]
theorem zI {dn : Nat → Bool} {i k : Nat} {x : Ins} (hi : i < k) (hl : dn i = false) (hx : is[i]? = some x) :
  dA is dn 0 k = dA is dn 0 i ++ (i, x) :: dA is dn (i + 1) (k - (i + 1)) := by
 unfold dA
 have e : List.range' 0 k = List.range' 0 i ++ i :: List.range' (i + 1) (k - (i + 1)) := by
  have e1 : i :: List.range' (i + 1) (k - (i + 1)) = List.range' i (k - i) := by
   rw [show k - i = (k - (i + 1)) + 1 by omega, List.range'_succ]
  rw [e1, show (List.range' i (k - i)) = List.range' (0 + 1 * i) (k - i) by simp, List.range'_append]
  congr 1; omega
 rw [e, List.filterMap_append, List.filterMap_cons]
 simp [hl, hx]
theorem mD {α β : Type} {f g : α → Option β} : ∀ {l : List α}, (∀ x ∈ l, f x = g x) → l.filterMap f = l.filterMap g
 | [], _ => rfl
 | x :: l, h => by rw [List.filterMap_cons, List.filterMap_cons, h x (by simp), mD fun y hy => h y (by simp [hy])]
theorem tE {dn dn' : Nat → Bool} : ∀ (j n : Nat), (∀ m, j ≤ m → m < j + n → dn' m = dn m) → dA is dn' j n = dA is dn j n := by
 intro j n h
 unfold dA
 refine mD fun m hm => ?_
 rw [List.mem_range'_1] at hm
 rw [h m hm.1 hm.2]
theorem nK {dn : Nat → Bool} {j n : Nat} {p : Nat × Ins} (h : p ∈ dA is dn j n) : j ≤ p.1 ∧ p.1 < j + n ∧ dn p.1 = false ∧ is[p.1]? = some p.2 := by
 unfold dA at h
 rw [List.mem_filterMap] at h
 obtain ⟨i, hi, h⟩ := h
 rw [List.mem_range'_1] at hi
 split at h
 ·simp at h
 ·rename_i hl
  rw [Option.map_eq_some_iff] at h
  obtain ⟨x, hx, rfl⟩ := h
  exact ⟨hi.1, hi.2, by simpa using hl, hx⟩
theorem sV {rm : List (Nat × Opd)} {is : List Ins} {dn : Nat → Bool} {y : Ins} {i : Nat} (hap : ∀ p x, p < i → dn p = false → is[p]? = some x → Cfg.swapI rm x (Cfg.cutL ((is.take i).drop p) y) = true) : ∀ n j, j + n = i → sA rm y (dA is dn j n)
 | 0, j, _ => trivial
 | n + 1, j, hj => by
  have ih := sV hap n (j + 1) (by omega)
  have hmem : ∀ q ∈ dA is dn (j + 1) n, j + 1 ≤ q.1 ∧ q.1 < i ∧ is[q.1]? = some q.2 := fun q hq => by
   obtain ⟨g1, g2, _, g4⟩ := nK hq
   exact ⟨g1, by omega, g4⟩
  have e : dA is dn j (n + 1) = (if dn j then [] else ((is[j]?).map fun x => (j, x)).toList) ++ dA is dn (j + 1) n := by
   unfold dA
   rw [List.range'_succ, List.filterMap_cons]
   cases hl : dn j with
   | true => simp
   | false => cases hx : is[j]? <;> simp
  rw [e]
  cases hl : dn j with
  | true => simpa using ih
  | false =>
   cases hx : is[j]? with
   | none => simpa using ih
   | some x =>
    show sA rm y ((j, x) :: dA is dn (j + 1) n)
    refine ⟨CW (fun z hz => ?_) (by simp) (hap j x (by omega) hl hx), ih⟩
    rcases List.mem_cons.1 hz with rfl | hz
    ·exact pM hx (Nat.le_refl _) (by omega)
    ·obtain ⟨q, hq, rfl⟩ := List.mem_map.1 hz
     obtain ⟨g1, g2, g3⟩ := hmem q hq
     exact pM g3 (by omega) g2
structure Perm (C : Cfg) (ops : Array Oper) (pi : List Nat) (bf : Nat → Nat → Bool) (js : List Ins) : Prop where
 len : js.length = ops.size
 ins : ∀ p x, js[p]? = some x → ∃ o, ops[pi.getD p 0]? = some o ∧ C.ins ops o = some x
 inj : ∀ p q, p < ops.size → q < ops.size → pi.getD p 0 = pi.getD q 0 → p = q
 all : ∀ i, i < ops.size → ∃ p, p < ops.size ∧ pi.getD p 0 = i
 bef : ∀ p q, p < ops.size → q < ops.size → bf q p = true → ((Region.before ops).getD (pi.getD q 0) 0).testBit (pi.getD p 0) = true
def dW (pi : List Nat) (listed : Array Bool) : Nat → Bool := fun p => listed.getD (pi.getD p 0) false
theorem GT {B : Rx} {ops : Array Oper} {K : Go4} {S0 : Nat → Prop} {φ0 : aW} {mem0 : Mem} {w0 : World} {N : Nat} {pi : List Nat} {bf : Nat → Nat → Bool} {late kp : Bool} (hK : Inv K) (hN : N ≤ base) (hpi : Perm C ops pi bf is) (hns : ∀ x ∈ is, Cfg.notSta x.i = true) (hok : Okd C ops pi bf (Cfg.tell bf late kp is))
  {Q : Exit → Act → World → Prop} (hQ : ∀ env tl mem nx S φ a w, K env tl mem nx → oT C B S φ env tl mem nx a w → Ext S0 φ0 mem0 w0 S φ mem w → Grow N φ0 φ nx → Q .normal a w) :
  ∀ (fuel : Nat) (listed : Array Bool) (env tl : Env) (mem : Mem) (nx : Nat) (S : Nat → Prop) (φ : aW) (a : Act) (w : World),
  listed.size = ops.size → unl ops.size listed ≤ fuel → rW ops listed → runL C base (dA (Cfg.tell bf late kp is) (dW pi listed) 0 ops.size) K env tl mem nx → iO (Cfg.roots (Cfg.tell bf late kp is)) env tl → oT C B S φ env tl mem nx a w → Ext S0 φ0 mem0 w0 S φ mem w → Grow N φ0 φ nx →
  (∀ p, p < ops.size → dW pi listed p = false → φ (base + p) = none) → base + ops.size ≤ nx → wpAny C.P .any ops Q fuel listed a w := by
 intro fuel
 have hbd : ∀ p, p < ops.size → pi.getD p 0 < ops.size := fun p hp => by
  obtain ⟨x, hx⟩ : ∃ x, is[p]? = some x := ⟨_, List.getElem?_eq_getElem (by rw [hpi.len]; exact hp)⟩
  obtain ⟨o, ho, _⟩ := hpi.ins p x hx
  exact (Array.getElem?_eq_some_iff.1 ho).1
 have hend : ∀ (listed : Array Bool) (env tl : Env) (mem : Mem) (nx : Nat), listed.size = ops.size → Region.ready .any ops listed = [] → runL C base (dA (Cfg.tell bf late kp is) (dW pi listed) 0 ops.size) K env tl mem nx → K env tl mem nx := by
  intro listed env tl mem nx hsz hall hr
  have : dA (Cfg.tell bf late kp is) (dW pi listed) 0 ops.size = [] := by
   apply List.eq_nil_iff_forall_not_mem.2
   intro p hp
   obtain ⟨_, h2, h3, _⟩ := nK hp
   have := AO hsz hok.edge hall (pi.getD p.1 0) (hbd _ (by omega))
   unfold dW at h3
   rw [h3] at this; simp at this
  rw [this] at hr; exact hr
 induction fuel with
 | zero =>
  intro listed env tl mem nx S φ a w hsz hun hcl hr hrt hh hx hgr hf hn
  have hall : Region.ready .any ops listed = [] := by
   cases h : Region.ready .any ops listed with
   | nil => rfl
   | cons i l =>
    obtain ⟨o, _, h1, h2, _⟩ := tC (ops := ops) (listed := listed) (i := i) (by rw [h]; simp)
    rw [D_ hun h1] at h2; simp at h2
  exact ⟨hall, hQ _ _ _ _ _ _ _ _ (hend _ _ _ _ _ hsz hall hr) hh hx hgr⟩
 | succ fuel ih =>
  intro listed env tl mem nx S φ a w hsz hun hcl hr hrt hh hx hgr hf hn
  refine ⟨fun hall => hQ _ _ _ _ _ _ _ _ (hend _ _ _ _ _ hsz hall hr) hh hx hgr, fun i0 hi => ?_⟩
  obtain ⟨o, ho, h1, h2, h3⟩ := tC hi
  rw [y6 (by omega)] at h2
  obtain ⟨i, hip, hpe⟩ := hpi.all i0 h1
  have hdn : dW pi listed i = false := by unfold dW; rw [hpe]; exact h2
  obtain ⟨x0, hx0⟩ : ∃ x, is[i]? = some x := ⟨_, List.getElem?_eq_getElem (by rw [hpi.len]; exact hip)⟩
  obtain ⟨x, c, hx', hxt⟩ : ∃ x c, (Cfg.tell bf late kp is)[i]? = some x ∧ x = Cfg.tellI (bf i) c kp is x0 i := by
   obtain ⟨c, h⟩ := E8 (is := is) (bf := bf) (late := late) (kp := kp) (i := i)
   rw [hx0, Option.map_some] at h
   exact ⟨_, c, h, rfl⟩
  obtain ⟨o', ho', hins⟩ := hpi.ins i x0 hx0
  have : o' = o := by
   rw [hpe, ho] at ho'; exact (Option.some.inj ho').symm
  subst this
  rw [zI hip hdn hx', qD] at hr
  simp only [runL] at hr
  have hfree := hf i hip hdn
  have hone := pass (nE hK _) _ _ _ _ _ (sV (y := x) (i := i) (rm := Cfg.roots (Cfg.tell bf late kp is)) (fun p z hlt g3 g4 => by
   refine (hok.apart p i z x hlt g4 hx').2.resolve_left fun hb => ?_
   have hb := hpi.bef p i (by omega) hip hb
   rw [hpe] at hb
   have := oL ho hcl h3 hb
   unfold dW at g3
   rw [g3] at this; simp at this) i 0 (by omega)) (fun p hp => by
   obtain ⟨_, g2, g3, g4⟩ := nK hp
   exact ⟨by omega, (hok.fit _ (List.mem_of_getElem? g4)).2⟩) hrt (fun _ => by
   cases hl : look mem (base + i) with
   | none => rfl
   | some b =>
    obtain ⟨l, g1, _⟩ := hh.m.mem _ _ hl
    rw [hfree] at g1; simp at g1) (fun q hq d hd p hp e => by
   obtain ⟨_, g2, g3, g4⟩ := nK hp
   have hp2 := hf p.1 (by omega) g3
   have hfit := (hok.fit x (List.mem_of_getElem? hx')).1 q hq
   have hrep : ∃ v, Rep w S φ d v := by
    cases q with
    | t s => exact ⟨_, hh.known.tl s d (by simpa [Cfg.fitO] using hfit) hd⟩
    | g s => exact ⟨_, hh.known.env s d (by simpa [Cfg.fitO] using hfit) hd⟩
    | c v => simp only [ro, Option.some.injEq] at hd; subst hd; simp [D.hd] at e
    | f v => simp only [ro, Option.some.injEq] at hd; subst hd; simp [D.hd] at e
   obtain ⟨v, hv⟩ := hrep
   cases d <;> simp only [D.hd, Option.some.injEq] at e <;> try simp at e
   all_goals
    subst e
    simp only [Rep] at hv
    obtain ⟨l, hl, _⟩ := hv
    rw [hp2] at hl; simp at hl) hr
  rw [← qD] at hone
  have hone := mK (D9 (hok.fit x (List.mem_of_getElem? hx')).2) hrt hone
  rw [hxt] at hone
  have hone := D7 (hns x0 (List.mem_of_getElem? hx0)) hone
  refine wpOp_mono ?_ (sW (k := i0) ho hins hone hh hfree (by omega))
  rintro a' w' ⟨S', φ', env', tl', mem', nx', g1, g2, g3, g4, g5, g6, _⟩
  have hdone : ∀ m, m < ops.size → dW pi (listed.setIfInBounds i0 true) m = if m = i then true else dW pi listed m := fun m hm => by
   unfold dW
   rw [mZ (by omega)]
   by_cases e : m = i
   ·subst e; rw [if_pos hpe.symm, if_pos rfl]
   ·rw [if_neg e, if_neg fun g => e (hpi.inj m i hm hip (by rw [hpe]; exact g.symm))]
  have hset : dA (Cfg.tell bf late kp is) (dW pi (listed.setIfInBounds i0 true)) 0 ops.size = dA (Cfg.tell bf late kp is) (dW pi listed) 0 i ++ dA (Cfg.tell bf late kp is) (dW pi listed) (i + 1) (ops.size - (i + 1)) := by
   have e : ∀ (L : Nat → Bool), dA (Cfg.tell bf late kp is) L 0 ops.size = dA (Cfg.tell bf late kp is) L 0 i ++ (dA (Cfg.tell bf late kp is) L i 1 ++ dA (Cfg.tell bf late kp is) L (i + 1) (ops.size - (i + 1))) := by
    intro L
    unfold dA
    rw [← List.filterMap_append, ← List.filterMap_append]
    congr 1
    rw [show List.range' i 1 ++ List.range' (i + 1) (ops.size - (i + 1)) = List.range' i (ops.size - i) by
     rw [show i + 1 = i + 1 * 1 by omega, List.range'_append]; congr 1; omega]
    rw [show (List.range' i (ops.size - i)) = List.range' (0 + 1 * i) (ops.size - i) by simp, List.range'_append]
    congr 1; omega
   rw [e, tE (dn := dW pi listed) 0 i (fun m _ hm => by rw [hdone m (by omega), if_neg (by omega)]), tE (dn := dW pi listed) (i + 1) _ (fun m hm hm2 => by rw [hdone m (by omega), if_neg (by omega)])]
   congr 1
   have : dA (Cfg.tell bf late kp is) (dW pi (listed.setIfInBounds i0 true)) i 1 = [] := by
    unfold dA
    simp [hdone i hip]
   rw [this, List.nil_append]
  refine ih (listed.setIfInBounds i0 true) env' tl' mem' nx' S' φ' a' w' (by simpa using hsz) (by have := HG h1 hsz (by rw [y6 (by omega)]; exact h2); omega) (AG hsz ho h3 hcl) (by rw [hset]; exact g1.2) g1.1 g2 (hx.trans g4)
   (hgr.trans ⟨by omega, fun i hi hnn => g6 i (by omega) (by omega) hnn, g3.loc⟩) (fun m hm hml => ?_) (by omega)
  rw [hdone m hm] at hml
  split at hml
  ·simp at hml
  ·exact g6 _ (by omega) (by omega) (hf m hm hml)
def qX (ops : Array Oper) : Prop := ∀ (i : Nat) (o : Oper), ops[i]? = some o → ∀ c, o.op ≠ Op.defer c
theorem wN {rd : Option Nat} {P : Program} {ops : Array Oper} {Q : Exit → Act → World → Prop} (hd : qX ops) (hq : ∀ a w, ¬ Q .outgrown a w) {i : Nat} {K K' : Act → World → Prop} (hK : ∀ a w, K a w → K' a w) {a : Act} {w : World} (h : wpOp P ops Q i K a w) : wpOpIn (FrR rd) 0 P ops Q i K' a w := by
 unfold wpOp at h
 unfold wpOpIn
 cases ho : ops[i]? with
 | none => simp only [ho] at h ⊢; exact hK _ _ h
 | some o =>
  simp only [ho] at h ⊢
  have hcalls : ∀ {f : FuncId} {args : Array Value} {w : World} {R : Ending → World → Prop}, Calls P f args w R → CallsIn (FrR rd) 0 P f args w R := fun {f args w R} h => by
   have h2 := (callsIn_wide (n := 0)).2 h
   exact ⟨trivial, fun cs hr => by
    obtain ⟨e, w', fr, k1, k2, k3⟩ := h2.2 cs (room_wide _)
    exact ⟨e, w', fr, k1, k2, k3⟩⟩
  split
  ·rename_i hw
   simp only [hw, if_true] at h
   rcases h with h | ⟨_, a0, w0, h0⟩
   ·refine ⟨fun _ _ => trivial, ?_⟩
    rw [Oper.semAt_eq _ _ _ (hd i o ho)]
    unfold Oper.wp at h
    generalize (execOp a.eval o).run P w = r at h
    cases r with
    | ok x w' =>
     cases x <;> simp only [Oper.upon] at h <;> simp only [Oper.uponIn]
     all_goals first
      | exact hK _ _ h
      | exact ⟨fun g => by simp [FrR] at g, hcalls (h.mono fun e w'' he => by cases e <;> first | exact hK _ _ he | exact he)⟩
      | exact ⟨fun g => by simp [FrR] at g, fun c cs _ => by
        obtain ⟨v, w2, k1, k2⟩ := h c cs
        exact ⟨v, w2, hK _ _ k1, stepsIn_wide.2 k2⟩⟩
      | exact h.elim
    | halt x w' => cases x <;> simp only [Oper.upon] at h <;> simp only [Oper.uponIn] <;> first | exact h | exact h.elim
   ·exact absurd h0 (hq _ _)
  ·rename_i hw
   simp only [hw] at h
   exact ⟨fun _ _ => trivial, hK _ _ h⟩
theorem sU {rd : Option Nat} {P : Program} {ops : Array Oper} {Q : Exit → Act → World → Prop} (hd : qX ops) (hq : ∀ a w, ¬ Q .outgrown a w) : ∀ (l : List Nat) (a : Act) (w : World), wpOps P ops Q l a w → wpOpsIn (FrR rd) 0 P ops Q l a w
 | [], a, w, h => h
 | i :: l, a, w, h => by
  rw [wpOps_cons] at h
  rw [wpOpsIn_cons]
  exact wN hd hq (sU hd hq l) h
theorem uK {rd : Option Nat} {P : Program} {ops : Array Oper} {md : Region.Mode} {Q : Exit → Act → World → Prop} (hd : qX ops) (hq : ∀ a w, ¬ Q .outgrown a w) : ∀ (fuel : Nat) (listed : Array Bool) (a : Act) (w : World), wpAny P md ops Q fuel listed a w → wpAnyIn (FrR rd) 0 P md ops Q fuel listed a w
 | 0, listed, a, w, h => h
 | fuel + 1, listed, a, w, h => ⟨h.1, fun i hi => wN hd hq (uK hd hq fuel _) (h.2 i hi)⟩
theorem wF {ops : Array Oper} (his : ops.toList.mapM (C.ins ops) = some is) : qX ops := by
 intro i o ho c hc
 have hlen := eU his
 have hi : i < is.length := by
  rw [← hlen]
  simpa using (Array.getElem?_eq_some_iff.1 ho).1
 obtain ⟨o', ho', hins⟩ := i8 his i is[i] (List.getElem?_eq_getElem hi)
 have e : ops.toList[i]? = some o := by simpa using ho
 rw [e] at ho'
 simp only [Option.some.injEq] at ho'
 subst ho'
 have := (yK hins).2.1
 rw [hc] at this
 simp [Cfg.op] at this
theorem AD {rd : Option Nat} {B : Rx} {rid : Nat} {ops : Array Oper} {K : Env → Env → Mem → Nat → Prop} {pi : List Nat} {bf : Nat → Nat → Bool} {late kp : Bool} (hmix : C.P.follows .mixedOrders = true) (hpi : Perm C ops pi bf is) (hnd : qX ops) (hns : ∀ x ∈ is, Cfg.notSta x.i = true) (hok : Cfg.drawOk C.gs ops pi bf (Cfg.tell bf late kp is) = true) (h : run C nx K (Cfg.tell bf late kp is) 0 env [] mem (nx + is.length))
  {N : Nat} (hN : N ≤ nx) (hh : oT C B S φ env [] mem (nx + is.length) a w) (hfree : ∀ i, i < is.length → φ (nx + i) = none) : (Code.region rid ops true).wpIn (FrR rd) 0 C.P (Post C B N S φ mem w (fun e s => e = .normal ∧ K s.env s.tl s.mem s.nx)) a w := by
 have hlen : is.length = ops.size := hpi.len
 have ho := C5 hok
 refine wpIn_region_any hmix (uK hnd (fun a w ⟨_, _, _, h, _⟩ => by simp at h) _ _ _ _ ?_)
 obtain ⟨m1, m2, m3⟩ := MSim.of_heap (w := w) (w1 := { w with drawn := w.drawn + 1 }) rfl rfl rfl rfl hh.m
 have hk1 : dH C { w with drawn := w.drawn + 1 } S φ env [] a := ⟨fun j d hj hl => Rep.mono m2 _ _ (hh.known.env j d hj hl), fun j d hj hl => Rep.mono m2 _ _ (hh.known.tl j d hj hl)⟩
 have hf0 : ∀ i, dW pi (Array.replicate ops.size false) i = false := by
  intro i
  unfold dW
  simp only [Array.getD_eq_getD_getElem?, Array.getElem?_replicate]
  split <;> rfl
 have hK : Inv (fun e t m n => ∃ e2 t2 m2, Lk e e2 ∧ Lk t t2 ∧ Lk m m2 ∧ K e2 t2 m2 n) := fun e t m n e2 t2 m2 he ht hm ⟨e3, t3, m3, h1, h2, h3, h4⟩ => ⟨e3, t3, m3, he.symm.trans h1, ht.symm.trans h2, hm.symm.trans h3, h4⟩
 have hr := vH (K := fun e t m n => ∃ e2 t2 m2, Lk e e2 ∧ Lk t t2 ∧ Lk m m2 ∧ K e2 t2 m2 n) (Cfg.tell bf late kp is) 0 env [] mem (nx + is.length) (vC (fun e t m n h => ⟨e, t, m, Lk.refl _, Lk.refl _, Lk.refl _, h⟩) (Cfg.tell bf late kp is) 0 _ _ _ _ h)
 rw [← vL (Cfg.tell bf late kp is) (Cfg.tell bf late kp is) 0 (dW pi (Array.replicate ops.size false)) (fun i => by simp) hf0, jI, hlen] at hr
 refine GT hK hN hpi hns ho (fun env tl mem nx S φ a w ⟨e2, t2, m2, h1, h2, h3, h4⟩ hh hx hg => ?_) ops.size (Array.replicate ops.size false) env [] mem (nx + ops.size) S φ a _ (by simp) ?_ ?_ hr AM ⟨hk1, hh.size, ⟨hh.defers.nd, hh.defers.marks, hh.defers.rd, hh.defers.tb⟩, by rw [← hlen]; exact m1⟩ m3 (Grow.refl (by omega)) (fun i hi _ => hfree i (by omega)) (Nat.le_refl _)
 ·unfold unl
  exact Nat.le_trans (List.length_filter_le _ _) (by simp)
 ·intro i o _ hi
  have : (Array.replicate ops.size false).getD i false = false := by
   simp only [Array.getD_eq_getD_getElem?, Array.getElem?_replicate]
   split <;> rfl
  rw [this] at hi; simp at hi
 ·exact ⟨⟨e2, t2, m2, nx⟩, S, φ, ⟨rfl, h4⟩, ⟨hh.size, hh.defers, fun j d hj hl => hh.known.env j d hj (by rw [h1]; exact hl), fun j d hj hl => hh.known.tl j d hj (by rw [h2]; exact hl), zA h3 hh.m⟩,
   ⟨hx.sub, hx.keep, hx.size, fun b hb ⟨i, blk, l, g1, g2⟩ => hx.own b hb ⟨i, blk, l, by rw [h3]; exact g1, g2⟩, hx.news, hx.os, hx.output, hx.tape⟩, hg⟩
theorem gK {n p : Nat} (h : p < n) : (List.range n).getD p 0 = p := by simp [List.getD_eq_getElem?_getD, h]
theorem Perm.text {ops : Array Oper} (his : ops.toList.mapM (C.ins ops) = some is) : Perm C ops (List.range is.length) (fun q p => ((Region.before ops).getD q 0).testBit p) is := by
 have hlen : is.length = ops.size := by rw [← eU his]; simp
 rw [hlen]
 refine ⟨hlen, fun p x hx => ?_, fun p q hp hq h => ?_, fun i hi => ⟨i, hi, gK hi⟩, fun p q hp hq h => ?_⟩
 ·have hp : p < ops.size := by
   rw [← hlen]; exact (List.getElem?_eq_some_iff.1 hx).1
  obtain ⟨o, ho, hins⟩ := i8 his p x hx
  rw [gK hp]
  exact ⟨o, by simpa using ho, hins⟩
 ·rwa [gK hp, gK hq] at h
 ·rw [gK hp, gK hq]; exact h
theorem qJ : ∀ (n : Nat) (f : Nat → Nat), (∀ p, p < n → f p < n) → (∀ p q, p < n → q < n → f p = f q → p = q) → ∀ i, i < n → ∃ p, p < n ∧ f p = i
 | 0, _, _, _, i, hi => absurd hi (by omega)
 | n + 1, f, hb, hinj, i, hi => by
  -- the last one's place is filled by n
  let g : Nat → Nat := fun p => if f p = n then f n else f p
  have hg : ∀ p, p < n → g p < n := fun p hp => by
   have h1 := hb p (by omega)
   have h2 := hb n (by omega)
   by_cases e : f p = n
   ·have : f n ≠ n := fun h => by have := hinj p n (by omega) (by omega) (by omega); omega
    simp only [g, if_pos e]; omega
   ·simp only [g, if_neg e]; omega
  have hgi : ∀ p q, p < n → q < n → g p = g q → p = q := fun p q hp hq h => by
   by_cases e1 : f p = n <;> by_cases e2 : f q = n
   ·exact hinj p q (by omega) (by omega) (by omega)
   ·simp only [g, if_pos e1, if_neg e2] at h
    have := hinj n q (by omega) (by omega) h; omega
   ·simp only [g, if_neg e1, if_pos e2] at h
    have := hinj p n (by omega) (by omega) h; omega
   ·simp only [g, if_neg e1, if_neg e2] at h
    exact hinj p q (by omega) (by omega) h
  have ih := qJ n g hg hgi
  by_cases hin : i = n
  ·by_cases e : f n = n
   ·exact ⟨n, by omega, by omega⟩
   ·obtain ⟨p, hp, hgp⟩ := ih (f n) (by have := hb n (by omega); omega)
    by_cases e2 : f p = n
    ·exact ⟨p, by omega, by omega⟩
    ·simp only [g, if_neg e2] at hgp
     have := hinj p n (by omega) (by omega) hgp; omega
  ·obtain ⟨p, hp, hgp⟩ := ih i (by omega)
   by_cases e2 : f p = n
   ·simp only [g, if_pos e2] at hgp
    exact ⟨n, by omega, hgp⟩
   ·simp only [g, if_neg e2] at hgp
    exact ⟨p, by omega, hgp⟩
theorem Perm.of {ops : Array Oper} {pi : List Nat} {js : List Ins} (his : ops.toList.mapM (C.ins ops) = some is) (hjs : pi.mapM (is[·]?) = some js) (hl : is.length = pi.length) (hne : ∀ p q, p < q → q < pi.length → pi.getD p 0 ≠ pi.getD q 0) :
  Perm C ops pi (fun q p => ((Region.before ops).getD (pi.getD q 0) 0).testBit (pi.getD p 0)) js := by
 have hlen : is.length = ops.size := by rw [← eU his]; simp
 have hjl : js.length = ops.size := by rw [← eU hjs, ← hl, hlen]
 have hget : ∀ p x, js[p]? = some x → is[pi.getD p 0]? = some x := fun p x hx => by
  obtain ⟨i, hi, h⟩ := i8 hjs p x hx
  rw [List.getD_eq_getElem?_getD, hi]; exact h
 have hb : ∀ p, p < ops.size → pi.getD p 0 < ops.size := fun p hp => by
  obtain ⟨x, hx⟩ : ∃ x, js[p]? = some x := ⟨_, List.getElem?_eq_getElem (by omega)⟩
  have := (List.getElem?_eq_some_iff.1 (hget p x hx)).1
  omega
 have hinj : ∀ p q, p < ops.size → q < ops.size → pi.getD p 0 = pi.getD q 0 → p = q := fun p q hp hq h => by
  rcases Nat.lt_trichotomy p q with h1 | h1 | h1
  ·exact absurd h (hne p q h1 (by omega))
  ·exact h1
  ·exact absurd h.symm (hne q p h1 (by omega))
 refine ⟨hjl, fun p x hx => ?_, hinj, qJ _ _ hb hinj, fun p q _ _ h => h⟩
 obtain ⟨o, ho, hins⟩ := i8 his _ x (hget p x hx)
 exact ⟨o, by simpa using ho, hins⟩
theorem DU {ops : Array Oper} {js : List Ins} (his : ops.toList.mapM (C.ins ops) = some is) (h : C.drawI ops is = some js) : ∃ pi bf late kp js0, js = Cfg.tell bf late kp js0 ∧ js0.length = is.length ∧ Perm C ops pi bf js0 ∧ Cfg.drawOk C.gs ops pi bf (Cfg.tell bf late kp js0) = true ∧ C.P.follows .mixedOrders = true ∧ ∀ x ∈ js0, Cfg.notSta x.i = true := by
 unfold Cfg.drawI at h
 simp only at h
 split at h
 ·rename_i hm
  simp only [Bool.and_eq_true, List.all_eq_true] at hm
  split at h
  ·rename_i hd
   simp only [Option.some.injEq] at h
   exact ⟨_, _, _, _, is, h.symm, rfl, Perm.text his, hd, hm.1, hm.2⟩
  ·split at h
   ·rename_i js0 hjs
    split at h
    ·rename_i hd
     simp only [Option.some.injEq] at h
     simp only [Bool.and_eq_true, beq_iff_eq] at hd
     have hl : js0.length = is.length := by rw [← eU hjs]; exact hd.1.symm
     refine ⟨_, _, _, _, js0, h.symm, hl, Perm.of his hjs hd.1 (fun p q hpq hq => ?_), hd.2, hm.1, fun x hx => ?_⟩
     ·have ho := C5 hd.2
      have hpl : p < js0.length := by omega
      have hql : q < js0.length := by omega
      exact (ho.apart p q _ _ hpq (List.getElem?_eq_getElem (by rw [jI]; exact hpl)) (List.getElem?_eq_getElem (by rw [jI]; exact hql))).1
     ·obtain ⟨i, hi⟩ := List.getElem?_of_mem hx
      obtain ⟨k, hk, h2⟩ := i8 hjs i x hi
      exact hm.2 x (List.mem_of_getElem? h2)
    ·simp at h
   ·simp at h
 ·simp at h
end
section
variable {C : Cfg} {Q : Exit → St → Prop} {env tl : Env} {mem : Mem} {nx : Nat}
theorem qB {id : Nat} {ops : Array Oper} {draw : Bool} {is : List Ins} {K : Env → Env → Mem → Nat → Prop} (hc : C.comp (.region id ops draw) = some (.reg is)) (h : run C nx K is 0 env [] mem (nx + is.length)) :
  T C (.region id ops draw) (fun e s => e = .normal ∧ K s.env s.tl s.mem s.nx) ⟨env, tl, mem, nx⟩ := by
 simp only [Cfg.comp, Option.bind_eq_bind, Option.bind_eq_some_iff] at hc
 obtain ⟨is', his, hc⟩ := hc
 intro x N S φ a w hN hB hs
 have hN : N ≤ nx := hN
 have hlen := eU his
 have hh : oT C x S φ env [] mem (nx + is'.length) a w := ⟨⟨hs.env, fun j d _ h => by simp [look] at h⟩, hs.size, hs.defers, ⟨hs.m.mem, hs.m.inj, hs.m.lt, fun i hi => hs.m.fresh i (Nat.le_trans (Nat.le_add_right _ _) hi), hs.m.sub⟩⟩
 cases draw with
 | false =>
  simp only [Bool.false_eq_true, if_false, Option.some.injEq, AC.reg.injEq] at hc; subst hc
  refine wpIn_region (sU (wF his) (fun a w ⟨_, _, _, h, _⟩ => by simp at h) _ _ _ ?_)
  rw [List.range_eq_range', ← Array.length_toList]
  exact sT hN ops.toList is' 0 env [] mem (nx + is'.length) S φ a w (fun i => by simp) his h hh (fun i _ _ => hs.m.fresh _ (Nat.le_add_right _ _)) (by omega)
 | true =>
  simp only [if_true] at hc
  split at hc
  ·rename_i js hd
   simp only [Option.some.injEq, AC.reg.injEq] at hc; subst hc
   obtain ⟨pi, bf, late, kp, js0, rfl, hl, hp, hok, hmix, hns⟩ := DU his hd
   rw [jI] at h
   rw [← hl] at hh
   exact AD hmix hp (wF his) hns hok h hN hh (fun i hi => hs.m.fresh _ (Nat.le_add_right _ _))
  ·simp at hc
theorem cZ : Wk C ⟨env, tl, mem, nx⟩ ⟨env, [], mem, nx⟩ := fun B N S φ a w hn hs =>
 ⟨S, φ, ⟨hs.size, hs.defers, hs.env, fun j d _ h => by simp [look] at h, hs.m⟩, Ext.refl .., Grow.refl hn⟩
theorem CL {c : Operand} {y : Opd} {x1 x2 : Code} {p q : Env → Mem → Nat → Prop} (hc : C.opd c = some y) (h : ifK y p q env tl mem nx) (hp : p env mem nx → T C x1 Q ⟨env, [], mem, nx⟩) (hq : q env mem nx → T C x2 Q ⟨env, [], mem, nx⟩) :
  T C (.cond c x1 x2) Q ⟨env, tl, mem, nx⟩ := by
 intro x N S φ a w hn hB hs
 unfold ifK ifb at h
 split at h
 ·rename_i b hro
  have hb := aP ⟨hs.env, hs.tl⟩ hc hro
  simp only [Rep] at hb
  refine wpIn_cond hb ?_
  cases b with
  | true => exact dK cZ (hp (h.1 rfl)) x N S φ a w hn hB hs
  | false => exact dK cZ (hq (h.2 rfl)) x N S φ a w hn hB hs
 ·exact h.elim
theorem vJ {x : Code} {K : Env → Env → Mem → Nat → Prop} {s : St} {next : Code} (h : T C x (fun e s => e = .normal ∧ K s.env s.tl s.mem s.nx) s) (hn : ∀ env tl mem nx, K env tl mem nx → T C next Q ⟨env, tl, mem, nx⟩) : T C (.seq x next) Q s := by
 refine T_seq (rF ?_ h)
 rintro e s ⟨rfl, hk⟩
 exact hn _ _ _ _ hk
theorem BL {c : Code} {s : St} (h : T C c (fun e s => ∃ s', Wk C s s' ∧ Q e s') s) : T C c Q s := by
 intro x N S φ a w hn hB hs
 refine wpIn_mono (h x N S φ a w hn hB hs) ?_
 rintro e a' w' ⟨s1, S1, φ1, ⟨s2, hw, hq⟩, h1, h2, g1⟩
 obtain ⟨S2, φ2, h3, h4, g2⟩ := hw x N S1 φ1 a' w' g1.le h1
 exact ⟨s2, S2, φ2, hq, h3, h2.trans h4, g1.trans g2⟩
def A' (C : Cfg) : AC → (Exit → St → Prop) → Env → Env → Mem → Nat → Prop
 | .cond y p q, Q, env, tl, mem, nx => ifK y (A C p Q) (A C q Q) env tl mem nx
 | .seq (.cond y p q) z, Q, env, tl, mem, nx => ifK y (A C p (eV (fun s => A C z Q s.env s.mem s.nx) Q)) (A C q (eV (fun s => A C z Q s.env s.mem s.nx) Q)) env tl mem nx
 | ac, Q, env, _, mem, nx => A C ac Q env mem nx
theorem A'_of_A {ac : AC} (h : A C ac Q env mem nx) : A' C ac Q env [] mem nx := by
 unfold A'
 split <;> exact h
theorem vV {x : Code} {is : List Ins} (h : C.comp x = some (.reg is)) : ∃ id ops draw, x = .region id ops draw := by
 cases x with
 | region id ops draw => exact ⟨id, ops, draw, rfl⟩
 | seq p q =>
  simp only [Cfg.comp, Option.bind_eq_bind, Option.bind_eq_some_iff] at h
  obtain ⟨a, _, b, _, h⟩ := h
  split at h <;> simp at h
 | _ => simp [Cfg.comp, Option.bind_eq_some_iff] at h
theorem yV {x y : Code} {ac : AC} (h : C.comp (.seq x y) = some ac) : ∃ a b, C.comp x = some a ∧ C.comp y = some b ∧
  ((∃ is c p q, a = .reg is ∧ b = .cond c p q ∧ ac = .ifr is c p q) ∨ (∃ is c p q z, a = .reg is ∧ b = .seq (.cond c p q) z ∧ ac = .seq (.ifr is c p q) z) ∨ ac = .seq a b) := by
 simp only [Cfg.comp, Option.bind_eq_bind, Option.bind_eq_some_iff] at h
 obtain ⟨a, ha, b, hb, h⟩ := h
 refine ⟨a, b, ha, hb, ?_⟩
 split at h
 ·simp only [Option.some.injEq] at h
  exact .inl ⟨_, _, _, _, rfl, rfl, h.symm⟩
 ·simp only [Option.some.injEq] at h
  exact .inr (.inl ⟨_, _, _, _, _, rfl, rfl, h.symm⟩)
 ·simp only [Option.some.injEq] at h
  exact .inr (.inr h.symm)
theorem A'_sound : ∀ (c : Code) (ac : AC), C.comp c = some ac → ∀ (Q : Exit → St → Prop) (env tl : Env) (mem : Mem) (nx : Nat), A' C ac Q env tl mem nx → T C c Q ⟨env, tl, mem, nx⟩ := by
 intro c
 induction c with
 | skip => intro ac h Q env tl mem nx hA; simp only [Cfg.comp, Option.some.injEq] at h; subst h; exact dK cZ (T_skip hA)
 | region id ops draw =>
  intro ac h Q env tl mem nx hA
  have h0 := h
  simp only [Cfg.comp, Option.bind_eq_bind, Option.bind_eq_some_iff] at h
  obtain ⟨is, his, h⟩ := h
  obtain ⟨is0, rfl⟩ : ∃ is0, ac = .reg is0 := by
   split at h
   ·split at h
    ·simp only [Option.some.injEq] at h; exact ⟨_, h.symm⟩
    ·simp at h
   ·simp only [Option.some.injEq] at h; exact ⟨_, h.symm⟩
  refine BL (rF ?_ (qB (tl := tl) h0 hA))
  rintro e ⟨env', tl', mem', nx'⟩ ⟨rfl, hk⟩
  exact ⟨_, cZ, hk⟩
 | seq x y ihx ihy =>
  intro ac h Q env tl mem nx hA
  obtain ⟨a, b, ha, hb, h | h | h⟩ := yV h
  ·obtain ⟨is, c, p, q, rfl, rfl, rfl⟩ := h
   obtain ⟨id, ops, draw, rfl⟩ := vV ha
   exact vJ (qB (tl := tl) ha hA) fun env' tl' mem' nx' hk => ihy _ hb Q env' tl' mem' nx' hk
  ·obtain ⟨is, c, p, q, z, rfl, rfl, rfl⟩ := h
   obtain ⟨id, ops, draw, rfl⟩ := vV ha
   exact vJ (qB (tl := tl) ha hA) fun env' tl' mem' nx' hk => ihy _ hb Q env' tl' mem' nx' hk
  ·subst h
   refine T_seq ?_
   have hQ : ∀ e s, eV (fun s => A C b Q s.env s.mem s.nx) Q e s → ∃ s', Wk C s s' ∧ eV (T C y Q) Q e s' := by
    intro e s hq
    cases e with
    | normal =>
     obtain ⟨env', tl', mem', nx'⟩ := s
     exact ⟨_, cZ, ihy b hb Q env' [] mem' nx' (A'_of_A hq)⟩
    | _ => exact ⟨s, Wk.refl, hq⟩
   refine BL (rF hQ ?_)
   cases a with
   | cond y' p q => exact ihx _ ha _ env tl mem nx hA
   | _ => exact dK cZ (ihx _ ha _ env [] mem nx (A'_of_A hA))
 | cond c x y ihx ihy =>
  intro ac h Q env tl mem nx hA
  simp only [Cfg.comp, Option.bind_eq_bind, Option.bind_eq_some_iff, Option.some.injEq] at h
  obtain ⟨o, ho, a1, h1, a2, h2, rfl⟩ := h
  exact CL ho hA (fun h => ihx a1 h1 Q env [] mem nx (A'_of_A h)) (fun h => ihy a2 h2 Q env [] mem nx (A'_of_A h))
 | block id x ih =>
  intro ac h Q env tl mem nx hA
  simp only [Cfg.comp, Option.bind_eq_bind, Option.bind_eq_some_iff, Option.some.injEq] at h
  obtain ⟨a1, h1, rfl⟩ := h
  exact dK cZ (FZ (ih a1 h1 _ env [] mem nx (A'_of_A hA)))
 | loop x ih =>
  intro ac h Q env tl mem nx hA
  have h0 := h
  simp only [Cfg.comp, Option.bind_eq_bind, Option.bind_eq_some_iff, Option.some.injEq] at h
  obtain ⟨a1, h1, rfl⟩ := h
  exact dK cZ (hA _ h0)
 | rangeFunc f ps a b iha ihb =>
  intro ac h Q env tl mem nx hA
  have h0 := h
  simp only [Cfg.comp, Option.bind_eq_bind, Option.bind_eq_some_iff] at h
  obtain ⟨g, hg, a1, h1, a2, h2, h⟩ := h
  simp only [Option.some.injEq] at h
  subst h
  exact dK cZ (hA _ h0)
 | exit id => intro ac h Q env tl mem nx hA; simp only [Cfg.comp, Option.some.injEq] at h; subst h; exact dK cZ (T_exit hA)
 | scope x ih =>
  intro ac h Q env tl mem nx hA
  have h0 := h
  simp only [Cfg.comp, Option.bind_eq_bind, Option.bind_eq_some_iff, Option.some.injEq] at h
  obtain ⟨a1, h1, rfl⟩ := h
  exact dK cZ (hA _ h0)
 | label l => intro ac h Q env tl mem nx hA; simp only [Cfg.comp, Option.some.injEq] at h; subst h; exact dK cZ (FY hA)
 | goto l => intro ac h Q env tl mem nx hA; simp only [Cfg.comp, Option.some.injEq] at h; subst h; exact dK cZ (T_goto hA)
 | ret => intro ac h Q env tl mem nx hA; simp only [Cfg.comp, Option.some.injEq] at h; subst h; exact dK cZ (T_ret hA)
 | refuse w => intro ac h; simp [Cfg.comp] at h
theorem sG {c : Code} {ac : AC} (h : C.comp c = some ac) (hA : A C ac Q env mem nx) : T C c Q ⟨env, [], mem, nx⟩ := A'_sound c ac h Q env [] mem nx (A'_of_A hA)
theorem F1 {ac : AC} (h : A C ac Q env mem nx) : TA C ac Q ⟨env, [], mem, nx⟩ := fun _ hc => sG hc h
theorem nY {ac : AC} {s s' : St} (h : Wk C s s') (k : TA C ac Q s') : TA C ac Q s := fun c hc => dK h (k c hc)
theorem GL {ac : AC} {Q' : Exit → St → Prop} {s : St} (hq : ∀ e s, Q e s → Q' e s) (h : TA C ac Q s) : TA C ac Q' s := fun c hc => rF hq (h c hc)
theorem FH {α : Type} {x : AC} (st : α → St) (inv : α → Prop) (μ : α → Nat)
  (round : ∀ y, inv y → TA C x (eV (fun s' => ∃ z, inv z ∧ μ z < μ y ∧ Wk C s' (st z)) Q) (st y)) (x0 : α) (h0 : inv x0) : TA C (.loop x) Q (st x0) := by
 intro c hc
 cases c with
 | loop y =>
  simp only [Cfg.comp, Option.bind_eq_bind, Option.bind_eq_some_iff, Option.some.injEq, AC.loop.injEq] at hc
  obtain ⟨a1, h1, rfl⟩ := hc
  exact T_loop st inv μ (fun y' hy => round y' hy _ h1) x0 h0
 | seq p q =>
  obtain ⟨a, b, _, _, h | h | h⟩ := yV hc
  ·obtain ⟨is, c, p, q, _, _, e⟩ := h; simp at e
  ·obtain ⟨is, c, p, q, z, _, _, e⟩ := h; simp at e
  ·simp at h
 | region id ops draw =>
  simp only [Cfg.comp, Option.bind_eq_bind, Option.bind_eq_some_iff] at hc
  obtain ⟨is, _, h⟩ := hc
  split at h
  ·split at h <;> simp at h
  ·simp at h
 | _ => simp [Cfg.comp, Option.bind_eq_some_iff] at hc
end
inductive RV where
 | t (j : Nat)
 | c (j : Nat) (g : Bool) (n : Nat)
def Cfg.rv (C : Cfg) : ResultVar → Option RV
 | .tmp t => if C.gs.contains t then some (.t t) else none
 | .cell t ty => if C.gs.contains t then (match Program.tsz C.P ty with
  | some (g, n) => some (.c t g n)
  | none => none) else none
def resV (env : Env) (mem : Mem) : RV → Option D
 | .t j => look env j
 | .c j g n => match look env j with
  | some x => ldD mem g n x
  | none => none
def j6 (env : Env) (mem : Mem) : List RV → Option (List D)
 | [] => some []
 | r :: rs => match resV env mem r, j6 env mem rs with
  | some d, some ds => some (d :: ds)
  | _, _ => none
mutual
/-- What is handed back: owned blocks are only read from then on. -/
def frz (mem : Mem) : Nat → D → Option D
 | 0, _ => none
 | _ + 1, .top => some .top
 | _ + 1, .zs => some (.sl [])
 | _ + 1, .pl v => match v with
  | .slice none 0 0 => some (.sl [])
  | v => some (.pl v)
 | _ + 1, .sl es => if D.immss es then some (.sl es) else none
 | _ + 1, .pt cs => if D.imms cs then some (.pt cs) else none
 | n + 1, .opt id off => match look mem id with
  | some (.box cs) => match dE mem n (cs.drop off) with
   | some ds => some (.pt ds)
   | none => none
  | _ => none
 | _ + 1, .osl id ver lo m => match look mem id with
  | some (.arr v _ es) => if v = ver ∧ lo + m ≤ es.length ∧ D.immss es = true then some (.sl ((es.drop lo).take m)) else none
  | _ => none
 | _ + 1, .oel _ _ _ _ => none
 | _ + 1, .omap _ => none
 | _ + 1, .fn f cs => if D.imms cs then some (.fn f cs) else none
 | n + 1, .agg cs => match dE mem n cs with
  | some ds => some (.agg ds)
  | none => none
 | n + 1, .tup cs => match dE mem n cs with
  | some ds => some (.tup ds)
  | none => none
def dE (mem : Mem) : Nat → List D → Option (List D)
 | 0, _ => none
 | _ + 1, [] => some []
 | n + 1, d :: ds => match frz mem n d, dE mem n ds with
  | some d, some ds => some (d :: ds)
  | _, _ => none
end
def iN : List D → D
 | [d] => d
 | ds => .tup ds
def fin (rs : List RV) (env : Env) (mem : Mem) : Option D :=
 match j6 env mem rs with
 | some ds => frz mem 100 (iN ds)
 | none => none
def RetQ (rs : List RV) (res : D) : Exit → St → Prop
 | .normal, s => fin rs s.env s.mem = some res
 | .ret, s => fin rs s.env s.mem = some res
 | _, _ => False
def nU (gs : List Nat) (args : List D) : Env := gs.map fun j => (j, (args[j]?).getD (.pl undef))
section
variable {C : Cfg} {w w' : World} {S S' : Nat → Prop} {φ φ' : aW} {a : Act} {env tl : Env} {mem : Mem} {nx id : Nat}
def SF (S : Nat → Prop) (φ : aW) (mem : Mem) (b : Nat) : Prop := S b ∨ Own φ mem b
theorem gJ : Stays w S φ w (SF S φ mem) φ := Stays.of_heap (fun _ h => .inl h) (fun _ _ => rfl) (fun _ _ h => h)
theorem wO {d : D} {x : Value} (hi : D.imm d = true) (h : Rep w S φ d x) : Rep w (SF S φ mem) bS d x :=
 sN d x hi (Rep.mono gJ d x h)
mutual
theorem g_ (hm : MSim S φ mem nx w) : ∀ (n : Nat) (d d' : D) (x : Value), frz mem n d = some d' → Rep w S φ d x → Rep w (SF S φ mem) bS d' x
 | 0, d, d', x, h, _ => by simp [frz] at h
 | n + 1, .top, d', x, h, _ => by simp only [frz, Option.some.injEq] at h; subst h; simp [Rep]
 | n + 1, .zs, d', x, h, hr => by
  simp only [frz, Option.some.injEq] at h; subst h
  simp only [Rep] at hr ⊢
  exact .inl ⟨trivial, hr⟩
 | n + 1, .pl v, d', x, h, hr => by
  simp only [Rep] at hr; subst hr
  simp only [frz] at h
  split at h
  ·simp only [Option.some.injEq] at h; subst h; simp [Rep, Zs]
  ·simp only [Option.some.injEq] at h; subst h; simp [Rep]
 | n + 1, .sl es, d', x, h, hr => by
  simp only [frz, Option.ite_none_right_eq_some, Option.some.injEq] at h
  obtain ⟨hi, rfl⟩ := h
  exact wO (by simpa [D.imm] using hi) hr
 | n + 1, .pt cs, d', x, h, hr => by
  simp only [frz, Option.ite_none_right_eq_some, Option.some.injEq] at h
  obtain ⟨hi, rfl⟩ := h
  exact wO (by simpa [D.imm] using hi) hr
 | n + 1, .opt i off, d', x, h, hr => by
  simp only [frz] at h
  split at h
  ·rename_i cs hl
   split at h
   ·rename_i ds hds
    simp only [Option.some.injEq] at h; subst h
    obtain ⟨l, hφ, _, hb⟩ := hm.mem i _ hl
    simp only [Rep] at hr
    obtain ⟨l', hφ', _, rfl⟩ := hr
    rw [hφ] at hφ'; simp only [Option.some.injEq] at hφ'; subst hφ'
    simp only [BRep] at hb
    obtain ⟨hrl, _, h0, _, hc⟩ := hb
    simp only [Rep]
    refine ⟨l.b, l.base + off, rfl, .inr ⟨i, _, l, hl, hφ, hrl, rfl⟩, ?_⟩
    rw [h0]
    exact rR hm n (cs.drop off) ds l.b (0 + off) hds (eQ off cs l.b 0 hc)
   ·simp at h
  ·simp at h
 | n + 1, .osl i ver lo m, d', x, h, hr => by
  simp only [frz] at h
  split at h
  ·rename_i v k es hl
   simp only [Option.ite_none_right_eq_some, Option.some.injEq] at h
   obtain ⟨⟨hv, hle, hi⟩, rfl⟩ := h
   obtain ⟨l, hφ, _, hb⟩ := hm.mem i _ hl
   simp only [Rep] at hr
   obtain ⟨l', hφ', _, _, hx⟩ := hr
   rw [hφ] at hφ'; simp only [Option.some.injEq] at hφ'; subst hφ'
   simp only [BRep] at hb
   obtain ⟨_, hver, hk, hb⟩ := hb
   have hlen : ((es.drop lo).take m).length = m := by simp; omega
   rcases hx (by omega) with ⟨r1, rfl, rfl, hz⟩ | ⟨r1, cap, rfl, c1, c2⟩ | ⟨r1, rfl, _, oo, c0, rfl⟩
   rotate_right
   ·simp only [List.take_zero, Rep]
    exact .inr ⟨l.b, oo, c0, k, rfl, by simp, .inr ⟨i, _, l, hl, hφ, r1, rfl⟩, trivial⟩
   ·simp only [List.take_zero, Rep]
    exact .inl ⟨trivial, hz⟩
   ·rcases hb with hb | ⟨_, _, _, hes⟩
    ·simp [hb.1] at r1
    ·simp only [Rep]
     right
     refine ⟨l.b, l.base + lo * l.k, cap, k, by rw [hlen], by rw [hlen]; exact c1, .inr ⟨i, _, l, hl, hφ, r1, rfl⟩, ?_⟩
     have himm : D.immss ((es.drop lo).take m) = true := uA hi fun e he => List.mem_of_mem_drop (List.mem_of_mem_take he)
     rw [hk]
     exact oM _ _ _ _ himm (RepEs.mono gJ _ _ _ _ (fun _ => rfl) (iH m _ _ _ _ (iF lo _ _ _ _ hes)))
  ·simp at h
 | n + 1, .oel _ _ _ _, d', x, h, hr => by simp [frz] at h
 | n + 1, .omap _, d', x, h, hr => by simp [frz] at h
 | n + 1, .fn f cs, d', x, h, hr => by
  simp only [frz, Option.ite_none_right_eq_some, Option.some.injEq] at h
  obtain ⟨hi, rfl⟩ := h
  exact wO (by simpa [D.imm] using hi) hr
 | n + 1, .agg cs, d', x, h, hr => by
  simp only [frz] at h
  split at h
  ·rename_i ds hds
   simp only [Option.some.injEq] at h; subst h
   simp only [Rep] at hr ⊢
   obtain ⟨vs, rfl, hv⟩ := hr
   exact ⟨vs, rfl, fF hm n cs ds _ hds hv⟩
  ·simp at h
 | n + 1, .tup cs, d', x, h, hr => by
  simp only [frz] at h
  split at h
  ·rename_i ds hds
   simp only [Option.some.injEq] at h; subst h
   simp only [Rep] at hr ⊢
   obtain ⟨vs, rfl, hv⟩ := hr
   exact ⟨vs, rfl, fF hm n cs ds _ hds hv⟩
  ·simp at h
theorem fF (hm : MSim S φ mem nx w) : ∀ (n : Nat) (ds ds' : List D) (xs : List Value), dE mem n ds = some ds' → RepVs w S φ ds xs → RepVs w (SF S φ mem) bS ds' xs
 | 0, ds, ds', xs, h, _ => by simp [dE] at h
 | n + 1, [], ds', xs, h, hr => by
  simp only [dE, Option.some.injEq] at h; subst h
  simpa [RepVs] using hr
 | n + 1, d :: ds, ds', xs, h, hr => by
  simp only [dE] at h
  split at h
  ·rename_i d1 ds1 h1 h2
   simp only [Option.some.injEq] at h; subst h
   simp only [RepVs] at hr ⊢
   obtain ⟨x, r, rfl, g1, g2⟩ := hr
   exact ⟨x, r, rfl, g_ hm n d d1 x h1 g1, fF hm n ds ds1 r h2 g2⟩
  ·simp at h
theorem rR (hm : MSim S φ mem nx w) : ∀ (n : Nat) (ds ds' : List D) (b o : Nat), dE mem n ds = some ds' → RepCs w S φ ds b o → RepCs w (SF S φ mem) bS ds' b o
 | 0, ds, ds', b, o, h, _ => by simp [dE] at h
 | n + 1, [], ds', b, o, h, hr => by
  simp only [dE, Option.some.injEq] at h; subst h
  simp [RepCs]
 | n + 1, d :: ds, ds', b, o, h, hr => by
  simp only [dE] at h
  split at h
  ·rename_i d1 ds1 h1 h2
   simp only [Option.some.injEq] at h; subst h
   simp only [RepCs] at hr ⊢
   obtain ⟨⟨x, hx, g1⟩, g2⟩ := hr
   exact ⟨⟨x, hx, g_ hm n d d1 x h1 g1⟩, rR hm n ds ds1 b (o + 1) h2 g2⟩
  ·simp at h
theorem uA : ∀ {es : List (List D)} {fs : List (List D)}, D.immss es = true → (∀ e ∈ fs, e ∈ es) → D.immss fs = true
 | es, [], _, _ => rfl
 | es, f :: fs, h, hs => by
  simp only [D.immss, Bool.and_eq_true]
  refine ⟨?_, uA h fun e he => hs e (by simp [he])⟩
  have : ∀ (es : List (List D)), D.immss es = true → ∀ e ∈ es, D.imms e = true := by
   intro es
   induction es with
   | nil => intro _ e he; simp at he
   | cons a es ih =>
    intro h e he
    simp only [D.immss, Bool.and_eq_true] at h
    rcases List.mem_cons.1 he with rfl | he
    ·exact h.1
    ·exact ih h.2 e he
  exact this es h f (hs f (by simp))
end
def qT (a : Act) : ResultVar → Sem Value
 | .tmp t => Pure.pure (a.tmps.getD t undef)
 | .cell t ty => do loadVar ty (← asAddr (a.tmps.getD t undef))
theorem zV {r : ResultVar} {x : RV} {d : D} (hr : C.rv r = some x) (h : resV env mem x = some d) (hk : dH C w S φ env tl a) (hm : MSim S φ mem nx w) :
  ∃ v, Rep w S φ d v ∧ (qT a r).run C.P w = .ok v w := by
 cases r with
 | tmp t =>
  simp only [Cfg.rv, Option.ite_none_right_eq_some, Option.some.injEq] at hr
  obtain ⟨ht, rfl⟩ := hr
  exact ⟨_, hk.env t d (by simpa using ht) h, rfl⟩
 | cell t ty =>
  simp only [Cfg.rv, Option.ite_none_right_eq_some] at hr
  obtain ⟨ht, hr⟩ := hr
  split at hr
  ·rename_i g n htz
   simp only [Option.some.injEq] at hr; subst hr
   simp only [resV] at h
   split at h
   ·rename_i y hy
    have hrep := hk.env t y (by simpa using ht) hy
    obtain ⟨v, hv, hrun⟩ := wS htz h hm hrep
    refine ⟨v, hv, ?_⟩
    obtain ⟨cs, hc⟩ : ∃ cs, rdc mem n y = some cs := by
     unfold ldD at h
     split at h
     ·exact ⟨_, by assumption⟩
     ·simp at h
    obtain ⟨_, b, o, hp, _⟩ := t7 hc hm hrep
    simp only [qT]
    rw [hp] at hrun ⊢
    simpa [Instr.loadAt, Instr.sureAddr, asAddr] using hrun
   ·simp at h
  ·simp at hr
theorem rQ (hk : dH C w S φ env tl a) (hm : MSim S φ mem nx w) : ∀ (rs : List ResultVar) (xs : List RV) (ds : List D), rs.mapM C.rv = some xs → j6 env mem xs = some ds →
  ∃ vs : List Value, RepVs w S φ ds vs ∧ (rs.mapM (qT a)).run C.P w = .ok vs w
 | [], xs, ds, h1, h2 => by
  simp only [List.mapM_nil, Option.pure_def, Option.some.injEq] at h1; subst h1
  simp only [j6, Option.some.injEq] at h2; subst h2
  exact ⟨[], by simp [RepVs], rfl⟩
 | r :: rs, xs, ds, h1, h2 => by
  simp only [List.mapM_cons, Option.bind_eq_bind, Option.bind_eq_some_iff, Option.pure_def, Option.some.injEq] at h1
  obtain ⟨x, hx, xs', hxs, rfl⟩ := h1
  simp only [j6] at h2
  split at h2
  ·rename_i d ds' hd hds
   simp only [Option.some.injEq] at h2; subst h2
   obtain ⟨v, hv, hrun⟩ := zV hx hd hk hm
   obtain ⟨vs, hvs, hrun2⟩ := rQ hk hm rs xs' ds' hxs hds
   refine ⟨v :: vs, by simp only [RepVs]; exact ⟨v, vs, rfl, hv, hvs⟩, ?_⟩
   rw [List.mapM_cons, Sem.run_bind]
   rw [hrun]
   simp only [Result.andThen_ok, Sem.run_bind, hrun2, Sem.run_pure]
  ·simp at h2
theorem pK {fn : Func} {xs : List RV} {ds : List D} (hk : dH C w S φ env tl a) (hm : MSim S φ mem nx w) (h1 : fn.results.toList.mapM C.rv = some xs) (h2 : j6 env mem xs = some ds) :
  ∃ v, Rep w S φ (iN ds) v ∧ (results fn a.tmps).run C.P w = .ok v w := by
 obtain ⟨vs, hv, hrun⟩ := rQ hk hm _ _ _ h1 h2
 have hres : results fn a.tmps = (do let vs ← fn.results.mapM (qT a); pure (if h : vs.size = 1 then vs[0] else .tuple vs)) := by
  unfold results
  congr 2
 rw [hres, Sem.run_bind, Array.mapM_eq_mapM_toList, Sem.run_map]
 refine ⟨if h : vs.toArray.size = 1 then vs.toArray[0] else .tuple vs.toArray, ?_, ?_⟩
 ·cases ds with
  | nil =>
   simp only [RepVs] at hv; subst hv
   simp [iN, Rep, RepVs]
  | cons d ds =>
   cases ds with
   | nil =>
    simp only [RepVs] at hv
    obtain ⟨x, r, rfl, h1, rfl⟩ := hv
    simpa [iN] using h1
   | cons d2 ds =>
    have hl := bV _ _ hv
    have : ¬ vs.toArray.size = 1 := by simp at hl ⊢; omega
    rw [dif_neg this]
    simp only [iN, Rep]
    exact ⟨vs.toArray, rfl, by simpa using hv⟩
 ·rw [hrun]
  simp only [Result.andThen_ok, Sem.run_pure]
theorem oO (args : List D) : ∀ (gs : List Nat) (j : Nat) (d : D), look (nU gs args) j = some d → d = (args[j]?).getD (.pl undef)
 | [], j, d, h => by simp [nU, look] at h
 | g :: gs, j, d, h => by
  simp only [nU, List.map_cons, look] at h
  by_cases e : g = j
  ·subst e; simp only [if_true, Option.some.injEq] at h; exact h.symm
  ·simp only [e, if_false] at h
   exact oO args gs j d h
structure Shut (B : Nat) (S : Nat → Prop) (w w' : World) : Prop where
 size : w'.heap.size = w.heap.size
 same : ∀ b, (b < B ∨ S b ∨ ∀ x, w.heap[b]? ≠ some (.deferred x)) → w'.heap[b]? = w.heap[b]?
 os : w'.os = w.os
 output : w'.output = w.output
 tape : w'.tape = w.tape
theorem Shut.refl {B : Nat} {S : Nat → Prop} {w : World} : Shut B S w w := ⟨rfl, fun _ _ => rfl, rfl, rfl, rfl⟩
theorem EW {P : Program} {r : Nat} {w : World} (h : w.heap[r]? = some (.deferred (some []))) : (Instr.takeDeferred r).run P w = .ok [] (w.putObj r (.deferred none)) := by
 exact run_takeDeferred h
theorem k_ {P : Program} {fn : Func} {tmps : Array Value} {R : Ending → World → Prop} {B : Nat} {S : Nat → Prop} : ∀ (ds : List Deferred) (w : World), Dfr P ⟨none, B⟩ S w ds → (∀ w', Shut B S w w' → ∃ v, (results fn tmps).run P w' = .ok v w' ∧ R (.returned v) w') → LeavesInM Fence.wide 0 P fn tmps R ds .returning w
 | [], w, _, h => h w Shut.refl
 | d :: ds, w, hd, h => by
  refine ⟨by simp, .inl ?_⟩
  obtain ⟨D, h1, h2, h3, h4⟩ := hd.marks d (by simp)
  have hlt : D < w.heap.size := (Array.getElem?_eq_some_iff.1 h3).1
  refine ⟨D, _, h2, EW h3, ?_⟩
  have hn := hd.1
  simp only [List.map_cons, List.nodup_cons] at hn
  have hsh : ∀ w', Shut B S (w.putObj D (.deferred none)) w' → Shut B S w w' := fun w' k => ⟨k.size.trans (by simp), fun b hb => by
    have hbD : b ≠ D := by
     rintro rfl
     rcases hb with g | g | g
     ·exact absurd h1 (Nat.not_le_of_lt g)
     ·exact h4 g
     ·exact g _ h3
    have hsame : (w.putObj D (.deferred none)).heap[b]? = w.heap[b]? := World.putObj_heap_other hbD
    refine (k.same b ?_).trans hsame
    rcases hb with g | g | g
    ·exact .inl g
    ·exact .inr (.inl g)
    ·exact .inr (.inr fun x => by rw [hsame]; exact g x), k.os, k.output, k.tape⟩
  refine k_ ds _ ⟨hn.2, fun e he => ?_, fun l h => by simp at h, hd.tb.same fun b hb => World.putObj_heap_other (by rintro rfl; exact h4 hb)⟩ (fun w' k => h w' (hsh w' k))
  obtain ⟨E, k1, k2, k3, k4⟩ := hd.marks e (by simp [he])
  refine ⟨E, k1, k2, (World.putObj_heap_other ?_).trans k3, k4⟩
  rintro rfl
  exact hn.1 (List.mem_map.2 ⟨e, he, by rw [k2, h2]⟩)
structure SimE (C : Cfg) (S : Nat → Prop) (φ : aW) (s : St) (a : Act) (w : World) : Prop where
 env : ∀ j d, j ∈ C.gs → look s.env j = some d → Rep w S φ d (a.tmps.getD j undef)
 tl : ∀ j d, j ∉ C.gs → look s.tl j = some d → Rep w S φ d (a.tmps.getD j undef)
 m : MSim S φ s.mem s.nx w
theorem u4 {S0 S : Nat → Prop} {φ0 φ : aW} {mem0 : Mem} {w0 w w' : World} {s : St} {a : Act} (hs : Sim C ⟨none, w0.heap.size⟩ S φ s a w) (hx : Ext S0 φ0 mem0 w0 S φ s.mem w) (h : Shut w0.heap.size S w w') : SimE C S φ s a w' ∧ Ext S0 φ0 mem0 w0 S φ s.mem w' := by
 have hS : ∀ b, S b → w'.heap[b]? = w.heap[b]? := fun b hb => h.same b (.inr (.inl hb))
 have hst : Stays w S φ w' S φ := Stays.of_heap (fun _ h => h) hS (fun _ _ h => h)
 have hown : ∀ i blk l, look s.mem i = some blk → φ i = some l → l.real = true → w'.heap[l.b]? = w.heap[l.b]? := fun i blk l h1 h2 h3 => by
  refine h.same _ (.inr (.inr fun x hx => sR hs.m hx ⟨i, blk, l, h1, h2, h3, rfl⟩))
 refine ⟨⟨fun j d hj hl => Rep.mono hst _ _ (hs.env j d hj hl), fun j d hj hl => Rep.mono hst _ _ (hs.tl j d hj hl), ⟨fun i blk hi => ?_, hs.m.inj, fun i l h1 h2 => by rw [h.size]; exact hs.m.lt i l h1 h2, hs.m.fresh, fun b hb => by rw [h.size]; exact hs.m.sub b hb⟩⟩,
  ⟨hx.sub, fun b hb ho => (h.same b (.inl hb)).trans (hx.keep b hb ho), by rw [h.size]; exact hx.size, hx.own, hx.news, h.os.trans hx.os, h.output.trans hx.output, h.tape.trans hx.tape⟩⟩
 obtain ⟨l, g1, g2, g3⟩ := hs.m.mem i blk hi
 exact ⟨l, g1, g2, g3.mono hst fun hr => hown i blk l hi g1 hr⟩
theorem F8 {f : FuncId} {fn : Func} {c : Code} {ac : AC} {rs : List RV} {args : List D} {res : D} (hf : C.P.funcs[f]? = some fn) (hname : (fn.name == "runtime.NumGoroutine") = false) (hb : fn.body = some c) (hn : fn.ntmps = C.n) (hl : args.length ≤ C.n)
  (hrs : fn.results.toList.mapM C.rv = some rs) (hc : C.comp c = some ac) (hA : A C ac (dG C (RetQ rs res) []) (nU C.gs args) [] 0) : Pure C.P f args res := by
 refine ⟨⟨fn, hf, hname, by rw [hb]; rfl⟩, fun S w xs hS htb hx => ?_⟩
 have hlen := bV _ _ hx
 have hT := sG hc hA ⟨none, w.heap.size⟩ 0 S bS { tmps := xs.toArray ++ Array.replicate (fn.ntmps - xs.toArray.size) undef, defers := [] } w (Nat.le_refl _) (Nat.le_refl _) ⟨by simp; omega, Dfr.nil htb, fun j d _ hd => by
   have := oO args _ _ _ hd
   subst this
   cases ha : args[j]? with
   | none =>
    have hj : args.length ≤ j := List.getElem?_eq_none_iff.1 ha
    simp only [Option.getD_none, Rep]
    rw [Array.getD_eq_getD_getElem?, Array.getElem?_append_right (by simp; omega)]
    simp only [Array.getElem?_replicate]
    split <;> rfl
   | some d =>
    obtain ⟨x, hx1, hr⟩ := jT _ _ _ _ hx ha
    have hj : j < xs.length := (List.getElem?_eq_some_iff.1 hx1).1
    simp only [Option.getD_some]
    rw [Array.getD_eq_getD_getElem?, Array.getElem?_append_left (by simpa using hj)]
    simpa [hx1] using hr, fun j d _ h => by simp [look] at h, ⟨fun i blk h => by simp [look] at h, fun i j l m h => by simp [bS] at h, fun i l h => by simp [bS] at h, fun _ _ => rfl, hS⟩⟩
 refine (callsIn_wide (n := 0)).1 (callsIn_of_wp_marks hf hb trivial (wpIn_mono hT ?_))
 rintro e a' w' ⟨s', S', φ', hq, hs, hext, _⟩
 have fin_ok : fin rs s'.env s'.mem = some res → bodyPostM Fence.wide 0 C.P fn (fun e w' => ∃ v S', e = .returned v ∧ Rep w' S' bS res v ∧ Ext S bS [] w S' bS [] w' ∧ ∀ b, S' b → b < w'.heap.size) .ret a' w' := by
  intro hfin
  refine k_ a'.defers w' hs.defers (fun w2 hsh => ?_)
  obtain ⟨hs, hext⟩ := u4 hs hext hsh
  generalize w2 = w' at *
  unfold fin at hfin
  split at hfin
  ·rename_i ds hds
   obtain ⟨v, hv, hrun⟩ := pK ⟨hs.env, hs.tl⟩ hs.m hrs hds
   refine ⟨v, hrun, v, SF S' φ' s'.mem, rfl, g_ hs.m 100 _ _ _ hfin hv, ⟨fun b h => .inl (hext.sub b h), hext.keep, hext.size, fun b _ h => h, ?_, hext.os, hext.output, hext.tape⟩, ?_⟩
   ·rintro b (h | h)
    ·exact hext.news b h
    ·by_cases hlt : b < w.heap.size
     ·exact .inr (.inr (hext.own b hlt h))
     ·exact .inr (.inl (by omega))
   ·rintro b (h | ⟨i, blk, l, _, h2, h3, rfl⟩)
    ·exact hs.m.sub b h
    ·exact hs.m.lt i l h2 h3
  ·simp at hfin
 cases e with
 | normal => exact fin_ok hq
 | ret => exact fin_ok hq
 | exit id => exact hq.elim
 | goto l => exact hq.elim
 | panic ch => exact hq.elim
 | outgrown => exact hq.elim
def bR (mem mem' : Mem) : Prop := ∀ id b, look mem' id = some b → look mem id = some b
def RetC (rs : List RV) (K : KD) : Exit → St → Prop
 | .normal, s => ∃ ds, j6 s.env s.mem rs = some ds ∧ ∃ mem', bR s.mem mem' ∧ K (iN ds) mem' s.nx
 | .ret, s => ∃ ds, j6 s.env s.mem rs = some ds ∧ ∃ mem', bR s.mem mem' ∧ K (iN ds) mem' s.nx
 | _, _ => False
theorem EU {f : FuncId} {fn : Func} {c : Code} {ac : AC} {rs : List RV} {args : List D} {K : KD} (hf : C.P.funcs[f]? = some fn) (hname : (fn.name == "runtime.NumGoroutine") = false) (hb : fn.body = some c) (hn : fn.ntmps = C.n) (hl : args.length ≤ C.n)
  (hrs : fn.results.toList.mapM C.rv = some rs) (hc : C.comp c = some ac) (hA : (∀ i, nx ≤ i → look mem i = none) → A C ac (dG C (RetC rs K) []) (nU C.gs args) mem nx) : bH C.P f args mem nx K := by
 refine ⟨⟨fn, hf, hname, by rw [hb]; rfl⟩, fun S φ w xs hm htb hx => ?_⟩
 have hA := hA fun i hi => by
  cases hl : look mem i with
  | none => rfl
  | some b =>
   obtain ⟨l, h1, _⟩ := hm.mem i b hl
   rw [hm.fresh i hi] at h1; simp at h1
 have hlen := bV _ _ hx
 have hT := sG hc hA ⟨none, w.heap.size⟩ nx S φ { tmps := xs.toArray ++ Array.replicate (fn.ntmps - xs.toArray.size) undef, defers := [] } w (Nat.le_refl _) (Nat.le_refl _) ⟨by simp; omega, Dfr.nil htb, fun j d _ hd => by
   have := oO args _ _ _ hd
   subst this
   cases ha : args[j]? with
   | none =>
    have hj : args.length ≤ j := List.getElem?_eq_none_iff.1 ha
    simp only [Option.getD_none, Rep]
    rw [Array.getD_eq_getD_getElem?, Array.getElem?_append_right (by simp; omega)]
    simp only [Array.getElem?_replicate]
    split <;> rfl
   | some d =>
    obtain ⟨x, hx1, hr⟩ := jT _ _ _ _ hx ha
    have hj : j < xs.length := (List.getElem?_eq_some_iff.1 hx1).1
    simp only [Option.getD_some]
    rw [Array.getD_eq_getD_getElem?, Array.getElem?_append_left (by simpa using hj)]
    simpa [hx1] using hr, fun j d _ h => by simp [look] at h, hm⟩
 refine (callsIn_wide (n := 0)).1 (callsIn_of_wp_marks hf hb trivial (wpIn_mono hT ?_))
 rintro e a' w' ⟨s', S', φ', hq, hs, hext, hgr⟩
 have ret_ok : (∃ ds, j6 s'.env s'.mem rs = some ds ∧ ∃ mem', bR s'.mem mem' ∧ K (iN ds) mem' s'.nx) → bodyPostM Fence.wide 0 C.P fn (fun e w' => ∃ v d mem' nx' S' φ', e = .returned v ∧ K d mem' nx' ∧ nx ≤ nx' ∧ MSim S' φ' mem' nx' w' ∧ Rep w' S' φ' d v ∧ Stays w S φ w' S' φ' ∧ Ext S φ mem w S' φ' mem' w' ∧ ∀ i, i < nx → φ i = none → φ' i = none) .ret a' w' := by
  rintro ⟨ds, hds, mem', hsub, hK⟩
  refine k_ a'.defers w' hs.defers (fun w2 hsh => ?_)
  obtain ⟨hs, hext⟩ := u4 hs hext hsh
  generalize w2 = w' at *
  obtain ⟨v, hv, hrun⟩ := pK ⟨hs.env, hs.tl⟩ hs.m hrs hds
  refine ⟨v, hrun, v, _, mem', s'.nx, S', φ', rfl, hK, hgr.le, ⟨fun i b hi => hs.m.mem i b (hsub i b hi), hs.m.inj, hs.m.lt, hs.m.fresh, hs.m.sub⟩, hv, ⟨hext.sub, ?_, hgr.loc⟩,
   ⟨hext.sub, hext.keep, hext.size, fun b hb ⟨i, blk, l, h1, h2, h3, h4⟩ => hext.own b hb ⟨i, blk, l, hsub i blk h1, h2, h3, h4⟩, hext.news, hext.os, hext.output, hext.tape⟩, hgr.low⟩
  intro b hb o
  have := hext.keep b (hm.sub b hb) (by
   rintro ⟨i, blk, l, h1, h2, h3, rfl⟩
   obtain ⟨l', g1, g2, _⟩ := hm.mem i blk h1
   rw [h2] at g1; simp only [Option.some.injEq] at g1; subst g1
   exact g2 h3 hb)
  unfold World.cell?
  simp only [this]
 cases e with
 | normal => exact ret_ok hq
 | ret => exact ret_ok hq
 | exit id => exact hq.elim
 | goto l => exact hq.elim
 | panic ch => exact hq.elim
 | outgrown => exact hq.elim
end
attribute [simp] A_seq F4 A_skip A_ret A_exit A_reg A_ifr A_cond wP D5 vR uR AE sO r7 ifK_at GA EL HF G8 HB EF C7 a7 DM ro_t ro_g ro_c ro_f setT_t setE_t HN k0_if FP GD GP HC km_if
attribute [simp 1100] EJ gd_yes gd_tf gd_ft DG BM
attribute [simp 900] gd_any F_
section
variable {C : Cfg} {id : Nat} {env tl : Env} {mem : Mem} {nx : Nat} {K : KD} {P : Program}
@[simp] theorem sI_mv {x : Opd} : aS C id (.mv x) env tl mem nx K = k0 (ro tl env x) mem nx K := (rfl)
@[simp] theorem sI_pick {c a b : Opd} : aS C id (.pick c a b) env tl mem nx K = k1 (ro tl env c) (kC (ro tl env a) (ro tl env b)) mem nx K := (rfl)
@[simp] theorem sI_bld {z : List Value} {ps : List (Nat × Nat × Opd)} : aS C id (.bld z ps) env tl mem nx K = kl (rps tl env ps) (pJ z) mem nx K := (rfl)
@[simp] theorem sI_bsl {k len : Nat} {z : List Value} {ps : List (Nat × Nat × Opd)} : aS C id (.bsl k len z ps) env tl mem nx K = kl (rps tl env ps) (qM k len z) mem nx K := (rfl)
@[simp] theorem sI_z0 : aS C id .z0 env tl mem nx K = K .zs mem nx := (rfl)
@[simp] theorem sI_ld {g : Bool} {n : Nat} {x : Opd} : aS C id (.ld g n x) env tl mem nx K = k1 (ro tl env x) (ldD mem g n) mem nx K := (rfl)
@[simp] theorem sI_chk {x : Opd} : aS C id (.chk x) env tl mem nx K = k1 (ro tl env x) qA mem nx K := (rfl)
@[simp] theorem sI_bin {op : BinOp} {ty : TypeId} {x y : Opd} : aS C id (.bin op ty x y) env tl mem nx K = k2 (ro tl env x) (ro tl env y) (bG C.P op ty) mem nx K := (rfl)
@[simp] theorem sI_un {op : UnOp} {x : Opd} : aS C id (.un op x) env tl mem nx K = k1 (ro tl env x) (unD C.P op) mem nx K := (rfl)
@[simp] theorem sI_cv {s d : TypeId} {x : Opd} : aS C id (.cv s d x) env tl mem nx K = k1 (ro tl env x) (cvD C.P s d) mem nx K := (rfl)
@[simp] theorem sI_ldp {g : Bool} {n : Nat} {x : Opd} : aS C id (.ldp g n x) env tl mem nx K = k1 (ro tl env x) (ldpD g n) mem nx K := (rfl)
@[simp] theorem sI_fap {off : Nat} {x : Opd} : aS C id (.fap off x) env tl mem nx K = k1 (ro tl env x) (fapD off) mem nx K := (rfl)
@[simp] theorem ldp_eq {g : Bool} {n : Nat} {cs : List D} : ldpD g n (.pt cs) = ldD [] g n (.pt cs) := (rfl)
@[simp] theorem fap_eq {off : Nat} {cs : List D} : fapD off (.pt cs) = faD [] off (.pt cs) := (rfl)
@[simp] theorem sI_fa {off : Nat} {x : Opd} : aS C id (.fa off x) env tl mem nx K = k1 (ro tl env x) (faD mem off) mem nx K := (rfl)
@[simp] theorem sI_fld {g : Bool} {n off : Nat} {x : Opd} : aS C id (.fld g n off x) env tl mem nx K = k1 (ro tl env x) (fldD g n off) mem nx K := (rfl)
@[simp] theorem sI_ia {k : Nat} {x i : Opd} : aS C id (.ia k x i) env tl mem nx K = k2 (ro tl env x) (ro tl env i) (iaD mem k) mem nx K := (rfl)
@[simp] theorem sI_ext {i : Nat} {x : Opd} : aS C id (.ext i x) env tl mem nx K = k1 (ro tl env x) (extD i) mem nx K := (rfl)
@[simp] theorem sI_len {s : Bool} {x : Opd} : aS C id (.len s x) env tl mem nx K = k1 (ro tl env x) (gE mem s) mem nx K := (rfl)
@[simp] theorem sI_bi {b : Builtin} {xs : List Opd} : aS C id (.bi b xs) env tl mem nx K = kl (ros tl env xs) (biD C.P b) mem nx K := (rfl)
@[simp] theorem sI_sls {s : Bool} {k : Nat} {x : Opd} {lo hi : Option Opd} : aS C id (.sls s k x lo hi) env tl mem nx K = k0 (slsO mem s k (ro tl env x) (roo tl env lo) (roo tl env hi)) mem nx K := (rfl)
@[simp] theorem sI_mkf {f : FuncId} {cs : List Opd} : aS C id (.mkf f cs) env tl mem nx K = kl (ros tl env cs) (mkfD f) mem nx K := (rfl)
@[simp] theorem sI_bxi {x : Opd} : aS C id (.bxi x) env tl mem nx K = k1 (ro tl env x) bxiD mem nx K := (rfl)
@[simp] theorem sI_mki {k bytes : Nat} {z : List Value} {n : Opd} : aS C id (.mki k bytes z n) env tl mem nx K = k1 (ro tl env n) (mkiD bytes z) mem nx K := (rfl)
@[simp] theorem sI_pc {f : Opd} {xs : List Opd} : aS C id (.pc f xs) env tl mem nx K = pcK C.P (ro tl env f) (ros tl env xs) mem nx K := (rfl)
@[simp] theorem sI_al {z : List Value} : aS C id (.al z) env tl mem nx K = K (.opt id 0) ((id, .box (z.map .pl)) :: mem) nx := (rfl)
@[simp] theorem sI_bx {x : Opd} : aS C id (.bx x) env tl mem nx K = km (bxM id mem (ro tl env x)) nx K := (rfl)
@[simp] theorem sI_bso {k len : Nat} {z : List Value} {ps : List (Nat × Nat × Opd)} : aS C id (.bso k len z ps) env tl mem nx K = km (oZ id mem k len z (rps tl env ps)) nx K := (rfl)
@[simp] theorem sI_mks {k bytes : Nat} {z : List Value} {n : Opd} : aS C id (.mks k bytes z n) env tl mem nx K = km (mksM id mem k bytes z (ro tl env n)) nx K := (rfl)
@[simp] theorem sI_apn {k bytes : Nat} {z : List Value} {x y : Opd} : aS C id (.apn k bytes z x y) env tl mem nx K = km (gB id mem k bytes (ro tl env x) (ro tl env y)) nx K := (rfl)
@[simp] theorem sI_st {n : Nat} {x y : Opd} : aS C id (.st n x y) env tl mem nx K = km (stM mem n (ro tl env x) (ro tl env y)) nx K := (rfl)
@[simp] theorem sI_sta {n : Nat} {x y : Opd} {ps : List Opd} : aS C id (.sta n x y ps) env tl mem nx K = km (mT mem n (ro tl env x) (ro tl env y) (ros tl env ps)) nx K := (rfl)
@[simp] theorem sI_app {k bytes : Nat} {z : List Value} {x y : Opd} : aS C id (.app k bytes z x y) env tl mem nx K = km (lX id mem k bytes (ro tl env x) (ro tl env y)) nx K := (rfl)
@[simp] theorem sI_iaa {len k : Nat} {x i : Opd} : aS C id (.iaa len k x i) env tl mem nx K = k2 (ro tl env x) (ro tl env i) (mW mem len k) mem nx K := (rfl)
@[simp] theorem sI_ixs {x i : Opd} : aS C id (.ixs x i) env tl mem nx K = k2 (ro tl env x) (ro tl env i) ixsD mem nx K := (rfl)
@[simp] theorem sI_lk {kd : Option IntKind} {z : Value} {two : Bool} {m k : Opd} : aS C id (.lk kd z two m k) env tl mem nx K = k2 (ro tl env m) (ro tl env k) (lkD mem kd z two) mem nx K := (rfl)
@[simp] theorem sI_lnm {x : Opd} : aS C id (.lnm x) env tl mem nx K = k1 (ro tl env x) (qK mem) mem nx K := (rfl)
@[simp] theorem sI_mkm : aS C id .mkm env tl mem nx K = K (.omap id) ((id, .map []) :: mem) nx := (rfl)
@[simp] theorem sI_cvo {x : Opd} : aS C id (.cvo x) env tl mem nx K = km (nT mem (ro tl env x)) nx K := (rfl)
@[simp] theorem sI_mup {kd : Option IntKind} {m k v : Opd} : aS C id (.mup kd m k v) env tl mem nx K = km (kR mem kd (ro tl env m) (ro tl env k) (ro tl env v)) nx K := (rfl)
@[simp] theorem sI_cln {f : Opd} {xs : List Opd} : aS C id (.cln f xs) env tl mem nx K = clK C.P (ro tl env f) (ros tl env xs) mem nx (fun d m n => kN mem m ∧ K d m n) := (rfl)
@[simp] theorem sI_cl {f : Opd} {xs : List Opd} : aS C id (.cl f xs) env tl mem nx K = clK C.P (ro tl env f) (ros tl env xs) mem nx K := (rfl)
@[simp] theorem bin_add {ty : TypeId} {k : IntKind} {a b : Int} : bG P .add ty (.pl (.int k a)) (.pl (.int k b)) = some (.pl (.int k (k.wrap (a + b)))) := by simp [bG, lit, binOp, Op.intArith, Sem.look, Pure.pure]
@[simp] theorem bin_sub {ty : TypeId} {k : IntKind} {a b : Int} : bG P .sub ty (.pl (.int k a)) (.pl (.int k b)) = some (.pl (.int k (k.wrap (a - b)))) := by simp [bG, lit, binOp, Op.intArith, Sem.look, Pure.pure]
@[simp] theorem bin_mul {ty : TypeId} {k : IntKind} {a b : Int} : bG P .mul ty (.pl (.int k a)) (.pl (.int k b)) = some (.pl (.int k (k.wrap (a * b)))) := by simp [bG, lit, binOp, Op.intArith, Sem.look, Pure.pure]
theorem rJ {α : Type} {m : String} : Sem.look P (runtimePanic (α := α) (.error m)) = none := by simp [runtimePanic, program, Sem.look, Bind.bind, Sem.bind, goPanic]
@[simp] theorem bin_quo {ty : TypeId} {k : IntKind} {a b : Int} : bG P .quo ty (.pl (.int k a)) (.pl (.int k b)) = if b ≠ 0 then some (.pl (.int k (k.wrap (a.tdiv b)))) else none := by
 by_cases h : b = 0
 ·simp [bG, lit, binOp, Op.intDiv, h, rJ]
 ·simp [bG, lit, binOp, Op.intDiv, h, Sem.look, Pure.pure]
@[simp] theorem bin_rem {ty : TypeId} {k : IntKind} {a b : Int} : bG P .rem ty (.pl (.int k a)) (.pl (.int k b)) = if b ≠ 0 then some (.pl (.int k (a.tmod b))) else none := by
 by_cases h : b = 0
 ·simp [bG, lit, binOp, Op.intDiv, h, rJ]
 ·simp [bG, lit, binOp, Op.intDiv, h, Sem.look, Pure.pure]
@[simp] theorem bin_eql {ty : TypeId} {k : IntKind} {a b : Int} : bG P .eql ty (.pl (.int k a)) (.pl (.int k b)) = some (.pl (.bool (decide (a = b)))) := by simp [bG, lit, binOp, Op.intCmp, Sem.look, Pure.pure]; rfl
@[simp] theorem bin_neq {ty : TypeId} {k : IntKind} {a b : Int} : bG P .neq ty (.pl (.int k a)) (.pl (.int k b)) = some (.pl (.bool (!decide (a = b)))) := by simp [bG, lit, binOp, Op.intCmp, Sem.look, Pure.pure]; rfl
@[simp] theorem bin_lss {ty : TypeId} {k : IntKind} {a b : Int} : bG P .lss ty (.pl (.int k a)) (.pl (.int k b)) = some (.pl (.bool (decide (a < b)))) := by simp [bG, lit, binOp, Op.intCmp, Sem.look, Pure.pure]
@[simp] theorem bin_leq {ty : TypeId} {k : IntKind} {a b : Int} : bG P .leq ty (.pl (.int k a)) (.pl (.int k b)) = some (.pl (.bool (decide (a ≤ b)))) := by simp [bG, lit, binOp, Op.intCmp, Sem.look, Pure.pure]
@[simp] theorem bin_gtr {ty : TypeId} {k : IntKind} {a b : Int} : bG P .gtr ty (.pl (.int k a)) (.pl (.int k b)) = some (.pl (.bool (decide (b < a)))) := by simp [bG, lit, binOp, Op.intCmp, Sem.look, Pure.pure]
@[simp] theorem bin_geq {ty : TypeId} {k : IntKind} {a b : Int} : bG P .geq ty (.pl (.int k a)) (.pl (.int k b)) = some (.pl (.bool (decide (b ≤ a)))) := by simp [bG, lit, binOp, Op.intCmp, Sem.look, Pure.pure]
theorem cA {α β : Type} (k : α → Sem β) : ∀ (m : Sem α), Sem.look P (m >>= k) = (Sem.look P m).bind fun x => Sem.look P (k x) := by
 intro m
 show Sem.look P (Sem.bind m k) = _
 induction m with
 | pure a => rfl
 | program f ih => exact ih P
 | _ => first | rfl | simp [Sem.bind, Sem.look]
theorem BV (a b : ByteArray) : (a == b) = decide (a = b) := by
 rw [Bool.eq_iff_iff, decide_eq_true_eq]
 cases a with | mk x => cases b with | mk y =>
 show (x == y) = true ↔ _
 rw [beq_iff_eq]
 exact ⟨fun h => by rw [h], fun h => by injection h⟩
theorem v6 (a b : ByteArray) : (a.toList == b.toList) = decide (a = b) := by
 rw [Bool.eq_iff_iff, decide_eq_true_eq, beq_iff_eq, Go.ByteArray.toList_eq, Go.ByteArray.toList_eq]
 refine ⟨fun h => ?_, fun h => by rw [h]⟩
 cases a with | mk x => cases b with | mk y =>
 simp only [ByteArray.mk.injEq]
 exact Array.ext' h
theorem pO {ty : TypeId} {a b : ByteArray} (h : P.underlying ty = some .string) : Sem.look P (Op.equal ty (.string a) (.string b)) = some (decide (a = b)) := by
 rw [← BV]
 show Sem.look P (Op.equalIn (9999 + 1) ty (.string a) (.string b)) = _
 unfold Op.equalIn
 simp [Sem.look, underlying, program, h, Pure.pure, Bind.bind, Sem.bind]
theorem kO {ty : TypeId} {a b : ByteArray} (h : P.underlying ty = some .string) : bG P .eql ty (.pl (.string a)) (.pl (.string b)) = some (.pl (.bool (decide (a = b)))) := by
 have : Sem.look P (binOp .eql ty (.string a) (.string b)) = some (.bool (decide (a = b))) := by
  first
  | (simp only [binOp, cA, pO h, Option.bind_some]; rfl)
  | (simp [binOp, Op.stringOp, Sem.look, Pure.pure, v6])
 simp only [bG, lit, Bool.and_self, if_true, this, Option.map_some]
theorem mQ {ty : TypeId} {a b : ByteArray} (h : P.underlying ty = some .string) : bG P .neq ty (.pl (.string a)) (.pl (.string b)) = some (.pl (.bool (!decide (a = b)))) := by
 have : Sem.look P (binOp .neq ty (.string a) (.string b)) = some (.bool (!decide (a = b))) := by
  first
  | (simp only [binOp, cA, pO h, Option.bind_some]; rfl)
  | (simp [binOp, Op.stringOp, Sem.look, Pure.pure, v6, bne])
 simp only [bG, lit, Bool.and_self, if_true, this, Option.map_some]
@[simp] theorem un_not {b : Bool} : unD P .not (.pl (.bool b)) = some (.pl (.bool (!b))) := by simp [unD, lit, Op.unary, Sem.look, Pure.pure]
@[simp] theorem un_neg {k : IntKind} {n : Int} : unD P .neg (.pl (.int k n)) = some (.pl (.int k (k.wrap (0 - n)))) := by simp [unD, lit, Op.unary, Op.intArith, Sem.look, Pure.pure]
@[simp] theorem bi_max {k : IntKind} {a b : Int} : biD P .max [.pl (.int k a), .pl (.int k b)] = some (.pl (.int k (max a b))) := by
 have : (if a < b then b else a) = max a b := by rw [Int.max_def]; split <;> split <;> omega
 simp [biD, D.vals, D.val, lit, Builtin.max_, Builtin.max2, Sem.look, Pure.pure, this, Bind.bind, Sem.bind]
@[simp] theorem bi_min {k : IntKind} {a b : Int} : biD P .min [.pl (.int k a), .pl (.int k b)] = some (.pl (.int k (min a b))) := by
 have : (if b < a then b else a) = min a b := by rw [Int.min_def]; split <;> split <;> omega
 simp [biD, D.vals, D.val, lit, Builtin.min_, Builtin.min2, Sem.look, Pure.pure, this, Bind.bind, Sem.bind]
@[simp] theorem pick_t {a b : Option D} : kC a b (.pl (.bool true)) = a := (rfl)
@[simp] theorem pick_f {a b : Option D} : kC a b (.pl (.bool false)) = b := (rfl)
attribute [simp] mW zD kOk mT jP D.hd mkv faD D.cells D.cell D.solid bxiD gE fldD extD qA ros rps roo slsO mkfD pJ gP place qM bslD eX bxM oZ mksM mkiD gB lX nT D.roomless els cur j5 HM bound D.imm D.imms D.immss j6 resV fin iN frz dE RetQ nU D.vals D.val
section
variable {n off i id ver lo : Nat} {cs new : List D} {g : Bool} {x : D}
@[simp] theorem wT {α β : Type} {p : Prop} [Decidable p] {o : Option α} {f : α → Option β} : (if p then o else none).bind f = if p then o.bind f else none := by by_cases h : p <;> simp [h]
@[simp] theorem rdc_pt : rdc mem n (.pt cs) = if n ≤ cs.length then some (cs.take n) else none := (rfl)
def AR : Blk → Option (List D)
 | .box cs => some cs
 | _ => none
def AA (ver : Nat) : Blk → Option (Nat × List (List D))
 | .arr v k es => if v = ver then some (k, es) else none
 | _ => none
@[simp] theorem boxOf_box : AR (.box cs) = some cs := (rfl)
@[simp] theorem tD {v k : Nat} {es : List (List D)} : AA ver (.arr v k es) = if v = ver then some (k, es) else none := (rfl)
@[simp] theorem rdc_opt : rdc mem n (.opt id off) = (look mem id).bind fun b => (AR b).bind fun cs => if off + n ≤ cs.length then some ((cs.drop off).take n) else none := by
 simp only [rdc]
 cases look mem id with
 | none => rfl
 | some b => cases b <;> rfl
@[simp] theorem rdc_oel : rdc mem n (.oel id ver i off) = (look mem id).bind fun b => (AA ver b).bind fun p => p.2[i]?.bind fun e => if off + n ≤ e.length then some ((e.drop off).take n) else none := by
 simp only [rdc]
 cases look mem id with
 | none => rfl
 | some b =>
  cases b with
  | arr v k es =>
   simp only [Option.bind_some, tD, wT]
   split
   ·cases es[i]? <;> rfl
   ·rfl
  | _ => rfl
@[simp] theorem ld_eq : ldD mem g n x = (rdc mem n x).bind (mkv g) := by unfold ldD; cases rdc mem n x <;> rfl
@[simp] theorem wrc_opt : wrc mem n (.opt id off) new = if new.length = n ∧ new.all D.cell = true then (look mem id).bind fun b => (AR b).bind fun cs => if off + n ≤ cs.length then some (upd mem id (.box (place off cs new))) else none else none := by
 simp only [wrc]
 split
 ·cases look mem id with
  | none => rfl
  | some b => cases b <;> rfl
 ·rfl
@[simp] theorem wrc_oel : wrc mem n (.oel id ver i off) new = if new.length = n ∧ new.all D.cell = true then (look mem id).bind fun b => (AA ver b).bind fun p => p.2[i]?.bind fun e => if off + n ≤ e.length then some (upd mem id (.arr ver p.1 (p.2.set i (place off e new)))) else none else none := by
 simp only [wrc]
 split
 ·cases look mem id with
  | none => rfl
  | some b =>
   cases b with
   | arr v k es =>
    simp only [Option.bind_some, tD, wT]
    split
    ·rename_i h; subst h; cases es[i]? <;> rfl
    ·rfl
   | _ => rfl
 ·rfl
@[simp] theorem stM_some {a : D} : stM mem n (some a) (some x) = (wrc mem n a x.cells).bind fun m => some (.top, m) := by simp only [stM]; cases wrc mem n a x.cells <;> rfl
@[simp] theorem ia_osl {k : Nat} {j : IntKind} {i : Int} : iaD mem k (.osl id ver lo n) (.pl (.int j i)) = if cur mem id ver k = true then (if 0 ≤ i ∧ i < n then some (.oel id ver (lo + i.toNat) 0) else none) else none := (rfl)
end
theorem A_ {s d : TypeId} {k j : IntKind} {n : Int} (hs : P.underlying s = some (.int k)) (hd : P.underlying d = some (.int j)) : cvD P s d (.pl (.int k n)) = some (.pl (.int j (j.wrap n))) := by
 simp [cvD, lit, convert, underlying, program, Bind.bind, Sem.bind, Sem.look, hs, hd, Pure.pure, Conv.intToInt]
theorem GF {α : Type} [Inhabited α] (f : α → List D) (l : List α) (i : Nat) : (l.map f)[i]? = if i < l.length then some (f (l[i]?.getD default)) else none := by
 by_cases h : i < l.length
 ·simp [h]
 ·rw [if_neg h]; simp; omega
theorem ia_map {α : Type} [Inhabited α] {f : α → List D} {l : List α} {k : Nat} {j : IntKind} {i : Int} (hk : ∀ x, (f x).length = k) :
  iaD mem k (.sl (l.map f)) (.pl (.int j i)) = if 0 ≤ i ∧ i < l.length then some (.pt (f (l.getD i.toNat default))) else none := by
 simp only [iaD, List.length_map]
 by_cases h : 0 ≤ i ∧ i < l.length
 ·have hi : i.toNat < l.length := by omega
  rw [if_pos h, if_pos h]
  simp [List.getElem?_map, List.getElem?_eq_getElem hi, hk, List.getD_eq_getElem?_getD]
 ·rw [if_neg h, if_neg h]
end
def WtS (R : TypeId → List D → Prop) : List TypeId → List D → Prop
 | [], ds => ds = []
 | t :: ts, ds => ∃ c r, ds = c ++ r ∧ R t c ∧ WtS R ts r
def Wt (P : Program) : Nat → TypeId → List D → Prop
 | 0, _, _ => False
 | n + 1, t, ds => match P.underlying t with
  | some .bool => ∃ b, ds = [.pl (.bool b)]
  | some (.int k) => ∃ x, ds = [.pl (.int k x)] ∧ (Lit.int k x).wf = true
  | some (.float k) => ∃ b, ds = [.pl (.float k b)] ∧ (Lit.float k b).wf = true
  | some .string => ∃ s, ds = [.pl (.string s)] ∧ s.size ≤ reachBytes
  | some (.pointer e) => ds = [.pl (.pointer none)] ∨ ∃ cs, ds = [.pt cs] ∧ Wt P n e cs
  | some (.slice e) => ∃ es : List (List D), ds = [.sl es] ∧ es.length * P.bytesOf e ≤ reachBytes ∧ ∀ c ∈ es, Wt P n e c
  | some (.struct fs) => WtS (Wt P n) (fs.toList.map (·.type)) ds
  | some (.array m e) => WtS (Wt P n) (List.replicate m e) ds
  | _ => ds = [.top]
section
variable {H : Type} {enc : TypeId × Value → H} {P : Program} {w : World} {S : Nat → Prop} {φ : aW}
theorem cells?_out {base n : Nat} {a : Addr} {cs : List Value} (h : w.cells? base a n = some cs) : cs.length = n ∧ ∀ i, i < n → w.cell? (a.add i) = cs[i]? := by
 unfold World.cells? at h
 split at h
 ·exact ⟨by simpa using mapM_some_length h, fun i hi => mapM_some_get h i i (by simp [hi])⟩
 ·simp at h
theorem cell?_lt {a : Addr} {v : Value} (h : w.cell? a = some v) : a.block < w.heap.size ∧ a.spot = none := by
 unfold World.cell? at h
 split at h
 ·rename_i c _ _ hc
  split at h
  ·simp at h
  ·rename_i hs
   exact ⟨(Array.getElem?_eq_some_iff.1 hc).1, by simpa using hs⟩
 ·simp at h
theorem qQ {b : Nat} : ∀ (ds : List D) (cs : List Value) (o : Nat), RepVs w S φ ds cs → (∀ i, i < cs.length → w.cell? ⟨b, o + i, none⟩ = cs[i]?) → RepCs w S φ ds b o
 | [], cs, o, _, _ => by simp [RepCs]
 | d :: ds, cs, o, h, hc => by
  simp only [RepVs] at h
  obtain ⟨x, r, rfl, h1, h2⟩ := h
  simp only [RepCs]
  exact ⟨⟨x, by simpa using hc 0 (by simp), h1⟩, qQ ds r (o + 1) h2 fun i hi => by
   have := hc (i + 1) (by simpa using hi)
   rw [show o + (i + 1) = o + 1 + i by omega] at this
   simpa using this⟩
theorem uC : ∀ (ds es : List D) (xs ys : List Value), RepVs w S φ ds xs → RepVs w S φ es ys → RepVs w S φ (ds ++ es) (xs ++ ys)
 | [], es, xs, ys, h, k => by simp only [RepVs] at h; subst h; simpa using k
 | d :: ds, es, xs, ys, h, k => by
  simp only [RepVs, List.cons_append] at h ⊢
  obtain ⟨x, r, rfl, h1, h2⟩ := h
  exact ⟨x, r ++ ys, rfl, h1, uC ds es r ys h2 k⟩
theorem mX {T : TypeId → Prop} {R : TypeId → List D → Prop} {W : TypeId → DataW H → Prop} {rd : TypeId → List Value → Option (DataW H × List MemPlace)}
  (ih : ∀ (t : TypeId) (cs : List Value) (x : DataW H × List MemPlace), rd t cs = some x → W t x.1 → T t → ∃ ds, R t ds ∧ RepVs w S φ ds cs) :
  ∀ (ts : List TypeId) (xs : List (DataW H × List MemPlace)) (cs : List Value), xs.length = ts.length → cs.length = (ts.map P.cellsOf).sum → (∀ t ∈ ts, T t) →
   (∀ (i : Nat) (t : TypeId) (x : DataW H × List MemPlace), ts[i]? = some t → xs[i]? = some x → W t x.1) →
   (∀ (i : Nat) (t : TypeId), ts[i]? = some t → rd t ((cs.drop ((ts.take i).map P.cellsOf).sum).take (P.cellsOf t)) = xs[i]?) → ∃ ds, WtS R ts ds ∧ RepVs w S φ ds cs
 | [], xs, cs, _, hl, _, _, _ => ⟨[], rfl, by
   simp only [List.map_nil, List.sum_nil] at hl
   simp [RepVs, List.eq_nil_of_length_eq_zero hl]⟩
 | t :: ts, [], cs, hx, _, _, _, _ => by simp at hx
 | t :: ts, x :: xs, cs, hx, hl, hv, hw, h => by
  have h0 := h 0 t rfl
  simp only [List.take_zero, List.map_nil, List.sum_nil, List.drop_zero, List.getElem?_cons_zero] at h0
  obtain ⟨c, hc, hr⟩ := ih _ _ _ h0 (hw 0 t x rfl rfl) (hv t (by simp))
  obtain ⟨r, hr1, hr2⟩ := mX ih ts xs (cs.drop (P.cellsOf t)) (by simpa using hx) (by simp at hl ⊢; omega) (fun u hu => hv u (by simp [hu])) (fun i u x h1 h2 => hw (i + 1) u x (by simpa using h1) (by simpa using h2)) (fun i u hu => by
   have := h (i + 1) u (by simpa using hu)
   simpa [List.take_succ_cons, List.map_cons, List.sum_cons, List.drop_drop] using this)
  refine ⟨c ++ r, ⟨c, r, rfl, hc, hr1⟩, ?_⟩
  have := uC _ _ _ _ hr hr2
  simpa [List.take_append_drop] using this
theorem oG {n : Nat} : ∀ (ts : List TypeId) (ds : List (DataW H)), (DataW.weightsEach P ts ds).all (· ≤ n) = true → ∀ (i : Nat) (t : TypeId) (x : DataW H), ts[i]? = some t → ds[i]? = some x → (x.weights P t).all (· ≤ n) = true
 | [], _, _, i, t, x, h, _ => by simp at h
 | _ :: _, [], _, i, t, x, _, h => by simp at h
 | t :: ts, d :: ds, hw, 0, u, x, h1, h2 => by
  simp only [List.getElem?_cons_zero, Option.some.injEq] at h1 h2; subst h1 h2
  simp only [DataW.weightsEach, List.all_append, Bool.and_eq_true] at hw
  exact hw.1
 | t :: ts, d :: ds, hw, i + 1, u, x, h1, h2 => by
  simp only [DataW.weightsEach, List.all_append, Bool.and_eq_true] at hw
  exact oG ts ds hw.2 i u x (by simpa using h1) (by simpa using h2)
theorem lJ {n : Nat} {e : TypeId} : ∀ (ds : List (DataW H)), (DataW.weightsAll P e ds).all (· ≤ n) = true → ∀ x ∈ ds, (x.weights P e).all (· ≤ n) = true
 | [], _, x, h => by simp at h
 | d :: ds, hw, x, h => by
  simp only [DataW.weightsAll, List.all_append, Bool.and_eq_true] at hw
  rcases List.mem_cons.1 h with rfl | h
  ·exact hw.1
  ·exact lJ ds hw.2 x h
theorem rT {R : List D → Prop} {W : DataW H → Prop} {rd : List Value → Option (DataW H × List MemPlace)} {k b : Nat}
  (ih : ∀ (cs : List Value) (x : DataW H × List MemPlace), rd cs = some x → W x.1 → ∃ ds, R ds ∧ RepVs w S φ ds cs) :
  ∀ (xs : List (DataW H × List MemPlace)) (o : Nat), (∀ x ∈ xs, W x.1) →
   (∀ i, i < xs.length → (w.cells? 0 ⟨b, o + i * k, none⟩ k).bind rd = xs[i]?) → ∃ es : List (List D), es.length = xs.length ∧ (∀ c ∈ es, R c) ∧ RepEs w S φ es k b o
 | [], o, _, _ => ⟨[], rfl, by simp, by simp [RepEs]⟩
 | x :: xs, o, hw, h => by
  have h0 := h 0 (by simp)
  simp only [Nat.zero_mul, Nat.add_zero, List.getElem?_cons_zero, Option.bind_eq_some_iff] at h0
  obtain ⟨cs, hcs, hrd⟩ := h0
  obtain ⟨hl, hc⟩ := cells?_out hcs
  obtain ⟨ds, hR, hrep⟩ := ih _ _ hrd (hw x (by simp))
  obtain ⟨es, h1, h2, h3⟩ := rT ih xs (o + k) (fun y hy => hw y (by simp [hy])) (fun i hi => by
   have := h (i + 1) (by simpa using hi)
   rw [show o + (i + 1) * k = o + k + i * k by rw [Nat.succ_mul]; omega] at this
   simpa using this)
  refine ⟨ds :: es, by simp [h1], by simpa using ⟨hR, h2⟩, ?_⟩
  simp only [RepEs]
  exact ⟨(bV _ _ hrep).symm.trans hl, qQ _ _ _ hrep (fun i hi => by simpa [Addr.add_mid] using hc i (by omega)), h3⟩
set_option maxHeartbeats 2000000 in
theorem yB (hl : laidOutB P = true) {t0 : TypeId} (hp : P.readableRec t0 = true) : ∀ (n : Nat) (t : TypeId) (cs : List Value) (x : DataW H × List MemPlace), DataW.trod enc P w 0 (fun _ => true) true n t cs = some x →
  (x.1.weights P t).all (· ≤ reachBytes) = true → isVar P t = true ∧ t ∈ P.book t0 → ∃ ds, Wt P n t ds ∧ RepVs w (· < w.heap.size) φ ds cs
 | 0, t, cs, x, h, _, _ => by simp [DataW.trod] at h
 | n + 1, t, cs, x, h, hw, hv => by
  obtain ⟨hv, hbk⟩ := hv
  have hkid : P.fineRow t = true ∧ ∀ u ∈ P.partsOf t, u ∈ P.book t0 := by
   have := List.all_eq_true.1 hp t hbk
   simp only [Bool.and_eq_true, List.all_eq_true, List.contains_iff_mem] at this
   exact ⟨this.1, fun u hu => by simpa using this.2 u hu⟩
  have hlt : t < P.types.size := by simp only [isVar, Bool.and_eq_true, decide_eq_true_eq] at hv; exact hv.1
  have hfine := rowFine_of hl hlt
  have ih := yB hl hp n
  simp only [Wt]
  cases hu : P.underlying t with
  | none => simp [isVar, hu, kindOk] at hv
  | some td =>
   cases td with
   | bool =>
    obtain ⟨b, rfl, rfl⟩ := DataW.trod_bool hu h
    exact ⟨_, ⟨b, rfl⟩, by simp [RepVs, Rep]⟩
   | int k =>
    obtain ⟨z, rfl, rfl, hz⟩ := DataW.trod_int hu h
    exact ⟨_, ⟨z, rfl, hz⟩, by simp [RepVs, Rep]⟩
   | float k =>
    have : ∃ b, cs = [.float k b] ∧ (Lit.float k b).wf = true := by
     unfold DataW.trod at h
     rw [hu] at h
     split at h <;> simp_all
    obtain ⟨b, rfl, hb⟩ := this
    exact ⟨_, ⟨b, rfl, hb⟩, by simp [RepVs, Rep]⟩
   | string =>
    obtain ⟨s, rfl, rfl, hs⟩ := DataW.trod_string hu h
    exact ⟨_, ⟨s, rfl, by simpa [DataW.weights] using hw⟩, by simp [RepVs, Rep]⟩
   | pointer e =>
    rcases DataW.trod_pointer hu h with ⟨rfl, rfl⟩ | ⟨a, cs', y, m, hm, rfl, rfl, hc, hy⟩
    ·exact ⟨_, .inl rfl, by simp [RepVs, Rep]⟩
    ·simp only [Nat.add_right_cancel_iff] at hm; subst hm
     obtain ⟨hcl, hcc⟩ := cells?_out hc
     simp only [rowFine, hv, hu, Bool.not_true, Bool.false_or, Bool.and_eq_true] at hfine
     obtain ⟨ds, h1, h2⟩ := ih e cs' y hy (by simpa [DataW.weights, hu] using hw) ⟨hfine.1, hkid.2 e (by simp [Program.partsOf, hu])⟩
     have hpos : 0 < P.cellsOf e := by
      have := hkid.1
      simpa [Program.fineRow, hu] using this
     have h0 := hcc 0 hpos
     rw [List.getElem?_eq_getElem (by omega)] at h0
     obtain ⟨hb, hsp⟩ := cell?_lt h0
     obtain ⟨b, o, sp⟩ := a
     have hsp' : sp = none := by simpa [Addr.add] using hsp
     subst hsp'
     have hb' : b < w.heap.size := by simpa [Addr.add_mid] using hb
     refine ⟨_, .inr ⟨ds, rfl, h1⟩, ?_⟩
     simp only [RepVs, Rep]
     exact ⟨_, [], rfl, ⟨b, o, rfl, hb', qQ _ _ _ h2 fun i hi => by simpa [Addr.add_mid] using hcc i (by omega)⟩, rfl⟩
   | slice e =>
    simp only [rowFine, hv, hu, Bool.not_true, Bool.false_or, Bool.and_eq_true] at hfine
    have hpos : 0 < P.cellsOf e := by
     have := hkid.1
     simpa [Program.fineRow, hu] using this
    have hbe : e ∈ P.book t0 := hkid.2 e (by simp [Program.partsOf, hu])
    rcases DataW.trod_slice hu h with ⟨rfl, rfl⟩ | ⟨a, len, cap, elems, rest, m, hm, rfl, rfl, _, hlc, _, hel, helem, hrest, _⟩
    ·exact ⟨_, ⟨[], rfl, by simp, by simp⟩, by simp [RepVs, Rep, Zs]⟩
    ·simp only [Nat.add_right_cancel_iff] at hm; subst hm
     simp only [DataW.weights, hu, List.all_cons, List.all_append, Bool.and_eq_true, decide_eq_true_eq, List.length_map] at hw
     obtain ⟨hwl, hwe, _⟩ := hw
     by_cases h0 : cap = 0
     ·subst h0
      obtain rfl : len = 0 := by omega
      exact ⟨_, ⟨[], rfl, by simp, by simp⟩, by simp [RepVs, Rep, Zs]⟩
     ·obtain ⟨v, hv0⟩ : ∃ v, w.cell? a = some v := by
       have key : ∀ y, (w.cells? 0 (a.add (0 * P.cellsOf e)) (P.cellsOf e)).bind (DataW.trod enc P w 0 (fun _ => true) true n e) = some y → ∃ v, w.cell? a = some v := by
        intro y hy
        simp only [Option.bind_eq_some_iff] at hy
        obtain ⟨c, hc, _⟩ := hy
        obtain ⟨hcl, hcc⟩ := cells?_out hc
        have := hcc 0 hpos
        simp only [Nat.zero_mul, Addr.add, Nat.add_zero] at this
        rw [List.getElem?_eq_getElem (by omega)] at this
        exact ⟨_, this⟩
       by_cases hl0 : len = 0
       ·obtain ⟨hr1, hr2⟩ := hrest rfl
        have := hr2 0 (by omega)
        rw [hl0, List.getElem?_eq_getElem (by omega)] at this
        exact key _ this
       ·have := helem 0 (by omega)
        rw [List.getElem?_eq_getElem (by omega)] at this
        exact key _ this
      obtain ⟨hb, hsp⟩ := cell?_lt hv0
      obtain ⟨b, o, sp⟩ := a
      simp only at hb hsp; subst hsp
      obtain ⟨es, h1, h2, h3⟩ := rT (φ := φ) (S := (· < w.heap.size)) (k := P.cellsOf e) (b := b) (R := Wt P n e) (W := fun x => (x.weights P e).all (· ≤ reachBytes) = true) (fun cs x hx hwx => ih e cs x hx hwx ⟨hfine.1, hbe⟩) elems o
       (fun x hx => lJ _ (by simpa using hwe) x.1 (List.mem_map.2 ⟨x, hx, rfl⟩)) (fun i hi => by simpa [Addr.add_mid] using helem i (by omega))
      refine ⟨_, ⟨es, rfl, ?_, h2⟩, ?_⟩
      ·rw [h1]
       exact Nat.le_trans (Nat.mul_le_mul_right _ (by omega)) hwl
      ·simp only [RepVs, Rep]
       exact ⟨_, [], rfl, .inr ⟨b, o, cap, _, by rw [h1, hel], by omega, hb, h3⟩, rfl⟩
   | struct fs =>
    simp only [rowFine, hv, hu, Bool.not_true, Bool.false_or, Bool.and_eq_true, beq_iff_eq] at hfine
    obtain ⟨⟨hf1, hf2⟩, hf3⟩ := hfine
    obtain ⟨xs, m, hm, rfl, hcl, hxl, hx⟩ := DataW.trod_struct hu h
    simp only [Nat.add_right_cancel_iff] at hm; subst hm
    simp only [DataW.weights, hu] at hw
    refine mX (P := P) (T := fun t => isVar P t = true ∧ t ∈ P.book t0) (W := fun t x => (x.weights P t).all (· ≤ reachBytes) = true) (rd := DataW.trod enc P w 0 (fun _ => true) true n) (fun t cs x hx hwx hvx => ih t cs x hx hwx hvx) (fs.toList.map (·.type)) xs cs (by simpa using hxl) (by rw [hcl, hf2]; simp [List.map_map, Function.comp_def])
     (fun u huu => by
      obtain ⟨f, hf, rfl⟩ := List.mem_map.1 huu
      exact ⟨List.all_eq_true.1 hf1 f hf, hkid.2 f.type (by simp only [Program.partsOf, hu]; exact List.mem_map.2 ⟨f, hf, rfl⟩)⟩)
     (fun i u x h1 h2 => oG _ _ hw i u x.1 h1 (by simp [h2])) (fun i u hi => ?_)
    simp only [List.getElem?_map, Option.map_eq_some_iff] at hi
    obtain ⟨f, hf, rfl⟩ := hi
    have h3 := List.all_eq_true.1 hf3 i (by simp; exact (List.getElem?_eq_some_iff.1 hf).1)
    rw [hf] at h3
    simp only [beq_iff_eq] at h3
    have := hx i f (by simpa using hf)
    rw [h3] at this
    rw [← List.map_take, List.map_map]
    exact this
   | array m e =>
    simp only [rowFine, hv, hu, Bool.not_true, Bool.false_or, Bool.and_eq_true, beq_iff_eq] at hfine
    obtain ⟨hf1, hf2⟩ := hfine
    have htk : ∀ i : Nat, ((List.replicate m e).take i).map P.cellsOf = List.replicate (min i m) (P.cellsOf e) := by intro i; simp
    obtain ⟨xs, m', hm', rfl, hcl, hxl, hx⟩ := DataW.trod_array hu h
    simp only [Nat.add_right_cancel_iff] at hm'; subst hm'
    simp only [DataW.weights, hu] at hw
    have hwx : ∀ x ∈ xs, (x.1.weights P e).all (· ≤ reachBytes) = true := fun x hx => lJ _ hw x.1 (List.mem_map.2 ⟨x, hx, rfl⟩)
    refine mX (P := P) (T := fun t => isVar P t = true ∧ t ∈ P.book t0) (W := fun t x => (x.weights P t).all (· ≤ reachBytes) = true) (rd := DataW.trod enc P w 0 (fun _ => true) true n) (fun t cs x hx hwx hvx => ih t cs x hx hwx hvx) (List.replicate m e) xs cs (by simpa using hxl) (by rw [hcl, hf2]; simp)
     (fun u hu => by rw [List.mem_replicate] at hu; rw [hu.2]; exact ⟨hf1, hkid.2 e (by simp [Program.partsOf, *])⟩)
     (fun i u x h1 h2 => by
      rw [List.getElem?_replicate] at h1
      split at h1
      ·simp only [Option.some.injEq] at h1; subst h1
       exact hwx x (List.mem_of_getElem? h2)
      ·simp at h1) (fun i u hi => ?_)
    rw [List.getElem?_replicate] at hi
    split at hi
    ·rename_i him
     simp only [Option.some.injEq] at hi; subst hi
     rw [htk]
     have : min i m = i := by omega
     rw [this]
     simpa using hx i him
    ·simp at hi
   | _ =>
    cases cs with
    | nil => simp only [DataW.trod, hu] at h; cases h
    | cons c r =>
     cases r with
     | nil => exact ⟨[.top], rfl, by simp [RepVs, Rep]⟩
     | cons c2 r =>
      exfalso
      first
      | (simp only [DataW.trod, hu] at h; cases h)
      | (simp [isVar, hu, kindOk] at hv)
end
open Go.ChangeShapes Go.WideShapes Go.ChangeAt Go.RowKit
def Arg (P : Program) (t : TypeId) (x : D) : Prop := ∃ n ds, Wt P n t ds ∧ match P.underlying t with
 | some (.struct _) | some (.array _ _) => x = .agg ds
 | _ => ds = [x]
def Args (P : Program) : List TypeId → List D → Prop
 | [], xs => xs = []
 | t :: ts, xs => ∃ x r, xs = x :: r ∧ Arg P t x ∧ Args P ts r
section
variable {H : Type} {enc : TypeId × Value → H} {P : Program} {w W W' : World}
theorem noAgg {r : Reach} {base : Nat} {t : TypeId} {cs : Array Value} (h : Value.okWide P w r base t (.agg cs)) : (∃ fs, P.underlying t = some (.struct fs)) ∨ ∃ n e, P.underlying t = some (.array n e) := by
 unfold Value.okWide at h
 split at h
 ·rename_i fs hf; exact .inl ⟨fs, hf⟩
 ·rename_i n e hf; exact .inr ⟨n, e, hf⟩
 ·unfold Cell.okWide at h
  split at h <;> try simp_all
  unfold Cell.ok at h
  split at h <;> simp_all
theorem ET {r : Reach} {base : Nat} (hl : laidOutB P = true) {t : TypeId} {v : Value} {d : DataW H} {ps : List MemPlace} (hp : P.readableRec t = true) (hv : isVar P t = true) (hval : Value.okWide P w r base t v)
  (h : DataW.Trod enc P w 0 (fun _ => true) true t v d ps) (hw : (d.weights P t).all (· ≤ reachBytes) = true) : ∃ x, Arg P t x ∧ Rep w (· < w.heap.size) bS x v := by
 obtain ⟨n, hn⟩ := h
 obtain ⟨ds, h1, h2⟩ := yB (φ := bS) hl hp n t _ _ hn hw ⟨hv, book_self t⟩
 by_cases hag : (∃ fs, P.underlying t = some (.struct fs)) ∨ ∃ n e, P.underlying t = some (.array n e)
 ·have : ∃ cs, v = .agg cs := by
   unfold Value.okWide at hval
   rcases hag with ⟨fs, hf⟩ | ⟨m, e, hf⟩
   ·rw [hf] at hval; obtain ⟨cs, h, _⟩ := hval; exact ⟨cs, h⟩
   ·rw [hf] at hval; obtain ⟨cs, h, _⟩ := hval; exact ⟨cs, h⟩
  obtain ⟨cs, rfl⟩ := this
  refine ⟨.agg ds, ⟨n, ds, h1, ?_⟩, ?_⟩
  ·rcases hag with ⟨fs, hf⟩ | ⟨m, e, hf⟩ <;> simp [hf]
  ·simp only [Rep]; exact ⟨cs, rfl, by simpa [Value.cells] using h2⟩
 ·have hc : v.cells = #[v] := by
   cases v <;> try rfl
   exact absurd (noAgg hval) hag
  rw [hc] at h2
  cases ds with
  | nil => simp [RepVs] at h2
  | cons x r =>
   simp only [RepVs, List.cons.injEq] at h2
   obtain ⟨y, r', ⟨rfl, rfl⟩, hx, hr⟩ := h2
   cases r with
   | cons _ _ => simp [RepVs] at hr
   | nil =>
    refine ⟨x, ⟨n, [x], h1, ?_⟩, hx⟩
    split
    ·rename_i fs hf; exact absurd (.inl ⟨fs, hf⟩) hag
    ·rename_i m e hf; exact absurd (.inr ⟨m, e, hf⟩) hag
    ·rfl
theorem oE {r : Reach} {base : Nat} (hl : laidOutB P = true) : ∀ {ts : List TypeId} {vs : List Value} {ds : List (DataW H)} {ps : List MemPlace}, (∀ t ∈ ts, isVar P t = true ∧ P.readableRec t = true) →
  (∀ (j : Nat) t v, ts[j]? = some t → vs[j]? = some v → Value.okWide P w r base t v) →
  DataW.TrodAll enc P w 0 (fun _ => true) true ts vs ds ps → (DataW.weightsEach P ts ds).all (· ≤ reachBytes) = true → ∃ xs, Args P ts xs ∧ RepVs w (· < w.heap.size) bS xs vs
 | [], [], [], _, _, _, _, _ => ⟨[], rfl, by simp [RepVs]⟩
 | t :: ts, v :: vs, d :: ds, _, hv, hval, ⟨p, q, h1, h2, _⟩, hw => by
  simp only [DataW.weightsEach, List.all_append, Bool.and_eq_true] at hw
  obtain ⟨x, hx, hr⟩ := ET hl (hv t (by simp)).2 (hv t (by simp)).1 (hval 0 t v rfl rfl) h1 hw.1
  obtain ⟨xs, hxs, hrs⟩ := oE hl (fun u hu => hv u (by simp [hu])) (fun j u v hu hv => hval (j + 1) u v (by simpa using hu) (by simpa using hv)) h2 hw.2
  exact ⟨x :: xs, ⟨x, xs, rfl, hx, hxs⟩, by simp only [RepVs]; exact ⟨v, vs, rfl, hr, hrs⟩⟩
 | [], [], _ :: _, _, _, _, h, _ => h.elim
 | [], _ :: _, _, _, _, _, h, _ => h.elim
 | _ :: _, [], _, _, _, _, h, _ => h.elim
 | _ :: _, _ :: _, [], _, _, _, h, _ => h.elim
theorem nZ (hl : laidOutB P = true) (hb : Below W.heap.size W W') : ∀ {ts : List TypeId} {vs : List Value} {ds : List (DataW H)} {ps : List MemPlace}, (∀ t ∈ ts, P.readableRec t = true ∧ t < P.types.size) →
  DataW.TrodAll enc P W 0 (fun _ => true) true ts vs ds ps → DataW.TrodAll enc P W' 0 (fun b => decide (b < W.heap.size)) true ts vs ds ps
 | [], [], [], _, _, h => h
 | t :: ts, v :: vs, d :: ds, _, hr, ⟨p, q, h1, h2, e⟩ =>
  ⟨p, q, Below.trod hl (hr t (by simp)).1 (hr t (by simp)).2 h1 hb (by obtain ⟨m, hm⟩ := h1; exact DataW.trod_lt m _ _ _ hm), nZ hl hb (fun u hu => hr u (by simp [hu])) h2, e⟩
 | [], [], _ :: _, _, _, h => h.elim
 | [], _ :: _, _, _, _, h => h.elim
 | _ :: _, [], _, _, _, h => h.elim
 | _ :: _, _ :: _, [], _, _, h => h.elim
theorem l8 {base : Nat} {sp : Nat → Bool} {hd : Bool} : ∀ {ts : List TypeId} {vs : List Value} {ds : List (DataW H)} {ps : List MemPlace}, DataW.TrodAll enc P w base sp hd ts vs ds ps → ds.length = ts.length
 | [], [], [], _, _ => rfl
 | t :: ts, v :: vs, d :: ds, _, ⟨p, q, _, h2, _⟩ => by simpa using l8 h2
 | [], [], _ :: _, _, h => h.elim
 | [], _ :: _, _, _, h => h.elim
 | _ :: _, [], _, _, h => h.elim
 | _ :: _, _ :: _, [], _, h => h.elim
theorem lY : ∀ (ts us : List TypeId) (ds es : List (DataW H)), ds.length = ts.length → (DataW.weightsEach P (ts ++ us) (ds ++ es)).all (· ≤ reachBytes) = true → (DataW.weightsEach P ts ds).all (· ≤ reachBytes) = true
 | [], us, [], es, _, _ => rfl
 | t :: ts, us, d :: ds, es, hl, h => by
  simp only [List.cons_append, DataW.weightsEach, List.all_append, Bool.and_eq_true] at h ⊢
  exact ⟨h.1, lY ts us ds es (by simpa using hl) h.2⟩
 | [], us, _ :: _, es, hl, _ => by simp at hl
 | _ :: _, us, [], es, hl, _ => by simp at hl
end
structure v8 (C : Checked) (f : FuncId) (fn : Func) (s : ChangeSpec) (rt : TypeId) : Prop where
 own : ownKnob C.prog.godebug = none
 noInit : C.prog.inits.idxOf? f = none
 func : C.prog.funcs[f]? = some fn
 laid : laidOutB C.prog = true
 params : fn.params.toList.all (fun t => isVar C.prog t && C.prog.readableRec t) = true
 res : fn.resultTypes = #[rt]
 bool : C.prog.underlying rt = some .bool
 vars : s.vars = []
 spec : ∀ (H : Type) (ds : List (DataW H)), ds.length = fn.params.size → s.fn H ds = { results := [.lit (.bool true)], args := ds }
structure RowFn (C : Checked) (f : FuncId) (fn : Func) (s : ChangeSpec) (rt : TypeId) : Prop extends v8 C f fn s rt where
 tab : C.prog.globals.toList.all (fun gl => !is20 C.prog gl.type) = true
theorem row_of {C : Checked} {os : Os} {f : FuncId} {fn : Func} {s : ChangeSpec} {rt : TypeId} {conds : List PathCond} {H : Type} {enc : TypeId × Value → H} (R : RowFn C f fn s rt) (started : os.Started)
  (witness : ∃ (w : World) (tape : Tape) (i : Input), w.os = os ∧ (w.forCall tape i).Shaped C.prog ∧ i.vars = [] ∧ Input.okWide C.prog (w.forCall tape i) .any w.heap.size f i ∧
   s.pre6 enc C.prog fn conds false (w.forCall tape i).memory i.args ∧ Assume.holds {} C.prog (lone (Frame.enter C.prog f i.args .normal) [] (w.forCall tape i)))
  (law : ∀ xs, Args C.prog fn.params.toList xs → Pure C.prog f xs (.pl (.bool true))) :
  ReturnsInHanded {} C os f .any (s.pre6 enc C.prog fn conds false) (s.post enc C.prog fn false true false false) := by
 refine returnsInHanded_of_change_sized (C := C) R.own started R.noInit R.func witness ?_
 intro Wd base args ds gs before hval hW hcnd hsz _
 have hW' := hW
 have hpar : ∀ t ∈ fn.params.toList, isVar C.prog t = true ∧ C.prog.readableRec t = true := fun t ht => by
  have := List.all_eq_true.1 R.params t ht
  simpa using this
 have hlt : ∀ t ∈ fn.params.toList, C.prog.readableRec t = true ∧ t < C.prog.types.size := fun t ht => by
  have h := (hpar t ht).1
  simp only [isVar, Bool.and_eq_true, decide_eq_true_eq] at h
  exact ⟨(hpar t ht).2, h.1⟩
 obtain ⟨p, q, hA, hV, rfl, hfz, hnd⟩ := hW
 rw [R.vars] at hV
 obtain ⟨rfl, rfl⟩ := trodVars_none hV
 have hlen := l8 hA
 have hw := lY _ _ _ _ hlen hsz
 obtain ⟨xs, hxs, hrep⟩ := oE (r := .any) (base := base) R.laid hpar (fun j t v h1 h2 => hval j t v (by simpa using h1) (by simpa using h2)) hA hw
 have hc := (law xs hxs).2 (· < Wd.heap.size) Wd args.toList (fun b hb => hb) (TB.none R.tab _ _) hrep
 rw [Array.toArray_toList] at hc
 refine hc.mono fun e W' ⟨v, S', he, hv, hx, _⟩ => ?_
 subst he
 simp only [Rep] at hv; subst hv
 have bel : Below Wd.heap.size Wd W' := ⟨hx.os, hx.tape, hx.output, hx.size, fun k hk => hx.keep k hk (by rintro ⟨i, blk, l, h, _⟩; simp [look] at h)⟩
 have hsp := R.spec H ds (by rw [hlen]; simp)
 refine ⟨_, rfl, ds, [], _, [], p, [], hW', ?_, ?_, ?_, bel.frame _, fun h => by cases h⟩
 ·rw [List.append_nil, hsp, R.res]
  exact trodAll_mk1 (shut_bool R.bool _)
 ·rw [List.append_nil, hsp]
  exact nZ R.laid bel hlt hA
 ·rw [List.append_nil, hsp, R.vars]
  rfl
theorem xY {C : Checked} {os : Os} {f : FuncId} {fn : Func} {s : ChangeSpec} {rt : TypeId} {conds : List PathCond} {H : Type} {enc : TypeId × Value → H} {X : World → Prop} (R : v8 C f fn s rt) (started : os.Started) (hX : ∀ w w' : World, w.heap = w'.heap → X w → X w') (hT : ∀ w, X w → TB C.prog (· < w.heap.size) w)
  (witness : ∃ (w : World) (tape : Tape) (i : Input), w.os = os ∧ (w.forCall tape i).Shaped C.prog ∧ i.vars = [] ∧ Input.okWide C.prog (w.forCall tape i) .any w.heap.size f i ∧
   ((s.pre enc C.prog fn conds false (w.forCall tape i).memory i.args ∧ X (w.forCall tape i).memory) ∧ sizedMet enc C.prog fn (OpenSpec.ofChange s) false (w.forCall tape i).memory i.args) ∧ Assume.holds {} C.prog (lone (Frame.enter C.prog f i.args .normal) [] (w.forCall tape i)))
  (law : ∀ xs, Args C.prog fn.params.toList xs → Pure C.prog f xs (.pl (.bool true))) :
  ReturnsInHanded {} C os f .any (fun w args => (s.pre enc C.prog fn conds false w args ∧ X w) ∧ sizedMet enc C.prog fn (OpenSpec.ofChange s) false w args) (s.post enc C.prog fn false true false false) := by
 refine returnsInHanded_of_change_and (C := C) (X := fun w _ => X w) (fun w w' _ => hX w w') R.own started R.noInit R.func witness ?_
 intro Wd base args ds gs before hval hW hcnd hsz hXw _
 have hW' := hW
 have hpar : ∀ t ∈ fn.params.toList, isVar C.prog t = true ∧ C.prog.readableRec t = true := fun t ht => by
  have := List.all_eq_true.1 R.params t ht
  simpa using this
 have hlt : ∀ t ∈ fn.params.toList, C.prog.readableRec t = true ∧ t < C.prog.types.size := fun t ht => by
  have h := (hpar t ht).1
  simp only [isVar, Bool.and_eq_true, decide_eq_true_eq] at h
  exact ⟨(hpar t ht).2, h.1⟩
 obtain ⟨p, q, hA, hV, rfl, hfz, hnd⟩ := hW
 rw [R.vars] at hV
 obtain ⟨rfl, rfl⟩ := trodVars_none hV
 have hlen := l8 hA
 have hw := lY _ _ _ _ hlen hsz
 obtain ⟨xs, hxs, hrep⟩ := oE (r := .any) (base := base) R.laid hpar (fun j t v h1 h2 => hval j t v (by simpa using h1) (by simpa using h2)) hA hw
 have hc := (law xs hxs).2 (· < Wd.heap.size) Wd args.toList (fun b hb => hb) (hT Wd hXw) hrep
 rw [Array.toArray_toList] at hc
 refine hc.mono fun e W' ⟨v, S', he, hv, hx, _⟩ => ?_
 subst he
 simp only [Rep] at hv; subst hv
 have bel : Below Wd.heap.size Wd W' := ⟨hx.os, hx.tape, hx.output, hx.size, fun k hk => hx.keep k hk (by rintro ⟨i, blk, l, h, _⟩; simp [look] at h)⟩
 have hsp := R.spec H ds (by rw [hlen]; simp)
 refine ⟨_, rfl, ds, [], _, [], p, [], hW', ?_, ?_, ?_, bel.frame _, fun h => by cases h⟩
 ·rw [List.append_nil, hsp, R.res]
  exact trodAll_mk1 (shut_bool R.bool _)
 ·rw [List.append_nil, hsp]
  exact nZ R.laid bel hlt hA
 ·rw [List.append_nil, hsp, R.vars]
  rfl
section
variable {C : Cfg} {Q : Exit → St → Prop} {env env' tl tl' : Env} {mem mem' : Mem} {nx nx' : Nat} {w : World} {S : Nat → Prop} {φ : aW}
def dLe (d d' : D) : Prop := d' = d ∨ d' = .top ∨ (d' = .sl [] ∧ (d = .zs ∨ d = .pl (.slice none 0 0)))
theorem vN {d d' : D} {x : Value} (h : dLe d d') (hr : Rep w S φ d x) : Rep w S φ d' x := by
 rcases h with rfl | rfl | ⟨rfl, rfl | rfl⟩
 ·exact hr
 ·simp [Rep]
 ·simp only [Rep] at hr ⊢; exact .inl ⟨trivial, hr⟩
 ·simp only [Rep] at hr ⊢; exact .inl ⟨trivial, .inl hr⟩
def kA : Env → Env → Prop
 | [], [] => True
 | (k, d) :: e, (k', d') :: e' => k' = k ∧ dLe d d' ∧ kA e e'
 | _, _ => False
theorem rS : ∀ {e e' : Env}, kA e e' → ∀ j d', look e' j = some d' → ∃ d, look e j = some d ∧ dLe d d'
 | [], [], _, j, d', h => by simp [look] at h
 | (k, d) :: e, (k', d1) :: e', h, j, d', hl => by
  obtain ⟨rfl, h1, h2⟩ := h
  simp only [look] at hl ⊢
  by_cases hk : k' = j
  ·simp only [hk, if_true, Option.some.injEq] at hl ⊢; subst hl; exact ⟨d, rfl, h1⟩
  ·simp only [hk, if_false] at hl ⊢; exact rS h2 j d' hl
 | [], _ :: _, h, _, _, _ => h.elim
 | _ :: _, [], h, _, _, _ => h.elim
def o4 : List D → List D → Prop
 | [], [] => True
 | d :: ds, e :: es => dLe d e ∧ o4 ds es
 | _, _ => False
def blkLe (b b' : Blk) : Prop := b' = b ∨ ∃ cs cs', b = .box cs ∧ b' = .box cs' ∧ o4 cs cs'
theorem pU {b : Nat} : ∀ {cs cs' : List D} {o : Nat}, o4 cs cs' → RepCs w S φ cs b o → RepCs w S φ cs' b o
 | [], [], _, _, h => h
 | d :: ds, e :: es, o, ⟨h1, h2⟩, h => by
  simp only [RepCs] at h ⊢
  obtain ⟨⟨x, hx, hr⟩, h⟩ := h
  exact ⟨⟨x, hx, vN h1 hr⟩, pU h2 h⟩
 | [], _ :: _, _, h, _ => h.elim
 | _ :: _, [], _, h, _ => h.elim
theorem pV : ∀ {cs cs' : List D}, o4 cs cs' → cs'.length = cs.length
 | [], [], _ => rfl
 | d :: ds, e :: es, ⟨_, h2⟩ => by simp [pV h2]
 | [], _ :: _, h => h.elim
 | _ :: _, [], h => h.elim
theorem HA {l : Loc} {b b' : Blk} (h : blkLe b b') (hr : BRep w S φ l b) : BRep w S φ l b' := by
 rcases h with rfl | ⟨cs, cs', rfl, rfl, h⟩
 ·exact hr
 ·simp only [BRep] at hr ⊢
  rw [pV h]
  exact ⟨hr.1, hr.2.1, hr.2.2.1, hr.2.2.2.1, pU h hr.2.2.2.2⟩
def gU (mem mem' : Mem) : Prop := ∀ id blk', look mem' id = some blk' → ∃ blk, look mem id = some blk ∧ blkLe blk blk'
theorem aL (mem : Mem) : gU mem mem := fun _ b h => ⟨b, h, .inl rfl⟩
theorem gC (mem : Mem) : gU mem [] := fun _ _ h => by simp [look] at h
theorem aQ {i : Nat} {b : Blk} (h : gU mem mem') (hi : look mem' i = none) : gU ((i, b) :: mem) mem' := fun id blk hl => by
 simp only [look]
 split
 ·rename_i e; subst e; rw [hi] at hl; simp at hl
 ·exact h id blk hl
theorem eA (h : MSim S φ mem nx w) (hm : gU mem mem') (hn : nx ≤ nx') : MSim S φ mem' nx' w :=
 ⟨fun id blk hl => by obtain ⟨b, h1, h2⟩ := hm id blk hl; obtain ⟨l, h3, h4, h5⟩ := h.mem id b h1; exact ⟨l, h3, h4, HA h2 h5⟩, h.inj, h.lt, fun i hi => h.fresh i (Nat.le_trans hn hi), h.sub⟩
theorem Wk_to (he : kA env env') (hm : gU mem mem') (hn : nx ≤ nx') : Wk C ⟨env, tl, mem, nx⟩ ⟨env', [], mem', nx'⟩ := fun B N S φ a w hN hs =>
 ⟨S, φ, ⟨hs.size, hs.defers, fun j d' hj hl => by
   obtain ⟨d, h1, h2⟩ := rS he j d' hl
   exact vN h2 (hs.env j d hj h1), fun j d _ h => by simp [look] at h, eA hs.m hm hn⟩,
  ⟨fun _ h => h, fun _ _ _ => rfl, Nat.le_refl _, fun b _ ⟨id, blk, l, h1, h2, h3, h4⟩ => by obtain ⟨b1, g1, _⟩ := hm id blk h1; exact ⟨id, b1, l, g1, h2, h3, h4⟩, fun _ h => .inl h, rfl, rfl, rfl⟩, Grow.refl (Nat.le_trans hN hn)⟩
theorem Wk_own {j k : Nat} {d : D} (hj : look env j = some d) (hd : d = .pl (.slice none 0 0) ∨ d = .zs) : Wk C ⟨env, tl, mem, nx⟩ ⟨upd env j (.osl nx 0 0 0), [], (nx, .arr 0 k []) :: mem, nx + 1⟩ := fun B N S φ a w hN hs => by
 have hm1 : MSim S φ mem (nx + 1) w := eA hs.m (aL _) (Nat.le_succ _)
 obtain ⟨φ', h1, h2, h3, h4, h5⟩ := pD (k := k) hm1 (hs.m.fresh nx (Nat.le_refl _)) (Nat.lt_succ_self _)
 refine ⟨S, φ', ⟨hs.size, hs.defers, fun i d' hi hl => ?_, fun j d _ h => by simp [look] at h, h2⟩, h4, ⟨Nat.le_succ_of_le hN, fun i hi hnn => by rw [h5 i (by simp only at hN; omega)]; exact hnn, h3.loc⟩⟩
 rcases dC j _ env i d' hl with ⟨rfl, rfl⟩ | ⟨_, hl⟩
 ·have hr := hs.env i d hi hj
  have hz : Zs S (a.tmps.getD i undef) := by
   rcases hd with rfl | rfl
   ·simp only [Rep] at hr; exact .inl hr
   ·simpa only [Rep] using hr
  simp only [Rep]
  refine ⟨_, h1, Nat.le_refl _, ?_, fun _ => .inl ⟨rfl, trivial, trivial, hz⟩⟩
  rcases hz with h | ⟨p, h⟩ <;> exact ⟨_, _, _, h⟩
 ·exact Rep.mono h3 _ _ (hs.env i d' hi hl)
theorem uN {b : Nat} {d d' : D} : ∀ {cs : List D} {off o : Nat}, cs[off]? = some d → (∀ x, Rep w S φ d x → Rep w S φ d' x) → RepCs w S φ cs b o → RepCs w S φ (cs.set off d') b o
 | [], _, _, h, _, _ => by simp at h
 | c :: cs, 0, o, h, hd, hr => by
  simp only [List.getElem?_cons_zero, Option.some.injEq] at h; subst h
  simp only [List.set_cons_zero, RepCs] at hr ⊢
  obtain ⟨⟨x, hx, hr1⟩, h⟩ := hr
  exact ⟨⟨x, hx, hd x hr1⟩, h⟩
 | c :: cs, off + 1, o, h, hd, hr => by
  simp only [List.set_cons_succ, RepCs] at hr ⊢
  exact ⟨hr.1, uN (by simpa using h) hd hr.2⟩
theorem DX {id off : Nat} {cs : List D} {d d' : D} (h : MSim S φ mem nx w) (hl : look mem id = some (.box cs)) (ho : cs[off]? = some d) (hd : ∀ x, Rep w S φ d x → Rep w S φ d' x) :
  MSim S φ (upd mem id (.box (cs.set off d'))) nx w :=
 ⟨fun i blk hi => by
  rcases dC id _ mem i blk hi with ⟨rfl, rfl⟩ | ⟨_, hi⟩
  ·obtain ⟨l, h1, h2, h3⟩ := h.mem i _ hl
   refine ⟨l, h1, h2, ?_⟩
   simp only [BRep, List.length_set] at h3 ⊢
   exact ⟨h3.1, h3.2.1, h3.2.2.1, h3.2.2.2.1, uN ho hd h3.2.2.2.2⟩
  ·exact h.mem i blk hi, h.inj, h.lt, h.fresh, h.sub⟩
theorem GU {id off k : Nat} {cs : List D} {d : D} (hl : look mem id = some (.box cs)) (ho : cs[off]? = some d) (hd : d = .pl (.slice none 0 0) ∨ d = .zs) :
  Wk C ⟨env, tl, mem, nx⟩ ⟨env, [], (nx, .arr 0 k []) :: upd mem id (.box (cs.set off (.osl nx 0 0 0))), nx + 1⟩ := fun B N S φ a w hN hs => by
 have hm1 : MSim S φ mem (nx + 1) w := eA hs.m (aL _) (Nat.le_succ _)
 obtain ⟨φ', h1, h2, h3, h4, h5⟩ := pD (k := k) hm1 (hs.m.fresh nx (Nat.le_refl _)) (Nat.lt_succ_self _)
 have hne : nx ≠ id := by
  rintro rfl
  obtain ⟨l, hφ, _⟩ := hs.m.mem _ _ hl
  rw [hs.m.fresh nx (Nat.le_refl _)] at hφ; simp at hφ
 have hl2 : look ((nx, Blk.arr 0 k []) :: mem) id = some (.box cs) := by simp only [look, hne, if_false]; exact hl
 have hm2 := DX (off := off) (d' := .osl nx 0 0 0) h2 hl2 ho (fun x hr => by
  have hz : Zs S x := by
   rcases hd with rfl | rfl
   ·simp only [Rep] at hr; exact .inl hr
   ·simpa only [Rep] using hr
  simp only [Rep]
  refine ⟨_, h1, Nat.le_refl _, ?_, fun _ => .inl ⟨rfl, trivial, trivial, hz⟩⟩
  rcases hz with h | ⟨p, h⟩ <;> exact ⟨_, _, _, h⟩)
 simp only [upd, hne, if_false] at hm2
 refine ⟨S, φ', ⟨hs.size, hs.defers, fun i d' hi hl => Rep.mono h3 _ _ (hs.env i d' hi hl), fun j d _ h => by simp [look] at h, hm2⟩, ?_, ⟨Nat.le_succ_of_le hN, fun i hi hnn => by rw [h5 i (by simp only at hN; omega)]; exact hnn, h3.loc⟩⟩
 refine h4.trans ⟨fun _ h => h, fun _ _ _ => rfl, Nat.le_refl _, ?_, fun _ h => .inl h, rfl, rfl, rfl⟩
 rintro b _ ⟨i, blk, l, g1, g2, g3, g4⟩
 simp only [look] at g1
 by_cases e : nx = i
 ·subst e; exact ⟨nx, .arr 0 k [], l, by simp [look], g2, g3, g4⟩
 ·simp only [e, if_false] at g1
  rcases dC id _ mem i blk g1 with ⟨rfl, rfl⟩ | ⟨_, g1⟩
  ·exact ⟨i, _, l, hl2, g2, g3, g4⟩
  ·exact ⟨i, blk, l, by simp only [look, e, if_false]; exact g1, g2, g3, g4⟩
def uU {α : Type} (C : Cfg) (E : α → Nat → Env) (M : α → Nat → Mem) (inv : α → Nat → Prop) (μ : α → Nat) (y : α) (s : St) : Prop :=
 ∃ z n, inv z n ∧ μ z < μ y ∧ Wk C s ⟨E z n, [], M z n, n⟩
theorem aK {α : Type} {E : α → Nat → Env} {M : α → Nat → Mem} {inv : α → Nat → Prop} {μ : α → Nat} {y : α} (z : α) (hi : inv z nx) (hlt : μ z < μ y) (he : kA env (E z nx)) (hm : gU mem (M z nx)) :
  uU C E M inv μ y ⟨env, tl, mem, nx⟩ := ⟨z, nx, hi, hlt, Wk_to he hm (Nat.le_refl _)⟩
theorem CB {α : Type} {x : AC} (E : α → Nat → Env) (M : α → Nat → Mem) (inv : α → Nat → Prop) (μ : α → Nat)
  (h0 : ∃ x0 n0, inv x0 n0 ∧ Wk C ⟨env, [], mem, nx⟩ ⟨E x0 n0, [], M x0 n0, n0⟩)
  (round : ∀ y n, inv y n → A C x (dG C (eV (uU C E M inv μ y) Q) []) (E y n) (M y n) n) : A C (.loop x) Q env mem nx := by
 rw [rM]
 obtain ⟨x0, n0, hi, hw⟩ := h0
 refine nY hw ?_
 refine FH (α := α × Nat) (fun p => ⟨E p.1 p.2, [], M p.1 p.2, p.2⟩) (fun p => inv p.1 p.2) (fun p => μ p.1) (fun p hp => ?_) (x0, n0) hi
 refine GL ?_ (F1 (round p.1 p.2 hp))
 intro e s h
 rw [wP] at h
 cases e with
 | normal =>
  obtain ⟨z, n, h1, h2, h3⟩ := h
  exact ⟨(z, n), h1, h2, h3⟩
 | _ => exact h
theorem CG {α : Type} {x : AC} (E : α → Nat → Env) (M : α → Nat → Mem) (inv : α → Nat → Prop) (μ : α → Nat) (x0 : α) (h0 : inv x0 nx) (he : kA env (E x0 nx)) (hm : gU mem (M x0 nx))
  (round : ∀ y n, inv y n → A C x (dG C (eV (uU C E M inv μ y) Q) []) (E y n) (M y n) n) : A C (.loop x) Q env mem nx :=
 CB E M inv μ ⟨x0, nx, h0, Wk_to he hm (Nat.le_refl _)⟩ round
def oY (ws : List Nat) : Env → Env
 | [] => []
 | (k, d) :: e => (k, if ws.contains k then .top else d) :: oY ws e
def oW : Env → List (Nat × D) → Env
 | e, [] => e
 | e, (j, d) :: r => oW (upd e j d) r
@[simp] theorem tops_nil {ws : List Nat} : oY ws [] = [] := (rfl)
@[simp] theorem tops_cons {ws : List Nat} {k : Nat} {d : D} {e : Env} : oY ws ((k, d) :: e) = (k, if ws.contains k then .top else d) :: oY ws e := (rfl)
@[simp] theorem upds_nil {e : Env} : oW e [] = e := by cases e <;> rfl
@[simp] theorem upds_cons {e : Env} {j : Nat} {d : D} {r : List (Nat × D)} : oW e ((j, d) :: r) = oW (upd e j d) r := by cases e <;> rfl
@[simp] theorem dLe_same {d : D} : dLe d d = True := by simp [dLe]
@[simp] theorem dLe_top {d : D} : dLe d .top = True := by simp [dLe]
@[simp] theorem envLe_nil : kA [] [] = True := (rfl)
@[simp] theorem envLe_cons {k k' : Nat} {d d' : D} {e e' : Env} : kA ((k, d) :: e) ((k', d') :: e') = (k' = k ∧ dLe d d' ∧ kA e e') := (rfl)
@[simp] theorem memLe_same {m : Mem} : gU m m = True := eq_true (aL m)
@[simp] theorem memLe_none {m : Mem} : gU m [] = True := eq_true (gC m)
theorem dO {x : AC} {j k : Nat} {d : D} (hj : look env j = some d) (hd : d = .pl (.slice none 0 0) ∨ d = .zs) (h : A C (.loop x) Q (upd env j (.osl nx 0 0 0)) ((nx, .arr 0 k []) :: mem) (nx + 1)) : A C (.loop x) Q env mem nx := by
 rw [rM] at h ⊢
 exact nY (Wk_own hj hd) h
theorem l6 {x : AC} {id off k : Nat} {cs : List D} {d : D} (hl : look mem id = some (.box cs)) (ho : cs[off]? = some d) (hd : d = .pl (.slice none 0 0) ∨ d = .zs)
  (h : A C (.loop x) Q env ((nx, .arr 0 k []) :: upd mem id (.box (cs.set off (.osl nx 0 0 0)))) (nx + 1)) : A C (.loop x) Q env mem nx := by
 rw [rM] at h ⊢
 exact nY (GU hl ho hd) h
@[simp] theorem HP {next : St → Prop} {s : St} : eV next Q .normal s = next s := (rfl)
@[simp] theorem thenQ_ret {next : St → Prop} {s : St} : eV next Q .ret s = Q .ret s := (rfl)
@[simp] theorem thenQ_exit {next : St → Prop} {s : St} {i : Nat} : eV next Q (.exit i) s = Q (.exit i) s := (rfl)
@[simp] theorem thenQ_goto {next : St → Prop} {s : St} {i : Nat} : eV next Q (.goto i) s = Q (.goto i) s := (rfl)
@[simp] theorem DP {s : St} : oD Q .normal s = Q .normal s := (rfl)
@[simp] theorem HO {s : St} : oD Q .ret s = Q .ret s := (rfl)
@[simp] theorem GQ {s : St} {i : Nat} : oD Q (.exit i) s = Q (.exit i) s := (rfl)
theorem aH {P : Program} {f : FuncId} {xs : List D} {r : D} {K : KD} (h : Pure P f xs r) (hi : D.imms xs = true) (hk : K r mem nx) : pcK P (some (.fn f [])) (some xs) mem nx K := by
 refine ⟨r, .inl ?_, ?_, hk⟩ <;> simpa
end
def em {α : Type} (enc : α → List D) (l : List α) : List (List D) := l.map enc
section
variable {α : Type} {enc : α → List D} {l : List α}
@[simp] theorem em_nil : em enc [] = [] := (rfl)
@[simp] theorem wC : (em enc l).length = l.length := by simp [em]
@[simp] theorem FT {i : Nat} : (em enc l).take i = em enc (l.take i) := by simp [em, List.map_take]
@[simp] theorem GS {i : Nat} : (em enc l).drop i = em enc (l.drop i) := by simp [em, List.map_drop]
@[simp 1100] theorem em_get [Inhabited α] {i : Nat} : (em enc l)[i]? = if i < l.length then some (enc (l[i]?.getD default)) else none := GF enc l i
theorem q_ {i : Nat} {x : α} : (em enc l).set i (enc x) = em enc (l.set i x) := by simp [em, List.map_set]
theorem fL {x : α} : em enc l ++ [enc x] = em enc (l ++ [x]) := by simp [em]
@[simp] theorem em_app2 {k : List α} : em enc l ++ em enc k = em enc (l ++ k) := by simp [em]
theorem jR (h : ∀ x, D.imms (enc x) = true) : D.immss (em enc l) = true := by
 induction l with
 | nil => rfl
 | cons a l ih => simp only [em, List.map_cons, D.immss] at ih ⊢; rw [h, ih]; rfl
theorem em_els {k : Nat} (h : ∀ x, (enc x).all D.cell = true) (hk : ∀ x, (enc x).length = k) : (em enc l).all (fun e => e.length == k && e.all D.cell) = true := by
 simp only [em, List.all_map, List.all_eq_true, Function.comp_apply, Bool.and_eq_true, beq_iff_eq]
 intro x _; exact ⟨hk x, List.all_eq_true.1 (h x)⟩
theorem lS [Inhabited α] {mem : Mem} {k : Nat} {j : IntKind} {i : Int} (hk : ∀ x, (enc x).length = k) :
  iaD mem k (.sl (em enc l)) (.pl (.int j i)) = if 0 ≤ i ∧ i < l.length then some (.pt (enc (l[i.toNat]?.getD default))) else none := by
 have := ia_map (f := enc) (l := l) (mem := mem) (j := j) (i := i) hk
 simpa [em] using this
theorem sK {p : α → Prop} : ∀ {es : List (List D)}, (∀ c ∈ es, ∃ x, c = enc x ∧ p x) → ∃ l : List α, es = em enc l ∧ ∀ x ∈ l, p x
 | [], _ => ⟨[], rfl, by simp⟩
 | c :: es, h => by
  obtain ⟨x, rfl, hx⟩ := h c (by simp)
  obtain ⟨l, rfl, hl⟩ := sK (es := es) fun d hd => h d (by simp [hd])
  exact ⟨x :: l, rfl, by simpa using ⟨hx, hl⟩⟩
end
section
variable {C : Cfg} {P : Program} {mem mf mk : Mem} {nx : Nat} {w : World} {S : Nat → Prop} {φ : aW} {f : FuncId} {args : List D} {K : KD}
theorem aD (h : bH P f args mem nx K) : clK P (some (.fn f [])) (some args) mem nx K := by
 unfold clK; simpa using h
theorem iX {caps : List D} (h : bH P f (args ++ caps) mem nx K) : clK P (some (.fn f caps)) (some args) mem nx K := h
theorem aG (mem : Mem) : bR mem mem := fun _ _ h => h
theorem iI (mem : Mem) : bR mem [] := fun _ _ h => by simp [look] at h
theorem xR {i : Nat} {b : Blk} {m m' : Mem} (h : bR m m') : bR ((i, b) :: m) ((i, b) :: m') := fun id blk hl => by
 simp only [look] at hl ⊢
 split at hl
 ·rename_i e; simpa [e] using hl
 ·rename_i e; simpa [e] using h id blk hl
theorem aE {i : Nat} {b : Blk} {m m' : Mem} (h : bR m m') (hi : look m' i = none) : bR ((i, b) :: m) m' := fun id blk hl => by
 simp only [look]
 split
 ·rename_i e; subst e; rw [hi] at hl; simp at hl
 ·exact h id blk hl
theorem eR {m m' : Mem} (h : bR m m') : gU m m' := fun i b hl => ⟨b, h i b hl, .inl rfl⟩
theorem tL {args' : List D} {r : D} (h1 : bR mem mf) (h2 : bR mem mk) (hd : ∀ i, look mf i = none ∨ look mk i = none) (hfr : dE mf 100 args = some args') (hp : Pure P f args' r) (hk : K r mk nx) :
  bH P f args mem nx K := by
 refine ⟨hp.1, fun S φ w xs hm htb hx => ?_⟩
 have hmf : MSim S φ mf nx w := eA hm (eR h1) (Nat.le_refl _)
 have hmk0 : MSim S φ mk nx w := eA hm (eR h2) (Nat.le_refl _)
 have hargs := fF hmf 100 args args' xs hfr hx
 have hS2 : ∀ b, SF S φ mf b → b < w.heap.size := by
  rintro b (h | ⟨i, blk, l, _, g2, g3, rfl⟩)
  ·exact hm.sub b h
  ·exact hm.lt i l g2 g3
 have hmk : MSim (SF S φ mf) φ mk nx w := ⟨fun i blk hi => by
   obtain ⟨l, g1, g2, g3⟩ := hmk0.mem i blk hi
   refine ⟨l, g1, fun hr hs => ?_, BRep.mono gJ (fun _ => rfl) blk g3⟩
   rcases hs with hs | ⟨j, blk', l', k1, k2, k3, k4⟩
   ·exact g2 hr hs
   ·have := hm.inj j i l' l k2 g1 k3 hr k4
    subst this
    rcases hd j with e | e
    ·rw [e] at k1; simp at k1
    ·rw [e] at hi; simp at hi, hm.inj, hm.lt, hm.fresh, hS2⟩
 refine (hp.2 (SF S φ mf) w xs hS2 (htb.mono fun b h => .inl h) hargs).mono ?_
 rintro e w' ⟨v, S', rfl, hr, hx', hS'⟩
 have hsame : ∀ b, b < w.heap.size → w'.heap[b]? = w.heap[b]? := fun b hb => hx'.keep b hb (by rintro ⟨i, blk, l, h1, _⟩; simp [look] at h1)
 have hst2 : Stays w (SF S φ mf) φ w' S' φ := Stays.of_heap hx'.sub (fun b hb => hsame b (hS2 b hb)) (fun _ _ h => h)
 have hst : Stays w S φ w' S' φ := ⟨fun b hb => hst2.sub b (.inl hb), fun b hb => hst2.cell b (.inl hb), hst2.loc⟩
 have hnews : ∀ b, S' b → SF S φ mf b ∨ w.heap.size ≤ b := fun b hb => by
  rcases hx'.news b hb with h | h | ⟨i, blk, l, h1, _⟩
  ·exact .inl h
  ·exact .inr h
  ·simp [look] at h1
 refine ⟨v, r, mk, nx, S', φ, rfl, hk, Nat.le_refl _, ⟨?_, hm.inj, ?_, hm.fresh, hS'⟩, Rep.mono (φ' := φ) ⟨fun _ h => h, fun _ _ _ => rfl, fun _ _ h => by simp [bS] at h⟩ _ _ hr, hst,
  ⟨fun b hb => hx'.sub b (.inl hb), fun b hb _ => hsame b hb, hx'.size, fun b _ ⟨i, blk, l, g1, g2, g3, g4⟩ => ⟨i, blk, l, h2 i blk g1, g2, g3, g4⟩, fun b hb => ?_, hx'.os, hx'.output, hx'.tape⟩, fun _ _ h => h⟩
 ·intro i blk hi'
  obtain ⟨l, h1, h2, h3⟩ := hmk.mem i blk hi'
  refine ⟨l, h1, fun hr hs => ?_, h3.mono hst2 fun hr => hsame _ (hm.lt i l h1 hr)⟩
  rcases hnews _ hs with h | h
  ·exact h2 hr h
  ·have := hm.lt i l h1 hr; omega
 ·intro i l h1 hr
  exact Nat.lt_of_lt_of_le (hm.lt i l h1 hr) hx'.size
 ·rcases hnews b hb with (h | ⟨i, blk, l, g1, g2, g3, g4⟩) | h
  ·exact .inl h
  ·exact .inr (.inr ⟨i, blk, l, h1 i blk g1, g2, g3, g4⟩)
  ·exact .inr (.inl h)
@[simp] theorem RetC_ret {rs : List RV} {s : St} : RetC rs K .ret s = ∃ ds, j6 s.env s.mem rs = some ds ∧ ∃ mem', bR s.mem mem' ∧ K (iN ds) mem' s.nx := (rfl)
@[simp] theorem HQ {rs : List RV} {s : St} : RetC rs K .normal s = ∃ ds, j6 s.env s.mem rs = some ds ∧ ∃ mem', bR s.mem mem' ∧ K (iN ds) mem' s.nx := (rfl)
theorem jY {args : List D} {res : D} (hi : D.imms args = true) (h : bH P f args [] 0 (fun d mem _ => frz mem 100 d = some res)) : Pure P f args res := by
 refine ⟨h.1, fun S w xs hS htb hx => (h.2 S bS w xs ⟨fun i b h => by simp [look] at h, fun i j l m h => by simp [bS] at h, fun i l h => by simp [bS] at h, fun _ _ => rfl, hS⟩ htb hx).mono ?_⟩
 rintro e w' ⟨v, d, mem', nx', S', φ', rfl, hk, _, hm, hr, hst, hx', _⟩
 refine ⟨v, SF S' φ' mem', rfl, g_ hm 100 _ _ _ hk hr, ⟨fun b hb => .inl (hx'.sub b hb), hx'.keep, hx'.size, fun b _ h => h, ?_, hx'.os, hx'.output, hx'.tape⟩, ?_⟩
 ·rintro b (h | h)
  ·exact hx'.news b h
  ·by_cases hlt : b < w.heap.size
   ·exact .inr (.inr (hx'.own b hlt h))
   ·exact .inr (.inl (by omega))
 ·rintro b (h | ⟨i, blk, l, _, h2, h3, rfl⟩)
  ·exact hm.sub b h
  ·exact hm.lt i l h2 h3
end
section
variable {P : Program}
def scal : TypeDesc → Value → Value → Option Bool
 | .bool, .bool a, .bool b => some (a == b)
 | .int _, .int k a, .int k' b => if k = k' then some (a == b) else none
 | .string, .string a, .string b => some (a == b)
 | .float _, .float k a, .float k' b => if k = k' then some (Op.floatEq k a b) else none
 | .complex _, .complex k a b, .complex k' a' b' => if k = k' then some (Op.floatEq k a a' && Op.floatEq k b b') else none
 | _, _, _ => none
def qR (P : Program) (vs us : List Value) : List Field → Option Bool
 | [] => some true
 | f :: fs => if f.name = "_" then none else match P.underlying f.type, vs[f.offset]?, us[f.offset]? with
  | some d, some a, some b => match scal d a b, qR P vs us fs with
   | some r, some q => some (r && q)
   | _, _ => none
  | _, _, _ => none
theorem CP {t : TypeId} {d : TypeDesc} {n : Nat} {a b : Value} {r : Bool} (hd : P.underlying t = some d) (h : scal d a b = some r) : Sem.look P (Op.equalIn (n + 1) t a b) = some r ∧ d.isRow = false := by
 unfold scal at h
 split at h
 ·refine ⟨?_, rfl⟩
  simp only [Option.some.injEq] at h; subst h
  unfold Op.equalIn
  simp [Sem.look, underlying, program, hd, Pure.pure, Bind.bind, Sem.bind]
 ·rename_i k a k' b
  refine ⟨?_, rfl⟩
  simp only [Option.ite_none_right_eq_some, Option.some.injEq] at h
  obtain ⟨rfl, rfl⟩ := h
  unfold Op.equalIn
  simp [Sem.look, underlying, program, hd, Pure.pure, Bind.bind, Sem.bind]
 ·refine ⟨?_, rfl⟩
  simp only [Option.some.injEq] at h; subst h
  unfold Op.equalIn
  simp [Sem.look, underlying, program, hd, Pure.pure, Bind.bind, Sem.bind]
 ·refine ⟨?_, rfl⟩
  simp only [Option.ite_none_right_eq_some, Option.some.injEq] at h
  obtain ⟨rfl, rfl⟩ := h
  unfold Op.equalIn
  simp [Sem.look, underlying, program, hd, Pure.pure, Bind.bind, Sem.bind]
 ·refine ⟨?_, rfl⟩
  simp only [Option.ite_none_right_eq_some, Option.some.injEq] at h
  obtain ⟨rfl, rfl⟩ := h
  unfold Op.equalIn
  simp [Sem.look, underlying, program, hd, Pure.pure, Bind.bind, Sem.bind]
 ·simp at h
theorem tV {t : TypeId} {d : TypeDesc} {cs : Array Value} {off : Nat} {a : Value} (hd : P.underlying t = some d) (hr : d.isRow = false) (h : cs[off]? = some a) : Sem.look P (part t cs off) = some a := by
 unfold part
 simp only [cA]
 have : Sem.look P (isAgg t) = some false := by
  unfold isAgg
  simp only [cA, underlying, program, Sem.look, hd, Option.bind_some]
  cases d <;> simp_all [TypeDesc.isRow, Sem.look, Pure.pure]
 rw [this]
 simp only [Option.bind_some, Bool.false_eq_true, if_false, h]
 rfl
def rK (d : Nat) (xs ys : Array Value) (f : Field) (_ : Option Bool × Unit) : Sem (ForInStep (Option Bool × Unit)) :=
 if f.name ≠ "_" then
  (part f.type xs f.offset).bind fun a => (part f.type ys f.offset).bind fun b => (Op.equalIn d f.type a b).bind fun r => if (!r) = true then Sem.pure (ForInStep.done (some false, ())) else Sem.pure (ForInStep.yield (none, ()))
 else Sem.pure (ForInStep.yield (none, ()))
def eqFin (s : Option Bool × Unit) : Sem Bool :=
 match s.1 with
 | some r => Sem.pure r
 | none => Sem.pure true
theorem pQ {n : Nat} {vs us : List Value} : ∀ (l : List Field) (r : Bool), qR P vs us l = some r → Sem.look P ((forIn l ((none : Option Bool), ()) (rK (n + 1) vs.toArray us.toArray) : Sem (Option Bool × Unit)).bind eqFin) = some r
 | [], r, h => by
  simp only [qR, Option.some.injEq] at h; subst h
  rfl
 | f :: l, r, h => by
  simp only [qR] at h
  split at h
  ·simp at h
  ·rename_i hn
   split at h
   ·rename_i d a b hd ha hb
    split at h
    ·rename_i p q hp hq
     simp only [Option.some.injEq] at h; subst h
     obtain ⟨h1, h2⟩ := CP (n := n) hd hp
     have e1 : Sem.look P (part f.type vs.toArray f.offset) = some a := tV hd h2 (by simpa using ha)
     have e2 : Sem.look P (part f.type us.toArray f.offset) = some b := tV hd h2 (by simpa using hb)
     have hb0 : Sem.look P (rK (n + 1) vs.toArray us.toArray f (none, ())) = some (if (!p) = true then ForInStep.done (some false, ()) else ForInStep.yield (none, ())) := by
      unfold rK
      rw [if_pos hn]
      show Sem.look P (part f.type vs.toArray f.offset >>= fun a => part f.type us.toArray f.offset >>= fun b => Op.equalIn (n + 1) f.type a b >>= fun r => if (!r) = true then Sem.pure (ForInStep.done (some false, ())) else Sem.pure (ForInStep.yield (none, ()))) = _
      rw [cA, e1, Option.bind_some, cA, e2, Option.bind_some, cA, h1, Option.bind_some]
      cases p <;> rfl
     have ih := pQ (n := n) l q hq
     show Sem.look P ((forIn (f :: l) ((none : Option Bool), ()) (rK (n + 1) vs.toArray us.toArray) : Sem (Option Bool × Unit)) >>= eqFin) = _
     rw [List.forIn_cons, cA, cA, hb0, Option.bind_some]
     cases p with
     | false => rfl
     | true =>
      simp only [Bool.not_true, Bool.false_eq_true, if_false, Bool.true_and]
      rw [← cA]; exact ih
    ·simp at h
   ·simp at h
theorem EH {t : TypeId} {fs : Array Field} {vs us : List Value} {r : Bool} (hu : P.underlying t = some (.struct fs)) (hs : P.stoodInHeld t = false) (h : qR P vs us fs.toList = some r) : Sem.look P (Op.equal t (.agg vs.toArray) (.agg us.toArray)) = some r := by
 have := pQ (n := 9998) fs.toList r h
 rw [show 9998 + 1 = 9999 from rfl] at this
 show Sem.look P (Op.equalIn (9999 + 1) t (.agg vs.toArray) (.agg us.toArray)) = some r
 unfold Op.equalIn
 simp only [underlying, program, Bind.bind, Sem.bind, Sem.look, hu, Pure.pure, hs, Bool.false_eq_true, if_false, ← Array.forIn_toList]
 refine Eq.trans (congrArg (Sem.look P) ?_) this
 congr 1
 ·funext s
  rcases s with ⟨_ | r, _⟩ <;> rfl
theorem EN {t : TypeId} {fs : Array Field} {xs ys : List D} {vs us : List Value} {r : Bool} (hu : P.underlying t = some (.struct fs)) (hs : P.stoodInHeld t = false) (hg : P.eqGuardType P.depth t = false)
  (hx : D.vals xs = some vs) (hy : D.vals ys = some us) (h : qR P vs us fs.toList = some r) : bG P .eql t (.agg xs) (.agg ys) = some (.pl (.bool r)) ∧ bG P .neq t (.agg xs) (.agg ys) = some (.pl (.bool (!r))) := by
 have he := EH hu hs h
 have g : ∀ op, Sem.look P (eqGuard op t (.tmp 0) (.tmp 0) (.agg vs.toArray) (.agg us.toArray)) = some () := by
  intro op
  have e : ∀ (K : Sem Unit), Sem.look P (Sem.program fun p => Sem.program fun q => if !p.eqGuardType q.depth t then Pure.pure () else K) = some () := by
   intro K; simp only [Sem.look, hg]; rfl
  cases op <;> first | rfl | exact e _
 refine ⟨?_, ?_⟩
 ·simp only [bG, hx, hy]
  rw [cA, g, Option.bind_some]
  simp only [binOp, cA, he, Option.bind_some]; rfl
 ·simp only [bG, hx, hy]
  rw [cA, g, Option.bind_some]
  simp only [binOp, cA, he, Option.bind_some]
  cases r <;> rfl
end
theorem lpG (C : Cfg) (x : AC) (js : List Nat) {α : Type} {Q : Exit → St → Prop} {env : Env} {mem : Mem} {nx : Nat} (V : α → Nat → List (Nat × D)) (M : α → Nat → Mem) (inv : α → Nat → Prop) (μ : α → Nat) (x0 : α) (h0 : inv x0 nx) (he : kA env (oW (oY js env) (V x0 nx))) (hm : gU mem (M x0 nx))
 (round : ∀ y n, inv y n → A C x (dG C (eV (uU C (fun y n => oW (oY js env) (V y n)) M inv μ y) Q) []) (oW (oY js env) (V y n)) (M y n) n) : A C (.loop x) Q env mem nx :=
 CG (fun y n => oW (oY js env) (V y n)) M inv μ x0 h0 he hm round
structure FI (P : Program) (f : FuncId) (C : Cfg) (a : AC) (rs : List RV) (g : List Nat) (k : Nat) : Prop where
 pu : ∀ {args : List D} {res : D}, args.length ≤ k → A C a (dG C (RetQ rs res) []) (nU g args) [] 0 → Pure P f args res
 ct : ∀ {args : List D} {mem : Mem} {nx : Nat} {K : KD}, args.length ≤ k → ((∀ i, nx ≤ i → look mem i = none) → A C a (dG C (RetC rs K) []) (nU g args) mem nx) → bH P f args mem nx K
theorem FI_of {C : Cfg} {P : Program} {f : FuncId} {fn : Func} {c : Code} {ac : AC} {rs : List RV} {g : List Nat} {k : Nat} (hf : C.P.funcs[f]? = some fn) (hname : (fn.name == "runtime.NumGoroutine") = false) (hb : fn.body = some c) (hn : fn.ntmps = C.n) (hrs : fn.results.toList.mapM C.rv = some rs) (hc : C.comp c = some ac) (hP : C.P = P) (hg : C.gs = g) (hk : C.n = k) : FI P f C ac rs g k := by
 subst hP hg hk
 exact ⟨fun hl h => F8 hf hname hb hn hl hrs hc h, fun hl h => EU hf hname hb hn hl hrs hc h⟩
end Go.Fx
namespace Go.Proofs
open Go.Shelf
def Tryz.keys30_ren : Go.Shelf.Ren := ⟨fun | 7 => 30 | 10 => 50 | n => n, fun | 23 => 63 | 26 => 9 | 3 => 3 | 28 => 72 | 0 => 0 | 27 => 71 | 33 => 94 | 4 => 4 | n => n, fun | n => n⟩
theorem Tryz.keys30 : Go.Proofs.SlLaysZ.n7 Tryz.prog Tryz.keys30_ren := {
 mixed := by kernel_rfl
 f7 := ⟨Tryz.f30.name, by decide, Tryz.func30.trans (congrArg some (by kernel_rfl))⟩
 f10 := ⟨Tryz.f50.name, by decide, Tryz.func50.trans (congrArg some (by kernel_rfl))⟩
 t0 := Tryz.underlying0
 a0 := Tryz.isAgg0
 z0 := Tryz.sizeOf0
 v0 := Tryz.zeroValue0
 t4 := Tryz.underlying4
 a4 := Tryz.isAgg4
 z4 := Tryz.sizeOf4
 v4 := Tryz.zeroValue4
 t23 := Tryz.underlying63
 a23 := Tryz.isAgg63
 z23 := Tryz.sizeOf63
 v23 := Tryz.zeroValue63
 t26 := Tryz.underlying9
 a26 := Tryz.isAgg9
 z26 := Tryz.sizeOf9
 v26 := Tryz.zeroValue9
 t27 := Tryz.underlying71
 a27 := Tryz.isAgg71
 z27 := Tryz.sizeOf71
 v27 := Tryz.zeroValue71
 t28 := Tryz.underlying72
 a28 := Tryz.isAgg72
 z28 := Tryz.sizeOf72
 v28 := Tryz.zeroValue72
 t33 := Tryz.underlying94
 a33 := Tryz.isAgg94
 z33 := Tryz.sizeOf94
 v33 := Tryz.zeroValue94 }
def Tryz.sorted29_ren : Go.Shelf.Ren := ⟨fun | 6 => 29 | 8 => 48 | 9 => 49 | 11 => 60 | 13 => 62 | 12 => 61 | 23 => 85 | 24 => 86 | 14 => 76 | 15 => 77 | 16 => 78 | 17 => 79 | 18 => 80 | 19 => 81 | 20 => 82 | 21 => 83 | 22 => 84 | 25 => 100 | 26 => 101 | 27 => 102 | 28 => 103 | 29 => 104 | 30 => 105 | 31 => 113 | n => n, fun | 26 => 9 | 28 => 72 | 24 => 35 | 0 => 0 | 3 => 3 | 37 => 108 | 48 => 130 | 50 => 132 | 4 => 4 | 40 => 122 | 39 => 121 | 45 => 127 | 5 => 5 | 9 => 9 | 51 => 146 | 55 => 150 | 57 => 158 | 58 => 137 | 33 => 94 | n => n, fun | n => n⟩
theorem Tryz.sorted29 : Go.Proofs.SlLaysZ.n6 Tryz.prog Tryz.sorted29_ren := {
 mixed := by kernel_rfl
 f6 := ⟨Tryz.f29.name, by decide, Tryz.func29.trans (congrArg some (by kernel_rfl))⟩
 f8 := ⟨Tryz.f48.name, by decide, Tryz.func48.trans (congrArg some (by kernel_rfl))⟩
 f11 := ⟨Tryz.f60.name, by decide, Tryz.func60.trans (congrArg some (by kernel_rfl))⟩
 t0 := Tryz.underlying0
 a0 := Tryz.isAgg0
 z0 := Tryz.sizeOf0
 v0 := Tryz.zeroValue0
 t24 := Tryz.underlying35
 a24 := Tryz.isAgg35
 z24 := Tryz.sizeOf35
 v24 := Tryz.zeroValue35
 t26 := Tryz.underlying9
 a26 := Tryz.isAgg9
 z26 := Tryz.sizeOf9
 v26 := Tryz.zeroValue9
 t28 := Tryz.underlying72
 a28 := Tryz.isAgg72
 z28 := Tryz.sizeOf72
 v28 := Tryz.zeroValue72
 i26 := by kernel_rfl }
def Tryz.sort49_ren : Go.Shelf.Ren := ⟨fun | 6 => 49 | 8 => 62 | 9 => 61 | 19 => 85 | 20 => 86 | 21 => 76 | 22 => 77 | 23 => 78 | 24 => 79 | 25 => 80 | 26 => 81 | 27 => 82 | 28 => 83 | 29 => 84 | 36 => 100 | 31 => 101 | 32 => 102 | 37 => 103 | 38 => 104 | 39 => 105 | 41 => 113 | n => n, fun | 27 => 35 | 29 => 9 | 3 => 3 | 32 => 108 | 26 => 35 | 0 => 0 | 44 => 130 | 46 => 132 | 4 => 4 | 36 => 122 | 35 => 121 | 41 => 127 | 5 => 5 | 9 => 9 | 53 => 146 | 57 => 150 | 63 => 158 | 64 => 137 | n => n, fun | n => n⟩
theorem Tryz.sort49 : Go.Proofs.SlLaysM.n6 Tryz.prog Tryz.sort49_ren := {
 mixed := by kernel_rfl
 f6 := ⟨Tryz.f49.name, by decide, Tryz.func49.trans (congrArg some (by kernel_rfl))⟩
 f8 := Tryz.func62.trans (congrArg some (by kernel_rfl))
 f9 := ⟨Tryz.f61.name, by decide, Tryz.func61.trans (congrArg some (by kernel_rfl))⟩
 f19 := Tryz.func85.trans (congrArg some (by kernel_rfl))
 f20 := Tryz.func86.trans (congrArg some (by kernel_rfl))
 f21 := ⟨Tryz.f76.name, by decide, Tryz.func76.trans (congrArg some (by kernel_rfl))⟩
 f22 := ⟨Tryz.f77.name, by decide, Tryz.func77.trans (congrArg some (by kernel_rfl))⟩
 f23 := ⟨Tryz.f78.name, by decide, Tryz.func78.trans (congrArg some (by kernel_rfl))⟩
 f24 := ⟨Tryz.f79.name, by decide, Tryz.func79.trans (congrArg some (by kernel_rfl))⟩
 f25 := ⟨Tryz.f80.name, by decide, Tryz.func80.trans (congrArg some (by kernel_rfl))⟩
 f26 := ⟨Tryz.f81.name, by decide, Tryz.func81.trans (congrArg some (by kernel_rfl))⟩
 f27 := ⟨Tryz.f82.name, by decide, Tryz.func82.trans (congrArg some (by kernel_rfl))⟩
 f28 := ⟨Tryz.f83.name, by decide, Tryz.func83.trans (congrArg some (by kernel_rfl))⟩
 f29 := ⟨Tryz.f84.name, by decide, Tryz.func84.trans (congrArg some (by kernel_rfl))⟩
 f31 := Tryz.func101.trans (congrArg some (by kernel_rfl))
 f32 := Tryz.func102.trans (congrArg some (by kernel_rfl))
 f36 := ⟨Tryz.f100.name, by decide, Tryz.func100.trans (congrArg some (by kernel_rfl))⟩
 f37 := ⟨Tryz.f103.name, by decide, Tryz.func103.trans (congrArg some (by kernel_rfl))⟩
 f38 := ⟨Tryz.f104.name, by decide, Tryz.func104.trans (congrArg some (by kernel_rfl))⟩
 f39 := ⟨Tryz.f105.name, by decide, Tryz.func105.trans (congrArg some (by kernel_rfl))⟩
 f41 := ⟨Tryz.f113.name, by decide, Tryz.func113.trans (congrArg some (by kernel_rfl))⟩
 t0 := Tryz.underlying0
 a0 := Tryz.isAgg0
 z0 := Tryz.sizeOf0
 v0 := Tryz.zeroValue0
 t3 := Tryz.underlying3
 a3 := Tryz.isAgg3
 z3 := Tryz.sizeOf3
 v3 := Tryz.zeroValue3
 t4 := Tryz.underlying4
 a4 := Tryz.isAgg4
 z4 := Tryz.sizeOf4
 v4 := Tryz.zeroValue4
 t5 := Tryz.underlying5
 a5 := Tryz.isAgg5
 z5 := Tryz.sizeOf5
 v5 := Tryz.zeroValue5
 t9 := Tryz.underlying9
 a9 := Tryz.isAgg9
 z9 := Tryz.sizeOf9
 v9 := Tryz.zeroValue9
 t26 := Tryz.underlying35
 a26 := Tryz.isAgg35
 z26 := Tryz.sizeOf35
 v26 := Tryz.zeroValue35
 t27 := Tryz.underlying35
 a27 := Tryz.isAgg35
 z27 := Tryz.sizeOf35
 v27 := Tryz.zeroValue35
 t29 := Tryz.underlying9
 a29 := Tryz.isAgg9
 z29 := Tryz.sizeOf9
 v29 := Tryz.zeroValue9
 t32 := Tryz.underlying108
 a32 := Tryz.isAgg108
 z32 := Tryz.sizeOf108
 v32 := Tryz.zeroValue108
 t35 := Tryz.underlying121
 a35 := Tryz.isAgg121
 z35 := Tryz.sizeOf121
 v35 := Tryz.zeroValue121
 t36 := Tryz.underlying122
 a36 := Tryz.isAgg122
 z36 := Tryz.sizeOf122
 v36 := Tryz.zeroValue122
 t41 := Tryz.underlying127
 a41 := Tryz.isAgg127
 z41 := Tryz.sizeOf127
 v41 := Tryz.zeroValue127
 t44 := Tryz.underlying130
 a44 := Tryz.isAgg130
 z44 := Tryz.sizeOf130
 v44 := Tryz.zeroValue130
 t46 := Tryz.underlying132
 a46 := Tryz.isAgg132
 z46 := Tryz.sizeOf132
 v46 := Tryz.zeroValue132
 t53 := Tryz.underlying146
 a53 := Tryz.isAgg146
 z53 := Tryz.sizeOf146
 v53 := Tryz.zeroValue146
 t57 := Tryz.underlying150
 a57 := Tryz.isAgg150
 z57 := Tryz.sizeOf150
 v57 := Tryz.zeroValue150
 t63 := Tryz.underlying158
 a63 := Tryz.isAgg158
 z63 := Tryz.sizeOf158
 v63 := Tryz.zeroValue158
 t64 := Tryz.underlying137
 a64 := Tryz.isAgg137
 z64 := Tryz.sizeOf137
 v64 := Tryz.zeroValue137 }
def Tryz.itoaM37_ren : Go.Shelf.Ren := ⟨fun | 171 => 37 | 243 => 51 | 246 => 63 | 283 => 87 | 284 => 88 | 285 => 89 | 286 => 90 | 129 => 86 | 317 => 106 | 318 => 107 | 319 => 108 | 320 => 109 | 337 => 114 | 338 => 115 | n => n, fun | 3 => 3 | 9 => 9 | 2 => 2 | 4 => 4 | 171 => 133 | 0 => 0 | 53 => 132 | 37 => 22 | 5 => 5 | 173 => 135 | 212 => 154 | 51 => 130 | 20 => 20 | 213 => 155 | 46 => 108 | 232 => 160 | 233 => 161 | n => n, fun | 17 => 0 | 18 => 1 | 19 => 2 | n => n⟩
theorem Tryz.itoaM37 : Go.Proofs.LaysM.n171 Tryz.prog Tryz.itoaM37_ren := {
 mixed := by kernel_rfl
 f129 := Tryz.func86.trans (congrArg some (by kernel_rfl))
 f171 := Tryz.func37.trans (congrArg some (by kernel_rfl))
 f243 := Tryz.func51.trans (congrArg some (by kernel_rfl))
 f246 := Tryz.func63.trans (congrArg some (by kernel_rfl))
 f283 := Tryz.func87.trans (congrArg some (by kernel_rfl))
 f284 := Tryz.func88.trans (congrArg some (by kernel_rfl))
 f285 := Tryz.func89.trans (congrArg some (by kernel_rfl))
 f286 := Tryz.func90.trans (congrArg some (by kernel_rfl))
 f317 := Tryz.func106.trans (congrArg some (by kernel_rfl))
 f318 := Tryz.func107.trans (congrArg some (by kernel_rfl))
 f319 := Tryz.func108.trans (congrArg some (by kernel_rfl))
 f320 := Tryz.func109.trans (congrArg some (by kernel_rfl))
 f337 := Tryz.func114.trans (congrArg some (by kernel_rfl))
 f338 := Tryz.func115.trans (congrArg some (by kernel_rfl))
 t0 := Tryz.underlying0
 a0 := Tryz.isAgg0
 z0 := Tryz.sizeOf0
 v0 := Tryz.zeroValue0
 t2 := Tryz.underlying2
 a2 := Tryz.isAgg2
 z2 := Tryz.sizeOf2
 v2 := Tryz.zeroValue2
 t3 := Tryz.underlying3
 a3 := Tryz.isAgg3
 z3 := Tryz.sizeOf3
 v3 := Tryz.zeroValue3
 t4 := Tryz.underlying4
 a4 := Tryz.isAgg4
 z4 := Tryz.sizeOf4
 v4 := Tryz.zeroValue4
 t5 := Tryz.underlying5
 a5 := Tryz.isAgg5
 z5 := Tryz.sizeOf5
 v5 := Tryz.zeroValue5
 t9 := Tryz.underlying9
 a9 := Tryz.isAgg9
 z9 := Tryz.sizeOf9
 v9 := Tryz.zeroValue9
 t20 := Tryz.underlying20
 a20 := Tryz.isAgg20
 z20 := Tryz.sizeOf20
 v20 := Tryz.zeroValue20
 t37 := Tryz.underlying22
 a37 := Tryz.isAgg22
 z37 := Tryz.sizeOf22
 v37 := Tryz.zeroValue22
 t46 := Tryz.underlying108
 a46 := Tryz.isAgg108
 z46 := Tryz.sizeOf108
 v46 := Tryz.zeroValue108
 t51 := Tryz.underlying130
 a51 := Tryz.isAgg130
 z51 := Tryz.sizeOf130
 v51 := Tryz.zeroValue130
 t53 := Tryz.underlying132
 a53 := Tryz.isAgg132
 z53 := Tryz.sizeOf132
 v53 := Tryz.zeroValue132
 t171 := Tryz.underlying133
 a171 := Tryz.isAgg133
 z171 := Tryz.sizeOf133
 v171 := Tryz.zeroValue133
 t173 := Tryz.underlying135
 a173 := Tryz.isAgg135
 z173 := Tryz.sizeOf135
 v173 := Tryz.zeroValue135
 t212 := Tryz.underlying154
 a212 := Tryz.isAgg154
 z212 := Tryz.sizeOf154
 v212 := Tryz.zeroValue154
 t213 := Tryz.underlying155
 a213 := Tryz.isAgg155
 z213 := Tryz.sizeOf155
 t232 := Tryz.underlying160
 a232 := Tryz.isAgg160
 z232 := Tryz.sizeOf160
 v232 := Tryz.zeroValue160
 t233 := Tryz.underlying161
 a233 := Tryz.isAgg161
 z233 := Tryz.sizeOf161
 v233 := Tryz.zeroValue161
 g17 := by kernel_rfl
 g18 := by kernel_rfl
 g19 := by kernel_rfl
 i0 := by kernel_rfl
 i2 := by kernel_rfl
 i3 := by kernel_rfl
 i4 := by kernel_rfl
 i5 := by kernel_rfl
 i9 := by kernel_rfl
 i20 := by kernel_rfl
 i37 := by kernel_rfl
 i46 := by kernel_rfl
 i51 := by kernel_rfl
 i53 := by kernel_rfl
 i171 := by kernel_rfl
 i173 := by kernel_rfl
 i212 := by kernel_rfl
 i232 := by kernel_rfl
 i233 := by kernel_rfl
 m17 := by kernel_rfl
 m18 := by kernel_rfl
 m19 := by kernel_rfl }
def Tryz.itoa37_ren : Go.Shelf.Ren := ⟨fun | 171 => 37 | 243 => 51 | 246 => 63 | 283 => 87 | 284 => 88 | 285 => 89 | 286 => 90 | 129 => 86 | 317 => 106 | 318 => 107 | 319 => 108 | 320 => 109 | 337 => 114 | 338 => 115 | n => n, fun | 3 => 3 | 9 => 9 | 2 => 2 | 4 => 4 | 171 => 133 | 0 => 0 | 53 => 132 | 37 => 22 | 5 => 5 | 173 => 135 | 212 => 154 | 51 => 130 | 20 => 20 | 213 => 155 | 46 => 108 | 232 => 160 | 233 => 161 | n => n, fun | 17 => 0 | 18 => 1 | 19 => 2 | n => n⟩
theorem Tryz.itoa37 : Go.Proofs.Lays.n171 Tryz.prog Tryz.itoa37_ren := {
 mixed := by kernel_rfl
 f129 := Tryz.func86.trans (congrArg some (by kernel_rfl))
 f171 := Tryz.func37.trans (congrArg some (by kernel_rfl))
 f243 := Tryz.func51.trans (congrArg some (by kernel_rfl))
 f246 := Tryz.func63.trans (congrArg some (by kernel_rfl))
 f283 := Tryz.func87.trans (congrArg some (by kernel_rfl))
 f284 := Tryz.func88.trans (congrArg some (by kernel_rfl))
 f285 := Tryz.func89.trans (congrArg some (by kernel_rfl))
 f286 := Tryz.func90.trans (congrArg some (by kernel_rfl))
 f317 := Tryz.func106.trans (congrArg some (by kernel_rfl))
 f318 := Tryz.func107.trans (congrArg some (by kernel_rfl))
 f319 := Tryz.func108.trans (congrArg some (by kernel_rfl))
 f320 := Tryz.func109.trans (congrArg some (by kernel_rfl))
 f337 := Tryz.func114.trans (congrArg some (by kernel_rfl))
 f338 := Tryz.func115.trans (congrArg some (by kernel_rfl))
 t0 := Tryz.underlying0
 a0 := Tryz.isAgg0
 z0 := Tryz.sizeOf0
 v0 := Tryz.zeroValue0
 t2 := Tryz.underlying2
 a2 := Tryz.isAgg2
 z2 := Tryz.sizeOf2
 v2 := Tryz.zeroValue2
 t3 := Tryz.underlying3
 a3 := Tryz.isAgg3
 z3 := Tryz.sizeOf3
 v3 := Tryz.zeroValue3
 t4 := Tryz.underlying4
 a4 := Tryz.isAgg4
 z4 := Tryz.sizeOf4
 v4 := Tryz.zeroValue4
 t5 := Tryz.underlying5
 a5 := Tryz.isAgg5
 z5 := Tryz.sizeOf5
 v5 := Tryz.zeroValue5
 t9 := Tryz.underlying9
 a9 := Tryz.isAgg9
 z9 := Tryz.sizeOf9
 v9 := Tryz.zeroValue9
 t20 := Tryz.underlying20
 a20 := Tryz.isAgg20
 z20 := Tryz.sizeOf20
 v20 := Tryz.zeroValue20
 t37 := Tryz.underlying22
 a37 := Tryz.isAgg22
 z37 := Tryz.sizeOf22
 v37 := Tryz.zeroValue22
 t46 := Tryz.underlying108
 a46 := Tryz.isAgg108
 z46 := Tryz.sizeOf108
 v46 := Tryz.zeroValue108
 t51 := Tryz.underlying130
 a51 := Tryz.isAgg130
 z51 := Tryz.sizeOf130
 v51 := Tryz.zeroValue130
 t53 := Tryz.underlying132
 a53 := Tryz.isAgg132
 z53 := Tryz.sizeOf132
 v53 := Tryz.zeroValue132
 t171 := Tryz.underlying133
 a171 := Tryz.isAgg133
 z171 := Tryz.sizeOf133
 v171 := Tryz.zeroValue133
 t173 := Tryz.underlying135
 a173 := Tryz.isAgg135
 z173 := Tryz.sizeOf135
 v173 := Tryz.zeroValue135
 t212 := Tryz.underlying154
 a212 := Tryz.isAgg154
 z212 := Tryz.sizeOf154
 v212 := Tryz.zeroValue154
 t213 := Tryz.underlying155
 a213 := Tryz.isAgg155
 z213 := Tryz.sizeOf155
 t232 := Tryz.underlying160
 a232 := Tryz.isAgg160
 z232 := Tryz.sizeOf160
 v232 := Tryz.zeroValue160
 t233 := Tryz.underlying161
 a233 := Tryz.isAgg161
 z233 := Tryz.sizeOf161
 v233 := Tryz.zeroValue161
 g17 := by kernel_rfl
 g18 := by kernel_rfl
 g19 := by kernel_rfl }
end Go.Proofs
namespace Go.Fx
open Go
theorem aX {x : Int} (h1 : -9223372036854775808 ≤ x) (h2 : x ≤ 9223372036854775807) : IntKind.i64.wrap x = x := by
 simp [IntKind.wrap, IntKind.signed, IntKind.bits]; split <;> omega
def val (b : Nat) : List Nat → Nat
 | [] => 0
 | x :: xs => x + 2 ^ b * val b xs
def bits (x : Nat) (n : Nat) : List Nat := (List.range n).map fun i => x / 2 ^ i % 2
end Go.Fx
namespace Go.Fx.Flt
open Go Ieee
abbrev f : Format := Ieee.double
def Fz (s : Bool) (N : Nat) : Nat := f.word s (if N = 0 then 0 else (N.log2 + 1022) * 2 ^ 52 + N * 2 ^ (52 - N.log2))
def Fi (n : Int) : Nat := Fz (decide (n < 0)) n.natAbs
theorem fb : f.fractionBits = 52 := rfl
theorem fl : f.leastPlace = -1074 := by decide
theorem fbin : f.binade = 2 ^ 52 := rfl
theorem finf : f.infRung = 2047 * 2 ^ 52 := by decide
theorem fsw : f.signWeight = 2 ^ 63 := by decide
theorem rC {N : Nat} (h : N ≠ 0) : 2 ^ N.log2 ≤ N ∧ N < 2 ^ (N.log2 + 1) := ⟨Nat.log2_self_le h, Nat.lt_log2_self⟩
theorem yW {N p : Nat} (h : N ≠ 0) : (N * 2 ^ p).log2 = N.log2 + p := by
 have hp : 0 < 2 ^ p := Nat.two_pow_pos p
 have h0 : N * 2 ^ p ≠ 0 := Nat.mul_ne_zero h (by omega)
 rw [Nat.log2_eq_iff h0]
 obtain ⟨h1, h2⟩ := rC h
 refine ⟨?_, ?_⟩
 ·rw [Nat.pow_add]; exact Nat.mul_le_mul_right _ h1
 ·rw [show N.log2 + p + 1 = N.log2 + 1 + p by omega, Nat.pow_add]; exact Nat.mul_lt_mul_of_pos_right h2 hp
theorem vP {N : Nat} (h : N ≠ 0) (hN : N < 2 ^ 53) : N.log2 ≤ 52 := by
 have := (Nat.log2_lt h).2 hN
 omega
theorem mant {N : Nat} (h : N ≠ 0) (hN : N < 2 ^ 53) : 2 ^ 52 ≤ N * 2 ^ (52 - N.log2) ∧ N * 2 ^ (52 - N.log2) < 2 ^ 53 := by
 have hl := vP h hN
 obtain ⟨h1, h2⟩ := rC h
 refine ⟨?_, ?_⟩
 ·calc 2 ^ 52 = 2 ^ N.log2 * 2 ^ (52 - N.log2) := by rw [← Nat.pow_add]; congr 1; omega
   _ ≤ _ := Nat.mul_le_mul_right _ h1
 ·calc N * 2 ^ (52 - N.log2) < 2 ^ (N.log2 + 1) * 2 ^ (52 - N.log2) := Nat.mul_lt_mul_of_pos_right h2 (Nat.two_pow_pos _)
   _ = 2 ^ 53 := by rw [← Nat.pow_add]; congr 1; omega
theorem sY {s : Bool} : f.read (Fz s 0) = .number s 0 (-1074) := by cases s <;> decide
set_option maxRecDepth 4000 in
set_option exponentiation.threshold 2000 in
theorem GC {s : Bool} {N : Nat} (hN : N < 2 ^ 53) : ∃ p : Nat, f.read (Fz s N) = .number s (N * 2 ^ p) (-(p : Int)) ∧ (N ≠ 0 → p ≤ 52) := by
 by_cases h : N = 0
 ·subst h
  refine ⟨1074, ?_, fun h => absurd rfl h⟩
  rw [sY, Nat.zero_mul]; rfl
 ·have hl := vP h hN
  obtain ⟨m1, m2⟩ := mant h hN
  refine ⟨52 - N.log2, ?_, fun _ => by omega⟩
  unfold Fz
  rw [if_neg h]
  generalize hM : N * 2 ^ (52 - N.log2) = M at *
  have hr : (N.log2 + 1022) * 2 ^ 52 + M < 2 ^ 63 := by
   have : (N.log2 + 1022) * 2 ^ 52 ≤ 1074 * 2 ^ 52 := Nat.mul_le_mul_right _ (by omega)
   omega
  have hw1 : (f.word s ((N.log2 + 1022) * 2 ^ 52 + M)) / 2 ^ 63 % 2 = if s then 1 else 0 := by
   unfold Format.word
   rw [fsw]
   cases s
   ·simp only [Bool.false_eq_true, if_false]; omega
   ·simp only [if_true]; omega
  have hw2 : (f.word s ((N.log2 + 1022) * 2 ^ 52 + M)) % 2 ^ 63 = (N.log2 + 1022) * 2 ^ 52 + M := by
   unfold Format.word
   rw [fsw]
   cases s
   ·simp only [Bool.false_eq_true, if_false]; omega
   ·simp only [if_true]; omega
  unfold Format.read
  simp only [fsw, hw1, hw2, fbin, finf, fl]
  rw [if_neg (by omega), if_pos (by omega)]
  have e1 : ((if s = true then 1 else 0) == 1) = s := by cases s <;> rfl
  have e2 : 2 ^ 52 + ((N.log2 + 1022) * 2 ^ 52 + M) % 2 ^ 52 = M := by omega
  have e3 : ((N.log2 + 1022) * 2 ^ 52 + M) / 2 ^ 52 = N.log2 + 1023 := by omega
  rw [e1, e2, e3]
  have e4 : (-1074 : Int) + ((N.log2 + 1023 - 1 : Nat) : Int) = -((52 - N.log2 : Nat) : Int) := by omega
  rw [e4]
theorem EP (way : Toward) (s : Bool) (n : Nat) : way.cut s n 0 = n := by
 unfold Toward.cut
 simp only [Nat.zero_min, Nat.shiftLeft_zero, Nat.div_one, Nat.mod_one]
 cases way <;> simp
theorem C0 (way : Toward) (s : Bool) {N p d : Nat} (h : N ≠ 0) (hd : d ≤ p) : way.cut s (N * 2 ^ p) d = N * 2 ^ (p - d) := by
 unfold Toward.cut
 have hl := yW (p := p) h
 have hm : min d ((N * 2 ^ p).log2 + 2) = d := by omega
 simp only [hm, Nat.one_shiftLeft]
 have e : N * 2 ^ p = N * 2 ^ (p - d) * 2 ^ d := by rw [Nat.mul_assoc, ← Nat.pow_add]; congr 2; omega
 rw [e, Nat.mul_div_cancel _ (Nat.two_pow_pos d), Nat.mul_mod_left]
 have hp := Nat.two_pow_pos d
 cases way
 ·have h1 : decide (2 ^ d < 2 * 0) = false := by simp
  have h2 : ((2 ^ d : Nat) == 2 * 0) = false := by rw [beq_eq_false_iff_ne]; omega
  simp [h1, h2]
 ·simp
 ·simp
 ·simp
theorem zP {s : Bool} {N p : Nat} (hN : N < 2 ^ 53) (hp : p ≤ 100000) : f.nearest s (N * 2 ^ p) (-(p : Int)) = Fz s N := by
 unfold Format.nearest Fz
 by_cases h : N = 0
 ·subst h; simp
 ·have hl := vP h hN
  have hpp := Nat.two_pow_pos p
  obtain ⟨m1, m2⟩ := mant h hN
  have h0 : N * 2 ^ p ≠ 0 := Nat.mul_ne_zero h (by omega)
  rw [if_neg h0, if_neg h]
  simp only [yW h, fb, fl, fbin, finf]
  have hlast : max (-(p : Int) + ((N.log2 + p : Nat) : Int) - (52 : Nat)) (-1074) = (N.log2 : Int) - 52 := by omega
  rw [hlast]
  have hk : Toward.even.cut s ((N * 2 ^ p) <<< (-(p : Int) - ((N.log2 : Int) - 52)).toNat) (((N.log2 : Int) - 52) - -(p : Int)).toNat = N * 2 ^ (52 - N.log2) := by
   by_cases hc : p ≤ 52 - N.log2
   ·rw [show (((N.log2 : Int) - 52) - -(p : Int)).toNat = 0 by omega, EP, Nat.shiftLeft_eq, Nat.mul_assoc, ← Nat.pow_add]
    congr 2; omega
   ·rw [show (-(p : Int) - ((N.log2 : Int) - 52)).toNat = 0 by omega, Nat.shiftLeft_zero, show (((N.log2 : Int) - 52) - -(p : Int)).toNat = p - (52 - N.log2) by omega, C0 _ _ h (by omega)]
    congr 2; omega
  rw [hk]
  congr 1
  have : ((N.log2 : Int) - 52 - -1074).toNat = N.log2 + 1022 := by omega
  rw [this]
  have : (N.log2 + 1022) * 2 ^ 52 ≤ 1074 * 2 ^ 52 := Nat.mul_le_mul_right _ (by omega)
  omega
theorem EX {n : Int} (h : n.natAbs < 2 ^ 53) : FloatKind.f64.nearest n = Fi n := by
 have := zP (s := decide (n < 0)) (p := 0) h (by omega)
 simpa [FloatKind.nearest, FloatKind.encode, Format.write, FloatKind.format, Fi] using this
def Z (d : Datum) (s : Bool) (N : Nat) : Prop := ∃ p : Nat, d = .number s (N * 2 ^ p) (-(p : Int)) ∧ p ≤ 1074 ∧ (N ≠ 0 → p ≤ 200)
def sg (s : Bool) (N : Nat) : Int := if s then -(N : Int) else N
set_option exponentiation.threshold 2000 in
theorem Z_Fz {s : Bool} {N : Nat} (hN : N < 2 ^ 53) : Z (f.read (Fz s N)) s N := by
 by_cases h : N = 0
 ·subst h
  refine ⟨1074, ?_, by omega, fun h => absurd rfl h⟩
  rw [sY, Nat.zero_mul]; rfl
 ·obtain ⟨p, h1, h2⟩ := GC (s := s) hN
  have := h2 h
  exact ⟨p, h1, by omega, fun _ => by omega⟩
theorem vG {s : Bool} {N p q : Nat} (h : p ≤ q) : Ieee.signed s (N * 2 ^ p) ((-(p : Int)) - (-(q : Int))).toNat = sg s N * 2 ^ q := by
 have e : ((-(p : Int)) - (-(q : Int))).toNat = q - p := by omega
 unfold Ieee.signed sg
 rw [e, Nat.shiftLeft_eq, Nat.mul_assoc, ← Nat.pow_add, show p + (q - p) = q by omega]
 cases s
 ·simp
 ·simp [Int.neg_mul]
theorem FJ {d e : Datum} {s t : Bool} {N M : Nat} (hd : Z d s N) (he : Z e t M) : d.order e = some (compare (sg s N) (sg t M)) := by
 obtain ⟨p, rfl, _⟩ := hd
 obtain ⟨q, rfl, _⟩ := he
 simp only [Datum.order]
 have key : ∀ r : Nat, min (-(p : Int)) (-(q : Int)) = -(r : Int) → p ≤ r → q ≤ r → compare (Ieee.signed s (N * 2 ^ p) (-(p : Int) - min (-(p : Int)) (-(q : Int))).toNat) (Ieee.signed t (M * 2 ^ q) (-(q : Int) - min (-(p : Int)) (-(q : Int))).toNat) = compare (sg s N) (sg t M) := by
  intro r hr h1 h2
  rw [hr, vG h1, vG h2]
  have hp : (0 : Int) < 2 ^ r := by exact_mod_cast Nat.two_pow_pos r
  generalize sg s N = a
  generalize sg t M = b
  simp only [compare, compareOfLessAndEq]
  have e1 : a * 2 ^ r < b * 2 ^ r ↔ a < b := Int.mul_lt_mul_right hp
  have e2 : a * 2 ^ r = b * 2 ^ r ↔ a = b := ⟨fun h => Int.eq_of_mul_eq_mul_right (by omega) h, fun h => by rw [h]⟩
  simp only [e1, e2]
 by_cases hpq : p ≤ q
 ·rw [key q (by omega) hpq (Nat.le_refl _)]
 ·rw [key p (by omega) (Nat.le_refl _) (by omega)]
def geF (a b : Nat) : Bool := f.order a b == some .gt || f.order a b == some .eq
def leF (a b : Nat) : Bool := f.order a b == some .lt || f.order a b == some .eq
def eqF (a b : Nat) : Bool := f.order a b == some .eq
def ltF (a b : Nat) : Bool := f.order a b == some .lt
def truncF (b : Nat) : Nat := f.write ((f.read b).integral .zero)
theorem G0 {s t : Bool} {N M : Nat} (h1 : N < 2 ^ 53) (h2 : M < 2 ^ 53) : f.order (Fz s N) (Fz t M) = some (compare (sg s N) (sg t M)) := FJ (Z_Fz h1) (Z_Fz h2)
theorem sg_Fi (n : Int) : sg (decide (n < 0)) n.natAbs = n := by
 unfold sg
 by_cases h : n < 0
 ·simp [h]; omega
 ·simp [h]; omega
theorem vD {a b : Int} (h1 : a.natAbs < 2 ^ 53) (h2 : b.natAbs < 2 ^ 53) : f.order (Fi a) (Fi b) = some (compare a b) := by
 have := G0 (s := decide (a < 0)) (t := decide (b < 0)) h1 h2
 rw [sg_Fi, sg_Fi] at this; exact this
theorem cmp_gt {a b : Int} : compare a b = .gt ↔ b < a := by
 rw [Int.compare_eq_gt]
theorem BW {a b : Int} : compare a b = .eq ↔ a = b := by
 rw [Int.compare_eq_eq]
theorem geF_Fi {a b : Int} (h1 : a.natAbs < 2 ^ 53) (h2 : b.natAbs < 2 ^ 53) : geF (Fi a) (Fi b) = decide (b ≤ a) := by
 unfold geF
 rw [vD h1 h2, Bool.eq_iff_iff]
 simp only [Bool.or_eq_true, beq_iff_eq, Option.some.injEq, cmp_gt, BW, decide_eq_true_eq]; omega
theorem eqF_Fi {a b : Int} (h1 : a.natAbs < 2 ^ 53) (h2 : b.natAbs < 2 ^ 53) : eqF (Fi a) (Fi b) = decide (a = b) := by
 unfold eqF
 rw [vD h1 h2, Bool.eq_iff_iff]
 simp only [beq_iff_eq, Option.some.injEq, BW, decide_eq_true_eq]
abbrev cm : Nat := 13938640846711685120
abbrev cM : Nat := 4715268809856909312
def C8 (b : Nat) : Bool := geF b cm && (leF b cM && (eqF b (truncF b) && (!eqF b 0 || decide (b < 2 ^ 63))))
end Go.Fx.Flt
namespace Go.Fx
open Go
open Go.Fx.Flt
section
variable {P : Program} {ty : TypeId} {a b c d : Nat}
abbrev FL (b : Nat) : D := .pl (.float .f64 b)
abbrev CX (a b : Nat) : D := .pl (.complex .f64 a b)
@[simp] theorem bin_neqC : bG P .neq ty (CX a b) (CX c d) = some (.pl (.bool (!(eqF a c && eqF b d)))) := by
 have : ∀ x y, Sem.look P (Op.Complex.cmp .eql .f64 x y) = some (eqF x y) := fun x y => by
  simp [eqF, Op.Complex.cmp, Op.floatCmp, cA, Sem.look, Pure.pure, FloatKind.format, asBool]
 simp [bG, lit, binOp, Op.complexOp, cA, this, Sem.look]
 rfl
@[simp] theorem bi_real : biD P .real [CX a b] = some (FL a) := (rfl)
@[simp] theorem bi_imag : biD P .imag [CX a b] = some (FL b) := (rfl)
@[simp] theorem bi_complex : biD P .complex [FL a, FL b] = some (CX a b) := (rfl)
theorem GJ {s t : TypeId} {k : IntKind} {n : Int} (hs : P.underlying s = some (.int k)) (ht : P.underlying t = some (.float .f64)) : cvD P s t (.pl (.int k n)) = some (FL (FloatKind.f64.nearest n)) := by
 simp [cvD, lit, convert, underlying, program, Bind.bind, Sem.bind, Sem.look, hs, ht, Pure.pure, Conv.intToFloat]
end
def rLe (d d' : D) : Prop := ∀ (w : World) (S : Nat → Prop) (φ : aW) (x : Value), Rep w S φ d x → Rep w S φ d' x
def rLes (ds ds' : List D) : Prop := ∀ (w : World) (S : Nat → Prop) (φ : aW) (xs : List Value), RepVs w S φ ds xs → RepVs w S φ ds' xs
theorem rLe.refl {d : D} : rLe d d := fun _ _ _ _ h => h
theorem HD : rLe (.pl (.slice none 0 0)) (.sl []) := fun _ _ _ _ h => vN (.inr (.inr ⟨rfl, .inr rfl⟩)) h
theorem EV : rLes [] [] := fun _ _ _ _ h => h
theorem uI {d d' : D} {ds ds' : List D} (h : rLe d d') (k : rLes ds ds') : rLes (d :: ds) (d' :: ds') := fun w S φ xs hx => by
 simp only [RepVs] at hx ⊢
 obtain ⟨x, r, rfl, h1, h2⟩ := hx
 exact ⟨x, r, rfl, h _ _ _ _ h1, k _ _ _ _ h2⟩
theorem D2 {P : Program} {f : FuncId} {xs ys : List D} {r : D} (h : rLes xs ys) (k : Pure P f ys r) : Pure P f xs r :=
 ⟨k.1, fun S w vs hS htb hv => k.2 S w vs hS htb (h _ _ _ _ hv)⟩
end Go.Fx
namespace Go.Fx.Flt
open Go Ieee
def ngF (b : Nat) : Nat := b ^^^ 2 ^ 63
end Go.Fx.Flt
namespace Go.Fx
open Go Go.Fx.Flt
section
variable {P : Program} {ty : TypeId} {a b c d r s : Nat}
@[simp] theorem un_negF : unD P .neg (FL a) = some (FL (ngF a)) := (rfl)
end
section
variable {C : Cfg} {Q : Exit → St → Prop} {env env' tl : Env} {mem mf mk : Mem} {nx : Nat}
def CS (mf : Mem) (env env' : Env) : Prop := ∀ j d', look env' j = some d' → ∃ d, look env j = some d ∧ (d' = d ∨ frz mf 100 d = some d')
theorem CA (h1 : bR mem mf) (h2 : bR mem mk) (hd : ∀ i, look mf i = none ∨ look mk i = none) (he : CS mf env env') : Wk C ⟨env, tl, mem, nx⟩ ⟨env', [], mk, nx⟩ := by
 intro B N S φ a w hn hs
 have hm := hs.m
 have hmf : MSim S φ mf nx w := eA hm (eR h1) (Nat.le_refl _)
 have hmk0 : MSim S φ mk nx w := eA hm (eR h2) (Nat.le_refl _)
 have hS2 : ∀ b, SF S φ mf b → b < w.heap.size := by
  rintro b (h | ⟨i, blk, l, _, g2, g3, rfl⟩)
  ·exact hm.sub b h
  ·exact hm.lt i l g2 g3
 have hmk : MSim (SF S φ mf) φ mk nx w := ⟨fun i blk hi => by
   obtain ⟨l, g1, g2, g3⟩ := hmk0.mem i blk hi
   refine ⟨l, g1, fun hr hs => ?_, BRep.mono gJ (fun _ => rfl) blk g3⟩
   rcases hs with hs | ⟨j, blk', l', k1, k2, k3, k4⟩
   ·exact g2 hr hs
   ·have := hm.inj j i l' l k2 g1 k3 hr k4
    subst this
    rcases hd j with e | e
    ·rw [e] at k1; simp at k1
    ·rw [e] at hi; simp at hi, hm.inj, hm.lt, hm.fresh, hS2⟩
 refine ⟨SF S φ mf, φ, ⟨hs.size, hs.defers.ext hs.m (S' := SF S φ mf) (φ' := φ) (mem' := mem) ⟨fun b hb => .inl hb, fun _ _ _ => rfl, Nat.le_refl _, fun b _ h => h, fun b hb => hb.elim .inl fun ⟨i, blk, l, g1, g2⟩ => .inr (.inr ⟨i, blk, l, h1 i blk g1, g2⟩), rfl, rfl, rfl⟩, fun j d' hj hl => ?_, fun j d _ hl => by simp [look] at hl, hmk⟩,
  ⟨fun b hb => .inl hb, fun _ _ _ => rfl, Nat.le_refl _, fun b _ ⟨i, blk, l, g1, g2, g3, g4⟩ => ⟨i, blk, l, h2 i blk g1, g2, g3, g4⟩, fun b hb => ?_, rfl, rfl, rfl⟩, Grow.refl hn⟩
 ·obtain ⟨d, h3, h4⟩ := he j d' hl
  have hr := hs.env j d hj h3
  rcases h4 with rfl | h4
  ·exact Rep.mono gJ _ _ hr
  ·exact Rep.mono (φ' := φ) ⟨fun _ h => h, fun _ _ _ => rfl, fun _ _ h => by simp [bS] at h⟩ _ _ (g_ hmf 100 d d' _ h4 hr)
 ·rcases hb with h | ⟨i, blk, l, g1, g2, g3, g4⟩
  ·exact .inl h
  ·exact .inr (.inr ⟨i, blk, l, h1 i blk g1, g2, g3, g4⟩)
theorem FS {c : Code} {s : St} (h : T C c (fun e s => ∃ s', Wk C s s' ∧ Q e s') s) : T C c Q s := by
 intro x N S φ a w hn hB hs
 refine wpIn_mono (h x N S φ a w hn hB hs) ?_
 rintro e a' w' ⟨s', S', φ', ⟨s2, hw, hq⟩, hs', hx, hg⟩
 obtain ⟨S2, φ2, k1, k2, k3⟩ := hw x N S' φ' a' w' hg.le hs'
 exact ⟨s2, S2, φ2, hq, k1, hx.trans k2, hg.trans k3⟩
def AL (C : Cfg) (Q : Exit → St → Prop) (e : Exit) (s : St) : Prop := ∃ s', Wk C s s' ∧ Q e s'
theorem lW {x : AC} (h : A C (.loop x) (AL C Q) env mem nx) : A C (.loop x) Q env mem nx := by
 rw [rM] at h ⊢
 exact fun c hc => FS (h c hc)
theorem rD {j : Nat} {d d' : D} (h : look env j = some d) (hf : frz mf 100 d = some d') : CS mf env (upd env j d') := fun i x hx => by
 rcases dC j d' env i x hx with ⟨rfl, rfl⟩ | ⟨_, hx⟩
 ·exact ⟨d, h, .inr hf⟩
 ·exact ⟨x, hx, .inl rfl⟩
theorem uB {e : Exit} {j : Nat} {d d' : D} (hl : look env j = some d) (hf : frz mem 100 d = some d') (hq : Q e ⟨upd env j d', [], [], nx⟩) : AL C Q e ⟨env, tl, mem, nx⟩ :=
 ⟨_, CA (aG mem) (iI mem) (fun i => .inr rfl) (rD hl hf), hq⟩
theorem AW {e : Exit} {j : Nat} {d d' : D} (mf mk : Mem) (hl : look env j = some d) (hf : frz mf 100 d = some d') (h1 : bR mem mf) (h2 : bR mem mk) (hd : ∀ i, look mf i = none ∨ look mk i = none) (hq : Q e ⟨upd env j d', [], mk, nx⟩) : AL C Q e ⟨env, tl, mem, nx⟩ :=
 ⟨_, CA h1 h2 hd (rD hl hf), hq⟩
end
set_option maxRecDepth 100000
abbrev Tx (l : List UInt8) : D := .pl (.string (ByteArray.mk (Array.mk l)))
abbrev By (n : Int) : D := .pl (.int .u8 n)
def dB (b : UInt8) : List D := [By b.toNat]
def aI (l : List UInt8) : List D := [Tx l]
theorem zX {a b : List UInt8} : (ByteArray.mk (Array.mk a) = ByteArray.mk (Array.mk b)) = (a = b) := by simp
theorem o_ {l : List UInt8} : (ByteArray.mk (Array.mk l)).size = l.length := by simp [ByteArray.size]
attribute [simp] zX o_
theorem ba_get {l : List UInt8} {i : Nat} : (ByteArray.mk (Array.mk l))[i]? = l[i]? := by
 by_cases h : i < l.length
 ·have h2 : i < (ByteArray.mk (Array.mk l)).size := by rw [o_]; exact h
  rw [getElem?_pos (ByteArray.mk (Array.mk l)) i h2, List.getElem?_eq_getElem h]; rfl
 ·have h2 : ¬ i < (ByteArray.mk (Array.mk l)).size := by rw [o_]; exact h
  rw [getElem?_neg (ByteArray.mk (Array.mk l)) i h2, List.getElem?_eq_none (by omega)]
def bt8 (l : List UInt8) (i : Nat) : Int := ((l[i]?.getD 0).toNat : Int)
theorem bt8_b (l : List UInt8) (i : Nat) : 0 ≤ bt8 l i ∧ bt8 l i ≤ 255 := by
 unfold bt8
 have := (l[i]?.getD 0).toNat_lt
 omega
section
variable {l k : List UInt8} {mem : Mem} {P : Program} {ty : TypeId} {lo hi : Int} {j j2 : IntKind}
@[simp] theorem ixs_T {i : Int} : ixsD (Tx l) (.pl (.int j i)) = if 0 ≤ i ∧ i < l.length then some (By (bt8 l i.toNat)) else none := by
 unfold ixsD bt8
 by_cases h : 0 ≤ i
 ·simp only [h, if_true, ba_get, true_and]
  by_cases h2 : i < l.length
  ·have h3 : i.toNat < l.length := by omega
   rw [List.getElem?_eq_getElem h3]
   simp [h2]
  ·rw [List.getElem?_eq_none (by omega)]
   simp [h2]
 ·simp [h]
theorem ba_ext {l : List UInt8} {a b : Nat} (h : b ≤ l.length) : (ByteArray.mk (Array.mk l)).extract a b = ByteArray.mk (Array.mk ((l.take b).drop a)) := by
 have : ((ByteArray.mk (Array.mk l)).extract a b).data = (Array.mk l).extract a b := by simp
 cases hx : (ByteArray.mk (Array.mk l)).extract a b with
 | mk d =>
  rw [hx] at this
  simp only at this
  rw [this]
  congr 1
  apply Array.ext'
  simp [List.extract_eq_take_drop, List.drop_take]
@[simp] theorem sls_Tl {kk : Nat} : gQ mem true kk (Tx l) (some (.pl (.int j lo))) none = if 0 ≤ lo ∧ lo ≤ l.length then some (Tx (l.drop lo.toNat)) else none := by
 simp only [gQ, bound, if_true, o_]
 by_cases h : 0 ≤ lo ∧ lo ≤ l.length
 ·rw [if_pos ⟨h.1, h.2, Int.le_refl _⟩, if_pos h, ba_ext (by omega), List.take_of_length_le (by omega)]
 ·rw [if_neg (fun g => h ⟨g.1, g.2.1⟩), if_neg h]
theorem ba_app : ByteArray.mk (Array.mk l) ++ ByteArray.mk (Array.mk k) = ByteArray.mk (Array.mk (l ++ k)) := by
 cases h : ByteArray.mk (Array.mk l) ++ ByteArray.mk (Array.mk k) with
 | mk d =>
  have : (ByteArray.mk (Array.mk l) ++ ByteArray.mk (Array.mk k)).data = (Array.mk l) ++ (Array.mk k) := by simp [ByteArray.data_append]
  rw [h] at this
  simp only at this
  rw [this]; simp
theorem eG (hlt : l.length + k.length < 2 ^ 63) : bG P .add ty (Tx l) (Tx k) = some (Tx (l ++ k)) := by
 have h : Sem.look P (binOp .add ty (.string (ByteArray.mk (Array.mk l))) (.string (ByteArray.mk (Array.mk k)))) = some (.string (ByteArray.mk (Array.mk l) ++ ByteArray.mk (Array.mk k))) := by
  have h2 : ¬ (9223372036854775807 : Int) < (l.length : Int) + (k.length : Int) := by omega
  simp [binOp, Op.stringOp, Sem.look, Pure.pure, h2]
 rw [ba_app] at h
 simp only [bG, lit, Bool.and_self, if_true, h, Option.map_some]
theorem pL : ∀ (l : List UInt8), d_ (em dB l) = some l
 | [] => rfl
 | b :: l => by
  have h := pL l
  unfold em at h ⊢
  have hb : b.toNat < 256 := b.toNat_lt
  have : kP (dB b) = some b := by
   unfold kP dB
   simp only
   rw [if_pos ⟨by omega, by omega⟩]
   simp
  simp only [List.map_cons, d_, this, h]
theorem cv_BT {s d : TypeId} (hs : jF P s = true) (hd : pE P d = true) : cvD P s d (.sl (em dB l)) = some (Tx l) := by
 unfold cvD
 simp [hs, hd, pL]
theorem ia_B {i : Int} : iaD mem 1 (.sl (em dB l)) (.pl (.int j i)) = if 0 ≤ i ∧ i < l.length then some (.pt [By (bt8 l i.toNat)]) else none := lS fun _ => rfl
theorem imm_B (l : List UInt8) : D.immss (em dB l) = true := jR fun _ => rfl
theorem ia_T {l : List (List UInt8)} {i : Int} : iaD mem 1 (.sl (em aI l)) (.pl (.int j i)) = if 0 ≤ i ∧ i < l.length then some (.pt [Tx (l[i.toNat]?.getD default)]) else none := lS fun _ => rfl
theorem imm_T (l : List (List UInt8)) : D.immss (em aI l) = true := jR fun _ => rfl
theorem app_T (l : List (List UInt8)) (t : List UInt8) : em aI l ++ [[Tx t]] = em aI (l ++ [t]) := fL
attribute [simp] ia_B imm_B ia_T imm_T app_T
theorem cv_B1 {s d : TypeId} (hs : jF P s = true) (hd : pE P d = true) (c : UInt8) : cvD P s d (.sl [[By c.toNat]]) = some (Tx [c]) := cv_BT (l := [c]) hs hd
theorem wru8 {x : Int} (h1 : 0 ≤ x) (h2 : x ≤ 255) : IntKind.u8.wrap x = x := by
 simp [IntKind.wrap, IntKind.signed, IntKind.bits]; omega
end
section
variable {α : Type} {enc : α → List D} {l : List α} {mem : Mem} {kk : Nat} {lo hi : Int} {j j2 : IntKind}
theorem GH (h : (em enc l).all (fun e => e.length == kk) = true) : gQ mem false kk (.sl (em enc l)) (some (.pl (.int j lo))) (some (.pl (.int j2 hi))) = if 0 ≤ lo ∧ lo ≤ hi ∧ hi ≤ l.length then some (.sl (em enc ((l.take hi.toNat).drop lo.toNat))) else none := by
 simp only [gQ, bound, Bool.false_eq_true, if_false, wC, FT, GS, h, or_true, and_true]
theorem len_B {l : List UInt8} : (em dB l).all (fun e => e.length == 1) = true := by unfold em dB; simp
@[simp] theorem sls_B2 {l : List UInt8} : gQ mem false 1 (.sl (em dB l)) (some (.pl (.int j lo))) (some (.pl (.int j2 hi))) = if 0 ≤ lo ∧ lo ≤ hi ∧ hi ≤ l.length then some (.sl (em dB ((l.take hi.toNat).drop lo.toNat))) else none := GH len_B
end
section
variable {α : Type}
@[simp] theorem jU {i : Nat} {b : α} : ∀ {m : List (Nat × α)}, look (upd m i b) i = (look m i).map fun _ => b
 | [] => rfl
 | (k, x) :: m => by
  by_cases h : k = i
  ·simp [upd, look, h]
  ·simp only [upd, look, h, if_false]; exact jU
@[simp] theorem jC {i : Nat} {a b : α} : ∀ {m : List (Nat × α)}, upd (upd m i a) i b = upd m i b
 | [] => rfl
 | (k, x) :: m => by
  by_cases h : k = i
  ·simp [upd, h]
  ·simp only [upd, h, if_false]; rw [jC]
theorem dF {i j : Nat} {b : α} (h : j ≠ i) {m : List (Nat × α)} : look (upd m i b) j = look m j := aZ b h m
theorem aF {i j : Nat} {b : α} : ∀ {m : List (Nat × α)}, look m j = none → look (upd m i b) j = none
 | [], _ => rfl
 | (k, x) :: m, h => by
  simp only [look] at h
  by_cases hk : k = j
  ·simp [hk] at h
  ·simp only [hk, if_false] at h
   by_cases hi : k = i
   ·simp only [upd, hi, if_true, look]
    subst hi
    simp [hk, h]
   ·simp only [upd, hi, if_false, look, hk]
    exact aF h
theorem c8 {i : Nat} {b : α} : ∀ {m : List (Nat × α)}, look m i = some b → upd m i b = m
 | [], h => rfl
 | (k, x) :: m, h => by
  simp only [look] at h
  by_cases hk : k = i
  ·simp only [hk, if_true, Option.some.injEq] at h; simp [upd, hk, h]
  ·simp only [hk, if_false] at h
   simp only [upd, hk, if_false]; rw [c8 h]
end
theorem neA {i a c : Nat} (h : i < a) : (a + c = i) = False := eq_false (by omega)
theorem neC {i a : Nat} (h : i < a) : (a = i) = False := eq_false (by omega)
theorem neE {L m b : Nat} (hm : L ≤ m) (h : b < L) : (m = b) = False := eq_false (by omega)
theorem ltF {L m b : Nat} (hm : L ≤ m) (h : b < L) : (b < m) = True := eq_true (by omega)
theorem nfc {p : Prop} (h : p) {L m : Nat} (hm : L ≤ m) : p ∧ (∀ b, b < L → (m = b) = False) ∧ (∀ b, b < L → (b < m) = True) := ⟨h, fun _ k => neE hm k, fun _ k => ltF hm k⟩
theorem ltA {i a c : Nat} (h : i < a) : (i < a + c) = True := eq_true (by omega)
section
variable {P : Program} {f : FuncId} {args : List D} {mem : Mem} {nx : Nat} {K K' : KD}
def KFrz (K : KD) : KD := fun d m n => ∃ mf mk d', bR m mf ∧ bR m mk ∧ (∀ i, look mf i = none ∨ look mk i = none) ∧ frz mf 100 d = some d' ∧ K d' mk n
theorem bA (h : bH P f args mem nx (KFrz K)) : bH P f args mem nx K := by
 refine ⟨h.1, fun S φ w xs hm htb hx => (h.2 S φ w xs hm htb hx).mono ?_⟩
 rintro e w' ⟨v, d, mem', nx', S', φ', he, ⟨mf, mk, d', g1, g2, gd, gf, gk⟩, hn, hm', hr, hst, hx', hlow⟩
 have hmf : MSim S' φ' mf nx' w' := eA hm' (eR g1) (Nat.le_refl _)
 have hmk0 : MSim S' φ' mk nx' w' := eA hm' (eR g2) (Nat.le_refl _)
 have hS2 : ∀ b, SF S' φ' mf b → b < w'.heap.size := by
  rintro b (h | ⟨i, blk, l, _, k2, k3, rfl⟩)
  ·exact hm'.sub b h
  ·exact hm'.lt i l k2 k3
 have hmk : MSim (SF S' φ' mf) φ' mk nx' w' := ⟨fun i blk hi => by
   obtain ⟨l, k1, k2, k3⟩ := hmk0.mem i blk hi
   refine ⟨l, k1, fun hr hs => ?_, BRep.mono gJ (fun _ => rfl) blk k3⟩
   rcases hs with hs | ⟨j, blk', l', j1, j2, j3, j4⟩
   ·exact k2 hr hs
   ·have := hm'.inj j i l' l j2 k1 j3 hr j4
    subst this
    rcases gd j with e | e
    ·rw [e] at j1; simp at j1
    ·rw [e] at hi; simp at hi, hm'.inj, hm'.lt, hm'.fresh, hS2⟩
 have hst2 : Stays w' S' φ' w' (SF S' φ' mf) φ' := gJ
 refine ⟨v, d', mk, nx', SF S' φ' mf, φ', he, gk, hn, hmk, Rep.mono (φ' := φ') ⟨fun _ h => h, fun _ _ _ => rfl, fun _ _ h => by simp [bS] at h⟩ _ _ (g_ hmf 100 d d' _ gf hr),
  ⟨fun b hb => .inl (hst.sub b hb), hst.cell, hst.loc⟩, ⟨fun b hb => .inl (hx'.sub b hb), fun b hb ho => hx'.keep b hb ho, hx'.size, fun b hb ho => hx'.own b hb ?_, fun b hb => ?_, hx'.os, hx'.output, hx'.tape⟩, hlow⟩
 ·obtain ⟨i, blk, l, k1, k2, k3, k4⟩ := ho
  exact ⟨i, blk, l, g2 i blk k1, k2, k3, k4⟩
 ·rcases hb with h | ⟨i, blk, l, k1, k2, k3, k4⟩
  ·exact hx'.news b h
  ·by_cases hlt : b < w.heap.size
   ·exact .inr (.inr (hx'.own b hlt ⟨i, blk, l, g1 i blk k1, k2, k3, k4⟩))
   ·exact .inr (.inl (by omega))
theorem AH {m : Mem} {L : Nat} {b : Blk} (h : look m L = some b) : bR m [(L, b)] := fun i x hx => by
 simp only [look] at hx
 split at hx
 ·rename_i e
  simp only [Option.some.injEq] at hx
  rw [← e, ← hx]; exact h
 ·simp at hx
theorem dY {m m0 : Mem} {d d' : D} {n : Nat} (h1 : bR m m0) (h2 : frz [] 100 d = some d') (h3 : K d' m0 n) : ∃ mem', bR m mem' ∧ KFrz K d mem' n :=
 ⟨m0, h1, [], m0, d', iI _, aG _, fun _ => .inl rfl, h2, h3⟩
theorem lR {m mk : Mem} {d d' : D} {n : Nat} (L : Nat) (b : Blk) (hL : look m L = some b) (h1 : bR m mk) (hn : look mk L = none) (h2 : frz [(L, b)] 100 d = some d') (h3 : K d' mk n) : ∃ mem', bR m mem' ∧ KFrz K d mem' n :=
 ⟨m, aG _, [(L, b)], mk, d', AH hL, h1, fun i => by
  by_cases e : L = i
  ·subst e; exact .inr hn
  ·left; simp [look, e], h2, h3⟩
end
abbrev Sm := List (List UInt8 × Int)
def aJ (m : Sm) : List (Value × D) := m.map fun p => (.string (ByteArray.mk (Array.mk p.1)), .pl (.int .i64 p.2))
def fV : Sm → List UInt8 → Option Int
 | [], _ => none
 | p :: m, k => if p.1 = k then some p.2 else fV m k
def d8 : Sm → List UInt8 → Int → Sm
 | [], k, v => [(k, v)]
 | p :: m, k, v => if p.1 = k then (k, v) :: m else p :: d8 m k v
def cC (m : Sm) (k : List UInt8) : Int := (fV m k).getD 0
theorem BZ (m : Sm) (k j : List UInt8) (v : Int) : fV (d8 m k v) j = if k = j then some v else fV m j := by
 induction m with
 | nil => simp [d8, fV]
 | cons p m ih =>
  by_cases h : p.1 = k
  ·by_cases h2 : k = j
   ·simp [d8, fV, h, h2]
   ·simp [d8, fV, h, h2]
  ·by_cases h2 : k = j
   ·subst h2
    simp only [d8, h, if_false, fV, ih, if_true]
   ·by_cases h3 : p.1 = j
    ·rw [d8, if_neg h, fV, if_pos h3, fV, if_pos h3, if_neg h2]
    ·simp only [d8, h, if_false, fV, h3, ih, h2]
theorem mR (m : Sm) (k j : List UInt8) (v : Int) : cC (d8 m k v) j = if k = j then v else cC m j := by
 unfold cC
 rw [BZ]
 split <;> rfl
theorem sm_ok (m : Sm) : (aJ m).all (fun e => kOk none e.1) = true := by
 unfold aJ; simp [kOk]
theorem GZ (m : Sm) (k : List UInt8) : gY (.string (ByteArray.mk (Array.mk k))) (aJ m) = (fV m k).map fun v => .pl (.int .i64 v) := by
 induction m with
 | nil => rfl
 | cons p m ih =>
  unfold aJ at ih ⊢
  simp only [List.map_cons, gY, fW, fV, zX, decide_eq_true_eq]
  split
  ·rfl
  ·exact ih
theorem sm_put (m : Sm) (k : List UInt8) (v : Int) : iZ (.string (ByteArray.mk (Array.mk k))) (.pl (.int .i64 v)) (aJ m) = aJ (d8 m k v) := by
 induction m with
 | nil => rfl
 | cons p m ih =>
  unfold aJ at ih ⊢
  simp only [List.map_cons, iZ, fW, d8, zX, decide_eq_true_eq]
  split
  ·rfl
  ·rw [ih]; rfl
def mapE (kd : Option IntKind) : Option Blk → Option (List (Value × D))
 | some (.map es) => if es.all (fun e => kOk kd e.1) then some es else none
 | _ => none
def lkE (o : Option (List (Value × D))) (kd : Option IntKind) (z : Value) (two : Bool) (k : D) : Option D :=
 match k, o with
 | .pl k, some es => if kOk kd k then some (match gY k es with
  | some v => if two then .tup [v, .pl (.bool true)] else v
  | none => if two then .tup [zD z, .pl (.bool false)] else zD z) else none
 | _, _ => none
def mupE (o : Option Blk) (mem : Mem) (id : Nat) (kd : Option IntKind) (k : Value) (v : D) : Option (D × Mem) :=
 match o with
 | some (.map es) => if kOk kd k ∧ es.all (fun e => kOk kd e.1) then some (.top, upd mem id (.map (iZ k v es))) else none
 | _ => none
section
variable {mem : Mem} {id : Nat} {kd : Option IntKind} {z : Value} {two : Bool} {m k : D}
@[simp] theorem lkD_E : lkD mem kd z two m k = lkE (nO mem kd m) kd z two k := (rfl)
@[simp] theorem mapOf_E : nO mem kd (.omap id) = mapE kd (look mem id) := (rfl)
@[simp] theorem mupM_E {k : Value} {v : D} : kR mem kd (some (.omap id)) (some (.pl k)) (some v) = mupE (look mem id) mem id kd k v := (rfl)
@[simp] theorem mapE_S {m : Sm} : mapE none (some (.map (aJ m))) = some (aJ m) := by
 show (if (aJ m).all (fun e => kOk none e.1) = true then some (aJ m) else none) = _
 rw [if_pos (sm_ok m)]
@[simp] theorem mapE_0 : mapE none (some (.map [])) = some (aJ []) := (rfl)
@[simp] theorem lkE_S {m : Sm} {k : List UInt8} : lkE (some (aJ m)) none (.int .i64 0) false (Tx k) = some (.pl (.int .i64 (cC m k))) := by
 unfold lkE cC
 simp only [kOk, if_true, GZ]
 cases fV m k with
 | none => rfl
 | some v => rfl
@[simp] theorem mupE_S {m : Sm} {k : List UInt8} {v : Int} : mupE (some (.map (aJ m))) mem id none (.string (ByteArray.mk (Array.mk k))) (.pl (.int .i64 v)) = some (.top, upd mem id (.map (aJ (d8 m k v)))) := by
 show (if kOk none (.string (ByteArray.mk (Array.mk k))) = true ∧ (aJ m).all (fun e => kOk none e.1) = true then some (D.top, upd mem id (.map (iZ (.string (ByteArray.mk (Array.mk k))) (.pl (.int .i64 v)) (aJ m)))) else none) = _
 rw [if_pos ⟨rfl, sm_ok m⟩, sm_put]
@[simp] theorem mupE_0 {k : List UInt8} {v : Int} : mupE (some (.map [])) mem id none (.string (ByteArray.mk (Array.mk k))) (.pl (.int .i64 v)) = some (.top, upd mem id (.map (aJ (d8 [] k v)))) := (rfl)
end
section
variable {P : Program} {f : FuncId} {args args' : List D} {mem mf : Mem} {nx : Nat} {K : KD}
theorem pX {v0 : Value} (h1 : bR mem mf) (hfr : dE mf 100 args = some args') (hp : Pure P f args' (.pl v0)) (hk : K (.pl v0) mem nx) : bH P f args mem nx K := by
 refine ⟨hp.1, fun S φ w xs hm htb hx => ?_⟩
 have hmf : MSim S φ mf nx w := eA hm (eR h1) (Nat.le_refl _)
 have hargs := fF hmf 100 args args' xs hfr hx
 have hS2 : ∀ b, SF S φ mf b → b < w.heap.size := by
  rintro b (h | ⟨i, blk, l, _, g2, g3, rfl⟩)
  ·exact hm.sub b h
  ·exact hm.lt i l g2 g3
 refine (hp.2 (SF S φ mf) w xs hS2 (htb.mono fun b h => .inl h) hargs).mono ?_
 rintro e w' ⟨v, S', rfl, hr, hx', hS'⟩
 have hsame : ∀ b, b < w.heap.size → w'.heap[b]? = w.heap[b]? := fun b hb => hx'.keep b hb (by rintro ⟨i, blk, l, h1, _⟩; simp [look] at h1)
 have hst : Stays w S φ w' S φ := Stays.of_heap (fun _ h => h) (fun b hb => hsame b (hm.sub b hb)) (fun _ _ h => h)
 refine ⟨v, .pl v0, mem, nx, S, φ, rfl, hk, Nat.le_refl _, ⟨?_, hm.inj, ?_, hm.fresh, fun b hb => Nat.lt_of_lt_of_le (hm.sub b hb) hx'.size⟩, by simpa [Rep] using hr, hst,
  ⟨fun b hb => hb, fun b hb _ => hsame b hb, hx'.size, fun b _ h => h, fun b hb => .inl hb, hx'.os, hx'.output, hx'.tape⟩, fun _ _ h => h⟩
 ·intro i blk hi
  obtain ⟨l, g1, g2, g3⟩ := hm.mem i blk hi
  exact ⟨l, g1, g2, g3.mono hst fun hr => hsame _ (hm.lt i l g1 hr)⟩
 ·intro i l g1 g2
  exact Nat.lt_of_lt_of_le (hm.lt i l g1 g2) hx'.size
end
inductive rLc : List D → List D → Prop where
 | nil : rLc [] []
 | cons {d d' : D} {ds ds' : List D} (h : rLe d d') (k : rLc ds ds') : rLc (d :: ds) (d' :: ds')
inductive rLe2 : List (List D) → List (List D) → Prop where
 | nil : rLe2 [] []
 | cons {d d' : List D} {ds ds' : List (List D)} (h : rLc d d') (k : rLe2 ds ds') : rLe2 (d :: ds) (d' :: ds')
theorem rLc.refl : ∀ {ds : List D}, rLc ds ds
 | [] => .nil
 | _ :: _ => .cons rLe.refl rLc.refl
theorem rLe2.refl : ∀ {ds : List (List D)}, rLe2 ds ds
 | [] => .nil
 | _ :: _ => .cons rLc.refl rLe2.refl
theorem rLc.len {ds ds' : List D} (h : rLc ds ds') : ds'.length = ds.length := by
 induction h with
 | nil => rfl
 | cons _ _ ih => simp [ih]
theorem rLe2.len {ds ds' : List (List D)} (h : rLe2 ds ds') : ds'.length = ds.length := by
 induction h with
 | nil => rfl
 | cons _ _ ih => simp [ih]
mutual
def D.flat : D → Bool
 | .pl _ => true
 | .agg cs => D.flats cs
 | .tup cs => D.flats cs
 | _ => false
def D.flats : List D → Bool
 | [] => true
 | d :: ds => d.flat && D.flats ds
end
mutual
theorem uZ {w w' : World} {S S' : Nat → Prop} {φ φ' : aW} : ∀ (d : D) (x : Value), d.flat = true → Rep w S φ d x → Rep w' S' φ' d x
 | .pl v, x, _, h => by simpa [Rep] using h
 | .agg cs, x, hf, h => by
  simp only [D.flat] at hf
  simp only [Rep] at h ⊢
  obtain ⟨vs, h1, h2⟩ := h
  exact ⟨vs, h1, nW cs _ hf h2⟩
 | .tup cs, x, hf, h => by
  simp only [D.flat] at hf
  simp only [Rep] at h ⊢
  obtain ⟨vs, h1, h2⟩ := h
  exact ⟨vs, h1, nW cs _ hf h2⟩
 | .top, x, hf, _ => by simp [D.flat] at hf
 | .zs, x, hf, _ => by simp [D.flat] at hf
 | .sl _, x, hf, _ => by simp [D.flat] at hf
 | .pt _, x, hf, _ => by simp [D.flat] at hf
 | .opt _ _, x, hf, _ => by simp [D.flat] at hf
 | .osl _ _ _ _, x, hf, _ => by simp [D.flat] at hf
 | .oel _ _ _ _, x, hf, _ => by simp [D.flat] at hf
 | .omap _, x, hf, _ => by simp [D.flat] at hf
 | .fn _ _, x, hf, _ => by simp [D.flat] at hf
theorem nW {w w' : World} {S S' : Nat → Prop} {φ φ' : aW} : ∀ (ds : List D) (xs : List Value), D.flats ds = true → RepVs w S φ ds xs → RepVs w' S' φ' ds xs
 | [], xs, _, h => by simpa [RepVs] using h
 | d :: ds, xs, hf, h => by
  simp only [D.flats, Bool.and_eq_true] at hf
  simp only [RepVs] at h ⊢
  obtain ⟨x, r, h1, h2, h3⟩ := h
  exact ⟨x, r, h1, uZ d x hf.1 h2, nW ds r hf.2 h3⟩
end
section
variable {P : Program} {f : FuncId} {args args' : List D} {mem mf : Mem} {nx : Nat} {K : KD}
theorem iE {d0 : D} (hf : d0.flat = true) (h1 : bR mem mf) (hfr : dE mf 100 args = some args') (hp : Pure P f args' d0) (hk : K d0 mem nx) : bH P f args mem nx K := by
 refine ⟨hp.1, fun S φ w xs hm htb hx => ?_⟩
 have hmf : MSim S φ mf nx w := eA hm (eR h1) (Nat.le_refl _)
 have hargs := fF hmf 100 args args' xs hfr hx
 have hS2 : ∀ b, SF S φ mf b → b < w.heap.size := by
  rintro b (h | ⟨i, blk, l, _, g2, g3, rfl⟩)
  ·exact hm.sub b h
  ·exact hm.lt i l g2 g3
 refine (hp.2 (SF S φ mf) w xs hS2 (htb.mono fun b h => .inl h) hargs).mono ?_
 rintro e w' ⟨v, S', rfl, hr, hx', hS'⟩
 have hsame : ∀ b, b < w.heap.size → w'.heap[b]? = w.heap[b]? := fun b hb => hx'.keep b hb (by rintro ⟨i, blk, l, h1, _⟩; simp [look] at h1)
 have hst : Stays w S φ w' S φ := Stays.of_heap (fun _ h => h) (fun b hb => hsame b (hm.sub b hb)) (fun _ _ h => h)
 refine ⟨v, d0, mem, nx, S, φ, rfl, hk, Nat.le_refl _, ⟨?_, hm.inj, ?_, hm.fresh, fun b hb => Nat.lt_of_lt_of_le (hm.sub b hb) hx'.size⟩, uZ d0 v hf hr, hst,
  ⟨fun b hb => hb, fun b hb _ => hsame b hb, hx'.size, fun b _ h => h, fun b hb => .inl hb, hx'.os, hx'.output, hx'.tape⟩, fun _ _ h => h⟩
 ·intro i blk hi
  obtain ⟨l, g1, g2, g3⟩ := hm.mem i blk hi
  exact ⟨l, g1, g2, g3.mono hst fun hr => hsame _ (hm.lt i l g1 hr)⟩
 ·intro i l g1 g2
  exact Nat.lt_of_lt_of_le (hm.lt i l g1 g2) hx'.size
end
section
variable {C : Cfg} {w w' W W' : World} {S S' : Nat → Prop} {φ φ' : aW} {a : Act} {env tl : Env} {mem mem' : Mem} {nx nx' : Nat} {x : Rx} {s : St}
theorem CQ (hb : ∀ b, S b ∨ Own φ mem b → w'.heap[b]? = w.heap[b]?) (hn : w.heap.size ≤ w'.heap.size) (hm : MSim S φ mem nx w) : MSim S φ mem nx w' ∧ Stays w S φ w' S φ := by
 have hst : Stays w S φ w' S φ := Stays.of_heap (fun _ h => h) (fun b h => hb b (.inl h)) (fun _ _ h => h)
 refine ⟨⟨fun i blk hi => ?_, hm.inj, fun i l h1 h2 => Nat.lt_of_lt_of_le (hm.lt i l h1 h2) hn, hm.fresh, fun b h => Nat.lt_of_lt_of_le (hm.sub b h) hn⟩, hst⟩
 obtain ⟨l, g1, g2, g3⟩ := hm.mem i blk hi
 exact ⟨l, g1, g2, g3.mono hst fun hr => hb _ (.inr ⟨i, blk, l, hi, g1, hr, rfl⟩)⟩
structure Grown (w w' : World) : Prop where
 size : w.heap.size ≤ w'.heap.size
 same : ∀ b, b < w.heap.size → w'.heap[b]? = w.heap[b]?
 os : w'.os = w.os
 output : w'.output = w.output
 tape : w'.tape = w.tape
theorem own_lt (hm : MSim S φ mem nx w) {b : Nat} (h : S b ∨ Own φ mem b) : b < w.heap.size := by
 rcases h with h | ⟨i, blk, l, _, h2, h3, rfl⟩
 ·exact hm.sub b h
 ·exact hm.lt i l h2 h3
theorem Grown.ext (h : Grown w w') : Ext S φ mem w S φ mem w' := ⟨fun _ h => h, fun b hb _ => h.same b hb, h.size, fun _ _ h => h, fun _ h => .inl h, h.os, h.output, h.tape⟩
end
section
variable {C : Cfg} {Q : Exit → St → Prop} {env : Env} {mem : Mem} {nx : Nat}
end
section
variable {C : Cfg} {w : World} {S : Nat → Prop} {φ : aW} {a : Act} {env tl : Env} {mem : Mem} {nx : Nat}
end
section
variable {P : Program} {ty e : TypeId} {f : FuncId} {r : D} {es : List (List D)}
end
end Go.Fx

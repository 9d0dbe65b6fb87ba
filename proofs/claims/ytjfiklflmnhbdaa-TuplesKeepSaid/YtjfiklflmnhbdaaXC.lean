/-
  The library, XC: X13, X14, X14b, X14c.
-/
import Derived.Test.YtjfiklflmnhbdaaXB
/-
  A region's operations in their order.
-/

set_option linter.all false
namespace Go.Fx
open Go
section
variable {C : Cfg} {w w' : World} {S S' : Nat → Prop} {φ φ' : Locs} {a : Act} {env tl : Env} {mem : Mem} {nx id : Nat}

theorem getD_set_ne {t j : Nat} (x : Value) (h : j ≠ t) : (a.tmps.setIfInBounds t x).getD j undef = a.tmps.getD j undef := by
  simp only [Array.getD_eq_getD_getElem?, Array.getElem?_setIfInBounds]
  rw [if_neg (Ne.symm h)]

theorem getD_set_eq {t : Nat} (x : Value) (h : t < a.tmps.size) : (a.tmps.setIfInBounds t x).getD t undef = x := by
  simp only [Array.getD_eq_getD_getElem?, Array.getElem?_setIfInBounds]
  simp [h]

/-- A result is laid down. -/
theorem known_put {B : Rx} {o : Oper} {d : Dst} {v : D} {x : Value} {go : Env → Env → Mem → Nat → Prop} (hd : C.dst o.dst = some d) (hk : Known C w S φ env tl a) (hsz : a.tmps.size = C.n) (hdf : Dfr B S' w' a.defers) (hst : Stays w S φ w' S' φ') (hv : Rep w' S' φ' v x)
    (hK : nextK d env tl go v mem nx) : ∃ env' tl', go env' tl' mem nx ∧ Known C w' S' φ' env' tl' (a.put o.dst x) ∧ (a.put o.dst x).tmps.size = C.n ∧ Dfr B S' w' (a.put o.dst x).defers := by
  have hk' : Known C w' S' φ' env tl a := ⟨fun j d hj hl => Rep.mono hst _ _ (hk.env j d hj hl), fun j d hj hl => Rep.mono hst _ _ (hk.tl j d hj hl)⟩
  cases ho : o.dst with
  | none =>
    rw [ho] at hd
    simp only [Cfg.dst, Option.some.injEq] at hd; subst hd
    exact ⟨env, tl, hK, hk', hsz, hdf⟩
  | some t =>
    rw [ho] at hd
    simp only [Cfg.dst] at hd
    have hlt : t < C.n := by
      by_cases h : t < C.n
      · exact h
      · simp [h] at hd
    simp only [hlt, if_true, Option.some.injEq] at hd
    have hts : t < a.tmps.size := by rw [hsz]; exact hlt
    by_cases ht : t ∈ C.gs
    · have hc : C.gs.contains t = true := by simpa using ht
      simp only [hc, if_true] at hd; subst hd
      refine ⟨upd env t v, tl, hK, ⟨fun j d hj hl => ?_, fun j d hj hl => ?_⟩, by simp [Act.put, hsz], hdf⟩
      · rcases look_upd t v env j d hl with ⟨rfl, rfl⟩ | ⟨hne, hl⟩
        · simp only [Act.put]; rw [getD_set_eq x hts]; exact hv
        · simp only [Act.put]; rw [getD_set_ne x hne]; exact hk'.env j d hj hl
      · have hne : j ≠ t := by rintro rfl; exact hj ht
        simp only [Act.put]; rw [getD_set_ne x hne]; exact hk'.tl j d hj hl
    · have hc : C.gs.contains t = false := by simpa using ht
      simp only [hc, Bool.false_eq_true, if_false] at hd; subst hd
      refine ⟨env, (t, v) :: tl, hK, ⟨fun j d hj hl => ?_, fun j d hj hl => ?_⟩, by simp [Act.put, hsz], hdf⟩
      · have hne : j ≠ t := by rintro rfl; exact ht hj
        simp only [Act.put]; rw [getD_set_ne x hne]; exact hk'.env j d hj hl
      · simp only [look] at hl
        by_cases e : t = j
        · simp only [e, if_true, Option.some.injEq] at hl; subst hl; subst e
          simp only [Act.put]; rw [getD_set_eq x hts]; exact hv
        · simp only [e, if_false] at hl
          simp only [Act.put]; rw [getD_set_ne x (Ne.symm e)]; exact hk'.tl j d hj hl

/-- A guard's truth value is known. -/
theorem known_set {t : Nat} {b : Bool} (hk : Known C w S φ env tl a) (h : a.tmps.getD t undef = .bool b) :
    Known C w S φ (setE b env (if C.gs.contains t then .g t else .t t)) (setT b tl (if C.gs.contains t then .g t else .t t)) a := by
  by_cases ht : C.gs.contains t = true
  · simp only [ht, if_true, setE, setT]
    refine ⟨fun j d hj hl => ?_, hk.tl⟩
    rcases look_upd t _ env j d hl with ⟨rfl, rfl⟩ | ⟨hne, hl⟩
    · rw [h]; simp [Rep]
    · exact hk.env j d hj hl
  · simp only [ht, setE, setT]
    refine ⟨hk.env, fun j d hj hl => ?_⟩
    rcases look_upd t _ tl j d hl with ⟨rfl, rfl⟩ | ⟨hne, hl⟩
    · rw [h]; simp [Rep]
    · exact hk.tl j d hj hl

theorem opd_tmp (t : Nat) : C.opd (.tmp t) = some (if C.gs.contains t then .g t else .t t) := rfl

theorem ins_out {ops : Array Oper} {o : Oper} {x : Ins} (h : C.ins ops o = some x) : C.dst o.dst = some x.dst ∧ C.op (C.owned o.dst) o.op = some x.i ∧
    ((o.guard = none ∧ x.guard = none) ∨ ∃ j want t, o.guard = some (j, want) ∧ (ops[j]?).bind (·.dst) = some t ∧ x.guard = some (if C.gs.contains t then .g t else .t t, want)) := by
  unfold Cfg.ins at h
  split at h
  · rename_i d g i hd hg hi
    simp only [Option.some.injEq] at h; subst h
    refine ⟨hd, hi, ?_⟩
    cases hgo : o.guard with
    | none =>
      rw [hgo] at hg
      simp only [Cfg.guardO, Option.some.injEq] at hg; subst hg
      exact .inl ⟨rfl, rfl⟩
    | some p =>
      obtain ⟨j, want⟩ := p
      rw [hgo] at hg
      simp only [Cfg.guardO] at hg
      split at hg
      · rename_i t ht
        simp only [Option.some.injEq] at hg; subst hg
        exact .inr ⟨j, want, t, rfl, ht, rfl⟩
      · simp at hg
  · simp at h

/-- Of one operation of a region: what its condition says, and the next ones. -/
def One (C : Cfg) (base : Nat) (x : Ins) (j : Nat) (env tl : Env) (mem : Mem) (nx : Nat) (go : Env → Env → Mem → Nat → Prop) : Prop :=
  match x with
  | ⟨d, none, i⟩ => stepI C (base + j) i env tl mem nx (nextK d env tl go)
  | ⟨d, some (g, want), i⟩ => gd C (ro tl env g) g want d (base + j) i env tl mem nx go

theorem run_one {base j : Nat} {K : Env → Env → Mem → Nat → Prop} {x : Ins} {r : List Ins} : run C base K (x :: r) j env tl mem nx = One C base x j env tl mem nx (run C base K r (j + 1)) := by
  obtain ⟨d, g, i⟩ := x
  cases g with
  | none => rfl
  | some p => obtain ⟨g, want⟩ := p; rfl

/-- The state behind one operation. -/
structure Here (C : Cfg) (B : Rx) (S : Nat → Prop) (φ : Locs) (env tl : Env) (mem : Mem) (nx : Nat) (a : Act) (w : World) : Prop where
  known : Known C w S φ env tl a
  size : a.tmps.size = C.n
  defers : Dfr B S w a.defers
  m : MSim S φ mem nx w

theorem put_defers {o : Oper} {v : Value} : (a.put o.dst v).defers = a.defers := by cases ho : o.dst <;> simp [Act.put]
theorem one_sound {B : Rx} {ops : Array Oper} {o : Oper} {x : Ins} {base j k : Nat} {go : Env → Env → Mem → Nat → Prop} (hj : ops[k]? = some o) (hx : C.ins ops o = some x) (h : One C base x j env tl mem nx go) (hh : Here C B S φ env tl mem nx a w)
    (hfree : φ (base + j) = none) (hlt : base + j < nx) {Q : Exit → Act → World → Prop} :
    wpOp C.P ops Q k (fun a' w' => ∃ S' φ' env' tl' mem' nx', go env' tl' mem' nx' ∧ Here C B S' φ' env' tl' mem' nx' a' w' ∧ Stays w S φ w' S' φ' ∧ Ext S φ mem w S' φ' mem' w' ∧ nx ≤ nx' ∧ (∀ i, i ≠ base + j → i < nx → φ i = none → φ' i = none) ∧ a'.defers = a.defers) a w := by
  obtain ⟨hd, hi, hg⟩ := ins_out hx
  have step : ∀ (env tl : Env), Known C w S φ env tl a → stepI C (base + j) x.i env tl mem nx (nextK x.dst env tl go) →
      o.wp C.P a w (fun a' w' => ∃ S' φ' env' tl' mem' nx', go env' tl' mem' nx' ∧ Here C B S' φ' env' tl' mem' nx' a' w' ∧ Stays w S φ w' S' φ' ∧ Ext S φ mem w S' φ' mem' w' ∧ nx ≤ nx' ∧ (∀ i, i ≠ base + j → i < nx → φ i = none → φ' i = none) ∧ a'.defers = a.defers) Q := by
    intro env tl hk hs
    refine Oper.wp_monoQ ?_ (fun _ _ _ h => h.elim) (step_sound hi hs hk hh.m hfree hlt)
    rintro a' w' ⟨r, rfl, v, mem', nx', S', φ', h1, h2, h3, h4, h5, h6, h7⟩
    obtain ⟨env', tl', g1, g2, g3, g4⟩ := known_put hd hk hh.size (hh.defers.ext hh.m h6) h5 h3 h1
    exact ⟨S', φ', env', tl', mem', nx', g1, ⟨g2, g3, g4, h4⟩, h5, h6, h2, h7, put_defers⟩
  unfold wpOp
  simp only [hj]
  rcases hg with ⟨hg, hxg⟩ | ⟨jj, want, t, hg, ht, hxg⟩
  · have hw : Region.wanted o (yielded ops a.tmps) = true := by simp [Region.wanted, hg]
    simp only [hw, if_true]
    left
    obtain ⟨d, g, i⟩ := x
    simp only at hxg; subst hxg
    exact step env tl hh.known h
  · obtain ⟨d, g, i⟩ := x
    simp only at hxg; subst hxg
    simp only [One, gd] at h
    split at h
    · rename_i b hro
      have hb := ro_sound hh.known (opd_tmp t) hro
      simp only [Rep, Act.eval] at hb
      have hy : yielded ops a.tmps jj = some b := by
        unfold yielded
        rw [ht]
        simp only [Option.bind_some]
        cases hq : a.tmps[t]? with
        | none => simp [Array.getD_eq_getD_getElem?, hq, undef] at hb
        | some u =>
          simp only [Array.getD_eq_getD_getElem?, hq, Option.getD_some] at hb
          subst hb; rfl
      by_cases hbw : b = want
      · subst hbw
        have hw : Region.wanted o (yielded ops a.tmps) = true := by simp [Region.wanted, hg, hy]
        simp only [hw, if_true]
        left
        exact step _ _ (known_set hh.known hb) (h.1 rfl)
      · have hw : Region.wanted o (yielded ops a.tmps) = false := by
          simp only [Region.wanted, hg, hy]
          simp [hbw]
        simp only [hw, Bool.false_eq_true, if_false]
        have hbn : b = !want := by cases b <;> cases want <;> simp_all
        have h2 := h.2 hbn
        rw [← hbn] at h2
        obtain ⟨env', tl', g1, g2, g3, g4⟩ := known_put (x := undef) hd (known_set hh.known hb) hh.size hh.defers (Stays.refl w S φ) (by simp [Rep]) h2
        exact ⟨S, φ, env', tl', mem, nx, g1, ⟨g2, g3, g4, hh.m⟩, Stays.refl .., Ext.refl .., Nat.le_refl _, fun _ _ _ h => h, put_defers⟩
    · rename_i vs hro
      have hb := ro_sound hh.known (opd_tmp t) hro
      simp only [Rep, Act.eval] at hb
      have hy : yielded ops a.tmps jj = none := by
        unfold yielded
        rw [ht]
        simp only [Option.bind_some]
        cases hq : a.tmps[t]? with
        | none => rfl
        | some u =>
          simp only [Array.getD_eq_getD_getElem?, hq, Option.getD_some] at hb
          subst hb; rfl
      have hw : Region.wanted o (yielded ops a.tmps) = false := by
        simp only [Region.wanted, hg, hy]
        rfl
      simp only [hw, Bool.false_eq_true, if_false]
      obtain ⟨env', tl', g1, g2, g3, g4⟩ := known_put (x := undef) hd hh.known hh.size hh.defers (Stays.refl w S φ) (by simp [Rep]) h
      exact ⟨S, φ, env', tl', mem, nx, g1, ⟨g2, g3, g4, hh.m⟩, Stays.refl .., Ext.refl .., Nat.le_refl _, fun _ _ _ h => h, put_defers⟩
    · exact h.elim

theorem wpOp_monoQ {P : Program} {ops : Array Oper} {Q Q' : Exit → Act → World → Prop} {j : Nat} {K K' : Act → World → Prop} (hK : ∀ a w, K a w → K' a w) (hq : ∀ e a w, Q e a w → Q' e a w) (h : wpOp P ops Q j K a w) : wpOp P ops Q' j K' a w := by
  unfold wpOp at h ⊢
  cases ho : ops[j]? with
  | none => simp only [ho] at h ⊢; exact hK _ _ h
  | some o =>
    simp only [ho] at h ⊢
    split
    · rename_i hw
      simp only [hw, if_true] at h
      rcases h with h | ⟨h1, a0, w0, h0⟩
      · exact .inl (Oper.wp_monoQ hK hq h)
      · exact .inr ⟨h1, a0, w0, hq _ _ _ h0⟩
    · rename_i hw
      simp only [hw] at h
      exact hK _ _ h

theorem run_sound {B : Rx} {ops : Array Oper} {base N : Nat} (hN : N ≤ base) {K : Env → Env → Mem → Nat → Prop} : ∀ (rest : List Oper) (is : List Ins) (j : Nat) (env tl : Env) (mem : Mem) (nx : Nat) (S : Nat → Prop) (φ : Locs) (a : Act) (w : World),
    (∀ i, ops[j + i]? = rest[i]?) → rest.mapM (C.ins ops) = some is → run C base K is j env tl mem nx → Here C B S φ env tl mem nx a w → (∀ i, j ≤ i → i < j + rest.length → φ (base + i) = none) → base + j + rest.length ≤ nx →
    wpOps C.P ops (Post C B N S φ mem w (fun e s => e = .normal ∧ K s.env s.tl s.mem s.nx)) (List.range' j rest.length) a w
  | [], is, j, env, tl, mem, nx, S, φ, a, w, _, hm, hr, hh, _, hn => by
    simp only [List.mapM_nil, Option.pure_def, Option.some.injEq] at hm; subst hm
    exact ⟨⟨env, tl, mem, nx⟩, S, φ, ⟨rfl, hr⟩, ⟨hh.size, hh.defers, hh.known.env, hh.known.tl, hh.m⟩, Ext.refl .., Grow.refl (by simp only at hn ⊢; omega)⟩
  | o :: rest, is, j, env, tl, mem, nx, S, φ, a, w, ho, hm, hr, hh, hf, hn => by
    simp only [List.mapM_cons, Option.bind_eq_bind, Option.bind_eq_some_iff, Option.pure_def, Option.some.injEq] at hm
    obtain ⟨x, hx, is', his, rfl⟩ := hm
    rw [run_one] at hr
    have hj : ops[j]? = some o := by have := ho 0; simpa using this
    simp only [List.length_cons] at hf hn ⊢
    rw [List.range'_succ, wpOps_cons]
    refine wpOp_mono ?_ (one_sound (k := j) hj hx hr hh (hf j (Nat.le_refl _) (by omega)) (by omega))
    rintro a' w' ⟨S', φ', env', tl', mem', nx', h1, h2, h3, h4, h5, h6, _⟩
    refine wpOps_mono (fun e a w hp => hp.trans h4 (n1 := nx') ⟨by omega, fun i hi hnn => h6 i (by omega) (by omega) hnn, h3.loc⟩) _ _ _ (run_sound hN rest is' (j + 1) env' tl' mem' nx' S' φ' a' w' (fun i => ?_) his h1 h2 (fun i hi hi2 => ?_) (by omega))
    · have := ho (i + 1)
      rw [show j + (i + 1) = j + 1 + i by omega] at this
      simpa using this
    · exact h6 _ (by omega) (by omega) (hf i (by omega) (by omega))
end
end Go.Fx

/-
  A region that draws its order: whatever is drawn, the state behind it is the one that the text's order gives.
-/

set_option linter.all false
namespace Go.Fx
open Go
section
variable {C : Cfg} {w w' : World} {S S' : Nat → Prop} {φ φ' : Locs} {a : Act} {env tl env2 tl2 : Env} {mem mem2 : Mem} {nx nx2 id : Nat}

theorem mapM_length {α β : Type} {f : α → Option β} : ∀ {l : List α} {r : List β}, l.mapM f = some r → l.length = r.length
  | [], r, h => by simp only [List.mapM_nil, Option.pure_def, Option.some.injEq] at h; subst h; rfl
  | x :: l, r, h => by
    simp only [List.mapM_cons, Option.bind_eq_bind, Option.bind_eq_some_iff, Option.pure_def, Option.some.injEq] at h
    obtain ⟨y, _, r', hr, rfl⟩ := h
    simp [mapM_length hr]

theorem mapM_get {α β : Type} {f : α → Option β} : ∀ {l : List α} {r : List β}, l.mapM f = some r → ∀ (i : Nat) (x : β), r[i]? = some x → ∃ y, l[i]? = some y ∧ f y = some x
  | [], r, h, i, x, hx => by simp only [List.mapM_nil, Option.pure_def, Option.some.injEq] at h; subst h; simp at hx
  | y :: l, r, h, i, x, hx => by
    simp only [List.mapM_cons, Option.bind_eq_bind, Option.bind_eq_some_iff, Option.pure_def, Option.some.injEq] at h
    obtain ⟨z, hz, r', hr, rfl⟩ := h
    cases i with
    | zero => simp only [List.getElem?_cons_zero, Option.some.injEq] at hx; subst hx; exact ⟨y, rfl, hz⟩
    | succ i => simp only [List.getElem?_cons_succ] at hx ⊢; exact mapM_get hr i x hx

/-! #### What an operation hangs on -/
theorem ro_congr {x : Opd} (h : ∀ s ∈ Cfg.seesO x, look env s = look env2 s ∧ look tl s = look tl2 s) : ro tl env x = ro tl2 env2 x := by
  cases x with
  | t j => exact (h j (by simp [Cfg.seesO])).2
  | g j => exact (h j (by simp [Cfg.seesO])).1
  | c v => rfl
  | f i => rfl

theorem ros_congr : ∀ {xs : List Opd}, (∀ s ∈ xs.flatMap Cfg.seesO, look env s = look env2 s ∧ look tl s = look tl2 s) → ros tl env xs = ros tl2 env2 xs
  | [], _ => rfl
  | x :: xs, h => by
    simp only [ros]
    rw [ro_congr (x := x) fun s hs => h s (by simp [hs]), ros_congr (xs := xs) fun s hs => h s (by simp only [List.flatMap_cons, List.mem_append]; exact .inr hs)]

theorem rps_congr : ∀ {ps : List (Nat × Nat × Opd)}, (∀ s ∈ ps.flatMap (fun p => Cfg.seesO p.2.2), look env s = look env2 s ∧ look tl s = look tl2 s) → rps tl env ps = rps tl2 env2 ps
  | [], _ => rfl
  | (o, n, x) :: ps, h => by
    simp only [rps]
    rw [ro_congr (x := x) fun s hs => h s (by simp [hs]), rps_congr (ps := ps) fun s hs => h s (by simp only [List.flatMap_cons, List.mem_append]; exact .inr hs)]

def Sub (m m2 : Mem) : Prop := ∀ i b, look m i = some b → look m2 i = some b
/-- The block that d leads into is there still. -/
def SubD (d : D) (m m2 : Mem) : Prop := ∀ i, d.hd = some i → ∀ b, look m i = some b → look m2 i = some b
theorem Sub.at {m m2 : Mem} (h : Sub m m2) (d : D) : SubD d m m2 := fun i _ b hb => h i b hb

theorem curv_sub {i v : Nat} (h : ∀ b, look mem i = some b → look mem2 i = some b) (hc : curv mem i v = true) : curv mem2 i v = true := by
  unfold curv at hc ⊢
  split at hc
  · rename_i hl; rw [h _ hl]; exact hc
  · simp at hc
theorem cur_sub {i v k : Nat} (h : ∀ b, look mem i = some b → look mem2 i = some b) (hc : cur mem i v k = true) : cur mem2 i v k = true := by
  unfold cur at hc ⊢
  split at hc
  · rename_i hl; rw [h _ hl]; exact hc
  · simp at hc
theorem iaaD_sub {len k : Nat} {x y d : D} (h : SubD x mem mem2) (hc : iaaD mem len k x y = some d) (hf : ∀ {n : Nat} {d : D}, faD mem n x = some d → faD mem2 n x = some d) : iaaD mem2 len k x y = some d := by
  unfold iaaD at hc ⊢
  split at hc
  · simp only [Option.ite_none_right_eq_some] at hc ⊢
    exact ⟨hc.1, hf hc.2⟩
  · simp at hc
theorem lnmD_sub {x d : D} (h : SubD x mem mem2) (hc : lnmD mem x = some d) : lnmD mem2 x = some d := by
  unfold lnmD at hc ⊢
  split at hc
  · split at hc
    · rename_i hl; rw [h _ rfl _ hl]; exact hc
    · simp at hc
  · exact hc
  · simp at hc
theorem lkD_sub {kd : Option IntKind} {z : Value} {two : Bool} {x y d : D} (h : SubD x mem mem2) (hc : lkD mem kd z two x y = some d) : lkD mem2 kd z two x y = some d := by
  have key : ∀ es, mapOf mem kd x = some es → mapOf mem2 kd x = some es := by
    intro es he
    unfold mapOf at he ⊢
    split at he
    · split at he
      · rename_i hl; rw [h _ rfl _ hl]; exact he
      · simp at he
    · exact he
    · simp at he
  unfold lkD at hc ⊢
  split at hc
  · rename_i hes
    rw [key _ hes]; exact hc
  · simp at hc
theorem rdc_sub {n : Nat} {x : D} {cs : List D} (h : SubD x mem mem2) (hc : rdc mem n x = some cs) : rdc mem2 n x = some cs := by
  cases x with
  | opt i off =>
    simp only [rdc] at hc ⊢
    split at hc
    · rename_i hl; rw [h _ rfl _ hl]; exact hc
    · simp at hc
  | oel i v ix off =>
    simp only [rdc] at hc ⊢
    split at hc
    · rename_i hl; rw [h _ rfl _ hl]; exact hc
    · simp at hc
  | _ => exact hc
theorem ldD_sub {g : Bool} {n : Nat} {x d : D} (h : SubD x mem mem2) (hc : ldD mem g n x = some d) : ldD mem2 g n x = some d := by
  unfold ldD at hc ⊢
  split at hc
  · rename_i hl; rw [rdc_sub h hl]; exact hc
  · simp at hc
theorem faD_sub {n : Nat} {x d : D} (h : SubD x mem mem2) (hc : faD mem n x = some d) : faD mem2 n x = some d := by
  cases x with
  | oel i v ix off =>
    simp only [faD, Option.ite_none_right_eq_some, Option.some.injEq] at hc ⊢
    exact ⟨curv_sub (h _ rfl) hc.1, hc.2⟩
  | _ => exact hc
theorem iaD_sub {k : Nat} {x y d : D} (h : SubD x mem mem2) (hc : iaD mem k x y = some d) : iaD mem2 k x y = some d := by
  unfold iaD at hc ⊢
  split at hc
  · exact hc
  · simp only [Option.ite_none_right_eq_some] at hc ⊢
    exact ⟨cur_sub (h _ rfl) hc.1, hc.2⟩
  · simp at hc
theorem lenD_sub {s : Bool} {x d : D} (h : SubD x mem mem2) (hc : lenD mem s x = some d) : lenD mem2 s x = some d := by
  cases x with
  | osl i v lo n =>
    simp only [lenD] at hc ⊢
    split at hc
    · simp at hc
    · rename_i hn
      simp only [Bool.or_eq_true, Bool.not_eq_true', not_or, Bool.not_eq_true, Bool.not_eq_false] at hn
      rw [if_neg (by simp [hn.1, curv_sub (h _ rfl) hn.2])]; exact hc
  | pl v =>
    cases v with
    | slice p n c => cases p <;> cases n <;> cases c <;> exact hc
    | _ => exact hc
  | _ => exact hc
theorem slsD_sub {s : Bool} {k : Nat} {x d : D} {lo hi : Option D} (h : SubD x mem mem2) (hc : slsD mem s k x lo hi = some d) : slsD mem2 s k x lo hi = some d := by
  cases x with
  | osl i v o n =>
    simp only [slsD] at hc ⊢
    split at hc
    · simp at hc
    · rename_i hn
      simp only [Bool.or_eq_true, Bool.not_eq_true', not_or, Bool.not_eq_true, Bool.not_eq_false] at hn
      rw [if_neg (by simp [hn.1, curv_sub (h _ rfl) hn.2])]; exact hc
  | pl v =>
    cases v with
    | slice p n c => cases p <;> cases n <;> cases c <;> exact hc
    | _ => exact hc
  | _ => exact hc
theorem els_sub {k : Nat} {x : D} {es : List (List D)} (h : SubD x mem mem2) (hc : els mem k x = some es) : els mem2 k x = some es := by
  cases x with
  | osl i v lo n =>
    simp only [els] at hc ⊢
    split at hc
    · rename_i hl; rw [h _ rfl _ hl]; exact hc
    · simp at hc
  | pl v =>
    cases v with
    | slice p n c => cases p <;> cases n <;> cases c <;> exact hc
    | _ => exact hc
  | _ => exact hc

/-- Just this outcome. -/
def Sg (d : D) (m : Mem) (n : Nat) : KD := fun d' m' n' => d' = d ∧ m' = m ∧ n' = n

theorem k0_mk {o : Option D} {d : D} {K : KD} (h : o = some d) (hk : K d mem nx) : k0 o mem nx K := by subst h; exact hk
theorem k1_mk {o : Option D} {g : D → Option D} {x d : D} {K : KD} (h : o = some x) (h2 : g x = some d) (hk : K d mem nx) : k1 o g mem nx K := by subst h; exact k0_mk h2 hk
theorem k2_mk {o p : Option D} {g : D → D → Option D} {x y d : D} {K : KD} (h : o = some x) (h1 : p = some y) (h2 : g x y = some d) (hk : K d mem nx) : k2 o p g mem nx K := by subst h h1; exact k0_mk h2 hk
theorem kl_mk {α : Type} {o : Option α} {g : α → Option D} {x : α} {d : D} {K : KD} (h : o = some x) (h2 : g x = some d) (hk : K d mem nx) : kl o g mem nx K := by subst h; exact k0_mk h2 hk
theorem km_mk {o : Option (D × Mem)} {d : D} {m : Mem} {K : KD} (h : o = some (d, m)) (hk : K d m nx) : km o nx K := by subst h; exact hk

theorem pick_free {a b : Option D} {c d : D} (h : pickD a b c = some d) {a' b' : Option D} (ha : a = a') (hb : b = b') : pickD a' b' c = some d := by subst ha hb; exact h

/-- A free operation has one outcome; it hangs on what it reads alone. -/
theorem free_one {i : I} {K : KD} (hf : i.free = true) (h : stepI C id i env tl mem nx K) : ∃ d ext, K d (ext ++ mem) nx ∧ (ext = [] ∨ (∃ b, ext = [(id, b)]) ∧ Cfg.makesI i = true) ∧
    ∀ env2 tl2 mem2 nx2, (∀ s ∈ Cfg.seesI i, look env s = look env2 s ∧ look tl s = look tl2 s) → (∀ p ∈ Cfg.lookO i, ∀ d, ro tl env p = some d → SubD d mem mem2) → stepI C id i env2 tl2 mem2 nx2 (Sg d (ext ++ mem2) nx2) := by
  cases i with
  | mv x =>
    obtain ⟨d, h1, h2⟩ := k0_out h
    exact ⟨d, [], h2, .inl rfl, fun e t m n hs _ => k0_mk (by rw [← ro_congr hs]; exact h1) ⟨rfl, rfl, rfl⟩⟩
  | pick c x y =>
    obtain ⟨d, r, h1, h2, h3⟩ := k1_out h
    refine ⟨r, [], h3, .inl rfl, fun e t m n hs _ => k1_mk (x := d) (d := r) ?_ (pick_free h2 ?_ ?_) ⟨rfl, rfl, rfl⟩⟩
    · rw [← ro_congr (x := c) fun s h => hs s (by simp [Cfg.seesI, h])]; exact h1
    · exact ro_congr fun s h => hs s (by simp [Cfg.seesI, h])
    · exact ro_congr fun s h => hs s (by simp [Cfg.seesI, h])
  | bld z ps =>
    obtain ⟨d, r, h1, h2, h3⟩ := kl_out h
    exact ⟨r, [], h3, .inl rfl, fun e t m n hs _ => kl_mk (by rw [← rps_congr hs]; exact h1) h2 ⟨rfl, rfl, rfl⟩⟩
  | bsl k len z ps =>
    obtain ⟨d, r, h1, h2, h3⟩ := kl_out h
    exact ⟨r, [], h3, .inl rfl, fun e t m n hs _ => kl_mk (by rw [← rps_congr hs]; exact h1) h2 ⟨rfl, rfl, rfl⟩⟩
  | z0 => exact ⟨.zs, [], h, .inl rfl, fun e t m n hs _ => ⟨rfl, rfl, rfl⟩⟩
  | ld g k x =>
    obtain ⟨d, r, h1, h2, h3⟩ := k1_out h
    exact ⟨r, [], h3, .inl rfl, fun e t m n hs hm => k1_mk (by rw [← ro_congr hs]; exact h1) (ldD_sub (hm _ (by simp [Cfg.lookO]) _ h1) h2) ⟨rfl, rfl, rfl⟩⟩
  | chk x =>
    obtain ⟨d, r, h1, h2, h3⟩ := k1_out h
    exact ⟨r, [], h3, .inl rfl, fun e t m n hs hm => k1_mk (by rw [← ro_congr hs]; exact h1) h2 ⟨rfl, rfl, rfl⟩⟩
  | bin op ty x y =>
    obtain ⟨d, d2, r, h1, h2, h3, h4⟩ := k2_out h
    refine ⟨r, [], h4, .inl rfl, fun e t m n hs hm => k2_mk (x := d) (y := d2) ?_ ?_ h3 ⟨rfl, rfl, rfl⟩⟩
    · rw [← ro_congr (x := x) fun s h => hs s (by simp [Cfg.seesI, h])]; exact h1
    · rw [← ro_congr (x := y) fun s h => hs s (by simp [Cfg.seesI, h])]; exact h2
  | un op x =>
    obtain ⟨d, r, h1, h2, h3⟩ := k1_out h
    exact ⟨r, [], h3, .inl rfl, fun e t m n hs hm => k1_mk (by rw [← ro_congr hs]; exact h1) h2 ⟨rfl, rfl, rfl⟩⟩
  | cv s0 d0 x =>
    obtain ⟨d, r, h1, h2, h3⟩ := k1_out h
    exact ⟨r, [], h3, .inl rfl, fun e t m n hs hm => k1_mk (by rw [← ro_congr hs]; exact h1) h2 ⟨rfl, rfl, rfl⟩⟩
  | fa off x =>
    obtain ⟨d, r, h1, h2, h3⟩ := k1_out h
    exact ⟨r, [], h3, .inl rfl, fun e t m n hs hm => k1_mk (by rw [← ro_congr hs]; exact h1) (faD_sub (hm _ (by simp [Cfg.lookO]) _ h1) h2) ⟨rfl, rfl, rfl⟩⟩
  | fld g k off x =>
    obtain ⟨d, r, h1, h2, h3⟩ := k1_out h
    exact ⟨r, [], h3, .inl rfl, fun e t m n hs hm => k1_mk (by rw [← ro_congr hs]; exact h1) h2 ⟨rfl, rfl, rfl⟩⟩
  | ia k x y =>
    obtain ⟨d, d2, r, h1, h2, h3, h4⟩ := k2_out h
    refine ⟨r, [], h4, .inl rfl, fun e t m n hs hm => k2_mk (x := d) (y := d2) ?_ ?_ (iaD_sub (hm _ (by simp [Cfg.lookO]) _ h1) h3) ⟨rfl, rfl, rfl⟩⟩
    · rw [← ro_congr (x := x) fun s h => hs s (by simp [Cfg.seesI, h])]; exact h1
    · rw [← ro_congr (x := y) fun s h => hs s (by simp [Cfg.seesI, h])]; exact h2
  | ext j x =>
    obtain ⟨d, r, h1, h2, h3⟩ := k1_out h
    exact ⟨r, [], h3, .inl rfl, fun e t m n hs hm => k1_mk (by rw [← ro_congr hs]; exact h1) h2 ⟨rfl, rfl, rfl⟩⟩
  | len s0 x =>
    obtain ⟨d, r, h1, h2, h3⟩ := k1_out h
    exact ⟨r, [], h3, .inl rfl, fun e t m n hs hm => k1_mk (by rw [← ro_congr hs]; exact h1) (lenD_sub (hm _ (by simp [Cfg.lookO]) _ h1) h2) ⟨rfl, rfl, rfl⟩⟩
  | bi b xs =>
    obtain ⟨d, r, h1, h2, h3⟩ := kl_out h
    exact ⟨r, [], h3, .inl rfl, fun e t m n hs _ => kl_mk (by rw [← ros_congr hs]; exact h1) h2 ⟨rfl, rfl, rfl⟩⟩
  | sls s0 k x lo hi =>
    obtain ⟨d, h1, h2⟩ := k0_out h
    refine ⟨d, [], h2, .inl rfl, fun e t m n hs hm => k0_mk ?_ ⟨rfl, rfl, rfl⟩⟩
    have e1 : ro tl env x = ro t e x := ro_congr fun s h => hs s (by simp [Cfg.seesI, h])
    have e2 : roo tl env lo = roo t e lo := by
      cases lo with
      | none => rfl
      | some l => simp only [roo]; rw [ro_congr (x := l) fun s h => hs s (by simp [Cfg.seesI, h])]
    have e3 : roo tl env hi = roo t e hi := by
      cases hi with
      | none => rfl
      | some l => simp only [roo]; rw [ro_congr (x := l) fun s h => hs s (by simp [Cfg.seesI, h])]
    rw [← e1, ← e2, ← e3]
    unfold slsO at h1 ⊢
    split at h1
    · rename_i h4 _ _
      exact slsD_sub (hm x (by simp [Cfg.lookO]) _ h4) h1
    · simp at h1
  | mkf f xs =>
    obtain ⟨d, r, h1, h2, h3⟩ := kl_out h
    exact ⟨r, [], h3, .inl rfl, fun e t m n hs _ => kl_mk (by rw [← ros_congr hs]; exact h1) h2 ⟨rfl, rfl, rfl⟩⟩
  | bxi x =>
    obtain ⟨d, r, h1, h2, h3⟩ := k1_out h
    exact ⟨r, [], h3, .inl rfl, fun e t m n hs hm => k1_mk (by rw [← ro_congr hs]; exact h1) h2 ⟨rfl, rfl, rfl⟩⟩
  | mki k bytes z x =>
    obtain ⟨d, r, h1, h2, h3⟩ := k1_out h
    exact ⟨r, [], h3, .inl rfl, fun e t m n hs hm => k1_mk (by rw [← ro_congr hs]; exact h1) h2 ⟨rfl, rfl, rfl⟩⟩
  | pc f xs =>
    obtain ⟨g, caps, ys, r, h1, h2, h3, h4, h5⟩ := pcK_out h
    refine ⟨r, [], h5, .inl rfl, fun e t m n hs _ => ?_⟩
    show pcK C.P (ro t e f) (ros t e xs) m n _
    rw [← ro_congr (x := f) fun s h => hs s (by simp [Cfg.seesI, h]), ← ros_congr (xs := xs) fun s h => hs s (by simp only [Cfg.seesI, List.mem_append]; exact .inr h), h1, h2]
    exact ⟨r, h3, h4, rfl, rfl, rfl⟩
  | al z => exact ⟨_, [(id, .box (z.map .pl))], h, .inr ⟨⟨_, rfl⟩, rfl⟩, fun e t m n hs _ => ⟨rfl, rfl, rfl⟩⟩
  | bx x =>
    obtain ⟨d, m', h1, h2⟩ := km_out h
    cases hd : ro tl env x with
    | none => simp [hd, bxM] at h1
    | some dd =>
      rw [hd] at h1
      simp only [bxM, Option.ite_none_right_eq_some, Option.some.injEq, Prod.mk.injEq] at h1
      obtain ⟨h3, rfl, rfl⟩ := h1
      refine ⟨_, [(id, .box dd.cells)], h2, .inr ⟨⟨_, rfl⟩, rfl⟩, fun e t m n hs _ => km_mk (d := .opt id 0) (m := (id, .box dd.cells) :: m) ?_ ⟨rfl, rfl, rfl⟩⟩
      rw [← ro_congr (x := x) hs, hd]; simp [bxM, h3]
  | bso k len z ps =>
    obtain ⟨d, m', h1, h2⟩ := km_out h
    cases hd : rps tl env ps with
    | none => simp [hd, bsoM] at h1
    | some dd =>
      rw [hd] at h1
      simp only [bsoM] at h1
      split at h1
      · rename_i es hes
        simp only [Option.some.injEq, Prod.mk.injEq] at h1
        obtain ⟨rfl, rfl⟩ := h1
        refine ⟨_, [(id, .arr 0 k es)], h2, .inr ⟨⟨_, rfl⟩, rfl⟩, fun e t m n hs _ => km_mk (d := .osl id 0 0 len) (m := (id, .arr 0 k es) :: m) ?_ ⟨rfl, rfl, rfl⟩⟩
        rw [← rps_congr (ps := ps) hs, hd]; simp [bsoM, hes]
      · simp at h1
  | mks k bytes z x =>
    obtain ⟨d, m', h1, h2⟩ := km_out h
    unfold mksM at h1
    split at h1
    · rename_i n hro
      simp only [Option.ite_none_right_eq_some, Option.some.injEq, Prod.mk.injEq] at h1
      obtain ⟨h3, rfl, rfl⟩ := h1
      refine ⟨_, [(id, .arr 0 k (List.replicate n.toNat (z.map .pl)))], h2, .inr ⟨⟨_, rfl⟩, rfl⟩, fun e t m n' hs _ => km_mk (d := .osl id 0 0 n.toNat) (m := (id, .arr 0 k (List.replicate n.toNat (z.map .pl))) :: m) ?_ ⟨rfl, rfl, rfl⟩⟩
      rw [← ro_congr (x := x) hs, hro]; simp only [mksM, h3, and_self, if_true]
    · simp at h1
  | apn k bytes z x y =>
    obtain ⟨d, m', h1, h2⟩ := km_out h
    cases hdx : ro tl env x with
    | none => simp [hdx, apnM] at h1
    | some dx =>
      cases hdy : ro tl env y with
      | none => simp [hdx, hdy, apnM] at h1
      | some dy =>
        rw [hdx, hdy] at h1
        simp only [apnM, Option.ite_none_right_eq_some] at h1
        obtain ⟨h3, h1⟩ := h1
        split at h1
        · rename_i es hes
          simp only [Option.ite_none_right_eq_some, Option.some.injEq, Prod.mk.injEq] at h1
          obtain ⟨h4, rfl, rfl⟩ := h1
          refine ⟨_, [(id, .arr 0 k es)], h2, .inr ⟨⟨_, rfl⟩, rfl⟩, fun e t m n hs hm => km_mk (d := .osl id 0 0 es.length) (m := (id, .arr 0 k es) :: m) ?_ ⟨rfl, rfl, rfl⟩⟩
          rw [← ro_congr (x := x) fun s h => hs s (by simp [Cfg.seesI, h]), ← ro_congr (x := y) fun s h => hs s (by simp [Cfg.seesI, h]), hdx, hdy]
          simp only [apnM, h3, if_true, els_sub (hm _ (by simp [Cfg.lookO]) _ hdy) hes, h4]
        · simp at h1
  | st _ _ _ => simp [I.free] at hf
  | sta _ _ _ _ => simp [I.free] at hf
  | app _ _ _ _ _ => simp [I.free] at hf
  | cl _ _ => simp [I.free] at hf
  | cln _ _ => simp [I.free] at hf
  | iaa len k x y =>
    obtain ⟨d, d2, r, h1, h2, h3, h4⟩ := k2_out h
    refine ⟨r, [], h4, .inl rfl, fun e t m n hs hm => k2_mk (x := d) (y := d2) ?_ ?_ (iaaD_sub (hm _ (by simp [Cfg.lookO]) _ h1) h3 (faD_sub (hm _ (by simp [Cfg.lookO]) _ h1))) ⟨rfl, rfl, rfl⟩⟩
    · rw [← ro_congr (x := x) fun s h => hs s (by simp [Cfg.seesI, h])]; exact h1
    · rw [← ro_congr (x := y) fun s h => hs s (by simp [Cfg.seesI, h])]; exact h2
  | ixs x y =>
    obtain ⟨d, d2, r, h1, h2, h3, h4⟩ := k2_out h
    refine ⟨r, [], h4, .inl rfl, fun e t m n hs hm => k2_mk (x := d) (y := d2) ?_ ?_ h3 ⟨rfl, rfl, rfl⟩⟩
    · rw [← ro_congr (x := x) fun s h => hs s (by simp [Cfg.seesI, h])]; exact h1
    · rw [← ro_congr (x := y) fun s h => hs s (by simp [Cfg.seesI, h])]; exact h2
  | lk kd z two x y =>
    obtain ⟨d, d2, r, h1, h2, h3, h4⟩ := k2_out h
    refine ⟨r, [], h4, .inl rfl, fun e t m n hs hm => k2_mk (x := d) (y := d2) ?_ ?_ (lkD_sub (hm _ (by simp [Cfg.lookO]) _ h1) h3) ⟨rfl, rfl, rfl⟩⟩
    · rw [← ro_congr (x := x) fun s h => hs s (by simp [Cfg.seesI, h])]; exact h1
    · rw [← ro_congr (x := y) fun s h => hs s (by simp [Cfg.seesI, h])]; exact h2
  | lnm x =>
    obtain ⟨d, r, h1, h2, h3⟩ := k1_out h
    exact ⟨r, [], h3, .inl rfl, fun e t m n hs hm => k1_mk (by rw [← ro_congr hs]; exact h1) (lnmD_sub (hm _ (by simp [Cfg.lookO]) _ h1) h2) ⟨rfl, rfl, rfl⟩⟩
  | ldp g k x =>
    obtain ⟨d, r, h1, h2, h3⟩ := k1_out h
    exact ⟨r, [], h3, .inl rfl, fun e t m n hs hm => k1_mk (by rw [← ro_congr hs]; exact h1) h2 ⟨rfl, rfl, rfl⟩⟩
  | fap off x =>
    obtain ⟨d, r, h1, h2, h3⟩ := k1_out h
    exact ⟨r, [], h3, .inl rfl, fun e t m n hs hm => k1_mk (by rw [← ro_congr hs]; exact h1) h2 ⟨rfl, rfl, rfl⟩⟩
  | mkm => exact ⟨_, [(id, .map [])], h, .inr ⟨⟨_, rfl⟩, rfl⟩, fun e t m n hs _ => ⟨rfl, rfl, rfl⟩⟩
  | mup _ _ _ _ => simp [I.free] at hf
  | cvo _ => simp [I.free] at hf

theorem k0_mono {o : Option D} {K K' : KD} (h : k0 o mem nx K) (hk : ∀ d m n, K d m n → K' d m n) : k0 o mem nx K' := by
  obtain ⟨d, h1, h2⟩ := k0_out h; exact k0_mk h1 (hk _ _ _ h2)
theorem k1_mono {o : Option D} {g : D → Option D} {K K' : KD} (h : k1 o g mem nx K) (hk : ∀ d m n, K d m n → K' d m n) : k1 o g mem nx K' := by
  obtain ⟨x, d, h1, h2, h3⟩ := k1_out h; exact k1_mk h1 h2 (hk _ _ _ h3)
theorem k2_mono {o p : Option D} {g : D → D → Option D} {K K' : KD} (h : k2 o p g mem nx K) (hk : ∀ d m n, K d m n → K' d m n) : k2 o p g mem nx K' := by
  obtain ⟨x, y, d, h1, h2, h3, h4⟩ := k2_out h; exact k2_mk h1 h2 h3 (hk _ _ _ h4)
theorem kl_mono {α : Type} {o : Option α} {g : α → Option D} {K K' : KD} (h : kl o g mem nx K) (hk : ∀ d m n, K d m n → K' d m n) : kl o g mem nx K' := by
  obtain ⟨x, d, h1, h2, h3⟩ := kl_out h; exact kl_mk h1 h2 (hk _ _ _ h3)
theorem km_mono {o : Option (D × Mem)} {K K' : KD} (h : km o nx K) (hk : ∀ d m n, K d m n → K' d m n) : km o nx K' := by
  obtain ⟨d, m, h1, h2⟩ := km_out h; exact km_mk h1 (hk _ _ _ h2)
theorem CallT_mono {P : Program} {f : FuncId} {xs : List D} {K K' : KD} (h : CallT P f xs mem nx K) (hk : ∀ d m n, K d m n → K' d m n) : CallT P f xs mem nx K' :=
  ⟨h.1, fun S φ w ys h1 h2 => (h.2 S φ w ys h1 h2).mono fun e w' ⟨v, d, m', n', S', φ', g1, g2, g3⟩ => ⟨v, d, m', n', S', φ', g1, hk _ _ _ g2, g3⟩⟩

theorem stepI_mono {i : I} {K K' : KD} (h : stepI C id i env tl mem nx K) (hk : ∀ d m n, K d m n → K' d m n) : stepI C id i env tl mem nx K' := by
  cases i with
  | pc f xs =>
    obtain ⟨g, caps, ys, r, h1, h2, h3, h4, h5⟩ := pcK_out h
    show pcK C.P _ _ _ _ _
    rw [h1, h2]; exact ⟨r, h3, h4, hk _ _ _ h5⟩
  | cl f xs =>
    obtain ⟨g, caps, ys, h1, h2, h3⟩ := clK_out h
    show clK C.P _ _ _ _ _
    rw [h1, h2]; exact CallT_mono h3 hk
  | cln f xs =>
    obtain ⟨g, caps, ys, h1, h2, h3⟩ := clK_out h
    show clK C.P _ _ _ _ _
    rw [h1, h2]; exact CallT_mono h3 fun d m n h => ⟨h.1, hk _ _ _ h.2⟩
  | z0 => exact hk _ _ _ h
  | al z => exact hk _ _ _ h
  | mv _ => exact k0_mono h hk
  | sls _ _ _ _ _ => exact k0_mono h hk
  | pick _ _ _ => exact k1_mono h hk
  | ld _ _ _ => exact k1_mono h hk
  | chk _ => exact k1_mono h hk
  | un _ _ => exact k1_mono h hk
  | cv _ _ _ => exact k1_mono h hk
  | fa _ _ => exact k1_mono h hk
  | fld _ _ _ _ => exact k1_mono h hk
  | ext _ _ => exact k1_mono h hk
  | len _ _ => exact k1_mono h hk
  | bxi _ => exact k1_mono h hk
  | mki _ _ _ _ => exact k1_mono h hk
  | bin _ _ _ _ => exact k2_mono h hk
  | ia _ _ _ => exact k2_mono h hk
  | bld _ _ => exact kl_mono h hk
  | bsl _ _ _ _ => exact kl_mono h hk
  | bi _ _ => exact kl_mono h hk
  | mkf _ _ => exact kl_mono h hk
  | bx _ => exact km_mono h hk
  | bso _ _ _ _ => exact km_mono h hk
  | mks _ _ _ _ => exact km_mono h hk
  | apn _ _ _ _ _ => exact km_mono h hk
  | st _ _ _ => exact km_mono h hk
  | sta _ _ _ _ => exact km_mono h hk
  | app _ _ _ _ _ => exact km_mono h hk
  | iaa _ _ _ _ => exact k2_mono h hk
  | ixs _ _ => exact k2_mono h hk
  | lk _ _ _ _ _ => exact k2_mono h hk
  | lnm _ => exact k1_mono h hk
  | ldp _ _ _ => exact k1_mono h hk
  | fap _ _ => exact k1_mono h hk
  | mkm => exact hk _ _ _ h
  | mup _ _ _ _ => exact km_mono h hk
  | cvo _ => exact km_mono h hk

/-! #### One operation's outcome laid down -/
structure Oc where
  d : D
  ext : Mem
instance : Inhabited Oc := ⟨⟨.top, []⟩⟩

def putE : Dst → D → Env → Env
  | .g j, v, e => upd e j v
  | _, _, e => e
def putT : Dst → D → Env → Env
  | .t j, v, e => (j, v) :: e
  | _, _, e => e

theorem nextK_put {d : Dst} {v : D} {go : Env → Env → Mem → Nat → Prop} : nextK d env tl go v mem nx = go (putE d v env) (putT d v tl) mem nx := by
  cases d <;> rfl

theorem upd_same {α : Type} (j : Nat) (d : α) : ∀ (e : List (Nat × α)), look e j = some d → upd e j d = e
  | [], _ => rfl
  | (k, x) :: e, h => by
    simp only [look] at h
    simp only [upd]
    by_cases hk : k = j
    · simp only [hk, if_true, Option.some.injEq] at h ⊢; rw [h]
    · simp only [hk, if_false] at h ⊢; rw [upd_same j d e h]

theorem set_same {g : Opd} {b : Bool} (h : ro tl env g = some (.pl (.bool b))) : setE b env g = env ∧ setT b tl g = tl := by
  cases g with
  | t j => exact ⟨rfl, upd_same j _ tl h⟩
  | g j => exact ⟨upd_same j _ env h, rfl⟩
  | _ => exact ⟨rfl, rfl⟩

theorem one_free {base : Nat} {x : Ins} {j : Nat} {go : Env → Env → Mem → Nat → Prop} (hf : x.i.free = true) (h : One C base x j env tl mem nx go) :
    ∃ oc : Oc, go (putE x.dst oc.d env) (putT x.dst oc.d tl) (oc.ext ++ mem) nx ∧ (oc.ext = [] ∨ (∃ b, oc.ext = [(base + j, b)]) ∧ Cfg.makesI x.i = true) ∧
    ∀ env2 tl2 mem2 nx2 (go2 : Env → Env → Mem → Nat → Prop), (∀ s ∈ Cfg.sees x, look env s = look env2 s ∧ look tl s = look tl2 s) → (∀ p ∈ Cfg.lookO x.i, ∀ d, ro tl env p = some d → SubD d mem mem2) →
      go2 (putE x.dst oc.d env2) (putT x.dst oc.d tl2) (oc.ext ++ mem2) nx2 → One C base x j env2 tl2 mem2 nx2 go2 := by
  obtain ⟨d, g, i⟩ := x
  cases g with
  | none =>
    obtain ⟨r, ext, h1, h2, h3⟩ := free_one hf h
    rw [nextK_put] at h1
    refine ⟨⟨r, ext⟩, h1, h2, fun e t m n go2 hs hm hgo => ?_⟩
    refine stepI_mono (h3 e t m n (fun s hs' => hs s (by simpa [Cfg.sees] using hs')) hm) ?_
    rintro d' m' n' ⟨rfl, rfl, rfl⟩
    rw [nextK_put]; exact hgo
  | some p =>
    obtain ⟨g, want⟩ := p
    simp only [One, gd] at h
    split at h
    · rename_i b hro
      by_cases hb : b = want
      · subst hb
        obtain ⟨s1, s2⟩ := set_same hro
        have h0 := h.1 rfl
        rw [s1, s2] at h0
        obtain ⟨r, ext, h1, h2, h3⟩ := free_one hf h0
        rw [nextK_put] at h1
        refine ⟨⟨r, ext⟩, h1, h2, fun e t m n go2 hs hm hgo => ?_⟩
        have hro2 : ro t e g = some (.pl (.bool b)) := by rw [← ro_congr (x := g) fun s h => hs s (by simp [Cfg.sees, h])]; exact hro
        obtain ⟨s3, s4⟩ := set_same hro2
        simp only [One, gd, hro2]
        refine ⟨fun _ => ?_, fun hn => by cases b <;> simp at hn⟩
        rw [s3, s4]
        refine stepI_mono (h3 e t m n (fun s hs' => hs s (by simp [Cfg.sees, hs'])) hm) ?_
        rintro d' m' n' ⟨rfl, rfl, rfl⟩
        rw [nextK_put]; exact hgo
      · have hbn : b = !want := by cases b <;> cases want <;> simp_all
        obtain ⟨s1, s2⟩ := set_same hro
        have h0 := h.2 hbn
        rw [← hbn, s1, s2, nextK_put] at h0
        refine ⟨⟨.pl undef, []⟩, h0, .inl rfl, fun e t m n go2 hs hm hgo => ?_⟩
        have hro2 : ro t e g = some (.pl (.bool b)) := by rw [← ro_congr (x := g) fun s h => hs s (by simp [Cfg.sees, h])]; exact hro
        obtain ⟨s3, s4⟩ := set_same hro2
        simp only [One, gd, hro2]
        refine ⟨fun h => absurd h hb, fun _ => ?_⟩
        rw [← hbn, s3, s4, nextK_put]; exact hgo
    · rename_i vs hro
      rw [nextK_put] at h
      refine ⟨⟨.pl undef, []⟩, h, .inl rfl, fun e t m n go2 hs hm hgo => ?_⟩
      have hro2 : ro t e g = some (.pl (.tuple vs)) := by rw [← ro_congr (x := g) fun s h => hs s (by simp [Cfg.sees, h])]; exact hro
      simp only [One, gd, hro2]
      rw [nextK_put]; exact hgo
    · exact h.elim

end
end Go.Fx

/-
  A region that draws its order: two operations that have nothing to do with one another may change places.
-/

set_option linter.all false
namespace Go.Fx
open Go
section
variable {C : Cfg} {w w' : World} {S S' : Nat → Prop} {φ φ' : Locs} {a : Act} {env tl env2 tl2 : Env} {mem mem2 : Mem} {nx nx2 id base : Nat}

theorem putE_other {d : Dst} {v : D} {e : Env} {t : Nat} (h : d ≠ .g t) : look (putE d v e) t = look e t := by
  cases d with
  | g j => simp only [putE]; exact look_upd_ne _ (fun e => h (by rw [e])) _
  | _ => rfl
theorem putT_other {d : Dst} {v : D} {e : Env} {t : Nat} (h : d ≠ .t t) : look (putT d v e) t = look e t := by
  cases d with
  | t j => simp only [putT, look]; rw [if_neg (fun e => h (by rw [e]))]
  | _ => rfl
theorem look_upd_map {α : Type} (j : Nat) (v : α) : ∀ (e : List (Nat × α)), look (upd e j v) j = (look e j).map fun _ => v
  | [] => rfl
  | (k, x) :: e => by
    by_cases hk : k = j
    · simp [upd, look, hk]
    · simp [upd, look, hk, look_upd_map j v e]

/-- Alike for whoever looks. -/
def Lk {α : Type} (e e2 : List (Nat × α)) : Prop := ∀ t, look e t = look e2 t
theorem Lk.refl {α : Type} (e : List (Nat × α)) : Lk e e := fun _ => rfl
theorem Lk.symm {α : Type} {e e2 : List (Nat × α)} (h : Lk e e2) : Lk e2 e := fun t => (h t).symm
theorem Lk.trans {α : Type} {e e2 e3 : List (Nat × α)} (h : Lk e e2) (k : Lk e2 e3) : Lk e e3 := fun t => (h t).trans (k t)
theorem Lk.upd {α : Type} {e e2 : List (Nat × α)} (h : Lk e e2) (j : Nat) (v : α) : Lk (upd e j v) (upd e2 j v) := fun t => by
  by_cases ht : t = j
  · subst ht; rw [look_upd_map, look_upd_map, h]
  · rw [look_upd_ne _ ht, look_upd_ne _ ht, h]
theorem Lk.cons {α : Type} {e e2 : List (Nat × α)} (h : Lk e e2) (x : Nat × α) : Lk (x :: e) (x :: e2) := fun t => by
  obtain ⟨k, v⟩ := x
  simp only [look]; rw [h]
theorem Lk.app {α : Type} {e e2 : List (Nat × α)} (h : Lk e e2) : ∀ (x : List (Nat × α)), Lk (x ++ e) (x ++ e2)
  | [] => h
  | y :: x => (Lk.app h x).cons y
theorem Lk.putE {e e2 : Env} (h : Lk e e2) (d : Dst) (v : D) : Lk (putE d v e) (putE d v e2) := by
  cases d with
  | g j => exact h.upd j v
  | _ => exact h
theorem Lk.putT {e e2 : Env} (h : Lk e e2) (d : Dst) (v : D) : Lk (putT d v e) (putT d v e2) := by
  cases d with
  | t j => exact h.cons _
  | _ => exact h
theorem Lk.sub {m m2 : Mem} (h : Lk m m2) : Sub m m2 := fun i b hb => by rw [← h]; exact hb

theorem putE_comm {d d2 : Dst} {v v2 : D} {e : Env} (h : ∀ t ∈ Cfg.dstO d, t ∉ Cfg.dstO d2) : Lk (putE d v (putE d2 v2 e)) (putE d2 v2 (putE d v e)) := by
  cases d with
  | g j =>
    cases d2 with
    | g k =>
      have hne : j ≠ k := fun e => h j (by simp [Cfg.dstO]) (by simp [Cfg.dstO, e])
      intro t
      simp only [Go.Fx.putE]
      by_cases h1 : t = j
      · subst h1; rw [look_upd_map, look_upd_ne _ hne, look_upd_ne _ hne, look_upd_map]
      · rw [look_upd_ne _ h1]
        by_cases h2 : t = k
        · subst h2; rw [look_upd_map, look_upd_map, look_upd_ne _ h1]
        · rw [look_upd_ne _ h2, look_upd_ne _ h2, look_upd_ne _ h1]
    | _ => exact Lk.refl _
  | _ => exact Lk.refl _
theorem putT_comm {d d2 : Dst} {v v2 : D} {e : Env} (h : ∀ t ∈ Cfg.dstO d, t ∉ Cfg.dstO d2) : Lk (putT d v (putT d2 v2 e)) (putT d2 v2 (putT d v e)) := by
  cases d with
  | t j =>
    cases d2 with
    | t k =>
      have hne : j ≠ k := fun e => h j (by simp [Cfg.dstO]) (by simp [Cfg.dstO, e])
      intro t
      simp only [Go.Fx.putT, look]
      by_cases h1 : j = t
      · subst h1; rw [if_pos rfl, if_neg (fun e => hne e.symm), if_pos rfl]
      · rw [if_neg h1, if_neg h1]
    | _ => exact Lk.refl _
  | _ => exact Lk.refl _

abbrev Go4 := Env → Env → Mem → Nat → Prop
/-- It hangs on what is looked up alone. -/
def Inv (go : Go4) : Prop := ∀ e t m n e2 t2 m2, Lk e e2 → Lk t t2 → Lk m m2 → go e t m n → go e2 t2 m2 n

/-! #### Operations that write: one outcome but for calls -/
abbrev I.call : I → Bool := Cfg.callI

theorem wrc_lk {n : Nat} {x : D} {new : List D} {m : Mem} (h : wrc mem n x new = some m) (hm : Lk mem mem2) : ∃ m2, wrc mem2 n x new = some m2 ∧ Lk m m2 := by
  cases x with
  | opt id off =>
    simp only [wrc] at h ⊢
    split at h
    · rename_i hc
      rw [if_pos hc, ← hm]
      split at h
      · split at h
        · rename_i h2
          rw [if_pos h2]
          simp only [Option.some.injEq] at h; subst h
          exact ⟨_, rfl, hm.upd _ _⟩
        · simp at h
      · simp at h
    · simp at h
  | oel id ver i off =>
    simp only [wrc] at h ⊢
    split at h
    · rename_i hc
      rw [if_pos hc, ← hm]
      split at h
      · split at h
        · rename_i h2
          rw [if_pos h2]
          split at h
          · split at h
            · rename_i h3
              rw [if_pos h3]
              simp only [Option.some.injEq] at h; subst h
              exact ⟨_, rfl, hm.upd _ _⟩
            · simp at h
          · simp at h
        · simp at h
      · simp at h
    · simp at h
  | _ => simp [wrc] at h

theorem apnM_lk {k b : Nat} {x y : Option D} {d : D} {m : Mem} (h : apnM id mem k b x y = some (d, m)) (hm : Lk mem mem2) : ∃ m2, apnM id mem2 k b x y = some (d, m2) ∧ Lk m m2 := by
  unfold apnM at h ⊢
  split at h
  · split at h
    · rename_i hr
      rw [if_pos hr]
      split at h
      · rename_i he
        rw [els_sub (hm.sub.at _) he]
        simp only at h ⊢
        split at h
        · rename_i hb
          rw [if_pos hb]
          simp only [Option.some.injEq, Prod.mk.injEq] at h
          obtain ⟨rfl, rfl⟩ := h
          exact ⟨_, rfl, hm.cons _⟩
        · simp at h
      · simp at h
    · simp at h
  · simp at h

theorem appM_lk {k b : Nat} {x y : Option D} {d : D} {m : Mem} (h : appM id mem k b x y = some (d, m)) (hm : Lk mem mem2) : ∃ m2, appM id mem2 k b x y = some (d, m2) ∧ Lk m m2 := by
  unfold appM at h ⊢
  split at h
  · rename_i i ver lo n y
    split at h
    · rename_i h1 h2
      rw [← hm, h1, els_sub (hm.sub.at _) h2]
      simp only
      split at h
      · rename_i h3
        rw [if_pos h3]
        simp only [Option.some.injEq, Prod.mk.injEq] at h
        obtain ⟨rfl, rfl⟩ := h
        exact ⟨_, rfl, hm.upd _ _⟩
      · simp at h
    · simp at h
  · exact apnM_lk h hm

theorem stM_lk {n : Nat} {x y : Option D} {d : D} {m : Mem} (h : stM mem n x y = some (d, m)) (hm : Lk mem mem2) : ∃ m2, stM mem2 n x y = some (d, m2) ∧ Lk m m2 := by
  unfold stM at h ⊢
  split at h
  · split at h
    · rename_i hw
      simp only [Option.some.injEq, Prod.mk.injEq] at h
      obtain ⟨rfl, rfl⟩ := h
      obtain ⟨m2, h1, h2⟩ := wrc_lk hw hm
      rw [h1]; exact ⟨m2, rfl, h2⟩
    · simp at h
  · simp at h

theorem cvoM_lk {x : Option D} {d : D} {m : Mem} (h : cvoM mem x = some (d, m)) (hm : Lk mem mem2) : ∃ m2, cvoM mem2 x = some (d, m2) ∧ Lk m m2 := by
  unfold cvoM at h ⊢
  split at h
  · split at h
    · rename_i hl
      rw [← hm, hl]
      simp only at h ⊢
      split at h
      · rename_i hc
        rw [if_pos hc]
        simp only [Option.some.injEq, Prod.mk.injEq] at h
        obtain ⟨rfl, rfl⟩ := h
        exact ⟨_, rfl, hm.upd _ _⟩
      · simp at h
    · simp at h
  · simp at h
theorem mupM_lk {kd : Option IntKind} {x y v : Option D} {d : D} {m : Mem} (h : mupM mem kd x y v = some (d, m)) (hm : Lk mem mem2) : ∃ m2, mupM mem2 kd x y v = some (d, m2) ∧ Lk m m2 := by
  unfold mupM at h ⊢
  split at h
  · split at h
    · rename_i hl
      rw [← hm, hl]
      simp only at h ⊢
      split at h
      · rename_i hc
        rw [if_pos hc]
        simp only [Option.some.injEq, Prod.mk.injEq] at h
        obtain ⟨rfl, rfl⟩ := h
        exact ⟨_, rfl, hm.upd _ _⟩
      · simp at h
    · simp at h
  · simp at h

/-- A write: one block, to which the address leads. -/
theorem wrc_form {n : Nat} {x : D} {new : List D} {m : Mem} (h : wrc mem n x new = some m) : ∃ i b b', x.hd = some i ∧ look mem i = some b ∧ m = upd mem i b' ∧ ∀ mem2, look mem2 i = some b → wrc mem2 n x new = some (upd mem2 i b') := by
  cases x with
  | opt id off =>
    simp only [wrc] at h ⊢
    split at h
    · rename_i hc
      split at h
      · rename_i cs hl
        split at h
        · rename_i h2
          simp only [Option.some.injEq] at h; subst h
          exact ⟨id, _, _, rfl, hl, rfl, fun mem2 hl2 => by rw [if_pos hc, hl2]; simp only; rw [if_pos h2]⟩
        · simp at h
      · simp at h
    · simp at h
  | oel id ver i off =>
    simp only [wrc] at h ⊢
    split at h
    · rename_i hc
      split at h
      · rename_i v k es hl
        split at h
        · rename_i h2
          split at h
          · rename_i e he
            split at h
            · rename_i h3
              simp only [Option.some.injEq] at h; subst h
              exact ⟨id, _, _, rfl, hl, rfl, fun mem2 hl2 => by rw [if_pos hc, hl2]; simp only; rw [if_pos h2, he]; simp only; rw [if_pos h3]⟩
            · simp at h
          · simp at h
        · simp at h
      · simp at h
    · simp at h
  | _ => simp [wrc] at h

theorem stM_form {n : Nat} {a y : Option D} {d : D} {m : Mem} (h : stM mem n a y = some (d, m)) : ∃ x i b b', a = some x ∧ x.hd = some i ∧ look mem i = some b ∧ m = upd mem i b' ∧ ∀ mem2, look mem2 i = some b → stM mem2 n a y = some (d, upd mem2 i b') := by
  unfold stM at h ⊢
  split at h
  · rename_i a0 y0
    split at h
    · rename_i m0 hw
      simp only [Option.some.injEq, Prod.mk.injEq] at h
      obtain ⟨rfl, rfl⟩ := h
      obtain ⟨i, b, b', h1, h2, h3, h4⟩ := wrc_form hw
      exact ⟨_, i, b, b', rfl, h1, h2, h3, fun mem2 h => by rw [h4 mem2 h]⟩
    · simp at h
  · simp at h

theorem upd_comm {α : Type} {i j : Nat} {x y : α} (h : i ≠ j) (m : List (Nat × α)) : Lk (upd (upd m i x) j y) (upd (upd m j y) i x) := fun t => by
  by_cases h1 : t = i
  · subst h1; rw [look_upd_ne _ h, look_upd_map, look_upd_map, look_upd_ne _ h]
  · by_cases h2 : t = j
    · subst h2; rw [look_upd_map, look_upd_ne _ h1, look_upd_ne _ h1, look_upd_map]
    · rw [look_upd_ne _ h2, look_upd_ne _ h1, look_upd_ne _ h1, look_upd_ne _ h2]

/-- A store or an append has one outcome, which hangs on what it reads and on what is looked up. -/
theorem write_one {i : I} {K : KD} (hf : i.free = false) (hc : i.call = false) (h : stepI C id i env tl mem nx K) : ∃ d m, K d m nx ∧
    ∀ env2 tl2 mem2 nx2, (∀ s ∈ Cfg.seesI i, look env s = look env2 s ∧ look tl s = look tl2 s) → Lk mem mem2 → ∃ m2, Lk m m2 ∧ stepI C id i env2 tl2 mem2 nx2 (Sg d m2 nx2) := by
  cases i with
  | st n x y =>
    obtain ⟨d, m, h1, h2⟩ := km_out h
    refine ⟨d, m, h2, fun e t m2 n2 hs hm => ?_⟩
    rw [ro_congr (x := x) fun s h => hs s (by simp [Cfg.seesI, h]), ro_congr (x := y) fun s h => hs s (by simp [Cfg.seesI, h])] at h1
    obtain ⟨m', g1, g2⟩ := stM_lk h1 hm
    exact ⟨m', g2, km_mk g1 ⟨rfl, rfl, rfl⟩⟩
  | sta n x y ps =>
    obtain ⟨d, m, h1, h2⟩ := km_out h
    refine ⟨d, m, h2, fun e t m2 n2 hs hm => ?_⟩
    rw [ro_congr (x := x) fun s h => hs s (by simp [Cfg.seesI, h]), ro_congr (x := y) fun s h => hs s (by simp [Cfg.seesI, h]), ros_congr (xs := ps) fun s h => hs s (by simp only [Cfg.seesI, List.mem_append]; exact .inr h)] at h1
    unfold staM at h1
    split at h1
    · rename_i hap
      obtain ⟨m', g1, g2⟩ := stM_lk h1 hm
      exact ⟨m', g2, km_mk (by unfold staM; rw [if_pos hap]; exact g1) ⟨rfl, rfl, rfl⟩⟩
    · simp at h1
  | app k b z x y =>
    obtain ⟨d, m, h1, h2⟩ := km_out h
    refine ⟨d, m, h2, fun e t m2 n2 hs hm => ?_⟩
    rw [ro_congr (x := x) fun s h => hs s (by simp [Cfg.seesI, h]), ro_congr (x := y) fun s h => hs s (by simp [Cfg.seesI, h])] at h1
    obtain ⟨m', g1, g2⟩ := appM_lk h1 hm
    exact ⟨m', g2, km_mk g1 ⟨rfl, rfl, rfl⟩⟩
  | cvo x =>
    obtain ⟨d, m, h1, h2⟩ := km_out h
    refine ⟨d, m, h2, fun e t m2 n2 hs hm => ?_⟩
    rw [ro_congr (x := x) fun s h => hs s (by simp [Cfg.seesI, h])] at h1
    obtain ⟨m', g1, g2⟩ := cvoM_lk h1 hm
    exact ⟨m', g2, km_mk g1 ⟨rfl, rfl, rfl⟩⟩
  | mup kd x y v =>
    obtain ⟨d, m, h1, h2⟩ := km_out h
    refine ⟨d, m, h2, fun e t m2 n2 hs hm => ?_⟩
    rw [ro_congr (x := x) fun s h => hs s (by simp [Cfg.seesI, h]), ro_congr (x := y) fun s h => hs s (by simp [Cfg.seesI, h]), ro_congr (x := v) fun s h => hs s (by simp [Cfg.seesI, h])] at h1
    obtain ⟨m', g1, g2⟩ := mupM_lk h1 hm
    exact ⟨m', g2, km_mk g1 ⟨rfl, rfl, rfl⟩⟩
  | cl _ _ => simp [I.call, Cfg.callI] at hc
  | cln _ _ => simp [I.call, Cfg.callI] at hc
  | _ => simp [I.free] at hf

theorem MSim_lk (hm : Lk mem mem2) (h : MSim S φ mem nx w) : MSim S φ mem2 nx w := ⟨fun i b hi => h.mem i b (by rw [hm]; exact hi), h.inj, h.lt, h.fresh, h.sub⟩

theorem CallT_lk {P : Program} {f : FuncId} {xs : List D} {K : KD} (hm : Lk mem mem2) (h : CallT P f xs mem nx K) : CallT P f xs mem2 nx K :=
  ⟨h.1, fun S φ w ys h1 h2 => (h.2 S φ w ys (MSim_lk hm.symm h1) h2).mono fun e w' ⟨v, d, m', n', S', φ', g1, g2, g3, g4, g5, g6, g7, g8⟩ =>
    ⟨v, d, m', n', S', φ', g1, g2, g3, g4, g5, g6, ⟨g7.sub, fun b hb ho => g7.keep b hb fun ⟨i, blk, l, k1, k2⟩ => ho ⟨i, blk, l, by rw [← hm]; exact k1, k2⟩, g7.size,
      fun b hb ho => let ⟨i, blk, l, k1, k2⟩ := g7.own b hb ho; ⟨i, blk, l, by rw [← hm]; exact k1, k2⟩,
      fun b hb => (g7.news b hb).imp id fun h => h.imp id fun ⟨i, blk, l, k1, k2⟩ => ⟨i, blk, l, by rw [← hm]; exact k1, k2⟩, g7.os, g7.output, g7.tape⟩, g8⟩⟩

/-- A step hangs on what it reads and on what is looked up; what follows it likewise. -/
theorem stepI_lk {i : I} {K K2 : KD} (hs : ∀ s ∈ Cfg.seesI i, look env s = look env2 s ∧ look tl s = look tl2 s) (hm : Lk mem mem2) (hk : ∀ d m m2 n, Lk m m2 → K d m n → K2 d m2 n)
    (h : stepI C id i env tl mem nx K) : stepI C id i env2 tl2 mem2 nx K2 := by
  cases hf : i.free with
  | true =>
    obtain ⟨d, ext, h1, h2, h3⟩ := free_one hf h
    refine stepI_mono (h3 env2 tl2 mem2 nx hs fun _ _ _ _ => hm.sub.at _) ?_
    rintro d' m' n' ⟨rfl, rfl, rfl⟩
    exact hk _ _ _ _ (hm.app ext) h1
  | false =>
    cases hc : i.call with
    | false =>
      obtain ⟨d, m, h1, h2⟩ := write_one hf hc h
      obtain ⟨m2, h3, h4⟩ := h2 env2 tl2 mem2 nx hs hm
      refine stepI_mono h4 ?_
      rintro d' m' n' ⟨rfl, rfl, rfl⟩
      exact hk _ _ _ _ h3 h1
    | true =>
      cases i with
      | cl f xs =>
        obtain ⟨g, caps, ys, h1, h2, h3⟩ := clK_out h
        show clK C.P _ _ _ _ _
        rw [ro_congr (x := f) fun s h => hs s (by simp [Cfg.seesI, h])] at h1
        rw [ros_congr (xs := xs) fun s h => hs s (by simp only [Cfg.seesI, List.mem_append]; exact .inr h)] at h2
        rw [h1, h2]
        exact CallT_mono (CallT_lk hm h3) fun d m n hd => hk _ _ _ _ (Lk.refl m) hd
      | cln f xs =>
        obtain ⟨g, caps, ys, h1, h2, h3⟩ := clK_out h
        show clK C.P _ _ _ _ _
        rw [ro_congr (x := f) fun s h => hs s (by simp [Cfg.seesI, h])] at h1
        rw [ros_congr (xs := xs) fun s h => hs s (by simp only [Cfg.seesI, List.mem_append]; exact .inr h)] at h2
        rw [h1, h2]
        exact CallT_mono (CallT_lk hm h3) fun d m n hd => ⟨fun i b hb => hd.1 i b (by rw [hm]; exact hb), hk _ _ _ _ (Lk.refl m) hd.2⟩
      | _ => simp [I.call, Cfg.callI] at hc

theorem One_lk {x : Ins} {j : Nat} {go go2 : Go4} (hs : ∀ s ∈ Cfg.sees x, look env s = look env2 s ∧ look tl s = look tl2 s) (hm : Lk mem mem2)
    (hgo : ∀ d m m2 n, Lk m m2 → go (putE x.dst d env) (putT x.dst d tl) m n → go2 (putE x.dst d env2) (putT x.dst d tl2) m2 n) (h : One C base x j env tl mem nx go) : One C base x j env2 tl2 mem2 nx go2 := by
  obtain ⟨d, g, i⟩ := x
  cases g with
  | none =>
    exact stepI_lk (fun s h => hs s (by simp [Cfg.sees, h])) hm (fun v m m2 n h1 h2 => by rw [nextK_put] at h2 ⊢; exact hgo _ _ _ _ h1 h2) h
  | some p =>
    obtain ⟨g, want⟩ := p
    have hro : ro tl env g = ro tl2 env2 g := ro_congr fun s h => hs s (by simp [Cfg.sees, h])
    simp only [One, gd] at h ⊢
    rw [← hro]
    split at h
    · rename_i b hb
      obtain ⟨s1, s2⟩ := set_same hb
      have hb2 := hb
      rw [hro] at hb2
      obtain ⟨s3, s4⟩ := set_same hb2
      refine ⟨fun e => ?_, fun e => ?_⟩
      · have h1 := h.1 e
        subst e
        rw [s1, s2] at h1; rw [s3, s4]
        exact stepI_lk (fun s h => hs s (by simp [Cfg.sees, h])) hm (fun v m m2 n h1 h2 => by rw [nextK_put] at h2 ⊢; exact hgo _ _ _ _ h1 h2) h1
      · have h1 := h.2 e
        rw [← e, s1, s2, nextK_put] at h1
        rw [← e, s3, s4, nextK_put]
        exact hgo _ _ _ _ hm h1
    · rename_i vs hb
      rw [nextK_put] at h ⊢
      exact hgo _ _ _ _ hm h
    · exact h.elim

theorem One_mono {x : Ins} {j : Nat} {go go2 : Go4} (hgo : ∀ e t m n, go e t m n → go2 e t m n) (h : One C base x j env tl mem nx go) : One C base x j env tl mem nx go2 := by
  obtain ⟨d, g, i⟩ := x
  cases g with
  | none => exact stepI_mono h fun v m n h => by rw [nextK_put] at h ⊢; exact hgo _ _ _ _ h
  | some p =>
    obtain ⟨g, want⟩ := p
    simp only [One, gd] at h ⊢
    split at h
    · exact ⟨fun e => stepI_mono (h.1 e) fun v m n h => by rw [nextK_put] at h ⊢; exact hgo _ _ _ _ h, fun e => by have := h.2 e; rw [nextK_put] at this ⊢; exact hgo _ _ _ _ this⟩
    · rw [nextK_put] at h ⊢; exact hgo _ _ _ _ h
    · exact h.elim

theorem Inv_One {x : Ins} {j : Nat} {go : Go4} (hg : Inv go) : Inv (fun e t m n => One C base x j e t m n go) := fun e t m n e2 t2 m2 he ht hm h =>
  One_lk (fun s _ => ⟨he s, ht s⟩) hm (fun d m m2 n h1 h2 => hg _ _ _ _ _ _ _ (he.putE _ _) (ht.putT _ _) h1 h2) h

theorem write_one' {x : Ins} {j : Nat} {go : Go4} (hf : x.i.free = false) (hc : x.i.call = false) (h : One C base x j env tl mem nx go) : ∃ d m, go (putE x.dst d env) (putT x.dst d tl) m nx ∧
    ∀ env2 tl2 nx2 (go2 : Go4), (∀ s ∈ Cfg.sees x, look env s = look env2 s ∧ look tl s = look tl2 s) → (∀ m2, Lk m m2 → go2 (putE x.dst d env2) (putT x.dst d tl2) m2 nx2) → One C base x j env2 tl2 mem nx2 go2 := by
  obtain ⟨d, g, i⟩ := x
  cases g with
  | none =>
    obtain ⟨v, m, h1, h2⟩ := write_one hf hc h
    rw [nextK_put] at h1
    refine ⟨v, m, h1, fun e t n go2 hs hg => ?_⟩
    obtain ⟨m2, h3, h4⟩ := h2 e t mem n (fun s h => hs s (by simp [Cfg.sees, h])) (Lk.refl _)
    refine stepI_mono h4 ?_
    rintro d' m' n' ⟨rfl, rfl, rfl⟩
    rw [nextK_put]; exact hg _ h3
  | some p =>
    obtain ⟨g, want⟩ := p
    simp only [One, gd] at h
    split at h
    · rename_i b hb
      obtain ⟨s1, s2⟩ := set_same hb
      by_cases hbw : b = want
      · have h1 := h.1 hbw
        subst hbw
        rw [s1, s2] at h1
        obtain ⟨v, m, h1, h2⟩ := write_one hf hc h1
        rw [nextK_put] at h1
        refine ⟨v, m, h1, fun e t n go2 hs hg => ?_⟩
        have hro2 : ro t e g = some (.pl (.bool b)) := by rw [← ro_congr (x := g) fun s h => hs s (by simp [Cfg.sees, h])]; exact hb
        obtain ⟨s3, s4⟩ := set_same hro2
        simp only [One, gd, hro2]
        refine ⟨fun _ => ?_, fun hn => by cases b <;> simp at hn⟩
        rw [s3, s4]
        obtain ⟨m2, h3, h4⟩ := h2 e t mem n (fun s h => hs s (by simp [Cfg.sees, h])) (Lk.refl _)
        refine stepI_mono h4 ?_
        rintro d' m' n' ⟨rfl, rfl, rfl⟩
        rw [nextK_put]; exact hg _ h3
      · have hbn : b = !want := by cases b <;> cases want <;> simp_all
        have h1 := h.2 hbn
        rw [← hbn, s1, s2, nextK_put] at h1
        refine ⟨_, _, h1, fun e t n go2 hs hg => ?_⟩
        have hro2 : ro t e g = some (.pl (.bool b)) := by rw [← ro_congr (x := g) fun s h => hs s (by simp [Cfg.sees, h])]; exact hb
        obtain ⟨s3, s4⟩ := set_same hro2
        simp only [One, gd, hro2]
        refine ⟨fun h => absurd h hbw, fun _ => ?_⟩
        rw [← hbn, s3, s4, nextK_put]; exact hg _ (Lk.refl _)
    · rename_i vs hb
      rw [nextK_put] at h
      refine ⟨_, _, h, fun e t n go2 hs hg => ?_⟩
      have hro2 : ro t e g = some (.pl (.tuple vs)) := by rw [← ro_congr (x := g) fun s h => hs s (by simp [Cfg.sees, h])]; exact hb
      simp only [One, gd, hro2]
      rw [nextK_put]; exact hg _ (Lk.refl _)
    · exact h.elim

def I.adr : I → Option Opd
  | .st _ a _ | .sta _ a _ _ => some a
  | _ => none
def I.tol : I → List Opd
  | .sta _ _ _ ps => ps
  | _ => []

/-- A store, as one outcome: what it writes, and where. -/
theorem store_one {i : I} {p : Opd} {K : KD} (hp : i.adr = some p) (h : stepI C id i env tl mem nx K) : ∃ d x k b b', ro tl env p = some x ∧ x.hd = some k ∧ look mem k = some b ∧ K d (upd mem k b') nx ∧
    (∀ q ∈ i.tol, ∃ y, ro tl env q = some y ∧ y.hd ≠ some k) ∧
    ∀ env2 tl2 mem2 nx2, (∀ s ∈ Cfg.seesI i, look env s = look env2 s ∧ look tl s = look tl2 s) → look mem2 k = some b → stepI C id i env2 tl2 mem2 nx2 (Sg d (upd mem2 k b') nx2) := by
  cases i with
  | st n a v =>
    simp only [I.adr, Option.some.injEq] at hp; subst hp
    obtain ⟨d, m, h1, h2⟩ := km_out h
    obtain ⟨x, k, b, b', g1, g2, g3, rfl, g5⟩ := stM_form h1
    refine ⟨d, x, k, b, b', g1, g2, g3, h2, by simp [I.tol], fun e t m2 n2 hs hm => ?_⟩
    rw [ro_congr (x := a) fun s h => hs s (by simp [Cfg.seesI, h]), ro_congr (x := v) fun s h => hs s (by simp [Cfg.seesI, h])] at g5
    exact km_mk (g5 m2 hm) ⟨rfl, rfl, rfl⟩
  | sta n a v ps =>
    simp only [I.adr, Option.some.injEq] at hp; subst hp
    obtain ⟨d, m, h1, h2⟩ := km_out h
    unfold staM at h1
    split at h1
    · rename_i hap
      obtain ⟨x, k, b, b', g1, g2, g3, rfl, g5⟩ := stM_form h1
      refine ⟨d, x, k, b, b', g1, g2, g3, h2, fun q hq => ?_, fun e t m2 n2 hs hm => ?_⟩
      · rw [g1] at hap
        simp only [I.tol] at hq
        unfold apartD at hap
        split at hap
        · rename_i a0 ps0 e1 e2
          simp only [Option.some.injEq] at e1; subst e1
          clear h1 h h2
          induction ps generalizing ps0 with
          | nil => simp at hq
          | cons r ps ih =>
            simp only [ros] at e2
            split at e2
            · rename_i dr dps hr hps
              simp only [Option.some.injEq] at e2; subst e2
              simp only [List.all_cons, Bool.and_eq_true] at hap
              rcases List.mem_cons.1 hq with rfl | hq
              · refine ⟨dr, hr, fun e => ?_⟩
                have := hap.1
                rw [e, g2] at this; simp at this
              · exact ih hq _ hps hap.2
            · simp at e2
        · simp at hap
      · rw [ro_congr (x := a) fun s h => hs s (by simp [Cfg.seesI, h]), ro_congr (x := v) fun s h => hs s (by simp [Cfg.seesI, h])] at g5
        rw [ro_congr (x := a) fun s h => hs s (by simp [Cfg.seesI, h]), ros_congr (xs := ps) fun s h => hs s (by simp only [Cfg.seesI, List.mem_append]; exact .inr h)] at hap
        exact km_mk (by unfold staM; rw [if_pos hap]; exact g5 m2 hm) ⟨rfl, rfl, rfl⟩
    · simp at h1
  | _ => simp [I.adr] at hp

theorem store_One {x : Ins} {p : Opd} {j : Nat} {go : Go4} (hp : x.i.adr = some p) (h : One C base x j env tl mem nx go) : ∃ d,
    (go (putE x.dst d env) (putT x.dst d tl) mem nx ∧ ∀ env2 tl2 mem2 nx2 (go2 : Go4), (∀ s ∈ Cfg.sees x, look env s = look env2 s ∧ look tl s = look tl2 s) → go2 (putE x.dst d env2) (putT x.dst d tl2) mem2 nx2 → One C base x j env2 tl2 mem2 nx2 go2) ∨
    ∃ a k b b', go (putE x.dst d env) (putT x.dst d tl) (upd mem k b') nx ∧ ro tl env p = some a ∧ a.hd = some k ∧ look mem k = some b ∧ (∀ q ∈ x.i.tol, ∃ y, ro tl env q = some y ∧ y.hd ≠ some k) ∧
      ∀ env2 tl2 mem2 nx2 (go2 : Go4), (∀ s ∈ Cfg.sees x, look env s = look env2 s ∧ look tl s = look tl2 s) → look mem2 k = some b → go2 (putE x.dst d env2) (putT x.dst d tl2) (upd mem2 k b') nx2 → One C base x j env2 tl2 mem2 nx2 go2 := by
  obtain ⟨d, g, i⟩ := x
  cases g with
  | none =>
    obtain ⟨v, a, k, b, b', h1, h2, h3, h4, h5, h6⟩ := store_one hp h
    rw [nextK_put] at h4
    refine ⟨v, .inr ⟨a, k, b, b', h4, h1, h2, h3, h5, fun e t m n go2 hs hm hg => ?_⟩⟩
    refine stepI_mono (h6 e t m n (fun s h => hs s (by simp [Cfg.sees, h])) hm) ?_
    rintro d' m' n' ⟨rfl, rfl, rfl⟩
    rw [nextK_put]; exact hg
  | some q =>
    obtain ⟨g, want⟩ := q
    simp only [One, gd] at h
    split at h
    · rename_i b0 hb
      obtain ⟨s1, s2⟩ := set_same hb
      by_cases hbw : b0 = want
      · have h1 := h.1 hbw
        subst hbw
        rw [s1, s2] at h1
        obtain ⟨v, a, k, b, b', g1, g2, g3, g4, g5, g6⟩ := store_one hp h1
        rw [nextK_put] at g4
        refine ⟨v, .inr ⟨a, k, b, b', g4, g1, g2, g3, g5, fun e t m n go2 hs hm hg => ?_⟩⟩
        have hro2 : ro t e g = some (.pl (.bool b0)) := by rw [← ro_congr (x := g) fun s h => hs s (by simp [Cfg.sees, h])]; exact hb
        obtain ⟨s3, s4⟩ := set_same hro2
        simp only [One, gd, hro2]
        refine ⟨fun _ => ?_, fun hn => by cases b0 <;> simp at hn⟩
        rw [s3, s4]
        refine stepI_mono (g6 e t m n (fun s h => hs s (by simp [Cfg.sees, h])) hm) ?_
        rintro d' m' n' ⟨rfl, rfl, rfl⟩
        rw [nextK_put]; exact hg
      · have hbn : b0 = !want := by cases b0 <;> cases want <;> simp_all
        have h1 := h.2 hbn
        rw [← hbn, s1, s2, nextK_put] at h1
        refine ⟨_, .inl ⟨h1, fun e t m n go2 hs hg => ?_⟩⟩
        have hro2 : ro t e g = some (.pl (.bool b0)) := by rw [← ro_congr (x := g) fun s h => hs s (by simp [Cfg.sees, h])]; exact hb
        obtain ⟨s3, s4⟩ := set_same hro2
        simp only [One, gd, hro2]
        refine ⟨fun h => absurd h hbw, fun _ => ?_⟩
        rw [← hbn, s3, s4, nextK_put]; exact hg
    · rename_i vs hb
      rw [nextK_put] at h
      refine ⟨_, .inl ⟨h, fun e t m n go2 hs hg => ?_⟩⟩
      have hro2 : ro t e g = some (.pl (.tuple vs)) := by rw [← ro_congr (x := g) fun s h => hs s (by simp [Cfg.sees, h])]; exact hb
      simp only [One, gd, hro2]
      rw [nextK_put]; exact hg
    · exact h.elim

theorem sameO_eq {p q : Opd} (h : Cfg.sameO p q = true) : p = q := by
  cases p <;> cases q <;> simp_all [Cfg.sameO]

theorem ro_put {x y : Ins} {d : D} {p : Opd} (h : ∀ t ∈ Cfg.dstO x.dst, t ∉ Cfg.sees y) (hp : ∀ s ∈ Cfg.seesO p, s ∈ Cfg.sees y) : ro (putT x.dst d tl) (putE x.dst d env) p = ro tl env p :=
  ro_congr fun s hs => ⟨putE_other fun e => h s (by simp [e, Cfg.dstO]) (hp s hs), putT_other fun e => h s (by simp [e, Cfg.dstO]) (hp s hs)⟩

theorem lookO_sees {i : I} {p : Opd} (h : p ∈ Cfg.lookO i) : ∀ s ∈ Cfg.seesO p, s ∈ Cfg.seesI i := by
  intro s hs
  cases i <;> simp_all [Cfg.lookO, Cfg.seesI]
theorem tol_sees {i : I} {p : Opd} (h : p ∈ i.tol) : ∀ s ∈ Cfg.seesO p, s ∈ Cfg.seesI i := by
  intro s hs
  cases i <;> simp only [I.tol] at h <;> try simp at h
  simp only [Cfg.seesI, List.mem_append, List.mem_flatMap]
  exact .inr ⟨p, h, hs⟩
theorem adr_sees {i : I} {p : Opd} (h : i.adr = some p) : ∀ s ∈ Cfg.seesO p, s ∈ Cfg.seesI i := by
  intro s hs
  cases i <;> simp only [I.adr, Option.some.injEq] at h <;> try simp at h
  all_goals subst h; simp [Cfg.seesI, hs]

theorem sta_out {rm : List (Nat × Opd)} {x y : I} (h : Cfg.staI rm x y = true) : (∃ q, y.adr = some q) ∧ ((x.free = true ∧ Cfg.makesI x = false ∧ ∀ p ∈ Cfg.lookO x, Cfg.rootOf rm p ∈ y.tol) ∨ ∃ p, x.adr = some p ∧ Cfg.rootOf rm p ∈ y.tol) := by
  have key : ∀ {p : Opd} {ps : List Opd}, ps.any (Cfg.sameO p) = true → p ∈ ps := fun h => by
    obtain ⟨q, h1, h2⟩ := List.any_eq_true.1 h
    rw [sameO_eq h2]; exact h1
  cases y with
  | sta n a v ps =>
    refine ⟨⟨a, rfl⟩, ?_⟩
    cases x with
    | st _ b _ => exact .inr ⟨b, rfl, key h⟩
    | sta _ b _ _ => exact .inr ⟨b, rfl, key h⟩
    | _ =>
      left
      simp only [Cfg.staI, Bool.and_eq_true, Bool.not_eq_true', List.all_eq_true] at h
      exact ⟨h.1, h.2.1, fun p hp => key (h.2.2 p hp)⟩
  | _ => cases x <;> simp [Cfg.staI] at h

theorem cln_out {x y : I} (h : Cfg.clnI x y = true) : (∃ f xs, y = .cln f xs) ∧ x.free = true ∧ Cfg.makesI x = false := by
  cases y with
  | cln f xs =>
    simp only [Cfg.clnI, Bool.and_eq_true, Bool.not_eq_true'] at h
    exact ⟨⟨f, xs, rfl⟩, h.1, h.2⟩
  | _ => simp [Cfg.clnI] at h
theorem cln_keep {f : Opd} {xs : List Opd} {K : KD} (h : stepI C id (.cln f xs) env tl mem nx K) : stepI C id (.cln f xs) env tl mem nx (fun d m n => memKeeps mem m ∧ K d m n) := by
  obtain ⟨g, caps, ys, h1, h2, h3⟩ := clK_out h
  show clK C.P _ _ _ _ _
  rw [h1, h2]; exact CallT_mono h3 fun d m n h => ⟨h.1, h⟩
theorem One_cln {x : Ins} {f : Opd} {xs : List Opd} {j : Nat} {go : Go4} (hx : x.i = .cln f xs) (h : One C base x j env tl mem nx go) : One C base x j env tl mem nx (fun e t m n => memKeeps mem m ∧ go e t m n) := by
  obtain ⟨d, g, i⟩ := x
  simp only at hx
  subst hx
  have key : ∀ {env tl : Env} , One C base ⟨d, none, .cln f xs⟩ j env tl mem nx go → One C base ⟨d, none, .cln f xs⟩ j env tl mem nx (fun e t m n => memKeeps mem m ∧ go e t m n) := fun h => by
    refine stepI_mono (id := base + j) (cln_keep (id := base + j) h) fun v m n h => ?_
    obtain ⟨h1, h2⟩ := h
    rw [nextK_put] at h2 ⊢
    exact ⟨h1, h2⟩
  cases g with
  | none => exact key h
  | some q =>
    obtain ⟨g, want⟩ := q
    simp only [One, gd] at h ⊢
    split at h
    · refine ⟨fun e => key (h.1 e), fun e => ?_⟩
      have := h.2 e
      rw [nextK_put] at this ⊢
      exact ⟨fun _ _ h => h, this⟩
    · rw [nextK_put] at h ⊢
      exact ⟨fun _ _ h => h, h⟩
    · exact h.elim

/-- A part of a block leads where its root leads. -/
def Rooted (rm : List (Nat × Opd)) (env tl : Env) : Prop := ∀ e ∈ rm, ∀ d, look tl e.1 = some d → d.hd = none ∨ ∃ dr, ro tl env e.2 = some dr ∧ d.hd = dr.hd

theorem Rooted_nil {rm : List (Nat × Opd)} : Rooted rm env [] := fun e _ d h => by simp [look] at h

theorem rooted_at {rm : List (Nat × Opd)} (h : Rooted rm env tl) {p : Opd} {d : D} (hd : ro tl env p = some d) : d.hd = none ∨ ∃ dr, ro tl env (Cfg.rootOf rm p) = some dr ∧ d.hd = dr.hd := by
  cases p with
  | t k =>
    simp only [Cfg.rootOf]
    split
    · rename_i e he
      have h1 := List.mem_of_find?_eq_some he
      have h2 := List.find?_some he
      simp only [beq_iff_eq] at h2
      exact h e h1 d (by rw [h2]; exact hd)
    · exact .inr ⟨d, hd, rfl⟩
  | _ => exact .inr ⟨d, hd, rfl⟩

theorem part_hd {i : I} {p : Opd} {K : KD} (hp : Cfg.partO i = some p) (h : stepI C id i env tl mem nx K) {K2 : KD} (hk : ∀ d m n, (∃ dp, ro tl env p = some dp ∧ d.hd = dp.hd) → K d m n → K2 d m n) : stepI C id i env tl mem nx K2 := by
  cases i <;> simp only [Cfg.partO, Option.some.injEq] at hp <;> try simp at hp
  case mv x =>
    subst hp
    obtain ⟨d, h1, h2⟩ := k0_out h
    exact k0_mk h1 (hk _ _ _ ⟨d, h1, rfl⟩ h2)
  case chk x =>
    subst hp
    obtain ⟨d, r, h1, h2, h3⟩ := k1_out h
    refine k1_mk h1 h2 (hk _ _ _ ⟨d, h1, ?_⟩ h3)
    cases d <;> simp only [chkD, Option.some.injEq] at h2 <;> try simp at h2
    all_goals subst h2; rfl
  case fa off x =>
    subst hp
    obtain ⟨d, r, h1, h2, h3⟩ := k1_out h
    refine k1_mk h1 h2 (hk _ _ _ ⟨d, h1, ?_⟩ h3)
    cases d <;> simp only [faD, Option.some.injEq, Option.ite_none_right_eq_some] at h2 <;> try simp at h2
    · obtain ⟨_, rfl⟩ := h2; rfl
    · subst h2; rfl
    · obtain ⟨_, rfl⟩ := h2; rfl
  case ia k x y =>
    subst hp
    obtain ⟨d, d2, r, h1, h2, h3, h4⟩ := k2_out h
    refine k2_mk h1 h2 h3 (hk _ _ _ ⟨d, h1, ?_⟩ h4)
    unfold iaD at h3
    split at h3
    · split at h3
      · split at h3
        · split at h3
          · simp only [Option.some.injEq] at h3; subst h3; rfl
          · simp at h3
        · simp at h3
      · simp at h3
    · split at h3
      · split at h3
        · simp only [Option.some.injEq] at h3; subst h3; rfl
        · simp at h3
      · simp at h3
    · simp at h3
  case iaa len k x y =>
    subst hp
    obtain ⟨d, d2, r, h1, h2, h3, h4⟩ := k2_out h
    refine k2_mk h1 h2 h3 (hk _ _ _ ⟨d, h1, ?_⟩ h4)
    unfold iaaD at h3
    split at h3
    · simp only [Option.ite_none_right_eq_some] at h3
      obtain ⟨_, h3⟩ := h3
      cases d <;> simp only [faD, Option.some.injEq, Option.ite_none_right_eq_some] at h3 <;> try simp at h3
      · obtain ⟨_, rfl⟩ := h3; rfl
      · subst h3; rfl
      · obtain ⟨_, rfl⟩ := h3; rfl
    · simp at h3

theorem ro_same {x : Ins} {d : D} {r : Opd} (h : Cfg.writes x.dst r = false) : ro (putT x.dst d tl) (putE x.dst d env) r = ro tl env r := by
  obtain ⟨dst, g, i⟩ := x
  cases r with
  | t j => exact putT_other fun e => by simp only at e h; rw [e] at h; simp [Cfg.writes] at h
  | g j => exact putE_other fun e => by simp only at e h; rw [e] at h; simp [Cfg.writes] at h
  | _ => rfl

theorem Rooted_put {rm : List (Nat × Opd)} {x : Ins} {d : D} (hf : Cfg.rootFits rm x = true) (hr : Rooted rm env tl) (hd : d.hd = none ∨ Cfg.partO x.i = none ∨ ∃ p dp, Cfg.partO x.i = some p ∧ ro tl env p = some dp ∧ d.hd = dp.hd) :
    Rooted rm (putE x.dst d env) (putT x.dst d tl) := by
  simp only [Cfg.rootFits, Bool.and_eq_true, List.all_eq_true, Bool.not_eq_true'] at hf
  obtain ⟨hf1, hf2⟩ := hf
  intro e he d' hl
  have hw := hf1 e he
  rw [ro_same hw]
  by_cases hx : x.dst = .t e.1
  · rw [hx] at hf2 hl
    simp only [putT, look, if_true, Option.some.injEq] at hl
    subst hl
    simp only [List.all_eq_true, Bool.or_eq_true, bne_iff_ne] at hf2
    have h2 := (hf2 e he).resolve_left (by simp)
    rcases hd with hd | hd | ⟨p, dp, h3, h4, h5⟩
    · exact .inl hd
    · rw [hd] at h2; simp at h2
    · rw [h3] at h2
      simp only at h2
      have h6 := sameO_eq h2
      rcases rooted_at hr h4 with h7 | ⟨dr, h7, h8⟩
      · exact .inl (by rw [h5, h7])
      · exact .inr ⟨dr, by rw [← h6]; exact h7, by rw [h5, h8]⟩
  · rw [putT_other hx] at hl
    exact hr e he d' hl

theorem One_rooted {rm : List (Nat × Opd)} {x : Ins} {j : Nat} {go : Go4} (hf : Cfg.rootFits rm x = true) (hr : Rooted rm env tl) (h : One C base x j env tl mem nx go) :
    One C base x j env tl mem nx (fun e t m n => Rooted rm e t ∧ go e t m n) := by
  cases hp : Cfg.partO x.i with
  | none =>
    obtain ⟨d, g, i⟩ := x
    cases g with
    | none => exact stepI_mono h fun v m n h => by rw [nextK_put] at h ⊢; exact ⟨Rooted_put hf hr (.inr (.inl hp)), h⟩
    | some q =>
      obtain ⟨g, want⟩ := q
      simp only [One, gd] at h ⊢
      split at h
      · rename_i b hb
        obtain ⟨s1, s2⟩ := set_same hb
        refine ⟨fun e => ?_, fun e => ?_⟩
        · have := h.1 e
          subst e
          rw [s1, s2] at this ⊢
          exact stepI_mono this fun v m n (h : nextK _ _ _ _ v m n) => by rw [nextK_put] at h ⊢; exact ⟨Rooted_put hf hr (.inr (.inl hp)), h⟩
        · have := h.2 e
          rw [← e, s1, s2, nextK_put] at this
          rw [← e, s1, s2, nextK_put]
          exact ⟨Rooted_put hf hr (.inl rfl), this⟩
      · rw [nextK_put] at h ⊢; exact ⟨Rooted_put hf hr (.inl rfl), h⟩
      · exact h.elim
  | some p =>
    obtain ⟨d, g, i⟩ := x
    cases g with
    | none => exact part_hd hp h fun v m n ⟨dp, h1, h2⟩ (h : nextK _ _ _ _ v m n) => by rw [nextK_put] at h ⊢; exact ⟨Rooted_put hf hr (.inr (.inr ⟨p, dp, hp, h1, h2⟩)), h⟩
    | some q =>
      obtain ⟨g, want⟩ := q
      simp only [One, gd] at h ⊢
      split at h
      · rename_i b hb
        obtain ⟨s1, s2⟩ := set_same hb
        refine ⟨fun e => ?_, fun e => ?_⟩
        · have := h.1 e
          subst e
          rw [s1, s2] at this ⊢
          exact part_hd hp this fun v m n ⟨dp, h1, h2⟩ (h : nextK _ _ _ _ v m n) => by rw [nextK_put] at h ⊢; exact ⟨Rooted_put hf hr (.inr (.inr ⟨p, dp, hp, h1, h2⟩)), h⟩
        · have := h.2 e
          rw [← e, s1, s2, nextK_put] at this
          rw [← e, s1, s2, nextK_put]
          exact ⟨Rooted_put hf hr (.inl rfl), this⟩
      · rw [nextK_put] at h ⊢; exact ⟨Rooted_put hf hr (.inl rfl), h⟩
      · exact h.elim
end
end Go.Fx

/-
  A region that draws its order (third part).
-/

set_option linter.all false
namespace Go.Fx
open Go
section
variable {C : Cfg} {w w' : World} {S S' : Nat → Prop} {φ φ' : Locs} {a : Act} {env tl : Env} {mem : Mem} {nx id base : Nat} {is : List Ins} {oc oc' : Nat → Oc}

/-! #### What stands behind what -/
theorem foldl_push {α β : Type} (h : Array β → α → β) : ∀ (l : List α) (acc : Array β), (l.foldl (fun acc o => acc.push (h acc o)) acc).size = acc.size + l.length ∧
    (∀ j, j < acc.size → (l.foldl (fun acc o => acc.push (h acc o)) acc)[j]? = acc[j]?) ∧
    ∀ i x, l[i]? = some x → (l.foldl (fun acc o => acc.push (h acc o)) acc)[acc.size + i]? = some (h ((l.take i).foldl (fun acc o => acc.push (h acc o)) acc) x)
  | [], acc => ⟨by simp, fun _ _ => rfl, fun i x h => by simp at h⟩
  | y :: l, acc => by
    obtain ⟨h1, h2, h3⟩ := foldl_push h l (acc.push (h acc y))
    simp only [List.foldl_cons]
    refine ⟨by rw [h1]; simp; omega, fun j hj => ?_, fun i x hx => ?_⟩
    · rw [h2 j (by simp; omega), Array.getElem?_push, if_neg (by omega)]
    · cases i with
      | zero =>
        simp only [List.getElem?_cons_zero, Option.some.injEq] at hx; subst hx
        simp only [Nat.add_zero, List.take_zero, List.foldl_nil]
        rw [h2 acc.size (by simp)]
        simp
      | succ i =>
        simp only [List.getElem?_cons_succ] at hx
        have := h3 i x hx
        simp only [Array.size_push] at this
        rw [show acc.size + (i + 1) = acc.size + 1 + i by omega]
        simpa using this

def beforeH (acc : Array Nat) (o : Oper) : Nat := o.after.foldl (fun s e => if Region.binds .any e then s ||| 2 ^ e.on ||| acc.getD e.on 0 else s) 0

theorem before_eq (ops : Array Oper) : Region.before ops = ops.toList.foldl (fun acc o => acc.push (beforeH acc o)) #[] := by
  unfold Region.before
  rw [← Array.foldl_toList]; rfl

theorem testBit_fold (acc : Array Nat) (j : Nat) : ∀ (l : List Edge) (s : Nat), (l.foldl (fun s e => if Region.binds .any e then s ||| 2 ^ e.on ||| acc.getD e.on 0 else s) s).testBit j = true →
    s.testBit j = true ∨ ∃ e ∈ l, Region.binds .any e = true ∧ (e.on = j ∨ (acc.getD e.on 0).testBit j = true)
  | [], s, h => .inl h
  | e :: l, s, h => by
    simp only [List.foldl_cons] at h
    rcases testBit_fold acc j l _ h with h1 | ⟨e', h1, h2⟩
    · split at h1
      · rename_i hb
        simp only [Nat.testBit_or, Bool.or_eq_true] at h1
        rcases h1 with (h1 | h1) | h1
        · exact .inl h1
        · rw [Nat.testBit_two_pow] at h1
          exact .inr ⟨e, by simp, hb, .inl (by simpa using h1)⟩
        · exact .inr ⟨e, by simp, hb, .inr h1⟩
      · exact .inl h1
    · exact .inr ⟨e', by simp [h1], h2⟩

theorem beforeH_spec {acc : Array Nat} {o : Oper} {j : Nat} (h : (beforeH acc o).testBit j = true) : ∃ e ∈ o.after.toList, Region.binds .any e = true ∧ (e.on = j ∨ (acc.getD e.on 0).testBit j = true) := by
  unfold beforeH at h
  rw [← Array.foldl_toList] at h
  rcases testBit_fold _ j _ _ h with h1 | h1
  · simp at h1
  · exact h1

/-- What stands before an operation: what its edges name, and what stands before that. -/
theorem before_spec {ops : Array Oper} {i j : Nat} {o : Oper} (ho : ops[i]? = some o) (h : ((Region.before ops).getD i 0).testBit j = true) :
    ∃ e ∈ o.after.toList, Region.binds .any e = true ∧ (e.on = j ∨ (e.on < i ∧ ((Region.before ops).getD e.on 0).testBit j = true)) := by
  have ho' : ops.toList[i]? = some o := by simpa using ho
  obtain ⟨f1, f2, f3⟩ := foldl_push beforeH ops.toList #[]
  have hi := f3 i o ho'
  simp only [Array.size_empty, Nat.zero_add] at hi
  rw [before_eq, Array.getD_eq_getD_getElem?, hi] at h
  simp only [Option.getD_some] at h
  obtain ⟨e, h1, h2, h3⟩ := beforeH_spec h
  refine ⟨e, h1, h2, ?_⟩
  rcases h3 with h3 | h3
  · exact .inl h3
  · right
    have hlen : i ≤ ops.toList.length := Nat.le_of_lt (List.getElem?_eq_some_iff.1 ho').1
    obtain ⟨k1, k2, k3⟩ := foldl_push beforeH (ops.toList.take i) #[]
    have hsz : ((ops.toList.take i).foldl (fun acc o => acc.push (beforeH acc o)) #[]).size = i := by
      rw [k1, List.length_take]; simp only [Array.size_empty]; omega
    by_cases hlt : e.on < i
    · refine ⟨hlt, ?_⟩
      have hsplit : ops.toList.foldl (fun acc o => acc.push (beforeH acc o)) #[] = (ops.toList.drop i).foldl (fun acc o => acc.push (beforeH acc o)) ((ops.toList.take i).foldl (fun acc o => acc.push (beforeH acc o)) #[]) := by
        rw [← List.foldl_append, List.take_append_drop]
      obtain ⟨_, m2, _⟩ := foldl_push beforeH (ops.toList.drop i) ((ops.toList.take i).foldl (fun acc o => acc.push (beforeH acc o)) #[])
      rw [before_eq, Array.getD_eq_getD_getElem?, hsplit, m2 e.on (by rw [hsz]; exact hlt), ← Array.getD_eq_getD_getElem?]
      exact h3
    · exfalso
      rw [Array.getD_eq_getD_getElem?, Array.getElem?_eq_none (by rw [hsz]; omega)] at h3
      simp at h3

/-- All that stands before what is listed is listed. -/
def Closed (ops : Array Oper) (listed : Array Bool) : Prop := ∀ i o, ops[i]? = some o → listed.getD i false = true → ∀ j, ((Region.before ops).getD i 0).testBit j = true → listed.getD j false = true

theorem ready_before {ops : Array Oper} {listed : Array Bool} {i j : Nat} {o : Oper} (ho : ops[i]? = some o) (hc : Closed ops listed) (hr : o.after.all (fun e => !Region.binds .any e || listed.getD e.on false) = true) (h : ((Region.before ops).getD i 0).testBit j = true) : listed.getD j false = true := by
  obtain ⟨e, he, hb, hj⟩ := before_spec ho h
  have h1 := Array.all_eq_true_iff_forall_mem.1 hr e (by simpa using he)
  simp only [hb, Bool.not_true, Bool.false_or] at h1
  rcases hj with rfl | ⟨hlt, hj⟩
  · exact h1
  · have : e.on < ops.size := by have := (Array.getElem?_eq_some_iff.1 ho).1; omega
    exact hc e.on _ (Array.getElem?_eq_getElem this) h1 j hj

def unl (n : Nat) (listed : Array Bool) : Nat := ((List.range n).filter fun i => !listed.getD i true).length

theorem getD_set {listed : Array Bool} {i j : Nat} (hi : i < listed.size) (d : Bool) : (listed.setIfInBounds i true).getD j d = if i = j then true else listed.getD j d := by
  simp only [Array.getD_eq_getD_getElem?, Array.getElem?_setIfInBounds]
  by_cases h : i = j
  · subst h; simp [hi]
  · simp [h]

theorem filter_lt {p q : Nat → Bool} : ∀ (l : List Nat) (i : Nat), i ∈ l → p i = true → q i = false → (∀ j, q j = true → p j = true) → (l.filter q).length < (l.filter p).length
  | [], i, h, _, _, _ => by simp at h
  | x :: l, i, h, hp, hq, hqp => by
    have hle : ∀ l : List Nat, (l.filter q).length ≤ (l.filter p).length := by
      intro l
      induction l with
      | nil => simp
      | cons y l ih =>
        simp only [List.filter_cons]
        by_cases h1 : q y = true
        · simp [h1, hqp y h1]; exact ih
        · by_cases h2 : p y = true <;> simp [h1, h2] <;> omega
    simp only [List.filter_cons]
    rcases List.mem_cons.1 h with rfl | h
    · simp only [hp, hq, if_true, Bool.false_eq_true, if_false, List.length_cons]
      have := hle l; omega
    · have ih := filter_lt l i h hp hq hqp
      by_cases h1 : q x = true
      · simp [h1, hqp x h1]; exact ih
      · by_cases h2 : p x = true <;> simp [h1, h2] <;> omega

theorem ready_mem {ops : Array Oper} {listed : Array Bool} {i : Nat} (h : i ∈ Region.ready .any ops listed) : ∃ o, ops[i]? = some o ∧ i < ops.size ∧ listed.getD i true = false ∧ o.after.all (fun e => !Region.binds .any e || listed.getD e.on false) = true := by
  simp only [Region.ready, List.mem_filter, List.mem_range, Bool.and_eq_true, Bool.not_eq_true'] at h
  obtain ⟨h1, h2, h3⟩ := h
  refine ⟨ops[i], Array.getElem?_eq_getElem h1, h1, h2, ?_⟩
  simpa [Array.getElem?_eq_getElem h1] using h3

theorem ready_none {ops : Array Oper} {listed : Array Bool} (hsz : listed.size = ops.size) (hedge : ∀ i o, ops[i]? = some o → ∀ e ∈ o.after.toList, Region.binds .any e = true → e.on < i) (h : Region.ready .any ops listed = []) : ∀ i, i < ops.size → listed.getD i false = true := by
  intro i
  induction i using Nat.strongRecOn with
  | _ i ih =>
    intro hi
    cases hl : listed.getD i false with
    | true => rfl
    | false =>
      exfalso
      have hl' : listed.getD i true = false := by
        rw [Array.getD_eq_getD_getElem?, Array.getElem?_eq_getElem (by omega)] at hl ⊢
        exact hl
      have : i ∈ Region.ready .any ops listed := by
        simp only [Region.ready, List.mem_filter, List.mem_range, Bool.and_eq_true, Bool.not_eq_true']
        refine ⟨hi, hl', ?_⟩
        rw [Array.getElem?_eq_getElem hi]
        simp only [Option.map_some, Option.getD_some]
        refine Array.all_eq_true_iff_forall_mem.2 fun e he => ?_
        cases hb : Region.binds .any e with
        | false => rfl
        | true =>
          simp only [Bool.not_true, Bool.false_or]
          have hlt := hedge i _ (Array.getElem?_eq_getElem hi) e (by simpa using he) hb
          exact ih e.on hlt (by omega)
      rw [h] at this
      simp at this

/-! #### Whatever is drawn -/
def runL (C : Cfg) (base : Nat) : List (Nat × Ins) → Go4 → Go4
  | [], K => K
  | (j, x) :: r, K => fun e t m n => One C base x j e t m n (runL C base r K)

theorem runL_app {K : Go4} : ∀ (l r : List (Nat × Ins)), runL C base (l ++ r) K = runL C base l (runL C base r K)
  | [], r => rfl
  | (j, x) :: l, r => by simp only [List.cons_append, runL, runL_app l r]

theorem Inv_runL {K : Go4} (h : Inv K) : ∀ (l : List (Nat × Ins)), Inv (runL C base l K)
  | [] => h
  | (j, x) :: l => Inv_One (Inv_runL h l)

theorem run_runL {K : Go4} : ∀ (l : List Ins) (j : Nat) (env tl : Env) (mem : Mem) (nx : Nat), run C base K l j env tl mem nx → runL C base ((l.zipIdx j).map fun p => (p.2, p.1)) K env tl mem nx
  | [], j, _, _, _, _, h => h
  | x :: l, j, env, tl, mem, nx, h => by
    rw [run_one] at h
    simp only [List.zipIdx_cons, List.map_cons, runL]
    exact One_mono (fun e t m n h => run_runL l (j + 1) e t m n h) h


theorem run_mono {K K2 : Go4} (hk : ∀ e t m n, K e t m n → K2 e t m n) : ∀ (l : List Ins) (j : Nat) (env tl : Env) (mem : Mem) (nx : Nat), run C base K l j env tl mem nx → run C base K2 l j env tl mem nx
  | [], _, _, _, _, _, h => hk _ _ _ _ h
  | x :: l, j, env, tl, mem, nx, h => by
    rw [run_one] at h ⊢
    exact One_mono (fun e t m n h => run_mono hk l (j + 1) e t m n h) h

theorem quiet_out {i : I} (h : Cfg.quietI i = true) : i.free = true ∧ (∀ p : Opd, Cfg.lookO i = []) ∧ Cfg.makesI i = false := by
  simp only [Cfg.quietI, Bool.and_eq_true, Bool.not_eq_true'] at h
  refine ⟨h.1, fun _ => ?_, h.2.2⟩
  cases i <;> first | rfl | simp [Cfg.looksI] at h

theorem slots_out {x y : Ins} (h : Cfg.slotsApart x y = true) : (∀ d ∈ Cfg.dstO x.dst, d ∉ Cfg.dstO y.dst) ∧ (∀ d ∈ Cfg.dstO x.dst, d ∉ Cfg.sees y) ∧ (∀ d ∈ Cfg.dstO y.dst, d ∉ Cfg.sees x) := by
  simp only [Cfg.slotsApart, Bool.and_eq_true, List.all_eq_true] at h
  refine ⟨fun d hd => ?_, fun d hd => ?_, fun d hd => ?_⟩
  · have := (h.1 d hd).1; simpa using this
  · have := (h.1 d hd).2; simpa using this
  · have := h.2 d hd; simpa using this

theorem putE_sees {x y : Ins} {d : D} (h : ∀ t ∈ Cfg.dstO x.dst, t ∉ Cfg.sees y) (e t : Env) : ∀ s ∈ Cfg.sees y, look (putE x.dst d e) s = look e s ∧ look (putT x.dst d t) s = look t s := fun s hs =>
  ⟨putE_other fun e => h s (by simp [e, Cfg.dstO]) hs, putT_other fun e => h s (by simp [e, Cfg.dstO]) hs⟩

theorem sub_ext {ext : Mem} {i : Nat} (h : ext = [] ∨ ∃ b, ext = [(i, b)]) (hf : look mem i = none) : Sub mem (ext ++ mem) := fun k b hb => by
  rcases h with rfl | ⟨c, rfl⟩
  · exact hb
  · simp only [List.singleton_append, look]
    split
    · rename_i e; subst e; rw [hf] at hb; simp at hb
    · exact hb

theorem ext_comm {e1 e2 : Mem} {i j : Nat} (h1 : e1 = [] ∨ ∃ b, e1 = [(i, b)]) (h2 : e2 = [] ∨ ∃ b, e2 = [(j, b)]) (hij : i ≠ j) (m : Mem) : Lk (e1 ++ (e2 ++ m)) (e2 ++ (e1 ++ m)) := by
  rcases h1 with rfl | ⟨b, rfl⟩
  · exact Lk.refl _
  · rcases h2 with rfl | ⟨c, rfl⟩
    · exact Lk.refl _
    · intro t
      simp only [List.singleton_append, look]
      by_cases e : i = t
      · subst e; rw [if_pos rfl, if_neg (fun e => hij e.symm), if_pos rfl]
      · rw [if_neg e, if_neg e]

theorem sees_of {x : Ins} {s : Nat} (h : s ∈ Cfg.seesI x.i) : s ∈ Cfg.sees x := by simp [Cfg.sees, h]

theorem swap {rm : List (Nat × Opd)} {x y : Ins} {i j : Nat} {go : Go4} (hij : i ≠ j) (hs : Cfg.swapI rm x y = true) (hrt : Rooted rm env tl) (hfr : Cfg.makesI y.i = true → look mem (base + j) = none)
    (hcl : ∀ p ∈ Cfg.lookO y.i, ∀ d, ro tl env p = some d → d.hd ≠ some (base + i)) (hg : Inv go)
    (h : One C base x i env tl mem nx (fun e t m n => One C base y j e t m n go)) : One C base y j env tl mem nx (fun e t m n => One C base x i e t m n go) := by
  simp only [Cfg.swapI, Bool.and_eq_true, Bool.or_eq_true] at hs
  obtain ⟨hsl, hs⟩ := hs
  obtain ⟨s1, s2, s3⟩ := slots_out hsl
  have s1' : ∀ d ∈ Cfg.dstO y.dst, d ∉ Cfg.dstO x.dst := fun d h1 h2 => s1 d h2 h1
  have back : ∀ (d : D), ∀ s ∈ Cfg.sees x, look env s = look (putE y.dst d env) s ∧ look tl s = look (putT y.dst d tl) s := fun d s hs' =>
    ⟨(putE_sees (d := d) s3 env tl s hs').1.symm, (putE_sees (d := d) s3 env tl s hs').2.symm⟩
  by_cases hsta : Cfg.staI rm x.i y.i = true
  · obtain ⟨⟨q, hq⟩, hx⟩ := sta_out hsta
    rcases hx with ⟨hxf, hxm, hxl⟩ | ⟨p, hp, hpt⟩
    · obtain ⟨ox, hx1, hx2, hx3⟩ := one_free hxf h
      have he : ox.ext = [] := by
        rcases hx2 with e | ⟨_, e⟩
        · exact e
        · rw [hxm] at e; simp at e
      simp only [he, List.nil_append] at hx1 hx3
      obtain ⟨d, ⟨hy1, hy2⟩ | ⟨a, k, b, b', hy1, hy2, hy3, hy4, hy5, hy6⟩⟩ := store_One hq hx1
      · refine hy2 env tl mem nx _ (putE_sees s2 env tl) (hx3 _ _ _ _ _ (back d) (fun _ _ _ _ => fun _ _ _ h => h) ?_)
        exact hg _ _ _ _ _ _ _ (putE_comm s1') (putT_comm s1') (Lk.refl _) hy1
      · refine hy6 env tl mem nx _ (putE_sees s2 env tl) hy4 (hx3 _ _ _ _ _ (back d) (fun p hp dd hd i hi bb hbb => ?_) ?_)
        · obtain ⟨y', e1, e2⟩ := hy5 _ (hxl p hp)
          rw [ro_put s2 (fun s hs => sees_of (tol_sees (hxl p hp) s hs))] at e1
          rcases rooted_at hrt hd with h0 | ⟨dr, h1, h2⟩
          · rw [h0] at hi; simp at hi
          · rw [h1] at e1
            simp only [Option.some.injEq] at e1; subst e1
            rw [look_upd_ne _ (fun e => e2 (by rw [← h2, hi, e]))]; exact hbb
        · exact hg _ _ _ _ _ _ _ (putE_comm s1') (putT_comm s1') (Lk.refl _) hy1
    · obtain ⟨dx, ⟨hx1, hx2⟩ | ⟨ax, kx, bx, bx', hx1, hx2, hx3, hx4, _, hx6⟩⟩ := store_One hp h
      · refine One_lk (putE_sees s2 env tl) (Lk.refl mem) (fun d m m2 n hm hgo => hx2 _ _ _ _ _ (back d) ?_) hx1
        exact hg _ _ _ _ _ _ _ (putE_comm s1') (putT_comm s1') hm hgo
      · obtain ⟨d, ⟨hy1, hy2⟩ | ⟨a, k, b, b', hy1, hy2, hy3, hy4, hy5, hy6⟩⟩ := store_One hq hx1
        · refine hy2 env tl mem nx _ (putE_sees s2 env tl) (hx6 _ _ _ _ _ (back d) hx4 ?_)
          exact hg _ _ _ _ _ _ _ (putE_comm s1') (putT_comm s1') (Lk.refl _) hy1
        · obtain ⟨y', e1, e2⟩ := hy5 _ hpt
          rw [ro_put s2 (fun s hs => sees_of (tol_sees hpt s hs))] at e1
          have hne : k ≠ kx := by
            rcases rooted_at hrt hx2 with h0 | ⟨dr, h1, h2⟩
            · rw [hx3] at h0; simp at h0
            · rw [h1] at e1
              simp only [Option.some.injEq] at e1; subst e1
              exact fun e => e2 (by rw [← h2, hx3, e])
          rw [look_upd_ne _ hne] at hy4
          refine hy6 env tl mem nx _ (putE_sees s2 env tl) hy4 (hx6 _ _ _ _ _ (back d) (by rw [look_upd_ne _ (fun e => hne e.symm)]; exact hx4) ?_)
          exact hg _ _ _ _ _ _ _ (putE_comm s1') (putT_comm s1') (upd_comm (fun e => hne e.symm) mem) hy1
  by_cases hcln : Cfg.clnI x.i y.i = true
  · obtain ⟨⟨f, xs, hy⟩, hxf, hxm⟩ := cln_out hcln
    obtain ⟨ox, hx1, hx2, hx3⟩ := one_free hxf h
    have he : ox.ext = [] := by
      rcases hx2 with e | ⟨_, e⟩
      · exact e
      · rw [hxm] at e; simp at e
    simp only [he, List.nil_append] at hx1 hx3
    refine One_lk (putE_sees s2 env tl) (Lk.refl mem) (fun d m m2 n hm hgo => ?_) (One_cln hy hx1)
    obtain ⟨hk, hgo⟩ := hgo
    refine hx3 _ _ _ _ _ (back d) (fun p hp dd hd i hi b hb => ?_) ?_
    · rw [← hm]; exact hk i b hb
    · exact hg _ _ _ _ _ _ _ (putE_comm s1') (putT_comm s1') hm hgo
  by_cases hxf : x.i.free = true
  · obtain ⟨ox, hx1, hx2, hx3⟩ := one_free hxf h
    have hx2' : ox.ext = [] ∨ ∃ b, ox.ext = [(base + i, b)] := hx2.imp id (·.1)
    by_cases hyf : y.i.free = true
    · obtain ⟨oy, hy1, hy2, hy3⟩ := one_free hyf hx1
      have hy2' : oy.ext = [] ∨ ∃ b, oy.ext = [(base + j, b)] := hy2.imp id (·.1)
      refine hy3 env tl mem nx _ (putE_sees s2 env tl) (fun p hp d hd i' hi b hb => ?_) ?_
      · rw [ro_put s2 (fun s hs => sees_of (lookO_sees hp s hs))] at hd
        have hne := hcl p hp d hd
        rcases hx2' with e | ⟨_, e⟩
        · rw [e] at hb; exact hb
        · rw [e] at hb
          simp only [List.singleton_append, look] at hb
          rw [if_neg (fun e => hne (by rw [hi, e]))] at hb; exact hb
      · refine hx3 _ _ _ _ _ (back oy.d) (fun _ _ _ _ => Sub.at ?_ _) ?_
        · rcases hy2 with e | ⟨⟨b, e⟩, hm⟩
          · rw [e]; exact fun _ _ h => h
          · exact sub_ext (.inr ⟨b, e⟩) (hfr hm)
        · exact hg _ _ _ _ _ _ _ (putE_comm s1') (putT_comm s1') (ext_comm hy2' hx2' (by omega) mem) hy1
    · have hxq : Cfg.quietI x.i = true := by
        rcases hs with (((⟨h1, _⟩ | h1) | ⟨_, h1⟩) | h1) | h1
        · exact absurd (quiet_out h1).1 hyf
        · exact h1
        · exact absurd h1 hyf
        · exact absurd h1 hsta
        · exact absurd h1 hcln
      obtain ⟨_, q2, q3⟩ := quiet_out hxq
      have he : ox.ext = [] := by
        rcases hx2 with e | ⟨_, e⟩
        · exact e
        · rw [q3] at e; simp at e
      rw [he, List.nil_append] at hx1
      refine One_lk (putE_sees s2 env tl) (Lk.refl mem) (fun d m m2 n hm hgo => ?_) hx1
      refine hx3 _ _ _ _ _ (back d) (fun p hp => by rw [q2 p] at hp; simp at hp) ?_
      rw [he, List.nil_append]
      exact hg _ _ _ _ _ _ _ (putE_comm s1') (putT_comm s1') hm hgo
  · have hyq : Cfg.quietI y.i = true ∧ x.i.call = false := by
      rcases hs with (((⟨h1, h2⟩ | h1) | ⟨h1, _⟩) | h1) | h1
      · exact ⟨h1, by simpa using h2⟩
      · exact absurd (quiet_out h1).1 hxf
      · exact absurd h1 hxf
      · exact absurd h1 hsta
      · exact absurd h1 hcln
    obtain ⟨hyf, q2, q3⟩ := quiet_out hyq.1
    obtain ⟨d, m, hx1, hx2⟩ := write_one' (by simpa using hxf) hyq.2 h
    obtain ⟨oy, hy1, hy2, hy3⟩ := one_free hyf hx1
    have he : oy.ext = [] := by
      rcases hy2 with e | ⟨_, e⟩
      · exact e
      · rw [q3] at e; simp at e
    rw [he, List.nil_append] at hy1
    refine hy3 env tl mem nx _ (putE_sees s2 env tl) (fun p hp => by rw [q2 p] at hp; simp at hp) ?_
    rw [he, List.nil_append]
    refine hx2 _ _ _ _ (back oy.d) (fun m2 hm => ?_)
    exact hg _ _ _ _ _ _ _ (putE_comm s1') (putT_comm s1') hm hy1

/-! #### A store that is told less -/
theorem cut_free {xs : List Ins} {i : I} : (Cfg.cutI xs i).free = i.free := by cases i <;> rfl
theorem cut_makes {xs : List Ins} {i : I} : Cfg.makesI (Cfg.cutI xs i) = Cfg.makesI i := by cases i <;> rfl
theorem cut_look {xs : List Ins} {i : I} : Cfg.lookO (Cfg.cutI xs i) = Cfg.lookO i := by cases i <;> rfl
theorem cut_part {xs : List Ins} {i : I} : Cfg.partO (Cfg.cutI xs i) = Cfg.partO i := by cases i <;> rfl
theorem cut_cons {x : Ins} {xs : List Ins} {y : Ins} : Cfg.cutL (x :: xs) y = Cfg.cutL [x] (Cfg.cutL xs y) := by
  obtain ⟨d, g, i⟩ := y
  cases i with
  | sta n a v ps =>
    simp only [Cfg.cutL, Cfg.cutI, List.filter_filter, List.all_cons, List.all_nil, Bool.and_true]
  | _ => rfl
theorem cut_fits {rm : List (Nat × Opd)} {xs : List Ins} {y : Ins} (h : Cfg.rootFits rm y = true) : Cfg.rootFits rm (Cfg.cutL xs y) = true := by
  unfold Cfg.rootFits Cfg.cutL at *
  simp only [cut_part]
  exact h
theorem ros_filter {f : Opd → Bool} : ∀ (ps : List Opd) (ds : List D), ros tl env ps = some ds → ∃ ds', ros tl env (ps.filter f) = some ds' ∧ ∀ d ∈ ds', d ∈ ds
  | [], ds, h => ⟨ds, h, fun _ h => h⟩
  | p :: ps, ds, h => by
    unfold ros at h
    split at h
    · rename_i d ds0 h1 h2
      simp only [Option.some.injEq] at h
      subst h
      obtain ⟨ds', g1, g2⟩ := ros_filter ps ds0 h2
      rw [List.filter_cons]
      split
      · exact ⟨d :: ds', by unfold ros; rw [h1, g1], fun x hx => by
          rcases List.mem_cons.1 hx with rfl | hx
          · simp
          · exact List.mem_cons_of_mem _ (g2 x hx)⟩
      · exact ⟨ds', g1, fun x hx => List.mem_cons_of_mem _ (g2 x hx)⟩
    · simp at h
theorem apart_filter {f : Opd → Bool} {o : Option D} {ps : List Opd} (h : apartD o (ros tl env ps) = true) : apartD o (ros tl env (ps.filter f)) = true := by
  cases o with
  | none => simp [apartD] at h
  | some a =>
    cases hr : ros tl env ps with
    | none => rw [hr] at h; simp [apartD] at h
    | some ds =>
      rw [hr] at h
      obtain ⟨ds', g1, g2⟩ := ros_filter (f := f) ps ds hr
      rw [g1]
      simp only [apartD, List.all_eq_true] at h ⊢
      exact fun d hd => h d (g2 d hd)
theorem One_cut {xs : List Ins} {y : Ins} {j : Nat} {go : Go4} (h : One C base y j env tl mem nx go) : One C base (Cfg.cutL xs y) j env tl mem nx go := by
  obtain ⟨d, g, i0⟩ := y
  cases i0 with
  | sta n a v ps =>
    have key : ∀ {f : Opd → Bool} {env tl : Env} {K : KD}, stepI C (base + j) (.sta n a v ps) env tl mem nx K → stepI C (base + j) (.sta n a v (ps.filter f)) env tl mem nx K := by
      intro f env tl K h
      obtain ⟨d, m, h1, h2⟩ := km_out h
      refine km_mk (d := d) (m := m) ?_ h2
      unfold staM at h1 ⊢
      split at h1
      · rename_i ha
        rw [if_pos (apart_filter ha)]; exact h1
      · simp at h1
    cases g with
    | none =>
      simp only [One, Cfg.cutL, Cfg.cutI] at h ⊢
      exact key h
    | some q =>
      obtain ⟨g, want⟩ := q
      simp only [One, gd, Cfg.cutL, Cfg.cutI] at h ⊢
      split at h
      · exact ⟨fun e => key (h.1 e), h.2⟩
      · exact h
      · exact h.elim
  | _ => exact h
theorem swap_more {rm : List (Nat × Opd)} {x y : Ins} {A B : List Ins} (hAB : ∀ z ∈ A, z ∈ B) (hx : x ∈ A) (h : Cfg.swapI rm x (Cfg.cutL B y) = true) : Cfg.swapI rm x (Cfg.cutL A y) = true := by
  obtain ⟨d, g, i⟩ := y
  cases i with
  | sta n a v ps =>
    have hsub : ∀ p ∈ (ps.filter fun p => B.all fun x => (Cfg.dstO x.dst).all fun s => !(Cfg.seesO p).contains s), p ∈ (ps.filter fun p => A.all fun x => (Cfg.dstO x.dst).all fun s => !(Cfg.seesO p).contains s) := by
      intro p hp
      rw [List.mem_filter] at hp ⊢
      refine ⟨hp.1, ?_⟩
      rw [List.all_eq_true] at hp ⊢
      exact fun z hz => hp.2 z (hAB z hz)
    have hno : ∀ p ∈ (ps.filter fun p => A.all fun x => (Cfg.dstO x.dst).all fun s => !(Cfg.seesO p).contains s), ∀ s ∈ Cfg.dstO x.dst, s ∉ Cfg.seesO p := by
      intro p hp s hs
      rw [List.mem_filter, List.all_eq_true] at hp
      have := hp.2 x hx
      rw [List.all_eq_true] at this
      simpa using this s hs
    simp only [Cfg.swapI, Bool.and_eq_true] at h ⊢
    obtain ⟨h1, h2⟩ := h
    refine ⟨?_, ?_⟩
    · simp only [Cfg.slotsApart, Bool.and_eq_true, List.all_eq_true, Bool.not_eq_true', Cfg.cutL, Cfg.cutI, Cfg.sees, Cfg.seesI] at h1 ⊢
      refine ⟨fun s hs => ?_, h1.2⟩
      obtain ⟨k1, k2⟩ := h1.1 s hs
      refine ⟨k1, ?_⟩
      have k3 : s ∉ _ := fun hm => by
        have := List.contains_iff_mem.2 hm
        rw [k2] at this
        exact Bool.noConfusion this
      rw [← Bool.not_eq_true]
      intro hm
      rw [List.contains_iff_mem] at hm
      apply k3
      rw [List.mem_append, List.mem_append] at hm ⊢
      rcases hm with hm | hm | hm
      · exact .inl hm
      · exact .inr (.inl hm)
      · exfalso
        rw [List.mem_flatMap] at hm
        obtain ⟨p, hp, hsp⟩ := hm
        exact hno p hp s hs hsp
    · have any_mono : ∀ {q : Opd → Bool}, (ps.filter fun p => B.all fun x => (Cfg.dstO x.dst).all fun s => !(Cfg.seesO p).contains s).any q = true → (ps.filter fun p => A.all fun x => (Cfg.dstO x.dst).all fun s => !(Cfg.seesO p).contains s).any q = true := by
        intro q hq
        rw [List.any_eq_true] at hq ⊢
        obtain ⟨p, hp, hpq⟩ := hq
        exact ⟨p, hsub p hp, hpq⟩
      have hst : Cfg.staI rm x.i (Cfg.cutI B (.sta n a v ps)) = true → Cfg.staI rm x.i (Cfg.cutI A (.sta n a v ps)) = true := by
        intro h
        cases hxi : x.i with
        | st _ b _ => rw [hxi] at h; exact any_mono h
        | sta _ b _ _ => rw [hxi] at h; exact any_mono h
        | _ =>
          rw [hxi] at h
          simp only [Cfg.cutI, Cfg.staI, Bool.and_eq_true, List.all_eq_true] at h ⊢
          exact ⟨h.1, h.2.1, fun p hp => any_mono (h.2.2 p hp)⟩
      have hq : ∀ L, Cfg.quietI (Cfg.cutI L (.sta n a v ps)) = false := fun _ => rfl
      have hf : ∀ L, (Cfg.cutI L (.sta n a v ps)).free = false := fun _ => rfl
      have hc : ∀ L, Cfg.clnI x.i (Cfg.cutI L (.sta n a v ps)) = false := fun _ => rfl
      simp only [Cfg.cutL, hq, hf, hc, Bool.false_and, Bool.and_false, Bool.false_or, Bool.or_false, Bool.or_eq_true] at h2 ⊢
      exact h2.imp id hst
  | _ => exact h
/-- What a passing operation asks of those that it passes. -/
def PassOk (rm : List (Nat × Opd)) (y : Ins) : List (Nat × Ins) → Prop
  | [] => True
  | (_, x) :: xs => Cfg.swapI rm x (Cfg.cutL (x :: xs.map (·.2)) y) = true ∧ PassOk rm y xs

theorem pass {rm : List (Nat × Opd)} {y : Ins} {j : Nat} {go : Go4} (hg : Inv go) : ∀ (xs : List (Nat × Ins)) (env tl : Env) (mem : Mem) (nx : Nat), PassOk rm y xs → (∀ p ∈ xs, p.1 ≠ j ∧ Cfg.rootFits rm p.2 = true) → Rooted rm env tl → (Cfg.makesI y.i = true → look mem (base + j) = none) →
    (∀ q ∈ Cfg.lookO y.i, ∀ d, ro tl env q = some d → ∀ p ∈ xs, d.hd ≠ some (base + p.1)) →
    runL C base xs (fun e t m n => One C base y j e t m n go) env tl mem nx → One C base (Cfg.cutL (xs.map (·.2)) y) j env tl mem nx (runL C base xs go)
  | [], _, _, _, _, _, _, _, _, _, h => One_cut h
  | (i, x) :: xs, env, tl, mem, nx, hpk, hs, hrt, hfr, hcl, h => by
    simp only [runL] at h
    obtain ⟨hsw, hpk⟩ := hpk
    obtain ⟨hij, hrf⟩ := hs (i, x) (by simp)
    have hs' : ∀ p ∈ xs, p.1 ≠ j ∧ Cfg.rootFits rm p.2 = true := fun p hp => hs p (by simp [hp])
    have hlk : Cfg.lookO (Cfg.cutL (x :: xs.map (·.2)) y).i = Cfg.lookO y.i := cut_look
    have hmk : Cfg.makesI (Cfg.cutL (x :: xs.map (·.2)) y).i = Cfg.makesI y.i := cut_makes
    have hsl : ∀ d ∈ Cfg.dstO x.dst, d ∉ Cfg.sees (Cfg.cutL (x :: xs.map (·.2)) y) := by
      simp only [Cfg.swapI, Bool.and_eq_true] at hsw
      exact (slots_out hsw.1).2.1
    have hcl2 : ∀ (v : D), ∀ q ∈ Cfg.lookO y.i, ∀ d, ro (putT x.dst v tl) (putE x.dst v env) q = some d → ∀ p ∈ xs, d.hd ≠ some (base + p.1) := fun v q hq d hd p hp => by
      rw [ro_put hsl (fun s hs => sees_of (lookO_sees (by rw [hlk]; exact hq) s hs))] at hd
      exact hcl q hq d hd p (by simp [hp])
    have h2 : One C base x i env tl mem nx (fun e t m n => One C base (Cfg.cutL (x :: xs.map (·.2)) y) j e t m n (runL C base xs go)) := by
      by_cases hm : Cfg.makesI y.i = true
      · have hxf : x.i.free = true := by
          simp only [Cfg.swapI, Bool.and_eq_true, Bool.or_eq_true] at hsw
          rcases hsw.2 with (((⟨h1, _⟩ | h1) | ⟨h1, _⟩) | h1) | h1
          · have := (quiet_out h1).2.2; rw [hmk, hm] at this; simp at this
          · exact (quiet_out h1).1
          · exact h1
          · obtain ⟨⟨q, hq⟩, _⟩ := sta_out h1
            rw [← hmk] at hm
            cases hy : (Cfg.cutL (x :: xs.map (·.2)) y).i <;> rw [hy] at hq hm <;> simp [I.adr] at hq <;> simp [Cfg.makesI] at hm
          · exact (cln_out h1).2.1
        obtain ⟨ox, hx1, hx2, hx3⟩ := one_free hxf (One_rooted hrf hrt h)
        refine hx3 env tl mem nx _ (fun s _ => ⟨rfl, rfl⟩) (fun _ _ _ _ => fun _ _ _ h => h) ?_
        rw [cut_cons]
        refine One_cut (pass hg xs _ _ _ _ hpk hs' hx1.1 (fun _ => ?_) (hcl2 _) hx1.2)
        rcases hx2 with e | ⟨⟨b, e⟩, _⟩
        · rw [e]; exact hfr hm
        · rw [e]; simp only [List.singleton_append, look]; rw [if_neg (by omega)]; exact hfr hm
      · refine One_lk (fun s _ => ⟨rfl, rfl⟩) (Lk.refl mem) (fun d m m2 n hmm h => ?_) (One_rooted hrf hrt h)
        rw [cut_cons]
        exact One_cut (pass hg xs _ _ _ _ hpk hs' h.1 (fun h => absurd h hm) (hcl2 d) (Inv_runL (Inv_One hg) xs _ _ _ _ _ _ _ (Lk.refl _) (Lk.refl _) hmm h.2))
    exact swap hij hsw hrt (fun h => hfr (hmk ▸ h)) (fun p hp d hd => hcl p (hlk ▸ hp) d hd (i, x) (by simp)) (Inv_runL hg xs) h2

structure Okd (C : Cfg) (ops : Array Oper) (pi : List Nat) (bf : Nat → Nat → Bool) (is : List Ins) : Prop where
  edge : ∀ i o, ops[i]? = some o → ∀ e ∈ o.after.toList, Region.binds .any e = true → e.on < i
  fit : ∀ x ∈ is, (∀ p ∈ Cfg.lookO x.i, Cfg.fitO C.gs p = true) ∧ Cfg.rootFits (Cfg.roots is) x = true
  apart : ∀ i j x y, i < j → is[i]? = some x → is[j]? = some y → pi.getD i 0 ≠ pi.getD j 0 ∧ (bf j i = true ∨ Cfg.swapI (Cfg.roots is) x (Cfg.cutL ((is.take j).drop i) y) = true)

theorem okd_of {ops : Array Oper} {pi : List Nat} {bf : Nat → Nat → Bool} (h : Cfg.drawOk C.gs ops pi bf is = true) : Okd C ops pi bf is := by
  simp only [Cfg.drawOk, Bool.and_eq_true, List.all_eq_true] at h
  obtain ⟨h1, h3, h2⟩ := h
  have mem_zip : ∀ {α : Type} (l : List α) (i : Nat) (x : α), l[i]? = some x → (x, i) ∈ l.zipIdx := by
    intro α l i x hx
    rw [List.mk_mem_zipIdx_iff_getElem?]; exact hx
  refine ⟨fun i o ho e he hb => ?_, fun x hx => by
    have := h3 x hx
    exact this, fun i j x y hij hx hy => ?_⟩
  · have := h1 (o, i) (mem_zip _ _ _ (by simpa using ho)) e he
    simpa [hb] using this
  · have := h2 (y, j) (mem_zip _ _ _ hy) (x, i) (mem_zip _ _ _ hx)
    simp only [hij, if_true, Bool.and_eq_true, bne_iff_ne, ne_eq, Bool.or_eq_true] at this
    exact this

/-- What is told of a store says no less than the store itself. -/
theorem One_tell {b : Nat → Bool} {c kp : Bool} {i j : Nat} {x : Ins} {is xs : List Ins} {go : Go4} (hns : Cfg.notSta x.i = true) (h : One C base (Cfg.cutL xs (Cfg.tellI b c kp is x j)) i env tl mem nx go) : One C base x i env tl mem nx go := by
  obtain ⟨d, g, i0⟩ := x
  have lift : ∀ {i1 : I} (_ : ∀ {env tl : Env} {K : KD}, stepI C (base + i) i1 env tl mem nx K → stepI C (base + i) i0 env tl mem nx K), One C base ⟨d, g, i1⟩ i env tl mem nx go → One C base ⟨d, g, i0⟩ i env tl mem nx go := by
    intro i1 key h
    cases g with
    | none =>
      simp only [One] at h ⊢
      exact key h
    | some q =>
      obtain ⟨g, want⟩ := q
      simp only [One, gd] at h ⊢
      split at h
      · exact ⟨fun e => key (h.1 e), h.2⟩
      · exact h
      · exact h.elim
  cases i0 with
  | st n a v =>
    simp only [Cfg.tellI] at h
    split at h
    · exact h
    · rename_i ps _
      simp only [Cfg.cutL, Cfg.cutI] at h
      refine lift ?_ h
      intro env tl K h
      obtain ⟨d, m, h1, h2⟩ := km_out h
      unfold staM at h1
      split at h1
      · exact km_mk h1 h2
      · simp at h1
  | ld g n y =>
    simp only [Cfg.tellI] at h
    split at h
    · simp only [Cfg.cutL, Cfg.cutI] at h
      refine lift ?_ h
      intro env tl K h
      obtain ⟨d, r, h1, h2, h3⟩ := k1_out h
      refine k1_mk h1 ?_ h3
      cases d <;> simp only [ldpD] at h2 <;> first | exact h2 | simp at h2
    · exact h
  | fa off y =>
    simp only [Cfg.tellI] at h
    split at h
    · simp only [Cfg.cutL, Cfg.cutI] at h
      refine lift ?_ h
      intro env tl K h
      obtain ⟨d, r, h1, h2, h3⟩ := k1_out h
      refine k1_mk h1 ?_ h3
      cases d <;> simp only [fapD] at h2 <;> first | exact h2 | simp at h2
    · exact h
  | cl f ys =>
    simp only [Cfg.tellI] at h
    split at h
    · simp only [Cfg.cutL, Cfg.cutI] at h
      refine lift ?_ h
      intro env tl K h
      obtain ⟨g, caps, zs, h1, h2, h3⟩ := clK_out h
      show clK C.P _ _ _ _ _
      rw [h1, h2]; exact CallT_mono h3 fun d m n h => h.2
    · exact h
  | sta n a v ps => simp [Cfg.notSta] at hns
  | _ => exact h
theorem mem_between {is : List Ins} {z : Ins} {p j i : Nat} (h : is[p]? = some z) (h1 : j ≤ p) (h2 : p < i) : z ∈ (is.take i).drop j := by
  refine List.mem_of_getElem? (i := p - j) ?_
  rw [List.getElem?_drop, List.getElem?_take_of_lt (by omega), show j + (p - j) = p by omega]
  exact h

theorem tell_get {bf : Nat → Nat → Bool} {late kp : Bool} {i : Nat} : ∃ c, (Cfg.tell bf late kp is)[i]? = (is[i]?).map fun y => Cfg.tellI (bf i) c kp is y i := by
  simp only [Cfg.tell, List.getElem?_map, List.getElem?_zipIdx]
  cases is[i]? with
  | none => exact ⟨false, rfl⟩
  | some y => exact ⟨_, by simp only [Option.map_some, Nat.zero_add]; rfl⟩
theorem tell_length {bf : Nat → Nat → Bool} {late kp : Bool} : (Cfg.tell bf late kp is).length = is.length := by simp [Cfg.tell]

theorem unl_set {n i : Nat} {listed : Array Bool} (hi : i < n) (hsz : listed.size = n) (hl : listed.getD i true = false) : unl n (listed.setIfInBounds i true) < unl n listed := by
  unfold unl
  refine filter_lt _ i (by simpa using hi) (by simp [hl]) ?_ ?_
  · rw [getD_set (by omega)]; simp
  · intro j hj
    rw [getD_set (by omega)] at hj
    split at hj
    · simp at hj
    · exact hj

theorem unl_zero {n i : Nat} {listed : Array Bool} (h : unl n listed ≤ 0) (hi : i < n) : listed.getD i true = true := by
  unfold unl at h
  have h0 : (List.range n).filter (fun i => !listed.getD i true) = [] := List.eq_nil_of_length_eq_zero (by omega)
  have := List.filter_eq_nil_iff.1 h0 i (by simpa using hi)
  simpa using this

theorem getD_tf {listed : Array Bool} {i : Nat} (hi : i < listed.size) : listed.getD i true = listed.getD i false := by
  simp [Array.getD_eq_getD_getElem?, hi]

theorem closed_set {ops : Array Oper} {listed : Array Bool} {i : Nat} {o : Oper} (hsz : listed.size = ops.size) (ho : ops[i]? = some o) (hr : o.after.all (fun e => !Region.binds .any e || listed.getD e.on false) = true) (hc : Closed ops listed) : Closed ops (listed.setIfInBounds i true) := by
  have hi : i < ops.size := (Array.getElem?_eq_some_iff.1 ho).1
  intro j o' ho' hj m hm
  rw [getD_set (by omega)] at hj ⊢
  split
  · rfl
  · rename_i him
    by_cases hij : i = j
    · subst hij
      exact ready_before ho hc hr hm
    · simp only [hij, if_false] at hj
      exact hc j o' ho' hj m hm

/-- What is still to be done, in the order in which it is read; 'dn': what is done. -/
def todo (is : List Ins) (dn : Nat → Bool) (j n : Nat) : List (Nat × Ins) := (List.range' j n).filterMap fun i => if dn i then none else (is[i]?).map fun x => (i, x)

theorem todo_zip : ∀ (l : List Ins) (is : List Ins) (j : Nat) (dn : Nat → Bool), (∀ i, is[j + i]? = l[i]?) → (∀ i, dn i = false) → todo is dn j l.length = (l.zipIdx j).map fun p => (p.2, p.1)
  | [], _, _, _, _, _ => rfl
  | x :: l, is, j, dn, h, hl => by
    have h0 := h 0
    simp only [Nat.add_zero, List.getElem?_cons_zero] at h0
    have ih := todo_zip l is (j + 1) dn (fun i => by
      have := h (i + 1)
      rw [show j + (i + 1) = j + 1 + i by omega] at this
      simpa using this) hl
    unfold todo at ih ⊢
    simp only [hl, Bool.false_eq_true, if_false] at ih
    rw [List.length_cons, List.range'_succ, List.filterMap_cons]
    simp only [hl, h0, Option.map_some, Bool.false_eq_true, if_false, List.zipIdx_cons, List.map_cons]
    rw [ih]

theorem todo_split {dn : Nat → Bool} {i k : Nat} {x : Ins} (hi : i < k) (hl : dn i = false) (hx : is[i]? = some x) :
    todo is dn 0 k = todo is dn 0 i ++ (i, x) :: todo is dn (i + 1) (k - (i + 1)) := by
  unfold todo
  have e : List.range' 0 k = List.range' 0 i ++ i :: List.range' (i + 1) (k - (i + 1)) := by
    have e1 : i :: List.range' (i + 1) (k - (i + 1)) = List.range' i (k - i) := by
      rw [show k - i = (k - (i + 1)) + 1 by omega, List.range'_succ]
    rw [e1, show (List.range' i (k - i)) = List.range' (0 + 1 * i) (k - i) by simp, List.range'_append]
    congr 1; omega
  rw [e, List.filterMap_append, List.filterMap_cons]
  simp [hl, hx]

theorem filterMap_cong {α β : Type} {f g : α → Option β} : ∀ {l : List α}, (∀ x ∈ l, f x = g x) → l.filterMap f = l.filterMap g
  | [], _ => rfl
  | x :: l, h => by rw [List.filterMap_cons, List.filterMap_cons, h x (by simp), filterMap_cong fun y hy => h y (by simp [hy])]

theorem todo_cong {dn dn' : Nat → Bool} : ∀ (j n : Nat), (∀ m, j ≤ m → m < j + n → dn' m = dn m) → todo is dn' j n = todo is dn j n := by
  intro j n h
  unfold todo
  refine filterMap_cong fun m hm => ?_
  rw [List.mem_range'_1] at hm
  rw [h m hm.1 hm.2]

theorem todo_mem {dn : Nat → Bool} {j n : Nat} {p : Nat × Ins} (h : p ∈ todo is dn j n) : j ≤ p.1 ∧ p.1 < j + n ∧ dn p.1 = false ∧ is[p.1]? = some p.2 := by
  unfold todo at h
  rw [List.mem_filterMap] at h
  obtain ⟨i, hi, h⟩ := h
  rw [List.mem_range'_1] at hi
  split at h
  · simp at h
  · rename_i hl
    rw [Option.map_eq_some_iff] at h
    obtain ⟨x, hx, rfl⟩ := h
    exact ⟨hi.1, hi.2, by simpa using hl, hx⟩

theorem todo_pass {rm : List (Nat × Opd)} {is : List Ins} {dn : Nat → Bool} {y : Ins} {i : Nat} (hap : ∀ p x, p < i → dn p = false → is[p]? = some x → Cfg.swapI rm x (Cfg.cutL ((is.take i).drop p) y) = true) : ∀ n j, j + n = i → PassOk rm y (todo is dn j n)
  | 0, j, _ => trivial
  | n + 1, j, hj => by
    have ih := todo_pass hap n (j + 1) (by omega)
    have hmem : ∀ q ∈ todo is dn (j + 1) n, j + 1 ≤ q.1 ∧ q.1 < i ∧ is[q.1]? = some q.2 := fun q hq => by
      obtain ⟨g1, g2, _, g4⟩ := todo_mem hq
      exact ⟨g1, by omega, g4⟩
    have e : todo is dn j (n + 1) = (if dn j then [] else ((is[j]?).map fun x => (j, x)).toList) ++ todo is dn (j + 1) n := by
      unfold todo
      rw [List.range'_succ, List.filterMap_cons]
      cases hl : dn j with
      | true => simp
      | false => cases hx : is[j]? <;> simp
    rw [e]
    cases hl : dn j with
    | true => simpa using ih
    | false =>
      cases hx : is[j]? with
      | none => simpa using ih
      | some x =>
        show PassOk rm y ((j, x) :: todo is dn (j + 1) n)
        refine ⟨swap_more (fun z hz => ?_) (by simp) (hap j x (by omega) hl hx), ih⟩
        rcases List.mem_cons.1 hz with rfl | hz
        · exact mem_between hx (Nat.le_refl _) (by omega)
        · obtain ⟨q, hq, rfl⟩ := List.mem_map.1 hz
          obtain ⟨g1, g2, g3⟩ := hmem q hq
          exact mem_between g3 (by omega) g2

/-- The operations in the order in which they are read: each once. -/
structure Perm (C : Cfg) (ops : Array Oper) (pi : List Nat) (bf : Nat → Nat → Bool) (js : List Ins) : Prop where
  len : js.length = ops.size
  ins : ∀ p x, js[p]? = some x → ∃ o, ops[pi.getD p 0]? = some o ∧ C.ins ops o = some x
  inj : ∀ p q, p < ops.size → q < ops.size → pi.getD p 0 = pi.getD q 0 → p = q
  all : ∀ i, i < ops.size → ∃ p, p < ops.size ∧ pi.getD p 0 = i
  bef : ∀ p q, p < ops.size → q < ops.size → bf q p = true → ((Region.before ops).getD (pi.getD q 0) 0).testBit (pi.getD p 0) = true
def doneP (pi : List Nat) (listed : Array Bool) : Nat → Bool := fun p => listed.getD (pi.getD p 0) false

theorem any_run {B : Rx} {ops : Array Oper} {K : Go4} {S0 : Nat → Prop} {φ0 : Locs} {mem0 : Mem} {w0 : World} {N : Nat} {pi : List Nat} {bf : Nat → Nat → Bool} {late kp : Bool} (hK : Inv K) (hN : N ≤ base) (hpi : Perm C ops pi bf is) (hns : ∀ x ∈ is, Cfg.notSta x.i = true) (hok : Okd C ops pi bf (Cfg.tell bf late kp is))
    {Q : Exit → Act → World → Prop} (hQ : ∀ env tl mem nx S φ a w, K env tl mem nx → Here C B S φ env tl mem nx a w → Ext S0 φ0 mem0 w0 S φ mem w → Grow N φ0 φ nx → Q .normal a w) :
    ∀ (fuel : Nat) (listed : Array Bool) (env tl : Env) (mem : Mem) (nx : Nat) (S : Nat → Prop) (φ : Locs) (a : Act) (w : World),
    listed.size = ops.size → unl ops.size listed ≤ fuel → Closed ops listed → runL C base (todo (Cfg.tell bf late kp is) (doneP pi listed) 0 ops.size) K env tl mem nx → Rooted (Cfg.roots (Cfg.tell bf late kp is)) env tl → Here C B S φ env tl mem nx a w → Ext S0 φ0 mem0 w0 S φ mem w → Grow N φ0 φ nx →
    (∀ p, p < ops.size → doneP pi listed p = false → φ (base + p) = none) → base + ops.size ≤ nx → wpAny C.P .any ops Q fuel listed a w := by
  intro fuel
  have hbd : ∀ p, p < ops.size → pi.getD p 0 < ops.size := fun p hp => by
    obtain ⟨x, hx⟩ : ∃ x, is[p]? = some x := ⟨_, List.getElem?_eq_getElem (by rw [hpi.len]; exact hp)⟩
    obtain ⟨o, ho, _⟩ := hpi.ins p x hx
    exact (Array.getElem?_eq_some_iff.1 ho).1
  have hend : ∀ (listed : Array Bool) (env tl : Env) (mem : Mem) (nx : Nat), listed.size = ops.size → Region.ready .any ops listed = [] → runL C base (todo (Cfg.tell bf late kp is) (doneP pi listed) 0 ops.size) K env tl mem nx → K env tl mem nx := by
    intro listed env tl mem nx hsz hall hr
    have : todo (Cfg.tell bf late kp is) (doneP pi listed) 0 ops.size = [] := by
      apply List.eq_nil_iff_forall_not_mem.2
      intro p hp
      obtain ⟨_, h2, h3, _⟩ := todo_mem hp
      have := ready_none hsz hok.edge hall (pi.getD p.1 0) (hbd _ (by omega))
      unfold doneP at h3
      rw [h3] at this; simp at this
    rw [this] at hr; exact hr
  induction fuel with
  | zero =>
    intro listed env tl mem nx S φ a w hsz hun hcl hr hrt hh hx hgr hf hn
    have hall : Region.ready .any ops listed = [] := by
      cases h : Region.ready .any ops listed with
      | nil => rfl
      | cons i l =>
        obtain ⟨o, _, h1, h2, _⟩ := ready_mem (ops := ops) (listed := listed) (i := i) (by rw [h]; simp)
        rw [unl_zero hun h1] at h2; simp at h2
    exact ⟨hall, hQ _ _ _ _ _ _ _ _ (hend _ _ _ _ _ hsz hall hr) hh hx hgr⟩
  | succ fuel ih =>
    intro listed env tl mem nx S φ a w hsz hun hcl hr hrt hh hx hgr hf hn
    refine ⟨fun hall => hQ _ _ _ _ _ _ _ _ (hend _ _ _ _ _ hsz hall hr) hh hx hgr, fun i0 hi => ?_⟩
    obtain ⟨o, ho, h1, h2, h3⟩ := ready_mem hi
    rw [getD_tf (by omega)] at h2
    obtain ⟨i, hip, hpe⟩ := hpi.all i0 h1
    have hdn : doneP pi listed i = false := by unfold doneP; rw [hpe]; exact h2
    obtain ⟨x0, hx0⟩ : ∃ x, is[i]? = some x := ⟨_, List.getElem?_eq_getElem (by rw [hpi.len]; exact hip)⟩
    obtain ⟨x, c, hx', hxt⟩ : ∃ x c, (Cfg.tell bf late kp is)[i]? = some x ∧ x = Cfg.tellI (bf i) c kp is x0 i := by
      obtain ⟨c, h⟩ := tell_get (is := is) (bf := bf) (late := late) (kp := kp) (i := i)
      rw [hx0, Option.map_some] at h
      exact ⟨_, c, h, rfl⟩
    obtain ⟨o', ho', hins⟩ := hpi.ins i x0 hx0
    have : o' = o := by
      rw [hpe, ho] at ho'; exact (Option.some.inj ho').symm
    subst this
    rw [todo_split hip hdn hx', runL_app] at hr
    simp only [runL] at hr
    have hfree := hf i hip hdn
    have hone := pass (Inv_runL hK _) _ _ _ _ _ (todo_pass (y := x) (i := i) (rm := Cfg.roots (Cfg.tell bf late kp is)) (fun p z hlt g3 g4 => by
      refine (hok.apart p i z x hlt g4 hx').2.resolve_left fun hb => ?_
      have hb := hpi.bef p i (by omega) hip hb
      rw [hpe] at hb
      have := ready_before ho hcl h3 hb
      unfold doneP at g3
      rw [g3] at this; simp at this) i 0 (by omega)) (fun p hp => by
      obtain ⟨_, g2, g3, g4⟩ := todo_mem hp
      exact ⟨by omega, (hok.fit _ (List.mem_of_getElem? g4)).2⟩) hrt (fun _ => by
      cases hl : look mem (base + i) with
      | none => rfl
      | some b =>
        obtain ⟨l, g1, _⟩ := hh.m.mem _ _ hl
        rw [hfree] at g1; simp at g1) (fun q hq d hd p hp e => by
      obtain ⟨_, g2, g3, g4⟩ := todo_mem hp
      have hp2 := hf p.1 (by omega) g3
      have hfit := (hok.fit x (List.mem_of_getElem? hx')).1 q hq
      have hrep : ∃ v, Rep w S φ d v := by
        cases q with
        | t s => exact ⟨_, hh.known.tl s d (by simpa [Cfg.fitO] using hfit) hd⟩
        | g s => exact ⟨_, hh.known.env s d (by simpa [Cfg.fitO] using hfit) hd⟩
        | c v => simp only [ro, Option.some.injEq] at hd; subst hd; simp [D.hd] at e
        | f v => simp only [ro, Option.some.injEq] at hd; subst hd; simp [D.hd] at e
      obtain ⟨v, hv⟩ := hrep
      cases d <;> simp only [D.hd, Option.some.injEq] at e <;> try simp at e
      all_goals
        subst e
        simp only [Rep] at hv
        obtain ⟨l, hl, _⟩ := hv
        rw [hp2] at hl; simp at hl) hr
    rw [← runL_app] at hone
    have hone := One_rooted (cut_fits (hok.fit x (List.mem_of_getElem? hx')).2) hrt hone
    rw [hxt] at hone
    have hone := One_tell (hns x0 (List.mem_of_getElem? hx0)) hone
    refine wpOp_mono ?_ (one_sound (k := i0) ho hins hone hh hfree (by omega))
    rintro a' w' ⟨S', φ', env', tl', mem', nx', g1, g2, g3, g4, g5, g6, _⟩
    have hdone : ∀ m, m < ops.size → doneP pi (listed.setIfInBounds i0 true) m = if m = i then true else doneP pi listed m := fun m hm => by
      unfold doneP
      rw [getD_set (by omega)]
      by_cases e : m = i
      · subst e; rw [if_pos hpe.symm, if_pos rfl]
      · rw [if_neg e, if_neg fun g => e (hpi.inj m i hm hip (by rw [hpe]; exact g.symm))]
    have hset : todo (Cfg.tell bf late kp is) (doneP pi (listed.setIfInBounds i0 true)) 0 ops.size = todo (Cfg.tell bf late kp is) (doneP pi listed) 0 i ++ todo (Cfg.tell bf late kp is) (doneP pi listed) (i + 1) (ops.size - (i + 1)) := by
      have e : ∀ (L : Nat → Bool), todo (Cfg.tell bf late kp is) L 0 ops.size = todo (Cfg.tell bf late kp is) L 0 i ++ (todo (Cfg.tell bf late kp is) L i 1 ++ todo (Cfg.tell bf late kp is) L (i + 1) (ops.size - (i + 1))) := by
        intro L
        unfold todo
        rw [← List.filterMap_append, ← List.filterMap_append]
        congr 1
        rw [show List.range' i 1 ++ List.range' (i + 1) (ops.size - (i + 1)) = List.range' i (ops.size - i) by
          rw [show i + 1 = i + 1 * 1 by omega, List.range'_append]; congr 1; omega]
        rw [show (List.range' i (ops.size - i)) = List.range' (0 + 1 * i) (ops.size - i) by simp, List.range'_append]
        congr 1; omega
      rw [e, todo_cong (dn := doneP pi listed) 0 i (fun m _ hm => by rw [hdone m (by omega), if_neg (by omega)]), todo_cong (dn := doneP pi listed) (i + 1) _ (fun m hm hm2 => by rw [hdone m (by omega), if_neg (by omega)])]
      congr 1
      have : todo (Cfg.tell bf late kp is) (doneP pi (listed.setIfInBounds i0 true)) i 1 = [] := by
        unfold todo
        simp [hdone i hip]
      rw [this, List.nil_append]
    refine ih (listed.setIfInBounds i0 true) env' tl' mem' nx' S' φ' a' w' (by simpa using hsz) (by have := unl_set h1 hsz (by rw [getD_tf (by omega)]; exact h2); omega) (closed_set hsz ho h3 hcl) (by rw [hset]; exact g1.2) g1.1 g2 (hx.trans g4)
      (hgr.trans ⟨by omega, fun i hi hnn => g6 i (by omega) (by omega) hnn, g3.loc⟩) (fun m hm hml => ?_) (by omega)
    rw [hdone m hm] at hml
    split at hml
    · simp at hml
    · exact g6 _ (by omega) (by omega) (hf m hm hml)

def NoDef (ops : Array Oper) : Prop := ∀ (i : Nat) (o : Oper), ops[i]? = some o → ∀ c, o.op ≠ Op.defer c
theorem wpOps_in {rd : Option Nat} {P : Program} {ops : Array Oper} {Q : Exit → Act → World → Prop} (hd : NoDef ops) (hq : ∀ a w, ¬ Q .outgrown a w) {i : Nat} {K K' : Act → World → Prop} (hK : ∀ a w, K a w → K' a w) {a : Act} {w : World} (h : wpOp P ops Q i K a w) : wpOpIn (FrR rd) 0 P ops Q i K' a w := by
  unfold wpOp at h
  unfold wpOpIn
  cases ho : ops[i]? with
  | none => simp only [ho] at h ⊢; exact hK _ _ h
  | some o =>
    simp only [ho] at h ⊢
    have hcalls : ∀ {f : FuncId} {args : Array Value} {w : World} {R : Ending → World → Prop}, Calls P f args w R → CallsIn (FrR rd) 0 P f args w R := fun {f args w R} h => by
      have h2 := (callsIn_wide (n := 0)).2 h
      exact ⟨trivial, fun cs hr => by
        obtain ⟨e, w', fr, k1, k2, k3⟩ := h2.2 cs (room_wide _)
        exact ⟨e, w', fr, k1, k2, k3⟩⟩
    split
    · rename_i hw
      simp only [hw, if_true] at h
      rcases h with h | ⟨_, a0, w0, h0⟩
      · refine ⟨fun _ _ => trivial, ?_⟩
        rw [Oper.semAt_eq _ _ _ (hd i o ho)]
        unfold Oper.wp at h
        generalize (execOp a.eval o).run P w = r at h
        cases r with
        | ok x w' =>
          cases x <;> simp only [Oper.upon] at h <;> simp only [Oper.uponIn]
          all_goals first
            | exact hK _ _ h
            | exact ⟨fun g => by simp [FrR] at g, hcalls (h.mono fun e w'' he => by cases e <;> first | exact hK _ _ he | exact he)⟩
            | exact ⟨fun g => by simp [FrR] at g, fun c cs _ => by
                obtain ⟨v, w2, k1, k2⟩ := h c cs
                exact ⟨v, w2, hK _ _ k1, stepsIn_wide.2 k2⟩⟩
            | exact h.elim
        | halt x w' => cases x <;> simp only [Oper.upon] at h <;> simp only [Oper.uponIn] <;> first | exact h | exact h.elim
      · exact absurd h0 (hq _ _)
    · rename_i hw
      simp only [hw] at h
      exact ⟨fun _ _ => trivial, hK _ _ h⟩
theorem wpOps_ins {rd : Option Nat} {P : Program} {ops : Array Oper} {Q : Exit → Act → World → Prop} (hd : NoDef ops) (hq : ∀ a w, ¬ Q .outgrown a w) : ∀ (l : List Nat) (a : Act) (w : World), wpOps P ops Q l a w → wpOpsIn (FrR rd) 0 P ops Q l a w
  | [], a, w, h => h
  | i :: l, a, w, h => by
    rw [wpOps_cons] at h
    rw [wpOpsIn_cons]
    exact wpOps_in hd hq (wpOps_ins hd hq l) h
theorem wpAny_ins {rd : Option Nat} {P : Program} {ops : Array Oper} {md : Region.Mode} {Q : Exit → Act → World → Prop} (hd : NoDef ops) (hq : ∀ a w, ¬ Q .outgrown a w) : ∀ (fuel : Nat) (listed : Array Bool) (a : Act) (w : World), wpAny P md ops Q fuel listed a w → wpAnyIn (FrR rd) 0 P md ops Q fuel listed a w
  | 0, listed, a, w, h => h
  | fuel + 1, listed, a, w, h => ⟨h.1, fun i hi => wpOps_in hd hq (wpAny_ins hd hq fuel _) (h.2 i hi)⟩
theorem no_defer {ops : Array Oper} (his : ops.toList.mapM (C.ins ops) = some is) : NoDef ops := by
  intro i o ho c hc
  have hlen := mapM_length his
  have hi : i < is.length := by
    rw [← hlen]
    simpa using (Array.getElem?_eq_some_iff.1 ho).1
  obtain ⟨o', ho', hins⟩ := mapM_get his i is[i] (List.getElem?_eq_getElem hi)
  have e : ops.toList[i]? = some o := by simpa using ho
  rw [e] at ho'
  simp only [Option.some.injEq] at ho'
  subst ho'
  have := (ins_out hins).2.1
  rw [hc] at this
  simp [Cfg.op] at this
theorem draw_sound {rd : Option Nat} {B : Rx} {rid : Nat} {ops : Array Oper} {K : Env → Env → Mem → Nat → Prop} {pi : List Nat} {bf : Nat → Nat → Bool} {late kp : Bool} (hmix : C.P.follows .mixedOrders = true) (hpi : Perm C ops pi bf is) (hnd : NoDef ops) (hns : ∀ x ∈ is, Cfg.notSta x.i = true) (hok : Cfg.drawOk C.gs ops pi bf (Cfg.tell bf late kp is) = true) (h : run C nx K (Cfg.tell bf late kp is) 0 env [] mem (nx + is.length))
    {N : Nat} (hN : N ≤ nx) (hh : Here C B S φ env [] mem (nx + is.length) a w) (hfree : ∀ i, i < is.length → φ (nx + i) = none) : (Code.region rid ops true).wpIn (FrR rd) 0 C.P (Post C B N S φ mem w (fun e s => e = .normal ∧ K s.env s.tl s.mem s.nx)) a w := by
  have hlen : is.length = ops.size := hpi.len
  have ho := okd_of hok
  refine wpIn_region_any hmix (wpAny_ins hnd (fun a w ⟨_, _, _, h, _⟩ => by simp at h) _ _ _ _ ?_)
  obtain ⟨m1, m2, m3⟩ := MSim.of_heap (w := w) (w1 := { w with drawn := w.drawn + 1 }) rfl rfl rfl rfl hh.m
  have hk1 : Known C { w with drawn := w.drawn + 1 } S φ env [] a := ⟨fun j d hj hl => Rep.mono m2 _ _ (hh.known.env j d hj hl), fun j d hj hl => Rep.mono m2 _ _ (hh.known.tl j d hj hl)⟩
  have hf0 : ∀ i, doneP pi (Array.replicate ops.size false) i = false := by
    intro i
    unfold doneP
    simp only [Array.getD_eq_getD_getElem?, Array.getElem?_replicate]
    split <;> rfl
  have hK : Inv (fun e t m n => ∃ e2 t2 m2, Lk e e2 ∧ Lk t t2 ∧ Lk m m2 ∧ K e2 t2 m2 n) := fun e t m n e2 t2 m2 he ht hm ⟨e3, t3, m3, h1, h2, h3, h4⟩ => ⟨e3, t3, m3, he.symm.trans h1, ht.symm.trans h2, hm.symm.trans h3, h4⟩
  have hr := run_runL (K := fun e t m n => ∃ e2 t2 m2, Lk e e2 ∧ Lk t t2 ∧ Lk m m2 ∧ K e2 t2 m2 n) (Cfg.tell bf late kp is) 0 env [] mem (nx + is.length) (run_mono (fun e t m n h => ⟨e, t, m, Lk.refl _, Lk.refl _, Lk.refl _, h⟩) (Cfg.tell bf late kp is) 0 _ _ _ _ h)
  rw [← todo_zip (Cfg.tell bf late kp is) (Cfg.tell bf late kp is) 0 (doneP pi (Array.replicate ops.size false)) (fun i => by simp) hf0, tell_length, hlen] at hr
  refine any_run hK hN hpi hns ho (fun env tl mem nx S φ a w ⟨e2, t2, m2, h1, h2, h3, h4⟩ hh hx hg => ?_) ops.size (Array.replicate ops.size false) env [] mem (nx + ops.size) S φ a _ (by simp) ?_ ?_ hr Rooted_nil ⟨hk1, hh.size, ⟨hh.defers.nd, hh.defers.marks, hh.defers.rd⟩, by rw [← hlen]; exact m1⟩ m3 (Grow.refl (by omega)) (fun i hi _ => hfree i (by omega)) (Nat.le_refl _)
  · unfold unl
    exact Nat.le_trans (List.length_filter_le _ _) (by simp)
  · intro i o _ hi
    have : (Array.replicate ops.size false).getD i false = false := by
      simp only [Array.getD_eq_getD_getElem?, Array.getElem?_replicate]
      split <;> rfl
    rw [this] at hi; simp at hi
  · exact ⟨⟨e2, t2, m2, nx⟩, S, φ, ⟨rfl, h4⟩, ⟨hh.size, hh.defers, fun j d hj hl => hh.known.env j d hj (by rw [h1]; exact hl), fun j d hj hl => hh.known.tl j d hj (by rw [h2]; exact hl), MSim_lk h3 hh.m⟩,
      ⟨hx.sub, hx.keep, hx.size, fun b hb ⟨i, blk, l, g1, g2⟩ => hx.own b hb ⟨i, blk, l, by rw [h3]; exact g1, g2⟩, hx.news, hx.os, hx.output, hx.tape⟩, hg⟩
theorem range_getD {n p : Nat} (h : p < n) : (List.range n).getD p 0 = p := by simp [List.getD_eq_getElem?_getD, h]
/-- The text's own order. -/
theorem Perm.text {ops : Array Oper} (his : ops.toList.mapM (C.ins ops) = some is) : Perm C ops (List.range is.length) (fun q p => ((Region.before ops).getD q 0).testBit p) is := by
  have hlen : is.length = ops.size := by rw [← mapM_length his]; simp
  rw [hlen]
  refine ⟨hlen, fun p x hx => ?_, fun p q hp hq h => ?_, fun i hi => ⟨i, hi, range_getD hi⟩, fun p q hp hq h => ?_⟩
  · have hp : p < ops.size := by
      rw [← hlen]; exact (List.getElem?_eq_some_iff.1 hx).1
    obtain ⟨o, ho, hins⟩ := mapM_get his p x hx
    rw [range_getD hp]
    exact ⟨o, by simpa using ho, hins⟩
  · rwa [range_getD hp, range_getD hq] at h
  · rw [range_getD hp, range_getD hq]; exact h
/-- Numbers below n that part: all of them. -/
theorem all_of_inj : ∀ (n : Nat) (f : Nat → Nat), (∀ p, p < n → f p < n) → (∀ p q, p < n → q < n → f p = f q → p = q) → ∀ i, i < n → ∃ p, p < n ∧ f p = i
  | 0, _, _, _, i, hi => absurd hi (by omega)
  | n + 1, f, hb, hinj, i, hi => by
    -- the last one's place is filled by n
    let g : Nat → Nat := fun p => if f p = n then f n else f p
    have hg : ∀ p, p < n → g p < n := fun p hp => by
      have h1 := hb p (by omega)
      have h2 := hb n (by omega)
      by_cases e : f p = n
      · have : f n ≠ n := fun h => by have := hinj p n (by omega) (by omega) (by omega); omega
        simp only [g, if_pos e]; omega
      · simp only [g, if_neg e]; omega
    have hgi : ∀ p q, p < n → q < n → g p = g q → p = q := fun p q hp hq h => by
      by_cases e1 : f p = n <;> by_cases e2 : f q = n
      · exact hinj p q (by omega) (by omega) (by omega)
      · simp only [g, if_pos e1, if_neg e2] at h
        have := hinj n q (by omega) (by omega) h; omega
      · simp only [g, if_neg e1, if_pos e2] at h
        have := hinj p n (by omega) (by omega) h; omega
      · simp only [g, if_neg e1, if_neg e2] at h
        exact hinj p q (by omega) (by omega) h
    have ih := all_of_inj n g hg hgi
    by_cases hin : i = n
    · by_cases e : f n = n
      · exact ⟨n, by omega, by omega⟩
      · obtain ⟨p, hp, hgp⟩ := ih (f n) (by have := hb n (by omega); omega)
        by_cases e2 : f p = n
        · exact ⟨p, by omega, by omega⟩
        · simp only [g, if_neg e2] at hgp
          have := hinj p n (by omega) (by omega) hgp; omega
    · obtain ⟨p, hp, hgp⟩ := ih i (by omega)
      by_cases e2 : f p = n
      · simp only [g, if_pos e2] at hgp
        exact ⟨n, by omega, hgp⟩
      · simp only [g, if_neg e2] at hgp
        exact ⟨p, by omega, hgp⟩
/-- Another order. -/
theorem Perm.of {ops : Array Oper} {pi : List Nat} {js : List Ins} (his : ops.toList.mapM (C.ins ops) = some is) (hjs : pi.mapM (is[·]?) = some js) (hl : is.length = pi.length) (hne : ∀ p q, p < q → q < pi.length → pi.getD p 0 ≠ pi.getD q 0) :
    Perm C ops pi (fun q p => ((Region.before ops).getD (pi.getD q 0) 0).testBit (pi.getD p 0)) js := by
  have hlen : is.length = ops.size := by rw [← mapM_length his]; simp
  have hjl : js.length = ops.size := by rw [← mapM_length hjs, ← hl, hlen]
  have hget : ∀ p x, js[p]? = some x → is[pi.getD p 0]? = some x := fun p x hx => by
    obtain ⟨i, hi, h⟩ := mapM_get hjs p x hx
    rw [List.getD_eq_getElem?_getD, hi]; exact h
  have hb : ∀ p, p < ops.size → pi.getD p 0 < ops.size := fun p hp => by
    obtain ⟨x, hx⟩ : ∃ x, js[p]? = some x := ⟨_, List.getElem?_eq_getElem (by omega)⟩
    have := (List.getElem?_eq_some_iff.1 (hget p x hx)).1
    omega
  have hinj : ∀ p q, p < ops.size → q < ops.size → pi.getD p 0 = pi.getD q 0 → p = q := fun p q hp hq h => by
    rcases Nat.lt_trichotomy p q with h1 | h1 | h1
    · exact absurd h (hne p q h1 (by omega))
    · exact h1
    · exact absurd h.symm (hne q p h1 (by omega))
  refine ⟨hjl, fun p x hx => ?_, hinj, all_of_inj _ _ hb hinj, fun p q _ _ h => h⟩
  obtain ⟨o, ho, hins⟩ := mapM_get his _ x (hget p x hx)
  exact ⟨o, by simpa using ho, hins⟩
/-- What 'drawI' takes. -/
theorem draw_out {ops : Array Oper} {js : List Ins} (his : ops.toList.mapM (C.ins ops) = some is) (h : C.drawI ops is = some js) : ∃ pi bf late kp js0, js = Cfg.tell bf late kp js0 ∧ js0.length = is.length ∧ Perm C ops pi bf js0 ∧ Cfg.drawOk C.gs ops pi bf (Cfg.tell bf late kp js0) = true ∧ C.P.follows .mixedOrders = true ∧ ∀ x ∈ js0, Cfg.notSta x.i = true := by
  unfold Cfg.drawI at h
  simp only at h
  split at h
  · rename_i hm
    simp only [Bool.and_eq_true, List.all_eq_true] at hm
    split at h
    · rename_i hd
      simp only [Option.some.injEq] at h
      exact ⟨_, _, _, _, is, h.symm, rfl, Perm.text his, hd, hm.1, hm.2⟩
    · split at h
      · rename_i js0 hjs
        split at h
        · rename_i hd
          simp only [Option.some.injEq] at h
          simp only [Bool.and_eq_true, beq_iff_eq] at hd
          have hl : js0.length = is.length := by rw [← mapM_length hjs]; exact hd.1.symm
          refine ⟨_, _, _, _, js0, h.symm, hl, Perm.of his hjs hd.1 (fun p q hpq hq => ?_), hd.2, hm.1, fun x hx => ?_⟩
          · have ho := okd_of hd.2
            have hpl : p < js0.length := by omega
            have hql : q < js0.length := by omega
            exact (ho.apart p q _ _ hpq (List.getElem?_eq_getElem (by rw [tell_length]; exact hpl)) (List.getElem?_eq_getElem (by rw [tell_length]; exact hql))).1
          · obtain ⟨i, hi⟩ := List.getElem?_of_mem hx
            obtain ⟨k, hk, h2⟩ := mapM_get hjs i x hi
            exact hm.2 x (List.mem_of_getElem? h2)
        · simp at h
      · simp at h
  · simp at h
end
end Go.Fx

/-
  A region's operations in their order.
-/
import Derived.Test.YtaiklblnfebdfaaX12
set_option linter.all false
namespace Go.Fx
open Go
section
variable {C : Cfg} {w w' : World} {S S' : Nat → Prop} {φ φ' : Locs} {a : Act} {env tl : Env} {mem : Mem} {nx id : Nat}

theorem getD_set_ne {t j : Nat} (x : Value) (h : j ≠ t) : (a.tmps.setIfInBounds t x).getD j undef = a.tmps.getD j undef := by
  simp only [Array.getD_eq_getD_getElem?, Array.getElem?_setIfInBounds]
  rw [if_neg (Ne.symm h)]

theorem getD_set_eq {t : Nat} (x : Value) (h : t < a.tmps.size) : (a.tmps.setIfInBounds t x).getD t undef = x := by
  simp only [Array.getD_eq_getD_getElem?, Array.getElem?_setIfInBounds]
  simp [h]

/-- A result is laid down. -/
theorem known_put {o : Oper} {d : Dst} {v : D} {x : Value} {go : Env → Env → Mem → Nat → Prop} (hd : C.dst o.dst = some d) (hk : Known C w S φ env tl a) (hsz : a.tmps.size = C.n) (hdf : a.defers = []) (hst : Stays w S φ w' S' φ') (hv : Rep w' S' φ' v x)
    (hK : nextK d env tl go v mem nx) : ∃ env' tl', go env' tl' mem nx ∧ Known C w' S' φ' env' tl' (a.put o.dst x) ∧ (a.put o.dst x).tmps.size = C.n ∧ (a.put o.dst x).defers = [] := by
  have hk' : Known C w' S' φ' env tl a := ⟨fun j d hj hl => Rep.mono hst _ _ (hk.env j d hj hl), fun j d hj hl => Rep.mono hst _ _ (hk.tl j d hj hl)⟩
  cases ho : o.dst with
  | none =>
    rw [ho] at hd
    simp only [Cfg.dst, Option.some.injEq] at hd; subst hd
    exact ⟨env, tl, hK, hk', hsz, hdf⟩
  | some t =>
    rw [ho] at hd
    simp only [Cfg.dst] at hd
    have hlt : t < C.n := by
      by_cases h : t < C.n
      · exact h
      · simp [h] at hd
    simp only [hlt, if_true, Option.some.injEq] at hd
    have hts : t < a.tmps.size := by rw [hsz]; exact hlt
    by_cases ht : t ∈ C.gs
    · have hc : C.gs.contains t = true := by simpa using ht
      simp only [hc, if_true] at hd; subst hd
      refine ⟨upd env t v, tl, hK, ⟨fun j d hj hl => ?_, fun j d hj hl => ?_⟩, by simp [Act.put, hsz], hdf⟩
      · rcases look_upd t v env j d hl with ⟨rfl, rfl⟩ | ⟨hne, hl⟩
        · simp only [Act.put]; rw [getD_set_eq x hts]; exact hv
        · simp only [Act.put]; rw [getD_set_ne x hne]; exact hk'.env j d hj hl
      · have hne : j ≠ t := by rintro rfl; exact hj ht
        simp only [Act.put]; rw [getD_set_ne x hne]; exact hk'.tl j d hj hl
    · have hc : C.gs.contains t = false := by simpa using ht
      simp only [hc, Bool.false_eq_true, if_false] at hd; subst hd
      refine ⟨env, (t, v) :: tl, hK, ⟨fun j d hj hl => ?_, fun j d hj hl => ?_⟩, by simp [Act.put, hsz], hdf⟩
      · have hne : j ≠ t := by rintro rfl; exact ht hj
        simp only [Act.put]; rw [getD_set_ne x hne]; exact hk'.env j d hj hl
      · simp only [look] at hl
        by_cases e : t = j
        · simp only [e, if_true, Option.some.injEq] at hl; subst hl; subst e
          simp only [Act.put]; rw [getD_set_eq x hts]; exact hv
        · simp only [e, if_false] at hl
          simp only [Act.put]; rw [getD_set_ne x (Ne.symm e)]; exact hk'.tl j d hj hl

/-- A guard's truth value is known. -/
theorem known_set {t : Nat} {b : Bool} (hk : Known C w S φ env tl a) (h : a.tmps.getD t undef = .bool b) :
    Known C w S φ (setE b env (if C.gs.contains t then .g t else .t t)) (setT b tl (if C.gs.contains t then .g t else .t t)) a := by
  by_cases ht : C.gs.contains t = true
  · simp only [ht, if_true, setE, setT]
    refine ⟨fun j d hj hl => ?_, hk.tl⟩
    rcases look_upd t _ env j d hl with ⟨rfl, rfl⟩ | ⟨hne, hl⟩
    · rw [h]; simp [Rep]
    · exact hk.env j d hj hl
  · simp only [ht, setE, setT]
    refine ⟨hk.env, fun j d hj hl => ?_⟩
    rcases look_upd t _ tl j d hl with ⟨rfl, rfl⟩ | ⟨hne, hl⟩
    · rw [h]; simp [Rep]
    · exact hk.tl j d hj hl

theorem opd_tmp (t : Nat) : C.opd (.tmp t) = some (if C.gs.contains t then .g t else .t t) := rfl

theorem ins_out {ops : Array Oper} {o : Oper} {x : Ins} (h : C.ins ops o = some x) : C.dst o.dst = some x.dst ∧ C.op (C.owned o.dst) o.op = some x.i ∧
    ((o.guard = none ∧ x.guard = none) ∨ ∃ j want t, o.guard = some (j, want) ∧ (ops[j]?).bind (·.dst) = some t ∧ x.guard = some (if C.gs.contains t then .g t else .t t, want)) := by
  unfold Cfg.ins at h
  split at h
  · rename_i d g i hd hg hi
    simp only [Option.some.injEq] at h; subst h
    refine ⟨hd, hi, ?_⟩
    cases hgo : o.guard with
    | none =>
      rw [hgo] at hg
      simp only [Cfg.guardO, Option.some.injEq] at hg; subst hg
      exact .inl ⟨rfl, rfl⟩
    | some p =>
      obtain ⟨j, want⟩ := p
      rw [hgo] at hg
      simp only [Cfg.guardO] at hg
      split at hg
      · rename_i t ht
        simp only [Option.some.injEq] at hg; subst hg
        exact .inr ⟨j, want, t, rfl, ht, rfl⟩
      · simp at hg
  · simp at h

/-- Of one operation of a region: what its condition says, and the next ones. -/
def One (C : Cfg) (base : Nat) (x : Ins) (j : Nat) (env tl : Env) (mem : Mem) (nx : Nat) (go : Env → Env → Mem → Nat → Prop) : Prop :=
  match x with
  | ⟨d, none, i⟩ => stepI C (base + j) i env tl mem nx (nextK d env tl go)
  | ⟨d, some (g, want), i⟩ => gd C (ro tl env g) g want d (base + j) i env tl mem nx go

theorem run_one {base j : Nat} {K : Env → Env → Mem → Nat → Prop} {x : Ins} {r : List Ins} : run C base K (x :: r) j env tl mem nx = One C base x j env tl mem nx (run C base K r (j + 1)) := by
  obtain ⟨d, g, i⟩ := x
  cases g with
  | none => rfl
  | some p => obtain ⟨g, want⟩ := p; rfl

/-- The state behind one operation. -/
structure Here (C : Cfg) (S : Nat → Prop) (φ : Locs) (env tl : Env) (mem : Mem) (nx : Nat) (a : Act) (w : World) : Prop where
  known : Known C w S φ env tl a
  size : a.tmps.size = C.n
  defers : a.defers = []
  m : MSim S φ mem nx w

theorem one_sound {ops : Array Oper} {o : Oper} {x : Ins} {base j k : Nat} {go : Env → Env → Mem → Nat → Prop} (hj : ops[j]? = some o) (hx : C.ins ops o = some x) (h : One C base x j env tl mem nx go) (hh : Here C S φ env tl mem nx a w)
    (hfree : φ (base + j) = none) (hlt : base + j < nx) {Q : Exit → Act → World → Prop} :
    wpOp C.P ops Q j (fun a' w' => ∃ S' φ' env' tl' mem' nx', go env' tl' mem' nx' ∧ Here C S' φ' env' tl' mem' nx' a' w' ∧ Stays w S φ w' S' φ' ∧ Ext S φ mem w S' φ' mem' w' ∧ nx ≤ nx' ∧ ∀ i, i ≠ base + j → i < nx → φ i = none → φ' i = none) a w := by
  obtain ⟨hd, hi, hg⟩ := ins_out hx
  have step : ∀ (env tl : Env), Known C w S φ env tl a → stepI C (base + j) x.i env tl mem nx (nextK x.dst env tl go) →
      o.wp C.P a w (fun a' w' => ∃ S' φ' env' tl' mem' nx', go env' tl' mem' nx' ∧ Here C S' φ' env' tl' mem' nx' a' w' ∧ Stays w S φ w' S' φ' ∧ Ext S φ mem w S' φ' mem' w' ∧ nx ≤ nx' ∧ ∀ i, i ≠ base + j → i < nx → φ i = none → φ' i = none) Q := by
    intro env tl hk hs
    refine Oper.wp_monoQ ?_ (fun _ _ _ h => h.elim) (step_sound hi hs hk hh.m hfree hlt)
    rintro a' w' ⟨r, rfl, v, mem', nx', S', φ', h1, h2, h3, h4, h5, h6, h7⟩
    obtain ⟨env', tl', g1, g2, g3, g4⟩ := known_put hd hk hh.size hh.defers h5 h3 h1
    exact ⟨S', φ', env', tl', mem', nx', g1, ⟨g2, g3, g4, h4⟩, h5, h6, h2, h7⟩
  unfold wpOp
  simp only [hj]
  rcases hg with ⟨hg, hxg⟩ | ⟨jj, want, t, hg, ht, hxg⟩
  · have hw : Region.wanted o (yielded ops a.tmps) = true := by simp [Region.wanted, hg]
    simp only [hw, if_true]
    left
    obtain ⟨d, g, i⟩ := x
    simp only at hxg; subst hxg
    exact step env tl hh.known h
  · obtain ⟨d, g, i⟩ := x
    simp only at hxg; subst hxg
    simp only [One, gd] at h
    split at h
    · rename_i b hro
      have hb := ro_sound hh.known (opd_tmp t) hro
      simp only [Rep, Act.eval] at hb
      have hy : yielded ops a.tmps jj = some b := by
        unfold yielded
        rw [ht]
        simp only [Option.bind_some]
        cases hq : a.tmps[t]? with
        | none => simp [Array.getD_eq_getD_getElem?, hq, undef] at hb
        | some u =>
          simp only [Array.getD_eq_getD_getElem?, hq, Option.getD_some] at hb
          subst hb; rfl
      by_cases hbw : b = want
      · subst hbw
        have hw : Region.wanted o (yielded ops a.tmps) = true := by simp [Region.wanted, hg, hy]
        simp only [hw, if_true]
        left
        exact step _ _ (known_set hh.known hb) (h.1 rfl)
      · have hw : Region.wanted o (yielded ops a.tmps) = false := by
          simp only [Region.wanted, hg, hy]
          simp [hbw]
        simp only [hw, Bool.false_eq_true, if_false]
        have hbn : b = !want := by cases b <;> cases want <;> simp_all
        have h2 := h.2 hbn
        rw [← hbn] at h2
        obtain ⟨env', tl', g1, g2, g3, g4⟩ := known_put (x := undef) hd (known_set hh.known hb) hh.size hh.defers (Stays.refl w S φ) (by simp [Rep]) h2
        exact ⟨S, φ, env', tl', mem, nx, g1, ⟨g2, g3, g4, hh.m⟩, Stays.refl .., Ext.refl .., Nat.le_refl _, fun _ _ _ h => h⟩
    · rename_i vs hro
      have hb := ro_sound hh.known (opd_tmp t) hro
      simp only [Rep, Act.eval] at hb
      have hy : yielded ops a.tmps jj = none := by
        unfold yielded
        rw [ht]
        simp only [Option.bind_some]
        cases hq : a.tmps[t]? with
        | none => rfl
        | some u =>
          simp only [Array.getD_eq_getD_getElem?, hq, Option.getD_some] at hb
          subst hb; rfl
      have hw : Region.wanted o (yielded ops a.tmps) = false := by
        simp only [Region.wanted, hg, hy]
        rfl
      simp only [hw, Bool.false_eq_true, if_false]
      obtain ⟨env', tl', g1, g2, g3, g4⟩ := known_put (x := undef) hd hh.known hh.size hh.defers (Stays.refl w S φ) (by simp [Rep]) h
      exact ⟨S, φ, env', tl', mem, nx, g1, ⟨g2, g3, g4, hh.m⟩, Stays.refl .., Ext.refl .., Nat.le_refl _, fun _ _ _ h => h⟩
    · exact h.elim

theorem wpOp_monoQ {P : Program} {ops : Array Oper} {Q Q' : Exit → Act → World → Prop} {j : Nat} {K K' : Act → World → Prop} (hK : ∀ a w, K a w → K' a w) (hq : ∀ e a w, Q e a w → Q' e a w) (h : wpOp P ops Q j K a w) : wpOp P ops Q' j K' a w := by
  unfold wpOp at h ⊢
  cases ho : ops[j]? with
  | none => simp only [ho] at h ⊢; exact hK _ _ h
  | some o =>
    simp only [ho] at h ⊢
    split
    · rename_i hw
      simp only [hw, if_true] at h
      rcases h with h | ⟨h1, a0, w0, h0⟩
      · exact .inl (Oper.wp_monoQ hK hq h)
      · exact .inr ⟨h1, a0, w0, hq _ _ _ h0⟩
    · rename_i hw
      simp only [hw] at h
      exact hK _ _ h

theorem run_sound {ops : Array Oper} {base N : Nat} (hN : N ≤ base) {K : Env → Env → Mem → Nat → Prop} : ∀ (rest : List Oper) (is : List Ins) (j : Nat) (env tl : Env) (mem : Mem) (nx : Nat) (S : Nat → Prop) (φ : Locs) (a : Act) (w : World),
    (∀ i, ops[j + i]? = rest[i]?) → rest.mapM (C.ins ops) = some is → run C base K is j env tl mem nx → Here C S φ env tl mem nx a w → (∀ i, j ≤ i → i < j + rest.length → φ (base + i) = none) → base + j + rest.length ≤ nx →
    wpOps C.P ops (Post C N S φ mem w (fun e s => e = .normal ∧ K s.env s.tl s.mem s.nx)) (List.range' j rest.length) a w
  | [], is, j, env, tl, mem, nx, S, φ, a, w, _, hm, hr, hh, _, hn => by
    simp only [List.mapM_nil, Option.pure_def, Option.some.injEq] at hm; subst hm
    exact ⟨⟨env, tl, mem, nx⟩, S, φ, ⟨rfl, hr⟩, ⟨hh.size, hh.defers, hh.known.env, hh.known.tl, hh.m⟩, Ext.refl .., Grow.refl (by simp only at hn ⊢; omega)⟩
  | o :: rest, is, j, env, tl, mem, nx, S, φ, a, w, ho, hm, hr, hh, hf, hn => by
    simp only [List.mapM_cons, Option.bind_eq_bind, Option.bind_eq_some_iff, Option.pure_def, Option.some.injEq] at hm
    obtain ⟨x, hx, is', his, rfl⟩ := hm
    rw [run_one] at hr
    have hj : ops[j]? = some o := by have := ho 0; simpa using this
    simp only [List.length_cons] at hf hn ⊢
    rw [List.range'_succ, wpOps_cons]
    refine wpOp_mono ?_ (one_sound (k := 0) hj hx hr hh (hf j (Nat.le_refl _) (by omega)) (by omega))
    rintro a' w' ⟨S', φ', env', tl', mem', nx', h1, h2, h3, h4, h5, h6⟩
    refine wpOps_mono (fun e a w hp => hp.trans h4 (n1 := nx') ⟨by omega, fun i hi hnn => h6 i (by omega) (by omega) hnn, h3.loc⟩) _ _ _ (run_sound hN rest is' (j + 1) env' tl' mem' nx' S' φ' a' w' (fun i => ?_) his h1 h2 (fun i hi hi2 => ?_) (by omega))
    · have := ho (i + 1)
      rw [show j + (i + 1) = j + 1 + i by omega] at this
      simpa using this
    · exact h6 _ (by omega) (by omega) (hf i (by omega) (by omega))
end
end Go.Fx

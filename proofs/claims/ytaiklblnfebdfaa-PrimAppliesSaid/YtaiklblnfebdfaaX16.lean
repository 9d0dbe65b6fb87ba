/-
  Contracts of whole functions.
-/
import Derived.Test.YtaiklblnfebdfaaX15
set_option linter.all false
namespace Go.Fx
open Go

inductive RV where
  | t (j : Nat)
  | c (j : Nat) (g : Bool) (n : Nat)

def Cfg.rv (C : Cfg) : ResultVar → Option RV
  | .tmp t => if C.gs.contains t then some (.t t) else none
  | .cell t ty => if C.gs.contains t then (match Program.tsz C.P ty with
    | some (g, n) => some (.c t g n)
    | none => none) else none

def resV (env : Env) (mem : Mem) : RV → Option D
  | .t j => look env j
  | .c j g n => match look env j with
    | some x => ldD mem g n x
    | none => none

def resL (env : Env) (mem : Mem) : List RV → Option (List D)
  | [] => some []
  | r :: rs => match resV env mem r, resL env mem rs with
    | some d, some ds => some (d :: ds)
    | _, _ => none

mutual
/-- What is handed back: owned blocks are only read from then on. -/
def frz (mem : Mem) : Nat → D → Option D
  | 0, _ => none
  | _ + 1, .top => some .top
  | _ + 1, .zs => some (.sl [])
  | _ + 1, .pl v => match v with
    | .slice none 0 0 => some (.sl [])
    | v => some (.pl v)
  | _ + 1, .sl es => if D.immss es then some (.sl es) else none
  | _ + 1, .pt cs => if D.imms cs then some (.pt cs) else none
  | n + 1, .opt id off => match look mem id with
    | some (.box cs) => match frzs mem n (cs.drop off) with
      | some ds => some (.pt ds)
      | none => none
    | _ => none
  | _ + 1, .osl id ver lo m => match look mem id with
    | some (.arr v _ es) => if v = ver ∧ lo + m ≤ es.length ∧ D.immss es = true then some (.sl ((es.drop lo).take m)) else none
    | _ => none
  | _ + 1, .oel _ _ _ _ => none
  | _ + 1, .omap _ => none
  | _ + 1, .fn f cs => if D.imms cs then some (.fn f cs) else none
  | n + 1, .agg cs => match frzs mem n cs with
    | some ds => some (.agg ds)
    | none => none
  | n + 1, .tup cs => match frzs mem n cs with
    | some ds => some (.tup ds)
    | none => none
def frzs (mem : Mem) : Nat → List D → Option (List D)
  | 0, _ => none
  | _ + 1, [] => some []
  | n + 1, d :: ds => match frz mem n d, frzs mem n ds with
    | some d, some ds => some (d :: ds)
    | _, _ => none
end

def tupOf : List D → D
  | [d] => d
  | ds => .tup ds

def fin (rs : List RV) (env : Env) (mem : Mem) : Option D :=
  match resL env mem rs with
  | some ds => frz mem 100 (tupOf ds)
  | none => none

def RetQ (rs : List RV) (res : D) : Exit → St → Prop
  | .normal, s => fin rs s.env s.mem = some res
  | .ret, s => fin rs s.env s.mem = some res
  | _, _ => False

def env0 (gs : List Nat) (args : List D) : Env := gs.map fun j => (j, (args[j]?).getD (.pl undef))

section
variable {C : Cfg} {w w' : World} {S S' : Nat → Prop} {φ φ' : Locs} {a : Act} {env tl : Env} {mem : Mem} {nx id : Nat}

def SF (S : Nat → Prop) (φ : Locs) (mem : Mem) (b : Nat) : Prop := S b ∨ Own φ mem b

theorem stays_SF : Stays w S φ w (SF S φ mem) φ := Stays.of_heap (fun _ h => .inl h) (fun _ _ => rfl) (fun _ _ h => h)

theorem imm_SF {d : D} {x : Value} (hi : D.imm d = true) (h : Rep w S φ d x) : Rep w (SF S φ mem) noLocs d x :=
  Rep_imm d x hi (Rep.mono stays_SF d x h)

mutual
theorem frz_sound (hm : MSim S φ mem nx w) : ∀ (n : Nat) (d d' : D) (x : Value), frz mem n d = some d' → Rep w S φ d x → Rep w (SF S φ mem) noLocs d' x
  | 0, d, d', x, h, _ => by simp [frz] at h
  | n + 1, .top, d', x, h, _ => by simp only [frz, Option.some.injEq] at h; subst h; simp [Rep]
  | n + 1, .zs, d', x, h, hr => by
    simp only [frz, Option.some.injEq] at h; subst h
    simp only [Rep] at hr ⊢
    exact .inl ⟨trivial, hr⟩
  | n + 1, .pl v, d', x, h, hr => by
    simp only [Rep] at hr; subst hr
    simp only [frz] at h
    split at h
    · simp only [Option.some.injEq] at h; subst h; simp [Rep, Zs]
    · simp only [Option.some.injEq] at h; subst h; simp [Rep]
  | n + 1, .sl es, d', x, h, hr => by
    simp only [frz, Option.ite_none_right_eq_some, Option.some.injEq] at h
    obtain ⟨hi, rfl⟩ := h
    exact imm_SF (by simpa [D.imm] using hi) hr
  | n + 1, .pt cs, d', x, h, hr => by
    simp only [frz, Option.ite_none_right_eq_some, Option.some.injEq] at h
    obtain ⟨hi, rfl⟩ := h
    exact imm_SF (by simpa [D.imm] using hi) hr
  | n + 1, .opt i off, d', x, h, hr => by
    simp only [frz] at h
    split at h
    · rename_i cs hl
      split at h
      · rename_i ds hds
        simp only [Option.some.injEq] at h; subst h
        obtain ⟨l, hφ, _, hb⟩ := hm.mem i _ hl
        simp only [Rep] at hr
        obtain ⟨l', hφ', _, rfl⟩ := hr
        rw [hφ] at hφ'; simp only [Option.some.injEq] at hφ'; subst hφ'
        simp only [BRep] at hb
        obtain ⟨hrl, _, h0, _, hc⟩ := hb
        simp only [Rep]
        refine ⟨l.b, l.base + off, rfl, .inr ⟨i, _, l, hl, hφ, hrl, rfl⟩, ?_⟩
        rw [h0]
        exact frzc_sound hm n (cs.drop off) ds l.b (0 + off) hds (RepCs_drop off cs l.b 0 hc)
      · simp at h
    · simp at h
  | n + 1, .osl i ver lo m, d', x, h, hr => by
    simp only [frz] at h
    split at h
    · rename_i v k es hl
      simp only [Option.ite_none_right_eq_some, Option.some.injEq] at h
      obtain ⟨⟨hv, hle, hi⟩, rfl⟩ := h
      obtain ⟨l, hφ, _, hb⟩ := hm.mem i _ hl
      simp only [Rep] at hr
      obtain ⟨l', hφ', _, _, hx⟩ := hr
      rw [hφ] at hφ'; simp only [Option.some.injEq] at hφ'; subst hφ'
      simp only [BRep] at hb
      obtain ⟨_, hver, hk, hb⟩ := hb
      have hlen : ((es.drop lo).take m).length = m := by simp; omega
      rcases hx (by omega) with ⟨r1, rfl, rfl, hz⟩ | ⟨r1, cap, rfl, c1, c2⟩
      · simp only [List.take_zero, Rep]
        exact .inl ⟨trivial, hz⟩
      · rcases hb with hb | ⟨_, _, _, hes⟩
        · simp [hb.1] at r1
        · simp only [Rep]
          right
          refine ⟨l.b, l.base + lo * l.k, cap, k, by rw [hlen], by rw [hlen]; exact c1, .inr ⟨i, _, l, hl, hφ, r1, rfl⟩, ?_⟩
          have himm : D.immss ((es.drop lo).take m) = true := immss_sub hi fun e he => List.mem_of_mem_drop (List.mem_of_mem_take he)
          rw [hk]
          exact RepEs_imm _ _ _ _ himm (RepEs.mono stays_SF _ _ _ _ (fun _ => rfl) (RepEs_take m _ _ _ _ (RepEs_drop lo _ _ _ _ hes)))
    · simp at h
  | n + 1, .oel _ _ _ _, d', x, h, hr => by simp [frz] at h
  | n + 1, .omap _, d', x, h, hr => by simp [frz] at h
  | n + 1, .fn f cs, d', x, h, hr => by
    simp only [frz, Option.ite_none_right_eq_some, Option.some.injEq] at h
    obtain ⟨hi, rfl⟩ := h
    exact imm_SF (by simpa [D.imm] using hi) hr
  | n + 1, .agg cs, d', x, h, hr => by
    simp only [frz] at h
    split at h
    · rename_i ds hds
      simp only [Option.some.injEq] at h; subst h
      simp only [Rep] at hr ⊢
      obtain ⟨vs, rfl, hv⟩ := hr
      exact ⟨vs, rfl, frzs_sound hm n cs ds _ hds hv⟩
    · simp at h
  | n + 1, .tup cs, d', x, h, hr => by
    simp only [frz] at h
    split at h
    · rename_i ds hds
      simp only [Option.some.injEq] at h; subst h
      simp only [Rep] at hr ⊢
      obtain ⟨vs, rfl, hv⟩ := hr
      exact ⟨vs, rfl, frzs_sound hm n cs ds _ hds hv⟩
    · simp at h
theorem frzs_sound (hm : MSim S φ mem nx w) : ∀ (n : Nat) (ds ds' : List D) (xs : List Value), frzs mem n ds = some ds' → RepVs w S φ ds xs → RepVs w (SF S φ mem) noLocs ds' xs
  | 0, ds, ds', xs, h, _ => by simp [frzs] at h
  | n + 1, [], ds', xs, h, hr => by
    simp only [frzs, Option.some.injEq] at h; subst h
    simpa [RepVs] using hr
  | n + 1, d :: ds, ds', xs, h, hr => by
    simp only [frzs] at h
    split at h
    · rename_i d1 ds1 h1 h2
      simp only [Option.some.injEq] at h; subst h
      simp only [RepVs] at hr ⊢
      obtain ⟨x, r, rfl, g1, g2⟩ := hr
      exact ⟨x, r, rfl, frz_sound hm n d d1 x h1 g1, frzs_sound hm n ds ds1 r h2 g2⟩
    · simp at h
theorem frzc_sound (hm : MSim S φ mem nx w) : ∀ (n : Nat) (ds ds' : List D) (b o : Nat), frzs mem n ds = some ds' → RepCs w S φ ds b o → RepCs w (SF S φ mem) noLocs ds' b o
  | 0, ds, ds', b, o, h, _ => by simp [frzs] at h
  | n + 1, [], ds', b, o, h, hr => by
    simp only [frzs, Option.some.injEq] at h; subst h
    simp [RepCs]
  | n + 1, d :: ds, ds', b, o, h, hr => by
    simp only [frzs] at h
    split at h
    · rename_i d1 ds1 h1 h2
      simp only [Option.some.injEq] at h; subst h
      simp only [RepCs] at hr ⊢
      obtain ⟨⟨x, hx, g1⟩, g2⟩ := hr
      exact ⟨⟨x, hx, frz_sound hm n d d1 x h1 g1⟩, frzc_sound hm n ds ds1 b (o + 1) h2 g2⟩
    · simp at h
theorem immss_sub : ∀ {es : List (List D)} {fs : List (List D)}, D.immss es = true → (∀ e ∈ fs, e ∈ es) → D.immss fs = true
  | es, [], _, _ => rfl
  | es, f :: fs, h, hs => by
    simp only [D.immss, Bool.and_eq_true]
    refine ⟨?_, immss_sub h fun e he => hs e (by simp [he])⟩
    have : ∀ (es : List (List D)), D.immss es = true → ∀ e ∈ es, D.imms e = true := by
      intro es
      induction es with
      | nil => intro _ e he; simp at he
      | cons a es ih =>
        intro h e he
        simp only [D.immss, Bool.and_eq_true] at h
        rcases List.mem_cons.1 he with rfl | he
        · exact h.1
        · exact ih h.2 e he
    exact this es h f (hs f (by simp))
end

def resAct (a : Act) : ResultVar → Sem Value
  | .tmp t => Pure.pure (a.tmps.getD t undef)
  | .cell t ty => do loadVar ty (← asAddr (a.tmps.getD t undef))

theorem resV_sound {r : ResultVar} {x : RV} {d : D} (hr : C.rv r = some x) (h : resV env mem x = some d) (hk : Known C w S φ env tl a) (hm : MSim S φ mem nx w) :
    ∃ v, Rep w S φ d v ∧ (resAct a r).run C.P w = .ok v w := by
  cases r with
  | tmp t =>
    simp only [Cfg.rv, Option.ite_none_right_eq_some, Option.some.injEq] at hr
    obtain ⟨ht, rfl⟩ := hr
    exact ⟨_, hk.env t d (by simpa using ht) h, rfl⟩
  | cell t ty =>
    simp only [Cfg.rv, Option.ite_none_right_eq_some] at hr
    obtain ⟨ht, hr⟩ := hr
    split at hr
    · rename_i g n htz
      simp only [Option.some.injEq] at hr; subst hr
      simp only [resV] at h
      split at h
      · rename_i y hy
        have hrep := hk.env t y (by simpa using ht) hy
        obtain ⟨v, hv, hrun⟩ := ld_sound htz h hm hrep
        refine ⟨v, hv, ?_⟩
        obtain ⟨cs, hc⟩ : ∃ cs, rdc mem n y = some cs := by
          unfold ldD at h
          split at h
          · exact ⟨_, by assumption⟩
          · simp at h
        obtain ⟨_, b, o, hp, _⟩ := rdc_sound hc hm hrep
        simp only [resAct]
        rw [hp] at hrun ⊢
        simpa [Instr.loadAt, Instr.sureAddr, asAddr] using hrun
      · simp at h
    · simp at hr

theorem resL_sound (hk : Known C w S φ env tl a) (hm : MSim S φ mem nx w) : ∀ (rs : List ResultVar) (xs : List RV) (ds : List D), rs.mapM C.rv = some xs → resL env mem xs = some ds →
    ∃ vs : List Value, RepVs w S φ ds vs ∧ (rs.mapM (resAct a)).run C.P w = .ok vs w
  | [], xs, ds, h1, h2 => by
    simp only [List.mapM_nil, Option.pure_def, Option.some.injEq] at h1; subst h1
    simp only [resL, Option.some.injEq] at h2; subst h2
    exact ⟨[], by simp [RepVs], rfl⟩
  | r :: rs, xs, ds, h1, h2 => by
    simp only [List.mapM_cons, Option.bind_eq_bind, Option.bind_eq_some_iff, Option.pure_def, Option.some.injEq] at h1
    obtain ⟨x, hx, xs', hxs, rfl⟩ := h1
    simp only [resL] at h2
    split at h2
    · rename_i d ds' hd hds
      simp only [Option.some.injEq] at h2; subst h2
      obtain ⟨v, hv, hrun⟩ := resV_sound hx hd hk hm
      obtain ⟨vs, hvs, hrun2⟩ := resL_sound hk hm rs xs' ds' hxs hds
      refine ⟨v :: vs, by simp only [RepVs]; exact ⟨v, vs, rfl, hv, hvs⟩, ?_⟩
      rw [List.mapM_cons, Sem.run_bind]
      rw [hrun]
      simp only [Result.andThen_ok, Sem.run_bind, hrun2, Sem.run_pure]
    · simp at h2

theorem results_run {fn : Func} {xs : List RV} {ds : List D} (hk : Known C w S φ env tl a) (hm : MSim S φ mem nx w) (h1 : fn.results.toList.mapM C.rv = some xs) (h2 : resL env mem xs = some ds) :
    ∃ v, Rep w S φ (tupOf ds) v ∧ (results fn a.tmps).run C.P w = .ok v w := by
  obtain ⟨vs, hv, hrun⟩ := resL_sound hk hm _ _ _ h1 h2
  have hres : results fn a.tmps = (do let vs ← fn.results.mapM (resAct a); pure (if h : vs.size = 1 then vs[0] else .tuple vs)) := by
    unfold results
    congr 2
  rw [hres, Sem.run_bind, Array.mapM_eq_mapM_toList, Sem.run_map]
  refine ⟨if h : vs.toArray.size = 1 then vs.toArray[0] else .tuple vs.toArray, ?_, ?_⟩
  · cases ds with
    | nil =>
      simp only [RepVs] at hv; subst hv
      simp [tupOf, Rep, RepVs]
    | cons d ds =>
      cases ds with
      | nil =>
        simp only [RepVs] at hv
        obtain ⟨x, r, rfl, h1, rfl⟩ := hv
        simpa [tupOf] using h1
      | cons d2 ds =>
        have hl := RepVs_length _ _ hv
        have : ¬ vs.toArray.size = 1 := by simp at hl ⊢; omega
        rw [dif_neg this]
        simp only [tupOf, Rep]
        exact ⟨vs.toArray, rfl, by simpa using hv⟩
  · rw [hrun]
    simp only [Result.andThen_ok, Sem.run_pure]

theorem env0_look (args : List D) : ∀ (gs : List Nat) (j : Nat) (d : D), look (env0 gs args) j = some d → d = (args[j]?).getD (.pl undef)
  | [], j, d, h => by simp [env0, look] at h
  | g :: gs, j, d, h => by
    simp only [env0, List.map_cons, look] at h
    by_cases e : g = j
    · subst e; simp only [if_true, Option.some.injEq] at h; exact h.symm
    · simp only [e, if_false] at h
      exact env0_look args gs j d h

/-- A function's contract, by its text. -/
theorem Pure_of {f : FuncId} {fn : Func} {c : Code} {ac : AC} {rs : List RV} {args : List D} {res : D} (hf : C.P.funcs[f]? = some fn) (hname : (fn.name == "runtime.NumGoroutine") = false) (hb : fn.body = some c) (hn : fn.ntmps = C.n) (hl : args.length ≤ C.n)
    (hrs : fn.results.toList.mapM C.rv = some rs) (hc : C.comp c = some ac) (hA : A C ac (Kont C (RetQ rs res) []) (env0 C.gs args) [] 0) : Pure C.P f args res := by
  refine ⟨⟨fn, hf, hname, by rw [hb]; rfl⟩, fun S w xs hS hx => ?_⟩
  have hlen := RepVs_length _ _ hx
  have hT := A_sound hc hA 0 S noLocs { tmps := xs.toArray ++ Array.replicate (fn.ntmps - xs.toArray.size) undef, defers := [] } w (Nat.le_refl _) ⟨by simp; omega, rfl, fun j d _ hd => by
      have := env0_look args _ _ _ hd
      subst this
      cases ha : args[j]? with
      | none =>
        have hj : args.length ≤ j := List.getElem?_eq_none_iff.1 ha
        simp only [Option.getD_none, Rep]
        rw [Array.getD_eq_getD_getElem?, Array.getElem?_append_right (by simp; omega)]
        simp only [Array.getElem?_replicate]
        split <;> rfl
      | some d =>
        obtain ⟨x, hx1, hr⟩ := RepVs_get _ _ _ _ hx ha
        have hj : j < xs.length := (List.getElem?_eq_some_iff.1 hx1).1
        simp only [Option.getD_some]
        rw [Array.getD_eq_getD_getElem?, Array.getElem?_append_left (by simpa using hj)]
        simpa [hx1] using hr, fun j d _ h => by simp [look] at h, ⟨fun i blk h => by simp [look] at h, fun i j l m h => by simp [noLocs] at h, fun i l h => by simp [noLocs] at h, fun _ _ => rfl, hS⟩⟩
  refine calls_of_wp hf hb (wp_mono hT ?_)
  rintro e a' w' ⟨s', S', φ', hq, hs, hext, _⟩
  have fin_ok : fin rs s'.env s'.mem = some res → bodyPost C.P fn (fun e w' => ∃ v S', e = .returned v ∧ Rep w' S' noLocs res v ∧ Ext S noLocs [] w S' noLocs [] w' ∧ ∀ b, S' b → b < w'.heap.size) .ret a' w' := by
    intro hfin
    unfold fin at hfin
    split at hfin
    · rename_i ds hds
      obtain ⟨v, hv, hrun⟩ := results_run ⟨hs.env, hs.tl⟩ hs.m hrs hds
      refine ⟨hs.defers, v, hrun, v, SF S' φ' s'.mem, rfl, frz_sound hs.m 100 _ _ _ hfin hv, ⟨fun b h => .inl (hext.sub b h), hext.keep, hext.size, fun b _ h => h, ?_, hext.os, hext.output, hext.tape⟩, ?_⟩
      · rintro b (h | h)
        · exact hext.news b h
        · by_cases hlt : b < w.heap.size
          · exact .inr (.inr (hext.own b hlt h))
          · exact .inr (.inl (by omega))
      · rintro b (h | ⟨i, blk, l, _, h2, h3, rfl⟩)
        · exact hs.m.sub b h
        · exact hs.m.lt i l h2 h3
    · simp at hfin
  cases e with
  | normal => exact fin_ok hq
  | ret => exact fin_ok hq
  | exit id => exact hq.elim
  | goto l => exact hq.elim
  | panic ch => exact hq.elim
  | outgrown => exact hq.elim

/-- Blocks let go. -/
def memSub (mem mem' : Mem) : Prop := ∀ id b, look mem' id = some b → look mem id = some b

/-- What is asked of a state in which a function ends whose caller goes on with K. -/
def RetC (rs : List RV) (K : KD) : Exit → St → Prop
  | .normal, s => ∃ ds, resL s.env s.mem rs = some ds ∧ ∃ mem', memSub s.mem mem' ∧ K (tupOf ds) mem' s.nx
  | .ret, s => ∃ ds, resL s.env s.mem rs = some ds ∧ ∃ mem', memSub s.mem mem' ∧ K (tupOf ds) mem' s.nx
  | _, _ => False

/-- A call of a function that sees and changes owned blocks, by its text. -/
theorem CallT_of {f : FuncId} {fn : Func} {c : Code} {ac : AC} {rs : List RV} {args : List D} {K : KD} (hf : C.P.funcs[f]? = some fn) (hname : (fn.name == "runtime.NumGoroutine") = false) (hb : fn.body = some c) (hn : fn.ntmps = C.n) (hl : args.length ≤ C.n)
    (hrs : fn.results.toList.mapM C.rv = some rs) (hc : C.comp c = some ac) (hA : (∀ i, nx ≤ i → look mem i = none) → A C ac (Kont C (RetC rs K) []) (env0 C.gs args) mem nx) : CallT C.P f args mem nx K := by
  refine ⟨⟨fn, hf, hname, by rw [hb]; rfl⟩, fun S φ w xs hm hx => ?_⟩
  have hA := hA fun i hi => by
    cases hl : look mem i with
    | none => rfl
    | some b =>
      obtain ⟨l, h1, _⟩ := hm.mem i b hl
      rw [hm.fresh i hi] at h1; simp at h1
  have hlen := RepVs_length _ _ hx
  have hT := A_sound hc hA nx S φ { tmps := xs.toArray ++ Array.replicate (fn.ntmps - xs.toArray.size) undef, defers := [] } w (Nat.le_refl _) ⟨by simp; omega, rfl, fun j d _ hd => by
      have := env0_look args _ _ _ hd
      subst this
      cases ha : args[j]? with
      | none =>
        have hj : args.length ≤ j := List.getElem?_eq_none_iff.1 ha
        simp only [Option.getD_none, Rep]
        rw [Array.getD_eq_getD_getElem?, Array.getElem?_append_right (by simp; omega)]
        simp only [Array.getElem?_replicate]
        split <;> rfl
      | some d =>
        obtain ⟨x, hx1, hr⟩ := RepVs_get _ _ _ _ hx ha
        have hj : j < xs.length := (List.getElem?_eq_some_iff.1 hx1).1
        simp only [Option.getD_some]
        rw [Array.getD_eq_getD_getElem?, Array.getElem?_append_left (by simpa using hj)]
        simpa [hx1] using hr, fun j d _ h => by simp [look] at h, hm⟩
  refine calls_of_wp hf hb (wp_mono hT ?_)
  rintro e a' w' ⟨s', S', φ', hq, hs, hext, hgr⟩
  have ret_ok : (∃ ds, resL s'.env s'.mem rs = some ds ∧ ∃ mem', memSub s'.mem mem' ∧ K (tupOf ds) mem' s'.nx) → bodyPost C.P fn (fun e w' => ∃ v d mem' nx' S' φ', e = .returned v ∧ K d mem' nx' ∧ nx ≤ nx' ∧ MSim S' φ' mem' nx' w' ∧ Rep w' S' φ' d v ∧ Stays w S φ w' S' φ' ∧ Ext S φ mem w S' φ' mem' w' ∧ ∀ i, i < nx → φ i = none → φ' i = none) .ret a' w' := by
    rintro ⟨ds, hds, mem', hsub, hK⟩
    obtain ⟨v, hv, hrun⟩ := results_run ⟨hs.env, hs.tl⟩ hs.m hrs hds
    refine ⟨hs.defers, v, hrun, v, _, mem', s'.nx, S', φ', rfl, hK, hgr.le, ⟨fun i b hi => hs.m.mem i b (hsub i b hi), hs.m.inj, hs.m.lt, hs.m.fresh, hs.m.sub⟩, hv, ⟨hext.sub, ?_, hgr.loc⟩,
      ⟨hext.sub, hext.keep, hext.size, fun b hb ⟨i, blk, l, h1, h2, h3, h4⟩ => hext.own b hb ⟨i, blk, l, hsub i blk h1, h2, h3, h4⟩, hext.news, hext.os, hext.output, hext.tape⟩, hgr.low⟩
    intro b hb o
    have := hext.keep b (hm.sub b hb) (by
      rintro ⟨i, blk, l, h1, h2, h3, rfl⟩
      obtain ⟨l', g1, g2, _⟩ := hm.mem i blk h1
      rw [h2] at g1; simp only [Option.some.injEq] at g1; subst g1
      exact g2 h3 hb)
    unfold World.cell?
    simp only [this]
  cases e with
  | normal => exact ret_ok hq
  | ret => exact ret_ok hq
  | exit id => exact hq.elim
  | goto l => exact hq.elim
  | panic ch => exact hq.elim
  | outgrown => exact hq.elim
end
end Go.Fx

/-
  The library, XD: X15, X16, X17, X18, X19, X20, X21, X22, X23.
-/
import Derived.Test.YtjfiklflmnhbdaaXC
import Derived.KernelRfl
import Derived.Laws.Strings
import Derived.ChangeOld
import Derived.ChangeBears
import Derived.Handed
import Derived.DataReads
import Derived.OpenShut
import Derived.WalkKit
import Derived.ProofKit
import Derived.ShutString
import Derived.Below
import Derived.Carry
import Derived.SizedLaws
import Derived.JoinedOf
/-
  A function's text, run on deep values; contracts.
-/

set_option linter.all false
namespace Go.Fx
open Go
section
variable {C : Cfg} {Q : Exit → St → Prop} {env tl : Env} {mem : Mem} {nx : Nat}

theorem T_region {id : Nat} {ops : Array Oper} {draw : Bool} {is : List Ins} {K : Env → Env → Mem → Nat → Prop} (hc : C.comp (.region id ops draw) = some (.reg is)) (h : run C nx K is 0 env [] mem (nx + is.length)) :
    T C (.region id ops draw) (fun e s => e = .normal ∧ K s.env s.tl s.mem s.nx) ⟨env, tl, mem, nx⟩ := by
  simp only [Cfg.comp, Option.bind_eq_bind, Option.bind_eq_some_iff] at hc
  obtain ⟨is', his, hc⟩ := hc
  intro x N S φ a w hN hB hs
  have hN : N ≤ nx := hN
  have hlen := mapM_length his
  have hh : Here C x S φ env [] mem (nx + is'.length) a w := ⟨⟨hs.env, fun j d _ h => by simp [look] at h⟩, hs.size, hs.defers, ⟨hs.m.mem, hs.m.inj, hs.m.lt, fun i hi => hs.m.fresh i (Nat.le_trans (Nat.le_add_right _ _) hi), hs.m.sub⟩⟩
  cases draw with
  | false =>
    simp only [Bool.false_eq_true, if_false, Option.some.injEq, AC.reg.injEq] at hc; subst hc
    refine wpIn_region (wpOps_ins (no_defer his) (fun a w ⟨_, _, _, h, _⟩ => by simp at h) _ _ _ ?_)
    rw [List.range_eq_range', ← Array.length_toList]
    exact run_sound hN ops.toList is' 0 env [] mem (nx + is'.length) S φ a w (fun i => by simp) his h hh (fun i _ _ => hs.m.fresh _ (Nat.le_add_right _ _)) (by omega)
  | true =>
    simp only [if_true] at hc
    split at hc
    · rename_i js hd
      simp only [Option.some.injEq, AC.reg.injEq] at hc; subst hc
      obtain ⟨pi, bf, late, kp, js0, rfl, hl, hp, hok, hmix, hns⟩ := draw_out his hd
      rw [tell_length] at h
      rw [← hl] at hh
      exact draw_sound hmix hp (no_defer his) hns hok h hN hh (fun i hi => hs.m.fresh _ (Nat.le_add_right _ _))
    · simp at hc

theorem forget_tl : Wk C ⟨env, tl, mem, nx⟩ ⟨env, [], mem, nx⟩ := fun B N S φ a w hn hs =>
  ⟨S, φ, ⟨hs.size, hs.defers, hs.env, fun j d _ h => by simp [look] at h, hs.m⟩, Ext.refl .., Grow.refl hn⟩

theorem T_cond_at {c : Operand} {y : Opd} {x1 x2 : Code} {p q : Env → Mem → Nat → Prop} (hc : C.opd c = some y) (h : ifK y p q env tl mem nx) (hp : p env mem nx → T C x1 Q ⟨env, [], mem, nx⟩) (hq : q env mem nx → T C x2 Q ⟨env, [], mem, nx⟩) :
    T C (.cond c x1 x2) Q ⟨env, tl, mem, nx⟩ := by
  intro x N S φ a w hn hB hs
  unfold ifK ifb at h
  split at h
  · rename_i b hro
    have hb := ro_sound ⟨hs.env, hs.tl⟩ hc hro
    simp only [Rep] at hb
    refine wpIn_cond hb ?_
    cases b with
    | true => exact T_weaken forget_tl (hp (h.1 rfl)) x N S φ a w hn hB hs
    | false => exact T_weaken forget_tl (hq (h.2 rfl)) x N S φ a w hn hB hs
  · exact h.elim

theorem T_of_reg {x : Code} {K : Env → Env → Mem → Nat → Prop} {s : St} {next : Code} (h : T C x (fun e s => e = .normal ∧ K s.env s.tl s.mem s.nx) s) (hn : ∀ env tl mem nx, K env tl mem nx → T C next Q ⟨env, tl, mem, nx⟩) : T C (.seq x next) Q s := by
  refine T_seq (T_mono ?_ h)
  rintro e s ⟨rfl, hk⟩
  exact hn _ _ _ _ hk

theorem T_post {c : Code} {s : St} (h : T C c (fun e s => ∃ s', Wk C s s' ∧ Q e s') s) : T C c Q s := by
  intro x N S φ a w hn hB hs
  refine wpIn_mono (h x N S φ a w hn hB hs) ?_
  rintro e a' w' ⟨s1, S1, φ1, ⟨s2, hw, hq⟩, h1, h2, g1⟩
  obtain ⟨S2, φ2, h3, h4, g2⟩ := hw x N S1 φ1 a' w' g1.le h1
  exact ⟨s2, S2, φ2, hq, h3, h2.trans h4, g1.trans g2⟩

/-- As A, the temporaries of the region before still known to a condition. -/
def A' (C : Cfg) : AC → (Exit → St → Prop) → Env → Env → Mem → Nat → Prop
  | .cond y p q, Q, env, tl, mem, nx => ifK y (A C p Q) (A C q Q) env tl mem nx
  | .seq (.cond y p q) z, Q, env, tl, mem, nx => ifK y (A C p (thenQ (fun s => A C z Q s.env s.mem s.nx) Q)) (A C q (thenQ (fun s => A C z Q s.env s.mem s.nx) Q)) env tl mem nx
  | ac, Q, env, _, mem, nx => A C ac Q env mem nx

theorem A'_of_A {ac : AC} (h : A C ac Q env mem nx) : A' C ac Q env [] mem nx := by
  unfold A'
  split <;> exact h

theorem A'_nil {ac : AC} (h : A' C ac Q env [] mem nx) : A C ac Q env mem nx := by
  unfold A' at h
  split at h <;> exact h

theorem comp_reg {x : Code} {is : List Ins} (h : C.comp x = some (.reg is)) : ∃ id ops draw, x = .region id ops draw := by
  cases x with
  | region id ops draw => exact ⟨id, ops, draw, rfl⟩
  | seq p q =>
    simp only [Cfg.comp, Option.bind_eq_bind, Option.bind_eq_some_iff] at h
    obtain ⟨a, _, b, _, h⟩ := h
    split at h <;> simp at h
  | _ => simp [Cfg.comp, Option.bind_eq_some_iff] at h

def isReg : AC → Bool
  | .reg _ => true
  | _ => false

theorem seq_out {x y : Code} {ac : AC} (h : C.comp (.seq x y) = some ac) : ∃ a b, C.comp x = some a ∧ C.comp y = some b ∧
    ((∃ is c p q, a = .reg is ∧ b = .cond c p q ∧ ac = .ifr is c p q) ∨ (∃ is c p q z, a = .reg is ∧ b = .seq (.cond c p q) z ∧ ac = .seq (.ifr is c p q) z) ∨ ac = .seq a b) := by
  simp only [Cfg.comp, Option.bind_eq_bind, Option.bind_eq_some_iff] at h
  obtain ⟨a, ha, b, hb, h⟩ := h
  refine ⟨a, b, ha, hb, ?_⟩
  split at h
  · simp only [Option.some.injEq] at h
    exact .inl ⟨_, _, _, _, rfl, rfl, h.symm⟩
  · simp only [Option.some.injEq] at h
    exact .inr (.inl ⟨_, _, _, _, _, rfl, rfl, h.symm⟩)
  · simp only [Option.some.injEq] at h
    exact .inr (.inr h.symm)

theorem A'_sound : ∀ (c : Code) (ac : AC), C.comp c = some ac → ∀ (Q : Exit → St → Prop) (env tl : Env) (mem : Mem) (nx : Nat), A' C ac Q env tl mem nx → T C c Q ⟨env, tl, mem, nx⟩ := by
  intro c
  induction c with
  | skip => intro ac h Q env tl mem nx hA; simp only [Cfg.comp, Option.some.injEq] at h; subst h; exact T_weaken forget_tl (T_skip hA)
  | region id ops draw =>
    intro ac h Q env tl mem nx hA
    have h0 := h
    simp only [Cfg.comp, Option.bind_eq_bind, Option.bind_eq_some_iff] at h
    obtain ⟨is, his, h⟩ := h
    obtain ⟨is0, rfl⟩ : ∃ is0, ac = .reg is0 := by
      split at h
      · split at h
        · simp only [Option.some.injEq] at h; exact ⟨_, h.symm⟩
        · simp at h
      · simp only [Option.some.injEq] at h; exact ⟨_, h.symm⟩
    refine T_post (T_mono ?_ (T_region (tl := tl) h0 hA))
    rintro e ⟨env', tl', mem', nx'⟩ ⟨rfl, hk⟩
    exact ⟨_, forget_tl, hk⟩
  | seq x y ihx ihy =>
    intro ac h Q env tl mem nx hA
    obtain ⟨a, b, ha, hb, h | h | h⟩ := seq_out h
    · obtain ⟨is, c, p, q, rfl, rfl, rfl⟩ := h
      obtain ⟨id, ops, draw, rfl⟩ := comp_reg ha
      exact T_of_reg (T_region (tl := tl) ha hA) fun env' tl' mem' nx' hk => ihy _ hb Q env' tl' mem' nx' hk
    · obtain ⟨is, c, p, q, z, rfl, rfl, rfl⟩ := h
      obtain ⟨id, ops, draw, rfl⟩ := comp_reg ha
      exact T_of_reg (T_region (tl := tl) ha hA) fun env' tl' mem' nx' hk => ihy _ hb Q env' tl' mem' nx' hk
    · subst h
      refine T_seq ?_
      have hQ : ∀ e s, thenQ (fun s => A C b Q s.env s.mem s.nx) Q e s → ∃ s', Wk C s s' ∧ thenQ (T C y Q) Q e s' := by
        intro e s hq
        cases e with
        | normal =>
          obtain ⟨env', tl', mem', nx'⟩ := s
          exact ⟨_, forget_tl, ihy b hb Q env' [] mem' nx' (A'_of_A hq)⟩
        | _ => exact ⟨s, Wk.refl, hq⟩
      refine T_post (T_mono hQ ?_)
      cases a with
      | cond y' p q => exact ihx _ ha _ env tl mem nx hA
      | _ => exact T_weaken forget_tl (ihx _ ha _ env [] mem nx (A'_of_A hA))
  | cond c x y ihx ihy =>
    intro ac h Q env tl mem nx hA
    simp only [Cfg.comp, Option.bind_eq_bind, Option.bind_eq_some_iff, Option.some.injEq] at h
    obtain ⟨o, ho, a1, h1, a2, h2, rfl⟩ := h
    exact T_cond_at ho hA (fun h => ihx a1 h1 Q env [] mem nx (A'_of_A h)) (fun h => ihy a2 h2 Q env [] mem nx (A'_of_A h))
  | block id x ih =>
    intro ac h Q env tl mem nx hA
    simp only [Cfg.comp, Option.bind_eq_bind, Option.bind_eq_some_iff, Option.some.injEq] at h
    obtain ⟨a1, h1, rfl⟩ := h
    exact T_weaken forget_tl (T_block (ih a1 h1 _ env [] mem nx (A'_of_A hA)))
  | loop x ih =>
    intro ac h Q env tl mem nx hA
    have h0 := h
    simp only [Cfg.comp, Option.bind_eq_bind, Option.bind_eq_some_iff, Option.some.injEq] at h
    obtain ⟨a1, h1, rfl⟩ := h
    exact T_weaken forget_tl (hA _ h0)
  | rangeFunc f ps a b iha ihb =>
    intro ac h Q env tl mem nx hA
    have h0 := h
    simp only [Cfg.comp, Option.bind_eq_bind, Option.bind_eq_some_iff] at h
    obtain ⟨g, hg, a1, h1, a2, h2, h⟩ := h
    simp only [Option.some.injEq] at h
    subst h
    exact T_weaken forget_tl (hA _ h0)
  | exit id => intro ac h Q env tl mem nx hA; simp only [Cfg.comp, Option.some.injEq] at h; subst h; exact T_weaken forget_tl (T_exit hA)
  | scope x ih =>
    intro ac h Q env tl mem nx hA
    have h0 := h
    simp only [Cfg.comp, Option.bind_eq_bind, Option.bind_eq_some_iff, Option.some.injEq] at h
    obtain ⟨a1, h1, rfl⟩ := h
    exact T_weaken forget_tl (hA _ h0)
  | label l => intro ac h Q env tl mem nx hA; simp only [Cfg.comp, Option.some.injEq] at h; subst h; exact T_weaken forget_tl (T_label hA)
  | goto l => intro ac h Q env tl mem nx hA; simp only [Cfg.comp, Option.some.injEq] at h; subst h; exact T_weaken forget_tl (T_goto hA)
  | ret => intro ac h Q env tl mem nx hA; simp only [Cfg.comp, Option.some.injEq] at h; subst h; exact T_weaken forget_tl (T_ret hA)
  | refuse w => intro ac h; simp [Cfg.comp] at h

theorem A_sound {c : Code} {ac : AC} (h : C.comp c = some ac) (hA : A C ac Q env mem nx) : T C c Q ⟨env, [], mem, nx⟩ := A'_sound c ac h Q env [] mem nx (A'_of_A hA)

/-! ### Resolved code by itself -/
theorem TA_of_A {ac : AC} (h : A C ac Q env mem nx) : TA C ac Q ⟨env, [], mem, nx⟩ := fun _ hc => A_sound hc h

theorem TA_weaken {ac : AC} {s s' : St} (h : Wk C s s') (k : TA C ac Q s') : TA C ac Q s := fun c hc => T_weaken h (k c hc)

theorem TA_mono {ac : AC} {Q' : Exit → St → Prop} {s : St} (hq : ∀ e s, Q e s → Q' e s) (h : TA C ac Q s) : TA C ac Q' s := fun c hc => T_mono hq (h c hc)

theorem TA_scope {x : AC} {s : St} (h : TA C x (straightQ Q) s) : TA C (.scope x) Q s := by
  intro c hc
  cases c with
  | scope y =>
    simp only [Cfg.comp, Option.bind_eq_bind, Option.bind_eq_some_iff, Option.some.injEq, AC.scope.injEq] at hc
    obtain ⟨a1, h1, rfl⟩ := hc
    exact T_scope (h y h1)
  | seq p q =>
    obtain ⟨a, b, _, _, h | h | h⟩ := seq_out hc
    · obtain ⟨is, c, p, q, _, _, e⟩ := h; simp at e
    · obtain ⟨is, c, p, q, z, _, _, e⟩ := h; simp at e
    · simp at h
  | region id ops draw =>
    simp only [Cfg.comp, Option.bind_eq_bind, Option.bind_eq_some_iff] at hc
    obtain ⟨is, _, h⟩ := hc
    split at h
    · split at h <;> simp at h
    · simp at h
  | _ => simp [Cfg.comp, Option.bind_eq_some_iff] at hc

/-- A loop: 'st x' the states at its head, one for each x that fits; each round lowers the measure. -/
theorem TA_loop {α : Type} {x : AC} (st : α → St) (inv : α → Prop) (μ : α → Nat)
    (round : ∀ y, inv y → TA C x (thenQ (fun s' => ∃ z, inv z ∧ μ z < μ y ∧ Wk C s' (st z)) Q) (st y)) (x0 : α) (h0 : inv x0) : TA C (.loop x) Q (st x0) := by
  intro c hc
  cases c with
  | loop y =>
    simp only [Cfg.comp, Option.bind_eq_bind, Option.bind_eq_some_iff, Option.some.injEq, AC.loop.injEq] at hc
    obtain ⟨a1, h1, rfl⟩ := hc
    exact T_loop st inv μ (fun y' hy => round y' hy _ h1) x0 h0
  | seq p q =>
    obtain ⟨a, b, _, _, h | h | h⟩ := seq_out hc
    · obtain ⟨is, c, p, q, _, _, e⟩ := h; simp at e
    · obtain ⟨is, c, p, q, z, _, _, e⟩ := h; simp at e
    · simp at h
  | region id ops draw =>
    simp only [Cfg.comp, Option.bind_eq_bind, Option.bind_eq_some_iff] at hc
    obtain ⟨is, _, h⟩ := hc
    split at h
    · split at h <;> simp at h
    · simp at h
  | _ => simp [Cfg.comp, Option.bind_eq_some_iff] at hc
end
end Go.Fx

/-
  Contracts of whole functions.
-/

set_option linter.all false
namespace Go.Fx
open Go

inductive RV where
  | t (j : Nat)
  | c (j : Nat) (g : Bool) (n : Nat)

def Cfg.rv (C : Cfg) : ResultVar → Option RV
  | .tmp t => if C.gs.contains t then some (.t t) else none
  | .cell t ty => if C.gs.contains t then (match Program.tsz C.P ty with
    | some (g, n) => some (.c t g n)
    | none => none) else none

def resV (env : Env) (mem : Mem) : RV → Option D
  | .t j => look env j
  | .c j g n => match look env j with
    | some x => ldD mem g n x
    | none => none

def resL (env : Env) (mem : Mem) : List RV → Option (List D)
  | [] => some []
  | r :: rs => match resV env mem r, resL env mem rs with
    | some d, some ds => some (d :: ds)
    | _, _ => none

mutual
/-- What is handed back: owned blocks are only read from then on. -/
def frz (mem : Mem) : Nat → D → Option D
  | 0, _ => none
  | _ + 1, .top => some .top
  | _ + 1, .zs => some (.sl [])
  | _ + 1, .pl v => match v with
    | .slice none 0 0 => some (.sl [])
    | v => some (.pl v)
  | _ + 1, .sl es => if D.immss es then some (.sl es) else none
  | _ + 1, .pt cs => if D.imms cs then some (.pt cs) else none
  | n + 1, .opt id off => match look mem id with
    | some (.box cs) => match frzs mem n (cs.drop off) with
      | some ds => some (.pt ds)
      | none => none
    | _ => none
  | _ + 1, .osl id ver lo m => match look mem id with
    | some (.arr v _ es) => if v = ver ∧ lo + m ≤ es.length ∧ D.immss es = true then some (.sl ((es.drop lo).take m)) else none
    | _ => none
  | _ + 1, .oel _ _ _ _ => none
  | _ + 1, .omap _ => none
  | _ + 1, .fn f cs => if D.imms cs then some (.fn f cs) else none
  | n + 1, .agg cs => match frzs mem n cs with
    | some ds => some (.agg ds)
    | none => none
  | n + 1, .tup cs => match frzs mem n cs with
    | some ds => some (.tup ds)
    | none => none
def frzs (mem : Mem) : Nat → List D → Option (List D)
  | 0, _ => none
  | _ + 1, [] => some []
  | n + 1, d :: ds => match frz mem n d, frzs mem n ds with
    | some d, some ds => some (d :: ds)
    | _, _ => none
end

def tupOf : List D → D
  | [d] => d
  | ds => .tup ds

def fin (rs : List RV) (env : Env) (mem : Mem) : Option D :=
  match resL env mem rs with
  | some ds => frz mem 100 (tupOf ds)
  | none => none

def RetQ (rs : List RV) (res : D) : Exit → St → Prop
  | .normal, s => fin rs s.env s.mem = some res
  | .ret, s => fin rs s.env s.mem = some res
  | _, _ => False

def env0 (gs : List Nat) (args : List D) : Env := gs.map fun j => (j, (args[j]?).getD (.pl undef))

section
variable {C : Cfg} {w w' : World} {S S' : Nat → Prop} {φ φ' : Locs} {a : Act} {env tl : Env} {mem : Mem} {nx id : Nat}

def SF (S : Nat → Prop) (φ : Locs) (mem : Mem) (b : Nat) : Prop := S b ∨ Own φ mem b

theorem stays_SF : Stays w S φ w (SF S φ mem) φ := Stays.of_heap (fun _ h => .inl h) (fun _ _ => rfl) (fun _ _ h => h)

theorem imm_SF {d : D} {x : Value} (hi : D.imm d = true) (h : Rep w S φ d x) : Rep w (SF S φ mem) noLocs d x :=
  Rep_imm d x hi (Rep.mono stays_SF d x h)

mutual
theorem frz_sound (hm : MSim S φ mem nx w) : ∀ (n : Nat) (d d' : D) (x : Value), frz mem n d = some d' → Rep w S φ d x → Rep w (SF S φ mem) noLocs d' x
  | 0, d, d', x, h, _ => by simp [frz] at h
  | n + 1, .top, d', x, h, _ => by simp only [frz, Option.some.injEq] at h; subst h; simp [Rep]
  | n + 1, .zs, d', x, h, hr => by
    simp only [frz, Option.some.injEq] at h; subst h
    simp only [Rep] at hr ⊢
    exact .inl ⟨trivial, hr⟩
  | n + 1, .pl v, d', x, h, hr => by
    simp only [Rep] at hr; subst hr
    simp only [frz] at h
    split at h
    · simp only [Option.some.injEq] at h; subst h; simp [Rep, Zs]
    · simp only [Option.some.injEq] at h; subst h; simp [Rep]
  | n + 1, .sl es, d', x, h, hr => by
    simp only [frz, Option.ite_none_right_eq_some, Option.some.injEq] at h
    obtain ⟨hi, rfl⟩ := h
    exact imm_SF (by simpa [D.imm] using hi) hr
  | n + 1, .pt cs, d', x, h, hr => by
    simp only [frz, Option.ite_none_right_eq_some, Option.some.injEq] at h
    obtain ⟨hi, rfl⟩ := h
    exact imm_SF (by simpa [D.imm] using hi) hr
  | n + 1, .opt i off, d', x, h, hr => by
    simp only [frz] at h
    split at h
    · rename_i cs hl
      split at h
      · rename_i ds hds
        simp only [Option.some.injEq] at h; subst h
        obtain ⟨l, hφ, _, hb⟩ := hm.mem i _ hl
        simp only [Rep] at hr
        obtain ⟨l', hφ', _, rfl⟩ := hr
        rw [hφ] at hφ'; simp only [Option.some.injEq] at hφ'; subst hφ'
        simp only [BRep] at hb
        obtain ⟨hrl, _, h0, _, hc⟩ := hb
        simp only [Rep]
        refine ⟨l.b, l.base + off, rfl, .inr ⟨i, _, l, hl, hφ, hrl, rfl⟩, ?_⟩
        rw [h0]
        exact frzc_sound hm n (cs.drop off) ds l.b (0 + off) hds (RepCs_drop off cs l.b 0 hc)
      · simp at h
    · simp at h
  | n + 1, .osl i ver lo m, d', x, h, hr => by
    simp only [frz] at h
    split at h
    · rename_i v k es hl
      simp only [Option.ite_none_right_eq_some, Option.some.injEq] at h
      obtain ⟨⟨hv, hle, hi⟩, rfl⟩ := h
      obtain ⟨l, hφ, _, hb⟩ := hm.mem i _ hl
      simp only [Rep] at hr
      obtain ⟨l', hφ', _, _, hx⟩ := hr
      rw [hφ] at hφ'; simp only [Option.some.injEq] at hφ'; subst hφ'
      simp only [BRep] at hb
      obtain ⟨_, hver, hk, hb⟩ := hb
      have hlen : ((es.drop lo).take m).length = m := by simp; omega
      rcases hx (by omega) with ⟨r1, rfl, rfl, hz⟩ | ⟨r1, cap, rfl, c1, c2⟩
      · simp only [List.take_zero, Rep]
        exact .inl ⟨trivial, hz⟩
      · rcases hb with hb | ⟨_, _, _, hes⟩
        · simp [hb.1] at r1
        · simp only [Rep]
          right
          refine ⟨l.b, l.base + lo * l.k, cap, k, by rw [hlen], by rw [hlen]; exact c1, .inr ⟨i, _, l, hl, hφ, r1, rfl⟩, ?_⟩
          have himm : D.immss ((es.drop lo).take m) = true := immss_sub hi fun e he => List.mem_of_mem_drop (List.mem_of_mem_take he)
          rw [hk]
          exact RepEs_imm _ _ _ _ himm (RepEs.mono stays_SF _ _ _ _ (fun _ => rfl) (RepEs_take m _ _ _ _ (RepEs_drop lo _ _ _ _ hes)))
    · simp at h
  | n + 1, .oel _ _ _ _, d', x, h, hr => by simp [frz] at h
  | n + 1, .omap _, d', x, h, hr => by simp [frz] at h
  | n + 1, .fn f cs, d', x, h, hr => by
    simp only [frz, Option.ite_none_right_eq_some, Option.some.injEq] at h
    obtain ⟨hi, rfl⟩ := h
    exact imm_SF (by simpa [D.imm] using hi) hr
  | n + 1, .agg cs, d', x, h, hr => by
    simp only [frz] at h
    split at h
    · rename_i ds hds
      simp only [Option.some.injEq] at h; subst h
      simp only [Rep] at hr ⊢
      obtain ⟨vs, rfl, hv⟩ := hr
      exact ⟨vs, rfl, frzs_sound hm n cs ds _ hds hv⟩
    · simp at h
  | n + 1, .tup cs, d', x, h, hr => by
    simp only [frz] at h
    split at h
    · rename_i ds hds
      simp only [Option.some.injEq] at h; subst h
      simp only [Rep] at hr ⊢
      obtain ⟨vs, rfl, hv⟩ := hr
      exact ⟨vs, rfl, frzs_sound hm n cs ds _ hds hv⟩
    · simp at h
theorem frzs_sound (hm : MSim S φ mem nx w) : ∀ (n : Nat) (ds ds' : List D) (xs : List Value), frzs mem n ds = some ds' → RepVs w S φ ds xs → RepVs w (SF S φ mem) noLocs ds' xs
  | 0, ds, ds', xs, h, _ => by simp [frzs] at h
  | n + 1, [], ds', xs, h, hr => by
    simp only [frzs, Option.some.injEq] at h; subst h
    simpa [RepVs] using hr
  | n + 1, d :: ds, ds', xs, h, hr => by
    simp only [frzs] at h
    split at h
    · rename_i d1 ds1 h1 h2
      simp only [Option.some.injEq] at h; subst h
      simp only [RepVs] at hr ⊢
      obtain ⟨x, r, rfl, g1, g2⟩ := hr
      exact ⟨x, r, rfl, frz_sound hm n d d1 x h1 g1, frzs_sound hm n ds ds1 r h2 g2⟩
    · simp at h
theorem frzc_sound (hm : MSim S φ mem nx w) : ∀ (n : Nat) (ds ds' : List D) (b o : Nat), frzs mem n ds = some ds' → RepCs w S φ ds b o → RepCs w (SF S φ mem) noLocs ds' b o
  | 0, ds, ds', b, o, h, _ => by simp [frzs] at h
  | n + 1, [], ds', b, o, h, hr => by
    simp only [frzs, Option.some.injEq] at h; subst h
    simp [RepCs]
  | n + 1, d :: ds, ds', b, o, h, hr => by
    simp only [frzs] at h
    split at h
    · rename_i d1 ds1 h1 h2
      simp only [Option.some.injEq] at h; subst h
      simp only [RepCs] at hr ⊢
      obtain ⟨⟨x, hx, g1⟩, g2⟩ := hr
      exact ⟨⟨x, hx, frz_sound hm n d d1 x h1 g1⟩, frzc_sound hm n ds ds1 b (o + 1) h2 g2⟩
    · simp at h
theorem immss_sub : ∀ {es : List (List D)} {fs : List (List D)}, D.immss es = true → (∀ e ∈ fs, e ∈ es) → D.immss fs = true
  | es, [], _, _ => rfl
  | es, f :: fs, h, hs => by
    simp only [D.immss, Bool.and_eq_true]
    refine ⟨?_, immss_sub h fun e he => hs e (by simp [he])⟩
    have : ∀ (es : List (List D)), D.immss es = true → ∀ e ∈ es, D.imms e = true := by
      intro es
      induction es with
      | nil => intro _ e he; simp at he
      | cons a es ih =>
        intro h e he
        simp only [D.immss, Bool.and_eq_true] at h
        rcases List.mem_cons.1 he with rfl | he
        · exact h.1
        · exact ih h.2 e he
    exact this es h f (hs f (by simp))
end

def resAct (a : Act) : ResultVar → Sem Value
  | .tmp t => Pure.pure (a.tmps.getD t undef)
  | .cell t ty => do loadVar ty (← asAddr (a.tmps.getD t undef))

theorem resV_sound {r : ResultVar} {x : RV} {d : D} (hr : C.rv r = some x) (h : resV env mem x = some d) (hk : Known C w S φ env tl a) (hm : MSim S φ mem nx w) :
    ∃ v, Rep w S φ d v ∧ (resAct a r).run C.P w = .ok v w := by
  cases r with
  | tmp t =>
    simp only [Cfg.rv, Option.ite_none_right_eq_some, Option.some.injEq] at hr
    obtain ⟨ht, rfl⟩ := hr
    exact ⟨_, hk.env t d (by simpa using ht) h, rfl⟩
  | cell t ty =>
    simp only [Cfg.rv, Option.ite_none_right_eq_some] at hr
    obtain ⟨ht, hr⟩ := hr
    split at hr
    · rename_i g n htz
      simp only [Option.some.injEq] at hr; subst hr
      simp only [resV] at h
      split at h
      · rename_i y hy
        have hrep := hk.env t y (by simpa using ht) hy
        obtain ⟨v, hv, hrun⟩ := ld_sound htz h hm hrep
        refine ⟨v, hv, ?_⟩
        obtain ⟨cs, hc⟩ : ∃ cs, rdc mem n y = some cs := by
          unfold ldD at h
          split at h
          · exact ⟨_, by assumption⟩
          · simp at h
        obtain ⟨_, b, o, hp, _⟩ := rdc_sound hc hm hrep
        simp only [resAct]
        rw [hp] at hrun ⊢
        simpa [Instr.loadAt, Instr.sureAddr, asAddr] using hrun
      · simp at h
    · simp at hr

theorem resL_sound (hk : Known C w S φ env tl a) (hm : MSim S φ mem nx w) : ∀ (rs : List ResultVar) (xs : List RV) (ds : List D), rs.mapM C.rv = some xs → resL env mem xs = some ds →
    ∃ vs : List Value, RepVs w S φ ds vs ∧ (rs.mapM (resAct a)).run C.P w = .ok vs w
  | [], xs, ds, h1, h2 => by
    simp only [List.mapM_nil, Option.pure_def, Option.some.injEq] at h1; subst h1
    simp only [resL, Option.some.injEq] at h2; subst h2
    exact ⟨[], by simp [RepVs], rfl⟩
  | r :: rs, xs, ds, h1, h2 => by
    simp only [List.mapM_cons, Option.bind_eq_bind, Option.bind_eq_some_iff, Option.pure_def, Option.some.injEq] at h1
    obtain ⟨x, hx, xs', hxs, rfl⟩ := h1
    simp only [resL] at h2
    split at h2
    · rename_i d ds' hd hds
      simp only [Option.some.injEq] at h2; subst h2
      obtain ⟨v, hv, hrun⟩ := resV_sound hx hd hk hm
      obtain ⟨vs, hvs, hrun2⟩ := resL_sound hk hm rs xs' ds' hxs hds
      refine ⟨v :: vs, by simp only [RepVs]; exact ⟨v, vs, rfl, hv, hvs⟩, ?_⟩
      rw [List.mapM_cons, Sem.run_bind]
      rw [hrun]
      simp only [Result.andThen_ok, Sem.run_bind, hrun2, Sem.run_pure]
    · simp at h2

theorem results_run {fn : Func} {xs : List RV} {ds : List D} (hk : Known C w S φ env tl a) (hm : MSim S φ mem nx w) (h1 : fn.results.toList.mapM C.rv = some xs) (h2 : resL env mem xs = some ds) :
    ∃ v, Rep w S φ (tupOf ds) v ∧ (results fn a.tmps).run C.P w = .ok v w := by
  obtain ⟨vs, hv, hrun⟩ := resL_sound hk hm _ _ _ h1 h2
  have hres : results fn a.tmps = (do let vs ← fn.results.mapM (resAct a); pure (if h : vs.size = 1 then vs[0] else .tuple vs)) := by
    unfold results
    congr 2
  rw [hres, Sem.run_bind, Array.mapM_eq_mapM_toList, Sem.run_map]
  refine ⟨if h : vs.toArray.size = 1 then vs.toArray[0] else .tuple vs.toArray, ?_, ?_⟩
  · cases ds with
    | nil =>
      simp only [RepVs] at hv; subst hv
      simp [tupOf, Rep, RepVs]
    | cons d ds =>
      cases ds with
      | nil =>
        simp only [RepVs] at hv
        obtain ⟨x, r, rfl, h1, rfl⟩ := hv
        simpa [tupOf] using h1
      | cons d2 ds =>
        have hl := RepVs_length _ _ hv
        have : ¬ vs.toArray.size = 1 := by simp at hl ⊢; omega
        rw [dif_neg this]
        simp only [tupOf, Rep]
        exact ⟨vs.toArray, rfl, by simpa using hv⟩
  · rw [hrun]
    simp only [Result.andThen_ok, Sem.run_pure]

theorem env0_look (args : List D) : ∀ (gs : List Nat) (j : Nat) (d : D), look (env0 gs args) j = some d → d = (args[j]?).getD (.pl undef)
  | [], j, d, h => by simp [env0, look] at h
  | g :: gs, j, d, h => by
    simp only [env0, List.map_cons, look] at h
    by_cases e : g = j
    · subst e; simp only [if_true, Option.some.injEq] at h; exact h.symm
    · simp only [e, if_false] at h
      exact env0_look args gs j d h

/-- Marks' blocks shut, and nothing else. -/
structure Shut (B : Nat) (S : Nat → Prop) (w w' : World) : Prop where
  size : w'.heap.size = w.heap.size
  same : ∀ b, (b < B ∨ S b ∨ ∀ x, w.heap[b]? ≠ some (.deferred x)) → w'.heap[b]? = w.heap[b]?
  os : w'.os = w.os
  output : w'.output = w.output
  tape : w'.tape = w.tape
theorem Shut.refl {B : Nat} {S : Nat → Prop} {w : World} : Shut B S w w := ⟨rfl, fun _ _ => rfl, rfl, rfl, rfl⟩
theorem take_run {P : Program} {r : Nat} {w : World} (h : w.heap[r]? = some (.deferred (some []))) : (Instr.takeDeferred r).run P w = .ok [] (w.putObj r (.deferred none)) := by
  exact run_takeDeferred h
theorem leaves_marks {P : Program} {fn : Func} {tmps : Array Value} {R : Ending → World → Prop} {B : Nat} {S : Nat → Prop} : ∀ (ds : List Deferred) (w : World), Dfr ⟨none, B⟩ S w ds → (∀ w', Shut B S w w' → ∃ v, (results fn tmps).run P w' = .ok v w' ∧ R (.returned v) w') → LeavesInM Fence.wide 0 P fn tmps R ds .returning w
  | [], w, _, h => h w Shut.refl
  | d :: ds, w, hd, h => by
    refine ⟨by simp, .inl ?_⟩
    obtain ⟨D, h1, h2, h3, h4⟩ := hd.marks d (by simp)
    have hlt : D < w.heap.size := (Array.getElem?_eq_some_iff.1 h3).1
    refine ⟨D, _, h2, take_run h3, ?_⟩
    have hn := hd.1
    simp only [List.map_cons, List.nodup_cons] at hn
    have hsh : ∀ w', Shut B S (w.putObj D (.deferred none)) w' → Shut B S w w' := fun w' k => ⟨k.size.trans (by simp), fun b hb => by
        have hbD : b ≠ D := by
          rintro rfl
          rcases hb with g | g | g
          · exact absurd h1 (Nat.not_le_of_lt g)
          · exact h4 g
          · exact g _ h3
        have hsame : (w.putObj D (.deferred none)).heap[b]? = w.heap[b]? := World.putObj_heap_other hbD
        refine (k.same b ?_).trans hsame
        rcases hb with g | g | g
        · exact .inl g
        · exact .inr (.inl g)
        · exact .inr (.inr fun x => by rw [hsame]; exact g x), k.os, k.output, k.tape⟩
    refine leaves_marks ds _ ⟨hn.2, fun e he => ?_, fun l h => by simp at h⟩ (fun w' k => h w' (hsh w' k))
    obtain ⟨E, k1, k2, k3, k4⟩ := hd.marks e (by simp [he])
    refine ⟨E, k1, k2, (World.putObj_heap_other ?_).trans k3, k4⟩
    rintro rfl
    exact hn.1 (List.mem_map.2 ⟨e, he, by rw [k2, h2]⟩)

/-- What stays where marks' blocks are shut. -/
structure SimE (C : Cfg) (S : Nat → Prop) (φ : Locs) (s : St) (a : Act) (w : World) : Prop where
  env : ∀ j d, j ∈ C.gs → look s.env j = some d → Rep w S φ d (a.tmps.getD j undef)
  tl : ∀ j d, j ∉ C.gs → look s.tl j = some d → Rep w S φ d (a.tmps.getD j undef)
  m : MSim S φ s.mem s.nx w
theorem shut_sim {S0 S : Nat → Prop} {φ0 φ : Locs} {mem0 : Mem} {w0 w w' : World} {s : St} {a : Act} (hs : Sim C ⟨none, w0.heap.size⟩ S φ s a w) (hx : Ext S0 φ0 mem0 w0 S φ s.mem w) (h : Shut w0.heap.size S w w') : SimE C S φ s a w' ∧ Ext S0 φ0 mem0 w0 S φ s.mem w' := by
  have hS : ∀ b, S b → w'.heap[b]? = w.heap[b]? := fun b hb => h.same b (.inr (.inl hb))
  have hst : Stays w S φ w' S φ := Stays.of_heap (fun _ h => h) hS (fun _ _ h => h)
  have hown : ∀ i blk l, look s.mem i = some blk → φ i = some l → l.real = true → w'.heap[l.b]? = w.heap[l.b]? := fun i blk l h1 h2 h3 => by
    refine h.same _ (.inr (.inr fun x hx => not_own hs.m hx ⟨i, blk, l, h1, h2, h3, rfl⟩))
  refine ⟨⟨fun j d hj hl => Rep.mono hst _ _ (hs.env j d hj hl), fun j d hj hl => Rep.mono hst _ _ (hs.tl j d hj hl), ⟨fun i blk hi => ?_, hs.m.inj, fun i l h1 h2 => by rw [h.size]; exact hs.m.lt i l h1 h2, hs.m.fresh, fun b hb => by rw [h.size]; exact hs.m.sub b hb⟩⟩,
    ⟨hx.sub, fun b hb ho => (h.same b (.inl hb)).trans (hx.keep b hb ho), by rw [h.size]; exact hx.size, hx.own, hx.news, h.os.trans hx.os, h.output.trans hx.output, h.tape.trans hx.tape⟩⟩
  obtain ⟨l, g1, g2, g3⟩ := hs.m.mem i blk hi
  exact ⟨l, g1, g2, g3.mono hst fun hr => hown i blk l hi g1 hr⟩

/-- A function's contract, by its text. -/
theorem Pure_of {f : FuncId} {fn : Func} {c : Code} {ac : AC} {rs : List RV} {args : List D} {res : D} (hf : C.P.funcs[f]? = some fn) (hname : (fn.name == "runtime.NumGoroutine") = false) (hb : fn.body = some c) (hn : fn.ntmps = C.n) (hl : args.length ≤ C.n)
    (hrs : fn.results.toList.mapM C.rv = some rs) (hc : C.comp c = some ac) (hA : A C ac (Kont C (RetQ rs res) []) (env0 C.gs args) [] 0) : Pure C.P f args res := by
  refine ⟨⟨fn, hf, hname, by rw [hb]; rfl⟩, fun S w xs hS hx => ?_⟩
  have hlen := RepVs_length _ _ hx
  have hT := A_sound hc hA ⟨none, w.heap.size⟩ 0 S noLocs { tmps := xs.toArray ++ Array.replicate (fn.ntmps - xs.toArray.size) undef, defers := [] } w (Nat.le_refl _) (Nat.le_refl _) ⟨by simp; omega, Dfr.nil, fun j d _ hd => by
      have := env0_look args _ _ _ hd
      subst this
      cases ha : args[j]? with
      | none =>
        have hj : args.length ≤ j := List.getElem?_eq_none_iff.1 ha
        simp only [Option.getD_none, Rep]
        rw [Array.getD_eq_getD_getElem?, Array.getElem?_append_right (by simp; omega)]
        simp only [Array.getElem?_replicate]
        split <;> rfl
      | some d =>
        obtain ⟨x, hx1, hr⟩ := RepVs_get _ _ _ _ hx ha
        have hj : j < xs.length := (List.getElem?_eq_some_iff.1 hx1).1
        simp only [Option.getD_some]
        rw [Array.getD_eq_getD_getElem?, Array.getElem?_append_left (by simpa using hj)]
        simpa [hx1] using hr, fun j d _ h => by simp [look] at h, ⟨fun i blk h => by simp [look] at h, fun i j l m h => by simp [noLocs] at h, fun i l h => by simp [noLocs] at h, fun _ _ => rfl, hS⟩⟩
  refine (callsIn_wide (n := 0)).1 (callsIn_of_wp_marks hf hb trivial (wpIn_mono hT ?_))
  rintro e a' w' ⟨s', S', φ', hq, hs, hext, _⟩
  have fin_ok : fin rs s'.env s'.mem = some res → bodyPostM Fence.wide 0 C.P fn (fun e w' => ∃ v S', e = .returned v ∧ Rep w' S' noLocs res v ∧ Ext S noLocs [] w S' noLocs [] w' ∧ ∀ b, S' b → b < w'.heap.size) .ret a' w' := by
    intro hfin
    refine leaves_marks a'.defers w' hs.defers (fun w2 hsh => ?_)
    obtain ⟨hs, hext⟩ := shut_sim hs hext hsh
    generalize w2 = w' at *
    unfold fin at hfin
    split at hfin
    · rename_i ds hds
      obtain ⟨v, hv, hrun⟩ := results_run ⟨hs.env, hs.tl⟩ hs.m hrs hds
      refine ⟨v, hrun, v, SF S' φ' s'.mem, rfl, frz_sound hs.m 100 _ _ _ hfin hv, ⟨fun b h => .inl (hext.sub b h), hext.keep, hext.size, fun b _ h => h, ?_, hext.os, hext.output, hext.tape⟩, ?_⟩
      · rintro b (h | h)
        · exact hext.news b h
        · by_cases hlt : b < w.heap.size
          · exact .inr (.inr (hext.own b hlt h))
          · exact .inr (.inl (by omega))
      · rintro b (h | ⟨i, blk, l, _, h2, h3, rfl⟩)
        · exact hs.m.sub b h
        · exact hs.m.lt i l h2 h3
    · simp at hfin
  cases e with
  | normal => exact fin_ok hq
  | ret => exact fin_ok hq
  | exit id => exact hq.elim
  | goto l => exact hq.elim
  | panic ch => exact hq.elim
  | outgrown => exact hq.elim

/-- Blocks let go. -/
def memSub (mem mem' : Mem) : Prop := ∀ id b, look mem' id = some b → look mem id = some b

/-- What is asked of a state in which a function ends whose caller goes on with K. -/
def RetC (rs : List RV) (K : KD) : Exit → St → Prop
  | .normal, s => ∃ ds, resL s.env s.mem rs = some ds ∧ ∃ mem', memSub s.mem mem' ∧ K (tupOf ds) mem' s.nx
  | .ret, s => ∃ ds, resL s.env s.mem rs = some ds ∧ ∃ mem', memSub s.mem mem' ∧ K (tupOf ds) mem' s.nx
  | _, _ => False

/-- A call of a function that sees and changes owned blocks, by its text. -/
theorem CallT_of {f : FuncId} {fn : Func} {c : Code} {ac : AC} {rs : List RV} {args : List D} {K : KD} (hf : C.P.funcs[f]? = some fn) (hname : (fn.name == "runtime.NumGoroutine") = false) (hb : fn.body = some c) (hn : fn.ntmps = C.n) (hl : args.length ≤ C.n)
    (hrs : fn.results.toList.mapM C.rv = some rs) (hc : C.comp c = some ac) (hA : (∀ i, nx ≤ i → look mem i = none) → A C ac (Kont C (RetC rs K) []) (env0 C.gs args) mem nx) : CallT C.P f args mem nx K := by
  refine ⟨⟨fn, hf, hname, by rw [hb]; rfl⟩, fun S φ w xs hm hx => ?_⟩
  have hA := hA fun i hi => by
    cases hl : look mem i with
    | none => rfl
    | some b =>
      obtain ⟨l, h1, _⟩ := hm.mem i b hl
      rw [hm.fresh i hi] at h1; simp at h1
  have hlen := RepVs_length _ _ hx
  have hT := A_sound hc hA ⟨none, w.heap.size⟩ nx S φ { tmps := xs.toArray ++ Array.replicate (fn.ntmps - xs.toArray.size) undef, defers := [] } w (Nat.le_refl _) (Nat.le_refl _) ⟨by simp; omega, Dfr.nil, fun j d _ hd => by
      have := env0_look args _ _ _ hd
      subst this
      cases ha : args[j]? with
      | none =>
        have hj : args.length ≤ j := List.getElem?_eq_none_iff.1 ha
        simp only [Option.getD_none, Rep]
        rw [Array.getD_eq_getD_getElem?, Array.getElem?_append_right (by simp; omega)]
        simp only [Array.getElem?_replicate]
        split <;> rfl
      | some d =>
        obtain ⟨x, hx1, hr⟩ := RepVs_get _ _ _ _ hx ha
        have hj : j < xs.length := (List.getElem?_eq_some_iff.1 hx1).1
        simp only [Option.getD_some]
        rw [Array.getD_eq_getD_getElem?, Array.getElem?_append_left (by simpa using hj)]
        simpa [hx1] using hr, fun j d _ h => by simp [look] at h, hm⟩
  refine (callsIn_wide (n := 0)).1 (callsIn_of_wp_marks hf hb trivial (wpIn_mono hT ?_))
  rintro e a' w' ⟨s', S', φ', hq, hs, hext, hgr⟩
  have ret_ok : (∃ ds, resL s'.env s'.mem rs = some ds ∧ ∃ mem', memSub s'.mem mem' ∧ K (tupOf ds) mem' s'.nx) → bodyPostM Fence.wide 0 C.P fn (fun e w' => ∃ v d mem' nx' S' φ', e = .returned v ∧ K d mem' nx' ∧ nx ≤ nx' ∧ MSim S' φ' mem' nx' w' ∧ Rep w' S' φ' d v ∧ Stays w S φ w' S' φ' ∧ Ext S φ mem w S' φ' mem' w' ∧ ∀ i, i < nx → φ i = none → φ' i = none) .ret a' w' := by
    rintro ⟨ds, hds, mem', hsub, hK⟩
    refine leaves_marks a'.defers w' hs.defers (fun w2 hsh => ?_)
    obtain ⟨hs, hext⟩ := shut_sim hs hext hsh
    generalize w2 = w' at *
    obtain ⟨v, hv, hrun⟩ := results_run ⟨hs.env, hs.tl⟩ hs.m hrs hds
    refine ⟨v, hrun, v, _, mem', s'.nx, S', φ', rfl, hK, hgr.le, ⟨fun i b hi => hs.m.mem i b (hsub i b hi), hs.m.inj, hs.m.lt, hs.m.fresh, hs.m.sub⟩, hv, ⟨hext.sub, ?_, hgr.loc⟩,
      ⟨hext.sub, hext.keep, hext.size, fun b hb ⟨i, blk, l, h1, h2, h3, h4⟩ => hext.own b hb ⟨i, blk, l, hsub i blk h1, h2, h3, h4⟩, hext.news, hext.os, hext.output, hext.tape⟩, hgr.low⟩
    intro b hb o
    have := hext.keep b (hm.sub b hb) (by
      rintro ⟨i, blk, l, h1, h2, h3, rfl⟩
      obtain ⟨l', g1, g2, _⟩ := hm.mem i blk h1
      rw [h2] at g1; simp only [Option.some.injEq] at g1; subst g1
      exact g2 h3 hb)
    unfold World.cell?
    simp only [this]
  cases e with
  | normal => exact ret_ok hq
  | ret => exact ret_ok hq
  | exit id => exact hq.elim
  | goto l => exact hq.elim
  | panic ch => exact hq.elim
  | outgrown => exact hq.elim
end
end Go.Fx

/-
  Rewrite rules: a run, one operation at a time; values.
-/



set_option linter.all false
namespace Go.Fx
open Go
attribute [simp] A_seq A_block A_skip A_ret A_exit A_label A_goto A_reg A_ifr A_cond Kont_nil Kont_seq Kont_seq_ret Kont_seq_exit Kont_seq_goto Kont_block Kont_block_ret Kont_block_goto Kont_block_exit ifK_at regK_at nextK_no nextK_t nextK_g
  run_nil run_cons run_guard look_cons look_nil upd_cons ro_t ro_g ro_c ro_f setT_t setT_g setE_t setE_g k0_some k0_if k1_some k2_some kl_some km_some km_if
attribute [simp 1100] gd_undef gd_yes gd_tf gd_ft ifb_true ifb_false
attribute [simp 900] gd_any ifb_any

section
variable {C : Cfg} {id : Nat} {env tl : Env} {mem : Mem} {nx : Nat} {K : KD} {P : Program}
@[simp] theorem sI_mv {x : Opd} : stepI C id (.mv x) env tl mem nx K = k0 (ro tl env x) mem nx K := (rfl)
@[simp] theorem sI_pick {c a b : Opd} : stepI C id (.pick c a b) env tl mem nx K = k1 (ro tl env c) (pickD (ro tl env a) (ro tl env b)) mem nx K := (rfl)
@[simp] theorem sI_bld {z : List Value} {ps : List (Nat × Nat × Opd)} : stepI C id (.bld z ps) env tl mem nx K = kl (rps tl env ps) (bldD z) mem nx K := (rfl)
@[simp] theorem sI_bsl {k len : Nat} {z : List Value} {ps : List (Nat × Nat × Opd)} : stepI C id (.bsl k len z ps) env tl mem nx K = kl (rps tl env ps) (bslI k len z) mem nx K := (rfl)
@[simp] theorem sI_z0 : stepI C id .z0 env tl mem nx K = K .zs mem nx := (rfl)
@[simp] theorem sI_ld {g : Bool} {n : Nat} {x : Opd} : stepI C id (.ld g n x) env tl mem nx K = k1 (ro tl env x) (ldD mem g n) mem nx K := (rfl)
@[simp] theorem sI_chk {x : Opd} : stepI C id (.chk x) env tl mem nx K = k1 (ro tl env x) chkD mem nx K := (rfl)
@[simp] theorem sI_bin {op : BinOp} {ty : TypeId} {x y : Opd} : stepI C id (.bin op ty x y) env tl mem nx K = k2 (ro tl env x) (ro tl env y) (binD C.P op ty) mem nx K := (rfl)
@[simp] theorem sI_un {op : UnOp} {x : Opd} : stepI C id (.un op x) env tl mem nx K = k1 (ro tl env x) (unD C.P op) mem nx K := (rfl)
@[simp] theorem sI_cv {s d : TypeId} {x : Opd} : stepI C id (.cv s d x) env tl mem nx K = k1 (ro tl env x) (cvD C.P s d) mem nx K := (rfl)
@[simp] theorem sI_ldp {g : Bool} {n : Nat} {x : Opd} : stepI C id (.ldp g n x) env tl mem nx K = k1 (ro tl env x) (ldpD g n) mem nx K := (rfl)
@[simp] theorem sI_fap {off : Nat} {x : Opd} : stepI C id (.fap off x) env tl mem nx K = k1 (ro tl env x) (fapD off) mem nx K := (rfl)
@[simp] theorem ldp_eq {g : Bool} {n : Nat} {cs : List D} : ldpD g n (.pt cs) = ldD [] g n (.pt cs) := (rfl)
@[simp] theorem fap_eq {off : Nat} {cs : List D} : fapD off (.pt cs) = faD [] off (.pt cs) := (rfl)
@[simp] theorem sI_fa {off : Nat} {x : Opd} : stepI C id (.fa off x) env tl mem nx K = k1 (ro tl env x) (faD mem off) mem nx K := (rfl)
@[simp] theorem sI_fld {g : Bool} {n off : Nat} {x : Opd} : stepI C id (.fld g n off x) env tl mem nx K = k1 (ro tl env x) (fldD g n off) mem nx K := (rfl)
@[simp] theorem sI_ia {k : Nat} {x i : Opd} : stepI C id (.ia k x i) env tl mem nx K = k2 (ro tl env x) (ro tl env i) (iaD mem k) mem nx K := (rfl)
@[simp] theorem sI_ext {i : Nat} {x : Opd} : stepI C id (.ext i x) env tl mem nx K = k1 (ro tl env x) (extD i) mem nx K := (rfl)
@[simp] theorem sI_len {s : Bool} {x : Opd} : stepI C id (.len s x) env tl mem nx K = k1 (ro tl env x) (lenD mem s) mem nx K := (rfl)
@[simp] theorem sI_bi {b : Builtin} {xs : List Opd} : stepI C id (.bi b xs) env tl mem nx K = kl (ros tl env xs) (biD C.P b) mem nx K := (rfl)
@[simp] theorem sI_sls {s : Bool} {k : Nat} {x : Opd} {lo hi : Option Opd} : stepI C id (.sls s k x lo hi) env tl mem nx K = k0 (slsO mem s k (ro tl env x) (roo tl env lo) (roo tl env hi)) mem nx K := (rfl)
@[simp] theorem sI_mkf {f : FuncId} {cs : List Opd} : stepI C id (.mkf f cs) env tl mem nx K = kl (ros tl env cs) (mkfD f) mem nx K := (rfl)
@[simp] theorem sI_bxi {x : Opd} : stepI C id (.bxi x) env tl mem nx K = k1 (ro tl env x) bxiD mem nx K := (rfl)
@[simp] theorem sI_mki {k bytes : Nat} {z : List Value} {n : Opd} : stepI C id (.mki k bytes z n) env tl mem nx K = k1 (ro tl env n) (mkiD bytes z) mem nx K := (rfl)
@[simp] theorem sI_pc {f : Opd} {xs : List Opd} : stepI C id (.pc f xs) env tl mem nx K = pcK C.P (ro tl env f) (ros tl env xs) mem nx K := (rfl)
@[simp] theorem sI_al {z : List Value} : stepI C id (.al z) env tl mem nx K = K (.opt id 0) ((id, .box (z.map .pl)) :: mem) nx := (rfl)
@[simp] theorem sI_bx {x : Opd} : stepI C id (.bx x) env tl mem nx K = km (bxM id mem (ro tl env x)) nx K := (rfl)
@[simp] theorem sI_bso {k len : Nat} {z : List Value} {ps : List (Nat × Nat × Opd)} : stepI C id (.bso k len z ps) env tl mem nx K = km (bsoM id mem k len z (rps tl env ps)) nx K := (rfl)
@[simp] theorem sI_mks {k bytes : Nat} {z : List Value} {n : Opd} : stepI C id (.mks k bytes z n) env tl mem nx K = km (mksM id mem k bytes z (ro tl env n)) nx K := (rfl)
@[simp] theorem sI_apn {k bytes : Nat} {z : List Value} {x y : Opd} : stepI C id (.apn k bytes z x y) env tl mem nx K = km (apnM id mem k bytes (ro tl env x) (ro tl env y)) nx K := (rfl)
@[simp] theorem sI_st {n : Nat} {x y : Opd} : stepI C id (.st n x y) env tl mem nx K = km (stM mem n (ro tl env x) (ro tl env y)) nx K := (rfl)
@[simp] theorem sI_sta {n : Nat} {x y : Opd} {ps : List Opd} : stepI C id (.sta n x y ps) env tl mem nx K = km (staM mem n (ro tl env x) (ro tl env y) (ros tl env ps)) nx K := (rfl)
@[simp] theorem sI_app {k bytes : Nat} {z : List Value} {x y : Opd} : stepI C id (.app k bytes z x y) env tl mem nx K = km (appM id mem k bytes (ro tl env x) (ro tl env y)) nx K := (rfl)
@[simp] theorem sI_iaa {len k : Nat} {x i : Opd} : stepI C id (.iaa len k x i) env tl mem nx K = k2 (ro tl env x) (ro tl env i) (iaaD mem len k) mem nx K := (rfl)
@[simp] theorem sI_ixs {x i : Opd} : stepI C id (.ixs x i) env tl mem nx K = k2 (ro tl env x) (ro tl env i) ixsD mem nx K := (rfl)
@[simp] theorem sI_lk {kd : Option IntKind} {z : Value} {two : Bool} {m k : Opd} : stepI C id (.lk kd z two m k) env tl mem nx K = k2 (ro tl env m) (ro tl env k) (lkD mem kd z two) mem nx K := (rfl)
@[simp] theorem sI_lnm {x : Opd} : stepI C id (.lnm x) env tl mem nx K = k1 (ro tl env x) (lnmD mem) mem nx K := (rfl)
@[simp] theorem sI_mkm : stepI C id .mkm env tl mem nx K = K (.omap id) ((id, .map []) :: mem) nx := (rfl)
@[simp] theorem sI_cvo {x : Opd} : stepI C id (.cvo x) env tl mem nx K = km (cvoM mem (ro tl env x)) nx K := (rfl)
@[simp] theorem sI_mup {kd : Option IntKind} {m k v : Opd} : stepI C id (.mup kd m k v) env tl mem nx K = km (mupM mem kd (ro tl env m) (ro tl env k) (ro tl env v)) nx K := (rfl)
@[simp] theorem sI_cln {f : Opd} {xs : List Opd} : stepI C id (.cln f xs) env tl mem nx K = clK C.P (ro tl env f) (ros tl env xs) mem nx (fun d m n => memKeeps mem m ∧ K d m n) := (rfl)
@[simp] theorem sI_cl {f : Opd} {xs : List Opd} : stepI C id (.cl f xs) env tl mem nx K = clK C.P (ro tl env f) (ros tl env xs) mem nx K := (rfl)

/-! Operations on bits, under names: so that rewriting leaves them be. -/
def bAnd (k : IntKind) (a b : Int) : Int := k.wrap (BitVec.ofInt k.bits a &&& BitVec.ofInt k.bits b).toNat
def bOr (k : IntKind) (a b : Int) : Int := k.wrap (BitVec.ofInt k.bits a ||| BitVec.ofInt k.bits b).toNat
def bXor (k : IntKind) (a b : Int) : Int := k.wrap (BitVec.ofInt k.bits a ^^^ BitVec.ofInt k.bits b).toNat
def bClr (k : IntKind) (a b : Int) : Int := k.wrap (BitVec.ofInt k.bits a &&& ~~~(BitVec.ofInt k.bits b)).toNat
def bNot (k : IntKind) (n : Int) : Int := k.wrap (BitVec.ofInt k.bits (if k.signed then -1 else k.max) ^^^ BitVec.ofInt k.bits n).toNat
def bShl (k : IntKind) (a b : Int) : Int := k.wrap (a * 2 ^ min b.toNat k.bits)
def bShr (k : IntKind) (a b : Int) : Int := a.fdiv (2 ^ min b.toNat k.bits)

/-! #### Values -/
@[simp] theorem bin_add {ty : TypeId} {k : IntKind} {a b : Int} : binD P .add ty (.pl (.int k a)) (.pl (.int k b)) = some (.pl (.int k (k.wrap (a + b)))) := by simp [binD, lit, binOp, Op.intArith, Sem.look, Pure.pure]
@[simp] theorem bin_sub {ty : TypeId} {k : IntKind} {a b : Int} : binD P .sub ty (.pl (.int k a)) (.pl (.int k b)) = some (.pl (.int k (k.wrap (a - b)))) := by simp [binD, lit, binOp, Op.intArith, Sem.look, Pure.pure]
@[simp] theorem bin_mul {ty : TypeId} {k : IntKind} {a b : Int} : binD P .mul ty (.pl (.int k a)) (.pl (.int k b)) = some (.pl (.int k (k.wrap (a * b)))) := by simp [binD, lit, binOp, Op.intArith, Sem.look, Pure.pure]
theorem look_panic {α : Type} {m : String} : Sem.look P (runtimePanic (α := α) (.error m)) = none := by simp [runtimePanic, program, Sem.look, Bind.bind, Sem.bind, goPanic]
@[simp] theorem bin_quo {ty : TypeId} {k : IntKind} {a b : Int} : binD P .quo ty (.pl (.int k a)) (.pl (.int k b)) = if b ≠ 0 then some (.pl (.int k (k.wrap (a.tdiv b)))) else none := by
  by_cases h : b = 0
  · simp [binD, lit, binOp, Op.intDiv, h, look_panic]
  · simp [binD, lit, binOp, Op.intDiv, h, Sem.look, Pure.pure]
@[simp] theorem bin_rem {ty : TypeId} {k : IntKind} {a b : Int} : binD P .rem ty (.pl (.int k a)) (.pl (.int k b)) = if b ≠ 0 then some (.pl (.int k (a.tmod b))) else none := by
  by_cases h : b = 0
  · simp [binD, lit, binOp, Op.intDiv, h, look_panic]
  · simp [binD, lit, binOp, Op.intDiv, h, Sem.look, Pure.pure]
@[simp] theorem bin_and {ty : TypeId} {k : IntKind} {a b : Int} : binD P .and ty (.pl (.int k a)) (.pl (.int k b)) = some (.pl (.int k (bAnd k a b))) := by simp [bAnd, binD, lit, binOp, Op.intBits, Sem.look, Pure.pure]
@[simp] theorem bin_or {ty : TypeId} {k : IntKind} {a b : Int} : binD P .or ty (.pl (.int k a)) (.pl (.int k b)) = some (.pl (.int k (bOr k a b))) := by simp [bOr, binD, lit, binOp, Op.intBits, Sem.look, Pure.pure]
@[simp] theorem bin_xor {ty : TypeId} {k : IntKind} {a b : Int} : binD P .xor ty (.pl (.int k a)) (.pl (.int k b)) = some (.pl (.int k (bXor k a b))) := by simp [bXor, binD, lit, binOp, Op.intBits, Sem.look, Pure.pure]
@[simp] theorem bin_andNot {ty : TypeId} {k : IntKind} {a b : Int} : binD P .andNot ty (.pl (.int k a)) (.pl (.int k b)) = some (.pl (.int k (bClr k a b))) := by simp [bClr, binD, lit, binOp, Op.intBits, Sem.look, Pure.pure]
@[simp] theorem bin_shl {ty : TypeId} {k j : IntKind} {a b : Int} : binD P .shl ty (.pl (.int k a)) (.pl (.int j b)) = if 0 ≤ b then some (.pl (.int k (bShl k a b))) else none := by
  by_cases h : b < 0
  · rw [if_neg (by omega)]; simp [binD, lit, binOp, Op.shift, h, look_panic]
  · rw [if_pos (by omega)]; simp [bShl, bShr, binD, lit, binOp, Op.shift, h, Sem.look, Pure.pure]
@[simp] theorem bin_shr {ty : TypeId} {k j : IntKind} {a b : Int} : binD P .shr ty (.pl (.int k a)) (.pl (.int j b)) = if 0 ≤ b then some (.pl (.int k (bShr k a b))) else none := by
  by_cases h : b < 0
  · rw [if_neg (by omega)]; simp [binD, lit, binOp, Op.shift, h, look_panic]
  · rw [if_pos (by omega)]; simp [bShl, bShr, binD, lit, binOp, Op.shift, h, Sem.look, Pure.pure]
@[simp] theorem bin_eql {ty : TypeId} {k : IntKind} {a b : Int} : binD P .eql ty (.pl (.int k a)) (.pl (.int k b)) = some (.pl (.bool (decide (a = b)))) := by simp [binD, lit, binOp, Op.intCmp, Sem.look, Pure.pure]; rfl
@[simp] theorem bin_neq {ty : TypeId} {k : IntKind} {a b : Int} : binD P .neq ty (.pl (.int k a)) (.pl (.int k b)) = some (.pl (.bool (!decide (a = b)))) := by simp [binD, lit, binOp, Op.intCmp, Sem.look, Pure.pure]; rfl
@[simp] theorem bin_lss {ty : TypeId} {k : IntKind} {a b : Int} : binD P .lss ty (.pl (.int k a)) (.pl (.int k b)) = some (.pl (.bool (decide (a < b)))) := by simp [binD, lit, binOp, Op.intCmp, Sem.look, Pure.pure]
@[simp] theorem bin_leq {ty : TypeId} {k : IntKind} {a b : Int} : binD P .leq ty (.pl (.int k a)) (.pl (.int k b)) = some (.pl (.bool (decide (a ≤ b)))) := by simp [binD, lit, binOp, Op.intCmp, Sem.look, Pure.pure]
@[simp] theorem bin_gtr {ty : TypeId} {k : IntKind} {a b : Int} : binD P .gtr ty (.pl (.int k a)) (.pl (.int k b)) = some (.pl (.bool (decide (b < a)))) := by simp [binD, lit, binOp, Op.intCmp, Sem.look, Pure.pure]
@[simp] theorem bin_geq {ty : TypeId} {k : IntKind} {a b : Int} : binD P .geq ty (.pl (.int k a)) (.pl (.int k b)) = some (.pl (.bool (decide (b ≤ a)))) := by simp [binD, lit, binOp, Op.intCmp, Sem.look, Pure.pure]
theorem look_equalB {ty : TypeId} {a b : Bool} (h : P.underlying ty = some .bool) : Sem.look P (Op.equal ty (.bool a) (.bool b)) = some (a == b) := by
  show Sem.look P (Op.equalIn (9999 + 1) ty (.bool a) (.bool b)) = _
  unfold Op.equalIn
  simp [Sem.look, underlying, program, h, Pure.pure, Bind.bind, Sem.bind]
theorem look_bind {α β : Type} (k : α → Sem β) : ∀ (m : Sem α), Sem.look P (m >>= k) = (Sem.look P m).bind fun x => Sem.look P (k x) := by
  intro m
  show Sem.look P (Sem.bind m k) = _
  induction m with
  | pure a => rfl
  | program f ih => exact ih P
  | _ => first | rfl | simp [Sem.bind, Sem.look]
theorem bin_eqlB {ty : TypeId} {a b : Bool} (h : P.underlying ty = some .bool) : binD P .eql ty (.pl (.bool a)) (.pl (.bool b)) = some (.pl (.bool (decide (a = b)))) := by
  simp only [binD, lit, binOp, Bool.and_self, if_true, look_bind, look_equalB h, Option.bind_some]
  simp only [Pure.pure, Sem.look, Option.map_some]
  cases a <;> cases b <;> rfl
theorem bin_neqB {ty : TypeId} {a b : Bool} (h : P.underlying ty = some .bool) : binD P .neq ty (.pl (.bool a)) (.pl (.bool b)) = some (.pl (.bool (!decide (a = b)))) := by
  simp only [binD, lit, binOp, Bool.and_self, if_true, look_bind, look_equalB h, Option.bind_some]
  simp only [Pure.pure, Sem.look, Option.map_some]
  cases a <;> cases b <;> rfl
theorem beq_bytes (a b : ByteArray) : (a == b) = decide (a = b) := by
  rw [Bool.eq_iff_iff, decide_eq_true_eq]
  cases a with | mk x => cases b with | mk y =>
  show (x == y) = true ↔ _
  rw [beq_iff_eq]
  exact ⟨fun h => by rw [h], fun h => by injection h⟩
theorem bytes_eq (a b : ByteArray) : (a.toList == b.toList) = decide (a = b) := by
  rw [Bool.eq_iff_iff, decide_eq_true_eq, beq_iff_eq, Go.ByteArray.toList_eq, Go.ByteArray.toList_eq]
  refine ⟨fun h => ?_, fun h => by rw [h]⟩
  cases a with | mk x => cases b with | mk y =>
  simp only [ByteArray.mk.injEq]
  exact Array.ext' h
theorem look_equalT {ty : TypeId} {a b : ByteArray} (h : P.underlying ty = some .string) : Sem.look P (Op.equal ty (.string a) (.string b)) = some (decide (a = b)) := by
  rw [← beq_bytes]
  show Sem.look P (Op.equalIn (9999 + 1) ty (.string a) (.string b)) = _
  unfold Op.equalIn
  simp [Sem.look, underlying, program, h, Pure.pure, Bind.bind, Sem.bind]
theorem bin_eqlT {ty : TypeId} {a b : ByteArray} (h : P.underlying ty = some .string) : binD P .eql ty (.pl (.string a)) (.pl (.string b)) = some (.pl (.bool (decide (a = b)))) := by
  have : Sem.look P (binOp .eql ty (.string a) (.string b)) = some (.bool (decide (a = b))) := by
    first
    | (simp only [binOp, look_bind, look_equalT h, Option.bind_some]; rfl)
    | (simp [binOp, Op.stringOp, Sem.look, Pure.pure, bytes_eq])
  simp only [binD, lit, Bool.and_self, if_true, this, Option.map_some]
theorem bin_neqT {ty : TypeId} {a b : ByteArray} (h : P.underlying ty = some .string) : binD P .neq ty (.pl (.string a)) (.pl (.string b)) = some (.pl (.bool (!decide (a = b)))) := by
  have : Sem.look P (binOp .neq ty (.string a) (.string b)) = some (.bool (!decide (a = b))) := by
    first
    | (simp only [binOp, look_bind, look_equalT h, Option.bind_some]; rfl)
    | (simp [binOp, Op.stringOp, Sem.look, Pure.pure, bytes_eq, bne])
  simp only [binD, lit, Bool.and_self, if_true, this, Option.map_some]
@[simp] theorem un_not {b : Bool} : unD P .not (.pl (.bool b)) = some (.pl (.bool (!b))) := by simp [unD, lit, Op.unary, Sem.look, Pure.pure]
@[simp] theorem un_neg {k : IntKind} {n : Int} : unD P .neg (.pl (.int k n)) = some (.pl (.int k (k.wrap (0 - n)))) := by simp [unD, lit, Op.unary, Op.intArith, Sem.look, Pure.pure]
@[simp] theorem un_xor {k : IntKind} {n : Int} : unD P .xor (.pl (.int k n)) = some (.pl (.int k (bNot k n))) := by simp [bNot, unD, lit, Op.unary, Op.intBits, Sem.look, Pure.pure]
@[simp] theorem bi_max {k : IntKind} {a b : Int} : biD P .max [.pl (.int k a), .pl (.int k b)] = some (.pl (.int k (max a b))) := by
  have : (if a < b then b else a) = max a b := by rw [Int.max_def]; split <;> split <;> omega
  simp [biD, D.vals, D.val, lit, Builtin.max_, Builtin.max2, Sem.look, Pure.pure, this, Bind.bind, Sem.bind]
@[simp] theorem bi_min {k : IntKind} {a b : Int} : biD P .min [.pl (.int k a), .pl (.int k b)] = some (.pl (.int k (min a b))) := by
  have : (if b < a then b else a) = min a b := by rw [Int.min_def]; split <;> split <;> omega
  simp [biD, D.vals, D.val, lit, Builtin.min_, Builtin.min2, Sem.look, Pure.pure, this, Bind.bind, Sem.bind]
@[simp] theorem pick_t {a b : Option D} : pickD a b (.pl (.bool true)) = a := (rfl)
@[simp] theorem pick_f {a b : Option D} : pickD a b (.pl (.bool false)) = b := (rfl)

attribute [simp] iaaD zD kOk staM apartD D.hd mkv faD D.cells D.cell D.solid bxiD lenD fldD extD chkD ros rps roo slsO mkfD bldD fillD place bslI bslD chunks bxM bsoM mksM mkiD apnM appM cvoM D.roomless els cur curv upd_nil bound
  D.imm D.imms D.immss resL resV fin tupOf frz frzs RetQ env0 D.vals D.val

section
variable {n off i id ver lo : Nat} {cs new : List D} {g : Bool} {x : D}
@[simp] theorem bind_ite {α β : Type} {p : Prop} [Decidable p] {o : Option α} {f : α → Option β} : (if p then o else none).bind f = if p then o.bind f else none := by by_cases h : p <;> simp [h]
@[simp 900] theorem k0_ite {p : Prop} [Decidable p] {o : Option D} : k0 (if p then o else none) mem nx K = (p ∧ k0 o mem nx K) := by by_cases h : p <;> simp [h, k0]
@[simp 900] theorem km_ite {p : Prop} [Decidable p] {o : Option (D × Mem)} : km (if p then o else none) nx K = (p ∧ km o nx K) := by by_cases h : p <;> simp [h, km]
@[simp] theorem rdc_pt : rdc mem n (.pt cs) = if n ≤ cs.length then some (cs.take n) else none := (rfl)
def boxOf : Blk → Option (List D)
  | .box cs => some cs
  | _ => none
def arrOf (ver : Nat) : Blk → Option (Nat × List (List D))
  | .arr v k es => if v = ver then some (k, es) else none
  | _ => none
@[simp] theorem boxOf_box : boxOf (.box cs) = some cs := (rfl)
@[simp] theorem arrOf_arr {v k : Nat} {es : List (List D)} : arrOf ver (.arr v k es) = if v = ver then some (k, es) else none := (rfl)
@[simp] theorem rdc_opt : rdc mem n (.opt id off) = (look mem id).bind fun b => (boxOf b).bind fun cs => if off + n ≤ cs.length then some ((cs.drop off).take n) else none := by
  simp only [rdc]
  cases look mem id with
  | none => rfl
  | some b => cases b <;> rfl
@[simp] theorem rdc_oel : rdc mem n (.oel id ver i off) = (look mem id).bind fun b => (arrOf ver b).bind fun p => p.2[i]?.bind fun e => if off + n ≤ e.length then some ((e.drop off).take n) else none := by
  simp only [rdc]
  cases look mem id with
  | none => rfl
  | some b =>
    cases b with
    | arr v k es =>
      simp only [Option.bind_some, arrOf_arr, bind_ite]
      split
      · cases es[i]? <;> rfl
      · rfl
    | _ => rfl
@[simp] theorem ld_eq : ldD mem g n x = (rdc mem n x).bind (mkv g) := by unfold ldD; cases rdc mem n x <;> rfl
@[simp] theorem wrc_opt : wrc mem n (.opt id off) new = if new.length = n ∧ new.all D.cell = true then (look mem id).bind fun b => (boxOf b).bind fun cs => if off + n ≤ cs.length then some (upd mem id (.box (place off cs new))) else none else none := by
  simp only [wrc]
  split
  · cases look mem id with
    | none => rfl
    | some b => cases b <;> rfl
  · rfl
@[simp] theorem wrc_oel : wrc mem n (.oel id ver i off) new = if new.length = n ∧ new.all D.cell = true then (look mem id).bind fun b => (arrOf ver b).bind fun p => p.2[i]?.bind fun e => if off + n ≤ e.length then some (upd mem id (.arr ver p.1 (p.2.set i (place off e new)))) else none else none := by
  simp only [wrc]
  split
  · cases look mem id with
    | none => rfl
    | some b =>
      cases b with
      | arr v k es =>
        simp only [Option.bind_some, arrOf_arr, bind_ite]
        split
        · rename_i h; subst h; cases es[i]? <;> rfl
        · rfl
      | _ => rfl
  · rfl
@[simp] theorem stM_some {a : D} : stM mem n (some a) (some x) = (wrc mem n a x.cells).bind fun m => some (.top, m) := by simp only [stM]; cases wrc mem n a x.cells <;> rfl
@[simp] theorem ia_osl {k : Nat} {j : IntKind} {i : Int} : iaD mem k (.osl id ver lo n) (.pl (.int j i)) = if cur mem id ver k = true then (if 0 ≤ i ∧ i < n then some (.oel id ver (lo + i.toNat) 0) else none) else none := (rfl)
end

theorem cv_int {s d : TypeId} {k j : IntKind} {n : Int} (hs : P.underlying s = some (.int k)) (hd : P.underlying d = some (.int j)) : cvD P s d (.pl (.int k n)) = some (.pl (.int j (j.wrap n))) := by
  simp [cvD, lit, convert, underlying, program, Bind.bind, Sem.bind, Sem.look, hs, hd, Pure.pure, Conv.intToInt]

theorem get_map {α : Type} [Inhabited α] (f : α → List D) (l : List α) (i : Nat) : (l.map f)[i]? = if i < l.length then some (f (l[i]?.getD default)) else none := by
  by_cases h : i < l.length
  · simp [h]
  · rw [if_neg h]; simp; omega

/-- An element of a slice that is read as a list. -/
theorem ia_map {α : Type} [Inhabited α] {f : α → List D} {l : List α} {k : Nat} {j : IntKind} {i : Int} (hk : ∀ x, (f x).length = k) :
    iaD mem k (.sl (l.map f)) (.pl (.int j i)) = if 0 ≤ i ∧ i < l.length then some (.pt (f (l.getD i.toNat default))) else none := by
  simp only [iaD, List.length_map]
  by_cases h : 0 ≤ i ∧ i < l.length
  · have hi : i.toNat < l.length := by omega
    rw [if_pos h, if_pos h]
    simp [List.getElem?_map, List.getElem?_eq_getElem hi, hk, List.getD_eq_getElem?_getD]
  · rw [if_neg h, if_neg h]
end
end Go.Fx

/-
  What an argument reads as, as a deep value: by its type's shape.
-/






set_option linter.all false
namespace Go.Fx
open Go

def WtS (R : TypeId → List D → Prop) : List TypeId → List D → Prop
  | [], ds => ds = []
  | t :: ts, ds => ∃ c r, ds = c ++ r ∧ R t c ∧ WtS R ts r

/-- The cells of a value of type t, as deep values. -/
def Wt (P : Program) : Nat → TypeId → List D → Prop
  | 0, _, _ => False
  | n + 1, t, ds => match P.underlying t with
    | some .bool => ∃ b, ds = [.pl (.bool b)]
    | some (.int k) => ∃ x, ds = [.pl (.int k x)] ∧ (Lit.int k x).wf = true
    | some (.float k) => ∃ b, ds = [.pl (.float k b)] ∧ (Lit.float k b).wf = true
    | some .string => ∃ s, ds = [.pl (.string s)] ∧ s.size ≤ reachBytes
    | some (.pointer e) => ds = [.pl (.pointer none)] ∨ ∃ cs, ds = [.pt cs] ∧ Wt P n e cs
    | some (.slice e) => ∃ es : List (List D), ds = [.sl es] ∧ es.length * P.bytesOf e ≤ reachBytes ∧ ∀ c ∈ es, Wt P n e c
    | some (.struct fs) => WtS (Wt P n) (fs.toList.map (·.type)) ds
    | some (.array m e) => WtS (Wt P n) (List.replicate m e) ds
    | _ => ds = [.top]

section
variable {H : Type} {enc : TypeId × Value → H} {P : Program} {w : World} {S : Nat → Prop} {φ : Locs}

theorem cells?_out {base n : Nat} {a : Addr} {cs : List Value} (h : w.cells? base a n = some cs) : cs.length = n ∧ ∀ i, i < n → w.cell? (a.add i) = cs[i]? := by
  unfold World.cells? at h
  split at h
  · exact ⟨by simpa using mapM_some_length h, fun i hi => mapM_some_get h i i (by simp [hi])⟩
  · simp at h

theorem cell?_lt {a : Addr} {v : Value} (h : w.cell? a = some v) : a.block < w.heap.size ∧ a.spot = none := by
  unfold World.cell? at h
  split at h
  · rename_i c _ _ hc
    split at h
    · simp at h
    · rename_i hs
      exact ⟨(Array.getElem?_eq_some_iff.1 hc).1, by simpa using hs⟩
  · simp at h

theorem RepCs_of {b : Nat} : ∀ (ds : List D) (cs : List Value) (o : Nat), RepVs w S φ ds cs → (∀ i, i < cs.length → w.cell? ⟨b, o + i, none⟩ = cs[i]?) → RepCs w S φ ds b o
  | [], cs, o, _, _ => by simp [RepCs]
  | d :: ds, cs, o, h, hc => by
    simp only [RepVs] at h
    obtain ⟨x, r, rfl, h1, h2⟩ := h
    simp only [RepCs]
    exact ⟨⟨x, by simpa using hc 0 (by simp), h1⟩, RepCs_of ds r (o + 1) h2 fun i hi => by
      have := hc (i + 1) (by simpa using hi)
      rw [show o + (i + 1) = o + 1 + i by omega] at this
      simpa using this⟩

theorem RepVs_app : ∀ (ds es : List D) (xs ys : List Value), RepVs w S φ ds xs → RepVs w S φ es ys → RepVs w S φ (ds ++ es) (xs ++ ys)
  | [], es, xs, ys, h, k => by simp only [RepVs] at h; subst h; simpa using k
  | d :: ds, es, xs, ys, h, k => by
    simp only [RepVs, List.cons_append] at h ⊢
    obtain ⟨x, r, rfl, h1, h2⟩ := h
    exact ⟨x, r ++ ys, rfl, h1, RepVs_app ds es r ys h2 k⟩

/-- Cells that follow one another, part by part. -/
theorem parts_read {T : TypeId → Prop} {R : TypeId → List D → Prop} {W : TypeId → DataW H → Prop} {rd : TypeId → List Value → Option (DataW H × List MemPlace)}
    (ih : ∀ (t : TypeId) (cs : List Value) (x : DataW H × List MemPlace), rd t cs = some x → W t x.1 → T t → ∃ ds, R t ds ∧ RepVs w S φ ds cs) :
    ∀ (ts : List TypeId) (xs : List (DataW H × List MemPlace)) (cs : List Value), xs.length = ts.length → cs.length = (ts.map P.cellsOf).sum → (∀ t ∈ ts, T t) →
      (∀ (i : Nat) (t : TypeId) (x : DataW H × List MemPlace), ts[i]? = some t → xs[i]? = some x → W t x.1) →
      (∀ (i : Nat) (t : TypeId), ts[i]? = some t → rd t ((cs.drop ((ts.take i).map P.cellsOf).sum).take (P.cellsOf t)) = xs[i]?) → ∃ ds, WtS R ts ds ∧ RepVs w S φ ds cs
  | [], xs, cs, _, hl, _, _, _ => ⟨[], rfl, by
      simp only [List.map_nil, List.sum_nil] at hl
      simp [RepVs, List.eq_nil_of_length_eq_zero hl]⟩
  | t :: ts, [], cs, hx, _, _, _, _ => by simp at hx
  | t :: ts, x :: xs, cs, hx, hl, hv, hw, h => by
    have h0 := h 0 t rfl
    simp only [List.take_zero, List.map_nil, List.sum_nil, List.drop_zero, List.getElem?_cons_zero] at h0
    obtain ⟨c, hc, hr⟩ := ih _ _ _ h0 (hw 0 t x rfl rfl) (hv t (by simp))
    obtain ⟨r, hr1, hr2⟩ := parts_read ih ts xs (cs.drop (P.cellsOf t)) (by simpa using hx) (by simp at hl ⊢; omega) (fun u hu => hv u (by simp [hu])) (fun i u x h1 h2 => hw (i + 1) u x (by simpa using h1) (by simpa using h2)) (fun i u hu => by
      have := h (i + 1) u (by simpa using hu)
      simpa [List.take_succ_cons, List.map_cons, List.sum_cons, List.drop_drop] using this)
    refine ⟨c ++ r, ⟨c, r, rfl, hc, hr1⟩, ?_⟩
    have := RepVs_app _ _ _ _ hr hr2
    simpa [List.take_append_drop] using this

theorem weights_each {n : Nat} : ∀ (ts : List TypeId) (ds : List (DataW H)), (DataW.weightsEach P ts ds).all (· ≤ n) = true → ∀ (i : Nat) (t : TypeId) (x : DataW H), ts[i]? = some t → ds[i]? = some x → (x.weights P t).all (· ≤ n) = true
  | [], _, _, i, t, x, h, _ => by simp at h
  | _ :: _, [], _, i, t, x, _, h => by simp at h
  | t :: ts, d :: ds, hw, 0, u, x, h1, h2 => by
    simp only [List.getElem?_cons_zero, Option.some.injEq] at h1 h2; subst h1 h2
    simp only [DataW.weightsEach, List.all_append, Bool.and_eq_true] at hw
    exact hw.1
  | t :: ts, d :: ds, hw, i + 1, u, x, h1, h2 => by
    simp only [DataW.weightsEach, List.all_append, Bool.and_eq_true] at hw
    exact weights_each ts ds hw.2 i u x (by simpa using h1) (by simpa using h2)

theorem weights_all {n : Nat} {e : TypeId} : ∀ (ds : List (DataW H)), (DataW.weightsAll P e ds).all (· ≤ n) = true → ∀ x ∈ ds, (x.weights P e).all (· ≤ n) = true
  | [], _, x, h => by simp at h
  | d :: ds, hw, x, h => by
    simp only [DataW.weightsAll, List.all_append, Bool.and_eq_true] at hw
    rcases List.mem_cons.1 h with rfl | h
    · exact hw.1
    · exact weights_all ds hw.2 x h

/-- The elements of a slice. -/
theorem elems_read {R : List D → Prop} {W : DataW H → Prop} {rd : List Value → Option (DataW H × List MemPlace)} {k b : Nat}
    (ih : ∀ (cs : List Value) (x : DataW H × List MemPlace), rd cs = some x → W x.1 → ∃ ds, R ds ∧ RepVs w S φ ds cs) :
    ∀ (xs : List (DataW H × List MemPlace)) (o : Nat), (∀ x ∈ xs, W x.1) →
      (∀ i, i < xs.length → (w.cells? 0 ⟨b, o + i * k, none⟩ k).bind rd = xs[i]?) → ∃ es : List (List D), es.length = xs.length ∧ (∀ c ∈ es, R c) ∧ RepEs w S φ es k b o
  | [], o, _, _ => ⟨[], rfl, by simp, by simp [RepEs]⟩
  | x :: xs, o, hw, h => by
    have h0 := h 0 (by simp)
    simp only [Nat.zero_mul, Nat.add_zero, List.getElem?_cons_zero, Option.bind_eq_some_iff] at h0
    obtain ⟨cs, hcs, hrd⟩ := h0
    obtain ⟨hl, hc⟩ := cells?_out hcs
    obtain ⟨ds, hR, hrep⟩ := ih _ _ hrd (hw x (by simp))
    obtain ⟨es, h1, h2, h3⟩ := elems_read ih xs (o + k) (fun y hy => hw y (by simp [hy])) (fun i hi => by
      have := h (i + 1) (by simpa using hi)
      rw [show o + (i + 1) * k = o + k + i * k by rw [Nat.succ_mul]; omega] at this
      simpa using this)
    refine ⟨ds :: es, by simp [h1], by simpa using ⟨hR, h2⟩, ?_⟩
    simp only [RepEs]
    exact ⟨(RepVs_length _ _ hrep).symm.trans hl, RepCs_of _ _ _ hrep (fun i hi => by simpa [Addr.add_mid] using hc i (by omega)), h3⟩

set_option maxHeartbeats 2000000 in
theorem read_ds (hl : laidOutB P = true) {t0 : TypeId} (hp : P.readableRec t0 = true) : ∀ (n : Nat) (t : TypeId) (cs : List Value) (x : DataW H × List MemPlace), DataW.trod enc P w 0 (fun _ => true) true n t cs = some x →
    (x.1.weights P t).all (· ≤ reachBytes) = true → isVar P t = true ∧ t ∈ P.book t0 → ∃ ds, Wt P n t ds ∧ RepVs w (· < w.heap.size) φ ds cs
  | 0, t, cs, x, h, _, _ => by simp [DataW.trod] at h
  | n + 1, t, cs, x, h, hw, hv => by
    obtain ⟨hv, hbk⟩ := hv
    have hkid : P.fineRow t = true ∧ ∀ u ∈ P.partsOf t, u ∈ P.book t0 := by
      have := List.all_eq_true.1 hp t hbk
      simp only [Bool.and_eq_true, List.all_eq_true, List.contains_iff_mem] at this
      exact ⟨this.1, fun u hu => by simpa using this.2 u hu⟩
    have hlt : t < P.types.size := by simp only [isVar, Bool.and_eq_true, decide_eq_true_eq] at hv; exact hv.1
    have hfine := rowFine_of hl hlt
    have ih := read_ds hl hp n
    simp only [Wt]
    cases hu : P.underlying t with
    | none => simp [isVar, hu, kindOk] at hv
    | some td =>
      cases td with
      | bool =>
        obtain ⟨b, rfl, rfl⟩ := DataW.trod_bool hu h
        exact ⟨_, ⟨b, rfl⟩, by simp [RepVs, Rep]⟩
      | int k =>
        obtain ⟨z, rfl, rfl, hz⟩ := DataW.trod_int hu h
        exact ⟨_, ⟨z, rfl, hz⟩, by simp [RepVs, Rep]⟩
      | float k =>
        have : ∃ b, cs = [.float k b] ∧ (Lit.float k b).wf = true := by
          unfold DataW.trod at h
          rw [hu] at h
          split at h <;> simp_all
        obtain ⟨b, rfl, hb⟩ := this
        exact ⟨_, ⟨b, rfl, hb⟩, by simp [RepVs, Rep]⟩
      | string =>
        obtain ⟨s, rfl, rfl, hs⟩ := DataW.trod_string hu h
        exact ⟨_, ⟨s, rfl, by simpa [DataW.weights] using hw⟩, by simp [RepVs, Rep]⟩
      | pointer e =>
        rcases DataW.trod_pointer hu h with ⟨rfl, rfl⟩ | ⟨a, cs', y, m, hm, rfl, rfl, hc, hy⟩
        · exact ⟨_, .inl rfl, by simp [RepVs, Rep]⟩
        · simp only [Nat.add_right_cancel_iff] at hm; subst hm
          obtain ⟨hcl, hcc⟩ := cells?_out hc
          simp only [rowFine, hv, hu, Bool.not_true, Bool.false_or, Bool.and_eq_true] at hfine
          obtain ⟨ds, h1, h2⟩ := ih e cs' y hy (by simpa [DataW.weights, hu] using hw) ⟨hfine.1, hkid.2 e (by simp [Program.partsOf, hu])⟩
          have hpos : 0 < P.cellsOf e := by
            have := hkid.1
            simpa [Program.fineRow, hu] using this
          have h0 := hcc 0 hpos
          rw [List.getElem?_eq_getElem (by omega)] at h0
          obtain ⟨hb, hsp⟩ := cell?_lt h0
          obtain ⟨b, o, sp⟩ := a
          have hsp' : sp = none := by simpa [Addr.add] using hsp
          subst hsp'
          have hb' : b < w.heap.size := by simpa [Addr.add_mid] using hb
          refine ⟨_, .inr ⟨ds, rfl, h1⟩, ?_⟩
          simp only [RepVs, Rep]
          exact ⟨_, [], rfl, ⟨b, o, rfl, hb', RepCs_of _ _ _ h2 fun i hi => by simpa [Addr.add_mid] using hcc i (by omega)⟩, rfl⟩
      | slice e =>
        simp only [rowFine, hv, hu, Bool.not_true, Bool.false_or, Bool.and_eq_true] at hfine
        have hpos : 0 < P.cellsOf e := by
          have := hkid.1
          simpa [Program.fineRow, hu] using this
        have hbe : e ∈ P.book t0 := hkid.2 e (by simp [Program.partsOf, hu])
        rcases DataW.trod_slice hu h with ⟨rfl, rfl⟩ | ⟨a, len, cap, elems, rest, m, hm, rfl, rfl, _, hlc, _, hel, helem, hrest, _⟩
        · exact ⟨_, ⟨[], rfl, by simp, by simp⟩, by simp [RepVs, Rep, Zs]⟩
        · simp only [Nat.add_right_cancel_iff] at hm; subst hm
          simp only [DataW.weights, hu, List.all_cons, List.all_append, Bool.and_eq_true, decide_eq_true_eq, List.length_map] at hw
          obtain ⟨hwl, hwe, _⟩ := hw
          by_cases h0 : cap = 0
          · subst h0
            obtain rfl : len = 0 := by omega
            exact ⟨_, ⟨[], rfl, by simp, by simp⟩, by simp [RepVs, Rep, Zs]⟩
          · obtain ⟨v, hv0⟩ : ∃ v, w.cell? a = some v := by
              have key : ∀ y, (w.cells? 0 (a.add (0 * P.cellsOf e)) (P.cellsOf e)).bind (DataW.trod enc P w 0 (fun _ => true) true n e) = some y → ∃ v, w.cell? a = some v := by
                intro y hy
                simp only [Option.bind_eq_some_iff] at hy
                obtain ⟨c, hc, _⟩ := hy
                obtain ⟨hcl, hcc⟩ := cells?_out hc
                have := hcc 0 hpos
                simp only [Nat.zero_mul, Addr.add, Nat.add_zero] at this
                rw [List.getElem?_eq_getElem (by omega)] at this
                exact ⟨_, this⟩
              by_cases hl0 : len = 0
              · obtain ⟨hr1, hr2⟩ := hrest rfl
                have := hr2 0 (by omega)
                rw [hl0, List.getElem?_eq_getElem (by omega)] at this
                exact key _ this
              · have := helem 0 (by omega)
                rw [List.getElem?_eq_getElem (by omega)] at this
                exact key _ this
            obtain ⟨hb, hsp⟩ := cell?_lt hv0
            obtain ⟨b, o, sp⟩ := a
            simp only at hb hsp; subst hsp
            obtain ⟨es, h1, h2, h3⟩ := elems_read (φ := φ) (S := (· < w.heap.size)) (k := P.cellsOf e) (b := b) (R := Wt P n e) (W := fun x => (x.weights P e).all (· ≤ reachBytes) = true) (fun cs x hx hwx => ih e cs x hx hwx ⟨hfine.1, hbe⟩) elems o
              (fun x hx => weights_all _ (by simpa using hwe) x.1 (List.mem_map.2 ⟨x, hx, rfl⟩)) (fun i hi => by simpa [Addr.add_mid] using helem i (by omega))
            refine ⟨_, ⟨es, rfl, ?_, h2⟩, ?_⟩
            · rw [h1]
              exact Nat.le_trans (Nat.mul_le_mul_right _ (by omega)) hwl
            · simp only [RepVs, Rep]
              exact ⟨_, [], rfl, .inr ⟨b, o, cap, _, by rw [h1, hel], by omega, hb, h3⟩, rfl⟩
      | struct fs =>
        simp only [rowFine, hv, hu, Bool.not_true, Bool.false_or, Bool.and_eq_true, beq_iff_eq] at hfine
        obtain ⟨⟨hf1, hf2⟩, hf3⟩ := hfine
        obtain ⟨xs, m, hm, rfl, hcl, hxl, hx⟩ := DataW.trod_struct hu h
        simp only [Nat.add_right_cancel_iff] at hm; subst hm
        simp only [DataW.weights, hu] at hw
        refine parts_read (P := P) (T := fun t => isVar P t = true ∧ t ∈ P.book t0) (W := fun t x => (x.weights P t).all (· ≤ reachBytes) = true) (rd := DataW.trod enc P w 0 (fun _ => true) true n) (fun t cs x hx hwx hvx => ih t cs x hx hwx hvx) (fs.toList.map (·.type)) xs cs (by simpa using hxl) (by rw [hcl, hf2]; simp [List.map_map, Function.comp_def])
          (fun u huu => by
            obtain ⟨f, hf, rfl⟩ := List.mem_map.1 huu
            exact ⟨List.all_eq_true.1 hf1 f hf, hkid.2 f.type (by simp only [Program.partsOf, hu]; exact List.mem_map.2 ⟨f, hf, rfl⟩)⟩)
          (fun i u x h1 h2 => weights_each _ _ hw i u x.1 h1 (by simp [h2])) (fun i u hi => ?_)
        simp only [List.getElem?_map, Option.map_eq_some_iff] at hi
        obtain ⟨f, hf, rfl⟩ := hi
        have h3 := List.all_eq_true.1 hf3 i (by simp; exact (List.getElem?_eq_some_iff.1 hf).1)
        rw [hf] at h3
        simp only [beq_iff_eq] at h3
        have := hx i f (by simpa using hf)
        rw [h3] at this
        rw [← List.map_take, List.map_map]
        exact this
      | array m e =>
        simp only [rowFine, hv, hu, Bool.not_true, Bool.false_or, Bool.and_eq_true, beq_iff_eq] at hfine
        obtain ⟨hf1, hf2⟩ := hfine
        have htk : ∀ i : Nat, ((List.replicate m e).take i).map P.cellsOf = List.replicate (min i m) (P.cellsOf e) := by intro i; simp
        obtain ⟨xs, m', hm', rfl, hcl, hxl, hx⟩ := DataW.trod_array hu h
        simp only [Nat.add_right_cancel_iff] at hm'; subst hm'
        simp only [DataW.weights, hu] at hw
        have hwx : ∀ x ∈ xs, (x.1.weights P e).all (· ≤ reachBytes) = true := fun x hx => weights_all _ hw x.1 (List.mem_map.2 ⟨x, hx, rfl⟩)
        refine parts_read (P := P) (T := fun t => isVar P t = true ∧ t ∈ P.book t0) (W := fun t x => (x.weights P t).all (· ≤ reachBytes) = true) (rd := DataW.trod enc P w 0 (fun _ => true) true n) (fun t cs x hx hwx hvx => ih t cs x hx hwx hvx) (List.replicate m e) xs cs (by simpa using hxl) (by rw [hcl, hf2]; simp)
          (fun u hu => by rw [List.mem_replicate] at hu; rw [hu.2]; exact ⟨hf1, hkid.2 e (by simp [Program.partsOf, *])⟩)
          (fun i u x h1 h2 => by
            rw [List.getElem?_replicate] at h1
            split at h1
            · simp only [Option.some.injEq] at h1; subst h1
              exact hwx x (List.mem_of_getElem? h2)
            · simp at h1) (fun i u hi => ?_)
        rw [List.getElem?_replicate] at hi
        split at hi
        · rename_i him
          simp only [Option.some.injEq] at hi; subst hi
          rw [htk]
          have : min i m = i := by omega
          rw [this]
          simpa using hx i him
        · simp at hi
      | _ =>
        cases cs with
        | nil => simp only [DataW.trod, hu] at h; cases h
        | cons c r =>
          cases r with
          | nil => exact ⟨[.top], rfl, by simp [RepVs, Rep]⟩
          | cons c2 r =>
            exfalso
            first
            | (simp only [DataW.trod, hu] at h; cases h)
            | (simp [isVar, hu, kindOk] at hv)
end
end Go.Fx

/-
  From a law's contract to its row.
-/










set_option linter.all false
namespace Go.Fx
open Go Go.ChangeShapes Go.WideShapes Go.ChangeAt Go.RowKit

/-- An argument's deep value. -/
def Arg (P : Program) (t : TypeId) (x : D) : Prop := ∃ n ds, Wt P n t ds ∧ match P.underlying t with
  | some (.struct _) | some (.array _ _) => x = .agg ds
  | _ => ds = [x]

def Args (P : Program) : List TypeId → List D → Prop
  | [], xs => xs = []
  | t :: ts, xs => ∃ x r, xs = x :: r ∧ Arg P t x ∧ Args P ts r

section
variable {H : Type} {enc : TypeId × Value → H} {P : Program} {w W W' : World}

theorem noAgg {r : Reach} {base : Nat} {t : TypeId} {cs : Array Value} (h : Value.okWide P w r base t (.agg cs)) : (∃ fs, P.underlying t = some (.struct fs)) ∨ ∃ n e, P.underlying t = some (.array n e) := by
  unfold Value.okWide at h
  split at h
  · rename_i fs hf; exact .inl ⟨fs, hf⟩
  · rename_i n e hf; exact .inr ⟨n, e, hf⟩
  · unfold Cell.okWide at h
    split at h <;> try simp_all
    unfold Cell.ok at h
    split at h <;> simp_all

theorem read_arg {r : Reach} {base : Nat} (hl : laidOutB P = true) {t : TypeId} {v : Value} {d : DataW H} {ps : List MemPlace} (hp : P.readableRec t = true) (hv : isVar P t = true) (hval : Value.okWide P w r base t v)
    (h : DataW.Trod enc P w 0 (fun _ => true) true t v d ps) (hw : (d.weights P t).all (· ≤ reachBytes) = true) : ∃ x, Arg P t x ∧ Rep w (· < w.heap.size) noLocs x v := by
  obtain ⟨n, hn⟩ := h
  obtain ⟨ds, h1, h2⟩ := read_ds (φ := noLocs) hl hp n t _ _ hn hw ⟨hv, book_self t⟩
  by_cases hag : (∃ fs, P.underlying t = some (.struct fs)) ∨ ∃ n e, P.underlying t = some (.array n e)
  · have : ∃ cs, v = .agg cs := by
      unfold Value.okWide at hval
      rcases hag with ⟨fs, hf⟩ | ⟨m, e, hf⟩
      · rw [hf] at hval; obtain ⟨cs, h, _⟩ := hval; exact ⟨cs, h⟩
      · rw [hf] at hval; obtain ⟨cs, h, _⟩ := hval; exact ⟨cs, h⟩
    obtain ⟨cs, rfl⟩ := this
    refine ⟨.agg ds, ⟨n, ds, h1, ?_⟩, ?_⟩
    · rcases hag with ⟨fs, hf⟩ | ⟨m, e, hf⟩ <;> simp [hf]
    · simp only [Rep]; exact ⟨cs, rfl, by simpa [Value.cells] using h2⟩
  · have hc : v.cells = #[v] := by
      cases v <;> try rfl
      exact absurd (noAgg hval) hag
    rw [hc] at h2
    cases ds with
    | nil => simp [RepVs] at h2
    | cons x r =>
      simp only [RepVs, List.cons.injEq] at h2
      obtain ⟨y, r', ⟨rfl, rfl⟩, hx, hr⟩ := h2
      cases r with
      | cons _ _ => simp [RepVs] at hr
      | nil =>
        refine ⟨x, ⟨n, [x], h1, ?_⟩, hx⟩
        split
        · rename_i fs hf; exact absurd (.inl ⟨fs, hf⟩) hag
        · rename_i m e hf; exact absurd (.inr ⟨m, e, hf⟩) hag
        · rfl

theorem read_args {r : Reach} {base : Nat} (hl : laidOutB P = true) : ∀ {ts : List TypeId} {vs : List Value} {ds : List (DataW H)} {ps : List MemPlace}, (∀ t ∈ ts, isVar P t = true ∧ P.readableRec t = true) →
    (∀ (j : Nat) t v, ts[j]? = some t → vs[j]? = some v → Value.okWide P w r base t v) →
    DataW.TrodAll enc P w 0 (fun _ => true) true ts vs ds ps → (DataW.weightsEach P ts ds).all (· ≤ reachBytes) = true → ∃ xs, Args P ts xs ∧ RepVs w (· < w.heap.size) noLocs xs vs
  | [], [], [], _, _, _, _, _ => ⟨[], rfl, by simp [RepVs]⟩
  | t :: ts, v :: vs, d :: ds, _, hv, hval, ⟨p, q, h1, h2, _⟩, hw => by
    simp only [DataW.weightsEach, List.all_append, Bool.and_eq_true] at hw
    obtain ⟨x, hx, hr⟩ := read_arg hl (hv t (by simp)).2 (hv t (by simp)).1 (hval 0 t v rfl rfl) h1 hw.1
    obtain ⟨xs, hxs, hrs⟩ := read_args hl (fun u hu => hv u (by simp [hu])) (fun j u v hu hv => hval (j + 1) u v (by simpa using hu) (by simpa using hv)) h2 hw.2
    exact ⟨x :: xs, ⟨x, xs, rfl, hx, hxs⟩, by simp only [RepVs]; exact ⟨v, vs, rfl, hr, hrs⟩⟩
  | [], [], _ :: _, _, _, _, h, _ => h.elim
  | [], _ :: _, _, _, _, _, h, _ => h.elim
  | _ :: _, [], _, _, _, _, h, _ => h.elim
  | _ :: _, _ :: _, [], _, _, _, h, _ => h.elim

theorem back_args (hl : laidOutB P = true) (hb : Below W.heap.size W W') : ∀ {ts : List TypeId} {vs : List Value} {ds : List (DataW H)} {ps : List MemPlace}, (∀ t ∈ ts, P.readableRec t = true ∧ t < P.types.size) →
    DataW.TrodAll enc P W 0 (fun _ => true) true ts vs ds ps → DataW.TrodAll enc P W' 0 (fun b => decide (b < W.heap.size)) true ts vs ds ps
  | [], [], [], _, _, h => h
  | t :: ts, v :: vs, d :: ds, _, hr, ⟨p, q, h1, h2, e⟩ =>
    ⟨p, q, Below.trod hl (hr t (by simp)).1 (hr t (by simp)).2 h1 hb (by obtain ⟨m, hm⟩ := h1; exact DataW.trod_lt m _ _ _ hm), back_args hl hb (fun u hu => hr u (by simp [hu])) h2, e⟩
  | [], [], _ :: _, _, _, h => h.elim
  | [], _ :: _, _, _, _, h => h.elim
  | _ :: _, [], _, _, _, h => h.elim
  | _ :: _, _ :: _, [], _, _, h => h.elim

theorem trodAll_len {base : Nat} {sp : Nat → Bool} {hd : Bool} : ∀ {ts : List TypeId} {vs : List Value} {ds : List (DataW H)} {ps : List MemPlace}, DataW.TrodAll enc P w base sp hd ts vs ds ps → ds.length = ts.length
  | [], [], [], _, _ => rfl
  | t :: ts, v :: vs, d :: ds, _, ⟨p, q, _, h2, _⟩ => by simpa using trodAll_len h2
  | [], [], _ :: _, _, h => h.elim
  | [], _ :: _, _, _, h => h.elim
  | _ :: _, [], _, _, h => h.elim
  | _ :: _, _ :: _, [], _, h => h.elim

theorem weights_app : ∀ (ts us : List TypeId) (ds es : List (DataW H)), ds.length = ts.length → (DataW.weightsEach P (ts ++ us) (ds ++ es)).all (· ≤ reachBytes) = true → (DataW.weightsEach P ts ds).all (· ≤ reachBytes) = true
  | [], us, [], es, _, _ => rfl
  | t :: ts, us, d :: ds, es, hl, h => by
    simp only [List.cons_append, DataW.weightsEach, List.all_append, Bool.and_eq_true] at h ⊢
    exact ⟨h.1, weights_app ts us ds es (by simpa using hl) h.2⟩
  | [], us, _ :: _, es, hl, _ => by simp at hl
  | _ :: _, us, [], es, hl, _ => by simp at hl
end

/-- What must hold of a row's function, all of it closed. -/
structure RowFn (C : Checked) (f : FuncId) (fn : Func) (s : ChangeSpec) (rt : TypeId) : Prop where
  own : ownKnob C.prog.godebug = none
  noInit : C.prog.inits.idxOf? f = none
  func : C.prog.funcs[f]? = some fn
  laid : laidOutB C.prog = true
  params : fn.params.toList.all (fun t => isVar C.prog t && C.prog.readableRec t) = true
  res : fn.resultTypes = #[rt]
  bool : C.prog.underlying rt = some .bool
  vars : s.vars = []
  spec : ∀ (H : Type) (ds : List (DataW H)), ds.length = fn.params.size → s.fn H ds = { results := [.lit (.bool true)], args := ds }

theorem row_of {C : Checked} {os : Os} {f : FuncId} {fn : Func} {s : ChangeSpec} {rt : TypeId} {conds : List PathCond} {H : Type} {enc : TypeId × Value → H} (R : RowFn C f fn s rt) (started : os.Started)
    (witness : ∃ (w : World) (tape : Tape) (i : Input), w.os = os ∧ (w.forCall tape i).Shaped C.prog ∧ i.vars = [] ∧ Input.okWide C.prog (w.forCall tape i) .any w.heap.size f i ∧
      s.pre6 enc C.prog fn conds false (w.forCall tape i).memory i.args ∧ Assume.holds {} C.prog (lone (Frame.enter C.prog f i.args .normal) [] (w.forCall tape i)))
    (law : ∀ xs, Args C.prog fn.params.toList xs → Pure C.prog f xs (.pl (.bool true))) :
    ReturnsInHanded {} C os f .any (s.pre6 enc C.prog fn conds false) (s.post enc C.prog fn false true false false) := by
  refine returnsInHanded_of_change_sized (C := C) R.own started R.noInit R.func witness ?_
  intro Wd base args ds gs before hval hW hcnd hsz _
  have hW' := hW
  have hpar : ∀ t ∈ fn.params.toList, isVar C.prog t = true ∧ C.prog.readableRec t = true := fun t ht => by
    have := List.all_eq_true.1 R.params t ht
    simpa using this
  have hlt : ∀ t ∈ fn.params.toList, C.prog.readableRec t = true ∧ t < C.prog.types.size := fun t ht => by
    have h := (hpar t ht).1
    simp only [isVar, Bool.and_eq_true, decide_eq_true_eq] at h
    exact ⟨(hpar t ht).2, h.1⟩
  obtain ⟨p, q, hA, hV, rfl, hfz, hnd⟩ := hW
  rw [R.vars] at hV
  obtain ⟨rfl, rfl⟩ := trodVars_none hV
  have hlen := trodAll_len hA
  have hw := weights_app _ _ _ _ hlen hsz
  obtain ⟨xs, hxs, hrep⟩ := read_args (r := .any) (base := base) R.laid hpar (fun j t v h1 h2 => hval j t v (by simpa using h1) (by simpa using h2)) hA hw
  have hc := (law xs hxs).2 (· < Wd.heap.size) Wd args.toList (fun b hb => hb) hrep
  rw [Array.toArray_toList] at hc
  refine hc.mono fun e W' ⟨v, S', he, hv, hx, _⟩ => ?_
  subst he
  simp only [Rep] at hv; subst hv
  have bel : Below Wd.heap.size Wd W' := ⟨hx.os, hx.tape, hx.output, hx.size, fun k hk => hx.keep k hk (by rintro ⟨i, blk, l, h, _⟩; simp [look] at h)⟩
  have hsp := R.spec H ds (by rw [hlen]; simp)
  refine ⟨_, rfl, ds, [], _, [], p, [], hW', ?_, ?_, ?_, bel.frame _, fun h => by cases h⟩
  · rw [List.append_nil, hsp, R.res]
    exact trodAll_mk1 (shut_bool R.bool _)
  · rw [List.append_nil, hsp]
    exact back_args R.laid bel hlt hA
  · rw [List.append_nil, hsp, R.vars]
    rfl
end Go.Fx

/-
  Loops; a state seen as another one.
-/

set_option linter.all false
namespace Go.Fx
open Go
section
variable {C : Cfg} {Q : Exit → St → Prop} {env env' tl tl' : Env} {mem mem' : Mem} {nx nx' : Nat} {w : World} {S : Nat → Prop} {φ : Locs}

/-- d may be seen as d'. -/
def dLe (d d' : D) : Prop := d' = d ∨ d' = .top ∨ (d' = .sl [] ∧ (d = .zs ∨ d = .pl (.slice none 0 0)))

theorem Rep_le {d d' : D} {x : Value} (h : dLe d d') (hr : Rep w S φ d x) : Rep w S φ d' x := by
  rcases h with rfl | rfl | ⟨rfl, rfl | rfl⟩
  · exact hr
  · simp [Rep]
  · simp only [Rep] at hr ⊢; exact .inl ⟨trivial, hr⟩
  · simp only [Rep] at hr ⊢; exact .inl ⟨trivial, .inl hr⟩

def envLe : Env → Env → Prop
  | [], [] => True
  | (k, d) :: e, (k', d') :: e' => k' = k ∧ dLe d d' ∧ envLe e e'
  | _, _ => False

theorem envLe_look : ∀ {e e' : Env}, envLe e e' → ∀ j d', look e' j = some d' → ∃ d, look e j = some d ∧ dLe d d'
  | [], [], _, j, d', h => by simp [look] at h
  | (k, d) :: e, (k', d1) :: e', h, j, d', hl => by
    obtain ⟨rfl, h1, h2⟩ := h
    simp only [look] at hl ⊢
    by_cases hk : k' = j
    · simp only [hk, if_true, Option.some.injEq] at hl ⊢; subst hl; exact ⟨d, rfl, h1⟩
    · simp only [hk, if_false] at hl ⊢; exact envLe_look h2 j d' hl
  | [], _ :: _, h, _, _, _ => h.elim
  | _ :: _, [], h, _, _, _ => h.elim

theorem envLe_refl : ∀ (e : Env), envLe e e
  | [] => trivial
  | (k, d) :: e => ⟨rfl, .inl rfl, envLe_refl e⟩

def cellsLe : List D → List D → Prop
  | [], [] => True
  | d :: ds, e :: es => dLe d e ∧ cellsLe ds es
  | _, _ => False
def blkLe (b b' : Blk) : Prop := b' = b ∨ ∃ cs cs', b = .box cs ∧ b' = .box cs' ∧ cellsLe cs cs'

theorem cellsLe_rep {b : Nat} : ∀ {cs cs' : List D} {o : Nat}, cellsLe cs cs' → RepCs w S φ cs b o → RepCs w S φ cs' b o
  | [], [], _, _, h => h
  | d :: ds, e :: es, o, ⟨h1, h2⟩, h => by
    simp only [RepCs] at h ⊢
    obtain ⟨⟨x, hx, hr⟩, h⟩ := h
    exact ⟨⟨x, hx, Rep_le h1 hr⟩, cellsLe_rep h2 h⟩
  | [], _ :: _, _, h, _ => h.elim
  | _ :: _, [], _, h, _ => h.elim
theorem cellsLe_len : ∀ {cs cs' : List D}, cellsLe cs cs' → cs'.length = cs.length
  | [], [], _ => rfl
  | d :: ds, e :: es, ⟨_, h2⟩ => by simp [cellsLe_len h2]
  | [], _ :: _, h => h.elim
  | _ :: _, [], h => h.elim
theorem BRep_le {l : Loc} {b b' : Blk} (h : blkLe b b') (hr : BRep w S φ l b) : BRep w S φ l b' := by
  rcases h with rfl | ⟨cs, cs', rfl, rfl, h⟩
  · exact hr
  · simp only [BRep] at hr ⊢
    rw [cellsLe_len h]
    exact ⟨hr.1, hr.2.1, hr.2.2.1, hr.2.2.2.1, cellsLe_rep h hr.2.2.2.2⟩

/-- Blocks let go, or less known of them. -/
def memLe (mem mem' : Mem) : Prop := ∀ id blk', look mem' id = some blk' → ∃ blk, look mem id = some blk ∧ blkLe blk blk'
theorem memLe_refl (mem : Mem) : memLe mem mem := fun _ b h => ⟨b, h, .inl rfl⟩
theorem memLe_nil (mem : Mem) : memLe mem [] := fun _ _ h => by simp [look] at h
theorem memLe_cons' {i : Nat} {b b' : Blk} (hb : blkLe b b') (h : memLe mem mem') : memLe ((i, b) :: mem) ((i, b') :: mem') := fun id blk hl => by
  simp only [look] at hl ⊢
  split at hl
  · rename_i e
    simp only [Option.some.injEq] at hl; subst hl
    simp only [e, if_true]
    exact ⟨b, rfl, hb⟩
  · rename_i e; simpa [e] using h id blk hl
theorem memLe_cons {i : Nat} {b : Blk} (h : memLe mem mem') : memLe ((i, b) :: mem) ((i, b) :: mem') := memLe_cons' (.inl rfl) h
theorem memLe_skip {i : Nat} {b : Blk} (h : memLe mem mem') (hi : look mem' i = none) : memLe ((i, b) :: mem) mem' := fun id blk hl => by
  simp only [look]
  split
  · rename_i e; subst e; rw [hi] at hl; simp at hl
  · exact h id blk hl

theorem MSim_le (h : MSim S φ mem nx w) (hm : memLe mem mem') (hn : nx ≤ nx') : MSim S φ mem' nx' w :=
  ⟨fun id blk hl => by obtain ⟨b, h1, h2⟩ := hm id blk hl; obtain ⟨l, h3, h4, h5⟩ := h.mem id b h1; exact ⟨l, h3, h4, BRep_le h2 h5⟩, h.inj, h.lt, fun i hi => h.fresh i (Nat.le_trans hn hi), h.sub⟩

theorem Wk_to (he : envLe env env') (hm : memLe mem mem') (hn : nx ≤ nx') : Wk C ⟨env, tl, mem, nx⟩ ⟨env', [], mem', nx'⟩ := fun B N S φ a w hN hs =>
  ⟨S, φ, ⟨hs.size, hs.defers, fun j d' hj hl => by
      obtain ⟨d, h1, h2⟩ := envLe_look he j d' hl
      exact Rep_le h2 (hs.env j d hj h1), fun j d _ h => by simp [look] at h, MSim_le hs.m hm hn⟩,
    ⟨fun _ h => h, fun _ _ _ => rfl, Nat.le_refl _, fun b _ ⟨id, blk, l, h1, h2, h3, h4⟩ => by obtain ⟨b1, g1, _⟩ := hm id blk h1; exact ⟨id, b1, l, g1, h2, h3, h4⟩, fun _ h => .inl h, rfl, rfl, rfl⟩, Grow.refl (Nat.le_trans hN hn)⟩

/-- A slice that is nil, as one that is owned. -/
theorem Wk_own {j k : Nat} {d : D} (hj : look env j = some d) (hd : d = .pl (.slice none 0 0) ∨ d = .zs) : Wk C ⟨env, tl, mem, nx⟩ ⟨upd env j (.osl nx 0 0 0), [], (nx, .arr 0 k []) :: mem, nx + 1⟩ := fun B N S φ a w hN hs => by
  have hm1 : MSim S φ mem (nx + 1) w := MSim_le hs.m (memLe_refl _) (Nat.le_succ _)
  obtain ⟨φ', h1, h2, h3, h4, h5⟩ := own_nil (k := k) hm1 (hs.m.fresh nx (Nat.le_refl _)) (Nat.lt_succ_self _)
  refine ⟨S, φ', ⟨hs.size, hs.defers, fun i d' hi hl => ?_, fun j d _ h => by simp [look] at h, h2⟩, h4, ⟨Nat.le_succ_of_le hN, fun i hi hnn => by rw [h5 i (by simp only at hN; omega)]; exact hnn, h3.loc⟩⟩
  rcases look_upd j _ env i d' hl with ⟨rfl, rfl⟩ | ⟨_, hl⟩
  · have hr := hs.env i d hi hj
    have hz : Zs S (a.tmps.getD i undef) := by
      rcases hd with rfl | rfl
      · simp only [Rep] at hr; exact .inl hr
      · simpa only [Rep] using hr
    simp only [Rep]
    refine ⟨_, h1, Nat.le_refl _, ?_, fun _ => .inl ⟨rfl, trivial, trivial, hz⟩⟩
    rcases hz with h | ⟨p, h⟩ <;> exact ⟨_, _, _, h⟩
  · exact Rep.mono h3 _ _ (hs.env i d' hi hl)

theorem RepCs_set {b : Nat} {d d' : D} : ∀ {cs : List D} {off o : Nat}, cs[off]? = some d → (∀ x, Rep w S φ d x → Rep w S φ d' x) → RepCs w S φ cs b o → RepCs w S φ (cs.set off d') b o
  | [], _, _, h, _, _ => by simp at h
  | c :: cs, 0, o, h, hd, hr => by
    simp only [List.getElem?_cons_zero, Option.some.injEq] at h; subst h
    simp only [List.set_cons_zero, RepCs] at hr ⊢
    obtain ⟨⟨x, hx, hr1⟩, h⟩ := hr
    exact ⟨⟨x, hx, hd x hr1⟩, h⟩
  | c :: cs, off + 1, o, h, hd, hr => by
    simp only [List.set_cons_succ, RepCs] at hr ⊢
    exact ⟨hr.1, RepCs_set (by simpa using h) hd hr.2⟩

theorem MSim_box {id off : Nat} {cs : List D} {d d' : D} (h : MSim S φ mem nx w) (hl : look mem id = some (.box cs)) (ho : cs[off]? = some d) (hd : ∀ x, Rep w S φ d x → Rep w S φ d' x) :
    MSim S φ (upd mem id (.box (cs.set off d'))) nx w :=
  ⟨fun i blk hi => by
    rcases look_upd id _ mem i blk hi with ⟨rfl, rfl⟩ | ⟨_, hi⟩
    · obtain ⟨l, h1, h2, h3⟩ := h.mem i _ hl
      refine ⟨l, h1, h2, ?_⟩
      simp only [BRep, List.length_set] at h3 ⊢
      exact ⟨h3.1, h3.2.1, h3.2.2.1, h3.2.2.2.1, RepCs_set ho hd h3.2.2.2.2⟩
    · exact h.mem i blk hi, h.inj, h.lt, h.fresh, h.sub⟩

/-- The same of a cell of an owned variable. -/
theorem Wk_ownM {id off k : Nat} {cs : List D} {d : D} (hl : look mem id = some (.box cs)) (ho : cs[off]? = some d) (hd : d = .pl (.slice none 0 0) ∨ d = .zs) :
    Wk C ⟨env, tl, mem, nx⟩ ⟨env, [], (nx, .arr 0 k []) :: upd mem id (.box (cs.set off (.osl nx 0 0 0))), nx + 1⟩ := fun B N S φ a w hN hs => by
  have hm1 : MSim S φ mem (nx + 1) w := MSim_le hs.m (memLe_refl _) (Nat.le_succ _)
  obtain ⟨φ', h1, h2, h3, h4, h5⟩ := own_nil (k := k) hm1 (hs.m.fresh nx (Nat.le_refl _)) (Nat.lt_succ_self _)
  have hne : nx ≠ id := by
    rintro rfl
    obtain ⟨l, hφ, _⟩ := hs.m.mem _ _ hl
    rw [hs.m.fresh nx (Nat.le_refl _)] at hφ; simp at hφ
  have hl2 : look ((nx, Blk.arr 0 k []) :: mem) id = some (.box cs) := by simp only [look, hne, if_false]; exact hl
  have hm2 := MSim_box (off := off) (d' := .osl nx 0 0 0) h2 hl2 ho (fun x hr => by
    have hz : Zs S x := by
      rcases hd with rfl | rfl
      · simp only [Rep] at hr; exact .inl hr
      · simpa only [Rep] using hr
    simp only [Rep]
    refine ⟨_, h1, Nat.le_refl _, ?_, fun _ => .inl ⟨rfl, trivial, trivial, hz⟩⟩
    rcases hz with h | ⟨p, h⟩ <;> exact ⟨_, _, _, h⟩)
  simp only [upd, hne, if_false] at hm2
  refine ⟨S, φ', ⟨hs.size, hs.defers, fun i d' hi hl => Rep.mono h3 _ _ (hs.env i d' hi hl), fun j d _ h => by simp [look] at h, hm2⟩, ?_, ⟨Nat.le_succ_of_le hN, fun i hi hnn => by rw [h5 i (by simp only at hN; omega)]; exact hnn, h3.loc⟩⟩
  refine h4.trans ⟨fun _ h => h, fun _ _ _ => rfl, Nat.le_refl _, ?_, fun _ h => .inl h, rfl, rfl, rfl⟩
  rintro b _ ⟨i, blk, l, g1, g2, g3, g4⟩
  simp only [look] at g1
  by_cases e : nx = i
  · subst e; exact ⟨nx, .arr 0 k [], l, by simp [look], g2, g3, g4⟩
  · simp only [e, if_false] at g1
    rcases look_upd id _ mem i blk g1 with ⟨rfl, rfl⟩ | ⟨_, g1⟩
    · exact ⟨i, _, l, hl2, g2, g3, g4⟩
    · exact ⟨i, blk, l, by simp only [look, e, if_false]; exact g1, g2, g3, g4⟩

/-! ### Loops -/
def Again {α : Type} (C : Cfg) (E : α → Nat → Env) (M : α → Nat → Mem) (inv : α → Nat → Prop) (μ : α → Nat) (y : α) (s : St) : Prop :=
  ∃ z n, inv z n ∧ μ z < μ y ∧ Wk C s ⟨E z n, [], M z n, n⟩

theorem again_of {α : Type} {E : α → Nat → Env} {M : α → Nat → Mem} {inv : α → Nat → Prop} {μ : α → Nat} {y : α} (z : α) (hi : inv z nx) (hlt : μ z < μ y) (he : envLe env (E z nx)) (hm : memLe mem (M z nx)) :
    Again C E M inv μ y ⟨env, tl, mem, nx⟩ := ⟨z, nx, hi, hlt, Wk_to he hm (Nat.le_refl _)⟩

theorem A_loop_wk {α : Type} {x : AC} (E : α → Nat → Env) (M : α → Nat → Mem) (inv : α → Nat → Prop) (μ : α → Nat)
    (h0 : ∃ x0 n0, inv x0 n0 ∧ Wk C ⟨env, [], mem, nx⟩ ⟨E x0 n0, [], M x0 n0, n0⟩)
    (round : ∀ y n, inv y n → A C x (Kont C (thenQ (Again C E M inv μ y) Q) []) (E y n) (M y n) n) : A C (.loop x) Q env mem nx := by
  rw [A_loop]
  obtain ⟨x0, n0, hi, hw⟩ := h0
  refine TA_weaken hw ?_
  refine TA_loop (α := α × Nat) (fun p => ⟨E p.1 p.2, [], M p.1 p.2, p.2⟩) (fun p => inv p.1 p.2) (fun p => μ p.1) (fun p hp => ?_) (x0, n0) hi
  refine TA_mono ?_ (TA_of_A (round p.1 p.2 hp))
  intro e s h
  rw [Kont_nil] at h
  cases e with
  | normal =>
    obtain ⟨z, n, h1, h2, h3⟩ := h
    exact ⟨(z, n), h1, h2, h3⟩
  | _ => exact h

theorem A_loop_of {α : Type} {x : AC} (E : α → Nat → Env) (M : α → Nat → Mem) (inv : α → Nat → Prop) (μ : α → Nat) (x0 : α) (h0 : inv x0 nx) (he : envLe env (E x0 nx)) (hm : memLe mem (M x0 nx))
    (round : ∀ y n, inv y n → A C x (Kont C (thenQ (Again C E M inv μ y) Q) []) (E y n) (M y n) n) : A C (.loop x) Q env mem nx :=
  A_loop_wk E M inv μ ⟨x0, nx, h0, Wk_to he hm (Nat.le_refl _)⟩ round

/-- Some slots are forgotten; some are told anew. -/
def tops (ws : List Nat) : Env → Env
  | [] => []
  | (k, d) :: e => (k, if ws.contains k then .top else d) :: tops ws e
def upds : Env → List (Nat × D) → Env
  | e, [] => e
  | e, (j, d) :: r => upds (upd e j d) r
@[simp] theorem tops_nil {ws : List Nat} : tops ws [] = [] := (rfl)
@[simp] theorem tops_cons {ws : List Nat} {k : Nat} {d : D} {e : Env} : tops ws ((k, d) :: e) = (k, if ws.contains k then .top else d) :: tops ws e := (rfl)
@[simp] theorem upds_nil {e : Env} : upds e [] = e := by cases e <;> rfl
@[simp] theorem upds_cons {e : Env} {j : Nat} {d : D} {r : List (Nat × D)} : upds e ((j, d) :: r) = upds (upd e j d) r := by cases e <;> rfl
@[simp] theorem dLe_same {d : D} : dLe d d = True := by simp [dLe]
@[simp] theorem dLe_top {d : D} : dLe d .top = True := by simp [dLe]
@[simp] theorem envLe_nil : envLe [] [] = True := (rfl)
@[simp] theorem envLe_cons {k k' : Nat} {d d' : D} {e e' : Env} : envLe ((k, d) :: e) ((k', d') :: e') = (k' = k ∧ dLe d d' ∧ envLe e e') := (rfl)
@[simp] theorem memLe_same {m : Mem} : memLe m m = True := eq_true (memLe_refl m)
@[simp] theorem memLe_none {m : Mem} : memLe m [] = True := eq_true (memLe_nil m)

/-- A slice that is nil becomes an owned one ahead of a loop. -/
theorem A_loop_own {x : AC} {j k : Nat} {d : D} (hj : look env j = some d) (hd : d = .pl (.slice none 0 0) ∨ d = .zs) (h : A C (.loop x) Q (upd env j (.osl nx 0 0 0)) ((nx, .arr 0 k []) :: mem) (nx + 1)) : A C (.loop x) Q env mem nx := by
  rw [A_loop] at h ⊢
  exact TA_weaken (Wk_own hj hd) h
theorem A_loop_ownM {x : AC} {id off k : Nat} {cs : List D} {d : D} (hl : look mem id = some (.box cs)) (ho : cs[off]? = some d) (hd : d = .pl (.slice none 0 0) ∨ d = .zs)
    (h : A C (.loop x) Q env ((nx, .arr 0 k []) :: upd mem id (.box (cs.set off (.osl nx 0 0 0)))) (nx + 1)) : A C (.loop x) Q env mem nx := by
  rw [A_loop] at h ⊢
  exact TA_weaken (Wk_ownM hl ho hd) h

@[simp] theorem thenQ_normal {next : St → Prop} {s : St} : thenQ next Q .normal s = next s := (rfl)
@[simp] theorem thenQ_ret {next : St → Prop} {s : St} : thenQ next Q .ret s = Q .ret s := (rfl)
@[simp] theorem thenQ_exit {next : St → Prop} {s : St} {i : Nat} : thenQ next Q (.exit i) s = Q (.exit i) s := (rfl)
@[simp] theorem thenQ_goto {next : St → Prop} {s : St} {i : Nat} : thenQ next Q (.goto i) s = Q (.goto i) s := (rfl)
@[simp] theorem straightQ_normal {s : St} : straightQ Q .normal s = Q .normal s := (rfl)
@[simp] theorem straightQ_ret {s : St} : straightQ Q .ret s = Q .ret s := (rfl)
@[simp] theorem straightQ_exit {s : St} {i : Nat} : straightQ Q (.exit i) s = Q (.exit i) s := (rfl)

theorem pcK_of {P : Program} {f : FuncId} {xs : List D} {r : D} {K : KD} (h : Pure P f xs r) (hi : D.imms xs = true) (hk : K r mem nx) : pcK P (some (.fn f [])) (some xs) mem nx K := by
  refine ⟨r, .inl ?_, ?_, hk⟩ <;> simpa
theorem pcE_of {P : Program} {f : FuncId} {xs : List D} {r : D} {K : KD} (h : Extn P f xs r) (hi : D.imms xs = true) (hk : K r mem nx) : pcK P (some (.fn f [])) (some xs) mem nx K := by
  refine ⟨r, .inr ?_, ?_, hk⟩ <;> simpa
end
end Go.Fx

/-
  Slices that are read as lists: 'em enc l', element for element.
-/

set_option linter.all false
namespace Go.Fx
open Go
def em {α : Type} (enc : α → List D) (l : List α) : List (List D) := l.map enc
section
variable {α : Type} {enc : α → List D} {l : List α}
@[simp] theorem em_nil : em enc [] = [] := (rfl)
@[simp] theorem em_len : (em enc l).length = l.length := by simp [em]
@[simp] theorem em_take {i : Nat} : (em enc l).take i = em enc (l.take i) := by simp [em, List.map_take]
@[simp] theorem em_drop {i : Nat} : (em enc l).drop i = em enc (l.drop i) := by simp [em, List.map_drop]
@[simp 1100] theorem em_get [Inhabited α] {i : Nat} : (em enc l)[i]? = if i < l.length then some (enc (l[i]?.getD default)) else none := get_map enc l i
theorem em_set {i : Nat} {x : α} : (em enc l).set i (enc x) = em enc (l.set i x) := by simp [em, List.map_set]
theorem em_app {x : α} : em enc l ++ [enc x] = em enc (l ++ [x]) := by simp [em]
@[simp] theorem em_app2 {k : List α} : em enc l ++ em enc k = em enc (l ++ k) := by simp [em]
theorem em_one {x : α} : [enc x] = em enc [x] := (rfl)
theorem em_rep {k : Nat} {x : α} : List.replicate k (enc x) = em enc (List.replicate k x) := by simp [em]
theorem em_imm (h : ∀ x, D.imms (enc x) = true) : D.immss (em enc l) = true := by
  induction l with
  | nil => rfl
  | cons a l ih => simp only [em, List.map_cons, D.immss] at ih ⊢; rw [h, ih]; rfl
theorem em_cell (h : ∀ x, (enc x).all D.cell = true) : (em enc l).all (fun e => e.all D.cell) = true := by
  simp only [em, List.all_map, List.all_eq_true, Function.comp_apply]
  intro x _; exact List.all_eq_true.1 (h x)
theorem em_els {k : Nat} (h : ∀ x, (enc x).all D.cell = true) (hk : ∀ x, (enc x).length = k) : (em enc l).all (fun e => e.length == k && e.all D.cell) = true := by
  simp only [em, List.all_map, List.all_eq_true, Function.comp_apply, Bool.and_eq_true, beq_iff_eq]
  intro x _; exact ⟨hk x, List.all_eq_true.1 (h x)⟩
theorem em_ia [Inhabited α] {mem : Mem} {k : Nat} {j : IntKind} {i : Int} (hk : ∀ x, (enc x).length = k) :
    iaD mem k (.sl (em enc l)) (.pl (.int j i)) = if 0 ≤ i ∧ i < l.length then some (.pt (enc (l[i.toNat]?.getD default))) else none := by
  have := ia_map (f := enc) (l := l) (mem := mem) (j := j) (i := i) hk
  simpa [em] using this
theorem lift_em {p : α → Prop} : ∀ {es : List (List D)}, (∀ c ∈ es, ∃ x, c = enc x ∧ p x) → ∃ l : List α, es = em enc l ∧ ∀ x ∈ l, p x
  | [], _ => ⟨[], rfl, by simp⟩
  | c :: es, h => by
    obtain ⟨x, rfl, hx⟩ := h c (by simp)
    obtain ⟨l, rfl, hl⟩ := lift_em (es := es) fun d hd => h d (by simp [hd])
    exact ⟨x :: l, rfl, by simpa using ⟨hx, hl⟩⟩
end
end Go.Fx

/-
  Calls that see owned blocks: by the function's text, by a pure contract and blocks that are let go.
-/

set_option linter.all false
namespace Go.Fx
open Go
section
variable {C : Cfg} {P : Program} {mem mf mk : Mem} {nx : Nat} {w : World} {S : Nat → Prop} {φ : Locs} {f : FuncId} {args : List D} {K : KD}

theorem clK_of (h : CallT P f args mem nx K) : clK P (some (.fn f [])) (some args) mem nx K := by
  unfold clK; simpa using h
theorem clK_caps {caps : List D} (h : CallT P f (args ++ caps) mem nx K) : clK P (some (.fn f caps)) (some args) mem nx K := h

theorem memSub_refl (mem : Mem) : memSub mem mem := fun _ _ h => h
theorem memSub_nil (mem : Mem) : memSub mem [] := fun _ _ h => by simp [look] at h
theorem memSub_cons {i : Nat} {b : Blk} {m m' : Mem} (h : memSub m m') : memSub ((i, b) :: m) ((i, b) :: m') := fun id blk hl => by
  simp only [look] at hl ⊢
  split at hl
  · rename_i e; simpa [e] using hl
  · rename_i e; simpa [e] using h id blk hl
theorem memSub_skip {i : Nat} {b : Blk} {m m' : Mem} (h : memSub m m') (hi : look m' i = none) : memSub ((i, b) :: m) m' := fun id blk hl => by
  simp only [look]
  split
  · rename_i e; subst e; rw [hi] at hl; simp at hl
  · exact h id blk hl
theorem memSub_le {m m' : Mem} (h : memSub m m') : memLe m m' := fun i b hl => ⟨b, h i b hl, .inl rfl⟩

/-- Owned blocks are handed to a function that only reads: from then on they are only read. -/
theorem CallT_frz {args' : List D} {r : D} (h1 : memSub mem mf) (h2 : memSub mem mk) (hd : ∀ i, look mf i = none ∨ look mk i = none) (hfr : frzs mf 100 args = some args') (hp : Pure P f args' r) (hk : K r mk nx) :
    CallT P f args mem nx K := by
  refine ⟨hp.1, fun S φ w xs hm hx => ?_⟩
  have hmf : MSim S φ mf nx w := MSim_le hm (memSub_le h1) (Nat.le_refl _)
  have hmk0 : MSim S φ mk nx w := MSim_le hm (memSub_le h2) (Nat.le_refl _)
  have hargs := frzs_sound hmf 100 args args' xs hfr hx
  have hS2 : ∀ b, SF S φ mf b → b < w.heap.size := by
    rintro b (h | ⟨i, blk, l, _, g2, g3, rfl⟩)
    · exact hm.sub b h
    · exact hm.lt i l g2 g3
  have hmk : MSim (SF S φ mf) φ mk nx w := ⟨fun i blk hi => by
      obtain ⟨l, g1, g2, g3⟩ := hmk0.mem i blk hi
      refine ⟨l, g1, fun hr hs => ?_, BRep.mono stays_SF (fun _ => rfl) blk g3⟩
      rcases hs with hs | ⟨j, blk', l', k1, k2, k3, k4⟩
      · exact g2 hr hs
      · have := hm.inj j i l' l k2 g1 k3 hr k4
        subst this
        rcases hd j with e | e
        · rw [e] at k1; simp at k1
        · rw [e] at hi; simp at hi, hm.inj, hm.lt, hm.fresh, hS2⟩
  refine (hp.2 (SF S φ mf) w xs hS2 hargs).mono ?_
  rintro e w' ⟨v, S', rfl, hr, hx', hS'⟩
  have hsame : ∀ b, b < w.heap.size → w'.heap[b]? = w.heap[b]? := fun b hb => hx'.keep b hb (by rintro ⟨i, blk, l, h1, _⟩; simp [look] at h1)
  have hst2 : Stays w (SF S φ mf) φ w' S' φ := Stays.of_heap hx'.sub (fun b hb => hsame b (hS2 b hb)) (fun _ _ h => h)
  have hst : Stays w S φ w' S' φ := ⟨fun b hb => hst2.sub b (.inl hb), fun b hb => hst2.cell b (.inl hb), hst2.loc⟩
  have hnews : ∀ b, S' b → SF S φ mf b ∨ w.heap.size ≤ b := fun b hb => by
    rcases hx'.news b hb with h | h | ⟨i, blk, l, h1, _⟩
    · exact .inl h
    · exact .inr h
    · simp [look] at h1
  refine ⟨v, r, mk, nx, S', φ, rfl, hk, Nat.le_refl _, ⟨?_, hm.inj, ?_, hm.fresh, hS'⟩, Rep.mono (φ' := φ) ⟨fun _ h => h, fun _ _ _ => rfl, fun _ _ h => by simp [noLocs] at h⟩ _ _ hr, hst,
    ⟨fun b hb => hx'.sub b (.inl hb), fun b hb _ => hsame b hb, hx'.size, fun b _ ⟨i, blk, l, g1, g2, g3, g4⟩ => ⟨i, blk, l, h2 i blk g1, g2, g3, g4⟩, fun b hb => ?_, hx'.os, hx'.output, hx'.tape⟩, fun _ _ h => h⟩
  · intro i blk hi'
    obtain ⟨l, h1, h2, h3⟩ := hmk.mem i blk hi'
    refine ⟨l, h1, fun hr hs => ?_, h3.mono hst2 fun hr => hsame _ (hm.lt i l h1 hr)⟩
    rcases hnews _ hs with h | h
    · exact h2 hr h
    · have := hm.lt i l h1 hr; omega
  · intro i l h1 hr
    exact Nat.lt_of_lt_of_le (hm.lt i l h1 hr) hx'.size
  · rcases hnews b hb with (h | ⟨i, blk, l, g1, g2, g3, g4⟩) | h
    · exact .inl h
    · exact .inr (.inr ⟨i, blk, l, h1 i blk g1, g2, g3, g4⟩)
    · exact .inr (.inl h)

@[simp] theorem RetC_ret {rs : List RV} {s : St} : RetC rs K .ret s = ∃ ds, resL s.env s.mem rs = some ds ∧ ∃ mem', memSub s.mem mem' ∧ K (tupOf ds) mem' s.nx := (rfl)
@[simp] theorem RetC_normal {rs : List RV} {s : St} : RetC rs K .normal s = ∃ ds, resL s.env s.mem rs = some ds ∧ ∃ mem', memSub s.mem mem' ∧ K (tupOf ds) mem' s.nx := (rfl)
@[simp] theorem memSub_same {m : Mem} : memSub m m = True := eq_true (memSub_refl m)
@[simp] theorem memSub_none {m : Mem} : memSub m [] = True := eq_true (memSub_nil m)

/-- A call that sees no owned block, as a contract: what it makes is only read from then on. -/
theorem Pure_of_CallT {args : List D} {res : D} (hi : D.imms args = true) (h : CallT P f args [] 0 (fun d mem _ => frz mem 100 d = some res)) : Pure P f args res := by
  refine ⟨h.1, fun S w xs hS hx => (h.2 S noLocs w xs ⟨fun i b h => by simp [look] at h, fun i j l m h => by simp [noLocs] at h, fun i l h => by simp [noLocs] at h, fun _ _ => rfl, hS⟩ hx).mono ?_⟩
  rintro e w' ⟨v, d, mem', nx', S', φ', rfl, hk, _, hm, hr, hst, hx', _⟩
  refine ⟨v, SF S' φ' mem', rfl, frz_sound hm 100 _ _ _ hk hr, ⟨fun b hb => .inl (hx'.sub b hb), hx'.keep, hx'.size, fun b _ h => h, ?_, hx'.os, hx'.output, hx'.tape⟩, ?_⟩
  · rintro b (h | h)
    · exact hx'.news b h
    · by_cases hlt : b < w.heap.size
      · exact .inr (.inr (hx'.own b hlt h))
      · exact .inr (.inl (by omega))
  · rintro b (h | ⟨i, blk, l, _, h2, h3, rfl⟩)
    · exact hm.sub b h
    · exact hm.lt i l h2 h3
end
end Go.Fx

/-
  '==' of structs of plain cells.
-/

set_option linter.all false
namespace Go.Fx
open Go
section
variable {P : Program}
/-- '==' of two plain cells. -/
def scal : TypeDesc → Value → Value → Option Bool
  | .bool, .bool a, .bool b => some (a == b)
  | .int _, .int k a, .int k' b => if k = k' then some (a == b) else none
  | .string, .string a, .string b => some (a == b)
  | .float _, .float k a, .float k' b => if k = k' then some (Op.floatEq k a b) else none
  | .complex _, .complex k a b, .complex k' a' b' => if k = k' then some (Op.floatEq k a a' && Op.floatEq k b b') else none
  | _, _, _ => none

def eqFs (P : Program) (vs us : List Value) : List Field → Option Bool
  | [] => some true
  | f :: fs => if f.name = "_" then none else match P.underlying f.type, vs[f.offset]?, us[f.offset]? with
    | some d, some a, some b => match scal d a b, eqFs P vs us fs with
      | some r, some q => some (r && q)
      | _, _ => none
    | _, _, _ => none

theorem look_scal {t : TypeId} {d : TypeDesc} {n : Nat} {a b : Value} {r : Bool} (hd : P.underlying t = some d) (h : scal d a b = some r) : Sem.look P (Op.equalIn (n + 1) t a b) = some r ∧ d.isRow = false := by
  unfold scal at h
  split at h
  · refine ⟨?_, rfl⟩
    simp only [Option.some.injEq] at h; subst h
    unfold Op.equalIn
    simp [Sem.look, underlying, program, hd, Pure.pure, Bind.bind, Sem.bind]
  · rename_i k a k' b
    refine ⟨?_, rfl⟩
    simp only [Option.ite_none_right_eq_some, Option.some.injEq] at h
    obtain ⟨rfl, rfl⟩ := h
    unfold Op.equalIn
    simp [Sem.look, underlying, program, hd, Pure.pure, Bind.bind, Sem.bind]
  · refine ⟨?_, rfl⟩
    simp only [Option.some.injEq] at h; subst h
    unfold Op.equalIn
    simp [Sem.look, underlying, program, hd, Pure.pure, Bind.bind, Sem.bind]
  · refine ⟨?_, rfl⟩
    simp only [Option.ite_none_right_eq_some, Option.some.injEq] at h
    obtain ⟨rfl, rfl⟩ := h
    unfold Op.equalIn
    simp [Sem.look, underlying, program, hd, Pure.pure, Bind.bind, Sem.bind]
  · refine ⟨?_, rfl⟩
    simp only [Option.ite_none_right_eq_some, Option.some.injEq] at h
    obtain ⟨rfl, rfl⟩ := h
    unfold Op.equalIn
    simp [Sem.look, underlying, program, hd, Pure.pure, Bind.bind, Sem.bind]
  · simp at h

theorem look_part {t : TypeId} {d : TypeDesc} {cs : Array Value} {off : Nat} {a : Value} (hd : P.underlying t = some d) (hr : d.isRow = false) (h : cs[off]? = some a) : Sem.look P (part t cs off) = some a := by
  unfold part
  simp only [look_bind]
  have : Sem.look P (isAgg t) = some false := by
    unfold isAgg
    simp only [look_bind, underlying, program, Sem.look, hd, Option.bind_some]
    cases d <;> simp_all [TypeDesc.isRow, Sem.look, Pure.pure]
  rw [this]
  simp only [Option.bind_some, Bool.false_eq_true, if_false, h]
  rfl

def eqBody (d : Nat) (xs ys : Array Value) (f : Field) (_ : Option Bool × Unit) : Sem (ForInStep (Option Bool × Unit)) :=
  if f.name ≠ "_" then
    (part f.type xs f.offset).bind fun a => (part f.type ys f.offset).bind fun b => (Op.equalIn d f.type a b).bind fun r => if (!r) = true then Sem.pure (ForInStep.done (some false, ())) else Sem.pure (ForInStep.yield (none, ()))
  else Sem.pure (ForInStep.yield (none, ()))
def eqFin (s : Option Bool × Unit) : Sem Bool :=
  match s.1 with
  | some r => Sem.pure r
  | none => Sem.pure true

theorem look_fields {n : Nat} {vs us : List Value} : ∀ (l : List Field) (r : Bool), eqFs P vs us l = some r → Sem.look P ((forIn l ((none : Option Bool), ()) (eqBody (n + 1) vs.toArray us.toArray) : Sem (Option Bool × Unit)).bind eqFin) = some r
  | [], r, h => by
    simp only [eqFs, Option.some.injEq] at h; subst h
    rfl
  | f :: l, r, h => by
    simp only [eqFs] at h
    split at h
    · simp at h
    · rename_i hn
      split at h
      · rename_i d a b hd ha hb
        split at h
        · rename_i p q hp hq
          simp only [Option.some.injEq] at h; subst h
          obtain ⟨h1, h2⟩ := look_scal (n := n) hd hp
          have e1 : Sem.look P (part f.type vs.toArray f.offset) = some a := look_part hd h2 (by simpa using ha)
          have e2 : Sem.look P (part f.type us.toArray f.offset) = some b := look_part hd h2 (by simpa using hb)
          have hb0 : Sem.look P (eqBody (n + 1) vs.toArray us.toArray f (none, ())) = some (if (!p) = true then ForInStep.done (some false, ()) else ForInStep.yield (none, ())) := by
            unfold eqBody
            rw [if_pos hn]
            show Sem.look P (part f.type vs.toArray f.offset >>= fun a => part f.type us.toArray f.offset >>= fun b => Op.equalIn (n + 1) f.type a b >>= fun r => if (!r) = true then Sem.pure (ForInStep.done (some false, ())) else Sem.pure (ForInStep.yield (none, ()))) = _
            rw [look_bind, e1, Option.bind_some, look_bind, e2, Option.bind_some, look_bind, h1, Option.bind_some]
            cases p <;> rfl
          have ih := look_fields (n := n) l q hq
          show Sem.look P ((forIn (f :: l) ((none : Option Bool), ()) (eqBody (n + 1) vs.toArray us.toArray) : Sem (Option Bool × Unit)) >>= eqFin) = _
          rw [List.forIn_cons, look_bind, look_bind, hb0, Option.bind_some]
          cases p with
          | false => rfl
          | true =>
            simp only [Bool.not_true, Bool.false_eq_true, if_false, Bool.true_and]
            rw [← look_bind]; exact ih
        · simp at h
      · simp at h

theorem look_eqS {t : TypeId} {fs : Array Field} {vs us : List Value} {r : Bool} (hu : P.underlying t = some (.struct fs)) (hs : P.stoodInHeld t = false) (h : eqFs P vs us fs.toList = some r) : Sem.look P (Op.equal t (.agg vs.toArray) (.agg us.toArray)) = some r := by
  have := look_fields (n := 9998) fs.toList r h
  rw [show 9998 + 1 = 9999 from rfl] at this
  show Sem.look P (Op.equalIn (9999 + 1) t (.agg vs.toArray) (.agg us.toArray)) = some r
  unfold Op.equalIn
  simp only [underlying, program, Bind.bind, Sem.bind, Sem.look, hu, Pure.pure, hs, Bool.false_eq_true, if_false, ← Array.forIn_toList]
  refine Eq.trans (congrArg (Sem.look P) ?_) this
  congr 1
  · funext s
    rcases s with ⟨_ | r, _⟩ <;> rfl

theorem bin_eqlS {t : TypeId} {fs : Array Field} {xs ys : List D} {vs us : List Value} {r : Bool} (hu : P.underlying t = some (.struct fs)) (hs : P.stoodInHeld t = false) (hg : P.eqGuardType P.depth t = false)
    (hx : D.vals xs = some vs) (hy : D.vals ys = some us) (h : eqFs P vs us fs.toList = some r) : binD P .eql t (.agg xs) (.agg ys) = some (.pl (.bool r)) ∧ binD P .neq t (.agg xs) (.agg ys) = some (.pl (.bool (!r))) := by
  have he := look_eqS hu hs h
  have g : ∀ op, Sem.look P (eqGuard op t (.tmp 0) (.tmp 0) (.agg vs.toArray) (.agg us.toArray)) = some () := by
    intro op
    have e : ∀ (K : Sem Unit), Sem.look P (Sem.program fun p => Sem.program fun q => if !p.eqGuardType q.depth t then Pure.pure () else K) = some () := by
      intro K; simp only [Sem.look, hg]; rfl
    cases op <;> first | rfl | exact e _
  refine ⟨?_, ?_⟩
  · simp only [binD, hx, hy]
    rw [look_bind, g, Option.bind_some]
    simp only [binOp, look_bind, he, Option.bind_some]; rfl
  · simp only [binD, hx, hy]
    rw [look_bind, g, Option.bind_some]
    simp only [binOp, look_bind, he, Option.bind_some]
    cases r <;> rfl
end
end Go.Fx

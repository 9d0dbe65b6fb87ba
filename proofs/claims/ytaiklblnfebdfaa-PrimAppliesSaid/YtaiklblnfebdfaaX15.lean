/-
  A function's text, run on deep values; contracts.
-/
import Derived.Test.YtaiklblnfebdfaaX14c
set_option linter.all false
namespace Go.Fx
open Go
section
variable {C : Cfg} {Q : Exit → St → Prop} {env tl : Env} {mem : Mem} {nx : Nat}

theorem T_region {id : Nat} {ops : Array Oper} {draw : Bool} {is : List Ins} {K : Env → Env → Mem → Nat → Prop} (hc : C.comp (.region id ops draw) = some (.reg is)) (h : run C nx K is 0 env [] mem (nx + is.length)) :
    T C (.region id ops draw) (fun e s => e = .normal ∧ K s.env s.tl s.mem s.nx) ⟨env, tl, mem, nx⟩ := by
  simp only [Cfg.comp, Option.bind_eq_bind, Option.bind_eq_some_iff] at hc
  obtain ⟨is', his, hc⟩ := hc
  intro N S φ a w hN hs
  have hN : N ≤ nx := hN
  have hlen := mapM_length his
  have hh : Here C S φ env [] mem (nx + is'.length) a w := ⟨⟨hs.env, fun j d _ h => by simp [look] at h⟩, hs.size, hs.defers, ⟨hs.m.mem, hs.m.inj, hs.m.lt, fun i hi => hs.m.fresh i (Nat.le_trans (Nat.le_add_right _ _) hi), hs.m.sub⟩⟩
  cases draw with
  | false =>
    simp only [Bool.false_eq_true, if_false, Option.some.injEq, AC.reg.injEq] at hc; subst hc
    refine wp_region ?_
    rw [List.range_eq_range', ← Array.length_toList]
    exact run_sound hN ops.toList is' 0 env [] mem (nx + is'.length) S φ a w (fun i => by simp) his h hh (fun i _ _ => hs.m.fresh _ (Nat.le_add_right _ _)) (by omega)
  | true =>
    simp only [if_true] at hc
    split at hc
    · rename_i hd
      simp only [Option.some.injEq, AC.reg.injEq] at hc; subst hc
      rw [tell_length] at h
      have hd' : Cfg.drawOk C.gs ops (Cfg.tell ops is') = true ∧ C.P.follows .mixedOrders = true := by simpa using hd
      exact draw_sound hd'.2 his hd'.1 h hN hh (fun i hi => hs.m.fresh _ (Nat.le_add_right _ _))
    · simp at hc

theorem forget_tl : Wk C ⟨env, tl, mem, nx⟩ ⟨env, [], mem, nx⟩ := fun N S φ a w hn hs =>
  ⟨S, φ, ⟨hs.size, hs.defers, hs.env, fun j d _ h => by simp [look] at h, hs.m⟩, Ext.refl .., Grow.refl hn⟩

theorem T_cond_at {c : Operand} {y : Opd} {x1 x2 : Code} {p q : Env → Mem → Nat → Prop} (hc : C.opd c = some y) (h : ifK y p q env tl mem nx) (hp : p env mem nx → T C x1 Q ⟨env, [], mem, nx⟩) (hq : q env mem nx → T C x2 Q ⟨env, [], mem, nx⟩) :
    T C (.cond c x1 x2) Q ⟨env, tl, mem, nx⟩ := by
  intro N S φ a w hn hs
  unfold ifK ifb at h
  split at h
  · rename_i b hro
    have hb := ro_sound ⟨hs.env, hs.tl⟩ hc hro
    simp only [Rep] at hb
    refine wp_cond hb ?_
    cases b with
    | true => exact T_weaken forget_tl (hp (h.1 rfl)) N S φ a w hn hs
    | false => exact T_weaken forget_tl (hq (h.2 rfl)) N S φ a w hn hs
  · exact h.elim

theorem T_of_reg {x : Code} {K : Env → Env → Mem → Nat → Prop} {s : St} {next : Code} (h : T C x (fun e s => e = .normal ∧ K s.env s.tl s.mem s.nx) s) (hn : ∀ env tl mem nx, K env tl mem nx → T C next Q ⟨env, tl, mem, nx⟩) : T C (.seq x next) Q s := by
  refine T_seq (T_mono ?_ h)
  rintro e s ⟨rfl, hk⟩
  exact hn _ _ _ _ hk

theorem T_post {c : Code} {s : St} (h : T C c (fun e s => ∃ s', Wk C s s' ∧ Q e s') s) : T C c Q s := by
  intro N S φ a w hn hs
  refine wp_mono (h N S φ a w hn hs) ?_
  rintro e a' w' ⟨s1, S1, φ1, ⟨s2, hw, hq⟩, h1, h2, g1⟩
  obtain ⟨S2, φ2, h3, h4, g2⟩ := hw N S1 φ1 a' w' g1.le h1
  exact ⟨s2, S2, φ2, hq, h3, h2.trans h4, g1.trans g2⟩

/-- As A, the temporaries of the region before still known to a condition. -/
def A' (C : Cfg) : AC → (Exit → St → Prop) → Env → Env → Mem → Nat → Prop
  | .cond y p q, Q, env, tl, mem, nx => ifK y (A C p Q) (A C q Q) env tl mem nx
  | .seq (.cond y p q) z, Q, env, tl, mem, nx => ifK y (A C p (thenQ (fun s => A C z Q s.env s.mem s.nx) Q)) (A C q (thenQ (fun s => A C z Q s.env s.mem s.nx) Q)) env tl mem nx
  | ac, Q, env, _, mem, nx => A C ac Q env mem nx

theorem A'_of_A {ac : AC} (h : A C ac Q env mem nx) : A' C ac Q env [] mem nx := by
  unfold A'
  split <;> exact h

theorem A'_nil {ac : AC} (h : A' C ac Q env [] mem nx) : A C ac Q env mem nx := by
  unfold A' at h
  split at h <;> exact h

theorem comp_reg {x : Code} {is : List Ins} (h : C.comp x = some (.reg is)) : ∃ id ops draw, x = .region id ops draw := by
  cases x with
  | region id ops draw => exact ⟨id, ops, draw, rfl⟩
  | seq p q =>
    simp only [Cfg.comp, Option.bind_eq_bind, Option.bind_eq_some_iff] at h
    obtain ⟨a, _, b, _, h⟩ := h
    split at h <;> simp at h
  | _ => simp [Cfg.comp, Option.bind_eq_some_iff] at h

def isReg : AC → Bool
  | .reg _ => true
  | _ => false

theorem seq_out {x y : Code} {ac : AC} (h : C.comp (.seq x y) = some ac) : ∃ a b, C.comp x = some a ∧ C.comp y = some b ∧
    ((∃ is c p q, a = .reg is ∧ b = .cond c p q ∧ ac = .ifr is c p q) ∨ (∃ is c p q z, a = .reg is ∧ b = .seq (.cond c p q) z ∧ ac = .seq (.ifr is c p q) z) ∨ ac = .seq a b) := by
  simp only [Cfg.comp, Option.bind_eq_bind, Option.bind_eq_some_iff] at h
  obtain ⟨a, ha, b, hb, h⟩ := h
  refine ⟨a, b, ha, hb, ?_⟩
  split at h
  · simp only [Option.some.injEq] at h
    exact .inl ⟨_, _, _, _, rfl, rfl, h.symm⟩
  · simp only [Option.some.injEq] at h
    exact .inr (.inl ⟨_, _, _, _, _, rfl, rfl, h.symm⟩)
  · simp only [Option.some.injEq] at h
    exact .inr (.inr h.symm)

theorem A'_sound : ∀ (c : Code) (ac : AC), C.comp c = some ac → ∀ (Q : Exit → St → Prop) (env tl : Env) (mem : Mem) (nx : Nat), A' C ac Q env tl mem nx → T C c Q ⟨env, tl, mem, nx⟩ := by
  intro c
  induction c with
  | skip => intro ac h Q env tl mem nx hA; simp only [Cfg.comp, Option.some.injEq] at h; subst h; exact T_weaken forget_tl (T_skip hA)
  | region id ops draw =>
    intro ac h Q env tl mem nx hA
    have h0 := h
    simp only [Cfg.comp, Option.bind_eq_bind, Option.bind_eq_some_iff] at h
    obtain ⟨is, his, h⟩ := h
    obtain ⟨is0, rfl⟩ : ∃ is0, ac = .reg is0 := by
      split at h
      · split at h
        · simp only [Option.some.injEq] at h; exact ⟨_, h.symm⟩
        · simp at h
      · simp only [Option.some.injEq] at h; exact ⟨_, h.symm⟩
    refine T_post (T_mono ?_ (T_region (tl := tl) h0 hA))
    rintro e ⟨env', tl', mem', nx'⟩ ⟨rfl, hk⟩
    exact ⟨_, forget_tl, hk⟩
  | seq x y ihx ihy =>
    intro ac h Q env tl mem nx hA
    obtain ⟨a, b, ha, hb, h | h | h⟩ := seq_out h
    · obtain ⟨is, c, p, q, rfl, rfl, rfl⟩ := h
      obtain ⟨id, ops, draw, rfl⟩ := comp_reg ha
      exact T_of_reg (T_region (tl := tl) ha hA) fun env' tl' mem' nx' hk => ihy _ hb Q env' tl' mem' nx' hk
    · obtain ⟨is, c, p, q, z, rfl, rfl, rfl⟩ := h
      obtain ⟨id, ops, draw, rfl⟩ := comp_reg ha
      exact T_of_reg (T_region (tl := tl) ha hA) fun env' tl' mem' nx' hk => ihy _ hb Q env' tl' mem' nx' hk
    · subst h
      refine T_seq ?_
      have hQ : ∀ e s, thenQ (fun s => A C b Q s.env s.mem s.nx) Q e s → ∃ s', Wk C s s' ∧ thenQ (T C y Q) Q e s' := by
        intro e s hq
        cases e with
        | normal =>
          obtain ⟨env', tl', mem', nx'⟩ := s
          exact ⟨_, forget_tl, ihy b hb Q env' [] mem' nx' (A'_of_A hq)⟩
        | _ => exact ⟨s, Wk.refl, hq⟩
      refine T_post (T_mono hQ ?_)
      cases a with
      | cond y' p q => exact ihx _ ha _ env tl mem nx hA
      | _ => exact T_weaken forget_tl (ihx _ ha _ env [] mem nx (A'_of_A hA))
  | cond c x y ihx ihy =>
    intro ac h Q env tl mem nx hA
    simp only [Cfg.comp, Option.bind_eq_bind, Option.bind_eq_some_iff, Option.some.injEq] at h
    obtain ⟨o, ho, a1, h1, a2, h2, rfl⟩ := h
    exact T_cond_at ho hA (fun h => ihx a1 h1 Q env [] mem nx (A'_of_A h)) (fun h => ihy a2 h2 Q env [] mem nx (A'_of_A h))
  | block id x ih =>
    intro ac h Q env tl mem nx hA
    simp only [Cfg.comp, Option.bind_eq_bind, Option.bind_eq_some_iff, Option.some.injEq] at h
    obtain ⟨a1, h1, rfl⟩ := h
    exact T_weaken forget_tl (T_block (ih a1 h1 _ env [] mem nx (A'_of_A hA)))
  | loop x ih =>
    intro ac h Q env tl mem nx hA
    have h0 := h
    simp only [Cfg.comp, Option.bind_eq_bind, Option.bind_eq_some_iff, Option.some.injEq] at h
    obtain ⟨a1, h1, rfl⟩ := h
    exact T_weaken forget_tl (hA _ h0)
  | rangeFunc f ps a b => intro ac h; simp [Cfg.comp] at h
  | exit id => intro ac h Q env tl mem nx hA; simp only [Cfg.comp, Option.some.injEq] at h; subst h; exact T_weaken forget_tl (T_exit hA)
  | scope x ih =>
    intro ac h Q env tl mem nx hA
    have h0 := h
    simp only [Cfg.comp, Option.bind_eq_bind, Option.bind_eq_some_iff, Option.some.injEq] at h
    obtain ⟨a1, h1, rfl⟩ := h
    exact T_weaken forget_tl (hA _ h0)
  | label l => intro ac h Q env tl mem nx hA; simp only [Cfg.comp, Option.some.injEq] at h; subst h; exact T_weaken forget_tl (T_label hA)
  | goto l => intro ac h Q env tl mem nx hA; simp only [Cfg.comp, Option.some.injEq] at h; subst h; exact T_weaken forget_tl (T_goto hA)
  | ret => intro ac h Q env tl mem nx hA; simp only [Cfg.comp, Option.some.injEq] at h; subst h; exact T_weaken forget_tl (T_ret hA)
  | refuse w => intro ac h; simp [Cfg.comp] at h

theorem A_sound {c : Code} {ac : AC} (h : C.comp c = some ac) (hA : A C ac Q env mem nx) : T C c Q ⟨env, [], mem, nx⟩ := A'_sound c ac h Q env [] mem nx (A'_of_A hA)

/-! ### Resolved code by itself -/
theorem TA_of_A {ac : AC} (h : A C ac Q env mem nx) : TA C ac Q ⟨env, [], mem, nx⟩ := fun _ hc => A_sound hc h

theorem TA_weaken {ac : AC} {s s' : St} (h : Wk C s s') (k : TA C ac Q s') : TA C ac Q s := fun c hc => T_weaken h (k c hc)

theorem TA_mono {ac : AC} {Q' : Exit → St → Prop} {s : St} (hq : ∀ e s, Q e s → Q' e s) (h : TA C ac Q s) : TA C ac Q' s := fun c hc => T_mono hq (h c hc)

theorem TA_scope {x : AC} {s : St} (h : TA C x (straightQ Q) s) : TA C (.scope x) Q s := by
  intro c hc
  cases c with
  | scope y =>
    simp only [Cfg.comp, Option.bind_eq_bind, Option.bind_eq_some_iff, Option.some.injEq, AC.scope.injEq] at hc
    obtain ⟨a1, h1, rfl⟩ := hc
    exact T_scope (h y h1)
  | seq p q =>
    obtain ⟨a, b, _, _, h | h | h⟩ := seq_out hc
    · obtain ⟨is, c, p, q, _, _, e⟩ := h; simp at e
    · obtain ⟨is, c, p, q, z, _, _, e⟩ := h; simp at e
    · simp at h
  | region id ops draw =>
    simp only [Cfg.comp, Option.bind_eq_bind, Option.bind_eq_some_iff] at hc
    obtain ⟨is, _, h⟩ := hc
    split at h <;> simp at h
  | _ => simp [Cfg.comp, Option.bind_eq_some_iff] at hc

/-- A loop: 'st x' the states at its head, one for each x that fits; each round lowers the measure. -/
theorem TA_loop {α : Type} {x : AC} (st : α → St) (inv : α → Prop) (μ : α → Nat)
    (round : ∀ y, inv y → TA C x (thenQ (fun s' => ∃ z, inv z ∧ μ z < μ y ∧ Wk C s' (st z)) Q) (st y)) (x0 : α) (h0 : inv x0) : TA C (.loop x) Q (st x0) := by
  intro c hc
  cases c with
  | loop y =>
    simp only [Cfg.comp, Option.bind_eq_bind, Option.bind_eq_some_iff, Option.some.injEq, AC.loop.injEq] at hc
    obtain ⟨a1, h1, rfl⟩ := hc
    exact T_loop st inv μ (fun y' hy => round y' hy _ h1) x0 h0
  | seq p q =>
    obtain ⟨a, b, _, _, h | h | h⟩ := seq_out hc
    · obtain ⟨is, c, p, q, _, _, e⟩ := h; simp at e
    · obtain ⟨is, c, p, q, z, _, _, e⟩ := h; simp at e
    · simp at h
  | region id ops draw =>
    simp only [Cfg.comp, Option.bind_eq_bind, Option.bind_eq_some_iff] at hc
    obtain ⟨is, _, h⟩ := hc
    split at h <;> simp at h
  | _ => simp [Cfg.comp, Option.bind_eq_some_iff] at hc
end
end Go.Fx

/-
  Loops; a state seen as another one.
-/
import Derived.Test.YtaiklblnfebdfaaX17
set_option linter.all false
namespace Go.Fx
open Go
section
variable {C : Cfg} {Q : Exit → St → Prop} {env env' tl tl' : Env} {mem mem' : Mem} {nx nx' : Nat} {w : World} {S : Nat → Prop} {φ : Locs}

/-- d may be seen as d'. -/
def dLe (d d' : D) : Prop := d' = d ∨ d' = .top ∨ (d' = .sl [] ∧ (d = .zs ∨ d = .pl (.slice none 0 0)))

theorem Rep_le {d d' : D} {x : Value} (h : dLe d d') (hr : Rep w S φ d x) : Rep w S φ d' x := by
  rcases h with rfl | rfl | ⟨rfl, rfl | rfl⟩
  · exact hr
  · simp [Rep]
  · simp only [Rep] at hr ⊢; exact .inl ⟨trivial, hr⟩
  · simp only [Rep] at hr ⊢; exact .inl ⟨trivial, .inl hr⟩

def envLe : Env → Env → Prop
  | [], [] => True
  | (k, d) :: e, (k', d') :: e' => k' = k ∧ dLe d d' ∧ envLe e e'
  | _, _ => False

theorem envLe_look : ∀ {e e' : Env}, envLe e e' → ∀ j d', look e' j = some d' → ∃ d, look e j = some d ∧ dLe d d'
  | [], [], _, j, d', h => by simp [look] at h
  | (k, d) :: e, (k', d1) :: e', h, j, d', hl => by
    obtain ⟨rfl, h1, h2⟩ := h
    simp only [look] at hl ⊢
    by_cases hk : k' = j
    · simp only [hk, if_true, Option.some.injEq] at hl ⊢; subst hl; exact ⟨d, rfl, h1⟩
    · simp only [hk, if_false] at hl ⊢; exact envLe_look h2 j d' hl
  | [], _ :: _, h, _, _, _ => h.elim
  | _ :: _, [], h, _, _, _ => h.elim

theorem envLe_refl : ∀ (e : Env), envLe e e
  | [] => trivial
  | (k, d) :: e => ⟨rfl, .inl rfl, envLe_refl e⟩

def cellsLe : List D → List D → Prop
  | [], [] => True
  | d :: ds, e :: es => dLe d e ∧ cellsLe ds es
  | _, _ => False
def blkLe (b b' : Blk) : Prop := b' = b ∨ ∃ cs cs', b = .box cs ∧ b' = .box cs' ∧ cellsLe cs cs'

theorem cellsLe_rep {b : Nat} : ∀ {cs cs' : List D} {o : Nat}, cellsLe cs cs' → RepCs w S φ cs b o → RepCs w S φ cs' b o
  | [], [], _, _, h => h
  | d :: ds, e :: es, o, ⟨h1, h2⟩, h => by
    simp only [RepCs] at h ⊢
    obtain ⟨⟨x, hx, hr⟩, h⟩ := h
    exact ⟨⟨x, hx, Rep_le h1 hr⟩, cellsLe_rep h2 h⟩
  | [], _ :: _, _, h, _ => h.elim
  | _ :: _, [], _, h, _ => h.elim
theorem cellsLe_len : ∀ {cs cs' : List D}, cellsLe cs cs' → cs'.length = cs.length
  | [], [], _ => rfl
  | d :: ds, e :: es, ⟨_, h2⟩ => by simp [cellsLe_len h2]
  | [], _ :: _, h => h.elim
  | _ :: _, [], h => h.elim
theorem BRep_le {l : Loc} {b b' : Blk} (h : blkLe b b') (hr : BRep w S φ l b) : BRep w S φ l b' := by
  rcases h with rfl | ⟨cs, cs', rfl, rfl, h⟩
  · exact hr
  · simp only [BRep] at hr ⊢
    rw [cellsLe_len h]
    exact ⟨hr.1, hr.2.1, hr.2.2.1, hr.2.2.2.1, cellsLe_rep h hr.2.2.2.2⟩

/-- Blocks let go, or less known of them. -/
def memLe (mem mem' : Mem) : Prop := ∀ id blk', look mem' id = some blk' → ∃ blk, look mem id = some blk ∧ blkLe blk blk'
theorem memLe_refl (mem : Mem) : memLe mem mem := fun _ b h => ⟨b, h, .inl rfl⟩
theorem memLe_nil (mem : Mem) : memLe mem [] := fun _ _ h => by simp [look] at h
theorem memLe_cons' {i : Nat} {b b' : Blk} (hb : blkLe b b') (h : memLe mem mem') : memLe ((i, b) :: mem) ((i, b') :: mem') := fun id blk hl => by
  simp only [look] at hl ⊢
  split at hl
  · rename_i e
    simp only [Option.some.injEq] at hl; subst hl
    simp only [e, if_true]
    exact ⟨b, rfl, hb⟩
  · rename_i e; simpa [e] using h id blk hl
theorem memLe_cons {i : Nat} {b : Blk} (h : memLe mem mem') : memLe ((i, b) :: mem) ((i, b) :: mem') := memLe_cons' (.inl rfl) h
theorem memLe_skip {i : Nat} {b : Blk} (h : memLe mem mem') (hi : look mem' i = none) : memLe ((i, b) :: mem) mem' := fun id blk hl => by
  simp only [look]
  split
  · rename_i e; subst e; rw [hi] at hl; simp at hl
  · exact h id blk hl

theorem MSim_le (h : MSim S φ mem nx w) (hm : memLe mem mem') (hn : nx ≤ nx') : MSim S φ mem' nx' w :=
  ⟨fun id blk hl => by obtain ⟨b, h1, h2⟩ := hm id blk hl; obtain ⟨l, h3, h4, h5⟩ := h.mem id b h1; exact ⟨l, h3, h4, BRep_le h2 h5⟩, h.inj, h.lt, fun i hi => h.fresh i (Nat.le_trans hn hi), h.sub⟩

theorem Wk_to (he : envLe env env') (hm : memLe mem mem') (hn : nx ≤ nx') : Wk C ⟨env, tl, mem, nx⟩ ⟨env', [], mem', nx'⟩ := fun N S φ a w hN hs =>
  ⟨S, φ, ⟨hs.size, hs.defers, fun j d' hj hl => by
      obtain ⟨d, h1, h2⟩ := envLe_look he j d' hl
      exact Rep_le h2 (hs.env j d hj h1), fun j d _ h => by simp [look] at h, MSim_le hs.m hm hn⟩,
    ⟨fun _ h => h, fun _ _ _ => rfl, Nat.le_refl _, fun b _ ⟨id, blk, l, h1, h2, h3, h4⟩ => by obtain ⟨b1, g1, _⟩ := hm id blk h1; exact ⟨id, b1, l, g1, h2, h3, h4⟩, fun _ h => .inl h, rfl, rfl, rfl⟩, Grow.refl (Nat.le_trans hN hn)⟩

/-- A slice that is nil, as one that is owned. -/
theorem Wk_own {j k : Nat} {d : D} (hj : look env j = some d) (hd : d = .pl (.slice none 0 0) ∨ d = .zs) : Wk C ⟨env, tl, mem, nx⟩ ⟨upd env j (.osl nx 0 0 0), [], (nx, .arr 0 k []) :: mem, nx + 1⟩ := fun N S φ a w hN hs => by
  have hm1 : MSim S φ mem (nx + 1) w := MSim_le hs.m (memLe_refl _) (Nat.le_succ _)
  obtain ⟨φ', h1, h2, h3, h4, h5⟩ := own_nil (k := k) hm1 (hs.m.fresh nx (Nat.le_refl _)) (Nat.lt_succ_self _)
  refine ⟨S, φ', ⟨hs.size, hs.defers, fun i d' hi hl => ?_, fun j d _ h => by simp [look] at h, h2⟩, h4, ⟨Nat.le_succ_of_le hN, fun i hi hnn => by rw [h5 i (by simp only at hN; omega)]; exact hnn, h3.loc⟩⟩
  rcases look_upd j _ env i d' hl with ⟨rfl, rfl⟩ | ⟨_, hl⟩
  · have hr := hs.env i d hi hj
    have hz : Zs S (a.tmps.getD i undef) := by
      rcases hd with rfl | rfl
      · simp only [Rep] at hr; exact .inl hr
      · simpa only [Rep] using hr
    simp only [Rep]
    refine ⟨_, h1, Nat.le_refl _, ?_, fun _ => .inl ⟨rfl, trivial, trivial, hz⟩⟩
    rcases hz with h | ⟨p, h⟩ <;> exact ⟨_, _, _, h⟩
  · exact Rep.mono h3 _ _ (hs.env i d' hi hl)

theorem RepCs_set {b : Nat} {d d' : D} : ∀ {cs : List D} {off o : Nat}, cs[off]? = some d → (∀ x, Rep w S φ d x → Rep w S φ d' x) → RepCs w S φ cs b o → RepCs w S φ (cs.set off d') b o
  | [], _, _, h, _, _ => by simp at h
  | c :: cs, 0, o, h, hd, hr => by
    simp only [List.getElem?_cons_zero, Option.some.injEq] at h; subst h
    simp only [List.set_cons_zero, RepCs] at hr ⊢
    obtain ⟨⟨x, hx, hr1⟩, h⟩ := hr
    exact ⟨⟨x, hx, hd x hr1⟩, h⟩
  | c :: cs, off + 1, o, h, hd, hr => by
    simp only [List.set_cons_succ, RepCs] at hr ⊢
    exact ⟨hr.1, RepCs_set (by simpa using h) hd hr.2⟩

theorem MSim_box {id off : Nat} {cs : List D} {d d' : D} (h : MSim S φ mem nx w) (hl : look mem id = some (.box cs)) (ho : cs[off]? = some d) (hd : ∀ x, Rep w S φ d x → Rep w S φ d' x) :
    MSim S φ (upd mem id (.box (cs.set off d'))) nx w :=
  ⟨fun i blk hi => by
    rcases look_upd id _ mem i blk hi with ⟨rfl, rfl⟩ | ⟨_, hi⟩
    · obtain ⟨l, h1, h2, h3⟩ := h.mem i _ hl
      refine ⟨l, h1, h2, ?_⟩
      simp only [BRep, List.length_set] at h3 ⊢
      exact ⟨h3.1, h3.2.1, h3.2.2.1, h3.2.2.2.1, RepCs_set ho hd h3.2.2.2.2⟩
    · exact h.mem i blk hi, h.inj, h.lt, h.fresh, h.sub⟩

/-- The same of a cell of an owned variable. -/
theorem Wk_ownM {id off k : Nat} {cs : List D} {d : D} (hl : look mem id = some (.box cs)) (ho : cs[off]? = some d) (hd : d = .pl (.slice none 0 0) ∨ d = .zs) :
    Wk C ⟨env, tl, mem, nx⟩ ⟨env, [], (nx, .arr 0 k []) :: upd mem id (.box (cs.set off (.osl nx 0 0 0))), nx + 1⟩ := fun N S φ a w hN hs => by
  have hm1 : MSim S φ mem (nx + 1) w := MSim_le hs.m (memLe_refl _) (Nat.le_succ _)
  obtain ⟨φ', h1, h2, h3, h4, h5⟩ := own_nil (k := k) hm1 (hs.m.fresh nx (Nat.le_refl _)) (Nat.lt_succ_self _)
  have hne : nx ≠ id := by
    rintro rfl
    obtain ⟨l, hφ, _⟩ := hs.m.mem _ _ hl
    rw [hs.m.fresh nx (Nat.le_refl _)] at hφ; simp at hφ
  have hl2 : look ((nx, Blk.arr 0 k []) :: mem) id = some (.box cs) := by simp only [look, hne, if_false]; exact hl
  have hm2 := MSim_box (off := off) (d' := .osl nx 0 0 0) h2 hl2 ho (fun x hr => by
    have hz : Zs S x := by
      rcases hd with rfl | rfl
      · simp only [Rep] at hr; exact .inl hr
      · simpa only [Rep] using hr
    simp only [Rep]
    refine ⟨_, h1, Nat.le_refl _, ?_, fun _ => .inl ⟨rfl, trivial, trivial, hz⟩⟩
    rcases hz with h | ⟨p, h⟩ <;> exact ⟨_, _, _, h⟩)
  simp only [upd, hne, if_false] at hm2
  refine ⟨S, φ', ⟨hs.size, hs.defers, fun i d' hi hl => Rep.mono h3 _ _ (hs.env i d' hi hl), fun j d _ h => by simp [look] at h, hm2⟩, ?_, ⟨Nat.le_succ_of_le hN, fun i hi hnn => by rw [h5 i (by simp only at hN; omega)]; exact hnn, h3.loc⟩⟩
  refine h4.trans ⟨fun _ h => h, fun _ _ _ => rfl, Nat.le_refl _, ?_, fun _ h => .inl h, rfl, rfl, rfl⟩
  rintro b _ ⟨i, blk, l, g1, g2, g3, g4⟩
  simp only [look] at g1
  by_cases e : nx = i
  · subst e; exact ⟨nx, .arr 0 k [], l, by simp [look], g2, g3, g4⟩
  · simp only [e, if_false] at g1
    rcases look_upd id _ mem i blk g1 with ⟨rfl, rfl⟩ | ⟨_, g1⟩
    · exact ⟨i, _, l, hl2, g2, g3, g4⟩
    · exact ⟨i, blk, l, by simp only [look, e, if_false]; exact g1, g2, g3, g4⟩

/-! ### Loops -/
def Again {α : Type} (C : Cfg) (E : α → Nat → Env) (M : α → Nat → Mem) (inv : α → Nat → Prop) (μ : α → Nat) (y : α) (s : St) : Prop :=
  ∃ z n, inv z n ∧ μ z < μ y ∧ Wk C s ⟨E z n, [], M z n, n⟩

theorem again_of {α : Type} {E : α → Nat → Env} {M : α → Nat → Mem} {inv : α → Nat → Prop} {μ : α → Nat} {y : α} (z : α) (hi : inv z nx) (hlt : μ z < μ y) (he : envLe env (E z nx)) (hm : memLe mem (M z nx)) :
    Again C E M inv μ y ⟨env, tl, mem, nx⟩ := ⟨z, nx, hi, hlt, Wk_to he hm (Nat.le_refl _)⟩

theorem A_loop_wk {α : Type} {x : AC} (E : α → Nat → Env) (M : α → Nat → Mem) (inv : α → Nat → Prop) (μ : α → Nat)
    (h0 : ∃ x0 n0, inv x0 n0 ∧ Wk C ⟨env, [], mem, nx⟩ ⟨E x0 n0, [], M x0 n0, n0⟩)
    (round : ∀ y n, inv y n → A C x (Kont C (thenQ (Again C E M inv μ y) Q) []) (E y n) (M y n) n) : A C (.loop x) Q env mem nx := by
  rw [A_loop]
  obtain ⟨x0, n0, hi, hw⟩ := h0
  refine TA_weaken hw ?_
  refine TA_loop (α := α × Nat) (fun p => ⟨E p.1 p.2, [], M p.1 p.2, p.2⟩) (fun p => inv p.1 p.2) (fun p => μ p.1) (fun p hp => ?_) (x0, n0) hi
  refine TA_mono ?_ (TA_of_A (round p.1 p.2 hp))
  intro e s h
  rw [Kont_nil] at h
  cases e with
  | normal =>
    obtain ⟨z, n, h1, h2, h3⟩ := h
    exact ⟨(z, n), h1, h2, h3⟩
  | _ => exact h

theorem A_loop_of {α : Type} {x : AC} (E : α → Nat → Env) (M : α → Nat → Mem) (inv : α → Nat → Prop) (μ : α → Nat) (x0 : α) (h0 : inv x0 nx) (he : envLe env (E x0 nx)) (hm : memLe mem (M x0 nx))
    (round : ∀ y n, inv y n → A C x (Kont C (thenQ (Again C E M inv μ y) Q) []) (E y n) (M y n) n) : A C (.loop x) Q env mem nx :=
  A_loop_wk E M inv μ ⟨x0, nx, h0, Wk_to he hm (Nat.le_refl _)⟩ round

/-- Some slots are forgotten; some are told anew. -/
def tops (ws : List Nat) : Env → Env
  | [] => []
  | (k, d) :: e => (k, if ws.contains k then .top else d) :: tops ws e
def upds : Env → List (Nat × D) → Env
  | e, [] => e
  | e, (j, d) :: r => upds (upd e j d) r
@[simp] theorem tops_nil {ws : List Nat} : tops ws [] = [] := (rfl)
@[simp] theorem tops_cons {ws : List Nat} {k : Nat} {d : D} {e : Env} : tops ws ((k, d) :: e) = (k, if ws.contains k then .top else d) :: tops ws e := (rfl)
@[simp] theorem upds_nil {e : Env} : upds e [] = e := by cases e <;> rfl
@[simp] theorem upds_cons {e : Env} {j : Nat} {d : D} {r : List (Nat × D)} : upds e ((j, d) :: r) = upds (upd e j d) r := by cases e <;> rfl
@[simp] theorem dLe_same {d : D} : dLe d d = True := by simp [dLe]
@[simp] theorem dLe_top {d : D} : dLe d .top = True := by simp [dLe]
@[simp] theorem envLe_nil : envLe [] [] = True := (rfl)
@[simp] theorem envLe_cons {k k' : Nat} {d d' : D} {e e' : Env} : envLe ((k, d) :: e) ((k', d') :: e') = (k' = k ∧ dLe d d' ∧ envLe e e') := (rfl)
@[simp] theorem memLe_same {m : Mem} : memLe m m = True := eq_true (memLe_refl m)
@[simp] theorem memLe_none {m : Mem} : memLe m [] = True := eq_true (memLe_nil m)

/-- A slice that is nil becomes an owned one ahead of a loop. -/
theorem A_loop_own {x : AC} {j k : Nat} {d : D} (hj : look env j = some d) (hd : d = .pl (.slice none 0 0) ∨ d = .zs) (h : A C (.loop x) Q (upd env j (.osl nx 0 0 0)) ((nx, .arr 0 k []) :: mem) (nx + 1)) : A C (.loop x) Q env mem nx := by
  rw [A_loop] at h ⊢
  exact TA_weaken (Wk_own hj hd) h
theorem A_loop_ownM {x : AC} {id off k : Nat} {cs : List D} {d : D} (hl : look mem id = some (.box cs)) (ho : cs[off]? = some d) (hd : d = .pl (.slice none 0 0) ∨ d = .zs)
    (h : A C (.loop x) Q env ((nx, .arr 0 k []) :: upd mem id (.box (cs.set off (.osl nx 0 0 0)))) (nx + 1)) : A C (.loop x) Q env mem nx := by
  rw [A_loop] at h ⊢
  exact TA_weaken (Wk_ownM hl ho hd) h

@[simp] theorem thenQ_normal {next : St → Prop} {s : St} : thenQ next Q .normal s = next s := (rfl)
@[simp] theorem thenQ_ret {next : St → Prop} {s : St} : thenQ next Q .ret s = Q .ret s := (rfl)
@[simp] theorem thenQ_exit {next : St → Prop} {s : St} {i : Nat} : thenQ next Q (.exit i) s = Q (.exit i) s := (rfl)
@[simp] theorem thenQ_goto {next : St → Prop} {s : St} {i : Nat} : thenQ next Q (.goto i) s = Q (.goto i) s := (rfl)
@[simp] theorem straightQ_normal {s : St} : straightQ Q .normal s = Q .normal s := (rfl)
@[simp] theorem straightQ_ret {s : St} : straightQ Q .ret s = Q .ret s := (rfl)
@[simp] theorem straightQ_exit {s : St} {i : Nat} : straightQ Q (.exit i) s = Q (.exit i) s := (rfl)

theorem pcK_of {P : Program} {f : FuncId} {xs : List D} {r : D} {K : KD} (h : Pure P f xs r) (hi : D.imms xs = true) (hk : K r mem nx) : pcK P (some (.fn f [])) (some xs) mem nx K := by
  refine ⟨r, .inl ?_, ?_, hk⟩ <;> simpa
theorem pcE_of {P : Program} {f : FuncId} {xs : List D} {r : D} {K : KD} (h : Extn P f xs r) (hi : D.imms xs = true) (hk : K r mem nx) : pcK P (some (.fn f [])) (some xs) mem nx K := by
  refine ⟨r, .inr ?_, ?_, hk⟩ <;> simpa
end
end Go.Fx

/-
  Memory: a new block, only read or owned; a store into an owned block.
-/
import Derived.Test.YtaiklblnfebdfaaX5
set_option linter.all false
namespace Go.Fx
open Go
section
variable {C : Cfg} {w w' : World} {S : Nat → Prop} {φ : Locs} {a : Act} {env tl : Env} {mem : Mem} {nx id : Nat} {K : KD}

theorem cell_of_heap {b : Nat} (h : w'.heap[b]? = w.heap[b]?) (o : Nat) : w'.cell? ⟨b, o, none⟩ = w.cell? ⟨b, o, none⟩ := by
  simp only [World.cell?, h]

theorem BRep.mono {S' : Nat → Prop} {φ' : Locs} (h : Stays w S φ w' S' φ') {l : Loc} (hb : l.real = true → w'.heap[l.b]? = w.heap[l.b]?) : ∀ (blk : Blk), BRep w S φ l blk → BRep w' S' φ' l blk
  | .box cs, hr => by
    simp only [BRep] at hr ⊢
    obtain ⟨h1, h2, h3, ⟨c, t, h4, h5⟩, h6⟩ := hr
    exact ⟨h1, h2, h3, ⟨c, t, (hb h1).trans h4, h5⟩, RepCs.mono h cs l.b 0 (cell_of_heap (hb h1)) h6⟩
  | .arr ver k es, hr => by
    simp only [BRep] at hr ⊢
    obtain ⟨h1, h2, h3, h4⟩ := hr
    refine ⟨h1, h2, h3, ?_⟩
    rcases h4 with h4 | ⟨h4, ⟨c, t, h5, h6⟩, h7, h8⟩
    · exact .inl h4
    · exact .inr ⟨h4, ⟨c, t, (hb h4).trans h5, h6⟩, h7, RepEs.mono h es k l.b l.base (cell_of_heap (hb h4)) h8⟩
  | .map es, hr => by
    simp only [BRep] at hr ⊢
    obtain ⟨h1, h2, ms, clock, h3, h4⟩ := hr
    exact ⟨h1, h2, ms, clock, (hb h1).trans h3, RepMs.mono h _ _ h4⟩

theorem alloc_old (o : Obj) {b : Nat} (h : b < w.heap.size) : (w.alloc o).heap[b]? = w.heap[b]? := by
  show (w.heap.push o)[b]? = _
  rw [Array.getElem?_push, if_neg (by omega)]
theorem alloc_new (o : Obj) : (w.alloc o).heap[w.heap.size]? = some o := by
  show (w.heap.push o)[w.heap.size]? = _
  simp
theorem alloc_size (o : Obj) : (w.alloc o).heap.size = w.heap.size + 1 := by
  show (w.heap.push o).size = _
  simp

theorem Stays.of_heap {S' : Nat → Prop} {φ' : Locs} (hS : ∀ b, S b → S' b) (hb : ∀ b, S b → w'.heap[b]? = w.heap[b]?) (hφ : ∀ id l, φ id = some l → φ' id = some l) : Stays w S φ w' S' φ' :=
  ⟨hS, fun b h o => cell_of_heap (hb b h) o, fun id l h => ⟨l, hφ id l h, .inl rfl⟩⟩

/-- A new block that is only read. -/
theorem alloc_imm (hm : MSim S φ mem nx w) (o : Obj) : MSim (fun b => S b ∨ b = w.heap.size) φ mem nx (w.alloc o) ∧ Stays w S φ (w.alloc o) (fun b => S b ∨ b = w.heap.size) φ ∧
    Ext S φ mem w (fun b => S b ∨ b = w.heap.size) φ mem (w.alloc o) := by
  have hst : Stays w S φ (w.alloc o) (fun b => S b ∨ b = w.heap.size) φ := Stays.of_heap (fun b h => .inl h) (fun b h => alloc_old o (hm.sub b h)) (fun _ _ h => h)
  refine ⟨⟨?_, hm.inj, ?_, hm.fresh, ?_⟩, hst, ⟨fun b h => .inl h, fun b hb _ => alloc_old o hb, by rw [alloc_size]; omega, fun b _ h => h, ?_, rfl, rfl, rfl⟩⟩
  · intro i blk hi
    obtain ⟨l, h1, h2, h3⟩ := hm.mem i blk hi
    refine ⟨l, h1, fun hr => ?_, h3.mono hst fun hr => alloc_old o (hm.lt i l h1 hr)⟩
    rintro (h | h)
    · exact h2 hr h
    · have := hm.lt i l h1 hr; omega
  · intro i l h hr; rw [alloc_size]; have := hm.lt i l h hr; omega
  · rintro b (h | h)
    · rw [alloc_size]; have := hm.sub b h; omega
    · rw [alloc_size]; omega
  · rintro b (h | h)
    · exact .inl h
    · exact .inr (.inl (by omega))

/-- A new owned block. -/
theorem alloc_own (hm : MSim S φ mem nx w) (o : Obj) (hid : φ id = none) (hlt : id < nx) {l : Loc} (hr : l.real = true) (hl : l.b = w.heap.size) {blk : Blk}
    (hb : ∀ φ', Stays w S φ (w.alloc o) S φ' → BRep (w.alloc o) S φ' l blk) :
    ∃ φ', φ' id = some l ∧ MSim S φ' ((id, blk) :: mem) nx (w.alloc o) ∧ Stays w S φ (w.alloc o) S φ' ∧ Ext S φ mem w S φ' ((id, blk) :: mem) (w.alloc o) ∧ ∀ i, i ≠ id → φ' i = φ i := by
  refine ⟨fun i => if i = id then some l else φ i, by simp, ?_⟩
  have hst : Stays w S φ (w.alloc o) S (fun i => if i = id then some l else φ i) := by
    refine Stays.of_heap (fun b h => h) (fun b h => alloc_old o (hm.sub b h)) fun i l' h => ?_
    by_cases e : i = id
    · subst e; rw [hid] at h; simp at h
    · simp [e, h]
  refine ⟨⟨?_, ?_, ?_, ?_, ?_⟩, hst, ⟨fun b h => h, fun b hb _ => alloc_old o hb, by rw [alloc_size]; omega, ?_, fun b h => .inl h, rfl, rfl, rfl⟩, fun i h => by simp [h]⟩
  · intro i blk' hi
    simp only [look] at hi
    by_cases e : id = i
    · subst e
      simp only [if_true, Option.some.injEq] at hi; subst hi
      exact ⟨l, by simp, fun _ h => by have := hm.sub _ h; omega, hb _ hst⟩
    · simp only [e, if_false] at hi
      obtain ⟨l', h1, h2, h3⟩ := hm.mem i blk' hi
      exact ⟨l', by simp [Ne.symm e, h1], h2, h3.mono hst fun hr => alloc_old o (hm.lt i l' h1 hr)⟩
  · intro i j l1 l2 h1 h2 r1 r2 hbb
    by_cases e1 : i = id <;> by_cases e2 : j = id
    · rw [e1, e2]
    · simp only [e1, if_true, Option.some.injEq] at h1
      simp only [e2, if_false] at h2
      have := hm.lt j l2 h2 r2
      subst h1; omega
    · simp only [e2, if_true, Option.some.injEq] at h2
      simp only [e1, if_false] at h1
      have := hm.lt i l1 h1 r1
      subst h2; omega
    · simp only [e1, if_false] at h1
      simp only [e2, if_false] at h2
      exact hm.inj i j l1 l2 h1 h2 r1 r2 hbb
  · intro i l' h hr'
    rw [alloc_size]
    by_cases e : i = id
    · simp only [e, if_true, Option.some.injEq] at h; subst h; omega
    · simp only [e, if_false] at h
      have := hm.lt i l' h hr'; omega
  · intro i h
    have e : i ≠ id := by omega
    simp only [e, if_false]; exact hm.fresh i h
  · intro b h; rw [alloc_size]; have := hm.sub b h; omega
  · rintro b hlt' ⟨i, blk', l', h1, h2, h3, h4⟩
    simp only [look] at h1
    by_cases e : id = i
    · subst e
      simp only [if_true, Option.some.injEq] at h2; subst h2; omega
    · simp only [e, if_false] at h1
      simp only [Ne.symm e, if_false] at h2
      exact ⟨i, blk', l', h1, h2, h3, h4⟩

/-- A nil slice as an owned one: no block yet. -/
theorem own_nil (hm : MSim S φ mem nx w) (hid : φ id = none) (hlt : id < nx) (k : Nat) :
    ∃ φ', φ' id = some ⟨true, false, 0, 0, k, 0, 0⟩ ∧ MSim S φ' ((id, .arr 0 k []) :: mem) nx w ∧ Stays w S φ w S φ' ∧ Ext S φ mem w S φ' ((id, .arr 0 k []) :: mem) w ∧ ∀ i, i ≠ id → φ' i = φ i := by
  refine ⟨fun i => if i = id then some ⟨true, false, 0, 0, k, 0, 0⟩ else φ i, by simp, ?_⟩
  have hst : Stays w S φ w S (fun i => if i = id then some ⟨true, false, 0, 0, k, 0, 0⟩ else φ i) := by
    refine Stays.of_heap (fun b h => h) (fun b h => rfl) fun i l' h => ?_
    by_cases e : i = id
    · subst e; rw [hid] at h; simp at h
    · simp [e, h]
  refine ⟨⟨?_, ?_, ?_, ?_, hm.sub⟩, hst, ⟨fun b h => h, fun b _ _ => rfl, Nat.le_refl _, ?_, fun b h => .inl h, rfl, rfl, rfl⟩, fun i h => by simp [h]⟩
  · intro i blk' hi
    simp only [look] at hi
    by_cases e : id = i
    · subst e
      simp only [if_true, Option.some.injEq] at hi; subst hi
      exact ⟨⟨true, false, 0, 0, k, 0, 0⟩, by simp, fun h => by simp at h, by simp [BRep]⟩
    · simp only [e, if_false] at hi
      obtain ⟨l', h1, h2, h3⟩ := hm.mem i blk' hi
      exact ⟨l', by simp [Ne.symm e, h1], h2, h3.mono hst fun _ => rfl⟩
  · intro i j l1 l2 h1 h2 r1 r2 hbb
    by_cases e1 : i = id <;> by_cases e2 : j = id
    · rw [e1, e2]
    · simp only [e1, if_true, Option.some.injEq] at h1; subst h1; simp at r1
    · simp only [e2, if_true, Option.some.injEq] at h2; subst h2; simp at r2
    · simp only [e1, if_false] at h1
      simp only [e2, if_false] at h2
      exact hm.inj i j l1 l2 h1 h2 r1 r2 hbb
  · intro i l' h hr'
    by_cases e : i = id
    · simp only [e, if_true, Option.some.injEq] at h; subst h; simp at hr'
    · simp only [e, if_false] at h
      exact hm.lt i l' h hr'
  · intro i h
    have e : i ≠ id := by omega
    simp only [e, if_false]; exact hm.fresh i h
  · rintro b hlt' ⟨i, blk', l', h1, h2, h3, h4⟩
    simp only [look] at h1
    by_cases e : id = i
    · subst e
      simp only [if_true, Option.some.injEq] at h2; subst h2; simp at h3
    · simp only [e, if_false] at h1
      simp only [Ne.symm e, if_false] at h2
      exact ⟨i, blk', l', h1, h2, h3, h4⟩

/-- A block that is owned turns; all others stay. -/
theorem write_own (hm : MSim S φ mem nx w) {l : Loc} (hl : φ id = some l) (hr : l.real = true) {old blk : Blk} (ho : look mem id = some old) (hw : ∀ b, b ≠ l.b → w'.heap[b]? = w.heap[b]?) (hsz : w'.heap.size = w.heap.size)
    (hos : w'.os = w.os) (hout : w'.output = w.output) (htp : w'.tape = w.tape) (hb : Stays w S φ w' S φ → BRep w' S φ l blk) :
    MSim S φ (upd mem id blk) nx w' ∧ Stays w S φ w' S φ ∧ Ext S φ mem w S φ (upd mem id blk) w' := by
  obtain ⟨l0, h0, hS, _⟩ := hm.mem id _ ho
  rw [hl] at h0; simp only [Option.some.injEq] at h0; subst h0
  have hst : Stays w S φ w' S φ := Stays.of_heap (fun b h => h) (fun b h => hw b fun e => hS hr (e ▸ h)) (fun _ _ h => h)
  refine ⟨⟨?_, hm.inj, ?_, hm.fresh, ?_⟩, hst, ⟨fun b h => h, ?_, by omega, ?_, fun b h => .inl h, hos, hout, htp⟩⟩
  · intro i blk' hi
    rcases look_upd id blk mem i blk' hi with ⟨rfl, rfl⟩ | ⟨hne, hi⟩
    · exact ⟨l, hl, hS, hb hst⟩
    · obtain ⟨l', h1, h2, h3⟩ := hm.mem i blk' hi
      exact ⟨l', h1, h2, h3.mono hst fun hr' => hw _ fun e => hne (hm.inj i id l' l h1 hl hr' hr e)⟩
  · intro i l' h hr'; rw [hsz]; exact hm.lt i l' h hr'
  · intro b h; rw [hsz]; exact hm.sub b h
  · intro b _ hn
    exact hw b fun e => hn ⟨id, old, l, ho, hl, hr, e.symm⟩
  · rintro b _ ⟨i, blk', l', h1, h2, h3, h4⟩
    rcases look_upd id blk mem i blk' h1 with ⟨rfl, rfl⟩ | ⟨hne, hi⟩
    · exact ⟨i, old, l', ho, h2, h3, h4⟩
    · exact ⟨i, blk', l', hi, h2, h3, h4⟩

/-- A row goes over to a new block (or was nil), with a new version. -/
theorem move_own (hm : MSim S φ mem nx w) {l l' : Loc} (hl : φ id = some l) (ha : l.arr = true) (ha' : l'.arr = true) (hv : l.ver < l'.ver) {old blk : Blk} (ho : look mem id = some old) (o : Obj) (hr' : l'.real = true) (hb' : l'.b = w.heap.size)
    (hb : ∀ φ', φ' id = some l' → Stays w S φ (w.alloc o) S φ' → BRep (w.alloc o) S φ' l' blk) :
    ∃ φ', φ' id = some l' ∧ MSim S φ' (upd mem id blk) nx (w.alloc o) ∧ Stays w S φ (w.alloc o) S φ' ∧ Ext S φ mem w S φ' (upd mem id blk) (w.alloc o) ∧ ∀ i, i ≠ id → φ' i = φ i := by
  refine ⟨fun i => if i = id then some l' else φ i, by simp, ?_⟩
  have hst : Stays w S φ (w.alloc o) S (fun i => if i = id then some l' else φ i) := by
    refine ⟨fun b h => h, fun b h o' => cell_of_heap (alloc_old o (hm.sub b h)) o', fun i l1 h => ?_⟩
    by_cases e : i = id
    · subst e; rw [hl] at h; simp only [Option.some.injEq] at h; subst h
      exact ⟨l', by simp, .inr ⟨ha, ha', hv⟩⟩
    · exact ⟨l1, by simp [e, h], .inl rfl⟩
  refine ⟨⟨?_, ?_, ?_, ?_, ?_⟩, hst, ⟨fun b h => h, fun b hb _ => alloc_old o hb, by rw [alloc_size]; omega, ?_, fun b h => .inl h, rfl, rfl, rfl⟩, fun i h => by simp [h]⟩
  · intro i blk' hi
    rcases look_upd id blk mem i blk' hi with ⟨rfl, rfl⟩ | ⟨hne, hi⟩
    · exact ⟨l', by simp, fun _ h => by have := hm.sub _ h; omega, hb _ (by simp) hst⟩
    · obtain ⟨l1, h1, h2, h3⟩ := hm.mem i blk' hi
      exact ⟨l1, by simp [hne, h1], h2, h3.mono hst fun hr => alloc_old o (hm.lt i l1 h1 hr)⟩
  · intro i j l1 l2 h1 h2 r1 r2 hbb
    by_cases e1 : i = id <;> by_cases e2 : j = id
    · rw [e1, e2]
    · simp only [e1, if_true, Option.some.injEq] at h1
      simp only [e2, if_false] at h2
      have := hm.lt j l2 h2 r2
      subst h1; omega
    · simp only [e2, if_true, Option.some.injEq] at h2
      simp only [e1, if_false] at h1
      have := hm.lt i l1 h1 r1
      subst h2; omega
    · simp only [e1, if_false] at h1
      simp only [e2, if_false] at h2
      exact hm.inj i j l1 l2 h1 h2 r1 r2 hbb
  · intro i l1 h hr1
    rw [alloc_size]
    by_cases e : i = id
    · simp only [e, if_true, Option.some.injEq] at h; subst h; omega
    · simp only [e, if_false] at h
      have := hm.lt i l1 h hr1; omega
  · intro i h
    have e : i ≠ id := by rintro rfl; rw [hm.fresh _ h] at hl; simp at hl
    simp only [e, if_false]; exact hm.fresh i h
  · intro b h; rw [alloc_size]; have := hm.sub b h; omega
  · rintro b hlt' ⟨i, blk', l1, h1, h2, h3, h4⟩
    rcases look_upd id blk mem i blk' h1 with ⟨rfl, rfl⟩ | ⟨hne, hi⟩
    · simp only [if_true, Option.some.injEq] at h2; subst h2; omega
    · simp only [hne, if_false] at h2
      exact ⟨i, blk', l1, hi, h2, h3, h4⟩

/-- A row stays where it is, with a new version. -/
theorem bump_own (hm : MSim S φ mem nx w) {l l' : Loc} (hl : φ id = some l) (ha : l.arr = true) (ha' : l'.arr = true) (hv : l.ver < l'.ver) {old blk : Blk} (ho : look mem id = some old) (hrr : l'.real = l.real) (hbb : l'.b = l.b)
    (hw : ∀ b, (l.real = true → b ≠ l.b) → w'.heap[b]? = w.heap[b]?) (hsz : w'.heap.size = w.heap.size) (hos : w'.os = w.os) (hout : w'.output = w.output) (htp : w'.tape = w.tape)
    (hb : ∀ φ', φ' id = some l' → Stays w S φ w' S φ' → BRep w' S φ' l' blk) :
    ∃ φ', φ' id = some l' ∧ MSim S φ' (upd mem id blk) nx w' ∧ Stays w S φ w' S φ' ∧ Ext S φ mem w S φ' (upd mem id blk) w' ∧ ∀ i, i ≠ id → φ' i = φ i := by
  obtain ⟨l0, h0, hS, _⟩ := hm.mem id _ ho
  rw [hl] at h0; simp only [Option.some.injEq] at h0; subst h0
  refine ⟨fun i => if i = id then some l' else φ i, by simp, ?_⟩
  have hst : Stays w S φ w' S (fun i => if i = id then some l' else φ i) := by
    refine ⟨fun b h => h, fun b h o' => cell_of_heap (hw b fun hr e => hS hr (e ▸ h)) o', fun i l1 h => ?_⟩
    by_cases e : i = id
    · subst e; rw [hl] at h; simp only [Option.some.injEq] at h; subst h
      exact ⟨l', by simp, .inr ⟨ha, ha', hv⟩⟩
    · exact ⟨l1, by simp [e, h], .inl rfl⟩
  refine ⟨⟨?_, ?_, ?_, ?_, ?_⟩, hst, ⟨fun b h => h, ?_, by omega, ?_, fun b h => .inl h, hos, hout, htp⟩, fun i h => by simp [h]⟩
  · intro i blk' hi
    rcases look_upd id blk mem i blk' hi with ⟨rfl, rfl⟩ | ⟨hne, hi⟩
    · exact ⟨l', by simp, fun hr => by rw [hbb]; exact hS (hrr ▸ hr), hb _ (by simp) hst⟩
    · obtain ⟨l1, h1, h2, h3⟩ := hm.mem i blk' hi
      exact ⟨l1, by simp [hne, h1], h2, h3.mono hst fun hr => hw _ fun hr0 e => hne (hm.inj i id l1 l h1 hl hr hr0 e)⟩
  · intro i j l1 l2 h1 h2 r1 r2 hb2
    by_cases e1 : i = id <;> by_cases e2 : j = id
    · rw [e1, e2]
    · simp only [e1, if_true, Option.some.injEq] at h1
      simp only [e2, if_false] at h2
      subst h1; rw [hbb] at hb2
      exact e1.trans (hm.inj id j l l2 hl h2 (hrr ▸ r1) r2 hb2)
    · simp only [e2, if_true, Option.some.injEq] at h2
      simp only [e1, if_false] at h1
      subst h2; rw [hbb] at hb2
      exact (hm.inj i id l1 l h1 hl r1 (hrr ▸ r2) hb2).trans e2.symm
    · simp only [e1, if_false] at h1
      simp only [e2, if_false] at h2
      exact hm.inj i j l1 l2 h1 h2 r1 r2 hb2
  · intro i l1 h hr1
    rw [hsz]
    by_cases e : i = id
    · simp only [e, if_true, Option.some.injEq] at h; subst h; rw [hbb]; exact hm.lt id l hl (hrr ▸ hr1)
    · simp only [e, if_false] at h
      exact hm.lt i l1 h hr1
  · intro i h
    have e : i ≠ id := by rintro rfl; rw [hm.fresh _ h] at hl; simp at hl
    simp only [e, if_false]; exact hm.fresh i h
  · intro b h; rw [hsz]; exact hm.sub b h
  · intro b _ hn
    exact hw b fun hr e => hn ⟨id, old, l, ho, hl, hr, e.symm⟩
  · rintro b hlt' ⟨i, blk', l1, h1, h2, h3, h4⟩
    rcases look_upd id blk mem i blk' h1 with ⟨rfl, rfl⟩ | ⟨hne, hi⟩
    · simp only [if_true, Option.some.injEq] at h2; subst h2
      exact ⟨i, old, l, ho, hl, hrr ▸ h3, hbb ▸ h4⟩
    · simp only [hne, if_false] at h2
      exact ⟨i, blk', l1, hi, h2, h3, h4⟩
end
end Go.Fx

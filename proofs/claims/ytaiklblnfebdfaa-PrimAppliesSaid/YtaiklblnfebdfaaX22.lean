/-
  Calls that see owned blocks: by the function's text, by a pure contract and blocks that are let go.
-/
import Derived.Test.YtaiklblnfebdfaaX21
set_option linter.all false
namespace Go.Fx
open Go
section
variable {C : Cfg} {P : Program} {mem mf mk : Mem} {nx : Nat} {w : World} {S : Nat → Prop} {φ : Locs} {f : FuncId} {args : List D} {K : KD}

theorem clK_of (h : CallT P f args mem nx K) : clK P (some (.fn f [])) (some args) mem nx K := by
  unfold clK; simpa using h
theorem clK_caps {caps : List D} (h : CallT P f (args ++ caps) mem nx K) : clK P (some (.fn f caps)) (some args) mem nx K := h

theorem memSub_refl (mem : Mem) : memSub mem mem := fun _ _ h => h
theorem memSub_nil (mem : Mem) : memSub mem [] := fun _ _ h => by simp [look] at h
theorem memSub_cons {i : Nat} {b : Blk} {m m' : Mem} (h : memSub m m') : memSub ((i, b) :: m) ((i, b) :: m') := fun id blk hl => by
  simp only [look] at hl ⊢
  split at hl
  · rename_i e; simpa [e] using hl
  · rename_i e; simpa [e] using h id blk hl
theorem memSub_skip {i : Nat} {b : Blk} {m m' : Mem} (h : memSub m m') (hi : look m' i = none) : memSub ((i, b) :: m) m' := fun id blk hl => by
  simp only [look]
  split
  · rename_i e; subst e; rw [hi] at hl; simp at hl
  · exact h id blk hl
theorem memSub_le {m m' : Mem} (h : memSub m m') : memLe m m' := fun i b hl => ⟨b, h i b hl, .inl rfl⟩

/-- Owned blocks are handed to a function that only reads: from then on they are only read. -/
theorem CallT_frz {args' : List D} {r : D} (h1 : memSub mem mf) (h2 : memSub mem mk) (hd : ∀ i, look mf i = none ∨ look mk i = none) (hfr : frzs mf 100 args = some args') (hp : Pure P f args' r) (hk : K r mk nx) :
    CallT P f args mem nx K := by
  refine ⟨hp.1, fun S φ w xs hm hx => ?_⟩
  have hmf : MSim S φ mf nx w := MSim_le hm (memSub_le h1) (Nat.le_refl _)
  have hmk0 : MSim S φ mk nx w := MSim_le hm (memSub_le h2) (Nat.le_refl _)
  have hargs := frzs_sound hmf 100 args args' xs hfr hx
  have hS2 : ∀ b, SF S φ mf b → b < w.heap.size := by
    rintro b (h | ⟨i, blk, l, _, g2, g3, rfl⟩)
    · exact hm.sub b h
    · exact hm.lt i l g2 g3
  have hmk : MSim (SF S φ mf) φ mk nx w := ⟨fun i blk hi => by
      obtain ⟨l, g1, g2, g3⟩ := hmk0.mem i blk hi
      refine ⟨l, g1, fun hr hs => ?_, BRep.mono stays_SF (fun _ => rfl) blk g3⟩
      rcases hs with hs | ⟨j, blk', l', k1, k2, k3, k4⟩
      · exact g2 hr hs
      · have := hm.inj j i l' l k2 g1 k3 hr k4
        subst this
        rcases hd j with e | e
        · rw [e] at k1; simp at k1
        · rw [e] at hi; simp at hi, hm.inj, hm.lt, hm.fresh, hS2⟩
  refine (hp.2 (SF S φ mf) w xs hS2 hargs).mono ?_
  rintro e w' ⟨v, S', rfl, hr, hx', hS'⟩
  have hsame : ∀ b, b < w.heap.size → w'.heap[b]? = w.heap[b]? := fun b hb => hx'.keep b hb (by rintro ⟨i, blk, l, h1, _⟩; simp [look] at h1)
  have hst2 : Stays w (SF S φ mf) φ w' S' φ := Stays.of_heap hx'.sub (fun b hb => hsame b (hS2 b hb)) (fun _ _ h => h)
  have hst : Stays w S φ w' S' φ := ⟨fun b hb => hst2.sub b (.inl hb), fun b hb => hst2.cell b (.inl hb), hst2.loc⟩
  have hnews : ∀ b, S' b → SF S φ mf b ∨ w.heap.size ≤ b := fun b hb => by
    rcases hx'.news b hb with h | h | ⟨i, blk, l, h1, _⟩
    · exact .inl h
    · exact .inr h
    · simp [look] at h1
  refine ⟨v, r, mk, nx, S', φ, rfl, hk, Nat.le_refl _, ⟨?_, hm.inj, ?_, hm.fresh, hS'⟩, Rep.mono (φ' := φ) ⟨fun _ h => h, fun _ _ _ => rfl, fun _ _ h => by simp [noLocs] at h⟩ _ _ hr, hst,
    ⟨fun b hb => hx'.sub b (.inl hb), fun b hb _ => hsame b hb, hx'.size, fun b _ ⟨i, blk, l, g1, g2, g3, g4⟩ => ⟨i, blk, l, h2 i blk g1, g2, g3, g4⟩, fun b hb => ?_, hx'.os, hx'.output, hx'.tape⟩, fun _ _ h => h⟩
  · intro i blk hi'
    obtain ⟨l, h1, h2, h3⟩ := hmk.mem i blk hi'
    refine ⟨l, h1, fun hr hs => ?_, h3.mono hst2 fun hr => hsame _ (hm.lt i l h1 hr)⟩
    rcases hnews _ hs with h | h
    · exact h2 hr h
    · have := hm.lt i l h1 hr; omega
  · intro i l h1 hr
    exact Nat.lt_of_lt_of_le (hm.lt i l h1 hr) hx'.size
  · rcases hnews b hb with (h | ⟨i, blk, l, g1, g2, g3, g4⟩) | h
    · exact .inl h
    · exact .inr (.inr ⟨i, blk, l, h1 i blk g1, g2, g3, g4⟩)
    · exact .inr (.inl h)

@[simp] theorem RetC_ret {rs : List RV} {s : St} : RetC rs K .ret s = ∃ ds, resL s.env s.mem rs = some ds ∧ ∃ mem', memSub s.mem mem' ∧ K (tupOf ds) mem' s.nx := (rfl)
@[simp] theorem RetC_normal {rs : List RV} {s : St} : RetC rs K .normal s = ∃ ds, resL s.env s.mem rs = some ds ∧ ∃ mem', memSub s.mem mem' ∧ K (tupOf ds) mem' s.nx := (rfl)
@[simp] theorem memSub_same {m : Mem} : memSub m m = True := eq_true (memSub_refl m)
@[simp] theorem memSub_none {m : Mem} : memSub m [] = True := eq_true (memSub_nil m)

/-- A call that sees no owned block, as a contract: what it makes is only read from then on. -/
theorem Pure_of_CallT {args : List D} {res : D} (hi : D.imms args = true) (h : CallT P f args [] 0 (fun d mem _ => frz mem 100 d = some res)) : Pure P f args res := by
  refine ⟨h.1, fun S w xs hS hx => (h.2 S noLocs w xs ⟨fun i b h => by simp [look] at h, fun i j l m h => by simp [noLocs] at h, fun i l h => by simp [noLocs] at h, fun _ _ => rfl, hS⟩ hx).mono ?_⟩
  rintro e w' ⟨v, d, mem', nx', S', φ', rfl, hk, _, hm, hr, hst, hx', _⟩
  refine ⟨v, SF S' φ' mem', rfl, frz_sound hm 100 _ _ _ hk hr, ⟨fun b hb => .inl (hx'.sub b hb), hx'.keep, hx'.size, fun b _ h => h, ?_, hx'.os, hx'.output, hx'.tape⟩, ?_⟩
  · rintro b (h | h)
    · exact hx'.news b h
    · by_cases hlt : b < w.heap.size
      · exact .inr (.inr (hx'.own b hlt h))
      · exact .inr (.inl (by omega))
  · rintro b (h | ⟨i, blk, l, _, h2, h3, rfl⟩)
    · exact hm.sub b h
    · exact hm.lt i l h2 h3
end
end Go.Fx

/-
  Deep values that may be seen as others, within slices; owned blocks lent to a function whose answer leads nowhere.
-/
import Derived.Test.YtjfiklflmnhbdaaXJ
set_option linter.all false
namespace Go.Fx
open Go
/-! ### Cells one by one -/
inductive rLc : List D → List D → Prop where
  | nil : rLc [] []
  | cons {d d' : D} {ds ds' : List D} (h : rLe d d') (k : rLc ds ds') : rLc (d :: ds) (d' :: ds')
inductive rLe2 : List (List D) → List (List D) → Prop where
  | nil : rLe2 [] []
  | cons {d d' : List D} {ds ds' : List (List D)} (h : rLc d d') (k : rLe2 ds ds') : rLe2 (d :: ds) (d' :: ds')
theorem rLc.refl : ∀ {ds : List D}, rLc ds ds
  | [] => .nil
  | _ :: _ => .cons rLe.refl rLc.refl
theorem rLe2.refl : ∀ {ds : List (List D)}, rLe2 ds ds
  | [] => .nil
  | _ :: _ => .cons rLc.refl rLe2.refl
theorem rLc.len {ds ds' : List D} (h : rLc ds ds') : ds'.length = ds.length := by
  induction h with
  | nil => rfl
  | cons _ _ ih => simp [ih]
theorem rLe2.len {ds ds' : List (List D)} (h : rLe2 ds ds') : ds'.length = ds.length := by
  induction h with
  | nil => rfl
  | cons _ _ ih => simp [ih]
theorem rLc.rep {ds ds' : List D} (h : rLc ds ds') {w : World} {S : Nat → Prop} {φ : Locs} {b : Nat} : ∀ {o : Nat}, RepCs w S φ ds b o → RepCs w S φ ds' b o := by
  induction h with
  | nil => intro o hx; exact hx
  | cons h1 _ ih =>
    intro o hx
    simp only [RepCs] at hx ⊢
    obtain ⟨⟨x, hx1, hx2⟩, hx3⟩ := hx
    exact ⟨⟨x, hx1, h1 _ _ _ _ hx2⟩, ih hx3⟩
theorem rLe2.rep {ds ds' : List (List D)} (h : rLe2 ds ds') {w : World} {S : Nat → Prop} {φ : Locs} {k b : Nat} : ∀ {o : Nat}, RepEs w S φ ds k b o → RepEs w S φ ds' k b o := by
  induction h with
  | nil => intro o hx; exact hx
  | cons h1 _ ih =>
    intro o hx
    simp only [RepEs] at hx ⊢
    exact ⟨h1.len.trans hx.1, h1.rep hx.2.1, ih hx.2.2⟩
theorem rLe_sl {es es' : List (List D)} (h : rLe2 es es') : rLe (.sl es) (.sl es') := fun w S φ x hx => by
  simp only [Rep] at hx ⊢
  rcases hx with ⟨h1, h2⟩ | ⟨b, o, cap, k, h1, h2, h3, h4⟩
  · subst h1
    cases h
    exact .inl ⟨rfl, h2⟩
  · exact .inr ⟨b, o, cap, k, by rw [h.len]; exact h1, by rw [h.len]; exact h2, h3, h.rep h4⟩
theorem rLes.refl' {ds : List D} : rLes ds ds := fun _ _ _ _ h => h
theorem rLes_of {ds ds' : List D} (h : rLc ds ds') : rLes ds ds' := by
  induction h with
  | nil => exact rLes_nil
  | cons h1 _ ih => exact rLes_cons h1 ih
/-! ### Answers that lead nowhere -/
mutual
def D.flat : D → Bool
  | .pl _ => true
  | .agg cs => D.flats cs
  | .tup cs => D.flats cs
  | _ => false
def D.flats : List D → Bool
  | [] => true
  | d :: ds => d.flat && D.flats ds
end
mutual
theorem flat_rep {w w' : World} {S S' : Nat → Prop} {φ φ' : Locs} : ∀ (d : D) (x : Value), d.flat = true → Rep w S φ d x → Rep w' S' φ' d x
  | .pl v, x, _, h => by simpa [Rep] using h
  | .agg cs, x, hf, h => by
    simp only [D.flat] at hf
    simp only [Rep] at h ⊢
    obtain ⟨vs, h1, h2⟩ := h
    exact ⟨vs, h1, flats_rep cs _ hf h2⟩
  | .tup cs, x, hf, h => by
    simp only [D.flat] at hf
    simp only [Rep] at h ⊢
    obtain ⟨vs, h1, h2⟩ := h
    exact ⟨vs, h1, flats_rep cs _ hf h2⟩
  | .top, x, hf, _ => by simp [D.flat] at hf
  | .zs, x, hf, _ => by simp [D.flat] at hf
  | .sl _, x, hf, _ => by simp [D.flat] at hf
  | .pt _, x, hf, _ => by simp [D.flat] at hf
  | .opt _ _, x, hf, _ => by simp [D.flat] at hf
  | .osl _ _ _ _, x, hf, _ => by simp [D.flat] at hf
  | .oel _ _ _ _, x, hf, _ => by simp [D.flat] at hf
  | .omap _, x, hf, _ => by simp [D.flat] at hf
  | .fn _ _, x, hf, _ => by simp [D.flat] at hf
theorem flats_rep {w w' : World} {S S' : Nat → Prop} {φ φ' : Locs} : ∀ (ds : List D) (xs : List Value), D.flats ds = true → RepVs w S φ ds xs → RepVs w' S' φ' ds xs
  | [], xs, _, h => by simpa [RepVs] using h
  | d :: ds, xs, hf, h => by
    simp only [D.flats, Bool.and_eq_true] at hf
    simp only [RepVs] at h ⊢
    obtain ⟨x, r, h1, h2, h3⟩ := h
    exact ⟨x, r, h1, flat_rep d x hf.1 h2, flats_rep ds r hf.2 h3⟩
end
section
variable {P : Program} {f : FuncId} {args args' : List D} {mem mf : Mem} {nx : Nat} {K : KD}
/-- Owned blocks are lent to a function that only reads, and whose answer leads nowhere: they stay owned. -/
theorem CallT_flat {d0 : D} (hf : d0.flat = true) (h1 : memSub mem mf) (hfr : frzs mf 100 args = some args') (hp : Pure P f args' d0) (hk : K d0 mem nx) : CallT P f args mem nx K := by
  refine ⟨hp.1, fun S φ w xs hm hx => ?_⟩
  have hmf : MSim S φ mf nx w := MSim_le hm (memSub_le h1) (Nat.le_refl _)
  have hargs := frzs_sound hmf 100 args args' xs hfr hx
  have hS2 : ∀ b, SF S φ mf b → b < w.heap.size := by
    rintro b (h | ⟨i, blk, l, _, g2, g3, rfl⟩)
    · exact hm.sub b h
    · exact hm.lt i l g2 g3
  refine (hp.2 (SF S φ mf) w xs hS2 hargs).mono ?_
  rintro e w' ⟨v, S', rfl, hr, hx', hS'⟩
  have hsame : ∀ b, b < w.heap.size → w'.heap[b]? = w.heap[b]? := fun b hb => hx'.keep b hb (by rintro ⟨i, blk, l, h1, _⟩; simp [look] at h1)
  have hst : Stays w S φ w' S φ := Stays.of_heap (fun _ h => h) (fun b hb => hsame b (hm.sub b hb)) (fun _ _ h => h)
  refine ⟨v, d0, mem, nx, S, φ, rfl, hk, Nat.le_refl _, ⟨?_, hm.inj, ?_, hm.fresh, fun b hb => Nat.lt_of_lt_of_le (hm.sub b hb) hx'.size⟩, flat_rep d0 v hf hr, hst,
    ⟨fun b hb => hb, fun b hb _ => hsame b hb, hx'.size, fun b _ h => h, fun b hb => .inl hb, hx'.os, hx'.output, hx'.tape⟩, fun _ _ h => h⟩
  · intro i blk hi
    obtain ⟨l, g1, g2, g3⟩ := hm.mem i blk hi
    exact ⟨l, g1, g2, g3.mono hst fun hr => hsame _ (hm.lt i l g1 hr)⟩
  · intro i l g1 g2
    exact Nat.lt_of_lt_of_le (hm.lt i l g1 g2) hx'.size
/-- A contract by its call, the answer just as it comes: nothing owned in it. -/
theorem Pure_exact {P : Program} {f : FuncId} {args : List D} {res : D} (hi : D.imms args = true) (hr : D.imm res = true) (h : CallT P f args [] 0 (fun d _ _ => d = res)) : Pure P f args res := by
  refine ⟨h.1, fun S w xs hS hx => (h.2 S noLocs w xs ⟨fun i b h => by simp [look] at h, fun i j l m h => by simp [noLocs] at h, fun i l h => by simp [noLocs] at h, fun _ _ => rfl, hS⟩ hx).mono ?_⟩
  rintro e w' ⟨v, d, mem', nx', S', φ', rfl, rfl, _, hm, hv, hst, hx', _⟩
  exact ⟨v, S', rfl, Rep_imm _ _ hr hv, ⟨hx'.sub, hx'.keep, hx'.size, fun b _ h => h, hx'.news, hx'.os, hx'.output, hx'.tape⟩, hm.sub⟩
@[simp] theorem ex_memSub {m : Mem} : (∃ m', memSub m m') = True := eq_true ⟨m, memSub_refl m⟩
end
end Go.Fx

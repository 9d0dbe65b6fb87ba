/-
  A call whose answer is new memory alone: told of no owned block at all; owned blocks may be lent to it.
-/
import Derived.Test.YtjfiklflmnhbdaaXK
set_option linter.all false
namespace Go.Fx
open Go
mutual
/-- Nothing in it but plain values and what leads to blocks of m. -/
def D.cln (m : Mem) : D → Bool
  | .pl _ => true
  | .zs => true
  | .osl id _ _ _ => (look m id).isSome
  | .opt id _ => (look m id).isSome
  | .agg cs => D.clns m cs
  | .tup cs => D.clns m cs
  | _ => false
def D.clns (m : Mem) : List D → Bool
  | [] => true
  | d :: ds => d.cln m && D.clns m ds
end
def Blk.cln (m : Mem) : Blk → Bool
  | .box cs => D.clns m cs
  | .arr _ _ es => es.all (D.clns m)
  | .map es => es.all fun e => e.2.cln m
def MCln (m : Mem) : Prop := ∀ i b, look m i = some b → b.cln m = true
section
variable {w : World} {S S' : Nat → Prop} {φ φ' : Locs} {m : Mem}
mutual
theorem cln_rep (hφ : ∀ i l, (look m i).isSome = true → φ i = some l → φ' i = some l) : ∀ (d : D) (x : Value), d.cln m = true → Rep w S φ d x → Rep w S' φ' d x
  | .pl v, x, _, h => by simpa [Rep] using h
  | .zs, x, _, h => by
    simp only [Rep] at h ⊢
    exact h
  | .osl id ver lo n, x, hc, h => by
    simp only [Rep, D.cln] at h hc ⊢
    obtain ⟨l, h1, h2⟩ := h
    exact ⟨l, hφ id l hc h1, h2⟩
  | .opt id off, x, hc, h => by
    simp only [Rep, D.cln] at h hc ⊢
    obtain ⟨l, h1, h2⟩ := h
    exact ⟨l, hφ id l hc h1, h2⟩
  | .agg cs, x, hc, h => by
    simp only [Rep, D.cln] at h hc ⊢
    obtain ⟨vs, h1, h2⟩ := h
    exact ⟨vs, h1, clns_rep hφ cs _ hc h2⟩
  | .tup cs, x, hc, h => by
    simp only [Rep, D.cln] at h hc ⊢
    obtain ⟨vs, h1, h2⟩ := h
    exact ⟨vs, h1, clns_rep hφ cs _ hc h2⟩
  | .top, _, hc, _ => by simp [D.cln] at hc
  | .sl _, _, hc, _ => by simp [D.cln] at hc
  | .pt _, _, hc, _ => by simp [D.cln] at hc
  | .oel _ _ _ _, _, hc, _ => by simp [D.cln] at hc
  | .omap _, _, hc, _ => by simp [D.cln] at hc
  | .fn _ _, _, hc, _ => by simp [D.cln] at hc
theorem clns_rep (hφ : ∀ i l, (look m i).isSome = true → φ i = some l → φ' i = some l) : ∀ (ds : List D) (xs : List Value), D.clns m ds = true → RepVs w S φ ds xs → RepVs w S' φ' ds xs
  | [], xs, _, h => by simpa [RepVs] using h
  | d :: ds, xs, hc, h => by
    simp only [RepVs, D.clns, Bool.and_eq_true] at h hc ⊢
    obtain ⟨x, r, h1, h2, h3⟩ := h
    exact ⟨x, r, h1, cln_rep hφ d x hc.1 h2, clns_rep hφ ds r hc.2 h3⟩
end
theorem clnc_rep (hφ : ∀ i l, (look m i).isSome = true → φ i = some l → φ' i = some l) : ∀ (ds : List D) (b o : Nat), D.clns m ds = true → RepCs w S φ ds b o → RepCs w S' φ' ds b o
  | [], b, o, _, h => by simp [RepCs]
  | d :: ds, b, o, hc, h => by
    simp only [RepCs, D.clns, Bool.and_eq_true] at h hc ⊢
    obtain ⟨⟨x, h1, h2⟩, h3⟩ := h
    exact ⟨⟨x, h1, cln_rep hφ d x hc.1 h2⟩, clnc_rep hφ ds b (o + 1) hc.2 h3⟩
theorem clne_rep (hφ : ∀ i l, (look m i).isSome = true → φ i = some l → φ' i = some l) : ∀ (es : List (List D)) (k b o : Nat), es.all (D.clns m) = true → RepEs w S φ es k b o → RepEs w S' φ' es k b o
  | [], k, b, o, _, h => by simp [RepEs]
  | e :: es, k, b, o, hc, h => by
    simp only [RepEs, List.all_cons, Bool.and_eq_true] at h hc ⊢
    exact ⟨h.1, clnc_rep hφ e b o hc.1 h.2.1, clne_rep hφ es k b (o + k) hc.2 h.2.2⟩
theorem clnm_rep (hφ : ∀ i l, (look m i).isSome = true → φ i = some l → φ' i = some l) : ∀ (es : List (Value × D)) (ms : List MapEntry), es.all (fun e => e.2.cln m) = true → RepMs w S φ es ms → RepMs w S' φ' es ms
  | [], ms, _, h => h
  | e :: es, ms, hc, ⟨x, r, h1, h2, h3, h4⟩ => by
    simp only [List.all_cons, Bool.and_eq_true] at hc
    exact ⟨x, r, h1, h2, cln_rep hφ _ _ hc.1 h3, clnm_rep hφ es r hc.2 h4⟩
theorem clnb_rep (hφ : ∀ i l, (look m i).isSome = true → φ i = some l → φ' i = some l) {l : Loc} : ∀ (b : Blk), b.cln m = true → BRep w S φ l b → BRep w S' φ' l b
  | .box cs, hc, h => by
    simp only [BRep, Blk.cln] at h hc ⊢
    obtain ⟨h1, h2, h3, h4, h5⟩ := h
    exact ⟨h1, h2, h3, h4, clnc_rep hφ cs _ _ hc h5⟩
  | .arr ver k es, hc, h => by
    simp only [BRep, Blk.cln] at h hc ⊢
    obtain ⟨h1, h2, h3, h4⟩ := h
    refine ⟨h1, h2, h3, h4.imp id fun ⟨g1, g2, g3, g4⟩ => ⟨g1, g2, g3, clne_rep hφ es _ _ _ hc g4⟩⟩
  | .map es, hc, h => by
    simp only [BRep, Blk.cln] at h hc ⊢
    obtain ⟨h1, h2, ms, c, h3, h4⟩ := h
    exact ⟨h1, h2, ms, c, h3, clnm_rep hφ es _ hc h4⟩
end
theorem look_app {α : Type} (i : Nat) : ∀ (m m' : List (Nat × α)), look (m ++ m') i = match look m i with | some b => some b | none => look m' i
  | [], m' => rfl
  | (k, x) :: m, m' => by
    rw [List.cons_append, look_cons, look_cons]
    split
    · rfl
    · exact look_app i m m'
/-- A call that is told of no owned block: what it makes stands ahead of what is there. 'mf': what its arguments are read through. -/
theorem CallT_new {P : Program} {f : FuncId} {args args' : List D} {mem mf : Mem} {nx : Nat} {K K0 : KD} (hsub : memSub mem mf) (hfr : frzs mf 100 args = some args') (hc : CallT P f args' [] nx K0)
    (hK : ∀ d m n, nx ≤ n → K0 d m n → d.cln m = true ∧ MCln m ∧ K d (m ++ mem) n) : CallT P f args mem nx K := by
  refine ⟨hc.1, fun S φ w xs hm hx => ?_⟩
  have hmf : MSim S φ mf nx w := MSim_le hm (memSub_le hsub) (Nat.le_refl _)
  have hargs := frzs_sound hmf 100 args args' xs hfr hx
  have hS2 : ∀ b, SF S φ mf b → b < w.heap.size := by
    rintro b (h | ⟨i, blk, l, _, g2, g3, rfl⟩)
    · exact hm.sub b h
    · exact hm.lt i l g2 g3
  refine (hc.2 (SF S φ mf) noLocs w xs ⟨fun i b h => by simp [look] at h, fun i j l m h => by simp [noLocs] at h, fun i l h => by simp [noLocs] at h, fun _ _ => rfl, hS2⟩ hargs).mono ?_
  rintro e w' ⟨v, d, m1, n1, S1, φ1, rfl, hk, hn, hm1, hr, hst, hx', hlow⟩
  obtain ⟨hdc, hmc, hKd⟩ := hK d m1 n1 hn hk
  have hsame : ∀ b, b < w.heap.size → w'.heap[b]? = w.heap[b]? := fun b hb => hx'.keep b hb (by rintro ⟨i, blk, l, h1, _⟩; simp [look] at h1)
  have hlow : ∀ i, i < nx → φ1 i = none := fun i hi => hlow i hi rfl
  have hnew : ∀ i blk l, look m1 i = some blk → φ1 i = some l → l.real = true → w.heap.size ≤ l.b := fun i blk l h1 h2 h3 => by
    rcases Nat.lt_or_ge l.b w.heap.size with h | h
    · obtain ⟨j, blk', l', g1, _⟩ := hx'.own l.b h ⟨i, blk, l, h1, h2, h3, rfl⟩
      simp [look] at g1
    · exact h
  have hid : ∀ i blk, look m1 i = some blk → nx ≤ i := fun i blk h => by
    obtain ⟨l, g, _⟩ := hm1.mem i blk h
    rcases Nat.lt_or_ge i nx with h2 | h2
    · rw [hlow i h2] at g; simp at g
    · exact h2
  let φ2 : Locs := fun i => if i < nx then φ i else if (look m1 i).isSome then φ1 i else none
  let S2 : Nat → Prop := fun b => S b ∨ (S1 b ∧ w.heap.size ≤ b)
  have hφ : ∀ i l, (look m1 i).isSome = true → φ1 i = some l → φ2 i = some l := fun i l h1 h2 => by
    obtain ⟨blk, hb⟩ := Option.isSome_iff_exists.1 h1
    have := hid i blk hb
    show (if i < nx then φ i else if (look m1 i).isSome then φ1 i else none) = _
    rw [if_neg (by omega), if_pos h1]; exact h2
  have hold : ∀ i l, φ i = some l → φ2 i = some l := fun i l h => by
    have : i < nx := by
      rcases Nat.lt_or_ge i nx with h2 | h2
      · exact h2
      · rw [hm.fresh i h2] at h; simp at h
    show (if i < nx then φ i else _) = _
    rw [if_pos this]; exact h
  have hcase : ∀ i l, φ2 i = some l → (i < nx ∧ φ i = some l) ∨ (nx ≤ i ∧ φ1 i = some l ∧ ∃ blk, look m1 i = some blk) := fun i l h => by
    by_cases h1 : i < nx
    · left; refine ⟨h1, ?_⟩
      have : φ2 i = φ i := if_pos h1
      rw [← this]; exact h
    · right
      have e : φ2 i = if (look m1 i).isSome then φ1 i else none := if_neg h1
      rw [e] at h
      split at h
      · rename_i hs
        exact ⟨by omega, h, Option.isSome_iff_exists.1 hs⟩
      · simp at h
  have hst2 : Stays w S φ w' S2 φ2 := Stays.of_heap (fun _ h => .inl h) (fun b hb => hsame b (hm.sub b hb)) hold
  refine ⟨v, d, m1 ++ mem, n1, S2, φ2, rfl, hKd, hn, ⟨?_, ?_, ?_, ?_, ?_⟩, cln_rep hφ d v hdc hr, hst2, ⟨fun b hb => .inl hb, fun b hb _ => hsame b hb, hx'.size, ?_, ?_, hx'.os, hx'.output, hx'.tape⟩, ?_⟩
  · intro i blk hi
    rw [look_app] at hi
    split at hi
    · rename_i b hb
      simp only [Option.some.injEq] at hi; subst hi
      obtain ⟨l, g1, g2, g3⟩ := hm1.mem i b hb
      refine ⟨l, hφ i l (by rw [hb]; rfl) g1, fun hr hs => ?_, clnb_rep hφ b (hmc i b hb) g3⟩
      rcases hs with hs | hs
      · have h1 := hm.sub _ hs
        have h2 := hnew i b l hb g1 hr
        omega
      · exact g2 hr hs.1
    · obtain ⟨l, g1, g2, g3⟩ := hm.mem i blk hi
      refine ⟨l, hold i l g1, fun hr hs => ?_, g3.mono hst2 fun hr => hsame _ (hm.lt i l g1 hr)⟩
      rcases hs with hs | hs
      · exact g2 hr hs
      · have := hm.lt i l g1 hr; omega
  · intro i j l m' h1 h2 hr hr2 hb
    rcases hcase i l h1 with ⟨a1, a2⟩ | ⟨a1, a2, blk, a3⟩ <;> rcases hcase j m' h2 with ⟨b1, b2⟩ | ⟨b1, b2, blk2, b3⟩
    · exact hm.inj i j l m' a2 b2 hr hr2 hb
    · have g1 := hm.lt i l a2 hr
      have g2 := hnew j blk2 m' b3 b2 hr2
      omega
    · have g1 := hm.lt j m' b2 hr2
      have g2 := hnew i blk l a3 a2 hr
      omega
    · exact hm1.inj i j l m' a2 b2 hr hr2 hb
  · intro i l h1 hr
    rcases hcase i l h1 with ⟨a1, a2⟩ | ⟨a1, a2, blk, a3⟩
    · exact Nat.lt_of_lt_of_le (hm.lt i l a2 hr) hx'.size
    · exact hm1.lt i l a2 hr
  · intro i hi
    show (if i < nx then φ i else if (look m1 i).isSome then φ1 i else none) = none
    rw [if_neg (by omega)]
    split
    · exact hm1.fresh i hi
    · rfl
  · rintro b (h | h)
    · exact Nat.lt_of_lt_of_le (hm.sub b h) hx'.size
    · exact hm1.sub b h.1
  · rintro b hb ⟨i, blk, l, g1, g2, g3, g4⟩
    rw [look_app] at g1
    split at g1
    · rename_i b' hb'
      rcases hcase i l g2 with ⟨a1, a2⟩ | ⟨a1, a2, blk', a3⟩
      · have := hid i b' hb'; omega
      · have := hnew i b' l hb' a2 g3; omega
    · rcases hcase i l g2 with ⟨a1, a2⟩ | ⟨a1, a2, blk', a3⟩
      · exact ⟨i, blk, l, g1, a2, g3, g4⟩
      · rename_i hno
        rw [a3] at hno; simp at hno
  · rintro b (h | h)
    · exact .inl h
    · exact .inr (.inl h.2)
  · intro i hi h
    show (if i < nx then φ i else _) = none
    rw [if_pos hi]; exact h
end Go.Fx

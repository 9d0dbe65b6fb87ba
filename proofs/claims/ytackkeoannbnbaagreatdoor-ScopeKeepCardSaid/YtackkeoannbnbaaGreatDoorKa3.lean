/- Joined texts of this claim. No condition. -/
import Derived.Test.YtackkeoannbnbaaGreatDoorKa2
set_option linter.all false
namespace Go.Fx
open Go
mutual
/-- Nothing in it but plain values and what leads to blocks of m. -/
def D.cln (m : Mem) : D → Bool
 | .pl _ => true
 | .zs => true
 | .osl id _ _ _ => (look m id).isSome
 | .opt id _ => (look m id).isSome
 | .omap id => (look m id).isSome
 | .agg cs => D.clns m cs
 | .tup cs => D.clns m cs
 | _ => false
def D.clns (m : Mem) : List D → Bool
 | [] => true
 | d :: ds => d.cln m && D.clns m ds
end
def Blk.cln (m : Mem) : Blk → Bool
 | .box cs => D.clns m cs
 | .arr _ _ es => es.all (D.clns m)
 | .map es => es.all fun e => e.2.cln m
def MCln (m : Mem) : Prop := ∀ i b, look m i = some b → b.cln m = true
section
variable {w : World} {S S' : Nat → Prop} {φ φ' : aW} {m : Mem}
mutual
theorem o5 (hφ : ∀ i l, (look m i).isSome = true → φ i = some l → φ' i = some l) : ∀ (d : D) (x : Value), d.cln m = true → Rep w S φ d x → Rep w S' φ' d x
 | .pl v, x, _, h => by simpa [Rep] using h
 | .zs, x, _, h => by
  simp only [Rep] at h ⊢
  exact h
 | .osl id ver lo n, x, hc, h => by
  simp only [Rep, D.cln] at h hc ⊢
  obtain ⟨l, h1, h2⟩ := h
  exact ⟨l, hφ id l hc h1, h2⟩
 | .opt id off, x, hc, h => by
  simp only [Rep, D.cln] at h hc ⊢
  obtain ⟨l, h1, h2⟩ := h
  exact ⟨l, hφ id l hc h1, h2⟩
 | .omap id, x, hc, h => by
  simp only [Rep, D.cln] at h hc ⊢
  obtain ⟨l, h1, h2⟩ := h
  exact ⟨l, hφ id l hc h1, h2⟩
 | .agg cs, x, hc, h => by
  simp only [Rep, D.cln] at h hc ⊢
  obtain ⟨vs, h1, h2⟩ := h
  exact ⟨vs, h1, pY hφ cs _ hc h2⟩
 | .tup cs, x, hc, h => by
  simp only [Rep, D.cln] at h hc ⊢
  obtain ⟨vs, h1, h2⟩ := h
  exact ⟨vs, h1, pY hφ cs _ hc h2⟩
 | .top, _, hc, _ => by simp [D.cln] at hc
 | .sl _, _, hc, _ => by simp [D.cln] at hc
 | .pt _, _, hc, _ => by simp [D.cln] at hc
 | .oel _ _ _ _, _, hc, _ => by simp [D.cln] at hc
 | .fn _ _, _, hc, _ => by simp [D.cln] at hc
theorem pY (hφ : ∀ i l, (look m i).isSome = true → φ i = some l → φ' i = some l) : ∀ (ds : List D) (xs : List Value), D.clns m ds = true → RepVs w S φ ds xs → RepVs w S' φ' ds xs
 | [], xs, _, h => by simpa [RepVs] using h
 | d :: ds, xs, hc, h => by
  simp only [RepVs, D.clns, Bool.and_eq_true] at h hc ⊢
  obtain ⟨x, r, h1, h2, h3⟩ := h
  exact ⟨x, r, h1, o5 hφ d x hc.1 h2, pY hφ ds r hc.2 h3⟩
end
theorem qG (hφ : ∀ i l, (look m i).isSome = true → φ i = some l → φ' i = some l) : ∀ (ds : List D) (b o : Nat), D.clns m ds = true → RepCs w S φ ds b o → RepCs w S' φ' ds b o
 | [], b, o, _, h => by simp [RepCs]
 | d :: ds, b, o, hc, h => by
  simp only [RepCs, D.clns, Bool.and_eq_true] at h hc ⊢
  obtain ⟨⟨x, h1, h2⟩, h3⟩ := h
  exact ⟨⟨x, h1, o5 hφ d x hc.1 h2⟩, qG hφ ds b (o + 1) hc.2 h3⟩
theorem xL (hφ : ∀ i l, (look m i).isSome = true → φ i = some l → φ' i = some l) : ∀ (es : List (List D)) (k b o : Nat), es.all (D.clns m) = true → RepEs w S φ es k b o → RepEs w S' φ' es k b o
 | [], k, b, o, _, h => by simp [RepEs]
 | e :: es, k, b, o, hc, h => by
  simp only [RepEs, List.all_cons, Bool.and_eq_true] at h hc ⊢
  exact ⟨h.1, qG hφ e b o hc.1 h.2.1, xL hφ es k b (o + k) hc.2 h.2.2⟩
theorem wH (hφ : ∀ i l, (look m i).isSome = true → φ i = some l → φ' i = some l) : ∀ (es : List (Value × D)) (ms : List MapEntry), es.all (fun e => e.2.cln m) = true → RepMs w S φ es ms → RepMs w S' φ' es ms
 | [], ms, _, h => h
 | e :: es, ms, hc, ⟨x, r, h1, h2, h3, h4⟩ => by
  simp only [List.all_cons, Bool.and_eq_true] at hc
  exact ⟨x, r, h1, h2, o5 hφ _ _ hc.1 h3, wH hφ es r hc.2 h4⟩
theorem EB (hφ : ∀ i l, (look m i).isSome = true → φ i = some l → φ' i = some l) {l : Loc} : ∀ (b : Blk), b.cln m = true → BRep w S φ l b → BRep w S' φ' l b
 | .box cs, hc, h => by
  simp only [BRep, Blk.cln] at h hc ⊢
  obtain ⟨h1, h2, h3, h4, h5⟩ := h
  exact ⟨h1, h2, h3, h4, qG hφ cs _ _ hc h5⟩
 | .arr ver k es, hc, h => by
  simp only [BRep, Blk.cln] at h hc ⊢
  obtain ⟨h1, h2, h3, h4⟩ := h
  refine ⟨h1, h2, h3, h4.imp id fun ⟨g1, g2, g3, g4⟩ => ⟨g1, g2, g3, xL hφ es _ _ _ hc g4⟩⟩
 | .map es, hc, h => by
  simp only [BRep, Blk.cln] at h hc ⊢
  obtain ⟨h1, h2, ms, c, h3, h4, h5⟩ := h
  exact ⟨h1, h2, ms, c, h3, wH hφ es _ hc h4, h5⟩
end
theorem qO {α : Type} (i : Nat) : ∀ (m m' : List (Nat × α)), look (m ++ m') i = match look m i with | some b => some b | none => look m' i
 | [], m' => rfl
 | (k, x) :: m, m' => by
  rw [List.cons_append, a7, a7]
  split
  ·rfl
  ·exact qO i m m'
theorem B9 {P : Program} {f : FuncId} {args args' : List D} {mem mf : Mem} {nx : Nat} {K K0 : KD} (hsub : bR mem mf) (hfr : dE mf 100 args = some args') (hc : bH P f args' [] nx K0)
  (hK : ∀ d m n, nx ≤ n → K0 d m n → d.cln m = true ∧ MCln m ∧ K d (m ++ mem) n) : bH P f args mem nx K := by
 refine ⟨hc.1, fun S φ w xs hm htb hx => ?_⟩
 have hmf : MSim S φ mf nx w := eA hm (eR hsub) (Nat.le_refl _)
 have hargs := fF hmf 100 args args' xs hfr hx
 have hS2 : ∀ b, SF S φ mf b → b < w.heap.size := by
  rintro b (h | ⟨i, blk, l, _, g2, g3, rfl⟩)
  ·exact hm.sub b h
  ·exact hm.lt i l g2 g3
 refine (hc.2 (SF S φ mf) bS w xs ⟨fun i b h => by simp [look] at h, fun i j l m h => by simp [bS] at h, fun i l h => by simp [bS] at h, fun _ _ => rfl, hS2⟩ (htb.mono fun b h => .inl h) hargs).mono ?_
 rintro e w' ⟨v, d, m1, n1, S1, φ1, rfl, hk, hn, hm1, hr, hst, hx', hlow⟩
 obtain ⟨hdc, hmc, hKd⟩ := hK d m1 n1 hn hk
 have hsame : ∀ b, b < w.heap.size → w'.heap[b]? = w.heap[b]? := fun b hb => hx'.keep b hb (by rintro ⟨i, blk, l, h1, _⟩; simp [look] at h1)
 have hlow : ∀ i, i < nx → φ1 i = none := fun i hi => hlow i hi rfl
 have hnew : ∀ i blk l, look m1 i = some blk → φ1 i = some l → l.real = true → w.heap.size ≤ l.b := fun i blk l h1 h2 h3 => by
  rcases Nat.lt_or_ge l.b w.heap.size with h | h
  ·obtain ⟨j, blk', l', g1, _⟩ := hx'.own l.b h ⟨i, blk, l, h1, h2, h3, rfl⟩
   simp [look] at g1
  ·exact h
 have hid : ∀ i blk, look m1 i = some blk → nx ≤ i := fun i blk h => by
  obtain ⟨l, g, _⟩ := hm1.mem i blk h
  rcases Nat.lt_or_ge i nx with h2 | h2
  ·rw [hlow i h2] at g; simp at g
  ·exact h2
 let φ2 : aW := fun i => if i < nx then φ i else if (look m1 i).isSome then φ1 i else none
 let S2 : Nat → Prop := fun b => S b ∨ (S1 b ∧ w.heap.size ≤ b)
 have hφ : ∀ i l, (look m1 i).isSome = true → φ1 i = some l → φ2 i = some l := fun i l h1 h2 => by
  obtain ⟨blk, hb⟩ := Option.isSome_iff_exists.1 h1
  have := hid i blk hb
  show (if i < nx then φ i else if (look m1 i).isSome then φ1 i else none) = _
  rw [if_neg (by omega), if_pos h1]; exact h2
 have hold : ∀ i l, φ i = some l → φ2 i = some l := fun i l h => by
  have : i < nx := by
   rcases Nat.lt_or_ge i nx with h2 | h2
   ·exact h2
   ·rw [hm.fresh i h2] at h; simp at h
  show (if i < nx then φ i else _) = _
  rw [if_pos this]; exact h
 have hcase : ∀ i l, φ2 i = some l → (i < nx ∧ φ i = some l) ∨ (nx ≤ i ∧ φ1 i = some l ∧ ∃ blk, look m1 i = some blk) := fun i l h => by
  by_cases h1 : i < nx
  ·left; refine ⟨h1, ?_⟩
   have : φ2 i = φ i := if_pos h1
   rw [← this]; exact h
  ·right
   have e : φ2 i = if (look m1 i).isSome then φ1 i else none := if_neg h1
   rw [e] at h
   split at h
   ·rename_i hs
    exact ⟨by omega, h, Option.isSome_iff_exists.1 hs⟩
   ·simp at h
 have hst2 : Stays w S φ w' S2 φ2 := Stays.of_heap (fun _ h => .inl h) (fun b hb => hsame b (hm.sub b hb)) hold
 refine ⟨v, d, m1 ++ mem, n1, S2, φ2, rfl, hKd, hn, ⟨?_, ?_, ?_, ?_, ?_⟩, o5 hφ d v hdc hr, hst2, ⟨fun b hb => .inl hb, fun b hb _ => hsame b hb, hx'.size, ?_, ?_, hx'.os, hx'.output, hx'.tape⟩, ?_⟩
 ·intro i blk hi
  rw [qO] at hi
  split at hi
  ·rename_i b hb
   simp only [Option.some.injEq] at hi; subst hi
   obtain ⟨l, g1, g2, g3⟩ := hm1.mem i b hb
   refine ⟨l, hφ i l (by rw [hb]; rfl) g1, fun hr hs => ?_, EB hφ b (hmc i b hb) g3⟩
   rcases hs with hs | hs
   ·have h1 := hm.sub _ hs
    have h2 := hnew i b l hb g1 hr
    omega
   ·exact g2 hr hs.1
  ·obtain ⟨l, g1, g2, g3⟩ := hm.mem i blk hi
   refine ⟨l, hold i l g1, fun hr hs => ?_, g3.mono hst2 fun hr => hsame _ (hm.lt i l g1 hr)⟩
   rcases hs with hs | hs
   ·exact g2 hr hs
   ·have := hm.lt i l g1 hr; omega
 ·intro i j l m' h1 h2 hr hr2 hb
  rcases hcase i l h1 with ⟨a1, a2⟩ | ⟨a1, a2, blk, a3⟩ <;> rcases hcase j m' h2 with ⟨b1, b2⟩ | ⟨b1, b2, blk2, b3⟩
  ·exact hm.inj i j l m' a2 b2 hr hr2 hb
  ·have g1 := hm.lt i l a2 hr
   have g2 := hnew j blk2 m' b3 b2 hr2
   omega
  ·have g1 := hm.lt j m' b2 hr2
   have g2 := hnew i blk l a3 a2 hr
   omega
  ·exact hm1.inj i j l m' a2 b2 hr hr2 hb
 ·intro i l h1 hr
  rcases hcase i l h1 with ⟨a1, a2⟩ | ⟨a1, a2, blk, a3⟩
  ·exact Nat.lt_of_lt_of_le (hm.lt i l a2 hr) hx'.size
  ·exact hm1.lt i l a2 hr
 ·intro i hi
  show (if i < nx then φ i else if (look m1 i).isSome then φ1 i else none) = none
  rw [if_neg (by omega)]
  split
  ·exact hm1.fresh i hi
  ·rfl
 ·rintro b (h | h)
  ·exact Nat.lt_of_lt_of_le (hm.sub b h) hx'.size
  ·exact hm1.sub b h.1
 ·rintro b hb ⟨i, blk, l, g1, g2, g3, g4⟩
  rw [qO] at g1
  split at g1
  ·rename_i b' hb'
   rcases hcase i l g2 with ⟨a1, a2⟩ | ⟨a1, a2, blk', a3⟩
   ·have := hid i b' hb'; omega
   ·have := hnew i b' l hb' a2 g3; omega
  ·rcases hcase i l g2 with ⟨a1, a2⟩ | ⟨a1, a2, blk', a3⟩
   ·exact ⟨i, blk, l, g1, a2, g3, g4⟩
   ·rename_i hno
    rw [a3] at hno; simp at hno
 ·rintro b (h | h)
  ·exact .inl h
  ·exact .inr (.inl h.2)
 ·intro i hi h
  show (if i < nx then φ i else _) = none
  rw [if_pos hi]; exact h
open Go.Proofs Go.Maps Go.Sort Go.RowKit
section
variable {w w' : World} {S : Nat → Prop} {φ : aW} {mem : Mem} {nx : Nat}
theorem Grown.of_below (h : Below w.heap.size w w') : Grown w w' := ⟨h.size, h.block, h.os, h.output, h.tape⟩
theorem BC (hm : MSim S φ mem nx w) (hg : Grown w w') {l : Loc} {blk : Blk} (hr : l.real = true) (h1 : w.heap.size ≤ l.b) (h2 : l.b < w'.heap.size) (hb : ∀ φ', φ' nx = some l → Stays w S φ w' S φ' → BRep w' S φ' l blk) :
  ∃ φ', φ' nx = some l ∧ MSim S φ' ((nx, blk) :: mem) (nx + 1) w' ∧ Stays w S φ w' S φ' ∧ Ext S φ mem w S φ' ((nx, blk) :: mem) w' ∧ ∀ i, i ≠ nx → φ' i = φ i := by
 have hnx : φ nx = none := hm.fresh nx (Nat.le_refl _)
 have hst : Stays w S φ w' S (fun i => if i = nx then some l else φ i) := by
  refine ⟨fun b h => h, fun b h o' => e8 (hg.same b (hm.sub b h)) o', fun i l1 h => ?_⟩
  have e : i ≠ nx := by rintro rfl; rw [hnx] at h; simp at h
  exact ⟨l1, by simp [e, h], .inl rfl⟩
 refine ⟨fun i => if i = nx then some l else φ i, by simp, ⟨?_, ?_, ?_, ?_, ?_⟩, hst, ⟨fun b h => h, fun b hb' _ => hg.same b hb', hg.size, ?_, fun b h => .inl h, hg.os, hg.output, hg.tape⟩, fun i h => by simp [h]⟩
 ·intro i blk' hi
  rw [a7] at hi
  split at hi
  ·rename_i e; subst e
   simp only [Option.some.injEq] at hi; subst hi
   exact ⟨l, by simp, fun _ h => by have := hm.sub _ h; omega, hb _ (by simp) hst⟩
  ·rename_i e
   obtain ⟨l1, k1, k2, k3⟩ := hm.mem i blk' hi
   exact ⟨l1, by simp [Ne.symm e, k1], k2, k3.mono hst fun hr => hg.same _ (hm.lt i l1 k1 hr)⟩
 ·intro i j l1 l2 h1' h2' r1 r2 hbb
  by_cases e1 : i = nx <;> by_cases e2 : j = nx
  ·rw [e1, e2]
  ·simp only [e1, if_true, Option.some.injEq] at h1'
   simp only [e2, if_false] at h2'
   have := hm.lt j l2 h2' r2
   subst h1'; omega
  ·simp only [e2, if_true, Option.some.injEq] at h2'
   simp only [e1, if_false] at h1'
   have := hm.lt i l1 h1' r1
   subst h2'; omega
  ·simp only [e1, if_false] at h1'
   simp only [e2, if_false] at h2'
   exact hm.inj i j l1 l2 h1' h2' r1 r2 hbb
 ·intro i l1 h hr1
  by_cases e : i = nx
  ·simp only [e, if_true, Option.some.injEq] at h; subst h; exact h2
  ·simp only [e, if_false] at h
   exact Nat.lt_of_lt_of_le (hm.lt i l1 h hr1) hg.size
 ·intro i h
  have e : i ≠ nx := by omega
  simp only [e, if_false]; exact hm.fresh i (by omega)
 ·intro b h; exact Nat.lt_of_lt_of_le (hm.sub b h) hg.size
 ·rintro b hlt' ⟨i, blk', l1, g1, g2, g3, g4⟩
  rw [a7] at g1
  split at g1
  ·rename_i e; subst e
   simp only [if_true, Option.some.injEq] at g2; subst g2; omega
  ·rename_i e
   simp only [Ne.symm e, if_false] at g2
   exact ⟨i, blk', l1, g1, g2, g3, g4⟩
end
def tH (P : Program) (fS fK : FuncId) (kt : TypeId) : Prop :=
 ∀ (bb b nn : Nat) (D0 : DataW Unit) (R : Value → Option (DataW Unit × List MemPlace)) (w : World), bb < w.heap.size → w.cell? ⟨bb, 0, none⟩ = some (.map (some b)) → w.ownsMap P kt R b nn D0 → Maps.size D0 ≤ maxLen → Maps.size D0 * 16 ≤ 140737488355328 →
  Calls P fS #[.func (.func fK) #[] #[.pointer (some ⟨bb, 0, none⟩)]] w fun e w' => ∃ (v : Value) (ss : List (List UInt8)), e = .returned v ∧ ss.Perm (strKeys D0) ∧
   w'.ownsRow w.heap.size kt 1 v ss.length ((ss.mergeSort (fun x y => decide (x ≤ y))).map encStr) ∧ (v = .slice none 0 0 ↔ ss = []) ∧ Below w.heap.size w w'
section
variable {w w' : World} {S : Nat → Prop} {φ : aW} {mem : Mem} {nx : Nat} {P : Program} {kt : TypeId}
theorem xH (hkt : P.underlying kt = some .string) {R : Value → Option (DataW Unit × List MemPlace)} (hR : ∀ v, R v = some (.nil, [])) : ∀ (c : Sm) (ms : List MapEntry), (∀ p ∈ c, p.1.length ≤ maxLen) → RepMs w S φ (aJ c) ms →
  ms.map (WideElems.rg P kt R) = c.map (fun p => (Lit.string p.1, DataW.nil)) ∧ ∀ x ∈ ms, ∃ y, WideElems.rd P kt R x = some y
 | [], ms, _, h => by
  simp only [aJ, List.map_nil, RepMs] at h; subst h
  exact ⟨rfl, by simp⟩
 | p :: c, ms, hp, h => by
  simp only [aJ, List.map_cons, RepMs] at h
  obtain ⟨m, r, rfl, h1, h2, h3⟩ := h
  obtain ⟨i1, i2⟩ := xH hkt hR c r (fun q hq => hp q (by simp [hq])) h3
  have hk : keyOf P kt m.key = some (.string p.1) := by
   rw [h1]
   have := hp p (by simp)
   simp [keyOf, hkt, mapKey, this, ByteArray.size]
  have hrd : WideElems.rd P kt R m = some (.string p.1, .nil) := by
   simp [WideElems.rd, hk, hR]
  refine ⟨by simp only [List.map_cons, i1]; simp [WideElems.rg, hrd], fun x hx => ?_⟩
  rcases List.mem_cons.1 hx with rfl | hx
  ·exact ⟨_, hrd⟩
  ·exact i2 x hx
theorem zQ {gb : Nat} {cs : Array Value} {t : TypeId} (hc : w.heap[gb]? = some (.cells cs t (0, 0))) {l : List (List UInt8)} (h : cs.toList.take (l.length * 1) = l.map encStr) : RepEs w S φ (em aI l) 1 gb 0 := by
 refine gF _ _ _ _ fun i e he => ?_
 simp only [em, List.getElem?_map, Option.map_eq_some_iff] at he
 obtain ⟨x, hx, rfl⟩ := he
 have hi : i < l.length := (List.getElem?_eq_some_iff.1 hx).1
 refine ⟨rfl, ?_⟩
 simp only [aI, RepCs, and_true]
 refine ⟨encStr x, ?_, ?_⟩
 ·have h2 : (l.map encStr)[i]? = some (encStr x) := by rw [List.getElem?_map, hx]; rfl
  rw [← h, List.getElem?_take, if_pos (by omega), Array.getElem?_toList] at h2
  simp [World.cell?, hc, h2]
 ·simp only [Rep]
  first | done | rfl
theorem DJ {fS fK : FuncId} {kb id : Nat} {c : Sm} {K : KD} (he : uS P fS) (hs : tH P fS fK kt) (hkt : P.underlying kt = some .string)
  (hb : look mem kb = some (.box [.omap id])) (hm : look mem id = some (.map (aJ c))) (hlen : c.length ≤ 2 ^ 42) (hk : ∀ p ∈ c, p.1.length ≤ maxLen)
  (h0 : c = [] → ∀ n', nx ≤ n' → K (.pl (.slice none 0 0)) mem n')
  (h1 : c ≠ [] → ∀ n', nx < n' → K (.osl nx 0 0 c.length) ((nx, .arr 0 1 (em aI ((c.map Prod.fst).mergeSort fun x y => decide (x ≤ y)))) :: mem) n') : bH P fS [.fn fK [.opt kb 0]] mem nx K := by
 refine ⟨he, fun S φ w xs hms htb hx => ?_⟩
 simp only [RepVs] at hx
 obtain ⟨x, r, rfl, hx, rfl⟩ := hx
 simp only [Rep] at hx
 obtain ⟨vs, rfl, hv⟩ := hx
 simp only [RepVs] at hv
 obtain ⟨y, r, hvs, hy, rfl⟩ := hv
 simp only [Rep] at hy
 obtain ⟨lb, hlb, _, rfl⟩ := hy
 obtain ⟨l', g1, g2, g3⟩ := hms.mem kb _ hb
 rw [hlb] at g1; simp only [Option.some.injEq] at g1; subst g1
 simp only [BRep] at g3
 obtain ⟨r1, _, base0, ⟨c0, t0, hc0, _⟩, hcs⟩ := g3
 simp only [RepCs, and_true] at hcs
 obtain ⟨v, hcell, hrm⟩ := hcs
 obtain ⟨lm, ms, clock, k1, k2, k3, rfl, k5, k6, k7⟩ := rX hm hrm hms
 have hvs2 : vs = #[.pointer (some ⟨lb.b, 0, none⟩)] := by
  rw [base0] at hvs
  exact Array.toList_inj.1 (by simpa using hvs)
 subst hvs2
 obtain ⟨q1, q2⟩ := xH (R := fun _ => some (.nil, [])) hkt (fun _ => rfl) c ms.toList hk k6
 have hsz : ms.size = c.length := by
  have := congrArg List.length q1
  simpa using this
 have hml : maxLen = 2 ^ 63 - 1 := rfl
 have hown : w.ownsMap P kt (fun _ => some (.nil, [])) lm.b ms.size (.map ((ms.toList.map (WideElems.rg P kt (fun _ => some ((.nil : DataW Unit), [])))).foldr DataW.insert [])) :=
  ⟨ms, clock, k5, ⟨by omega, k7, q2⟩, Nat.le_refl _, rfl⟩
 have hsize : Maps.size (DataW.map ((ms.toList.map (WideElems.rg P kt (fun _ => some ((.nil : DataW Unit), [])))).foldr DataW.insert [])) = c.length := by
  rw [Maps.size_eq, DataW.length_sorted, List.length_map, Array.length_toList, hsz]
 have hperm : (strKeys (DataW.map ((ms.toList.map (WideElems.rg P kt (fun _ => some ((.nil : DataW Unit), [])))).foldr DataW.insert []))).Perm (c.map Prod.fst) := by
  rw [q1]
  have h := (WideShapes.sorted_perm (H := Unit) (c.map (fun p => (Lit.string p.1, DataW.nil)))).map (fun p => strOf p.1)
  simpa [strKeys, strOf, Function.comp_def] using h
 refine (hs lb.b lm.b ms.size _ _ w (hms.lt kb lb hlb r1) hcell hown (by omega) (by omega)).mono ?_
 rintro e w' ⟨v, ss, rfl, hp, hrow, hnil, hbel⟩
 have hg := Grown.of_below hbel
 have hp2 := hp.trans hperm
 have hsl : ss.length = c.length := by rw [hp2.length_eq, List.length_map]
 have hms2 : ss.mergeSort (fun x y => decide (x ≤ y)) = (c.map Prod.fst).mergeSort fun x y => decide (x ≤ y) := mergeSort_of_perm hp2
 by_cases hc : c = []
 ·have hss : ss = [] := by
   subst hc
   exact List.eq_nil_of_length_eq_zero (by simpa using hsl)
  have hv := hnil.2 hss
  subst hv
  obtain ⟨m1, m2⟩ := CQ (fun b hb' => hg.same b (own_lt hms hb')) hg.size hms
  exact ⟨_, _, mem, nx, S, φ, rfl, h0 hc nx (Nat.le_refl _), Nat.le_refl _, m1, by simp only [Rep], m2, hg.ext, fun i _ h => h⟩
 ·obtain ⟨hl, hrow⟩ := hrow
  have hss : ss ≠ [] := fun e => hc (List.eq_nil_of_length_eq_zero (by rw [← hsl, e]; rfl))
  rcases hrow with ⟨rfl, hz⟩ | ⟨gb, cap, cur, rfl, hbase, hgb, r1', r2', r3', r4'⟩
  ·exact absurd (hnil.1 rfl) hss
  have hgl : gb < w'.heap.size := (Array.getElem?_eq_some_iff.1 hgb).1
  rw [hms2] at r4'
  have hlen2 : ((c.map Prod.fst).mergeSort fun x y => decide (x ≤ y)).length = c.length := by simp
  obtain ⟨φ', p1, p2, p3, p4, p5⟩ := BC (l := ⟨true, true, gb, 0, 1, 0, cur.size⟩) (blk := .arr 0 1 (em aI ((c.map Prod.fst).mergeSort fun x y => decide (x ≤ y)))) hms hg rfl hbase hgl (fun φ' _ _ => by
   simp only [BRep]
   refine ⟨trivial, trivial, trivial, .inr ⟨trivial, ⟨cur, kt, hgb, rfl⟩, ?_, zQ hgb ?_⟩⟩
   ·simp only [em, List.length_map, hlen2]; omega
   ·rw [hlen2, ← hsl]; exact r4')
  refine ⟨_, _, _, nx + 1, S, φ', rfl, h1 hc (nx + 1) (by omega), by omega, p2, ?_, p3, p4, fun i hi hn => by rw [p5 i (by omega)]; exact hn⟩
  simp only [Rep]
  refine ⟨_, p1, by simp, ⟨_, _, _, rfl⟩, fun _ => .inr (.inl ⟨rfl, cap, ?_, by omega, by simp only; omega⟩)⟩
  rw [hsl]; simp
end
section
variable {P : Program} {f : FuncId} {args : List D} {mem : Mem} {nx k : Nat} {K : KD}
theorem r6 (k : Nat) (h : bH P f args mem nx (fun d m n => K d m n ∨ d = .pl (.slice none 0 0) ∧ K (.osl n 0 0 0) ((n, .arr 0 k []) :: m) (n + 1))) : bH P f args mem nx K := by
 refine ⟨h.1, fun S φ w xs hm htb hx => (h.2 S φ w xs hm htb hx).mono ?_⟩
 rintro e w' ⟨v, d, mem', nx', S', φ', rfl, hk, hn, hm', hr, hst, hx', hlow⟩
 rcases hk with hk | ⟨rfl, hk⟩
 ·exact ⟨v, d, mem', nx', S', φ', rfl, hk, hn, hm', hr, hst, hx', hlow⟩
 ·have hm1 : MSim S' φ' mem' (nx' + 1) w' := eA hm' (aL _) (Nat.le_succ _)
  obtain ⟨φ'', h1, h2, h3, h4, h5⟩ := pD (k := k) hm1 (hm'.fresh nx' (Nat.le_refl _)) (Nat.lt_succ_self _)
  refine ⟨v, _, _, _, S', φ'', rfl, hk, by omega, h2, ?_, hst.trans h3, hx'.trans h4, fun i hi hn0 => by rw [h5 i (by omega)]; exact hlow i hi hn0⟩
  simp only [Rep] at hr
  subst hr
  simp only [Rep]
  exact ⟨_, h1, Nat.le_refl _, ⟨_, _, _, rfl⟩, fun _ => .inl ⟨rfl, trivial, trivial, .inl rfl⟩⟩
end
end Go.Fx
set_option maxRecDepth 100000
set_option maxHeartbeats 4000000
namespace Go.Fx.YtackkeoannbnbaaGreatDoor
open Go Go.Fx Go.Proofs Go.RowKit Go.Maps Go.Sort Go.Shelf
theorem sorts6 (m : Nat) : AnyZ.SortsIn Tryz.prog Tryz.sorted29_ren Fence.wide m :=
 ⟨fun blk off cap ss W hH hblk hsz => callsIn_wide.2 (AnyM.slices_Sort_string Tryz.sort49 blk off cap ss W hH hblk hsz),
  fun p cap W => callsIn_wide.2 (AnyM.slices_Sort_string_none Tryz.sort49 p cap W)⟩
theorem C_ : tH Tryz.prog 29 50 9 := by
 intro bb b nn D0 R w hbb hcell hown hmax hbytes
 have hseq : SeqGives Fence.wide 2 Tryz.prog 50 #[.pointer (some ⟨bb, 0, none⟩)] encStr (fun ss => ss.Perm (strKeys D0)) (Maps.size D0) w :=
  AnyZ.keys_gives (ρ := Tryz.keys30_ren) { Tryz.keys30 with } Fence.wide _ trivial rfl (by omega) bb b nn D0 w hbb hcell hown
 exact callsIn_wide.1 (AnyZ.sorted_in Tryz.sorted29 Fence.wide 5 trivial trivial trivial trivial rfl (by omega) (sorts6 _) (enters_of Tryz.func49 (by kernel_rfl) rfl) 50 #[.pointer (some ⟨bb, 0, none⟩)] trivial (enters_of Tryz.func50 (by kernel_rfl) rfl) _ _ hmax hbytes _ hseq)
theorem G4 {kb id : Nat} {c : Sm} {mem : Mem} {nx : Nat} {K : KD} (hb : look mem kb = some (.box [.omap id])) (hm : look mem id = some (.map (aJ c))) (hlen : c.length ≤ 2 ^ 42) (hk : ∀ p ∈ c, p.1.length ≤ maxLen)
  (h0 : c = [] → ∀ n', nx ≤ n' → K (.pl (.slice none 0 0)) mem n')
  (h1 : c ≠ [] → ∀ n', nx < n' → K (.osl nx 0 0 c.length) ((nx, .arr 0 1 (em aI ((c.map Prod.fst).mergeSort fun x y => decide (x ≤ y)))) :: mem) n') : bH Tryz.prog 29 [.fn 50 [.opt kb 0]] mem nx K :=
 DJ ⟨Tryz.f29, Tryz.func29, by kernel_rfl, by kernel_rfl⟩ C_ Tryz.underlying9 hb hm hlen hk h0 h1
theorem zL (i : Nat) (hi : i < 100) : Pure Tryz.prog 37 [.pl (.int .i64 i)] (Tx (Lib.decDigits i)) := by
 refine ⟨⟨Tryz.f37, Tryz.func37, by kernel_rfl, by kernel_rfl⟩, fun S w xs hS htb hx => ?_⟩
 simp only [RepVs, Rep] at hx
 obtain ⟨x, r, rfl, rfl, rfl⟩ := hx
 refine (Any.strconv_Itoa_small Tryz.itoa37 i hi w).mono ?_
 rintro e w' ⟨rfl, rfl⟩
 exact ⟨_, S, rfl, by simp only [Rep], Ext.refl _ _ _ _, hS⟩
theorem tab_is {P : Program} {w : World} {name : String} {k : IntKind} {zs : List Int} {g : Nat} {cs : Array Value} {t : TypeId} {f : Nat × Nat} (h1 : P.globalNamed name = some g) (h2 : w.heap[g]? = some (.cells cs t f)) (h3 : cs = (zs.map fun z => Value.int k z).toArray) : Lib.TabIs P w name k zs := by
 unfold Lib.TabIs World.var?
 rw [h1]
 simp [h2, h3]
theorem FM : powT = (Lib.pow10Tab.map fun z => Value.int .u64 z).toArray := by
 unfold powT Lib.pow10Tab
 rw [List.map_map]; rfl
theorem Itoa_c (n : Nat) (hn : n < 2 ^ 62) : Pure Tryz.prog 37 [.pl (.int .i64 n)] (Tx (Lib.decDigits n)) := by
 refine ⟨⟨Tryz.f37, Tryz.func37, by kernel_rfl, by kernel_rfl⟩, fun S w xs hS htb hx => ?_⟩
 simp only [RepVs, Rep] at hx
 obtain ⟨x, r, rfl, rfl, rfl⟩ := hx
 obtain ⟨gl, h1, h2⟩ : ∃ gl, Tryz.prog.globals[0]? = some gl ∧ is20 Tryz.prog gl.type = true := by
  have h : (Tryz.prog.globals[0]?).map (fun gl => is20 Tryz.prog gl.type) = some true := by kernel_rfl
  cases hg : Tryz.prog.globals[0]? with
  | none => rw [hg] at h; simp at h
  | some gl => rw [hg] at h; exact ⟨gl, rfl, by simpa using h⟩
 obtain ⟨_, t, f, hc⟩ := htb 0 gl h1 h2
 refine (Any.strconv_Itoa Tryz.itoaM37 n (by omega) (by omega) w (tab_is (g := 0) (by kernel_rfl) hc FM)).mono ?_
 rintro e w' ⟨rfl, k, os, rfl⟩
 refine ⟨_, S, rfl, ?_, ?_, ?_⟩
 ·simp only [Rep]
  rw [Lib.itoa_nonneg]
 ·exact ⟨fun _ h => h, fun b hb _ => by simp [grow, Array.getElem?_append, hb], by simp [grow], fun _ _ h => h, fun _ h => .inl h, rfl, rfl, rfl⟩
 ·intro b hb
  have := hS b hb
  simp [grow]; omega
set_option maxRecDepth 1000000
open Go.Proofs.YtackkeoannbnbaaGreatDoor
theorem tb_of_laid {w : World} {n0 n1 n2 : String} {d0 d1 : DataW Unit} (hplain : ([(n0, d0), (n1, d1), (n2, Rows.laid_internal_strconv_uint64pow10)].all fun x => x.2.handleName?.isNone) = true)
  (h : laidMetH Tryz.prog [(n0, d0), (n1, d1), (n2, Rows.laid_internal_strconv_uint64pow10)] w) {G : Nat} (hg : Tryz.prog.globalNamed n2 = some G)
  (hty : (Tryz.prog.globals[G]?).map (·.type) = some 154) (hce : Tryz.prog.cellsOf 132 = 1) (hct : Tryz.prog.cellsOf 154 = 20)
  (hu : (Tryz.prog.globals.toList.zipIdx.all fun x => !is20 Tryz.prog x.1.type || x.2 == G) = true) : TB Tryz.prog (· < w.heap.size) w := by
 rw [MakeChecks.laidMetH_plain _ _ _ hplain] at h
 obtain ⟨ps, ⟨g0, t0, cs0, f0, p0, q0, hg0, ht0, hv0, hd0, ⟨g1, t1, cs1, f1, p1, q1, hg1, ht1, hv1, hd1, ⟨g2, t2, cs2, f2, p2, q2, hg2, ht2, hv2, hd2, _, _⟩, _⟩, _⟩, _, _⟩ := h
 obtain rfl := Option.some.inj (hg.symm.trans hg2)
 obtain rfl := Option.some.inj (hty.symm.trans ht2)
 have hcs := Lib.cells_of_tab (k := .u64) (zs := (List.range 20).map fun i => ((10 ^ i : Nat) : Int)) Tryz.underlying154 Tryz.underlying132 hce hct hd2
 have hcells : cs2 = powT := by
  apply Array.ext'
  rw [hcs]
  simp [powT]
 intro g gl h1 h2
 have hgG : g = G := by
  have hm : (gl, g) ∈ Tryz.prog.globals.toList.zipIdx := by
   rw [List.mem_zipIdx_iff_getElem?]
   simpa using h1
  have := List.all_eq_true.1 hu _ hm
  simp only [h2, Bool.not_true, Bool.false_or, beq_iff_eq] at this
  exact this
 subst hgG
 unfold World.var? at hv2
 rw [hg] at hv2
 simp only [Option.bind_some] at hv2
 split at hv2
 ·rename_i cs t f hc
  simp only [Option.some.injEq] at hv2
  refine ⟨(Array.getElem?_eq_some_iff.1 hc).1, t, f, ?_⟩
  rw [hc, hv2, hcells]
 ·simp at hv2
set_option maxHeartbeats 0
noncomputable def cf7 : Cfg := ⟨Tryz.prog, 16, [0, 2, 3, 4, 5], []⟩
noncomputable def ac7 : AC :=
 (.seq (.reg [JP 2 (.al [JW]), JP 3 (.mv JY)]) (.seq (.reg [JA 7 0, JO 8 (.pc (.f 23) []), JO 9 (.pc (.f 22) [.t 7, .t 8]), JC 6 9, JK 10 0 6, JK 11 1 6, JP 4 (.al [JW]), JP 5 (.al [JV, JV]), JQ (.st 1 (.g 4) (.t 10)), JQ (.st 2 (.g 5) (.t 11))]) (.seq (.reg [JF 12 1 4, JG 13 0 5, JD 14 1 13, JO 15 (.bin .eql 29 (.t 14) (JT 0)), JQ (.sta 1 (.g 2) (.t 12) [.g 5, .g 5]), JB 3 15]) .ret)))
theorem fi7 : FI Tryz.prog 7 cf7 ac7 [.c 2 true 1, .t 3] [0, 2, 3, 4, 5] 16 := FI_of (c := Tryz.f7.body.getD .skip) Tryz.func7 (by kernel_rfl) (by rfl) (by rfl) (by kernel_rfl) (by kernel_rfl) rfl rfl rfl
@[simp] theorem cfP7 : cf7.P = Tryz.prog := (rfl)
noncomputable def cf10 : Cfg := ⟨Tryz.prog, 26, [0, 1, 4, 5], []⟩
noncomputable def lb10_0 : AC :=
 .seq (.ifr [JA 11 5, JA 12 0, JO 13 (.len false (.t 12)), JO 14 (.bin .lss 3 (.t 11) (.t 13))] (.t 14) .skip (.exit 0)) (.seq (.block 1 (.ifr [JA 17 0, JA 18 5, JL 19 1 17 18, JD 20 1 19, JA 21 1, JA 22 5, JL 23 1 21 22, JD 24 1 23, JO 25 (.bin .neq 9 (.t 20) (.t 24))] (.t 25) (.seq (.reg [JP 4 (.mv JY)]) .ret) .skip)) (.reg [JA 15 5, JO 16 (.bin .add 3 (.t 15) (JT 1)), JB 5 16]))
noncomputable def ac10 : AC :=
 (.seq (.reg [JP 4 (.mv JY)]) (.seq (.ifr [JA 6 0, JO 7 (.len false (.t 6)), JA 8 1, JO 9 (.len false (.t 8)), JO 10 (.bin .neq 3 (.t 7) (.t 9))] (.t 10) (.seq (.reg [JP 4 (.mv JY)]) .ret) .skip) (.seq (.seq (.reg [JI 5 0]) (.block 0 (.loop lb10_0))) (.seq (.reg [JP 4 (.mv JX)]) .ret))))
theorem fi10 : FI Tryz.prog 10 cf10 ac10 [.t 4] [0, 1, 4, 5] 26 := FI_of (c := Tryz.f10.body.getD .skip) Tryz.func10 (by kernel_rfl) (by rfl) (by rfl) (by kernel_rfl) (by kernel_rfl) rfl rfl rfl
@[simp] theorem cfP10 : cf10.P = Tryz.prog := (rfl)
noncomputable def cf6 : Cfg := ⟨Tryz.prog, 86, [0, 1, 3, 4, 5, 6], [8, 9, 14, 15]⟩
noncomputable def ac6 : AC :=
 (.seq (.reg [JP 0 (.mv JY)]) (.seq (.reg [JO 8 (.bso 1 19 [.int .u8 0] [(0, 1, .c (.int .u8 102)), (1, 1, .c (.int .u8 40)), (2, 1, .c (.int .u8 120)), (3, 1, .c (.int .u8 32)), (4, 1, .c (.int .u8 78)), (5, 1, .c (.int .u8 44)), (6, 1, .c (.int .u8 120)), (7, 1, .c (.int .u8 32)), (8, 1, .c (.int .u8 76)), (9, 1, .c (.int .u8 41)), (10, 1, .c (.int .u8 58)), (11, 1, .c (.int .u8 78)), (12, 1, .c (.int .u8 61)), (13, 1, .c (.int .u8 122)), (14, 1, .c (.int .u8 43)), (15, 1, .c (.int .u8 103)), (16, 1, .c (.int .u8 40)), (17, 1, .c (.int .u8 41)), (18, 1, .c (.int .u8 59))]), JO 9 (.cvo (.t 8)), JO 10 (.pc (.f 7) [.t 9]), JC 7 10, JK 11 0 7, JK 12 1 7, JP 1 (.al [JW]), JQ (.st 1 (.g 1) (.t 11)), JC 2 12]) (.seq (.reg [JO 14 (.bso 1 28 [.int .u8 0] [(0, 1, .c (.int .u8 102)), (1, 1, .c (.int .u8 40)), (2, 1, .c (.int .u8 120)), (3, 1, .c (.int .u8 32)), (4, 1, .c (.int .u8 78)), (5, 1, .c (.int .u8 41)), (6, 1, .c (.int .u8 58)), (7, 1, .c (.int .u8 78)), (8, 1, .c (.int .u8 61)), (9, 1, .c (.int .u8 108)), (10, 1, .c (.int .u8 101)), (11, 1, .c (.int .u8 116)), (12, 1, .c (.int .u8 32)), (13, 1, .c (.int .u8 121)), (14, 1, .c (.int .u8 32)), (15, 1, .c (.int .u8 78)), (16, 1, .c (.int .u8 61)), (17, 1, .c (.int .u8 104)), (18, 1, .c (.int .u8 43)), (19, 1, .c (.int .u8 120)), (20, 1, .c (.int .u8 32)), (21, 1, .c (.int .u8 105)), (22, 1, .c (.int .u8 110)), (23, 1, .c (.int .u8 32)), (24, 1, .c (.int .u8 49)), (25, 1, .c (.int .u8 43)), (26, 1, .c (.int .u8 121)), (27, 1, .c (.int .u8 59))]), JO 15 (.cvo (.t 14)), JO 16 (.pc (.f 7) [.t 15]), JC 13 16, JK 17 0 13, JK 18 1 13, JP 3 (.al [JW]), JQ (.st 1 (.g 3) (.t 17)), JB 4 18]) (.seq (.reg [JO 20 (.bsl 1 1 [JU] [(0, 1, .c (.string (ByteArray.mk (Array.mk [116, 50]))))]), JO 21 (.pc (.f 14) [.t 20, .c (.int .i64 2)]), JC 19 21, JK 22 0 19, JK 23 1 19, JB 5 22, JB 6 23]) (.seq (.reg [JA 24 4, JC 25 24, JS 26 25 (.ld true 1 (.g 1)), JS 27 25 (.pc (.f 8) [.t 26]), JS 28 25 (.bld [JV, JV] [(0, 1, .c (.int .i64 30)), (1, 1, .c (.int .i64 6))]), JS 29 25 (.bin .eql 31 (.t 27) (.t 28)), JO 30 (.pick (.t 25) (.t 29) JY), JC 31 30, JS 32 31 (.fa 0 (.g 3)), JS 33 31 (.ld false 1 (.t 32)), JS 34 31 (.ia 11 (.t 33) (JT 0)), JS 35 31 (.fa 3 (.t 34)), JS 36 31 (.ld true 7 (.t 35)), JS 37 31 (.pc (.f 15) [.t 36]), JS 38 31 (.bsl 1 2 [JU] [(0, 1, .c (.string (ByteArray.mk (Array.mk [104])))), (1, 1, .c (.string (ByteArray.mk (Array.mk [120]))))]), JS 39 31 (.pc (.f 10) [.t 37, .t 38]), JO 40 (.pick (.t 31) (.t 39) JY), JC 41 40, JS 42 41 (.fa 0 (.g 3)), JS 43 41 (.ld false 1 (.t 42)), JS 44 41 (.ia 11 (.t 43) (JT 0)), JS 45 41 (.fa 3 (.t 44)), JS 46 41 (.ld true 7 (.t 45)), JS 47 41 (.pc (.f 19) [.t 46, .c (.string (ByteArray.mk (Array.mk [120])))]), JS 48 41 (.bin .eql 3 (.t 47) (JT 1)), JO 49 (.pick (.t 41) (.t 48) JY), JC 50 49, JS 51 50 (.fa 0 (.g 3)), JS 52 50 (.ld false 1 (.t 51)), JS 53 50 (.ia 11 (.t 52) (JT 0)), JS 54 50 (.ld true 11 (.t 53)), JS 55 50 (.pc (.f 11) [.t 54]), JS 56 50 (.bsl 1 4 [JU] [(0, 1, .c (.string (ByteArray.mk (Array.mk [102])))), (1, 1, .c (.string (ByteArray.mk (Array.mk [104])))), (2, 1, .c (.string (ByteArray.mk (Array.mk [120])))), (3, 1, .c (.string (ByteArray.mk (Array.mk [121]))))]), JS 57 50 (.pc (.f 10) [.t 55, .t 56]), JO 58 (.pick (.t 50) (.t 57) JY), JC 59 58, JS 60 59 (.fa 0 (.g 3)), JS 61 59 (.ld false 1 (.t 60)), JS 62 59 (.ia 11 (.t 61) (JT 0)), JS 63 59 (.fa 3 (.t 62)), JS 64 59 (.ld true 7 (.t 63)), JS 65 59 (.pc (.f 20) [.t 64]), JS 66 59 (.bin .eql 3 (.t 65) (JT 7)), JO 67 (.pick (.t 59) (.t 66) JY), JC 68 67, JS 69 68 (.fa 0 (.g 3)), JS 70 68 (.ld false 1 (.t 69)), JS 71 68 (.ia 11 (.t 70) (JT 0)), JS 72 68 (.fa 3 (.t 71)), JS 73 68 (.ld true 7 (.t 72)), JS 74 68 (.pc (.f 21) [.t 73]), JS 75 68 (.bin .eql 3 (.t 74) (JT 1)), JO 76 (.pick (.t 68) (.t 75) JY), JC 77 76, JS 78 77 (.mv (.g 6)), JS 79 77 (.bin .eql 29 (.t 78) (JT 0)), JO 80 (.pick (.t 77) (.t 79) JY), JC 81 80, JS 82 81 (.mv (.g 5)), JS 83 81 (.bsl 1 2 [JU] [(0, 1, .c (.string (ByteArray.mk (Array.mk [116, 49])))), (1, 1, .c (.string (ByteArray.mk (Array.mk [116, 51]))))]), JS 84 81 (.pc (.f 10) [.t 82, .t 83]), JO 85 (.pick (.t 81) (.t 84) JY), JB 0 85]) .ret)))))
theorem fi6 : FI Tryz.prog 6 cf6 ac6 [.t 0] [0, 1, 3, 4, 5, 6] 86 := FI_of (c := Tryz.f6.body.getD .skip) Tryz.func6 (by kernel_rfl) (by rfl) (by rfl) (by kernel_rfl) (by kernel_rfl) rfl rfl rfl
@[simp] theorem cfP6 : cf6.P = Tryz.prog := (rfl)
noncomputable def cf13 : Cfg := ⟨Tryz.prog, 59, [0, 1, 2, 3, 6, 7], []⟩
@[simp] theorem cfP13 : cf13.P = Tryz.prog := (rfl)
noncomputable def cf3 : Cfg := ⟨Tryz.prog, 21, [0, 2, 3, 4], []⟩
@[simp] theorem cfP3 : cf3.P = Tryz.prog := (rfl)
noncomputable def cf4 : Cfg := ⟨Tryz.prog, 54, [0, 1, 4, 5, 6, 7], []⟩
@[simp] theorem cfP4 : cf4.P = Tryz.prog := (rfl)
@[simp] theorem eqL06_9 {a b : ByteArray} : bG Tryz.prog .eql 9 (.pl (.string a)) (.pl (.string b)) = some (.pl (.bool (decide (a = b)))) := kO Tryz.underlying9
@[simp] theorem neL06_9 {a b : ByteArray} : bG Tryz.prog .neq 9 (.pl (.string a)) (.pl (.string b)) = some (.pl (.bool (!decide (a = b)))) := mQ Tryz.underlying9
noncomputable def cf58 : Cfg := ⟨Tryz.prog, 13, [0, 2], []⟩
noncomputable def ac58 : AC :=
 (.seq (.reg [JP 2 (.al [JV, JU, .complex .f64 0 0, JV])]) (.seq (.reg [JA 3 0, JM 4 3, JH 5 0 4, JD 6 1 5, JA 7 0, JM 8 7, JH 9 1 8, JD 10 1 9, JL 11 4 6 10, JE 12 4 11, JQ (.st 4 (.g 2) (.t 12))]) .ret))
theorem fi58 : FI Tryz.prog 58 cf58 ac58 [.c 2 true 4] [0, 2] 13 := FI_of (c := Tryz.f58.body.getD .skip) Tryz.func58 (by kernel_rfl) (by rfl) (by rfl) (by kernel_rfl) (by kernel_rfl) rfl rfl rfl
@[simp] theorem cfP58 : cf58.P = Tryz.prog := (rfl)
noncomputable def cf70 : Cfg := ⟨Tryz.prog, 19, [0, 1], [15]⟩
noncomputable def ac70 : AC :=
 (.ifr [JA 4 0, JM 5 4, JH 6 2 5, JD 7 1 6, JO 8 (.bin .eql 3 (.t 7) (JT 0))] (.t 8) (.seq (.reg [JA 9 0, JA 10 1, JM 11 9, JH 12 2 11, JQ (.st 1 (.t 12) (.t 10))]) (.reg [JA 13 0, JA 14 0, JO 15 (.cl (.f 58) [.t 14]), JO 16 (.fld false 1 3 (.t 15)), JM 17 13, JH 18 3 17, JQ (.st 1 (.t 18) (.t 16))])) .skip)
theorem fi70 : FI Tryz.prog 70 cf70 ac70 [] [0, 1] 19 := FI_of (c := Tryz.f70.body.getD .skip) Tryz.func70 (by kernel_rfl) (by rfl) (by rfl) (by kernel_rfl) (by kernel_rfl) rfl rfl rfl
@[simp] theorem cfP70 : cf70.P = Tryz.prog := (rfl)
noncomputable def cf73 : Cfg := ⟨Tryz.prog, 29, [0, 1, 4, 5], [7]⟩
noncomputable def ac73 : AC :=
 (.seq (.reg [JP 4 (.mv JY)]) (.seq (.reg [JA 6 0, JO 7 (.cl (.f 58) [.t 6]), JP 5 (.al [JV, JU, .complex .f64 0 0, JV]), JQ (.st 4 (.g 5) (.t 7))]) (.seq (.reg [JA 8 0, JM 9 8, JH 10 2 9, JD 11 1 10, JO 12 (.bin .eql 3 (.t 11) (JT 0)), JC 13 12, JS 14 13 (.fa 0 (.g 5)), JS 15 13 (.ld false 1 (.t 14)), JS 16 13 (.bin .eql 98 (.t 15) (JT 1)), JS 17 13 (.mv (.t 16)), JR 18 17 (.fa 0 (.g 5)), JR 19 17 (.ld false 1 (.t 18)), JR 20 17 (.bin .eql 98 (.t 19) (JT 3)), JS 21 13 (.pick (.t 17) JX (.t 20)), JO 22 (.pick (.t 13) (.t 21) JY), JC 23 22, JS 24 23 (.fa 1 (.g 5)), JS 25 23 (.ld false 1 (.t 24)), JS 26 23 (.mv (.g 1)), JS 27 23 (.bin .eql 9 (.t 25) (.t 26)), JO 28 (.pick (.t 23) (.t 27) JY), JB 4 28]) .ret)))
theorem fi73 : FI Tryz.prog 73 cf73 ac73 [.t 4] [0, 1, 4, 5] 29 := FI_of (c := Tryz.f73.body.getD .skip) Tryz.func73 (by kernel_rfl) (by rfl) (by rfl) (by kernel_rfl) (by kernel_rfl) rfl rfl rfl
@[simp] theorem cfP73 : cf73.P = Tryz.prog := (rfl)
noncomputable def cf96 : Cfg := ⟨Tryz.prog, 16, [0, 1, 4], [7]⟩
noncomputable def ac96 : AC :=
 (.seq (.reg [JP 4 (.mv JY)]) (.seq (.ifr [JA 5 0, JA 6 1, JO 7 (.cl (.f 73) [.t 5, .t 6]), JO 8 (.un .not (.t 7))] (.t 8) (.seq (.reg [JP 4 (.mv JY)]) .ret) .skip) (.seq (.reg [JA 9 0, JM 10 9, JH 11 1 10, JD 12 1 11, JO 13 (.bin .add 3 (.t 12) (JT 1)), JM 14 9, JH 15 1 14, JQ (.st 1 (.t 15) (.t 13))]) (.seq (.reg [JP 4 (.mv JX)]) .ret))))
theorem fi96 : FI Tryz.prog 96 cf96 ac96 [.t 4] [0, 1, 4] 16 := FI_of (c := Tryz.f96.body.getD .skip) Tryz.func96 (by kernel_rfl) (by rfl) (by rfl) (by kernel_rfl) (by kernel_rfl) rfl rfl rfl
@[simp] theorem cfP96 : cf96.P = Tryz.prog := (rfl)
noncomputable def cf72 : Cfg := ⟨Tryz.prog, 10, [0, 1], [6, 9]⟩
noncomputable def ac72 : AC :=
 (.ifr [JA 4 0, JA 5 1, JO 6 (.cl (.f 96) [.t 4, .t 5]), JO 7 (.un .not (.t 6))] (.t 7) (.reg [JA 8 0, JO 9 (.cl (.f 70) [.t 8, .c (.int .i64 21)])]) .skip)
theorem fi72 : FI Tryz.prog 72 cf72 ac72 [] [0, 1] 10 := FI_of (c := Tryz.f72.body.getD .skip) Tryz.func72 (by kernel_rfl) (by rfl) (by rfl) (by kernel_rfl) (by kernel_rfl) rfl rfl rfl
@[simp] theorem cfP72 : cf72.P = Tryz.prog := (rfl)
noncomputable def cf71 : Cfg := ⟨Tryz.prog, 27, [0, 2, 3], [5, 17]⟩
noncomputable def ac71 : AC :=
 (.seq (.reg [JP 2 (.al [JV, JU, .complex .f64 0 0, JV])]) (.seq (.reg [JA 4 0, JO 5 (.cl (.f 58) [.t 4]), JP 3 (.al [JV, JU, .complex .f64 0 0, JV]), JQ (.st 4 (.g 3) (.t 5))]) (.seq (.ifr [JA 6 0, JM 7 6, JH 8 2 7, JD 9 1 8, JO 10 (.bin .neq 3 (.t 9) (JT 0)), JC 11 10, JR 12 11 (.fa 0 (.g 3)), JR 13 11 (.ld false 1 (.t 12)), JR 14 11 (.bin .neq 98 (.t 13) (JT 0)), JO 15 (.pick (.t 11) JX (.t 14))] (.t 15) (.seq (.reg [JA 16 0, JO 17 (.cl (.f 70) [.t 16, .c (.int .i64 21)])]) (.seq (.reg [JO 18 (.bld [JV, JU, .complex .f64 0 0, JV] []), JQ (.st 4 (.g 2) (.t 18))]) .ret)) .skip) (.seq (.reg [JA 19 0, JM 20 19, JH 21 1 20, JD 22 1 21, JO 23 (.bin .add 3 (.t 22) (JT 1)), JM 24 19, JH 25 1 24, JQ (.st 1 (.t 25) (.t 23))]) (.seq (.reg [JF 26 4 3, JQ (.st 4 (.g 2) (.t 26))]) .ret)))))
theorem fi71 : FI Tryz.prog 71 cf71 ac71 [.c 2 true 4] [0, 2, 3] 27 := FI_of (c := Tryz.f71.body.getD .skip) Tryz.func71 (by kernel_rfl) (by rfl) (by rfl) (by kernel_rfl) (by kernel_rfl) rfl rfl rfl
@[simp] theorem cfP71 : cf71.P = Tryz.prog := (rfl)
noncomputable def cf74 : Cfg := ⟨Tryz.prog, 22, [0, 2, 3, 4], [17, 21]⟩
noncomputable def lb74_0 : AC :=
 .seq (.ifr [JA 6 4, JA 7 3, JO 8 (.len false (.t 7)), JO 9 (.bin .lss 3 (.t 6) (.t 8))] (.t 9) .skip (.exit 0)) (.seq (.block 1 (.ifr [JA 12 0, JA 13 3, JA 14 4, JL 15 1 13 14, JD 16 1 15, JO 17 (.cl (.f 96) [.t 12, .t 16])] (.t 17) (.seq (.reg [JA 18 4, JO 19 (.bin .add 3 (.t 18) (JT 1)), JB 2 19]) .ret) .skip)) (.reg [JA 10 4, JO 11 (.bin .add 3 (.t 10) (JT 1)), JB 4 11]))
noncomputable def ac74 : AC :=
 (.seq (.reg [JI 2 0]) (.seq (.reg [JO 5 (.bsl 1 3 [JU] [(0, 1, .c (.string (ByteArray.mk (Array.mk [78])))), (1, 1, .c (.string (ByteArray.mk (Array.mk [66])))), (2, 1, .c (.string (ByteArray.mk (Array.mk [76]))))]), JB 3 5]) (.seq (.seq (.reg [JI 4 0]) (.block 0 (.loop lb74_0))) (.seq (.reg [JA 20 0, JO 21 (.cl (.f 70) [.t 20, .c (.int .i64 21)])]) (.seq (.reg [JI 2 0]) .ret)))))
theorem fi74 : FI Tryz.prog 74 cf74 ac74 [.t 2] [0, 2, 3, 4] 22 := FI_of (c := Tryz.f74.body.getD .skip) Tryz.func74 (by kernel_rfl) (by rfl) (by rfl) (by kernel_rfl) (by kernel_rfl) rfl rfl rfl
@[simp] theorem cfP74 : cf74.P = Tryz.prog := (rfl)
noncomputable def cf45 : Cfg := ⟨Tryz.prog, 34, [0, 2, 3, 4], [17, 26, 31]⟩
noncomputable def lb45_0 : AC :=
 .seq (.ifr [JA 5 0, JM 6 5, JH 7 2 6, JD 8 1 7, JO 9 (.bin .eql 3 (.t 8) (JT 0)), JC 10 9, JS 11 10 (.fa 0 (.g 3)), JS 12 10 (.ld false 1 (.t 11)), JS 13 10 (.len false (.t 12)), JS 14 10 (.bin .eql 3 (.t 13) (JT 0)), JS 15 10 (.mv (.t 14)), JR 16 15 (.mv (.g 0)), JR 17 15 (.cl (.f 58) [.t 16]), JR 18 15 (.fld false 1 0 (.t 17)), JR 19 15 (.bin .neq 98 (.t 18) (JT 4)), JS 20 10 (.pick (.t 15) JX (.t 19)), JO 21 (.pick (.t 10) (.t 20) JY)] (.t 21) .skip (.exit 0)) (.block 1 (.seq (.reg [JA 22 0, JG 23 0 3, JD 24 1 23, JO 25 (.len false (.t 24)), JO 26 (.cl (.f 59) [.t 22, .t 25]), JP 4 (.al [JU, JW, JV, JV, JU, JU, JV, .complex .f64 0 0, JW, JV, JV]), JQ (.st 11 (.g 4) (.t 26))]) (.reg [JG 27 0 3, JD 28 1 27, JF 29 11 4, JO 30 (.bsl 11 1 [JU, JW, JV, JV, JU, JU, JV, .complex .f64 0 0, JW, JV, JV] [(0, 11, .t 29)]), JO 31 (.app 11 152 [JU, JW, JV, JV, JU, JU, JV, .complex .f64 0 0, JW, JV, JV] (.t 28) (.t 30)), JG 32 0 3, JQ (.st 1 (.t 32) (.t 31))])))
noncomputable def ac45 : AC :=
 (.seq (.reg [JP 2 (.al [JW])]) (.seq (.reg [JP 3 (.al [JW])]) (.seq (.block 0 (.loop lb45_0)) (.seq (.reg [JF 33 1 3, JQ (.st 1 (.g 2) (.t 33))]) .ret))))
theorem fi45 : FI Tryz.prog 45 cf45 ac45 [.c 2 true 1] [0, 2, 3, 4] 34 := FI_of (c := Tryz.f45.body.getD .skip) Tryz.func45 (by kernel_rfl) (by rfl) (by rfl) (by kernel_rfl) (by kernel_rfl) rfl rfl rfl
@[simp] theorem cfP45 : cf45.P = Tryz.prog := (rfl)
noncomputable def cf59 : Cfg := ⟨Tryz.prog, 103, [0, 1, 4, 5, 6, 7, 8], [10, 23, 25, 32, 40, 48, 56, 72, 74, 76, 86, 89, 91, 93, 96, 98, 101]⟩
noncomputable def lb59_0 : AC :=
 .seq (.ifr [JA 33 0, JM 34 33, JH 35 2 34, JD 36 1 35, JO 37 (.bin .eql 3 (.t 36) (JT 0)), JC 38 37, JS 39 38 (.mv (.g 0)), JS 40 38 (.cl (.f 73) [.t 39, .c (.string (ByteArray.mk (Array.mk [41])))]), JS 41 38 (.un .not (.t 40)), JO 42 (.pick (.t 38) (.t 41) JY)] (.t 42) .skip (.exit 0)) (.block 1 (.seq (.ifr [JG 43 1 6, JD 44 1 43, JO 45 (.len false (.t 44)), JO 46 (.bin .gtr 3 (.t 45) (JT 0))] (.t 46) (.reg [JA 47 0, JO 48 (.cl (.f 72) [.t 47, .c (.string (ByteArray.mk (Array.mk [44])))])]) .skip) (.seq (.ifr [JA 49 0, JM 50 49, JH 51 2 50, JD 52 1 51, JO 53 (.bin .eql 3 (.t 52) (JT 0)), JC 54 53, JS 55 54 (.mv (.g 0)), JS 56 54 (.cl (.f 58) [.t 55]), JS 57 54 (.fld false 1 0 (.t 56)), JS 58 54 (.bin .eql 98 (.t 57) (JT 0)), JO 59 (.pick (.t 54) (.t 58) JY), JC 60 59, JS 61 60 (.fa 1 (.g 6)), JS 62 60 (.ld false 1 (.t 61)), JS 63 60 (.len false (.t 62)), JS 64 60 (.mv (.g 0)), JS 65 60 (.chk (.t 64)), JS 66 60 (.fa 4 (.t 65)), JS 67 60 (.fa 2 (.t 66)), JS 68 60 (.ld false 1 (.t 67)), JS 69 60 (.bin .geq 3 (.t 63) (.t 68)), JO 70 (.pick (.t 60) (.t 69) JY)] (.t 70) (.reg [JA 71 0, JO 72 (.cl (.f 70) [.t 71, .c (.int .i64 22)])]) .skip) (.seq (.reg [JA 73 0, JO 74 (.cl (.f 71) [.t 73]), JP 7 (.al [JV, JU, .complex .f64 0 0, JV]), JQ (.st 4 (.g 7) (.t 74))]) (.seq (.reg [JA 75 0, JO 76 (.cl (.f 74) [.t 75]), JB 8 76]) (.reg [JG 77 1 6, JD 78 1 77, JG 79 1 7, JD 80 1 79, JA 81 8, JG 82 3 7, JD 83 1 82, JO 84 (.bld [JU, JV, JV] [(0, 1, .t 80), (1, 1, .t 81), (2, 1, .t 83)]), JO 85 (.bsl 3 1 [JU, JV, JV] [(0, 3, .t 84)]), JO 86 (.app 3 32 [JU, JV, JV] (.t 78) (.t 85)), JG 87 1 6, JQ (.st 1 (.t 87) (.t 86))]))))))
noncomputable def ac59 : AC :=
 (.seq (.reg [JP 4 (.al [JU, JW, JV, JV, JU, JU, JV, .complex .f64 0 0, JW, JV, JV])]) (.seq (.ifr [JA 9 0, JO 10 (.cl (.f 58) [.t 9]), JO 11 (.fld false 1 0 (.t 10)), JO 12 (.bin .eql 98 (.t 11) (JT 0)), JC 13 12, JS 14 13 (.mv (.g 1)), JS 15 13 (.mv (.g 0)), JS 16 13 (.chk (.t 15)), JS 17 13 (.fa 4 (.t 16)), JS 18 13 (.fa 1 (.t 17)), JS 19 13 (.ld false 1 (.t 18)), JS 20 13 (.bin .geq 3 (.t 14) (.t 19)), JO 21 (.pick (.t 13) (.t 20) JY)] (.t 21) (.reg [JA 22 0, JO 23 (.cl (.f 70) [.t 22, .c (.int .i64 22)])]) .skip) (.seq (.reg [JA 24 0, JO 25 (.cl (.f 71) [.t 24]), JP 5 (.al [JV, JU, .complex .f64 0 0, JV]), JQ (.st 4 (.g 5) (.t 25))]) (.seq (.reg [JG 26 1 5, JD 27 1 26, JG 28 3 5, JD 29 1 28, JO 30 (.bld [JU, JW, JV, JV, JU, JU, JV, .complex .f64 0 0, JW, JV, JV] [(0, 1, .t 27), (10, 1, .t 29)]), JP 6 (.al [JU, JW, JV, JV, JU, JU, JV, .complex .f64 0 0, JW, JV, JV]), JQ (.st 11 (.g 6) (.t 30))]) (.seq (.reg [JA 31 0, JO 32 (.cl (.f 72) [.t 31, .c (.string (ByteArray.mk (Array.mk [40])))])]) (.seq (.block 0 (.loop lb59_0)) (.seq (.reg [JA 88 0, JO 89 (.cl (.f 72) [.t 88, .c (.string (ByteArray.mk (Array.mk [41])))])]) (.seq (.reg [JA 90 0, JO 91 (.cl (.f 72) [.t 90, .c (.string (ByteArray.mk (Array.mk [58])))])]) (.seq (.reg [JA 92 0, JO 93 (.cl (.f 74) [.t 92]), JG 94 2 6, JQ (.st 1 (.t 94) (.t 93))]) (.seq (.reg [JA 95 0, JO 96 (.cl (.f 72) [.t 95, .c (.string (ByteArray.mk (Array.mk [61])))])]) (.seq (.reg [JA 97 0, JO 98 (.cl (.f 75) [.t 97]), JG 99 3 6, JQ (.st 7 (.t 99) (.t 98))]) (.seq (.reg [JA 100 0, JO 101 (.cl (.f 72) [.t 100, .c (.string (ByteArray.mk (Array.mk [59])))])]) (.seq (.reg [JF 102 11 6, JQ (.st 11 (.g 4) (.t 102))]) .ret)))))))))))))
theorem fi59 : FI Tryz.prog 59 cf59 ac59 [.c 4 true 11] [0, 1, 4, 5, 6, 7, 8] 103 := FI_of (c := Tryz.f59.body.getD .skip) Tryz.func59 (by kernel_rfl) (by rfl) (by rfl) (by kernel_rfl) (by kernel_rfl) rfl rfl rfl
@[simp] theorem cfP59 : cf59.P = Tryz.prog := (rfl)
noncomputable def cf75 : Cfg := ⟨Tryz.prog, 106, [0, 2, 3, 4, 5, 6, 68], [8, 10, 13, 17, 33, 44, 48, 75, 80, 84, 91, 96]⟩
noncomputable def ac75 : AC :=
 (.seq (.reg [JP 2 (.al [JV, JU, JU, JV, .complex .f64 0 0, JW, JV])]) (.seq (.reg [JA 7 0, JO 8 (.cl (.f 58) [.t 7]), JP 3 (.al [JV, JU, .complex .f64 0 0, JV]), JQ (.st 4 (.g 3) (.t 8))]) (.seq (.reg [JA 9 0, JO 10 (.cl (.f 73) [.t 9, .c (.string (ByteArray.mk (Array.mk [108, 101, 116])))]), JC 11 10, JR 12 11 (.mv (.g 0)), JR 13 11 (.cl (.f 73) [.t 12, .c (.string (ByteArray.mk (Array.mk [115, 116, 114, 105, 99, 116])))]), JO 14 (.pick (.t 11) JX (.t 13)), JC 15 14, JR 16 15 (.mv (.g 0)), JR 17 15 (.cl (.f 73) [.t 16, .c (.string (ByteArray.mk (Array.mk [99, 97, 115, 101])))]), JO 18 (.pick (.t 15) JX (.t 17)), JB 4 18]) (.seq (.ifr [JA 19 4, JC 20 19, JS 21 20 (.mv (.g 0)), JS 22 20 (.chk (.t 21)), JS 23 20 (.fa 8 (.t 22)), JS 24 20 (.ld false 1 (.t 23)), JS 25 20 (.mv (.g 0)), JS 26 20 (.chk (.t 25)), JS 27 20 (.fa 4 (.t 26)), JS 28 20 (.fa 3 (.t 27)), JS 29 20 (.ld false 1 (.t 28)), JS 30 20 (.bin .geq 3 (.t 24) (.t 29)), JO 31 (.pick (.t 20) (.t 30) JY)] (.t 31) (.reg [JA 32 0, JO 33 (.cl (.f 70) [.t 32, .c (.int .i64 23)])]) .skip) (.seq (.ifr [JA 34 0, JM 35 34, JH 36 2 35, JD 37 1 36, JO 38 (.bin .neq 3 (.t 37) (JT 0))] (.t 38) (.seq (.reg [JO 39 (.bld [JV, JU, JU, JV, .complex .f64 0 0, JW, JV] []), JQ (.st 7 (.g 2) (.t 39))]) .ret) .skip) (.seq (.ifr [JA 40 4, JO 41 (.un .not (.t 40)), JC 42 41, JS 43 42 (.mv (.g 0)), JS 44 42 (.cl (.f 73) [.t 43, .c (.string (ByteArray.mk (Array.mk [105, 102])))]), JS 45 42 (.un .not (.t 44)), JO 46 (.pick (.t 42) (.t 45) JY)] (.t 46) (.seq (.reg [JA 47 0, JO 48 (.cl (.f 97) [.t 47]), JQ (.st 7 (.g 2) (.t 48))]) .ret) .skip) (.seq (.ifr [JA 49 4] (.t 49) (.reg [JA 50 0, JM 51 50, JH 52 8 51, JD 53 1 52, JO 54 (.bin .add 3 (.t 53) (JT 1)), JM 55 50, JH 56 8 55, JQ (.st 1 (.t 56) (.t 54))]) .skip) (.seq (.reg [JA 57 0, JM 58 57, JH 59 1 58, JD 60 1 59, JO 61 (.bin .add 3 (.t 60) (JT 1)), JM 62 57, JH 63 1 62, JQ (.st 1 (.t 63) (.t 61))]) (.seq (.reg [JG 64 3 3, JD 65 1 64, JO 66 (.bld [JV, JU, JU, JV, .complex .f64 0 0, JW, JV] [(6, 1, .t 65)]), JP 5 (.al [JV, JU, JU, JV, .complex .f64 0 0, JW, JV]), JQ (.st 7 (.g 5) (.t 66))]) (.seq (.seq (.reg [JG 67 1 3, JP 68 (.ld false 1 (.t 67))]) (.block 0 (.ifr [JO 87 (.bin .eql 9 (.g 68) (.c (.string (ByteArray.mk (Array.mk [105, 102]))))), JC 86 87] (.t 86) (.seq (.reg [JG 88 0 5, JQ (.st 1 (.t 88) (JT 19))]) (.reg [JA 89 0, JO 90 (.bsl 1 3 [JU] [(0, 1, .c (JU)), (1, 1, .c (.string (ByteArray.mk (Array.mk [116, 104, 101, 110])))), (2, 1, .c (.string (ByteArray.mk (Array.mk [101, 108, 115, 101]))))]), JO 91 (.cl (.f 98) [.t 89, .t 90]), JG 92 5 5, JQ (.st 1 (.t 92) (.t 91))])) (.ifr [JO 94 (.bin .eql 9 (.g 68) (.c (.string (ByteArray.mk (Array.mk [99, 97, 115, 101]))))), JC 93 94] (.t 93) (.reg [JA 95 0, JO 96 (.cl (.f 99) [.t 95, .g 5])]) (.seq (.reg [JG 69 0 5, JQ (.st 1 (.t 69) (JT 21))]) (.seq (.ifr [JG 70 1 3, JD 71 1 70, JO 72 (.bin .eql 9 (.t 71) (.c (.string (ByteArray.mk (Array.mk [115, 116, 114, 105, 99, 116])))))] (.t 72) (.reg [JG 73 0 5, JQ (.st 1 (.t 73) (JT 22))]) .skip) (.seq (.reg [JA 74 0, JO 75 (.cl (.f 71) [.t 74]), JP 6 (.al [JV, JU, .complex .f64 0 0, JV]), JQ (.st 4 (.g 6) (.t 75))]) (.seq (.reg [JG 76 1 6, JD 77 1 76, JG 78 1 5, JQ (.st 1 (.t 78) (.t 77))]) (.seq (.reg [JA 79 0, JO 80 (.cl (.f 74) [.t 79]), JG 81 3 5, JQ (.st 1 (.t 81) (.t 80))]) (.reg [JA 82 0, JO 83 (.bsl 1 2 [JU] [(0, 1, .c (.string (ByteArray.mk (Array.mk [61])))), (1, 1, .c (.string (ByteArray.mk (Array.mk [105, 110]))))]), JO 84 (.cl (.f 98) [.t 82, .t 83]), JG 85 5 5, JQ (.st 1 (.t 85) (.t 84))])))))))))) (.seq (.ifr [JA 97 4] (.t 97) (.reg [JA 98 0, JM 99 98, JH 100 8 99, JD 101 1 100, JO 102 (.bin .sub 3 (.t 101) (JT 1)), JM 103 98, JH 104 8 103, JQ (.st 1 (.t 104) (.t 102))]) .skip) (.seq (.reg [JF 105 7 5, JQ (.st 7 (.g 2) (.t 105))]) .ret))))))))))))
theorem fi75 : FI Tryz.prog 75 cf75 ac75 [.c 2 true 7] [0, 2, 3, 4, 5, 6, 68] 106 := FI_of (c := Tryz.f75.body.getD .skip) Tryz.func75 (by kernel_rfl) (by rfl) (by rfl) (by kernel_rfl) (by kernel_rfl) rfl rfl rfl
@[simp] theorem cfP75 : cf75.P = Tryz.prog := (rfl)
noncomputable def cf98 : Cfg := ⟨Tryz.prog, 32, [0, 1, 4, 5, 6, 7], [24, 26, 30]⟩
noncomputable def lb98_0 : AC :=
 .seq (.ifr [JA 8 6, JA 9 1, JO 10 (.len false (.t 9)), JO 11 (.bin .lss 3 (.t 8) (.t 10))] (.t 11) .skip (.exit 0)) (.seq (.block 1 (.seq (.ifr [JA 14 1, JA 15 6, JL 16 1 14 15, JD 17 1 16, JO 18 (.bin .neq 9 (.t 17) (.c (JU)))] (.t 18) (.reg [JA 19 0, JA 20 1, JA 21 6, JL 22 1 20 21, JD 23 1 22, JO 24 (.cl (.f 72) [.t 19, .t 23])]) .skip) (.seq (.reg [JA 25 0, JO 26 (.cl (.f 75) [.t 25]), JP 7 (.al [JV, JU, JU, JV, .complex .f64 0 0, JW, JV]), JQ (.st 7 (.g 7) (.t 26))]) (.reg [JA 27 5, JF 28 7 7, JO 29 (.bsl 7 1 [JV, JU, JU, JV, .complex .f64 0 0, JW, JV] [(0, 7, .t 28)]), JO 30 (.app 7 96 [JV, JU, JU, JV, .complex .f64 0 0, JW, JV] (.t 27) (.t 29)), JB 5 30])))) (.reg [JA 12 6, JO 13 (.bin .add 3 (.t 12) (JT 1)), JB 6 13]))
noncomputable def ac98 : AC :=
 (.seq (.reg [JP 4 (.mv (.c (.slice none 0 0)))]) (.seq (.reg [JP 5 (.mv (.c (.slice none 0 0)))]) (.seq (.seq (.reg [JI 6 0]) (.block 0 (.loop lb98_0))) (.seq (.reg [JA 31 5, JB 4 31]) .ret))))
theorem fi98 : FI Tryz.prog 98 cf98 ac98 [.t 4] [0, 1, 4, 5, 6, 7] 32 := FI_of (c := Tryz.f98.body.getD .skip) Tryz.func98 (by kernel_rfl) (by rfl) (by rfl) (by kernel_rfl) (by kernel_rfl) rfl rfl rfl
@[simp] theorem cfP98 : cf98.P = Tryz.prog := (rfl)
noncomputable def cf99 : Cfg := ⟨Tryz.prog, 51, [0, 1, 4, 5, 6, 7, 8], [13, 15, 17, 19, 21, 23, 25, 27, 29, 31, 33]⟩
noncomputable def ac99 : AC :=
 (.seq (.reg [JA 9 1, JM 10 9, JH 11 0 10, JQ (.st 1 (.t 11) (JT 20))]) (.seq (.reg [JA 12 0, JO 13 (.cl (.f 75) [.t 12]), JP 4 (.al [JV, JU, JU, JV, .complex .f64 0 0, JW, JV]), JQ (.st 7 (.g 4) (.t 13))]) (.seq (.reg [JA 14 0, JO 15 (.cl (.f 72) [.t 14, .c (.string (ByteArray.mk (Array.mk [111, 102])))])]) (.seq (.reg [JA 16 0, JO 17 (.cl (.f 72) [.t 16, .c (.string (ByteArray.mk (Array.mk [110, 105, 108])))])]) (.seq (.reg [JA 18 0, JO 19 (.cl (.f 72) [.t 18, .c (.string (ByteArray.mk (Array.mk [45, 62])))])]) (.seq (.reg [JA 20 0, JO 21 (.cl (.f 75) [.t 20]), JP 5 (.al [JV, JU, JU, JV, .complex .f64 0 0, JW, JV]), JQ (.st 7 (.g 5) (.t 21))]) (.seq (.reg [JA 22 0, JO 23 (.cl (.f 72) [.t 22, .c (.string (ByteArray.mk (Array.mk [124])))])]) (.seq (.reg [JA 24 0, JO 25 (.cl (.f 71) [.t 24]), JP 6 (.al [JV, JU, .complex .f64 0 0, JV]), JQ (.st 4 (.g 6) (.t 25))]) (.seq (.reg [JA 26 0, JO 27 (.cl (.f 72) [.t 26, .c (.string (ByteArray.mk (Array.mk [58])))])]) (.seq (.reg [JA 28 0, JO 29 (.cl (.f 71) [.t 28]), JP 7 (.al [JV, JU, .complex .f64 0 0, JV]), JQ (.st 4 (.g 7) (.t 29))]) (.seq (.reg [JA 30 0, JO 31 (.cl (.f 72) [.t 30, .c (.string (ByteArray.mk (Array.mk [45, 62])))])]) (.seq (.reg [JA 32 0, JO 33 (.cl (.f 75) [.t 32]), JP 8 (.al [JV, JU, JU, JV, .complex .f64 0 0, JW, JV]), JQ (.st 7 (.g 8) (.t 33))]) (.seq (.reg [JA 34 1, JG 35 1 6, JD 36 1 35, JM 37 34, JH 38 1 37, JQ (.st 1 (.t 38) (.t 36))]) (.seq (.reg [JA 39 1, JG 40 1 7, JD 41 1 40, JM 42 39, JH 43 2 42, JQ (.st 1 (.t 43) (.t 41))]) (.reg [JA 44 1, JF 45 7 4, JF 46 7 5, JF 47 7 8, JO 48 (.bsl 7 3 [JV, JU, JU, JV, .complex .f64 0 0, JW, JV] [(0, 7, .t 45), (7, 7, .t 46), (14, 7, .t 47)]), JM 49 44, JH 50 5 49, JQ (.st 1 (.t 50) (.t 48))])))))))))))))))
theorem fi99 : FI Tryz.prog 99 cf99 ac99 [] [0, 1, 4, 5, 6, 7, 8] 51 := FI_of (c := Tryz.f99.body.getD .skip) Tryz.func99 (by kernel_rfl) (by rfl) (by rfl) (by kernel_rfl) (by kernel_rfl) rfl rfl rfl
@[simp] theorem cfP99 : cf99.P = Tryz.prog := (rfl)
noncomputable def cf112 : Cfg := ⟨Tryz.prog, 16, [0, 1, 2, 3, 5, 6, 7, 8], []⟩
noncomputable def ac112 : AC :=
 (.seq (.reg [JN 5 1, JN 6 2, JN 7 3, JP 8 (.al [JV, JU, JU, JV, .complex .f64 0 0, JW, JV])]) (.seq (.reg [JA 9 0, JF 10 7 5, JF 11 7 6, JO 12 (.bsl 7 2 [JV, JU, JU, JV, .complex .f64 0 0, JW, JV] [(0, 7, .t 10), (7, 7, .t 11)]), JG 13 3 7, JD 14 1 13, JO 15 (.bld [JV, JU, JU, JV, .complex .f64 0 0, JW, JV] [(0, 1, .t 9), (5, 1, .t 12), (6, 1, .t 14)]), JQ (.st 7 (.g 8) (.t 15))]) .ret))
theorem fi112 : FI Tryz.prog 112 cf112 ac112 [.c 8 true 7] [0, 1, 2, 3, 5, 6, 7, 8] 16 := FI_of (c := Tryz.f112.body.getD .skip) Tryz.func112 (by kernel_rfl) (by rfl) (by rfl) (by kernel_rfl) (by kernel_rfl) rfl rfl rfl
@[simp] theorem cfP112 : cf112.P = Tryz.prog := (rfl)
noncomputable def cf97 : Cfg := ⟨Tryz.prog, 20, [0, 2, 3, 4, 5], [7, 9, 11, 15]⟩
noncomputable def ac97 : AC :=
 (.seq (.reg [JP 2 (.al [JV, JU, JU, JV, .complex .f64 0 0, JW, JV])]) (.seq (.reg [JA 6 0, JO 7 (.cl (.f 111) [.t 6]), JP 3 (.al [JV, JU, JU, JV, .complex .f64 0 0, JW, JV]), JQ (.st 7 (.g 3) (.t 7))]) (.seq (.reg [JA 8 0, JO 9 (.cl (.f 58) [.t 8]), JP 4 (.al [JV, JU, .complex .f64 0 0, JV]), JQ (.st 4 (.g 4) (.t 9))]) (.seq (.ifr [JA 10 0, JO 11 (.cl (.f 96) [.t 10, .c (.string (ByteArray.mk (Array.mk [58])))]), JO 12 (.un .not (.t 11))] (.t 12) (.seq (.reg [JF 13 7 3, JQ (.st 7 (.g 2) (.t 13))]) .ret) .skip) (.seq (.reg [JA 14 0, JO 15 (.cl (.f 97) [.t 14]), JP 5 (.al [JV, JU, JU, JV, .complex .f64 0 0, JW, JV]), JQ (.st 7 (.g 5) (.t 15))]) (.seq (.reg [JF 16 7 3, JF 17 7 5, JF 18 4 4, JO 19 (.pc (.f 112) [.c (.int .i64 18), .t 16, .t 17, .t 18]), JQ (.st 7 (.g 2) (.t 19))]) .ret))))))
theorem fi97 : FI Tryz.prog 97 cf97 ac97 [.c 2 true 7] [0, 2, 3, 4, 5] 20 := FI_of (c := Tryz.f97.body.getD .skip) Tryz.func97 (by kernel_rfl) (by rfl) (by rfl) (by kernel_rfl) (by kernel_rfl) rfl rfl rfl
@[simp] theorem cfP97 : cf97.P = Tryz.prog := (rfl)
noncomputable def cf111 : Cfg := ⟨Tryz.prog, 29, [0, 2, 3, 4, 5, 6], [8, 10, 12, 14, 18, 23]⟩
noncomputable def ac111 : AC :=
 (.seq (.reg [JP 2 (.al [JV, JU, JU, JV, .complex .f64 0 0, JW, JV])]) (.seq (.reg [JA 7 0, JO 8 (.cl (.f 116) [.t 7]), JP 3 (.al [JV, JU, JU, JV, .complex .f64 0 0, JW, JV]), JQ (.st 7 (.g 3) (.t 8))]) (.seq (.reg [JA 9 0, JO 10 (.cl (.f 58) [.t 9]), JP 4 (.al [JV, JU, .complex .f64 0 0, JV]), JQ (.st 4 (.g 4) (.t 10))]) (.seq (.reg [JI 5 12]) (.seq (.ifr [JA 11 0, JO 12 (.cl (.f 73) [.t 11, .c (.string (ByteArray.mk (Array.mk [60])))])] (.t 12) (.reg [JI 5 13]) .skip) (.seq (.ifr [JA 13 0, JO 14 (.cl (.f 96) [.t 13, .c (.string (ByteArray.mk (Array.mk [61, 61])))]), JO 15 (.un .not (.t 14)), JC 16 15, JS 17 16 (.mv (.g 0)), JS 18 16 (.cl (.f 96) [.t 17, .c (.string (ByteArray.mk (Array.mk [60])))]), JS 19 16 (.un .not (.t 18)), JO 20 (.pick (.t 16) (.t 19) JY)] (.t 20) (.seq (.reg [JF 21 7 3, JQ (.st 7 (.g 2) (.t 21))]) .ret) .skip) (.seq (.reg [JA 22 0, JO 23 (.cl (.f 116) [.t 22]), JP 6 (.al [JV, JU, JU, JV, .complex .f64 0 0, JW, JV]), JQ (.st 7 (.g 6) (.t 23))]) (.seq (.reg [JA 24 5, JF 25 7 3, JF 26 7 6, JF 27 4 4, JO 28 (.pc (.f 112) [.t 24, .t 25, .t 26, .t 27]), JQ (.st 7 (.g 2) (.t 28))]) .ret))))))))
theorem fi111 : FI Tryz.prog 111 cf111 ac111 [.c 2 true 7] [0, 2, 3, 4, 5, 6] 29 := FI_of (c := Tryz.f111.body.getD .skip) Tryz.func111 (by kernel_rfl) (by rfl) (by rfl) (by kernel_rfl) (by kernel_rfl) rfl rfl rfl
@[simp] theorem cfP111 : cf111.P = Tryz.prog := (rfl)
noncomputable def cf116 : Cfg := ⟨Tryz.prog, 35, [0, 2, 3, 4, 5, 6], [8, 10, 13, 16, 25]⟩
noncomputable def lb116_0 : AC :=
 .seq (.ifr [JA 9 0, JO 10 (.cl (.f 73) [.t 9, .c (.string (ByteArray.mk (Array.mk [43])))]), JC 11 10, JR 12 11 (.mv (.g 0)), JR 13 11 (.cl (.f 73) [.t 12, .c (.string (ByteArray.mk (Array.mk [45])))]), JO 14 (.pick (.t 11) JX (.t 13))] (.t 14) .skip (.exit 0)) (.block 1 (.seq (.reg [JA 15 0, JO 16 (.cl (.f 58) [.t 15]), JP 4 (.al [JV, JU, .complex .f64 0 0, JV]), JQ (.st 4 (.g 4) (.t 16))]) (.seq (.reg [JA 17 0, JM 18 17, JH 19 1 18, JD 20 1 19, JO 21 (.bin .add 3 (.t 20) (JT 1)), JM 22 17, JH 23 1 22, JQ (.st 1 (.t 23) (.t 21))]) (.seq (.reg [JA 24 0, JO 25 (.cl (.f 117) [.t 24]), JP 5 (.al [JV, JU, JU, JV, .complex .f64 0 0, JW, JV]), JQ (.st 7 (.g 5) (.t 25))]) (.seq (.reg [JI 6 8]) (.seq (.ifr [JG 26 1 4, JD 27 1 26, JO 28 (.bin .eql 9 (.t 27) (.c (.string (ByteArray.mk (Array.mk [45])))))] (.t 28) (.reg [JI 6 9]) .skip) (.reg [JA 29 6, JF 30 7 3, JF 31 7 5, JF 32 4 4, JO 33 (.pc (.f 112) [.t 29, .t 30, .t 31, .t 32]), JQ (.st 7 (.g 3) (.t 33))])))))))
noncomputable def ac116 : AC :=
 (.seq (.reg [JP 2 (.al [JV, JU, JU, JV, .complex .f64 0 0, JW, JV])]) (.seq (.reg [JA 7 0, JO 8 (.cl (.f 117) [.t 7]), JP 3 (.al [JV, JU, JU, JV, .complex .f64 0 0, JW, JV]), JQ (.st 7 (.g 3) (.t 8))]) (.seq (.block 0 (.loop lb116_0)) (.seq (.reg [JF 34 7 3, JQ (.st 7 (.g 2) (.t 34))]) .ret))))
theorem fi116 : FI Tryz.prog 116 cf116 ac116 [.c 2 true 7] [0, 2, 3, 4, 5, 6] 35 := FI_of (c := Tryz.f116.body.getD .skip) Tryz.func116 (by kernel_rfl) (by rfl) (by rfl) (by kernel_rfl) (by kernel_rfl) rfl rfl rfl
@[simp] theorem cfP116 : cf116.P = Tryz.prog := (rfl)
noncomputable def cf117 : Cfg := ⟨Tryz.prog, 35, [0, 2, 3, 4, 5, 6], [8, 10, 13, 16, 25]⟩
noncomputable def lb117_0 : AC :=
 .seq (.ifr [JA 9 0, JO 10 (.cl (.f 73) [.t 9, .c (.string (ByteArray.mk (Array.mk [42])))]), JC 11 10, JR 12 11 (.mv (.g 0)), JR 13 11 (.cl (.f 73) [.t 12, .c (.string (ByteArray.mk (Array.mk [47])))]), JO 14 (.pick (.t 11) JX (.t 13))] (.t 14) .skip (.exit 0)) (.block 1 (.seq (.reg [JA 15 0, JO 16 (.cl (.f 58) [.t 15]), JP 4 (.al [JV, JU, .complex .f64 0 0, JV]), JQ (.st 4 (.g 4) (.t 16))]) (.seq (.reg [JA 17 0, JM 18 17, JH 19 1 18, JD 20 1 19, JO 21 (.bin .add 3 (.t 20) (JT 1)), JM 22 17, JH 23 1 22, JQ (.st 1 (.t 23) (.t 21))]) (.seq (.reg [JA 24 0, JO 25 (.cl (.f 118) [.t 24]), JP 5 (.al [JV, JU, JU, JV, .complex .f64 0 0, JW, JV]), JQ (.st 7 (.g 5) (.t 25))]) (.seq (.reg [JI 6 10]) (.seq (.ifr [JG 26 1 4, JD 27 1 26, JO 28 (.bin .eql 9 (.t 27) (.c (.string (ByteArray.mk (Array.mk [47])))))] (.t 28) (.reg [JI 6 11]) .skip) (.reg [JA 29 6, JF 30 7 3, JF 31 7 5, JF 32 4 4, JO 33 (.pc (.f 112) [.t 29, .t 30, .t 31, .t 32]), JQ (.st 7 (.g 3) (.t 33))])))))))
noncomputable def ac117 : AC :=
 (.seq (.reg [JP 2 (.al [JV, JU, JU, JV, .complex .f64 0 0, JW, JV])]) (.seq (.reg [JA 7 0, JO 8 (.cl (.f 118) [.t 7]), JP 3 (.al [JV, JU, JU, JV, .complex .f64 0 0, JW, JV]), JQ (.st 7 (.g 3) (.t 8))]) (.seq (.block 0 (.loop lb117_0)) (.seq (.reg [JF 34 7 3, JQ (.st 7 (.g 2) (.t 34))]) .ret))))
theorem fi117 : FI Tryz.prog 117 cf117 ac117 [.c 2 true 7] [0, 2, 3, 4, 5, 6] 35 := FI_of (c := Tryz.f117.body.getD .skip) Tryz.func117 (by kernel_rfl) (by rfl) (by rfl) (by kernel_rfl) (by kernel_rfl) rfl rfl rfl
@[simp] theorem cfP117 : cf117.P = Tryz.prog := (rfl)
noncomputable def cf120 : Cfg := ⟨Tryz.prog, 20, [0, 2, 3], []⟩
noncomputable def ac120 : AC :=
 (.seq (.reg [JI 2 0]) (.seq (.seq (.reg [JP 3 (.mv (.g 0))]) (.block 0 (.ifr [JO 5 (.bin .eql 9 (.g 3) (.c (.string (ByteArray.mk (Array.mk [116, 114, 117, 101]))))), JC 4 5] (.t 4) (.seq (.reg [JI 2 2]) .ret) (.ifr [JO 7 (.bin .eql 9 (.g 3) (.c (.string (ByteArray.mk (Array.mk [102, 97, 108, 115, 101]))))), JC 6 7] (.t 6) (.seq (.reg [JI 2 3]) .ret) (.ifr [JO 9 (.bin .eql 9 (.g 3) (.c (.string (ByteArray.mk (Array.mk [110, 105, 108]))))), JC 8 9] (.t 8) (.seq (.reg [JI 2 4]) .ret) (.ifr [JO 11 (.bin .eql 9 (.g 3) (.c (.string (ByteArray.mk (Array.mk [102, 97, 105, 108]))))), JC 10 11] (.t 10) (.seq (.reg [JI 2 5]) .ret) (.ifr [JO 13 (.bin .eql 9 (.g 3) (.c (.string (ByteArray.mk (Array.mk [110, 111, 116]))))), JC 12 13] (.t 12) (.seq (.reg [JI 2 14]) .ret) (.ifr [JO 15 (.bin .eql 9 (.g 3) (.c (.string (ByteArray.mk (Array.mk [114, 101]))))), JC 14 15] (.t 14) (.seq (.reg [JI 2 15]) .ret) (.ifr [JO 17 (.bin .eql 9 (.g 3) (.c (.string (ByteArray.mk (Array.mk [105, 109]))))), JC 16 17] (.t 16) (.seq (.reg [JI 2 16]) .ret) (.ifr [JO 19 (.bin .eql 9 (.g 3) (.c (.string (ByteArray.mk (Array.mk [99, 111, 110, 106]))))), JC 18 19] (.t 18) (.seq (.reg [JI 2 17]) .ret) .skip)))))))))) (.seq (.reg [JI 2 0]) .ret)))
theorem fi120 : FI Tryz.prog 120 cf120 ac120 [.t 2] [0, 2, 3] 20 := FI_of (c := Tryz.f120.body.getD .skip) Tryz.func120 (by kernel_rfl) (by rfl) (by rfl) (by kernel_rfl) (by kernel_rfl) rfl rfl rfl
@[simp] theorem cfP120 : cf120.P = Tryz.prog := (rfl)
noncomputable def cf118 : Cfg := ⟨Tryz.prog, 101, [0, 2, 3, 4, 5, 6, 80, 86], [8, 44, 47, 49, 51, 64, 84, 92, 94, 96]⟩
noncomputable def ac118 : AC :=
 (.seq (.reg [JP 2 (.al [JV, JU, JU, JV, .complex .f64 0 0, JW, JV])]) (.seq (.reg [JA 7 0, JO 8 (.cl (.f 58) [.t 7]), JP 3 (.al [JV, JU, .complex .f64 0 0, JV]), JQ (.st 4 (.g 3) (.t 8))]) (.seq (.ifr [JA 9 0, JM 10 9, JH 11 2 10, JD 12 1 11, JO 13 (.bin .neq 3 (.t 12) (JT 0))] (.t 13) (.seq (.reg [JO 14 (.bld [JV, JU, JU, JV, .complex .f64 0 0, JW, JV] []), JQ (.st 7 (.g 2) (.t 14))]) .ret) .skip) (.seq (.block 0 (.ifr [JG 16 0 3, JD 17 1 16, JO 18 (.bin .eql 98 (.t 17) (JT 2)), JC 15 18] (.t 15) (.seq (.reg [JA 19 0, JM 20 19, JH 21 1 20, JD 22 1 21, JO 23 (.bin .add 3 (.t 22) (JT 1)), JM 24 19, JH 25 1 24, JQ (.st 1 (.t 25) (.t 23))]) (.seq (.reg [JG 26 2 3, JD 27 1 26, JG 28 3 3, JD 29 1 28, JO 30 (.bld [JV, JU, JU, JV, .complex .f64 0 0, JW, JV] [(0, 1, .c (.int .i64 1)), (4, 1, .t 27), (6, 1, .t 29)]), JQ (.st 7 (.g 2) (.t 30))]) .ret)) (.ifr [JG 32 0 3, JD 33 1 32, JO 34 (.bin .eql 98 (.t 33) (JT 0)), JC 31 34] (.t 31) (.seq (.reg [JA 35 0, JM 36 35, JH 37 1 36, JD 38 1 37, JO 39 (.bin .add 3 (.t 38) (JT 1)), JM 40 35, JH 41 1 40, JQ (.st 1 (.t 41) (.t 39))]) (.seq (.reg [JA 42 0, JF 43 4 3, JO 44 (.cl (.f 119) [.t 42, .t 43]), JQ (.st 7 (.g 2) (.t 44))]) .ret)) (.ifr [JA 46 0, JO 47 (.cl (.f 96) [.t 46, .c (.string (ByteArray.mk (Array.mk [40])))]), JC 45 47] (.t 45) (.seq (.reg [JA 48 0, JO 49 (.cl (.f 75) [.t 48]), JP 4 (.al [JV, JU, JU, JV, .complex .f64 0 0, JW, JV]), JQ (.st 7 (.g 4) (.t 49))]) (.seq (.reg [JA 50 0, JO 51 (.cl (.f 72) [.t 50, .c (.string (ByteArray.mk (Array.mk [41])))])]) (.seq (.reg [JF 52 7 4, JQ (.st 7 (.g 2) (.t 52))]) .ret))) (.ifr [JG 54 0 3, JD 55 1 54, JO 56 (.bin .neq 98 (.t 55) (JT 1)), JC 57 56, JR 58 57 (.fa 1 (.g 3)), JR 59 57 (.ld false 1 (.t 58)), JR 60 57 (.pc (.f 120) [.t 59]), JR 61 57 (.bin .eql 39 (.t 60) (JT 0)), JO 62 (.pick (.t 57) JX (.t 61)), JC 53 62] (.t 53) (.seq (.reg [JA 63 0, JO 64 (.cl (.f 70) [.t 63, .c (.int .i64 21)])]) (.seq (.reg [JO 65 (.bld [JV, JU, JU, JV, .complex .f64 0 0, JW, JV] []), JQ (.st 7 (.g 2) (.t 65))]) .ret)) .skip))))) (.seq (.reg [JA 66 0, JM 67 66, JH 68 1 67, JD 69 1 68, JO 70 (.bin .add 3 (.t 69) (JT 1)), JM 71 66, JH 72 1 71, JQ (.st 1 (.t 72) (.t 70))]) (.seq (.reg [JG 73 1 3, JD 74 1 73, JO 75 (.pc (.f 120) [.t 74]), JG 76 3 3, JD 77 1 76, JO 78 (.bld [JV, JU, JU, JV, .complex .f64 0 0, JW, JV] [(0, 1, .t 75), (6, 1, .t 77)]), JP 5 (.al [JV, JU, JU, JV, .complex .f64 0 0, JW, JV]), JQ (.st 7 (.g 5) (.t 78))]) (.seq (.seq (.reg [JG 79 0 5, JP 80 (.ld false 1 (.t 79))]) (.block 1 (.ifr [JO 82 (.bin .eql 39 (.g 80) (JT 5)), JC 81 82] (.t 81) (.reg [JA 83 0, JO 84 (.cl (.f 74) [.t 83]), JG 85 3 5, JQ (.st 1 (.t 85) (.t 84))]) (.seq (.ifr [JO 87 (.bin .eql 39 (.g 80) (JT 14)), JB 86 87] (.g 86) .skip (.ifr [JO 88 (.bin .eql 39 (.g 80) (JT 15)), JB 86 88] (.g 86) .skip (.ifr [JO 89 (.bin .eql 39 (.g 80) (JT 16)), JB 86 89] (.g 86) .skip (.reg [JO 90 (.bin .eql 39 (.g 80) (JT 17)), JB 86 90])))) (.cond (.g 86) (.seq (.reg [JA 91 0, JO 92 (.cl (.f 72) [.t 91, .c (.string (ByteArray.mk (Array.mk [40])))])]) (.seq (.reg [JA 93 0, JO 94 (.cl (.f 75) [.t 93]), JP 6 (.al [JV, JU, JU, JV, .complex .f64 0 0, JW, JV]), JQ (.st 7 (.g 6) (.t 94))]) (.seq (.reg [JA 95 0, JO 96 (.cl (.f 72) [.t 95, .c (.string (ByteArray.mk (Array.mk [41])))])]) (.reg [JF 97 7 6, JO 98 (.bsl 7 1 [JV, JU, JU, JV, .complex .f64 0 0, JW, JV] [(0, 7, .t 97)]), JG 99 5 5, JQ (.st 1 (.t 99) (.t 98))])))) .skip))))) (.seq (.reg [JF 100 7 5, JQ (.st 7 (.g 2) (.t 100))]) .ret))))))))
theorem fi118 : FI Tryz.prog 118 cf118 ac118 [.c 2 true 7] [0, 2, 3, 4, 5, 6, 80, 86] 101 := FI_of (c := Tryz.f118.body.getD .skip) Tryz.func118 (by kernel_rfl) (by rfl) (by rfl) (by kernel_rfl) (by kernel_rfl) rfl rfl rfl
@[simp] theorem cfP118 : cf118.P = Tryz.prog := (rfl)
noncomputable def cf119 : Cfg := ⟨Tryz.prog, 47, [0, 1, 3, 4, 5, 6], [8, 27, 35, 37, 42, 45]⟩
noncomputable def lb119_0 : AC :=
 .seq (.ifr [JA 20 0, JM 21 20, JH 22 2 21, JD 23 1 22, JO 24 (.bin .eql 3 (.t 23) (JT 0)), JC 25 24, JS 26 25 (.mv (.g 0)), JS 27 25 (.cl (.f 73) [.t 26, .c (.string (ByteArray.mk (Array.mk [41])))]), JS 28 25 (.un .not (.t 27)), JO 29 (.pick (.t 25) (.t 28) JY)] (.t 29) .skip (.exit 0)) (.block 1 (.seq (.ifr [JG 30 5 5, JD 31 1 30, JO 32 (.len false (.t 31)), JO 33 (.bin .gtr 3 (.t 32) (JT 0))] (.t 33) (.reg [JA 34 0, JO 35 (.cl (.f 72) [.t 34, .c (.string (ByteArray.mk (Array.mk [44])))])]) .skip) (.seq (.reg [JA 36 0, JO 37 (.cl (.f 75) [.t 36]), JP 6 (.al [JV, JU, JU, JV, .complex .f64 0 0, JW, JV]), JQ (.st 7 (.g 6) (.t 37))]) (.reg [JG 38 5 5, JD 39 1 38, JF 40 7 6, JO 41 (.bsl 7 1 [JV, JU, JU, JV, .complex .f64 0 0, JW, JV] [(0, 7, .t 40)]), JO 42 (.app 7 96 [JV, JU, JU, JV, .complex .f64 0 0, JW, JV] (.t 39) (.t 41)), JG 43 5 5, JQ (.st 1 (.t 43) (.t 42))]))))
noncomputable def ac119 : AC :=
 (.seq (.reg [JN 3 1, JP 4 (.al [JV, JU, JU, JV, .complex .f64 0 0, JW, JV])]) (.seq (.ifr [JA 7 0, JO 8 (.cl (.f 96) [.t 7, .c (.string (ByteArray.mk (Array.mk [40])))]), JO 9 (.un .not (.t 8))] (.t 9) (.seq (.reg [JG 10 1 3, JD 11 1 10, JG 12 3 3, JD 13 1 12, JO 14 (.bld [JV, JU, JU, JV, .complex .f64 0 0, JW, JV] [(0, 1, .c (.int .i64 6)), (1, 1, .t 11), (6, 1, .t 13)]), JQ (.st 7 (.g 4) (.t 14))]) .ret) .skip) (.seq (.reg [JG 15 1 3, JD 16 1 15, JG 17 3 3, JD 18 1 17, JO 19 (.bld [JV, JU, JU, JV, .complex .f64 0 0, JW, JV] [(0, 1, .c (.int .i64 7)), (1, 1, .t 16), (6, 1, .t 18)]), JP 5 (.al [JV, JU, JU, JV, .complex .f64 0 0, JW, JV]), JQ (.st 7 (.g 5) (.t 19))]) (.seq (.block 0 (.loop lb119_0)) (.seq (.reg [JA 44 0, JO 45 (.cl (.f 72) [.t 44, .c (.string (ByteArray.mk (Array.mk [41])))])]) (.seq (.reg [JF 46 7 5, JQ (.st 7 (.g 4) (.t 46))]) .ret))))))
theorem fi119 : FI Tryz.prog 119 cf119 ac119 [.c 4 true 7] [0, 1, 3, 4, 5, 6] 47 := FI_of (c := Tryz.f119.body.getD .skip) Tryz.func119 (by kernel_rfl) (by rfl) (by rfl) (by kernel_rfl) (by kernel_rfl) rfl rfl rfl
@[simp] theorem cfP119 : cf119.P = Tryz.prog := (rfl)
noncomputable def cf23 : Cfg := ⟨Tryz.prog, 2, [0], []⟩
noncomputable def ac23 : AC :=
 (.seq (.reg [JP 0 (.al [JV, JV, JV, JV])]) (.seq (.reg [JO 1 (.bld [JV, JV, JV, JV] [(0, 1, .c (.int .i64 32768)), (1, 1, .c (.int .i64 32768)), (2, 1, .c (.int .i64 32768)), (3, 1, .c (.int .i64 32768))]), JQ (.st 4 (.g 0) (.t 1))]) .ret))
theorem fi23 : FI Tryz.prog 23 cf23 ac23 [.c 0 true 4] [0] 2 := FI_of (c := Tryz.f23.body.getD .skip) Tryz.func23 (by kernel_rfl) (by rfl) (by rfl) (by kernel_rfl) (by kernel_rfl) rfl rfl rfl
@[simp] theorem cfP23 : cf23.P = Tryz.prog := (rfl)
noncomputable def cf22 : Cfg := ⟨Tryz.prog, 57, [0, 1, 3, 4, 5, 6, 7, 8, 9], [3, 37, 39]⟩
noncomputable def ac22 : AC :=
 (.seq (.reg [JP 3 (.bx (.g 1)), JP 4 (.al [JW]), JP 5 (.al [JV, JV])]) (.seq (.reg [JG 10 0 3, JD 11 1 10, JO 12 (.bi .max [.t 11, .c (.int .i64 0)]), JO 13 (.bi .min [.t 12, .c (.int .i64 32768)]), JG 14 0 3, JQ (.st 1 (.t 14) (.t 13))]) (.seq (.ifr [JA 15 0, JO 16 (.len false (.t 15)), JG 17 0 3, JD 18 1 17, JO 19 (.bin .gtr 3 (.t 16) (.t 18))] (.t 19) (.seq (.reg [JO 20 (.bld [JW] []), JG 21 0 3, JD 22 1 21, JO 23 (.bld [JV, JV] [(0, 1, .c (.int .i64 22)), (1, 1, .t 22)]), JQ (.sta 1 (.g 4) (.t 20) [.g 3, .g 3]), JQ (.st 2 (.g 5) (.t 23))]) .ret) .skip) (.seq (.reg [JA 25 0, JO 26 (.pc (.f 44) [.t 25]), JC 24 26, JK 27 0 24, JK 28 1 24, JB 6 27, JB 7 28]) (.seq (.ifr [JA 29 7, JO 30 (.bin .geq 3 (.t 29) (JT 0))] (.t 30) (.seq (.reg [JO 31 (.bld [JW] []), JA 32 7, JO 33 (.bld [JV, JV] [(0, 1, .c (.int .i64 20)), (1, 1, .t 32)]), JQ (.st 1 (.g 4) (.t 31)), JQ (.st 2 (.g 5) (.t 33))]) .ret) .skip) (.seq (.reg [JA 34 6, JF 35 4 3, JO 36 (.bld [JW, JV, JV, JV, JV, JV, JV, JV, JV] [(0, 1, .t 34), (4, 4, .t 35)]), JO 37 (.bx (.t 36)), JB 8 37]) (.seq (.reg [JA 38 8, JO 39 (.cl (.f 45) [.t 38]), JP 9 (.al [JW]), JQ (.st 1 (.g 9) (.t 39))]) (.seq (.ifr [JA 40 8, JM 41 40, JH 42 2 41, JD 43 1 42, JO 44 (.bin .neq 3 (.t 43) (JT 0))] (.t 44) (.seq (.reg [JO 45 (.bld [JW] []), JA 46 8, JM 47 46, JH 48 2 47, JD 49 1 48, JA 50 8, JM 51 50, JH 52 3 51, JD 53 1 52, JO 54 (.bld [JV, JV] [(0, 1, .t 49), (1, 1, .t 53)]), JQ (.sta 1 (.g 4) (.t 45) [.g 8, .g 8, .g 8, .g 8]), JQ (.st 2 (.g 5) (.t 54))]) .ret) .skip) (.seq (.reg [JF 55 1 9, JO 56 (.bld [JV, JV] []), JQ (.st 1 (.g 4) (.t 55)), JQ (.st 2 (.g 5) (.t 56))]) .ret)))))))))
theorem fi22 : FI Tryz.prog 22 cf22 ac22 [.c 4 true 1, .c 5 true 2] [0, 1, 3, 4, 5, 6, 7, 8, 9] 57 := FI_of (c := Tryz.f22.body.getD .skip) Tryz.func22 (by kernel_rfl) (by rfl) (by rfl) (by kernel_rfl) (by kernel_rfl) rfl rfl rfl
@[simp] theorem cfP22 : cf22.P = Tryz.prog := (rfl)
@[simp] theorem eqParse_9 {a b : ByteArray} : bG Tryz.prog .eql 9 (.pl (.string a)) (.pl (.string b)) = some (.pl (.bool (decide (a = b)))) := kO Tryz.underlying9
@[simp] theorem neParse_9 {a b : ByteArray} : bG Tryz.prog .neq 9 (.pl (.string a)) (.pl (.string b)) = some (.pl (.bool (!decide (a = b)))) := mQ Tryz.underlying9
noncomputable def cf95 : Cfg := ⟨Tryz.prog, 2, [0], []⟩
noncomputable def ac95 : AC :=
 (.seq (.reg [JP 0 (.mv (.c (.slice none 0 0)))]) (.seq (.reg [JO 1 (.bsl 1 19 [JU] [(0, 1, .c (.string (ByteArray.mk (Array.mk [66])))), (1, 1, .c (.string (ByteArray.mk (Array.mk [76])))), (2, 1, .c (.string (ByteArray.mk (Array.mk [78])))), (3, 1, .c (.string (ByteArray.mk (Array.mk [99, 97, 115, 101])))), (4, 1, .c (.string (ByteArray.mk (Array.mk [99, 111, 110, 106])))), (5, 1, .c (.string (ByteArray.mk (Array.mk [101, 108, 115, 101])))), (6, 1, .c (.string (ByteArray.mk (Array.mk [102, 97, 105, 108])))), (7, 1, .c (.string (ByteArray.mk (Array.mk [102, 97, 108, 115, 101])))), (8, 1, .c (.string (ByteArray.mk (Array.mk [105, 102])))), (9, 1, .c (.string (ByteArray.mk (Array.mk [105, 109])))), (10, 1, .c (.string (ByteArray.mk (Array.mk [105, 110])))), (11, 1, .c (.string (ByteArray.mk (Array.mk [108, 101, 116])))), (12, 1, .c (.string (ByteArray.mk (Array.mk [110, 105, 108])))), (13, 1, .c (.string (ByteArray.mk (Array.mk [110, 111, 116])))), (14, 1, .c (.string (ByteArray.mk (Array.mk [111, 102])))), (15, 1, .c (.string (ByteArray.mk (Array.mk [114, 101])))), (16, 1, .c (.string (ByteArray.mk (Array.mk [115, 116, 114, 105, 99, 116])))), (17, 1, .c (.string (ByteArray.mk (Array.mk [116, 104, 101, 110])))), (18, 1, .c (.string (ByteArray.mk (Array.mk [116, 114, 117, 101]))))]), JB 0 1]) .ret))
theorem fi95 : FI Tryz.prog 95 cf95 ac95 [.t 0] [0] 2 := FI_of (c := Tryz.f95.body.getD .skip) Tryz.func95 (by kernel_rfl) (by rfl) (by rfl) (by kernel_rfl) (by kernel_rfl) rfl rfl rfl
@[simp] theorem cfP95 : cf95.P = Tryz.prog := (rfl)
noncomputable def cf68 : Cfg := ⟨Tryz.prog, 18, [0, 2, 3, 4], []⟩
noncomputable def lb68_0 : AC :=
 .seq (.ifr [JA 6 4, JA 7 3, JO 8 (.len false (.t 7)), JO 9 (.bin .lss 3 (.t 6) (.t 8))] (.t 9) .skip (.exit 0)) (.seq (.block 1 (.ifr [JA 12 3, JA 13 4, JL 14 1 12 13, JD 15 1 14, JA 16 0, JO 17 (.bin .eql 9 (.t 15) (.t 16))] (.t 17) (.seq (.reg [JP 2 (.mv JX)]) .ret) .skip)) (.reg [JA 10 4, JO 11 (.bin .add 3 (.t 10) (JT 1)), JB 4 11]))
noncomputable def ac68 : AC :=
 (.seq (.reg [JP 2 (.mv JY)]) (.seq (.reg [JO 5 (.pc (.f 95) []), JB 3 5]) (.seq (.seq (.reg [JI 4 0]) (.block 0 (.loop lb68_0))) (.seq (.reg [JP 2 (.mv JY)]) .ret))))
theorem fi68 : FI Tryz.prog 68 cf68 ac68 [.t 2] [0, 2, 3, 4] 18 := FI_of (c := Tryz.f68.body.getD .skip) Tryz.func68 (by kernel_rfl) (by rfl) (by rfl) (by kernel_rfl) (by kernel_rfl) rfl rfl rfl
@[simp] theorem cfP68 : cf68.P = Tryz.prog := (rfl)
noncomputable def cf56 : Cfg := ⟨Tryz.prog, 17, [0, 2], []⟩
noncomputable def ac56 : AC :=
 (.seq (.reg [JP 2 (.mv JY)]) (.seq (.reg [JA 3 0, JO 4 (.bin .eql 5 (.t 3) (.c (.int .u8 9))), JC 5 4, JR 6 5 (.mv (.g 0)), JR 7 5 (.bin .eql 5 (.t 6) (.c (.int .u8 10))), JO 8 (.pick (.t 5) JX (.t 7)), JC 9 8, JR 10 9 (.mv (.g 0)), JR 11 9 (.bin .eql 5 (.t 10) (.c (.int .u8 13))), JO 12 (.pick (.t 9) JX (.t 11)), JC 13 12, JR 14 13 (.mv (.g 0)), JR 15 13 (.bin .eql 5 (.t 14) (.c (.int .u8 32))), JO 16 (.pick (.t 13) JX (.t 15)), JB 2 16]) .ret))
theorem fi56 : FI Tryz.prog 56 cf56 ac56 [.t 2] [0, 2] 17 := FI_of (c := Tryz.f56.body.getD .skip) Tryz.func56 (by kernel_rfl) (by rfl) (by rfl) (by kernel_rfl) (by kernel_rfl) rfl rfl rfl
@[simp] theorem cfP56 : cf56.P = Tryz.prog := (rfl)
noncomputable def cf91 : Cfg := ⟨Tryz.prog, 17, [0, 2], []⟩
noncomputable def ac91 : AC :=
 (.seq (.reg [JP 2 (.mv JY)]) (.seq (.reg [JA 3 0, JO 4 (.bin .geq 5 (.t 3) (.c (.int .u8 65))), JC 5 4, JS 6 5 (.mv (.g 0)), JS 7 5 (.bin .leq 5 (.t 6) (.c (.int .u8 90))), JO 8 (.pick (.t 5) (.t 7) JY), JC 9 8, JR 10 9 (.mv (.g 0)), JR 11 9 (.bin .geq 5 (.t 10) (.c (.int .u8 97))), JR 12 9 (.mv (.t 11)), JS 13 12 (.mv (.g 0)), JS 14 12 (.bin .leq 5 (.t 13) (.c (.int .u8 122))), JR 15 9 (.pick (.t 12) (.t 14) JY), JO 16 (.pick (.t 9) JX (.t 15)), JB 2 16]) .ret))
theorem fi91 : FI Tryz.prog 91 cf91 ac91 [.t 2] [0, 2] 17 := FI_of (c := Tryz.f91.body.getD .skip) Tryz.func91 (by kernel_rfl) (by rfl) (by rfl) (by kernel_rfl) (by kernel_rfl) rfl rfl rfl
@[simp] theorem cfP91 : cf91.P = Tryz.prog := (rfl)
noncomputable def cf65 : Cfg := ⟨Tryz.prog, 9, [0, 2], []⟩
noncomputable def ac65 : AC :=
 (.seq (.reg [JP 2 (.mv JY)]) (.seq (.reg [JA 3 0, JO 4 (.bin .geq 5 (.t 3) (.c (.int .u8 48))), JC 5 4, JS 6 5 (.mv (.g 0)), JS 7 5 (.bin .leq 5 (.t 6) (.c (.int .u8 57))), JO 8 (.pick (.t 5) (.t 7) JY), JB 2 8]) .ret))
theorem fi65 : FI Tryz.prog 65 cf65 ac65 [.t 2] [0, 2] 9 := FI_of (c := Tryz.f65.body.getD .skip) Tryz.func65 (by kernel_rfl) (by rfl) (by rfl) (by kernel_rfl) (by kernel_rfl) rfl rfl rfl
@[simp] theorem cfP65 : cf65.P = Tryz.prog := (rfl)
noncomputable def cf64 : Cfg := ⟨Tryz.prog, 42, [0, 1, 4, 5], []⟩
noncomputable def lb64_0 : AC :=
 .seq (.ifr [JA 6 1, JA 7 5, JO 8 (.bin .add 3 (.t 6) (.t 7)), JA 9 0, JO 10 (.len false (.t 9)), JO 11 (.bin .lss 3 (.t 8) (.t 10)), JC 12 11, JS 13 12 (.mv (.g 0)), JS 14 12 (.mv (.g 1)), JS 15 12 (.mv (.g 5)), JS 16 12 (.bin .add 3 (.t 14) (.t 15)), JS 17 12 (.ia 1 (.t 13) (.t 16)), JS 18 12 (.ld false 1 (.t 17)), JS 19 12 (.pc (.f 91) [.t 18]), JS 20 12 (.mv (.t 19)), JR 21 20 (.mv (.g 0)), JR 22 20 (.mv (.g 1)), JR 23 20 (.mv (.g 5)), JR 24 20 (.bin .add 3 (.t 22) (.t 23)), JR 25 20 (.ia 1 (.t 21) (.t 24)), JR 26 20 (.ld false 1 (.t 25)), JR 27 20 (.pc (.f 65) [.t 26]), JS 28 12 (.pick (.t 20) JX (.t 27)), JS 29 12 (.mv (.t 28)), JR 30 29 (.mv (.g 0)), JR 31 29 (.mv (.g 1)), JR 32 29 (.mv (.g 5)), JR 33 29 (.bin .add 3 (.t 31) (.t 32)), JR 34 29 (.ia 1 (.t 30) (.t 33)), JR 35 29 (.ld false 1 (.t 34)), JR 36 29 (.bin .eql 5 (.t 35) (.c (.int .u8 95))), JS 37 12 (.pick (.t 29) JX (.t 36)), JO 38 (.pick (.t 12) (.t 37) JY)] (.t 38) .skip (.exit 0)) (.block 1 (.reg [JA 39 5, JO 40 (.bin .add 3 (.t 39) (JT 1)), JB 5 40]))
noncomputable def ac64 : AC :=
 (.seq (.reg [JI 4 0]) (.seq (.reg [JI 5 0]) (.seq (.block 0 (.loop lb64_0)) (.seq (.reg [JA 41 5, JB 4 41]) .ret))))
theorem fi64 : FI Tryz.prog 64 cf64 ac64 [.t 4] [0, 1, 4, 5] 42 := FI_of (c := Tryz.f64.body.getD .skip) Tryz.func64 (by kernel_rfl) (by rfl) (by rfl) (by kernel_rfl) (by kernel_rfl) rfl rfl rfl
@[simp] theorem cfP64 : cf64.P = Tryz.prog := (rfl)
noncomputable def cf69 : Cfg := ⟨Tryz.prog, 57, [0, 1, 4, 43, 44], []⟩
noncomputable def ac69 : AC :=
 (.seq (.reg [JI 4 0]) (.seq (.ifr [JA 5 1, JO 6 (.bin .add 3 (.t 5) (JT 1)), JA 7 0, JO 8 (.len false (.t 7)), JO 9 (.bin .lss 3 (.t 6) (.t 8)), JC 10 9, JS 11 10 (.mv (.g 0)), JS 12 10 (.mv (.g 1)), JS 13 10 (.ia 1 (.t 11) (.t 12)), JS 14 10 (.ld false 1 (.t 13)), JS 15 10 (.bin .eql 5 (.t 14) (.c (.int .u8 45))), JS 16 10 (.mv (.t 15)), JS 17 16 (.mv (.g 0)), JS 18 16 (.mv (.g 1)), JS 19 16 (.bin .add 3 (.t 18) (JT 1)), JS 20 16 (.ia 1 (.t 17) (.t 19)), JS 21 16 (.ld false 1 (.t 20)), JS 22 16 (.bin .eql 5 (.t 21) (.c (.int .u8 62))), JS 23 10 (.pick (.t 16) (.t 22) JY), JS 24 10 (.mv (.t 23)), JR 25 24 (.mv (.g 0)), JR 26 24 (.mv (.g 1)), JR 27 24 (.ia 1 (.t 25) (.t 26)), JR 28 24 (.ld false 1 (.t 27)), JR 29 24 (.bin .eql 5 (.t 28) (.c (.int .u8 61))), JR 30 24 (.mv (.t 29)), JS 31 30 (.mv (.g 0)), JS 32 30 (.mv (.g 1)), JS 33 30 (.bin .add 3 (.t 32) (JT 1)), JS 34 30 (.ia 1 (.t 31) (.t 33)), JS 35 30 (.ld false 1 (.t 34)), JS 36 30 (.bin .eql 5 (.t 35) (.c (.int .u8 61))), JR 37 24 (.pick (.t 30) (.t 36) JY), JS 38 10 (.pick (.t 24) JX (.t 37)), JO 39 (.pick (.t 10) (.t 38) JY)] (.t 39) (.seq (.reg [JI 4 2]) .ret) .skip) (.seq (.seq (.reg [JA 40 0, JA 41 1, JL 42 1 40 41, JP 43 (.ld false 1 (.t 42))]) (.block 0 (.seq (.ifr [JO 45 (.bin .eql 5 (.g 43) (.c (.int .u8 40))), JB 44 45] (.g 44) .skip (.ifr [JO 46 (.bin .eql 5 (.g 43) (.c (.int .u8 41))), JB 44 46] (.g 44) .skip (.ifr [JO 47 (.bin .eql 5 (.g 43) (.c (.int .u8 44))), JB 44 47] (.g 44) .skip (.ifr [JO 48 (.bin .eql 5 (.g 43) (.c (.int .u8 58))), JB 44 48] (.g 44) .skip (.ifr [JO 49 (.bin .eql 5 (.g 43) (.c (.int .u8 59))), JB 44 49] (.g 44) .skip (.ifr [JO 50 (.bin .eql 5 (.g 43) (.c (.int .u8 61))), JB 44 50] (.g 44) .skip (.ifr [JO 51 (.bin .eql 5 (.g 43) (.c (.int .u8 43))), JB 44 51] (.g 44) .skip (.ifr [JO 52 (.bin .eql 5 (.g 43) (.c (.int .u8 45))), JB 44 52] (.g 44) .skip (.ifr [JO 53 (.bin .eql 5 (.g 43) (.c (.int .u8 42))), JB 44 53] (.g 44) .skip (.ifr [JO 54 (.bin .eql 5 (.g 43) (.c (.int .u8 47))), JB 44 54] (.g 44) .skip (.ifr [JO 55 (.bin .eql 5 (.g 43) (.c (.int .u8 60))), JB 44 55] (.g 44) .skip (.reg [JO 56 (.bin .eql 5 (.g 43) (.c (.int .u8 124))), JB 44 56])))))))))))) (.cond (.g 44) (.seq (.reg [JI 4 1]) .ret) .skip)))) (.seq (.reg [JI 4 0]) .ret))))
theorem fi69 : FI Tryz.prog 69 cf69 ac69 [.t 4] [0, 1, 4, 43, 44] 57 := FI_of (c := Tryz.f69.body.getD .skip) Tryz.func69 (by kernel_rfl) (by rfl) (by rfl) (by kernel_rfl) (by kernel_rfl) rfl rfl rfl
@[simp] theorem cfP69 : cf69.P = Tryz.prog := (rfl)
noncomputable def cf57 : Cfg := ⟨Tryz.prog, 79, [0, 1, 4, 5, 6, 7, 8, 9], []⟩
noncomputable def ac57 : AC :=
 (.seq (.reg [JP 4 (.al [JV, JU, .complex .f64 0 0, JV]), JP 5 (.mv JY)]) (.seq (.reg [JA 10 0, JA 11 1, JO 12 (.pc (.f 64) [.t 10, .t 11]), JB 6 12]) (.seq (.reg [JA 13 0, JA 14 1, JA 15 1, JA 16 6, JO 17 (.bin .add 3 (.t 15) (.t 16)), JO 18 (.sls false 1 (.t 13) (some (.t 14)) (some (.t 17))), JO 19 (.cv 22 9 (.t 18)), JA 20 1, JO 21 (.bld [JV, JU, .complex .f64 0 0, JV] [(1, 1, .t 19), (3, 1, .t 20)]), JP 7 (.al [JV, JU, .complex .f64 0 0, JV]), JQ (.st 4 (.g 7) (.t 21))]) (.seq (.block 0 (.ifr [JA 23 6, JO 24 (.bin .gtr 3 (.t 23) (JT 0)), JC 25 24, JS 26 25 (.mv (.g 0)), JS 27 25 (.mv (.g 1)), JS 28 25 (.ia 1 (.t 26) (.t 27)), JS 29 25 (.ld false 1 (.t 28)), JS 30 25 (.pc (.f 65) [.t 29]), JO 31 (.pick (.t 25) (.t 30) JY), JC 22 31] (.t 22) (.seq (.reg [JG 33 1 7, JD 34 1 33, JO 35 (.pc (.f 66) [.t 34]), JC 32 35, JK 36 0 32, JK 37 1 32, JP 8 (.al [JV, JV]), JQ (.st 2 (.g 8) (.t 36)), JB 9 37]) (.seq (.reg [JG 38 0 7, JQ (.st 1 (.t 38) (JT 2))]) (.seq (.reg [JF 39 2 8, JO 40 (.pc (.f 67) [.t 39]), JG 41 2 7, JQ (.st 1 (.t 41) (.t 40))]) (.seq (.reg [JF 42 4 7, JA 43 9, JO 44 (.bin .eql 3 (.t 43) (JT 0)), JQ (.st 4 (.g 4) (.t 42)), JB 5 44]) .ret)))) (.ifr [JA 46 6, JO 47 (.bin .gtr 3 (.t 46) (JT 0)), JC 48 47, JS 49 48 (.mv (.g 0)), JS 50 48 (.mv (.g 1)), JS 51 48 (.ia 1 (.t 49) (.t 50)), JS 52 48 (.ld false 1 (.t 51)), JS 53 48 (.bin .eql 5 (.t 52) (.c (.int .u8 95))), JO 54 (.pick (.t 48) (.t 53) JY), JC 45 54] (.t 45) (.seq (.reg [JF 55 4 7, JQ (.st 4 (.g 4) (.t 55)), JP 5 (.mv JY)]) .ret) (.ifr [JA 57 6, JO 58 (.bin .gtr 3 (.t 57) (JT 0)), JC 56 58] (.t 56) (.seq (.ifr [JG 59 1 7, JD 60 1 59, JO 61 (.pc (.f 68) [.t 60])] (.t 61) (.reg [JG 62 0 7, JQ (.st 1 (.t 62) (JT 1))]) .skip) (.seq (.reg [JF 63 4 7, JQ (.st 4 (.g 4) (.t 63)), JP 5 (.mv JX)]) .ret)) .skip)))) (.seq (.reg [JA 64 0, JA 65 1, JO 66 (.pc (.f 69) [.t 64, .t 65]), JB 6 66]) (.seq (.reg [JG 67 0 7, JQ (.st 1 (.t 67) (JT 3))]) (.seq (.reg [JA 68 0, JA 69 1, JA 70 1, JA 71 6, JO 72 (.bin .add 3 (.t 70) (.t 71)), JO 73 (.sls false 1 (.t 68) (some (.t 69)) (some (.t 72))), JO 74 (.cv 22 9 (.t 73)), JG 75 1 7, JQ (.st 1 (.t 75) (.t 74))]) (.seq (.reg [JF 76 4 7, JA 77 6, JO 78 (.bin .gtr 3 (.t 77) (JT 0)), JQ (.st 4 (.g 4) (.t 76)), JB 5 78]) .ret))))))))
theorem fi57 : FI Tryz.prog 57 cf57 ac57 [.c 4 true 4, .t 5] [0, 1, 4, 5, 6, 7, 8, 9] 79 := FI_of (c := Tryz.f57.body.getD .skip) Tryz.func57 (by kernel_rfl) (by rfl) (by rfl) (by kernel_rfl) (by kernel_rfl) rfl rfl rfl
@[simp] theorem cfP57 : cf57.P = Tryz.prog := (rfl)
noncomputable def cf44 : Cfg := ⟨Tryz.prog, 61, [0, 2, 3, 4, 5, 6, 7], [49, 60]⟩
noncomputable def lb44_0 : AC :=
 .seq (.ifr [JA 24 5, JA 25 0, JO 26 (.len false (.t 25)), JO 27 (.bin .lss 3 (.t 24) (.t 26)), JC 28 27, JS 29 28 (.mv (.g 0)), JS 30 28 (.mv (.g 5)), JS 31 28 (.ia 1 (.t 29) (.t 30)), JS 32 28 (.ld false 1 (.t 31)), JS 33 28 (.bin .neq 5 (.t 32) (.c (.int .u8 10))), JO 34 (.pick (.t 28) (.t 33) JY)] (.t 34) .skip (.exit 2)) (.block 3 (.reg [JA 35 5, JO 36 (.bin .add 3 (.t 35) (JT 1)), JB 5 36]))
noncomputable def lb44_1 : AC :=
 .seq (.ifr [JA 8 5, JA 9 0, JO 10 (.len false (.t 9)), JO 11 (.bin .lss 3 (.t 8) (.t 10))] (.t 11) .skip (.exit 0)) (.block 1 (.seq (.ifr [JA 12 0, JA 13 5, JL 14 1 12 13, JD 15 1 14, JO 16 (.pc (.f 56) [.t 15])] (.t 16) (.seq (.reg [JA 17 5, JO 18 (.bin .add 3 (.t 17) (JT 1)), JB 5 18]) (.exit 1)) .skip) (.seq (.ifr [JA 19 0, JA 20 5, JL 21 1 19 20, JD 22 1 21, JO 23 (.bin .eql 5 (.t 22) (.c (.int .u8 35)))] (.t 23) (.seq (.block 2 (.loop lb44_0)) (.exit 1)) .skip) (.seq (.reg [JA 38 0, JA 39 5, JO 40 (.pc (.f 57) [.t 38, .t 39]), JC 37 40, JK 41 0 37, JK 42 1 37, JP 6 (.al [JV, JU, .complex .f64 0 0, JV]), JQ (.st 4 (.g 6) (.t 41)), JB 7 42]) (.seq (.ifr [JA 43 7, JO 44 (.un .not (.t 43))] (.t 44) (.seq (.reg [JA 45 5, JP 2 (.mv (.c (.slice none 0 0))), JB 3 45]) .ret) .skip) (.seq (.reg [JA 46 4, JF 47 4 6, JO 48 (.bsl 4 1 [JV, JU, .complex .f64 0 0, JV] [(0, 4, .t 47)]), JO 49 (.app 4 48 [JV, JU, .complex .f64 0 0, JV] (.t 46) (.t 48)), JB 4 49]) (.reg [JA 50 5, JG 51 1 6, JD 52 1 51, JO 53 (.len true (.t 52)), JO 54 (.bin .add 3 (.t 50) (.t 53)), JB 5 54])))))))
noncomputable def ac44 : AC :=
 (.seq (.reg [JP 2 (.mv (.c (.slice none 0 0))), JI 3 0]) (.seq (.reg [JP 4 (.mv (.c (.slice none 0 0)))]) (.seq (.reg [JI 5 0]) (.seq (.block 0 (.loop lb44_1)) (.seq (.reg [JA 55 4, JA 56 0, JO 57 (.len false (.t 56)), JO 58 (.bld [JV, JU, .complex .f64 0 0, JV] [(0, 1, .c (.int .i64 4)), (3, 1, .t 57)]), JO 59 (.bsl 4 1 [JV, JU, .complex .f64 0 0, JV] [(0, 4, .t 58)]), JO 60 (.app 4 48 [JV, JU, .complex .f64 0 0, JV] (.t 55) (.t 59)), JB 2 60, JI 3 (-1)]) .ret)))))
theorem fi44 : FI Tryz.prog 44 cf44 ac44 [.t 2, .t 3] [0, 2, 3, 4, 5, 6, 7] 61 := FI_of (c := Tryz.f44.body.getD .skip) Tryz.func44 (by kernel_rfl) (by rfl) (by rfl) (by kernel_rfl) (by kernel_rfl) rfl rfl rfl
@[simp] theorem cfP44 : cf44.P = Tryz.prog := (rfl)
@[simp] theorem eqMarks_9 {a b : ByteArray} : bG Tryz.prog .eql 9 (.pl (.string a)) (.pl (.string b)) = some (.pl (.bool (decide (a = b)))) := kO Tryz.underlying9
noncomputable def cf110 : Cfg := ⟨Tryz.prog, 24, [0, 2, 3], []⟩
noncomputable def ac110 : AC :=
 (.seq (.reg [JP 2 (.mv (.c (JU)))]) (.seq (.ifr [JA 4 0, JO 5 (.bin .lss 3 (.t 4) (JT 0))] (.t 5) (.seq (.reg [JA 6 0, JO 7 (.un .neg (.t 6)), JO 8 (.pc (.f 110) [.t 7]), JO 9 (.bin .add 9 (.c (.string (ByteArray.mk (Array.mk [45])))) (.t 8)), JB 2 9]) .ret) .skip) (.seq (.reg [JA 10 0, JO 11 (.bin .rem 3 (.t 10) (JT 10)), JO 12 (.bin .add 3 (JT 48) (.t 11)), JO 13 (.cv 3 5 (.t 12)), JO 14 (.bsl 1 1 [.int .u8 0] [(0, 1, .t 13)]), JO 15 (.cv 22 9 (.t 14)), JB 3 15]) (.seq (.ifr [JA 16 0, JO 17 (.bin .geq 3 (.t 16) (JT 10))] (.t 17) (.reg [JA 18 0, JO 19 (.bin .quo 3 (.t 18) (JT 10)), JO 20 (.pc (.f 110) [.t 19]), JA 21 3, JO 22 (.bin .add 9 (.t 20) (.t 21)), JB 3 22]) .skip) (.seq (.reg [JA 23 3, JB 2 23]) .ret)))))
theorem fi110 : FI Tryz.prog 110 cf110 ac110 [.t 2] [0, 2, 3] 24 := FI_of (c := Tryz.f110.body.getD .skip) Tryz.func110 (by kernel_rfl) (by rfl) (by rfl) (by kernel_rfl) (by kernel_rfl) rfl rfl rfl
@[simp] theorem cfP110 : cf110.P = Tryz.prog := (rfl)
noncomputable def cf94 : Cfg := ⟨Tryz.prog, 39, [0, 1, 2], []⟩
noncomputable def ac94 : AC :=
 (.seq (.reg [JN 1 0, JP 2 (.mv (.c (JU)))]) (.seq (.block 0 (.ifr [JG 4 1 1, JD 5 1 4, JO 6 (.bin .eql 3 (.t 5) (JT 0)), JC 3 6] (.t 3) (.seq (.reg [JG 7 0 1, JD 8 1 7, JO 9 (.pc (.f 110) [.t 8]), JB 2 9]) .ret) (.ifr [JG 11 0 1, JD 12 1 11, JO 13 (.bin .eql 3 (.t 12) (JT 0)), JC 10 13] (.t 10) (.seq (.reg [JG 14 1 1, JD 15 1 14, JO 16 (.pc (.f 110) [.t 15]), JO 17 (.bin .add 9 (.t 16) (.c (.string (ByteArray.mk (Array.mk [105]))))), JB 2 17]) .ret) (.ifr [JG 19 1 1, JD 20 1 19, JO 21 (.bin .gtr 3 (.t 20) (JT 0)), JC 18 21] (.t 18) (.seq (.reg [JG 22 0 1, JD 23 1 22, JO 24 (.pc (.f 110) [.t 23]), JO 25 (.bin .add 9 (.t 24) (.c (.string (ByteArray.mk (Array.mk [43]))))), JG 26 1 1, JD 27 1 26, JO 28 (.pc (.f 110) [.t 27]), JO 29 (.bin .add 9 (.t 25) (.t 28)), JO 30 (.bin .add 9 (.t 29) (.c (.string (ByteArray.mk (Array.mk [105]))))), JB 2 30]) .ret) .skip)))) (.seq (.reg [JG 31 0 1, JD 32 1 31, JO 33 (.pc (.f 110) [.t 32]), JG 34 1 1, JD 35 1 34, JO 36 (.pc (.f 110) [.t 35]), JO 37 (.bin .add 9 (.t 33) (.t 36)), JO 38 (.bin .add 9 (.t 37) (.c (.string (ByteArray.mk (Array.mk [105]))))), JB 2 38]) .ret)))
theorem fi94 : FI Tryz.prog 94 cf94 ac94 [.t 2] [0, 1, 2] 39 := FI_of (c := Tryz.f94.body.getD .skip) Tryz.func94 (by kernel_rfl) (by rfl) (by rfl) (by kernel_rfl) (by kernel_rfl) rfl rfl rfl
@[simp] theorem cfP94 : cf94.P = Tryz.prog := (rfl)
noncomputable def cf92 : Cfg := ⟨Tryz.prog, 52, [0, 2, 3, 4, 5, 6], []⟩
noncomputable def lb92_0 : AC :=
 .seq (.ifr [JA 16 6, JA 17 0, JO 18 (.len true (.t 17)), JO 19 (.bin .lss 3 (.t 16) (.t 18)), JC 20 19, JS 21 20 (.mv (.g 0)), JS 22 20 (.mv (.g 6)), JS 23 20 (.ixs (.t 21) (.t 22)), JS 24 20 (.bin .geq 5 (.t 23) (.c (.int .u8 48))), JO 25 (.pick (.t 20) (.t 24) JY), JC 26 25, JS 27 26 (.mv (.g 0)), JS 28 26 (.mv (.g 6)), JS 29 26 (.ixs (.t 27) (.t 28)), JS 30 26 (.bin .leq 5 (.t 29) (.c (.int .u8 57))), JO 31 (.pick (.t 26) (.t 30) JY)] (.t 31) .skip (.exit 0)) (.block 1 (.seq (.reg [JA 32 5, JO 33 (.bin .mul 3 (JT 10) (.t 32)), JA 34 0, JA 35 6, JO 36 (.ixs (.t 34) (.t 35)), JO 37 (.bin .sub 5 (.t 36) (.c (.int .u8 48))), JO 38 (.cv 5 3 (.t 37)), JO 39 (.bin .add 3 (.t 33) (.t 38)), JO 40 (.bi .min [.t 39, .c (.int .i64 16777217)]), JB 5 40]) (.reg [JA 41 6, JO 42 (.bin .add 3 (.t 41) (JT 1)), JB 6 42])))
noncomputable def ac92 : AC :=
 (.seq (.reg [JI 2 0, JI 3 0]) (.seq (.reg [JI 4 0]) (.seq (.ifr [JA 7 0, JO 8 (.len true (.t 7)), JO 9 (.bin .gtr 3 (.t 8) (JT 0)), JC 10 9, JS 11 10 (.mv (.g 0)), JS 12 10 (.ixs (.t 11) (JT 0)), JS 13 10 (.bin .eql 5 (.t 12) (.c (.int .u8 45))), JO 14 (.pick (.t 10) (.t 13) JY)] (.t 14) (.reg [JI 4 1]) .skip) (.seq (.reg [JI 5 0]) (.seq (.reg [JA 15 4, JB 6 15]) (.seq (.block 0 (.loop lb92_0)) (.seq (.ifr [JA 43 6, JA 44 4, JO 45 (.bin .eql 3 (.t 43) (.t 44))] (.t 45) (.seq (.reg [JI 2 0, JI 3 0]) .ret) .skip) (.seq (.ifr [JA 46 4, JO 47 (.bin .eql 3 (.t 46) (JT 1))] (.t 47) (.reg [JA 48 5, JO 49 (.un .neg (.t 48)), JB 5 49]) .skip) (.seq (.reg [JA 50 5, JA 51 6, JB 2 50, JB 3 51]) .ret)))))))))
theorem fi92 : FI Tryz.prog 92 cf92 ac92 [.t 2, .t 3] [0, 2, 3, 4, 5, 6] 52 := FI_of (c := Tryz.f92.body.getD .skip) Tryz.func92 (by kernel_rfl) (by rfl) (by rfl) (by kernel_rfl) (by kernel_rfl) rfl rfl rfl
@[simp] theorem cfP92 : cf92.P = Tryz.prog := (rfl)
noncomputable def cf66 : Cfg := ⟨Tryz.prog, 58, [0, 2, 3, 4, 5, 6, 7, 8, 11], []⟩
noncomputable def ac66 : AC :=
 (.seq (.reg [JP 2 (.al [JV, JV]), JI 3 0]) (.seq (.reg [JA 13 0, JO 14 (.pc (.f 92) [.t 13]), JC 12 14, JK 15 0 12, JK 16 1 12, JB 4 15, JB 5 16]) (.seq (.ifr [JA 17 5, JO 18 (.bin .eql 3 (.t 17) (JT 0))] (.t 18) (.seq (.reg [JO 19 (.bld [JV, JV] []), JQ (.st 2 (.g 2) (.t 19)), JI 3 10]) .ret) .skip) (.seq (.reg [JA 20 4, JO 21 (.bld [JV, JV] [(0, 1, .t 20)]), JP 6 (.al [JV, JV]), JQ (.st 2 (.g 6) (.t 21))]) (.seq (.reg [JA 22 0, JA 23 5, JO 24 (.sls true 0 (.t 22) (some (.t 23)) none), JB 7 24]) (.seq (.ifr [JA 25 7, JO 26 (.bin .eql 9 (.t 25) (.c (.string (ByteArray.mk (Array.mk [105])))))] (.t 26) (.reg [JA 27 4, JO 28 (.bld [JV, JV] [(1, 1, .t 27)]), JQ (.st 2 (.g 6) (.t 28))]) (.ifr [JA 29 7, JO 30 (.bin .neq 9 (.t 29) (.c (JU)))] (.t 30) (.seq (.ifr [JA 31 7, JO 32 (.ixs (.t 31) (JT 0)), JO 33 (.bin .eql 5 (.t 32) (.c (.int .u8 43)))] (.t 33) (.reg [JA 34 7, JO 35 (.sls true 0 (.t 34) (some (JT 1)) none), JB 7 35]) .skip) (.seq (.reg [JA 37 7, JO 38 (.pc (.f 92) [.t 37]), JC 36 38, JK 39 0 36, JK 40 1 36, JB 8 39, JC 9 40]) (.reg [JA 41 8, JG 42 1 6, JQ (.st 1 (.t 42) (.t 41))]))) .skip)) (.seq (.reg [JF 44 2 6, JO 45 (.pc (.f 93) [.t 44]), JC 43 45, JK 46 0 43, JK 47 1 43, JO 10 (.al [JV, JV]), JQ (.st 2 (.t 10) (.t 46)), JB 11 47]) (.seq (.ifr [JA 48 11, JO 49 (.bin .neq 3 (.t 48) (JT 0)), JC 50 49, JR 51 50 (.ld true 2 (.g 6)), JR 52 50 (.pc (.f 94) [.t 51]), JR 53 50 (.mv (.g 0)), JR 54 50 (.bin .neq 9 (.t 52) (.t 53)), JO 55 (.pick (.t 50) JX (.t 54))] (.t 55) (.seq (.reg [JO 56 (.bld [JV, JV] []), JQ (.st 2 (.g 2) (.t 56)), JI 3 10]) .ret) .skip) (.seq (.reg [JF 57 2 6, JQ (.st 2 (.g 2) (.t 57)), JI 3 0]) .ret)))))))))
theorem fi66 : FI Tryz.prog 66 cf66 ac66 [.c 2 true 2, .t 3] [0, 2, 3, 4, 5, 6, 7, 8, 11] 58 := FI_of (c := Tryz.f66.body.getD .skip) Tryz.func66 (by kernel_rfl) (by rfl) (by rfl) (by kernel_rfl) (by kernel_rfl) rfl rfl rfl
@[simp] theorem cfP66 : cf66.P = Tryz.prog := (rfl)
@[simp] theorem cvNum_3_5 {n : Int} : cvD Tryz.prog 3 5 (.pl (.int .i64 n)) = some (.pl (.int .u8 (IntKind.u8.wrap n))) := A_ Tryz.underlying3 Tryz.underlying5
@[simp] theorem cvNum_5_3 {n : Int} : cvD Tryz.prog 5 3 (.pl (.int .u8 n)) = some (.pl (.int .i64 (IntKind.i64.wrap n))) := A_ Tryz.underlying5 Tryz.underlying3
@[simp] theorem eqNum_9 {a b : ByteArray} : bG Tryz.prog .eql 9 (.pl (.string a)) (.pl (.string b)) = some (.pl (.bool (decide (a = b)))) := kO Tryz.underlying9
@[simp] theorem neNum_9 {a b : ByteArray} : bG Tryz.prog .neq 9 (.pl (.string a)) (.pl (.string b)) = some (.pl (.bool (!decide (a = b)))) := mQ Tryz.underlying9
noncomputable def cf93 : Cfg := ⟨Tryz.prog, 24, [0, 1, 2, 3], []⟩
noncomputable def ac93 : AC :=
 (.seq (.reg [JN 1 0, JP 2 (.al [JV, JV]), JI 3 0]) (.seq (.ifr [JG 4 0 1, JD 5 1 4, JO 6 (.bin .lss 3 (.t 5) (JT (-16777216))), JC 7 6, JR 8 7 (.fa 0 (.g 1)), JR 9 7 (.ld false 1 (.t 8)), JR 10 7 (.bin .gtr 3 (.t 9) (JT 16777216)), JO 11 (.pick (.t 7) JX (.t 10)), JC 12 11, JR 13 12 (.fa 1 (.g 1)), JR 14 12 (.ld false 1 (.t 13)), JR 15 12 (.bin .lss 3 (.t 14) (JT (-16777216))), JO 16 (.pick (.t 12) JX (.t 15)), JC 17 16, JR 18 17 (.fa 1 (.g 1)), JR 19 17 (.ld false 1 (.t 18)), JR 20 17 (.bin .gtr 3 (.t 19) (JT 16777216)), JO 21 (.pick (.t 17) JX (.t 20))] (.t 21) (.seq (.reg [JO 22 (.bld [JV, JV] []), JQ (.st 2 (.g 2) (.t 22)), JI 3 50]) .ret) .skip) (.seq (.reg [JF 23 2 1, JQ (.st 2 (.g 2) (.t 23)), JI 3 0]) .ret)))
theorem fi93 : FI Tryz.prog 93 cf93 ac93 [.c 2 true 2, .t 3] [0, 1, 2, 3] 24 := FI_of (c := Tryz.f93.body.getD .skip) Tryz.func93 (by kernel_rfl) (by rfl) (by rfl) (by kernel_rfl) (by kernel_rfl) rfl rfl rfl
@[simp] theorem cfP93 : cf93.P = Tryz.prog := (rfl)
noncomputable def cf67 : Cfg := ⟨Tryz.prog, 10, [0, 1, 2], []⟩
noncomputable def ac67 : AC :=
 (.seq (.reg [JN 1 0, JP 2 (.mv (.c (.complex .f64 0 0)))]) (.seq (.reg [JG 3 0 1, JD 4 1 3, JO 5 (.cv 3 141 (.t 4)), JG 6 1 1, JD 7 1 6, JO 8 (.cv 3 141 (.t 7)), JO 9 (.bi .complex [.t 5, .t 8]), JB 2 9]) .ret))
theorem fi67 : FI Tryz.prog 67 cf67 ac67 [.t 2] [0, 1, 2] 10 := FI_of (c := Tryz.f67.body.getD .skip) Tryz.func67 (by kernel_rfl) (by rfl) (by rfl) (by kernel_rfl) (by kernel_rfl) rfl rfl rfl
@[simp] theorem cfP67 : cf67.P = Tryz.prog := (rfl)
abbrev I (n : Int) : D := .pl (.int .i64 n)
abbrev B (b : Bool) : D := .pl (.bool b)
set_option maxRecDepth 100000
open Go.Fx.Flt
theorem cvBT {l : List UInt8} : cvD Tryz.prog 22 9 (.sl (em dB l)) = some (Tx l) := cv_BT (by kernel_rfl) (by kernel_rfl)
theorem cvB1 {c : UInt8} : cvD Tryz.prog 22 9 (.sl [[By c.toNat]]) = some (Tx [c]) := cv_B1 (by kernel_rfl) (by kernel_rfl) c
attribute [simp] cvBT cvB1
def isDg (c : UInt8) : Bool := decide (48 ≤ c.toNat) && decide (c.toNat ≤ 57)
def jZ : List UInt8 → Int → Nat → Int × Nat
 | [], n, k => (n, k)
 | c :: r, n, k => if isDg c then jZ r (min (10 * n + ((c.toNat : Int) - 48)) 16777217) (k + 1) else (n, k)
def signed (s : List UInt8) : Bool := s.head? == some 45
def cG (s : List UInt8) : Nat := if signed s then 1 else 0
def eH (s : List UInt8) : Int × Nat := jZ (s.drop (cG s)) 0 (cG s)
def aT (s : List UInt8) : Int × Nat := if (eH s).2 = cG s then (0, 0) else (if signed s then -(eH s).1 else (eH s).1, (eH s).2)
theorem vE : ∀ (l : List UInt8) (n : Int) (k : Nat), 0 ≤ n → n ≤ 16777217 → 0 ≤ (jZ l n k).1 ∧ (jZ l n k).1 ≤ 16777217 ∧ k ≤ (jZ l n k).2 ∧ (jZ l n k).2 ≤ k + l.length
 | [], n, k, h1, h2 => ⟨h1, h2, Nat.le_refl _, Nat.le_refl _⟩
 | c :: r, n, k, h1, h2 => by
  unfold jZ
  cases hc : isDg c
  ·simp; omega
  ·simp only [isDg, Bool.and_eq_true, decide_eq_true_eq] at hc
   have := vE r (min (10 * n + ((c.toNat : Int) - 48)) 16777217) (k + 1) (by omega) (by omega)
   simp only [if_true, List.length_cons]
   omega
theorem y_ {s : List UInt8} : signed s = true ↔ 0 < s.length ∧ bt8 s 0 = 45 := by
 unfold signed bt8
 cases s with
 | nil => simp
 | cons c r =>
  have : ((c.toNat : Int) = 45) ↔ c = 45 := ⟨fun h => UInt8.toNat.inj (by show c.toNat = 45; omega), fun h => by rw [h]; rfl⟩
  simp [this]
theorem yN {s : List UInt8} {k : Nat} (h : k < s.length) : ∃ c, s.drop k = c :: s.drop (k + 1) ∧ (c.toNat : Int) = bt8 s k := by
 refine ⟨s[k], List.drop_eq_getElem_cons h, ?_⟩
 unfold bt8
 rw [List.getElem?_eq_getElem h]; rfl
theorem mJ (s : List UInt8) (hl : s.length < 2 ^ 46) (i : Int) (hi : i = (cG s : Int)) (hle : cG s ≤ s.length) {nx : Nat} (Q : Exit → St → Prop)
  (hq : ∀ m, Q (.exit 0) ⟨[(0, Tx s), (2, I 0), (3, I 0), (4, I i), (5, I (eH s).1), (6, I (eH s).2)], [], [], m⟩) :
  A cf92 (.loop lb92_0) Q [(0, Tx s), (2, I 0), (3, I 0), (4, I i), (5, I 0), (6, I i)] [] nx := by
 refine lpG cf92 lb92_0 [5, 6] (α := Nat × Int) (fun p _ => [(5, I p.2), (6, I p.1)]) (fun _ _ => []) (fun p _ => p.1 ≤ s.length ∧ 0 ≤ p.2 ∧ p.2 ≤ 16777217 ∧ jZ (s.drop p.1) p.2 p.1 = eH s) (fun p => s.length - p.1) (cG s, 0) ⟨hle, by simp, by simp, rfl⟩ (by simp [hi]) (by simp) ?_
 rintro ⟨k, n⟩ m ⟨hk, h0, h1, hs⟩
 simp only at hk h0 h1 hs
 have out : (k < s.length → ¬ (48 ≤ bt8 s k ∧ bt8 s k ≤ 57)) → eH s = (n, k) := fun h => by
  rw [← hs]
  by_cases hlt : k < s.length
  ·obtain ⟨c, hc, hv⟩ := yN hlt
   rw [hc]
   unfold jZ
   have : isDg c = false := by
    unfold isDg
    have := h hlt
    rw [Bool.and_eq_false_iff, decide_eq_false_iff_not, decide_eq_false_iff_not]
    omega
   rw [this]; rfl
  ·rw [List.drop_eq_nil_of_le (by omega)]; rfl
 by_cases hlt : k < s.length
 ·have hb := bt8_b s k
  by_cases hd : 48 ≤ bt8 s k ∧ bt8 s k ≤ 57
  ·have w1 := aX (x := 10 * n) (by omega) (by omega)
   have w2 := wru8 (x := bt8 s k - 48) (by omega) (by omega)
   have w3 := aX (x := bt8 s k - 48) (by omega) (by omega)
   have w4 := aX (x := 10 * n + (bt8 s k - 48)) (by omega) (by omega)
   have w5 := aX (x := (k : Int) + 1) (by omega) (by omega)
   simp -implicitDefEqProofs [lb92_0, hlt, hd.1, hd.2, w1, w2, w3, w4, w5]
   refine aK (k + 1, min (10 * n + (bt8 s k - 48)) 16777217) ⟨hlt, by omega, by omega, ?_⟩ (by simp; omega) (by simp) (by simp)
   rw [← hs]
   obtain ⟨c, hc, hv⟩ := yN hlt
   rw [hc, jZ, if_pos, hv]
   simp [isDg]; omega
  ·have hq := hq
   rw [out (fun _ => hd)] at hq
   by_cases g1 : 48 ≤ bt8 s k
   ·have g2 : ¬ bt8 s k ≤ 57 := fun h => hd ⟨g1, h⟩
    simp -implicitDefEqProofs [lb92_0, hlt, g1, g2]
    exact hq _
   ·simp -implicitDefEqProofs [lb92_0, hlt, g1]
    exact hq _
 ·rw [out (fun h => absurd h hlt)] at hq
  simp -implicitDefEqProofs [lb92_0, hlt]
  exact hq _
theorem sC (s : List UInt8) (hl : s.length < 2 ^ 46) : Pure Tryz.prog 92 [Tx s] (.tup [I (aT s).1, I (aT s).2]) := by
 have hb := vE (s.drop (cG s)) 0 (cG s) (by decide) (by decide)
 rw [show jZ (s.drop (cG s)) 0 (cG s) = eH s from rfl] at hb
 refine fi92.pu (by simp) ?_
 cases hs : signed s
 ·have hn : ¬ (0 < s.length ∧ bt8 s 0 = 45) := fun h => by rw [y_.2 h] at hs; simp at hs
  have hi : cG s = 0 := by unfold cG; rw [hs]; rfl
  rw [hi] at hb
  by_cases h0 : 0 < s.length
  ·have h2 : ¬ bt8 s 0 = 45 := fun h => hn ⟨h0, by omega⟩
   simp -implicitDefEqProofs [ac92, h0, h2]
   refine mJ s hl 0 (by rw [hi]; rfl) (by omega) _ (fun m => ?_)
   by_cases h3 : (eH s).2 = 0
   ·simp -implicitDefEqProofs [h3, aT, hi]
   ·simp -implicitDefEqProofs [h3, aT, hi, hs]
  ·simp -implicitDefEqProofs [ac92, h0]
   refine mJ s hl 0 (by rw [hi]; rfl) (by omega) _ (fun m => ?_)
   by_cases h3 : (eH s).2 = 0
   ·simp -implicitDefEqProofs [h3, aT, hi]
   ·simp -implicitDefEqProofs [h3, aT, hi, hs]
 ·obtain ⟨h0, h2⟩ := y_.1 hs
  have hi : cG s = 1 := by unfold cG; rw [hs]; rfl
  rw [hi] at hb
  simp -implicitDefEqProofs [ac92, h0, h2]
  refine mJ s hl 1 (by rw [hi]; rfl) (by omega) _ (fun m => ?_)
  by_cases h3 : (eH s).2 = 1
  ·simp -implicitDefEqProofs [h3, aT, hi]
  ·have h4 : ¬ ((eH s).2 : Int) = 1 := by omega
   have w := aX (x := -(eH s).1) (by omega) (by omega)
   simp -implicitDefEqProofs [h3, h4, aT, hi, hs, w]
def dc (n : Nat) : UInt8 := UInt8.ofNat (48 + n % 10)
theorem dc_n (n : Nat) : (dc n).toNat = 48 + n % 10 := by
 unfold dc
 rw [UInt8.toNat_ofNat']
 exact Nat.mod_eq_of_lt (by show 48 + n % 10 < 256; omega)
def j7 : Nat → Nat → List UInt8
 | 0, n => [dc n]
 | f + 1, n => if 10 ≤ n then j7 f (n / 10) ++ [dc n] else [dc n]
def eW (n : Int) : List UInt8 := if n < 0 then 45 :: j7 8 n.natAbs else j7 8 n.natAbs
theorem nA : ∀ (f n : Nat), (j7 f n).length ≤ f + 1
 | 0, n => by simp [j7]
 | f + 1, n => by
  have := nA f (n / 10)
  unfold j7
  split
  ·simp; omega
  ·simp
theorem uX (n : Int) : (eW n).length ≤ 10 := by
 have := nA 8 n.natAbs
 unfold eW
 split
 ·simp; omega
 ·omega
theorem AU : ∀ (f n : Nat), n < 10 ^ (f + 1) → f ≤ 8 → Pure Tryz.prog 110 [I n] (Tx (j7 f n)) := by
 intro f
 induction f with
 | zero =>
  intro n hn _
  have hn : n < 10 := by simpa using hn
  refine fi110.pu (by simp) ?_
  have h0 : ¬ (n : Int) < 0 := by omega
  have h1 : ¬ (10 : Int) ≤ (n : Int) := by omega
  have w0 : ((n : Int).tmod 10) = (n : Int) % 10 := Int.tmod_eq_emod_of_nonneg (by omega)
  have w1 : IntKind.i64.wrap (48 + (n : Int) % 10) = (dc n).toNat := by rw [dc_n, aX (by omega) (by omega)]; omega
  have w2 : IntKind.u8.wrap ((dc n).toNat : Int) = (dc n).toNat := by
   have := (dc n).toNat_lt
   exact wru8 (by omega) (by omega)
  simp -implicitDefEqProofs [ac110, h0, h1, w0, w1, w2, j7]
 | succ f ih =>
  intro n hn hf
  have hp : 10 ^ (f + 1 + 1) = 10 * 10 ^ (f + 1) := by rw [Nat.pow_succ, Nat.mul_comm]
  have hd : n / 10 < 10 ^ (f + 1) := by omega
  have hc := ih (n / 10) hd (by omega)
  have hl := nA f (n / 10)
  have hadd := eG (P := Tryz.prog) (ty := 9) (l := j7 f (n / 10)) (k := [dc n]) (by simp; omega)
  refine fi110.pu (by simp) ?_
  have h0 : ¬ (n : Int) < 0 := by omega
  have w0 : ((n : Int).tmod 10) = (n : Int) % 10 := Int.tmod_eq_emod_of_nonneg (by omega)
  have w1 : IntKind.i64.wrap (48 + (n : Int) % 10) = (dc n).toNat := by rw [dc_n, aX (by omega) (by omega)]; omega
  have w2 : IntKind.u8.wrap ((dc n).toNat : Int) = (dc n).toNat := by
   have := (dc n).toNat_lt
   exact wru8 (by omega) (by omega)
  have p9 : 10 ^ (f + 1) ≤ 10 ^ 9 := Nat.pow_le_pow_right (by decide) (by omega)
  by_cases h1 : 10 ≤ n
  ·have h1' : (10 : Int) ≤ (n : Int) := by omega
   have w3 : IntKind.i64.wrap ((n : Int) / 10) = (n : Int) / 10 := aX (by omega) (by omega)
   have e : ((n / 10 : Nat) : Int) = (n : Int) / 10 := by omega
   rw [e] at hc
   simp -implicitDefEqProofs [ac110, h0, h1', w0, w1, w2, w3]
   refine aH (hc) (by simp) ?_
   simp -implicitDefEqProofs [hadd]
   simp -implicitDefEqProofs [j7, h1]
  ·have h1' : ¬ (10 : Int) ≤ (n : Int) := by omega
   simp -implicitDefEqProofs [ac110, h0, h1', w0, w1, w2, j7, h1]
theorem u9 (n : Int) (hn : n.natAbs < 10 ^ 9) : Pure Tryz.prog 110 [I n] (Tx (eW n)) := by
 have hc := AU 8 n.natAbs hn (by decide)
 unfold eW
 by_cases h : n < 0
 ·rw [if_pos h]
  have e : ((n.natAbs : Nat) : Int) = -n := by omega
  rw [e] at hc
  have w := aX (x := -n) (by omega) (by omega)
  have hl := nA 8 n.natAbs
  have hadd := eG (P := Tryz.prog) (ty := 9) (l := [45]) (k := j7 8 n.natAbs) (by simp; omega)
  refine fi110.pu (by simp) ?_
  simp -implicitDefEqProofs [ac110, h, w]
  refine aH (hc) (by simp) ?_
  simp -implicitDefEqProofs [hadd]
 ·rw [if_neg h]
  have e : ((n.natAbs : Nat) : Int) = n := by omega
  rw [e] at hc
  exact hc
def rH (re im : Int) : List UInt8 := if im = 0 then eW re else if re = 0 then eW im ++ [105] else if 0 < im then ((eW re ++ [43]) ++ eW im) ++ [105] else (eW re ++ eW im) ++ [105]
theorem rU (re im : Int) (h1 : re.natAbs < 10 ^ 9) (h2 : im.natAbs < 10 ^ 9) : Pure Tryz.prog 94 [.agg [I re, I im]] (Tx (rH re im)) := by
 have c1 := u9 re h1
 have c2 := u9 im h2
 have l1 := uX re
 have l2 := uX im
 refine fi94.pu (by simp) ?_
 unfold rH
 by_cases a : im = 0
 ·simp -implicitDefEqProofs [ac94, a]
  refine aH (c1) (by simp) ?_
  simp -implicitDefEqProofs
 ·by_cases b : re = 0
  ·have hadd := eG (P := Tryz.prog) (ty := 9) (l := eW im) (k := [105]) (by simp; omega)
   simp -implicitDefEqProofs [ac94, a, b]
   refine aH (c2) (by simp) ?_
   simp -implicitDefEqProofs [hadd]
  ·by_cases c : 0 < im
   ·have a1 := eG (P := Tryz.prog) (ty := 9) (l := eW re) (k := [43]) (by simp; omega)
    have a2 := eG (P := Tryz.prog) (ty := 9) (l := eW re ++ [43]) (k := eW im) (by simp; omega)
    have a3 := eG (P := Tryz.prog) (ty := 9) (l := eW re ++ 43 :: eW im) (k := [105]) (by simp; omega)
    rw [if_neg a, if_neg b, if_pos c]
    simp -implicitDefEqProofs [ac94, a, b, c]
    refine aH (c1) (by simp) ?_
    simp -implicitDefEqProofs [a1]
    refine aH (c2) (by simp) ?_
    simp -implicitDefEqProofs [a2, a3]
   ·have a2 := eG (P := Tryz.prog) (ty := 9) (l := eW re) (k := eW im) (by simp; omega)
    have a3 := eG (P := Tryz.prog) (ty := 9) (l := (eW re) ++ eW im) (k := [105]) (by simp; omega)
    rw [if_neg a, if_neg b, if_neg c]
    simp -implicitDefEqProofs [ac94, a, b, c]
    refine aH (c1) (by simp) ?_
    simp -implicitDefEqProofs
    refine aH (c2) (by simp) ?_
    simp -implicitDefEqProofs [a2, a3]
def inB (n m : Int) : Bool := (decide (-16777216 ≤ n) && decide (n ≤ 16777216)) && (decide (-16777216 ≤ m) && decide (m ≤ 16777216))
theorem uW (n m : Int) : Pure Tryz.prog 93 [.agg [I n, I m]] (if inB n m = true then .tup [.agg [I n, I m], I 0] else .tup [.agg [I 0, I 0], I 50]) := by
 refine fi93.pu (by simp) ?_
 unfold inB
 by_cases a : -16777216 ≤ n <;> by_cases b : n ≤ 16777216 <;> by_cases c : -16777216 ≤ m <;> by_cases d : m ≤ 16777216 <;> simp -implicitDefEqProofs [ac93, a, b, c, d] <;> (first | omega | skip)
def bO (s : List UInt8) : List UInt8 := s.drop (aT s).2
def fR (s : List UInt8) : Int × Int :=
 if bO s = [105] then (0, (aT s).1) else if bO s = [] then ((aT s).1, 0) else
 if bt8 (bO s) 0 = 43 then ((aT s).1, (aT ((bO s).tail)).1) else ((aT s).1, (aT (bO s)).1)
def jK (s : List UInt8) : Bool := decide (¬ (aT s).2 = 0) && (inB (fR s).1 (fR s).2 && decide (rH (fR s).1 (fR s).2 = s))
def fM (s : List UInt8) : Int × Int := if jK s then fR s else (0, 0)
theorem nB (s : List UInt8) : -16777217 ≤ (aT s).1 ∧ (aT s).1 ≤ 16777217 ∧ (aT s).2 ≤ cG s + (s.drop (cG s)).length := by
 have hb := vE (s.drop (cG s)) 0 (cG s) (by decide) (by decide)
 rw [show jZ (s.drop (cG s)) 0 (cG s) = eH s from rfl] at hb
 unfold aT
 split
 ·simp
 ·split
  ·simp only; omega
  ·simp only; omega
theorem B4 (s : List UInt8) : (aT s).2 ≤ s.length := by
 have h := (nB s).2.2
 have hi : cG s ≤ s.length ∨ cG s = 1 ∧ s = [] := by
  unfold cG
  split
  ·cases s with
   | nil => exact .inr ⟨rfl, rfl⟩
   | cons c r => left; simp
  ·left; omega
 rcases hi with hi | ⟨hi, rfl⟩
 ·simp only [List.length_drop] at h; omega
 ·simp [cG, signed] at hi
theorem FR (s : List UInt8) (hl : s.length < 2 ^ 46) : Pure Tryz.prog 66 [Tx s] (.tup [.agg [I (fM s).1, I (fM s).2], I (if jK s then 0 else 10)]) := by
 have c1 := sC s hl
 have hle := B4 s
 have hb1 := nB s
 refine fi66.pu (by simp) ?_
 by_cases h0 : (aT s).2 = 0
 ·have hk : jK s = false := by simp [jK, h0]
  rw [h0] at c1
  unfold fM
  rw [hk]
  simp -implicitDefEqProofs [ac66]
  refine aH (c1) (by simp) ?_
  simp -implicitDefEqProofs
 ·have h0' : ¬ ((aT s).2 : Int) = 0 := by omega
  have hk : jK s = (inB (fR s).1 (fR s).2 && decide (rH (fR s).1 (fR s).2 = s)) := by simp [jK, h0]
  have fin : ∀ n : Int × Int, fR s = n → (n.1.natAbs ≤ 16777217 ∧ n.2.natAbs ≤ 16777217) → ∃ q : Bool, jK s = (inB n.1 n.2 && q) ∧ fM s = (if inB n.1 n.2 && q then n else (0, 0)) ∧ decide (rH n.1 n.2 = s) = q := fun n hn _ => by
   refine ⟨_, ?_, ?_, rfl⟩
   ·rw [hk, hn]
   ·unfold fM; rw [hk, hn]
  have hrl : (bO s).length < 2 ^ 46 := by unfold bO; simp only [List.length_drop]; omega
  have hrest : s.drop (aT s).2 = bO s := rfl
  have hW1 := hb1.1
  have hW2 := hb1.2.1
  have hle' : ((aT s).2 : Int) ≤ s.length := by omega
  simp -implicitDefEqProofs [ac66]
  refine aH (c1) (by simp) ?_
  simp -implicitDefEqProofs [h0, h0', hle', hrest]
  by_cases r1 : bO s = [105]
  ·have hn : fR s = (0, (aT s).1) := by unfold fR; rw [if_pos r1]
   simp -implicitDefEqProofs [r1]
   obtain ⟨q, e1, e2, e3⟩ := fin (0, (aT s).1) hn ⟨by simp only; omega, by simp only; omega⟩
   simp only at e1 e2 e3
   have t1 := uW (0) ((aT s).1)
   have t2 := rU (0) ((aT s).1) (by omega) (by omega)
   rw [e2, e1]
   cases hB : inB (0) ((aT s).1)
   ·rw [hB] at t1
    refine aH (t1) (by simp) ?_
    simp -implicitDefEqProofs
   ·rw [hB] at t1
    refine aH (t1) (by simp) ?_
    simp -implicitDefEqProofs
    refine aH (t2) (by simp) ?_
    simp -implicitDefEqProofs [e3]
    cases q <;> simp -implicitDefEqProofs
  ·by_cases r2 : bO s = []
   ·have hn : fR s = ((aT s).1, 0) := by unfold fR; rw [if_neg r1, if_pos r2]
    simp -implicitDefEqProofs [r2]
    obtain ⟨q, e1, e2, e3⟩ := fin ((aT s).1, 0) hn ⟨by simp only; omega, by simp only; omega⟩
    simp only at e1 e2 e3
    have t1 := uW ((aT s).1) (0)
    have t2 := rU ((aT s).1) (0) (by omega) (by omega)
    rw [e2, e1]
    cases hB : inB ((aT s).1) (0)
    ·rw [hB] at t1
     refine aH (t1) (by simp) ?_
     simp -implicitDefEqProofs
    ·rw [hB] at t1
     refine aH (t1) (by simp) ?_
     simp -implicitDefEqProofs
     refine aH (t2) (by simp) ?_
     simp -implicitDefEqProofs [e3]
     cases q <;> simp -implicitDefEqProofs
   ·have hpos : 0 < (bO s).length := List.length_pos_iff.2 r2
    by_cases r3 : bt8 (bO s) 0 = 43
    ·have hn : fR s = ((aT s).1, (aT ((bO s).tail)).1) := by unfold fR; rw [if_neg r1, if_neg r2, if_pos r3]
     have c2 := sC ((bO s).tail) (by simp only [List.length_tail]; omega)
     have hb2 := nB ((bO s).tail)
     have hge : (1 : Int) ≤ (bO s).length := by omega
     simp -implicitDefEqProofs [r1, r2, hpos, r3, hge]
     refine aH (c2) (by simp) ?_
     simp -implicitDefEqProofs
     obtain ⟨q, e1, e2, e3⟩ := fin ((aT s).1, (aT ((bO s).tail)).1) hn ⟨by simp only; omega, by simp only; omega⟩
     simp only at e1 e2 e3
     have t1 := uW ((aT s).1) ((aT ((bO s).tail)).1)
     have t2 := rU ((aT s).1) ((aT ((bO s).tail)).1) (by omega) (by omega)
     rw [e2, e1]
     cases hB : inB ((aT s).1) ((aT ((bO s).tail)).1)
     ·rw [hB] at t1
      refine aH (t1) (by simp) ?_
      simp -implicitDefEqProofs
     ·rw [hB] at t1
      refine aH (t1) (by simp) ?_
      simp -implicitDefEqProofs
      refine aH (t2) (by simp) ?_
      simp -implicitDefEqProofs [e3]
      cases q <;> simp -implicitDefEqProofs
    ·have hn : fR s = ((aT s).1, (aT (bO s)).1) := by unfold fR; rw [if_neg r1, if_neg r2, if_neg r3]
     have c2 := sC (bO s) hrl
     have hb2 := nB (bO s)
     simp -implicitDefEqProofs [r1, r2, hpos, r3]
     refine aH (c2) (by simp) ?_
     simp -implicitDefEqProofs
     obtain ⟨q, e1, e2, e3⟩ := fin ((aT s).1, (aT (bO s)).1) hn ⟨by simp only; omega, by simp only; omega⟩
     simp only at e1 e2 e3
     have t1 := uW ((aT s).1) ((aT (bO s)).1)
     have t2 := rU ((aT s).1) ((aT (bO s)).1) (by omega) (by omega)
     rw [e2, e1]
     cases hB : inB ((aT s).1) ((aT (bO s)).1)
     ·rw [hB] at t1
      refine aH (t1) (by simp) ?_
      simp -implicitDefEqProofs
     ·rw [hB] at t1
      refine aH (t1) (by simp) ?_
      simp -implicitDefEqProofs
      refine aH (t2) (by simp) ?_
      simp -implicitDefEqProofs [e3]
      cases q <;> simp -implicitDefEqProofs
structure Cx where
 re : Nat
 im : Nat
deriving Inhabited, DecidableEq
def Cx.lt (z : Cx) : Prop := z.re < 2 ^ 64 ∧ z.im < 2 ^ 64
def Cx.ok (z : Cx) : Bool := C8 z.re && C8 z.im
structure Mk where
 kind : Int
 text : List UInt8
 num : Cx
 at' : Int
instance : Inhabited Mk := ⟨⟨0, [], ⟨0, 0⟩, 0⟩⟩
def aB (m : Mk) : List D := [I m.kind, Tx m.text, CX m.num.re m.num.im, I m.at']
theorem ia_Mk {l : List Mk} {mem : Mem} {j : IntKind} {i : Int} : iaD mem 4 (.sl (em aB l)) (.pl (.int j i)) = if 0 ≤ i ∧ i < l.length then some (.pt [I (l[i.toNat]?.getD default).kind, Tx (l[i.toNat]?.getD default).text, CX (l[i.toNat]?.getD default).num.re (l[i.toNat]?.getD default).num.im, I (l[i.toNat]?.getD default).at']) else none := lS fun _ => rfl
theorem imm_Mk (l : List Mk) : D.immss (em aB l) = true := jR fun _ => rfl
theorem A4 (l : List Mk) (m : Mk) : em aB l ++ [[I m.kind, Tx m.text, CX m.num.re m.num.im, I m.at']] = em aB (l ++ [m]) := fL
attribute [simp] ia_Mk imm_Mk
def ltrI (v : Int) : Bool := (decide (65 ≤ v) && decide (v ≤ 90)) || (decide (97 ≤ v) && decide (v ≤ 122))
def dgI (v : Int) : Bool := decide (48 ≤ v) && decide (v ≤ 57)
def idI (v : Int) : Bool := ltrI v || (dgI v || decide (v = 95))
def kJ (v : Int) : Bool := decide (v = 9) || (decide (v = 10) || (decide (v = 13) || decide (v = 32)))
theorem DZ (v : Int) : Pure Tryz.prog 91 [By v] (B (ltrI v)) := by
 refine fi91.pu (by simp) ?_
 unfold ltrI
 by_cases a : 65 ≤ v <;> by_cases b : v ≤ 90 <;> by_cases c : 97 ≤ v <;> by_cases d : v ≤ 122 <;> simp -implicitDefEqProofs [ac91, a, b, c, d]
theorem zG (v : Int) : Pure Tryz.prog 65 [By v] (B (dgI v)) := by
 refine fi65.pu (by simp) ?_
 unfold dgI
 by_cases a : 48 ≤ v <;> by_cases b : v ≤ 57 <;> simp -implicitDefEqProofs [ac65, a, b]
theorem F6 (v : Int) : Pure Tryz.prog 56 [By v] (B (kJ v)) := by
 refine fi56.pu (by simp) ?_
 unfold kJ
 by_cases a : v = 9 <;> by_cases b : v = 10 <;> by_cases c : v = 13 <;> by_cases d : v = 32 <;> simp -implicitDefEqProofs [ac56, a, b, c, d]
def wordsL : List (List UInt8) := [[66], [76], [78], [99, 97, 115, 101], [99, 111, 110, 106], [101, 108, 115, 101], [102, 97, 105, 108], [102, 97, 108, 115, 101], [105, 102], [105, 109], [105, 110], [108, 101, 116], [110, 105, 108], [110, 111, 116], [111, 102], [114, 101], [115, 116, 114, 105, 99, 116], [116, 104, 101, 110], [116, 114, 117, 101]]
theorem D8 : Pure Tryz.prog 95 [] (.sl (em aI wordsL)) := by
 refine fi95.pu (by simp) ?_
 simp -implicitDefEqProofs [ac95]
 rfl
def resv (s : List UInt8) : Bool := wordsL.any fun w => decide (w = s)
theorem z_ (s : List UInt8) : Pure Tryz.prog 68 [Tx s] (B (resv s)) := by
 refine fi68.pu (by simp) ?_
 unfold resv
 generalize hW : wordsL = W
 generalize hr : (W.any fun w => decide (w = s)) = r
 have hl : W.length = 19 := by rw [← hW]; rfl
 have hc := D8
 rw [hW] at hc
 simp -implicitDefEqProofs [ac68]
 refine aH (hc) (by simp) ?_
 simp -implicitDefEqProofs
 refine lpG cf68 lb68_0 [2, 4] (α := Nat) (fun i _ => [(4, I i)]) (fun _ _ => []) (fun i _ => i ≤ W.length ∧ r = (W.drop i).any (fun w => decide (w = s))) (fun i => W.length - i) 0 ⟨by omega, by rw [← hr]; rfl⟩ (by simp) (by simp) ?_
 rintro i m ⟨hi, he⟩
 simp -implicitDefEqProofs [lb68_0]
 refine ⟨fun hlt => ⟨hlt, ?_⟩, fun hge => ?_⟩
 ·have hg : W[i]?.getD default = W[i] := by rw [List.getElem?_eq_getElem hlt]; rfl
  have hd : W.drop i = W[i] :: W.drop (i + 1) := List.drop_eq_getElem_cons hlt
  rw [hd] at he
  have w1 := aX (x := (i : Int) + 1) (by omega) (by omega)
  by_cases h : W[i] = s
  ·have : r = true := by rw [he]; simp [h]
   subst this
   simp -implicitDefEqProofs [hg, h]
  ·simp -implicitDefEqProofs [hg, h, w1]
   exact aK (i + 1) ⟨hlt, by rw [he, List.any_cons, decide_eq_false h]; rfl⟩ (by omega) (by simp) (by simp)
 ·rw [List.drop_eq_nil_of_le hge] at he
  subst he
  simp -implicitDefEqProofs
def p_ : Nat → List UInt8 → Nat → Nat → Nat
 | 0, _, _, n => n
 | f + 1, t, p, n => if decide (p + n < t.length) && idI (bt8 t (p + n)) then p_ f t p (n + 1) else n
def runL (t : List UInt8) (p : Nat) : Nat := p_ (t.length - p) t p 0
theorem yP : ∀ (f : Nat) (t : List UInt8) (p n : Nat), p + n ≤ t.length → n ≤ p_ f t p n ∧ p + p_ f t p n ≤ t.length
 | 0, t, p, n, h => ⟨Nat.le_refl _, h⟩
 | f + 1, t, p, n, h => by
  unfold p_
  split
  ·rename_i hc
   simp only [Bool.and_eq_true, decide_eq_true_eq] at hc
   have := yP f t p (n + 1) (by omega)
   omega
  ·exact ⟨Nat.le_refl _, h⟩
theorem run_c (t : List UInt8) (p : Nat) (hl : t.length < 2 ^ 46) (hp : p ≤ t.length) : Pure Tryz.prog 64 [.sl (em dB t), I p] (I (runL t p)) := by
 refine fi64.pu (by simp) ?_
 simp -implicitDefEqProofs [ac64]
 refine lpG cf64 lb64_0 [5] (α := Nat) (fun n _ => [(5, I n)]) (fun _ _ => []) (fun n _ => p + n ≤ t.length ∧ p_ (t.length - p - n) t p n = runL t p) (fun n => t.length - p - n) 0 ⟨by omega, by simp [runL]⟩ (by simp) (by simp) ?_
 rintro n m ⟨hn, he⟩
 have w1 := aX (x := (p : Int) + (n : Int)) (by omega) (by omega)
 have w2 := aX (x := (n : Int) + 1) (by omega) (by omega)
 have tn : ((p : Int) + (n : Int)).toNat = p + n := by omega
 have c1 := DZ (bt8 t (p + n))
 have c2 := zG (bt8 t (p + n))
 by_cases h : p + n < t.length
 ·have h' : (p : Int) + (n : Int) < t.length := by omega
  have h0 : (0 : Int) ≤ (p : Int) + (n : Int) := by omega
  obtain ⟨f, hf⟩ : ∃ f, t.length - p - n = f + 1 := ⟨t.length - p - n - 1, by omega⟩
  have hf2 : t.length - p - (n + 1) = f := by omega
  rw [hf] at he
  unfold p_ at he
  rw [decide_eq_true h, Bool.true_and] at he
  unfold idI at he
  cases a : ltrI (bt8 t (p + n)) <;> rw [a] at c1 he
  ·cases b : dgI (bt8 t (p + n)) <;> rw [b] at c2 he
   ·by_cases c : bt8 t (p + n) = 95
    ·simp -implicitDefEqProofs [lb64_0, w1, h', h0, tn]
     refine aH (c1) (by simp) ?_
     simp -implicitDefEqProofs [w1, h', h0, tn]
     refine aH (c2) (by simp) ?_
     simp -implicitDefEqProofs [w1, h', h0, tn, c, w2]
     refine aK (n + 1) ⟨by omega, ?_⟩ (by omega) (by simp) (by simp)
     rw [hf2]; simpa [c] using he
    ·have : n = runL t p := by simpa [c] using he
     rw [← this]
     simp -implicitDefEqProofs [lb64_0, w1, h', h0, tn]
     refine aH (c1) (by simp) ?_
     simp -implicitDefEqProofs [w1, h', h0, tn]
     refine aH (c2) (by simp) ?_
     simp -implicitDefEqProofs [w1, h', h0, tn, c, w2]
   ·simp -implicitDefEqProofs [lb64_0, w1, h', h0, tn]
    refine aH (c1) (by simp) ?_
    simp -implicitDefEqProofs [w1, h', h0, tn]
    refine aH (c2) (by simp) ?_
    simp -implicitDefEqProofs [w2]
    refine aK (n + 1) ⟨by omega, ?_⟩ (by omega) (by simp) (by simp)
    rw [hf2]; simpa using he
  ·simp -implicitDefEqProofs [lb64_0, w1, h', h0, tn]
   refine aH (c1) (by simp) ?_
   simp -implicitDefEqProofs [w2]
   refine aK (n + 1) ⟨by omega, ?_⟩ (by omega) (by simp) (by simp)
   rw [hf2]; simpa using he
 ·have h' : ¬ (p : Int) + (n : Int) < t.length := by omega
  have e0 : t.length - p - n = 0 := by omega
  rw [e0] at he
  have : n = runL t p := he
  rw [← this]
  simp -implicitDefEqProofs [lb64_0, w1, h']
def bC (v : Int) : Nat := if (decide (v = 40) || decide (v = 41) || decide (v = 44) || decide (v = 58) || decide (v = 59) || decide (v = 61) || decide (v = 43) || decide (v = 45) || decide (v = 42) || decide (v = 47) || decide (v = 60) || decide (v = 124)) then 1 else 0
def jM (t : List UInt8) (p : Nat) : Nat :=
 if decide (p + 1 < t.length) && ((decide (bt8 t p = 45) && decide (bt8 t (p + 1) = 62)) || (decide (bt8 t p = 61) && decide (bt8 t (p + 1) = 61))) then 2 else bC (bt8 t p)
theorem sign_c (t : List UInt8) (p : Nat) (hl : t.length < 2 ^ 46) (hp : p < t.length) : Pure Tryz.prog 69 [.sl (em dB t), I p] (I (jM t p)) := by
 refine fi69.pu (by simp) ?_
 have w1 := aX (x := (p : Int) + 1) (by omega) (by omega)
 have tn : ((p : Int) + 1).toNat = p + 1 := by omega
 have h0 : (0 : Int) ≤ (p : Int) + 1 := by omega
 have hpi : (p : Int) < t.length := by omega
 unfold jM
 generalize hu : bt8 t (p + 1) = u at *
 generalize hv : bt8 t p = v at *
 by_cases hp1 : p + 1 < t.length
 ·have hp2 : (p : Int) + 1 < t.length := by omega
  by_cases a : v = 45
  ·by_cases b : u = 62
   ·rw [if_pos (by simp [hp1, a, b])]
    simp -implicitDefEqProofs [ac69, w1, tn, h0, hp, hp2, hu, hv, a, b]
   ·rw [if_neg (by simp [hp1, a, b])]
    have e : bC v = 1 := by unfold bC; rw [a]; rfl
    rw [e]
    simp -implicitDefEqProofs [ac69, w1, tn, h0, hp, hp2, hu, hv, a, b]
  ·by_cases c : v = 61
   ·by_cases b : u = 61
    ·rw [if_pos (by simp [hp1, c, b])]
     simp -implicitDefEqProofs [ac69, w1, tn, h0, hp, hp2, hu, hv, a, c, b]
    ·rw [if_neg (by simp [hp1, c, b])]
     have e : bC v = 1 := by unfold bC; rw [c]; rfl
     rw [e]
     simp -implicitDefEqProofs [ac69, w1, tn, h0, hp, hp2, hu, hv, a, c, b]
   ·rw [if_neg (by simp [a, c])]
    by_cases h40 : v = 40
    ·have e : bC v = 1 := by unfold bC; rw [h40]; rfl
     rw [e]
     simp -implicitDefEqProofs [ac69, w1, tn, h0, hp, hp2, hu, hv, a, c, h40]
    ·
     by_cases h41 : v = 41
     ·have e : bC v = 1 := by unfold bC; rw [h41]; rfl
      rw [e]
      simp -implicitDefEqProofs [ac69, w1, tn, h0, hp, hp2, hu, hv, a, c, h40, h41]
     ·
      by_cases h44 : v = 44
      ·have e : bC v = 1 := by unfold bC; rw [h44]; rfl
       rw [e]
       simp -implicitDefEqProofs [ac69, w1, tn, h0, hp, hp2, hu, hv, a, c, h40, h41, h44]
      ·
       by_cases h58 : v = 58
       ·have e : bC v = 1 := by unfold bC; rw [h58]; rfl
        rw [e]
        simp -implicitDefEqProofs [ac69, w1, tn, h0, hp, hp2, hu, hv, a, c, h40, h41, h44, h58]
       ·
        by_cases h59 : v = 59
        ·have e : bC v = 1 := by unfold bC; rw [h59]; rfl
         rw [e]
         simp -implicitDefEqProofs [ac69, w1, tn, h0, hp, hp2, hu, hv, a, c, h40, h41, h44, h58, h59]
        ·
         have h61 : ¬ v = 61 := c
         by_cases h43 : v = 43
         ·have e : bC v = 1 := by unfold bC; rw [h43]; rfl
          rw [e]
          simp -implicitDefEqProofs [ac69, w1, tn, h0, hp, hp2, hu, hv, a, c, h40, h41, h44, h58, h59, h61, h43]
         ·
          have h45 : ¬ v = 45 := a
          by_cases h42 : v = 42
          ·have e : bC v = 1 := by unfold bC; rw [h42]; rfl
           rw [e]
           simp -implicitDefEqProofs [ac69, w1, tn, h0, hp, hp2, hu, hv, a, c, h40, h41, h44, h58, h59, h61, h43, h45, h42]
          ·
           by_cases h47 : v = 47
           ·have e : bC v = 1 := by unfold bC; rw [h47]; rfl
            rw [e]
            simp -implicitDefEqProofs [ac69, w1, tn, h0, hp, hp2, hu, hv, a, c, h40, h41, h44, h58, h59, h61, h43, h45, h42, h47]
           ·
            by_cases h60 : v = 60
            ·have e : bC v = 1 := by unfold bC; rw [h60]; rfl
             rw [e]
             simp -implicitDefEqProofs [ac69, w1, tn, h0, hp, hp2, hu, hv, a, c, h40, h41, h44, h58, h59, h61, h43, h45, h42, h47, h60]
            ·
             by_cases h124 : v = 124
             ·have e : bC v = 1 := by unfold bC; rw [h124]; rfl
              rw [e]
              simp -implicitDefEqProofs [ac69, w1, tn, h0, hp, hp2, hu, hv, a, c, h40, h41, h44, h58, h59, h61, h43, h45, h42, h47, h60, h124]
             ·
              have e : bC v = 0 := by unfold bC; simp only [h40, decide_false, Bool.or_self, h41, decide_false, Bool.or_self, h44, decide_false, Bool.or_self, h58, decide_false, Bool.or_self, h59, decide_false, Bool.or_self, h61, decide_false, Bool.or_self, h43, decide_false, Bool.or_self, h45, decide_false, Bool.or_self, h42, decide_false, Bool.or_self, h47, decide_false, Bool.or_self, h60, decide_false, Bool.or_self, h124, decide_false, Bool.or_self]; rfl
              rw [e]
              simp -implicitDefEqProofs [ac69, w1, tn, h0, hp, hp2, hu, hv, a, c, h40, h41, h44, h58, h59, h61, h43, h45, h42, h47, h60, h124]
 ·have hp2 : ¬ (p : Int) + 1 < t.length := by omega
  rw [if_neg (by simp [hp1])]
  by_cases h40 : v = 40
  ·have e : bC v = 1 := by unfold bC; rw [h40]; rfl
   rw [e]
   simp -implicitDefEqProofs [ac69, w1, tn, h0, hp, hp2, hu, hv, h40]
  ·
   by_cases h41 : v = 41
   ·have e : bC v = 1 := by unfold bC; rw [h41]; rfl
    rw [e]
    simp -implicitDefEqProofs [ac69, w1, tn, h0, hp, hp2, hu, hv, h40, h41]
   ·
    by_cases h44 : v = 44
    ·have e : bC v = 1 := by unfold bC; rw [h44]; rfl
     rw [e]
     simp -implicitDefEqProofs [ac69, w1, tn, h0, hp, hp2, hu, hv, h40, h41, h44]
    ·
     by_cases h58 : v = 58
     ·have e : bC v = 1 := by unfold bC; rw [h58]; rfl
      rw [e]
      simp -implicitDefEqProofs [ac69, w1, tn, h0, hp, hp2, hu, hv, h40, h41, h44, h58]
     ·
      by_cases h59 : v = 59
      ·have e : bC v = 1 := by unfold bC; rw [h59]; rfl
       rw [e]
       simp -implicitDefEqProofs [ac69, w1, tn, h0, hp, hp2, hu, hv, h40, h41, h44, h58, h59]
      ·
       by_cases h61 : v = 61
       ·have e : bC v = 1 := by unfold bC; rw [h61]; rfl
        rw [e]
        simp -implicitDefEqProofs [ac69, w1, tn, h0, hp, hp2, hu, hv, h40, h41, h44, h58, h59, h61]
       ·
        by_cases h43 : v = 43
        ·have e : bC v = 1 := by unfold bC; rw [h43]; rfl
         rw [e]
         simp -implicitDefEqProofs [ac69, w1, tn, h0, hp, hp2, hu, hv, h40, h41, h44, h58, h59, h61, h43]
        ·
         by_cases h45 : v = 45
         ·have e : bC v = 1 := by unfold bC; rw [h45]; rfl
          rw [e]
          simp -implicitDefEqProofs [ac69, w1, tn, h0, hp, hp2, hu, hv, h40, h41, h44, h58, h59, h61, h43, h45]
         ·
          by_cases h42 : v = 42
          ·have e : bC v = 1 := by unfold bC; rw [h42]; rfl
           rw [e]
           simp -implicitDefEqProofs [ac69, w1, tn, h0, hp, hp2, hu, hv, h40, h41, h44, h58, h59, h61, h43, h45, h42]
          ·
           by_cases h47 : v = 47
           ·have e : bC v = 1 := by unfold bC; rw [h47]; rfl
            rw [e]
            simp -implicitDefEqProofs [ac69, w1, tn, h0, hp, hp2, hu, hv, h40, h41, h44, h58, h59, h61, h43, h45, h42, h47]
           ·
            by_cases h60 : v = 60
            ·have e : bC v = 1 := by unfold bC; rw [h60]; rfl
             rw [e]
             simp -implicitDefEqProofs [ac69, w1, tn, h0, hp, hp2, hu, hv, h40, h41, h44, h58, h59, h61, h43, h45, h42, h47, h60]
            ·
             by_cases h124 : v = 124
             ·have e : bC v = 1 := by unfold bC; rw [h124]; rfl
              rw [e]
              simp -implicitDefEqProofs [ac69, w1, tn, h0, hp, hp2, hu, hv, h40, h41, h44, h58, h59, h61, h43, h45, h42, h47, h60, h124]
             ·
              have e : bC v = 0 := by unfold bC; simp only [h40, decide_false, Bool.or_self, h41, decide_false, Bool.or_self, h44, decide_false, Bool.or_self, h58, decide_false, Bool.or_self, h59, decide_false, Bool.or_self, h61, decide_false, Bool.or_self, h43, decide_false, Bool.or_self, h45, decide_false, Bool.or_self, h42, decide_false, Bool.or_self, h47, decide_false, Bool.or_self, h60, decide_false, Bool.or_self, h124, decide_false, Bool.or_self]; rfl
              rw [e]
              simp -implicitDefEqProofs [ac69, w1, tn, h0, hp, hp2, hu, hv, h40, h41, h44, h58, h59, h61, h43, h45, h42, h47, h60, h124]
def zf (n : Int) : Nat := FloatKind.f64.nearest n
theorem cvZ {n : Int} : cvD Tryz.prog 3 141 (I n) = some (FL (zf n)) := GJ Tryz.underlying3 Tryz.underlying141
theorem Z7_c (a b : Int) : Pure Tryz.prog 67 [.agg [I a, I b]] (CX (zf a) (zf b)) := by
 refine fi67.pu (by simp) ?_
 simp -implicitDefEqProofs [ac67, cvZ]
def seg (t : List UInt8) (p n : Nat) : List UInt8 := (t.take (p + n)).drop p
theorem sS {t : List UInt8} {p n : Nat} (h : p + n ≤ t.length) : (seg t p n).length = n := by
 unfold seg; simp; omega
def eI (t : List UInt8) (p : Nat) : Mk × Bool :=
 if decide (0 < runL t p) && dgI (bt8 t p) then (⟨2, seg t p (runL t p), ⟨zf (fM (seg t p (runL t p))).1, zf (fM (seg t p (runL t p))).2⟩, p⟩, jK (seg t p (runL t p)))
 else if decide (0 < runL t p) && decide (bt8 t p = 95) then (⟨0, seg t p (runL t p), ⟨0, 0⟩, p⟩, false)
 else if decide (0 < runL t p) then (⟨if resv (seg t p (runL t p)) then 1 else 0, seg t p (runL t p), ⟨0, 0⟩, p⟩, true)
 else (⟨3, seg t p (jM t p), ⟨0, 0⟩, p⟩, decide (0 < jM t p))
theorem zE {t : List UInt8} {p : Nat} (h : p ≤ t.length) : p + runL t p ≤ t.length := (yP _ t p 0 (by omega)).2
theorem GK (v : Int) : bC v ≤ 1 := by unfold bC; split <;> omega
theorem u0 {t : List UInt8} {p : Nat} (h : p < t.length) : p + jM t p ≤ t.length := by
 unfold jM
 have := GK (bt8 t p)
 split
 ·rename_i hc
  simp only [Bool.and_eq_true, decide_eq_true_eq] at hc
  omega
 ·omega
theorem one_c (t : List UInt8) (p : Nat) (hl : t.length < 2 ^ 46) (hp : p < t.length) : Pure Tryz.prog 57 [.sl (em dB t), I p] (.tup [.agg (aB (eI t p).1), B (eI t p).2]) := by
 have hr := run_c t p hl (by omega)
 have hs := sign_c t p hl hp
 have hrl := zE (Nat.le_of_lt hp)
 have hsl := u0 hp
 have hg := sS hrl
 have hdg := zG (bt8 t p)
 have hpn := FR (seg t p (runL t p)) (by omega)
 have hrv := z_ (seg t p (runL t p))
 have e1 : List.drop p (List.take (p + runL t p) t) = seg t p (runL t p) := rfl
 have e2 : List.drop p (List.take (p + jM t p) t) = seg t p (jM t p) := rfl
 unfold eI
 generalize seg t p (runL t p) = s at *
 generalize seg t p (jM t p) = s2 at *
 generalize runL t p = n at *
 generalize jM t p = n2 at *
 have w1 := aX (x := (p : Int) + (n : Int)) (by omega) (by omega)
 have w2 := aX (x := (p : Int) + (n2 : Int)) (by omega) (by omega)
 have tn1 : ((p : Int) + (n : Int)).toNat = p + n := by omega
 have tn2 : ((p : Int) + (n2 : Int)).toNat = p + n2 := by omega
 have hpi : (p : Int) < t.length := by omega
 have b1 : (p : Int) ≤ (p : Int) + (n : Int) := by omega
 have b2 : (p : Int) + (n : Int) ≤ t.length := by omega
 have b3 : (p : Int) ≤ (p : Int) + (n2 : Int) := by omega
 have b4 : (p : Int) + (n2 : Int) ≤ t.length := by omega
 refine fi57.pu (by simp) ?_
 by_cases h0 : 0 < n
 ·cases hd : dgI (bt8 t p) <;> rw [hd] at hdg
  ·by_cases h1 : bt8 t p = 95
   ·rw [if_neg (by simp), if_pos (by simp [h0, h1])]
    simp -implicitDefEqProofs [ac57]
    refine aH (hr) (by simp) ?_
    simp -implicitDefEqProofs [w1, tn1, b1, b2, e1, h0, hp]
    refine aH (hdg) (by simp) ?_
    simp -implicitDefEqProofs [h0, hp, h1]
    rfl
   ·rw [if_neg (by simp), if_neg (by simp [h1]), if_pos (by simp [h0])]
    simp -implicitDefEqProofs [ac57]
    refine aH (hr) (by simp) ?_
    simp -implicitDefEqProofs [w1, tn1, b1, b2, e1, h0, hp]
    refine aH (hdg) (by simp) ?_
    simp -implicitDefEqProofs [h0, hp, h1]
    cases hv : resv s <;> rw [hv] at hrv
    ·refine aH (hrv) (by simp) ?_
     simp -implicitDefEqProofs
     rfl
    ·refine aH (hrv) (by simp) ?_
     simp -implicitDefEqProofs
     rfl
  ·rw [if_pos (by simp [h0])]
   have hz := Z7_c (fM s).1 (fM s).2
   simp -implicitDefEqProofs [ac57]
   refine aH (hr) (by simp) ?_
   simp -implicitDefEqProofs [w1, tn1, b1, b2, e1, h0, hp]
   refine aH (hdg) (by simp) ?_
   simp -implicitDefEqProofs
   cases ho : jK s <;> rw [ho] at hpn
   ·refine aH (hpn) (by simp) ?_
    simp -implicitDefEqProofs
    refine aH (hz) (by simp) ?_
    simp -implicitDefEqProofs
    rfl
   ·refine aH (hpn) (by simp) ?_
    simp -implicitDefEqProofs
    refine aH (hz) (by simp) ?_
    simp -implicitDefEqProofs
    rfl
 ·rw [if_neg (by simp [h0]), if_neg (by simp [h0]), if_neg (by simp [h0])]
  simp -implicitDefEqProofs [ac57]
  refine aH (hr) (by simp) ?_
  simp -implicitDefEqProofs [w1, tn1, b1, b2, e1, h0]
  refine aH (hs) (by simp) ?_
  simp -implicitDefEqProofs [w2, tn2, b3, b4, e2]
  rfl
def eK : Nat → List UInt8 → Nat → Nat
 | 0, _, p => p
 | f + 1, t, p => if decide (p < t.length) && !decide (bt8 t p = 10) then eK f t (p + 1) else p
def pC (t : List UInt8) : Mk := ⟨4, [], ⟨0, 0⟩, t.length⟩
def cP : Nat → List UInt8 → Nat → List Mk → List Mk × Int
 | 0, _, _, _ => ([], 0)
 | f + 1, t, p, out => if p < t.length then
   (if kJ (bt8 t p) then cP f t (p + 1) out else
   if bt8 t p = 35 then cP f t (eK t.length t p) out else
   if (eI t p).2 then cP f t (p + (eI t p).1.text.length) (out ++ [(eI t p).1]) else ([], p))
  else (out ++ [pC t], -1)
def c6 (t : List UInt8) : List Mk × Int := cP (t.length + 1) t 0 []
theorem kT : ∀ (f : Nat) (t : List UInt8) (p : Nat), p ≤ t.length → p ≤ eK f t p ∧ eK f t p ≤ t.length
 | 0, t, p, h => ⟨Nat.le_refl _, h⟩
 | f + 1, t, p, h => by
  unfold eK
  split
  ·rename_i hc
   simp only [Bool.and_eq_true, decide_eq_true_eq] at hc
   have := kT f t (p + 1) (by omega)
   omega
  ·exact ⟨Nat.le_refl _, h⟩
theorem EE {t : List UInt8} {p : Nat} (h : p < t.length) (hc : bt8 t p = 35) : p < eK t.length t p := by
 obtain ⟨f, hf⟩ : ∃ f, t.length = f + 1 := ⟨t.length - 1, by omega⟩
 have key : ∀ n, n = f + 1 → p < eK n t p := fun n hn => by
  rw [hn]
  unfold eK
  rw [if_pos (by simp [h, hc])]
  have := (kT f t (p + 1) (by omega)).1
  omega
 exact key _ hf
theorem sD {t : List UInt8} {p : Nat} (h : p < t.length) (ho : (eI t p).2 = true) : 0 < (eI t p).1.text.length ∧ p + (eI t p).1.text.length ≤ t.length := by
 have hr := zE (Nat.le_of_lt h)
 have hs := u0 h
 have h1 := sS hr
 have h2 := sS hs
 unfold eI at ho ⊢
 by_cases c1 : (decide (0 < runL t p) && dgI (bt8 t p)) = true
 ·rw [if_pos c1] at ho ⊢
  simp only [Bool.and_eq_true, decide_eq_true_eq] at c1
  simp only [h1]; omega
 ·rw [if_neg c1] at ho ⊢
  by_cases c2 : (decide (0 < runL t p) && decide (bt8 t p = 95)) = true
  ·rw [if_pos c2] at ho; simp at ho
  ·rw [if_neg c2] at ho ⊢
   by_cases c3 : decide (0 < runL t p) = true
   ·rw [if_pos c3]
    simp only [decide_eq_true_eq] at c3
    simp only [h1]; omega
   ·rw [if_neg c3] at ho ⊢
    simp only [decide_eq_true_eq] at ho
    simp only [h2]; omega
theorem A0 (t : List UInt8) (p : Nat) (hl : t.length ≤ 2 ^ 20) (hp : p ≤ t.length) {mem : Mem} {nx : Nat} {d2 d3 d4 d6 d7 : D} (Q : Exit → St → Prop)
  (hq : ∀ m, nx ≤ m → Q (.exit 2) ⟨[(0, .sl (em dB t)), (2, d2), (3, d3), (4, d4), (5, I (eK (t.length - p) t p)), (6, d6), (7, d7)], [], mem, m⟩) :
  A cf44 (.loop lb44_0) Q [(0, .sl (em dB t)), (2, d2), (3, d3), (4, d4), (5, I p), (6, d6), (7, d7)] mem nx := by
 generalize hG : eK (t.length - p) t p = G at hq
 refine lpG cf44 lb44_0 [5] (α := Nat) (fun k _ => [(5, I k)]) (fun _ _ => mem) (fun k m => nx ≤ m ∧ p ≤ k ∧ k ≤ t.length ∧ eK (t.length - k) t k = G) (fun k => t.length - k) p ⟨Nat.le_refl _, Nat.le_refl _, hp, hG⟩ (by simp) (by simp) ?_
 rintro k m ⟨hm, hk0, hk, he⟩
 have w1 := aX (x := (k : Int) + 1) (by omega) (by omega)
 by_cases h : k < t.length
 ·obtain ⟨f, hf⟩ : ∃ f, t.length - k = f + 1 := ⟨t.length - k - 1, by omega⟩
  have hf2 : t.length - (k + 1) = f := by omega
  rw [hf] at he
  unfold eK at he
  by_cases hc : bt8 t k = 10
  ·rw [if_neg (by simp [hc])] at he
   rw [← he] at hq
   simp -implicitDefEqProofs [lb44_0, h, hc]
   exact hq _ (by omega)
  ·rw [if_pos (by simp [h, hc])] at he
   simp -implicitDefEqProofs [lb44_0, h, hc, w1]
   refine aK (k + 1) ⟨by omega, by omega, h, by rw [hf2]; exact he⟩ (by omega) (by simp) (by simp)
 ·have hf : t.length - k = 0 := by omega
  rw [hf] at he
  have he : k = G := he
  subst he
  simp -implicitDefEqProofs [lb44_0, h]
  exact hq _ (by omega)
theorem rY : ∀ (f g : Nat) (t : List UInt8) (p : Nat), t.length - p ≤ f → t.length - p ≤ g → eK f t p = eK g t p
 | 0, g, t, p, hf, hg => by
  cases g with
  | zero => rfl
  | succ g =>
   unfold eK
   rw [if_neg (by simp; omega)]
 | f + 1, 0, t, p, hf, hg => by
  unfold eK
  rw [if_neg (by simp; omega)]
 | f + 1, g + 1, t, p, hf, hg => by
  unfold eK
  split
  ·rename_i hc
   simp only [Bool.and_eq_true, decide_eq_true_eq] at hc
   exact rY f g t (p + 1) (by omega) (by omega)
  ·rfl
theorem yE (t : List UInt8) (hl : t.length ≤ 2 ^ 20) : Pure Tryz.prog 44 [.sl (em dB t)] (.tup [.sl (em aB (c6 t).1), I (c6 t).2]) := by
 refine fi44.pu (by simp) ?_
 generalize hR : c6 t = R
 simp -implicitDefEqProofs [ac44]
 refine dO (j := 4) (k := 4) rfl (.inl rfl) ?_
 refine lpG cf44 lb44_1 [2, 3, 4, 5, 6, 7] (α := Nat × List Mk) (fun s _ => [(4, .osl 4 s.2.length 0 s.2.length), (5, I s.1)]) (fun s _ => [(4, .arr s.2.length 4 (em aB s.2))]) (fun s m => 4 < m ∧ s.1 ≤ t.length ∧ s.2.length ≤ s.1 ∧ ∃ f, t.length - s.1 < f ∧ cP f t s.1 s.2 = R) (fun s => t.length - s.1) (0, []) ⟨by omega, by simp, by simp, t.length + 1, by simp, hR⟩ (by simp) (by simp) ?_
 rintro ⟨p, out⟩ m ⟨hm, hp, ho, f, hf, hR⟩
 simp only at hp ho hf hR
 have hz : ∀ {f : Nat}, t.length - p < f → ∃ g, f = g + 1 := fun {f} h => ⟨f - 1, by omega⟩
 obtain ⟨g, rfl⟩ := hz hf
 unfold cP at hR
 have w1 := aX (x := (p : Int) + 1) (by omega) (by omega)
 by_cases hlt : p < t.length
 ·rw [if_pos hlt] at hR
  have hbl := F6 (bt8 t p)
  cases hb : kJ (bt8 t p) <;> rw [hb] at hbl hR
  ·rw [if_neg (by decide)] at hR
   by_cases hc : bt8 t p = 35
   ·rw [if_pos hc] at hR
    have h1 := EE hlt hc
    have h2 := (kT t.length t p hp).2
    have e := rY t.length (t.length - p) t p (by omega) (Nat.le_refl _)
    simp -implicitDefEqProofs [lb44_1, hlt]
    refine aH (hbl) (by simp) ?_
    simp -implicitDefEqProofs [hlt, hc]
    refine A0 t p hl hp _ (fun m2 hm2 => ?_)
    rw [← e]
    simp -implicitDefEqProofs
    refine aK (eK t.length t p, out) ⟨by omega, h2, by simp only; omega, g, by simp only; omega, hR⟩ (by simp only; omega) (by simp) (by simp)
   ·rw [if_neg hc] at hR
    have h1 := one_c t p (by omega) hlt
    cases hok : (eI t p).2 <;> rw [hok] at h1 hR
    ·rw [if_neg (by decide)] at hR
     subst hR
     generalize (eI t p).1 = k at *
     simp only [aB] at h1
     simp -implicitDefEqProofs [lb44_1, hlt]
     refine aH (hbl) (by simp) ?_
     simp -implicitDefEqProofs [hlt, hc]
     refine aH (h1) (by simp) ?_
     simp -implicitDefEqProofs
    ·rw [if_pos rfl] at hR
     obtain ⟨h2, h3⟩ := sD hlt hok
     have w2 := aX (x := (p : Int) + ((eI t p).1.text.length : Int)) (by omega) (by omega)
     generalize (eI t p).1 = k at *
     simp only [aB] at h1
     simp -implicitDefEqProofs [lb44_1, hlt]
     refine aH (hbl) (by simp) ?_
     simp -implicitDefEqProofs [hlt, hc]
     refine aH (h1) (by simp) ?_
     simp -implicitDefEqProofs [w2]
     refine ⟨by omega, aK (p + k.text.length, out ++ [k]) ⟨by omega, h3, by simp; omega, g, by simp only; omega, hR⟩ (by simp only; omega) (by simp) ?_⟩
     rw [A4]
     refine aQ ?_ (by simp [look])
     simp
  ·rw [if_pos rfl] at hR
   simp -implicitDefEqProofs [lb44_1, hlt]
   refine aH (hbl) (by simp) ?_
   simp -implicitDefEqProofs [w1]
   refine aK (p + 1, out) ⟨by omega, hlt, by simp only; omega, g, by simp only; omega, hR⟩ (by simp only; omega) (by simp) (by simp)
 ·rw [if_neg hlt] at hR
  subst hR
  have ha : em aB out ++ [[I 4, .pl (.string (ByteArray.mk (Array.mk []))), CX 0 0, I t.length]] = em aB (out ++ [pC t]) := A4 out (pC t)
  have hl2 : out.length + 1 = (out ++ [pC t]).length := by simp
  simp -implicitDefEqProofs [lb44_1, hlt, ha]
  exact ⟨by omega, by rw [hl2, List.take_length]⟩
def MOk (l : List Mk) : Prop := 0 < l.length ∧ ∀ i, i < l.length → (l[i]?.getD default).kind ≠ 4 → i + 1 < l.length
theorem lE : ∀ (f : Nat) (t : List UInt8) (p : Nat) (out : List Mk), (cP f t p out).2 < 0 → MOk (cP f t p out).1
 | 0, t, p, out, h => by simp [cP] at h
 | f + 1, t, p, out, h => by
  unfold cP at h ⊢
  by_cases c1 : p < t.length
  ·rw [if_pos c1] at h ⊢
   by_cases c2 : kJ (bt8 t p) = true
   ·rw [if_pos c2] at h ⊢; exact lE f _ _ _ h
   ·rw [if_neg c2] at h ⊢
    by_cases c3 : bt8 t p = 35
    ·rw [if_pos c3] at h ⊢; exact lE f _ _ _ h
    ·rw [if_neg c3] at h ⊢
     by_cases c4 : (eI t p).2 = true
     ·rw [if_pos c4] at h ⊢; exact lE f _ _ _ h
     ·rw [if_neg c4] at h; simp only at h; omega
  ·rw [if_neg c1] at h ⊢
   refine ⟨by simp, fun i hi hk => ?_⟩
   simp only [List.length_append, List.length_cons, List.length_nil] at hi ⊢
   by_cases e : i = out.length
   ·subst e
    simp [pC] at hk
   ·omega
theorem kE : ∀ (f : Nat) (t : List UInt8) (p : Nat) (out : List Mk), p ≤ t.length → out.length ≤ p → (cP f t p out).1.length ≤ t.length + 1
 | 0, t, p, out, _, _ => by simp [cP]
 | f + 1, t, p, out, hp, ho => by
  unfold cP
  by_cases c1 : p < t.length
  ·rw [if_pos c1]
   by_cases c2 : kJ (bt8 t p) = true
   ·rw [if_pos c2]; exact kE f _ _ _ (by omega) (by omega)
   ·rw [if_neg c2]
    by_cases c3 : bt8 t p = 35
    ·rw [if_pos c3]
     have := kT t.length t p hp
     exact kE f _ _ _ (by omega) (by omega)
    ·rw [if_neg c3]
     by_cases c4 : (eI t p).2 = true
     ·rw [if_pos c4]
      have := sD c1 c4
      exact kE f _ _ _ (by omega) (by simp; omega)
     ·rw [if_neg c4]; simp
  ·rw [if_neg c1]; simp; omega
inductive Ex where
 | mk (op : Int) (name tail : List UInt8) (type : Int) (num : Cx) (args : List Ex) (at' : Int)
namespace Ex
def op : Ex → Int | mk o _ _ _ _ _ _ => o
def name : Ex → List UInt8 | mk _ n _ _ _ _ _ => n
def tail : Ex → List UInt8 | mk _ _ t _ _ _ _ => t
def type : Ex → Int | mk _ _ _ t _ _ _ => t
def num : Ex → Cx | mk _ _ _ _ z _ _ => z
def args : Ex → List Ex | mk _ _ _ _ _ a _ => a
def at' : Ex → Int | mk _ _ _ _ _ _ p => p
end Ex
def ex0 : Ex := .mk 0 [] [] 0 ⟨0, 0⟩ [] 0
instance : Inhabited Ex := ⟨ex0⟩
mutual
def aR : Ex → List D
 | .mk o n t ty z ar p => [I o, Tx n, Tx t, I ty, CX z.re z.im, .sl (mA ar), I p]
def mA : List Ex → List (List D)
 | [] => []
 | e :: es => aR e :: mA es
end
theorem oB : ∀ (l : List Ex), mA l = em aR l
 | [] => rfl
 | e :: es => by unfold mA em; rw [oB es]; rfl
theorem aA : ∀ (e : Ex), aR e = [I e.op, Tx e.name, Tx e.tail, I e.type, CX e.num.re e.num.im, .sl (em aR e.args), I e.at']
 | .mk o n t ty z ar p => by unfold aR; rw [oB]; rfl
theorem bZ (o : Int) (n t : List UInt8) (ty : Int) (z : Cx) (ar : List Ex) (p : Int) : aR (.mk o n t ty z ar p) = [I o, Tx n, Tx t, I ty, CX z.re z.im, .sl (em aR ar), I p] := aA _
mutual
theorem imm_Ex : ∀ (e : Ex), D.imms (aR e) = true
 | .mk o n t ty z ar p => by
  unfold aR
  have := sL ar
  simp [D.imms, D.imm, this]
theorem sL : ∀ (l : List Ex), D.immss (mA l) = true
 | [] => rfl
 | e :: es => by
  unfold mA
  simp [D.immss, imm_Ex e, sL es]
end
theorem GV (l : List Ex) : D.immss (em aR l) = true := by rw [← oB]; exact sL l
theorem ia_Ex {l : List Ex} {mem : Mem} {j : IntKind} {i : Int} : iaD mem 7 (.sl (em aR l)) (.pl (.int j i)) = if 0 ≤ i ∧ i < l.length then some (.pt [I (l[i.toNat]?.getD default).op, Tx (l[i.toNat]?.getD default).name, Tx (l[i.toNat]?.getD default).tail, I (l[i.toNat]?.getD default).type, CX (l[i.toNat]?.getD default).num.re (l[i.toNat]?.getD default).num.im, .sl (em aR (l[i.toNat]?.getD default).args), I (l[i.toNat]?.getD default).at']) else none := by
 rw [← aA]
 exact lS fun e => by rw [aA]; rfl
theorem u_ (l : List Ex) (e : Ex) : em aR l ++ [aR e] = em aR (l ++ [e]) := fL
attribute [simp] ia_Ex GV
structure Pm where
 name : List UInt8
 type : Int
 at' : Int
instance : Inhabited Pm := ⟨⟨[], 0, 0⟩⟩
def fY (p : Pm) : List D := [Tx p.name, I p.type, I p.at']
theorem imm_Pm (l : List Pm) : D.immss (em fY l) = true := jR fun _ => rfl
theorem ia_Pm {l : List Pm} {mem : Mem} {j : IntKind} {i : Int} : iaD mem 3 (.sl (em fY l)) (.pl (.int j i)) = if 0 ≤ i ∧ i < l.length then some (.pt [Tx (l[i.toNat]?.getD default).name, I (l[i.toNat]?.getD default).type, I (l[i.toNat]?.getD default).at']) else none := lS fun _ => rfl
theorem rB (l : List Pm) (p : Pm) : em fY l ++ [[Tx p.name, I p.type, I p.at']] = em fY (l ++ [p]) := fL
attribute [simp] imm_Pm ia_Pm
structure Fn where
 name : List UInt8
 params : List Pm
 type : Int
 body : Ex
 at' : Int
instance : Inhabited Fn := ⟨⟨[], [], 0, default, 0⟩⟩
def a_ (f : Fn) : List D := [Tx f.name, .sl (em fY f.params), I f.type] ++ aR f.body ++ [I f.at']
structure Rd where
 ms : List Mk
 at' : Nat
 why : Int
 wh : Int
 lT : Int
 lF : Int
 lA : Int
 lN : Int
 nest : Int
def aC (r : Rd) : List D := [.sl (em aB r.ms), I r.at', I r.why, I r.wh, I r.lT, I r.lF, I r.lA, I r.lN, I r.nest]
namespace Rd
def next (r : Rd) : Mk := r.ms[r.at']?.getD default
def fail (r : Rd) (w : Int) : Rd := if r.why = 0 then { r with why := w, wh := r.next.at' } else r
def is (r : Rd) (s : List UInt8) : Bool := decide (r.why = 0) && ((decide (r.next.kind = 1) || decide (r.next.kind = 3)) && decide (r.next.text = s))
def adv (r : Rd) : Rd := { r with at' := r.at' + 1 }
def want (r : Rd) (s : List UInt8) : Rd := if r.is s then r.adv else r.fail 21
def bad (r : Rd) : Bool := !decide (r.why = 0) || !decide (r.next.kind = 0)
def name (r : Rd) : Mk × Rd := if r.bad then (default, r.fail 21) else (r.next, r.adv)
def typ (r : Rd) : Int × Rd := if r.is [78] then (1, r.adv) else if r.is [66] then (2, r.adv) else if r.is [76] then (3, r.adv) else (0, r.fail 21)
structure ok (r : Rd) : Prop where
 ms : MOk r.ms
 lt : r.at' < r.ms.length
 len : r.ms.length ≤ 2 ^ 21
 n0 : 0 ≤ r.nest
 n1 : r.nest ≤ 2 ^ 40
 l1 : r.lN ≤ 2 ^ 40
end Rd
def two (op : Int) (a b : Ex) (m : Mk) : Ex := .mk op [] [] 0 ⟨0, 0⟩ [a, b] m.at'
def bT (s : List UInt8) : Int :=
 if s = [116, 114, 117, 101] then 2 else if s = [102, 97, 108, 115, 101] then 3 else if s = [110, 105, 108] then 4 else if s = [102, 97, 105, 108] then 5 else
 if s = [110, 111, 116] then 14 else if s = [114, 101] then 15 else if s = [105, 109] then 16 else if s = [99, 111, 110, 106] then 17 else 0
def binds (r : Rd) : Bool := r.is [108, 101, 116] || (r.is [115, 116, 114, 105, 99, 116] || r.is [99, 97, 115, 101])
abbrev PR := Option (Ex × Rd)
mutual
def a6 : Nat → Rd → PR
 | 0, _ => none
 | n + 1, r =>
  let b := binds r
  let r1 := if b && decide (r.lN ≤ r.nest) then r.fail 23 else r
  if r1.why ≠ 0 then some (ex0, r1) else
  if b = false ∧ r1.is [105, 102] = false then dJ n r1 else
  let r2 := (if b then { r1 with nest := r1.nest + 1 } else r1).adv
  let res : PR := if r.next.text = [105, 102] then (bF n [[], [116, 104, 101, 110], [101, 108, 115, 101]] r2).map fun (l, q) => (.mk 19 [] [] 0 ⟨0, 0⟩ l r.next.at', q)
   else if r.next.text = [99, 97, 115, 101] then cB n r2 r.next.at'
   else (bF n [[61], [105, 110]] r2.name.2.typ.2).map fun (l, q) => (.mk (if r.next.text = [115, 116, 114, 105, 99, 116] then 22 else 21) r2.name.1.text [] r2.name.2.typ.1 ⟨0, 0⟩ l r.next.at', q)
  res.map fun (e, q) => (e, if b then { q with nest := q.nest - 1 } else q)
def dJ : Nat → Rd → PR
 | 0, _ => none
 | n + 1, r => (dZ n r).bind fun (a, r1) => if r1.is [58] then (dJ n r1.adv).map fun (b, r2) => (two 18 a b r1.next, r2) else some (a, r1)
def dZ : Nat → Rd → PR
 | 0, _ => none
 | n + 1, r => (eJ n r).bind fun (a, r1) => if r1.is [61, 61] || r1.is [60] then (eJ n r1.adv).map fun (b, r2) => (two (if r1.is [60] then 13 else 12) a b r1.next, r2) else some (a, r1)
def eJ : Nat → Rd → PR
 | 0, _ => none
 | n + 1, r => (cS n r).bind fun (a, r1) => dV n a r1
def dV : Nat → Ex → Rd → PR
 | 0, _, _ => none
 | n + 1, a, r => if r.is [43] || r.is [45] then (cS n r.adv).bind fun (b, r2) => dV n (two (if r.next.text = [45] then 9 else 8) a b r.next) r2 else some (a, r)
def cS : Nat → Rd → PR
 | 0, _ => none
 | n + 1, r => (cU n r).bind fun (a, r1) => c9 n a r1
def c9 : Nat → Ex → Rd → PR
 | 0, _, _ => none
 | n + 1, a, r => if r.is [42] || r.is [47] then (cU n r.adv).bind fun (b, r2) => c9 n (two (if r.next.text = [47] then 11 else 10) a b r.next) r2 else some (a, r)
def cU : Nat → Rd → PR
 | 0, _ => none
 | n + 1, r =>
  if r.why ≠ 0 then some (ex0, r) else
  if r.next.kind = 2 then some (.mk 1 [] [] 0 r.next.num [] r.next.at', r.adv) else
  if r.next.kind = 0 then dT n r.next r.adv else
  if r.is [40] then (a6 n r.adv).map fun (e, q) => (e, q.want [41]) else
  if ¬ r.next.kind = 1 ∨ bT r.next.text = 0 then some (ex0, r.fail 21) else
  if bT r.next.text = 5 then some (.mk 5 [] [] r.adv.typ.1 ⟨0, 0⟩ [] r.next.at', r.adv.typ.2) else
  if 14 ≤ bT r.next.text then (a6 n (r.adv.want [40])).map fun (x, q) => (.mk (bT r.next.text) [] [] 0 ⟨0, 0⟩ [x] r.next.at', q.want [41]) else
  some (.mk (bT r.next.text) [] [] 0 ⟨0, 0⟩ [] r.next.at', r.adv)
def dT : Nat → Mk → Rd → PR
 | 0, _, _ => none
 | n + 1, m, r => if r.is [40] then (cR n [] r.adv).map fun (l, q) => (.mk 7 m.text [] 0 ⟨0, 0⟩ l m.at', q.want [41]) else some (.mk 6 m.text [] 0 ⟨0, 0⟩ [] m.at', r)
def cR : Nat → List Ex → Rd → Option (List Ex × Rd)
 | 0, _, _ => none
 | n + 1, l, r => if r.why = 0 ∧ r.is [41] = false then (a6 n (if l = [] then r else r.want [44])).bind fun (x, q) => cR n (l ++ [x]) q else some (l, r)
def bF : Nat → List (List UInt8) → Rd → Option (List Ex × Rd)
 | 0, _, _ => none
 | n + 1, [], r => some ([], r)
 | n + 1, s :: ss, r => (a6 n (if s = [] then r else r.want s)).bind fun (x, q) => (bF n ss q).map fun (l, q2) => (x :: l, q2)
def cB : Nat → Rd → Int → PR
 | 0, _, _ => none
 | n + 1, r, p => (a6 n r).bind fun (x, r1) => (a6 n (((r1.want [111, 102]).want [110, 105, 108]).want [45, 62])).bind fun (a, r2) =>
   let h := (r2.want [124]).name
   let t := (h.2.want [58]).name
   (a6 n (t.2.want [45, 62])).map fun (b, r3) => (.mk 20 h.1.text t.1.text 0 ⟨0, 0⟩ [x, a, b] p, r3)
end
open Go Go.Fx Go.Proofs Go.Fx.Flt
def RC (f : FuncId) (args : List D) (r r' : Rd) (res : D) : Prop :=
 ∀ ⦃id : Nat⦄ ⦃mem : Mem⦄ ⦃nx : Nat⦄ ⦃K : KD⦄, look mem id = some (.box (aC r)) → id < nx → (∀ nx', nx ≤ nx' → K res (upd mem id (.box (aC r'))) nx') → bH Tryz.prog f (.opt id 0 :: args) mem nx K
def RC0 (f : FuncId) (args : List D) (r : Rd) (res : D) : Prop :=
 ∀ ⦃id : Nat⦄ ⦃mem : Mem⦄ ⦃nx : Nat⦄ ⦃K : KD⦄, look mem id = some (.box (aC r)) → id < nx → (∀ nx', nx ≤ nx' → K res mem nx') → bH Tryz.prog f (.opt id 0 :: args) mem nx K
theorem fG {r : Rd} (h : r.ok) : RC0 58 [] r (.agg (aB r.next)) := by
 intro id mem nx K hl hi hk
 refine fi58.ct (by simp) fun hfr => ?_
 have hlt := h.lt
 have hg : r.ms[r.at'] = r.next := by unfold Rd.next; rw [List.getElem?_eq_getElem hlt]; rfl
 simp -implicitDefEqProofs (maxDischargeDepth := 80) [ac58, hl, hi, neC hi, neA, ltA, aC, aB, hlt, hg]
 exact ⟨mem, (by repeat (first | exact aG _ | refine aE ?_ (aF (hfr _ (by omega))) | refine aE ?_ (hfr _ (by omega)))), hk _ (by omega)⟩
theorem kY {r : Rd} (h : r.ok) (w : Int) : RC 70 [I w] r (r.fail w) (.tup []) := by
 intro id mem nx K hl hi hk
 refine fi70.ct (by simp) fun hfr => ?_
 unfold Rd.fail at hk
 by_cases hw : r.why = 0
 ·rw [if_pos hw] at hk
  have hn : RC0 58 [] { r with why := w } (.agg (aB r.next)) := fG (r := { r with why := w }) ⟨h.ms, h.lt, h.len, h.n0, h.n1, h.l1⟩
  simp -implicitDefEqProofs (maxDischargeDepth := 80) [ac70, hl, hi, neC hi, neA, ltA, aC, aB, hw]
  refine aD ((hn) (by simp -implicitDefEqProofs (maxDischargeDepth := 80) [hl, hi, neC hi, neA, ltA, aC, aB]) (by omega) (fun n1 hn1 => ?_))
  have in1 : id < n1 := by omega
  have Kn1 := nfc trivial hn1
  simp -implicitDefEqProofs (maxDischargeDepth := 80) [hl, hi, neC hi, neA, ltA, aC, aB, Kn1]
  exact ⟨_, (by repeat (first | exact aG _ | refine aE ?_ (aF (hfr _ (by omega))) | refine aE ?_ (hfr _ (by omega)))), hk _ (by omega)⟩
 ·rw [if_neg hw, c8 hl] at hk
  simp -implicitDefEqProofs (maxDischargeDepth := 80) [ac70, hl, hi, neC hi, neA, ltA, aC, aB, hw]
  exact ⟨_, (by repeat (first | exact aG _ | refine aE ?_ (aF (hfr _ (by omega))) | refine aE ?_ (hfr _ (by omega)))), hk _ (by omega)⟩
namespace Rd
@[simp] theorem adv_ms {r : Rd} : r.adv.ms = r.ms := rfl
@[simp] theorem adv_at {r : Rd} : r.adv.at' = r.at' + 1 := rfl
@[simp] theorem adv_why {r : Rd} : r.adv.why = r.why := rfl
@[simp] theorem adv_wh {r : Rd} : r.adv.wh = r.wh := rfl
@[simp] theorem adv_lT {r : Rd} : r.adv.lT = r.lT := rfl
@[simp] theorem adv_lF {r : Rd} : r.adv.lF = r.lF := rfl
@[simp] theorem adv_lA {r : Rd} : r.adv.lA = r.lA := rfl
@[simp] theorem adv_lN {r : Rd} : r.adv.lN = r.lN := rfl
@[simp] theorem adv_nest {r : Rd} : r.adv.nest = r.nest := rfl
theorem ok_fail {r : Rd} (h : r.ok) (w : Int) : (r.fail w).ok := by
 unfold fail
 split
 ·exact ⟨h.ms, h.lt, h.len, h.n0, h.n1, h.l1⟩
 ·exact h
theorem ok_adv {r : Rd} (h : r.ok) (hk : r.next.kind ≠ 4) : r.adv.ok := ⟨h.ms, h.ms.2 _ h.lt hk, h.len, h.n0, h.n1, h.l1⟩
theorem is_kind {r : Rd} {s : List UInt8} (h : r.is s = true) : r.why = 0 ∧ (r.next.kind = 1 ∨ r.next.kind = 3) ∧ r.next.text = s := by
 unfold is at h
 simpa using h
theorem is_4 {r : Rd} {s : List UInt8} (h : r.is s = true) : r.next.kind ≠ 4 := by
 have := (is_kind h).2.1
 omega
theorem ok_want {r : Rd} (h : r.ok) (s : List UInt8) : (r.want s).ok := by
 unfold want
 cases hs : r.is s
 ·exact ok_fail h _
 ·exact ok_adv h (is_4 hs)
theorem ok_name {r : Rd} (h : r.ok) : r.name.2.ok := by
 unfold name
 cases hb : r.bad
 ·refine ok_adv h ?_
  unfold bad at hb
  simp at hb
  omega
 ·exact ok_fail h _
theorem ok_typ {r : Rd} (h : r.ok) : r.typ.2.ok := by
 unfold typ
 cases h1 : r.is [78]
 ·cases h2 : r.is [66]
  ·cases h3 : r.is [76]
   ·exact ok_fail h _
   ·exact ok_adv h (is_4 h3)
  ·exact ok_adv h (is_4 h2)
 ·exact ok_adv h (is_4 h1)
end Rd
theorem jJ {r : Rd} (h : r.ok) (s : List UInt8) : RC0 73 [Tx s] r (B (r.is s)) := by
 intro id mem nx K hl hi hk
 refine fi73.ct (by simp) fun hfr => ?_
 unfold Rd.is at hk
 have hn := fG h
 by_cases h1 : r.why = 0 <;> by_cases h2 : r.next.kind = 1 <;> by_cases h3 : r.next.kind = 3 <;> by_cases h4 : r.next.text = s <;> simp only [h1, h2, h3, h4, decide_true, decide_false, Bool.true_and, Bool.and_true, Bool.false_and, Bool.or_true, Bool.true_or, Bool.or_false, Bool.and_false, if_true, if_false] at hk
 all_goals
  simp -implicitDefEqProofs (maxDischargeDepth := 80) [ac73, hl, hi, neC hi, neA, ltA, aC, aB]
  refine aD ((hn) (by simp -implicitDefEqProofs (maxDischargeDepth := 80) [hl, hi, neC hi, neA, ltA, aC, aB]) (by omega) (fun n1 hn1 => ?_))
  have in1 : id < n1 := by omega
  have Kn1 := nfc trivial hn1
  simp -implicitDefEqProofs (maxDischargeDepth := 80) [hl, hi, neC hi, neA, ltA, aC, aB, Kn1, h1, h2, h3, h4]
  exact ⟨mem, (by repeat (first | exact aG _ | refine aE ?_ (aF (hfr _ (by omega))) | refine aE ?_ (hfr _ (by omega)))), hk _ (by omega)⟩
theorem iL {r : Rd} (h : r.ok) (s : List UInt8) : RC 96 [Tx s] r (if r.is s then r.adv else r) (B (r.is s)) := by
 intro id mem nx K hl hi hk
 refine fi96.ct (by simp) fun hfr => ?_
 have hc := jJ h s
 have hl2 := h.lt
 have hl3 := h.len
 have w := aX (x := (r.at' : Int) + 1) (by omega) (by omega)
 cases hs : r.is s <;> rw [hs] at hk hc
 ·rw [if_neg (by decide), c8 hl] at hk
  simp -implicitDefEqProofs (maxDischargeDepth := 80) [ac96, hl, hi, neC hi, neA, ltA, aC, aB]
  refine aD ((hc) (by simp -implicitDefEqProofs (maxDischargeDepth := 80) [hl, hi, neC hi, neA, ltA, aC, aB]) (by omega) (fun n1 hn1 => ?_))
  have in1 : id < n1 := by omega
  have Kn1 := nfc trivial hn1
  simp -implicitDefEqProofs (maxDischargeDepth := 80) [hl, hi, neC hi, neA, ltA, aC, aB, Kn1]
  exact ⟨mem, (by repeat (first | exact aG _ | refine aE ?_ (aF (hfr _ (by omega))) | refine aE ?_ (hfr _ (by omega)))), hk _ (by omega)⟩
 ·rw [if_pos rfl] at hk
  simp -implicitDefEqProofs (maxDischargeDepth := 80) [ac96, hl, hi, neC hi, neA, ltA, aC, aB]
  refine aD ((hc) (by simp -implicitDefEqProofs (maxDischargeDepth := 80) [hl, hi, neC hi, neA, ltA, aC, aB]) (by omega) (fun n1 hn1 => ?_))
  have in1 : id < n1 := by omega
  have Kn1 := nfc trivial hn1
  simp -implicitDefEqProofs (maxDischargeDepth := 80) [hl, hi, neC hi, neA, ltA, aC, aB, Kn1, w]
  exact ⟨_, (by repeat (first | exact aG _ | refine aE ?_ (aF (hfr _ (by omega))) | refine aE ?_ (hfr _ (by omega)))), hk _ (by omega)⟩
theorem dI {r : Rd} (h : r.ok) (s : List UInt8) : RC 72 [Tx s] r (r.want s) (.tup []) := by
 intro id mem nx K hl hi hk
 refine fi72.ct (by simp) fun hfr => ?_
 have hc := iL h s
 have hf := kY h 21
 unfold Rd.want at hk
 cases hs : r.is s <;> rw [hs] at hk hc
 ·rw [if_neg (by decide)] at hk hc
  simp -implicitDefEqProofs (maxDischargeDepth := 80) [ac72, hl, hi, neC hi, neA, ltA, aC, aB]
  refine aD ((hc) (by simp -implicitDefEqProofs (maxDischargeDepth := 80) [hl, hi, neC hi, neA, ltA, aC, aB]) (by omega) (fun n1 hn1 => ?_))
  have in1 : id < n1 := by omega
  have Kn1 := nfc trivial hn1
  simp -implicitDefEqProofs (maxDischargeDepth := 80) [hl, hi, neC hi, neA, ltA, aC, aB, Kn1]
  refine aD ((hf) (by simp -implicitDefEqProofs (maxDischargeDepth := 80) [hl, hi, neC hi, neA, ltA, aC, aB, Kn1]) (by omega) (fun n2 hn2 => ?_))
  have in2 : id < n2 := by omega
  have Kn2 := nfc Kn1 hn2
  simp -implicitDefEqProofs (maxDischargeDepth := 80) [hl, hi, neC hi, neA, ltA, aC, aB, Kn2]
  exact ⟨_, (by repeat (first | exact aG _ | refine aE ?_ (aF (hfr _ (by omega))) | refine aE ?_ (hfr _ (by omega)))), hk _ (by omega)⟩
 ·rw [if_pos rfl] at hk hc
  simp -implicitDefEqProofs (maxDischargeDepth := 80) [ac72, hl, hi, neC hi, neA, ltA, aC, aB]
  refine aD ((hc) (by simp -implicitDefEqProofs (maxDischargeDepth := 80) [hl, hi, neC hi, neA, ltA, aC, aB]) (by omega) (fun n1 hn1 => ?_))
  have in1 : id < n1 := by omega
  have Kn1 := nfc trivial hn1
  simp -implicitDefEqProofs (maxDischargeDepth := 80) [hl, hi, neC hi, neA, ltA, aC, aB, Kn1]
  exact ⟨_, (by repeat (first | exact aG _ | refine aE ?_ (aF (hfr _ (by omega))) | refine aE ?_ (hfr _ (by omega)))), hk _ (by omega)⟩
theorem l_ {r : Rd} (h : r.ok) : RC 71 [] r r.name.2 (.agg (aB r.name.1)) := by
 intro id mem nx K hl hi hk
 refine fi71.ct (by simp) fun hfr => ?_
 have hn := fG h
 have hf := kY h 21
 have hl2 := h.lt
 have hl3 := h.len
 have w := aX (x := (r.at' : Int) + 1) (by omega) (by omega)
 unfold Rd.name Rd.bad at hk
 by_cases h1 : r.why = 0
 ·by_cases h2 : r.next.kind = 0
  ·rw [if_neg (by simp [h1, h2])] at hk
   simp -implicitDefEqProofs (maxDischargeDepth := 80) [ac71, hl, hi, neC hi, neA, ltA, aC, aB]
   refine aD ((hn) (by simp -implicitDefEqProofs (maxDischargeDepth := 80) [hl, hi, neC hi, neA, ltA, aC, aB]) (by omega) (fun n1 hn1 => ?_))
   have in1 : id < n1 := by omega
   have Kn1 := nfc trivial hn1
   simp -implicitDefEqProofs (maxDischargeDepth := 80) [hl, hi, neC hi, neA, ltA, aC, aB, Kn1, h1, h2, w]
   simp [aB, h2, aC, Rd.adv, h1] at hk
   exact ⟨_, (by repeat (first | exact aG _ | refine aE ?_ (aF (hfr _ (by omega))) | refine aE ?_ (hfr _ (by omega)))), hk _ (by omega)⟩
  ·rw [if_pos (by simp [h1, h2])] at hk
   simp -implicitDefEqProofs (maxDischargeDepth := 80) [ac71, hl, hi, neC hi, neA, ltA, aC, aB]
   refine aD ((hn) (by simp -implicitDefEqProofs (maxDischargeDepth := 80) [hl, hi, neC hi, neA, ltA, aC, aB]) (by omega) (fun n1 hn1 => ?_))
   have in1 : id < n1 := by omega
   have Kn1 := nfc trivial hn1
   simp -implicitDefEqProofs (maxDischargeDepth := 80) [hl, hi, neC hi, neA, ltA, aC, aB, Kn1, h1, h2]
   refine aD ((hf) (by simp -implicitDefEqProofs (maxDischargeDepth := 80) [hl, hi, neC hi, neA, ltA, aC, aB, Kn1]) (by omega) (fun n2 hn2 => ?_))
   have in2 : id < n2 := by omega
   have Kn2 := nfc Kn1 hn2
   simp -implicitDefEqProofs (maxDischargeDepth := 80) [hl, hi, neC hi, neA, ltA, aC, aB, Kn2]
   exact ⟨_, (by repeat (first | exact aG _ | refine aE ?_ (aF (hfr _ (by omega))) | refine aE ?_ (hfr _ (by omega)))), hk _ (by omega)⟩
 ·rw [if_pos (by simp [h1])] at hk
  simp -implicitDefEqProofs (maxDischargeDepth := 80) [ac71, hl, hi, neC hi, neA, ltA, aC, aB]
  refine aD ((hn) (by simp -implicitDefEqProofs (maxDischargeDepth := 80) [hl, hi, neC hi, neA, ltA, aC, aB]) (by omega) (fun n1 hn1 => ?_))
  have in1 : id < n1 := by omega
  have Kn1 := nfc trivial hn1
  simp -implicitDefEqProofs (maxDischargeDepth := 80) [hl, hi, neC hi, neA, ltA, aC, aB, Kn1, h1]
  refine aD ((hf) (by simp -implicitDefEqProofs (maxDischargeDepth := 80) [hl, hi, neC hi, neA, ltA, aC, aB, Kn1]) (by omega) (fun n2 hn2 => ?_))
  have in2 : id < n2 := by omega
  have Kn2 := nfc Kn1 hn2
  simp -implicitDefEqProofs (maxDischargeDepth := 80) [hl, hi, neC hi, neA, ltA, aC, aB, Kn2]
  exact ⟨_, (by repeat (first | exact aG _ | refine aE ?_ (aF (hfr _ (by omega))) | refine aE ?_ (hfr _ (by omega)))), hk _ (by omega)⟩
theorem wi1' : IntKind.i64.wrap 1 = 1 := by decide
theorem wi2' : IntKind.i64.wrap 2 = 2 := by decide
theorem wi3' : IntKind.i64.wrap 3 = 3 := by decide
theorem qY {r : Rd} (h : r.ok) : RC 74 [] r r.typ.2 (I r.typ.1) := by
 intro id mem nx K hl hi hk
 refine fi74.ct (by simp) fun hfr => ?_
 have c1 := iL h [78]
 have c2 := iL h [66]
 have c3 := iL h [76]
 have hf := kY h 21
 unfold Rd.typ at hk
 have hu := c8 hl
 simp only [aC] at hu
 simp -implicitDefEqProofs (maxDischargeDepth := 80) [ac74, hl, hi, neC hi, neA, ltA, aC, aB]
 refine lpG cf74 lb74_0 [2, 4] (α := Nat) (fun i _ => [(4, I i)]) (fun _ _ => mem) (fun i m => nx ≤ m ∧ i ≤ 3 ∧ (0 < i → r.is [78] = false) ∧ (1 < i → r.is [66] = false) ∧ (2 < i → r.is [76] = false)) (fun i => 3 - i) 0 ⟨by omega, by omega, by omega, by omega, by omega⟩ (by simp) (by simp) ?_
 rintro i m ⟨hm, hi3, g1, g2, g3⟩
 have im : id < m := by omega
 have : i = 0 ∨ i = 1 ∨ i = 2 ∨ i = 3 := by omega
 rcases this with rfl | rfl | rfl | rfl
 ·cases hs : r.is [78] <;> rw [hs] at hk c1
  ·rw [if_neg (by decide)] at c1
   simp -implicitDefEqProofs (maxDischargeDepth := 80) [lb74_0, hl, hi, neC hi, neA, ltA, aC, aB, im, iaD]
   refine aD ((c1) (by simp -implicitDefEqProofs (maxDischargeDepth := 80) [hl, hi, neC hi, neA, ltA, aC, aB]) (by omega) (fun n1 hn1 => ?_))
   have in1 : id < n1 := by omega
   have Kn1 := nfc trivial hn1
   simp -implicitDefEqProofs (maxDischargeDepth := 80) [hl, hi, neC hi, neA, ltA, aC, aB, Kn1, wi1']
   rw [hu]
   exact aK 1 ⟨by omega, by omega, by omega, by omega⟩ (by omega) (by simp) (by simp)
  ·rw [if_pos rfl] at hk c1
   simp -implicitDefEqProofs (maxDischargeDepth := 80) [lb74_0, hl, hi, neC hi, neA, ltA, aC, aB, im, iaD]
   refine aD ((c1) (by simp -implicitDefEqProofs (maxDischargeDepth := 80) [hl, hi, neC hi, neA, ltA, aC, aB]) (by omega) (fun n1 hn1 => ?_))
   have in1 : id < n1 := by omega
   have Kn1 := nfc trivial hn1
   simp -implicitDefEqProofs (maxDischargeDepth := 80) [hl, hi, neC hi, neA, ltA, aC, aB, Kn1, wi1']
   exact ⟨_, (by repeat (first | exact aG _ | refine aE ?_ (aF (hfr _ (by omega))) | refine aE ?_ (hfr _ (by omega)))), hk _ (by omega)⟩
 ·rw [g1 (by omega), if_neg (by decide)] at hk
  cases hs : r.is [66] <;> rw [hs] at hk c2
  ·rw [if_neg (by decide)] at c2
   simp -implicitDefEqProofs (maxDischargeDepth := 80) [lb74_0, hl, hi, neC hi, neA, ltA, aC, aB, im, iaD]
   refine aD ((c2) (by simp -implicitDefEqProofs (maxDischargeDepth := 80) [hl, hi, neC hi, neA, ltA, aC, aB]) (by omega) (fun n1 hn1 => ?_))
   have in1 : id < n1 := by omega
   have Kn1 := nfc trivial hn1
   simp -implicitDefEqProofs (maxDischargeDepth := 80) [hl, hi, neC hi, neA, ltA, aC, aB, Kn1, wi2']
   rw [hu]
   exact aK 2 ⟨by omega, by omega, fun _ => g1 (by omega), by omega⟩ (by omega) (by simp) (by simp)
  ·rw [if_pos rfl] at hk c2
   simp -implicitDefEqProofs (maxDischargeDepth := 80) [lb74_0, hl, hi, neC hi, neA, ltA, aC, aB, im, iaD]
   refine aD ((c2) (by simp -implicitDefEqProofs (maxDischargeDepth := 80) [hl, hi, neC hi, neA, ltA, aC, aB]) (by omega) (fun n1 hn1 => ?_))
   have in1 : id < n1 := by omega
   have Kn1 := nfc trivial hn1
   simp -implicitDefEqProofs (maxDischargeDepth := 80) [hl, hi, neC hi, neA, ltA, aC, aB, Kn1, wi2']
   exact ⟨_, (by repeat (first | exact aG _ | refine aE ?_ (aF (hfr _ (by omega))) | refine aE ?_ (hfr _ (by omega)))), hk _ (by omega)⟩
 ·rw [g1 (by omega), if_neg (by decide), g2 (by omega), if_neg (by decide)] at hk
  cases hs : r.is [76] <;> rw [hs] at hk c3
  ·rw [if_neg (by decide)] at c3
   simp -implicitDefEqProofs (maxDischargeDepth := 80) [lb74_0, hl, hi, neC hi, neA, ltA, aC, aB, im, iaD]
   refine aD ((c3) (by simp -implicitDefEqProofs (maxDischargeDepth := 80) [hl, hi, neC hi, neA, ltA, aC, aB]) (by omega) (fun n1 hn1 => ?_))
   have in1 : id < n1 := by omega
   have Kn1 := nfc trivial hn1
   simp -implicitDefEqProofs (maxDischargeDepth := 80) [hl, hi, neC hi, neA, ltA, aC, aB, Kn1, wi3']
   rw [hu]
   exact aK 3 ⟨by omega, by omega, fun _ => g1 (by omega), fun _ => g2 (by omega)⟩ (by omega) (by simp) (by simp)
  ·rw [if_pos rfl] at hk c3
   simp -implicitDefEqProofs (maxDischargeDepth := 80) [lb74_0, hl, hi, neC hi, neA, ltA, aC, aB, im, iaD]
   refine aD ((c3) (by simp -implicitDefEqProofs (maxDischargeDepth := 80) [hl, hi, neC hi, neA, ltA, aC, aB]) (by omega) (fun n1 hn1 => ?_))
   have in1 : id < n1 := by omega
   have Kn1 := nfc trivial hn1
   simp -implicitDefEqProofs (maxDischargeDepth := 80) [hl, hi, neC hi, neA, ltA, aC, aB, Kn1, wi3']
   exact ⟨_, (by repeat (first | exact aG _ | refine aE ?_ (aF (hfr _ (by omega))) | refine aE ?_ (hfr _ (by omega)))), hk _ (by omega)⟩
 ·rw [g1 (by omega), if_neg (by decide), g2 (by omega), if_neg (by decide), g3 (by omega), if_neg (by decide)] at hk
  simp -implicitDefEqProofs (maxDischargeDepth := 80) [lb74_0, hl, hi, neC hi, neA, ltA, aC, aB, im]
  refine aD ((hf) (by simp -implicitDefEqProofs (maxDischargeDepth := 80) [hl, hi, neC hi, neA, ltA, aC, aB]) (by omega) (fun n1 hn1 => ?_))
  have in1 : id < n1 := by omega
  have Kn1 := nfc trivial hn1
  simp -implicitDefEqProofs (maxDischargeDepth := 80) [hl, hi, neC hi, neA, ltA, aC, aB, Kn1]
  exact ⟨_, (by repeat (first | exact aG _ | refine aE ?_ (aF (hfr _ (by omega))) | refine aE ?_ (hfr _ (by omega)))), hk _ (by omega)⟩
open Go Go.Fx Go.Proofs Go.Fx.Flt
def EC (f : FuncId) (args : List D) (run : PR) (r : Rd) : Prop := ∀ e r', run = some (e, r') → r'.ok ∧ r'.nest = r.nest ∧ RC f args r r' (.agg (aR e))
theorem em_1 {α : Type} {enc : α → List D} {a : α} : em enc [a] = [enc a] := rfl
theorem em_2 {α : Type} {enc : α → List D} {a b : α} : em enc [a, b] = [enc a, enc b] := rfl
theorem em_3 {α : Type} {enc : α → List D} {a b c : α} : em enc [a, b, c] = [enc a, enc b, enc c] := rfl
theorem mY (op : Int) (a b : Ex) (m : Mk) : Pure Tryz.prog 112 [I op, .agg (aR a), .agg (aR b), .agg (aB m)] (.agg (aR (two op a b m))) := by
 refine fi112.pu (by simp) ?_
 simp only [two, bZ, em_2]
 simp only [aA, aB]
 simp -implicitDefEqProofs (maxDischargeDepth := 80) [ac112]
theorem hJ {r : Rd} {w : Int} : (r.fail w).nest = r.nest := by unfold Rd.fail; split <;> rfl
theorem nest_want {r : Rd} {s : List UInt8} : (r.want s).nest = r.nest := by
 unfold Rd.want
 split
 ·rfl
 ·exact hJ
theorem lC {r : Rd} : r.name.2.nest = r.nest := by
 unfold Rd.name
 split
 ·exact hJ
 ·rfl
theorem qF {r : Rd} : r.typ.2.nest = r.nest := by
 unfold Rd.typ
 split
 ·rfl
 ·split
  ·rfl
  ·split
   ·rfl
   ·exact hJ
theorem cons_s {n : Nat} (h1 : ∀ r, r.ok → EC 111 [] (dZ n r) r) (h2 : ∀ r, r.ok → EC 97 [] (dJ n r) r) :
  ∀ r, r.ok → EC 97 [] (dJ (n + 1) r) r := by
 intro r h e r' hrun
 unfold dJ at hrun
 cases hc : dZ n r with
 | none => rw [hc] at hrun; simp at hrun
 | some p =>
  obtain ⟨a, r1⟩ := p
  rw [hc] at hrun
  simp only [Option.bind_some] at hrun
  obtain ⟨k1, n1, c1⟩ := h1 r h a r1 hc
  have cn := fG k1
  have ct := iL k1 [58]
  simp only [aA, aB] at c1 cn
  cases hs : r1.is [58] <;> rw [hs] at hrun ct
  ·simp only [Bool.false_eq_true, if_false, Option.some.injEq, Prod.mk.injEq] at hrun ct
   obtain ⟨rfl, rfl⟩ := hrun
   refine ⟨k1, n1, ?_⟩
   intro id mem nx K hl hi hk
   simp only [aA] at hk
   refine fi97.ct (by simp) fun hfr => ?_
   simp -implicitDefEqProofs (maxDischargeDepth := 80) [ac97, hl, hi, neC hi, neA, ltA, aC, aB, aA]
   refine aD ((c1) (by simp -implicitDefEqProofs (maxDischargeDepth := 80) [hl, hi, neC hi, neA, ltA, aC, aB, aA]) (by omega) (fun m1 hm1 => ?_))
   have im1 : id < m1 := by omega
   have Km1 := nfc trivial hm1
   simp -implicitDefEqProofs (maxDischargeDepth := 80) [hl, hi, neC hi, neA, ltA, aC, aB, aA, Km1]
   refine aD ((cn) (by simp -implicitDefEqProofs (maxDischargeDepth := 80) [hl, hi, neC hi, neA, ltA, aC, aB, aA, Km1]) (by omega) (fun m2 hm2 => ?_))
   have im2 : id < m2 := by omega
   have Km2 := nfc Km1 hm2
   simp -implicitDefEqProofs (maxDischargeDepth := 80) [hl, hi, neC hi, neA, ltA, aC, aB, aA, Km2]
   refine aD ((ct) (by simp -implicitDefEqProofs (maxDischargeDepth := 80) [hl, hi, neC hi, neA, ltA, aC, aB, aA, Km2]) (by omega) (fun m3 hm3 => ?_))
   have im3 : id < m3 := by omega
   have Km3 := nfc Km2 hm3
   simp -implicitDefEqProofs (maxDischargeDepth := 80) [hl, hi, neC hi, neA, ltA, aC, aB, aA, Km3]
   exact ⟨_, (by repeat (first | exact aG _ | refine aE ?_ (aF (hfr _ (by omega))) | refine aE ?_ (hfr _ (by omega)))), hk _ (by omega)⟩
  ·simp only [if_true, Option.map_eq_some_iff, Prod.mk.injEq] at hrun ct
   obtain ⟨⟨b, r2⟩, hb, rfl, rfl⟩ := hrun
   obtain ⟨k2, n2, c2⟩ := h2 r1.adv (Rd.ok_adv k1 (Rd.is_4 hs)) b r2 hb
   have c3 := mY 18 a b r1.next
   simp only [aA, aB] at c2 c3
   refine ⟨k2, n2.trans n1, ?_⟩
   intro id mem nx K hl hi hk
   simp only [aA] at hk
   refine fi97.ct (by simp) fun hfr => ?_
   simp -implicitDefEqProofs (maxDischargeDepth := 80) [ac97, hl, hi, neC hi, neA, ltA, aC, aB, aA]
   refine aD ((c1) (by simp -implicitDefEqProofs (maxDischargeDepth := 80) [hl, hi, neC hi, neA, ltA, aC, aB, aA]) (by omega) (fun m1 hm1 => ?_))
   have im1 : id < m1 := by omega
   have Km1 := nfc trivial hm1
   simp -implicitDefEqProofs (maxDischargeDepth := 80) [hl, hi, neC hi, neA, ltA, aC, aB, aA, Km1]
   refine aD ((cn) (by simp -implicitDefEqProofs (maxDischargeDepth := 80) [hl, hi, neC hi, neA, ltA, aC, aB, aA, Km1]) (by omega) (fun m2 hm2 => ?_))
   have im2 : id < m2 := by omega
   have Km2 := nfc Km1 hm2
   simp -implicitDefEqProofs (maxDischargeDepth := 80) [hl, hi, neC hi, neA, ltA, aC, aB, aA, Km2]
   refine aD ((ct) (by simp -implicitDefEqProofs (maxDischargeDepth := 80) [hl, hi, neC hi, neA, ltA, aC, aB, aA, Km2]) (by omega) (fun m3 hm3 => ?_))
   have im3 : id < m3 := by omega
   have Km3 := nfc Km2 hm3
   simp -implicitDefEqProofs (maxDischargeDepth := 80) [hl, hi, neC hi, neA, ltA, aC, aB, aA, Km3]
   refine aD ((c2) (by simp -implicitDefEqProofs (maxDischargeDepth := 80) [hl, hi, neC hi, neA, ltA, aC, aB, aA, Km3]) (by omega) (fun m4 hm4 => ?_))
   have im4 : id < m4 := by omega
   have Km4 := nfc Km3 hm4
   simp -implicitDefEqProofs (maxDischargeDepth := 80) [hl, hi, neC hi, neA, ltA, aC, aB, aA, Km4]
   refine aH (c3) (by simp) ?_
   simp -implicitDefEqProofs (maxDischargeDepth := 80) [hl, hi, neC hi, neA, ltA, aC, aB, aA, Km4]
   exact ⟨_, (by repeat (first | exact aG _ | refine aE ?_ (aF (hfr _ (by omega))) | refine aE ?_ (hfr _ (by omega)))), hk _ (by omega)⟩
theorem comp_s {n : Nat} (h1 : ∀ r, r.ok → EC 116 [] (eJ n r) r) :
  ∀ r, r.ok → EC 111 [] (dZ (n + 1) r) r := by
 intro r h e r' hrun
 unfold dZ at hrun
 cases hc : eJ n r with
 | none => rw [hc] at hrun; simp at hrun
 | some p =>
  obtain ⟨a, r1⟩ := p
  rw [hc] at hrun
  simp only [Option.bind_some] at hrun
  obtain ⟨k1, n1, c1⟩ := h1 r h a r1 hc
  have cn := fG k1
  have ci := jJ k1 [60]
  have ct := iL k1 [61, 61]
  have cu := iL k1 [60]
  simp only [aA, aB] at c1 cn
  cases hs : r1.is [61, 61] <;> rw [hs] at hrun ct
  ·cases hu : r1.is [60] <;> rw [hu] at hrun cu ci
   ·simp only [Bool.false_eq_true, if_false, Bool.or_self, Option.some.injEq, Prod.mk.injEq] at hrun ct cu
    obtain ⟨rfl, rfl⟩ := hrun
    refine ⟨k1, n1, ?_⟩
    intro id mem nx K hl hi hk
    simp only [aA] at hk
    refine fi111.ct (by simp) fun hfr => ?_
    simp -implicitDefEqProofs (maxDischargeDepth := 80) [ac111, hl, hi, neC hi, neA, ltA, aC, aB, aA]
    refine aD ((c1) (by simp -implicitDefEqProofs (maxDischargeDepth := 80) [hl, hi, neC hi, neA, ltA, aC, aB, aA]) (by omega) (fun m1 hm1 => ?_))
    have im1 : id < m1 := by omega
    have Km1 := nfc trivial hm1
    simp -implicitDefEqProofs (maxDischargeDepth := 80) [hl, hi, neC hi, neA, ltA, aC, aB, aA, Km1]
    refine aD ((cn) (by simp -implicitDefEqProofs (maxDischargeDepth := 80) [hl, hi, neC hi, neA, ltA, aC, aB, aA, Km1]) (by omega) (fun m2 hm2 => ?_))
    have im2 : id < m2 := by omega
    have Km2 := nfc Km1 hm2
    simp -implicitDefEqProofs (maxDischargeDepth := 80) [hl, hi, neC hi, neA, ltA, aC, aB, aA, Km2]
    refine aD ((ci) (by simp -implicitDefEqProofs (maxDischargeDepth := 80) [hl, hi, neC hi, neA, ltA, aC, aB, aA, Km2]) (by omega) (fun m3 hm3 => ?_))
    have im3 : id < m3 := by omega
    have Km3 := nfc Km2 hm3
    simp -implicitDefEqProofs (maxDischargeDepth := 80) [hl, hi, neC hi, neA, ltA, aC, aB, aA, Km3]
    refine aD ((ct) (by simp -implicitDefEqProofs (maxDischargeDepth := 80) [hl, hi, neC hi, neA, ltA, aC, aB, aA, Km3]) (by omega) (fun m4 hm4 => ?_))
    have im4 : id < m4 := by omega
    have Km4 := nfc Km3 hm4
    simp -implicitDefEqProofs (maxDischargeDepth := 80) [hl, hi, neC hi, neA, ltA, aC, aB, aA, Km4]
    refine aD ((cu) (by simp -implicitDefEqProofs (maxDischargeDepth := 80) [hl, hi, neC hi, neA, ltA, aC, aB, aA, Km4]) (by omega) (fun m5 hm5 => ?_))
    have im5 : id < m5 := by omega
    have Km5 := nfc Km4 hm5
    simp -implicitDefEqProofs (maxDischargeDepth := 80) [hl, hi, neC hi, neA, ltA, aC, aB, aA, Km5]
    exact ⟨_, (by repeat (first | exact aG _ | refine aE ?_ (aF (hfr _ (by omega))) | refine aE ?_ (hfr _ (by omega)))), hk _ (by omega)⟩
   ·simp only [Bool.or_true, Bool.false_eq_true, if_false, if_true, Option.map_eq_some_iff, Prod.mk.injEq] at hrun ct cu
    obtain ⟨⟨b, r2⟩, hb, rfl, rfl⟩ := hrun
    obtain ⟨k2, n2, c2⟩ := h1 r1.adv (Rd.ok_adv k1 (Rd.is_4 hu)) b r2 hb
    have c3 := mY 13 a b r1.next
    simp only [aA, aB] at c2 c3
    refine ⟨k2, n2.trans n1, ?_⟩
    intro id mem nx K hl hi hk
    simp only [aA] at hk
    refine fi111.ct (by simp) fun hfr => ?_
    simp -implicitDefEqProofs (maxDischargeDepth := 80) [ac111, hl, hi, neC hi, neA, ltA, aC, aB, aA]
    refine aD ((c1) (by simp -implicitDefEqProofs (maxDischargeDepth := 80) [hl, hi, neC hi, neA, ltA, aC, aB, aA]) (by omega) (fun m1 hm1 => ?_))
    have im1 : id < m1 := by omega
    have Km1 := nfc trivial hm1
    simp -implicitDefEqProofs (maxDischargeDepth := 80) [hl, hi, neC hi, neA, ltA, aC, aB, aA, Km1]
    refine aD ((cn) (by simp -implicitDefEqProofs (maxDischargeDepth := 80) [hl, hi, neC hi, neA, ltA, aC, aB, aA, Km1]) (by omega) (fun m2 hm2 => ?_))
    have im2 : id < m2 := by omega
    have Km2 := nfc Km1 hm2
    simp -implicitDefEqProofs (maxDischargeDepth := 80) [hl, hi, neC hi, neA, ltA, aC, aB, aA, Km2]
    refine aD ((ci) (by simp -implicitDefEqProofs (maxDischargeDepth := 80) [hl, hi, neC hi, neA, ltA, aC, aB, aA, Km2]) (by omega) (fun m3 hm3 => ?_))
    have im3 : id < m3 := by omega
    have Km3 := nfc Km2 hm3
    simp -implicitDefEqProofs (maxDischargeDepth := 80) [hl, hi, neC hi, neA, ltA, aC, aB, aA, Km3]
    refine aD ((ct) (by simp -implicitDefEqProofs (maxDischargeDepth := 80) [hl, hi, neC hi, neA, ltA, aC, aB, aA, Km3]) (by omega) (fun m4 hm4 => ?_))
    have im4 : id < m4 := by omega
    have Km4 := nfc Km3 hm4
    simp -implicitDefEqProofs (maxDischargeDepth := 80) [hl, hi, neC hi, neA, ltA, aC, aB, aA, Km4]
    refine aD ((cu) (by simp -implicitDefEqProofs (maxDischargeDepth := 80) [hl, hi, neC hi, neA, ltA, aC, aB, aA, Km4]) (by omega) (fun m5 hm5 => ?_))
    have im5 : id < m5 := by omega
    have Km5 := nfc Km4 hm5
    simp -implicitDefEqProofs (maxDischargeDepth := 80) [hl, hi, neC hi, neA, ltA, aC, aB, aA, Km5]
    refine aD ((c2) (by simp -implicitDefEqProofs (maxDischargeDepth := 80) [hl, hi, neC hi, neA, ltA, aC, aB, aA, Km5]) (by omega) (fun m6 hm6 => ?_))
    have im6 : id < m6 := by omega
    have Km6 := nfc Km5 hm6
    simp -implicitDefEqProofs (maxDischargeDepth := 80) [hl, hi, neC hi, neA, ltA, aC, aB, aA, Km6]
    refine aH (c3) (by simp) ?_
    simp -implicitDefEqProofs (maxDischargeDepth := 80) [hl, hi, neC hi, neA, ltA, aC, aB, aA, Km6]
    exact ⟨_, (by repeat (first | exact aG _ | refine aE ?_ (aF (hfr _ (by omega))) | refine aE ?_ (hfr _ (by omega)))), hk _ (by omega)⟩
  ·have hu : r1.is [60] = false := by
    cases hu : r1.is [60]
    ·rfl
    ·have := (Rd.is_kind hs).2.2
     rw [(Rd.is_kind hu).2.2] at this
     simp at this
   rw [hu] at hrun ci
   simp only [Bool.or_false, Bool.false_eq_true, if_false, if_true, Option.map_eq_some_iff, Prod.mk.injEq] at hrun ct
   obtain ⟨⟨b, r2⟩, hb, rfl, rfl⟩ := hrun
   obtain ⟨k2, n2, c2⟩ := h1 r1.adv (Rd.ok_adv k1 (Rd.is_4 hs)) b r2 hb
   have c3 := mY 12 a b r1.next
   simp only [aA, aB] at c2 c3
   refine ⟨k2, n2.trans n1, ?_⟩
   intro id mem nx K hl hi hk
   simp only [aA] at hk
   refine fi111.ct (by simp) fun hfr => ?_
   simp -implicitDefEqProofs (maxDischargeDepth := 80) [ac111, hl, hi, neC hi, neA, ltA, aC, aB, aA]
   refine aD ((c1) (by simp -implicitDefEqProofs (maxDischargeDepth := 80) [hl, hi, neC hi, neA, ltA, aC, aB, aA]) (by omega) (fun m1 hm1 => ?_))
   have im1 : id < m1 := by omega
   have Km1 := nfc trivial hm1
   simp -implicitDefEqProofs (maxDischargeDepth := 80) [hl, hi, neC hi, neA, ltA, aC, aB, aA, Km1]
   refine aD ((cn) (by simp -implicitDefEqProofs (maxDischargeDepth := 80) [hl, hi, neC hi, neA, ltA, aC, aB, aA, Km1]) (by omega) (fun m2 hm2 => ?_))
   have im2 : id < m2 := by omega
   have Km2 := nfc Km1 hm2
   simp -implicitDefEqProofs (maxDischargeDepth := 80) [hl, hi, neC hi, neA, ltA, aC, aB, aA, Km2]
   refine aD ((ci) (by simp -implicitDefEqProofs (maxDischargeDepth := 80) [hl, hi, neC hi, neA, ltA, aC, aB, aA, Km2]) (by omega) (fun m3 hm3 => ?_))
   have im3 : id < m3 := by omega
   have Km3 := nfc Km2 hm3
   simp -implicitDefEqProofs (maxDischargeDepth := 80) [hl, hi, neC hi, neA, ltA, aC, aB, aA, Km3]
   refine aD ((ct) (by simp -implicitDefEqProofs (maxDischargeDepth := 80) [hl, hi, neC hi, neA, ltA, aC, aB, aA, Km3]) (by omega) (fun m4 hm4 => ?_))
   have im4 : id < m4 := by omega
   have Km4 := nfc Km3 hm4
   simp -implicitDefEqProofs (maxDischargeDepth := 80) [hl, hi, neC hi, neA, ltA, aC, aB, aA, Km4]
   refine aD ((c2) (by simp -implicitDefEqProofs (maxDischargeDepth := 80) [hl, hi, neC hi, neA, ltA, aC, aB, aA, Km4]) (by omega) (fun m6 hm6 => ?_))
   have im6 : id < m6 := by omega
   have Km6 := nfc Km4 hm6
   simp -implicitDefEqProofs (maxDischargeDepth := 80) [hl, hi, neC hi, neA, ltA, aC, aB, aA, Km6]
   refine aH (c3) (by simp) ?_
   simp -implicitDefEqProofs (maxDischargeDepth := 80) [hl, hi, neC hi, neA, ltA, aC, aB, aA, Km6]
   exact ⟨_, (by repeat (first | exact aG _ | refine aE ?_ (aF (hfr _ (by omega))) | refine aE ?_ (hfr _ (by omega)))), hk _ (by omega)⟩
theorem GG {N : Nat} (h1 : ∀ k, k < N → ∀ r, r.ok → EC 117 [] (cS k r) r) : ∀ n a (r : Rd) e r', n ≤ N → r.ok → dV n a r = some (e, r') → r'.ok ∧ r'.nest = r.nest := by
 intro n
 induction n with
 | zero => intro a r e r' _ _ h; simp [dV] at h
 | succ n ih =>
  intro a r e r' hn h hrun
  unfold dV at hrun
  split at hrun
  ·rename_i hs
   cases hc : cS n r.adv with
   | none => rw [hc] at hrun; simp at hrun
   | some p =>
    obtain ⟨b, r2⟩ := p
    rw [hc] at hrun
    simp only [Option.bind_some] at hrun
    have h4 : r.next.kind ≠ 4 := by
     rcases Bool.or_eq_true_iff.1 hs with h | h
     ·exact Rd.is_4 h
     ·exact Rd.is_4 h
    obtain ⟨k2, n2, _⟩ := h1 n (by omega) r.adv (Rd.ok_adv h h4) b r2 hc
    obtain ⟨k3, n3⟩ := ih _ r2 e r' (by omega) k2 hrun
    exact ⟨k3, n3.trans n2⟩
  ·simp only [Option.some.injEq, Prod.mk.injEq] at hrun
   obtain ⟨_, rfl⟩ := hrun
   exact ⟨h, rfl⟩
theorem sum_s {n : Nat} (h1 : ∀ k, k ≤ n → ∀ r, r.ok → EC 117 [] (cS k r) r) :
  ∀ r, r.ok → EC 116 [] (eJ (n + 1) r) r := by
 intro r h e r' hrun
 unfold eJ at hrun
 cases hc : cS n r with
 | none => rw [hc] at hrun; simp at hrun
 | some p =>
  obtain ⟨a, r1⟩ := p
  rw [hc] at hrun
  simp only [Option.bind_some] at hrun
  obtain ⟨k1, n1, c1⟩ := h1 n (Nat.le_refl _) r h a r1 hc
  obtain ⟨k9, n9⟩ := GG (N := n) (fun k hk => h1 k (by omega)) n a r1 e r' (Nat.le_refl _) k1 hrun
  refine ⟨k9, n9.trans n1, ?_⟩
  simp only [aA] at c1
  intro id mem nx K hl hi hk
  simp only [aA] at hk
  refine fi116.ct (by simp) fun hfr => ?_
  simp -implicitDefEqProofs (maxDischargeDepth := 80) [ac116, hl, hi, neC hi, neA, ltA, aC, aB, aA]
  refine aD ((c1) (by simp -implicitDefEqProofs (maxDischargeDepth := 80) [hl, hi, neC hi, neA, ltA, aC, aB, aA]) (by omega) (fun m1 hm1 => ?_))
  have im1 : id < m1 := by omega
  have Km1 := nfc trivial hm1
  simp -implicitDefEqProofs (maxDischargeDepth := 80) [hl, hi, neC hi, neA, ltA, aC, aB, aA, Km1]
  refine lpG cf116 lb116_0 [4, 5, 6] (α := Nat × Ex × Rd) (fun _ _ => []) (fun s _ => (nx + 1 + 2, .box (aR s.2.1)) :: (nx, .box [I 0, Tx [], Tx [], I 0, CX 0 0, .pl (.slice none 0 0), I 0]) :: upd mem id (.box (aC s.2.2)))
   (fun s m => nx + 1 + 3 ≤ m ∧ s.1 ≤ n ∧ s.2.2.ok ∧ dV s.1 s.2.1 s.2.2 = some (e, r')) (fun s => s.1) (n, a, r1) ⟨by omega, Nat.le_refl _, k1, hrun⟩ (by simp) (by simp [aA, aC]) ?_
  rintro ⟨f, x, q⟩ m ⟨hm, hf, hq, hrun⟩
  have Km := nfc Km1 hm
  simp only at hf hq hrun
  cases f with
  | zero => simp [dV] at hrun
  | succ f =>
   unfold dV at hrun
   have ci := jJ hq [43]
   have cj := jJ hq [45]
   have cn := fG hq
   simp only [aB] at cn
   have hl2 := hq.lt
   have hl3 := hq.len
   have w := aX (x := (q.at' : Int) + 1) (by omega) (by omega)
   have step : ∀ b r2, q.next.kind ≠ 4 → cS f q.adv = some (b, r2) → r2.ok ∧ RC 117 [] q.adv r2 (.agg (aR b)) := fun b r2 h4 hb => by
    obtain ⟨k2, _, c2⟩ := h1 f (by omega) q.adv (Rd.ok_adv hq h4) b r2 hb
    exact ⟨k2, c2⟩
   have body : (q.is [43] || q.is [45]) = true → ∃ b r2, (r2.ok ∧ RC 117 [] q.adv r2 (.agg (aR b))) ∧ dV f (two (if q.next.text = [45] then 9 else 8) x b q.next) r2 = some (e, r') := fun hs => by
    rw [if_pos hs] at hrun
    cases hc : cS f q.adv with
    | none => rw [hc] at hrun; simp at hrun
    | some p =>
     rw [hc] at hrun
     refine ⟨p.1, p.2, step p.1 p.2 ?_ hc, hrun⟩
     rcases Bool.or_eq_true_iff.1 hs with h | h
     ·exact Rd.is_4 h
     ·exact Rd.is_4 h
   cases hs : q.is [43] <;> rw [hs] at ci
   ·cases hu : q.is [45] <;> rw [hu] at cj
    ·rw [hs, hu, if_neg (by decide)] at hrun
     simp only [Option.some.injEq, Prod.mk.injEq] at hrun
     obtain ⟨rfl, rfl⟩ := hrun
     simp -implicitDefEqProofs (maxDischargeDepth := 80) [lb116_0, hl, hi, neC hi, neA, ltA, aC, aB, aA, Km]
     refine aD ((ci) (by simp -implicitDefEqProofs (maxDischargeDepth := 80) [hl, hi, neC hi, neA, ltA, aC, aB, aA, Km]) (by omega) (fun m2 hm2 => ?_))
     have im2 : id < m2 := by omega
     have Km2 := nfc Km hm2
     simp -implicitDefEqProofs (maxDischargeDepth := 80) [hl, hi, neC hi, neA, ltA, aC, aB, aA, Km2]
     refine aD ((cj) (by simp -implicitDefEqProofs (maxDischargeDepth := 80) [hl, hi, neC hi, neA, ltA, aC, aB, aA, Km2]) (by omega) (fun m3 hm3 => ?_))
     have im3 : id < m3 := by omega
     have Km3 := nfc Km2 hm3
     simp -implicitDefEqProofs (maxDischargeDepth := 80) [hl, hi, neC hi, neA, ltA, aC, aB, aA, Km3]
     exact ⟨_, (by repeat (first | exact aG _ | refine aE ?_ (aF (hfr _ (by omega))) | refine aE ?_ (hfr _ (by omega)))), hk _ (by omega)⟩
    ·obtain ⟨b, r2, ⟨k2, c2⟩, hrun2⟩ := body (by rw [hu]; simp)
     have ht : q.next.text = [45] := (Rd.is_kind hu).2.2
     rw [if_pos ht] at hrun2
     have c3 := mY 9 x b q.next
     simp only [aA, aB] at c2 c3
     rw [ht] at c3 cn
     simp -implicitDefEqProofs (maxDischargeDepth := 80) [lb116_0, hl, hi, neC hi, neA, ltA, aC, aB, aA, Km]
     refine aD ((ci) (by simp -implicitDefEqProofs (maxDischargeDepth := 80) [hl, hi, neC hi, neA, ltA, aC, aB, aA, Km]) (by omega) (fun m2 hm2 => ?_))
     have im2 : id < m2 := by omega
     have Km2 := nfc Km hm2
     simp -implicitDefEqProofs (maxDischargeDepth := 80) [hl, hi, neC hi, neA, ltA, aC, aB, aA, Km2]
     refine aD ((cj) (by simp -implicitDefEqProofs (maxDischargeDepth := 80) [hl, hi, neC hi, neA, ltA, aC, aB, aA, Km2]) (by omega) (fun m3 hm3 => ?_))
     have im3 : id < m3 := by omega
     have Km3 := nfc Km2 hm3
     simp -implicitDefEqProofs (maxDischargeDepth := 80) [hl, hi, neC hi, neA, ltA, aC, aB, aA, Km3]
     refine aD ((cn) (by simp -implicitDefEqProofs (maxDischargeDepth := 80) [hl, hi, neC hi, neA, ltA, aC, aB, aA, Km3]) (by omega) (fun m4 hm4 => ?_))
     have im4 : id < m4 := by omega
     have Km4 := nfc Km3 hm4
     simp -implicitDefEqProofs (maxDischargeDepth := 80) [hl, hi, neC hi, neA, ltA, aC, aB, aA, Km4, w]
     refine aD ((c2) (by simp -implicitDefEqProofs (maxDischargeDepth := 80) [hl, hi, neC hi, neA, ltA, aC, aB, aA, Km4]) (by omega) (fun m5 hm5 => ?_))
     have im5 : id < m5 := by omega
     have Km5 := nfc Km4 hm5
     simp -implicitDefEqProofs (maxDischargeDepth := 80) [hl, hi, neC hi, neA, ltA, aC, aB, aA, Km5]
     refine aH (c3) (by simp) ?_
     simp -implicitDefEqProofs (maxDischargeDepth := 80) [hl, hi, neC hi, neA, ltA, aC, aB, aA, Km5]
     refine aK (f, two 9 x b q.next, r2) ⟨by omega, by simp only; omega, k2, hrun2⟩ (by simp only; omega) (by simp) ?_
     simp only [aA, aC]
     exact (by repeat (first | exact aL _ | refine aQ ?_ (by simp only [look]; repeat (first | rw [if_neg (by omega)] | exact aF (hfr _ (by omega)) | exact hfr _ (by omega)))))
   ·obtain ⟨b, r2, ⟨k2, c2⟩, hrun2⟩ := body (by rw [hs]; rfl)
    have ht : q.next.text = [43] := (Rd.is_kind hs).2.2
    have ht2 : ¬ q.next.text = [45] := by rw [ht]; simp
    rw [if_neg ht2] at hrun2
    have c3 := mY 8 x b q.next
    simp only [aA, aB] at c2 c3
    rw [ht] at c3 cn
    simp -implicitDefEqProofs (maxDischargeDepth := 80) [lb116_0, hl, hi, neC hi, neA, ltA, aC, aB, aA, Km]
    refine aD ((ci) (by simp -implicitDefEqProofs (maxDischargeDepth := 80) [hl, hi, neC hi, neA, ltA, aC, aB, aA, Km]) (by omega) (fun m2 hm2 => ?_))
    have im2 : id < m2 := by omega
    have Km2 := nfc Km hm2
    simp -implicitDefEqProofs (maxDischargeDepth := 80) [hl, hi, neC hi, neA, ltA, aC, aB, aA, Km2]
    refine aD ((cn) (by simp -implicitDefEqProofs (maxDischargeDepth := 80) [hl, hi, neC hi, neA, ltA, aC, aB, aA, Km2]) (by omega) (fun m4 hm4 => ?_))
    have im4 : id < m4 := by omega
    have Km4 := nfc Km2 hm4
    simp -implicitDefEqProofs (maxDischargeDepth := 80) [hl, hi, neC hi, neA, ltA, aC, aB, aA, Km4, w]
    refine aD ((c2) (by simp -implicitDefEqProofs (maxDischargeDepth := 80) [hl, hi, neC hi, neA, ltA, aC, aB, aA, Km4]) (by omega) (fun m5 hm5 => ?_))
    have im5 : id < m5 := by omega
    have Km5 := nfc Km4 hm5
    simp -implicitDefEqProofs (maxDischargeDepth := 80) [hl, hi, neC hi, neA, ltA, aC, aB, aA, Km5]
    refine aH (c3) (by simp) ?_
    simp -implicitDefEqProofs (maxDischargeDepth := 80) [hl, hi, neC hi, neA, ltA, aC, aB, aA, Km5]
    refine aK (f, two 8 x b q.next, r2) ⟨by omega, by simp only; omega, k2, hrun2⟩ (by simp only; omega) (by simp) ?_
    simp only [aA, aC]
    exact (by repeat (first | exact aL _ | refine aQ ?_ (by simp only [look]; repeat (first | rw [if_neg (by omega)] | exact aF (hfr _ (by omega)) | exact hfr _ (by omega)))))
theorem D1 {N : Nat} (h1 : ∀ k, k < N → ∀ r, r.ok → EC 118 [] (cU k r) r) : ∀ n a (r : Rd) e r', n ≤ N → r.ok → c9 n a r = some (e, r') → r'.ok ∧ r'.nest = r.nest := by
 intro n
 induction n with
 | zero => intro a r e r' _ _ h; simp [c9] at h
 | succ n ih =>
  intro a r e r' hn h hrun
  unfold c9 at hrun
  split at hrun
  ·rename_i hs
   cases hc : cU n r.adv with
   | none => rw [hc] at hrun; simp at hrun
   | some p =>
    obtain ⟨b, r2⟩ := p
    rw [hc] at hrun
    simp only [Option.bind_some] at hrun
    have h4 : r.next.kind ≠ 4 := by
     rcases Bool.or_eq_true_iff.1 hs with h | h
     ·exact Rd.is_4 h
     ·exact Rd.is_4 h
    obtain ⟨k2, n2, _⟩ := h1 n (by omega) r.adv (Rd.ok_adv h h4) b r2 hc
    obtain ⟨k3, n3⟩ := ih _ r2 e r' (by omega) k2 hrun
    exact ⟨k3, n3.trans n2⟩
  ·simp only [Option.some.injEq, Prod.mk.injEq] at hrun
   obtain ⟨_, rfl⟩ := hrun
   exact ⟨h, rfl⟩
theorem term_s {n : Nat} (h1 : ∀ k, k ≤ n → ∀ r, r.ok → EC 118 [] (cU k r) r) :
  ∀ r, r.ok → EC 117 [] (cS (n + 1) r) r := by
 intro r h e r' hrun
 unfold cS at hrun
 cases hc : cU n r with
 | none => rw [hc] at hrun; simp at hrun
 | some p =>
  obtain ⟨a, r1⟩ := p
  rw [hc] at hrun
  simp only [Option.bind_some] at hrun
  obtain ⟨k1, n1, c1⟩ := h1 n (Nat.le_refl _) r h a r1 hc
  obtain ⟨k9, n9⟩ := D1 (N := n) (fun k hk => h1 k (by omega)) n a r1 e r' (Nat.le_refl _) k1 hrun
  refine ⟨k9, n9.trans n1, ?_⟩
  simp only [aA] at c1
  intro id mem nx K hl hi hk
  simp only [aA] at hk
  refine fi117.ct (by simp) fun hfr => ?_
  simp -implicitDefEqProofs (maxDischargeDepth := 80) [ac117, hl, hi, neC hi, neA, ltA, aC, aB, aA]
  refine aD ((c1) (by simp -implicitDefEqProofs (maxDischargeDepth := 80) [hl, hi, neC hi, neA, ltA, aC, aB, aA]) (by omega) (fun m1 hm1 => ?_))
  have im1 : id < m1 := by omega
  have Km1 := nfc trivial hm1
  simp -implicitDefEqProofs (maxDischargeDepth := 80) [hl, hi, neC hi, neA, ltA, aC, aB, aA, Km1]
  refine lpG cf117 lb117_0 [4, 5, 6] (α := Nat × Ex × Rd) (fun _ _ => []) (fun s _ => (nx + 1 + 2, .box (aR s.2.1)) :: (nx, .box [I 0, Tx [], Tx [], I 0, CX 0 0, .pl (.slice none 0 0), I 0]) :: upd mem id (.box (aC s.2.2)))
   (fun s m => nx + 1 + 3 ≤ m ∧ s.1 ≤ n ∧ s.2.2.ok ∧ c9 s.1 s.2.1 s.2.2 = some (e, r')) (fun s => s.1) (n, a, r1) ⟨by omega, Nat.le_refl _, k1, hrun⟩ (by simp) (by simp [aA, aC]) ?_
  rintro ⟨f, x, q⟩ m ⟨hm, hf, hq, hrun⟩
  have Km := nfc Km1 hm
  simp only at hf hq hrun
  cases f with
  | zero => simp [c9] at hrun
  | succ f =>
   unfold c9 at hrun
   have ci := jJ hq [42]
   have cj := jJ hq [47]
   have cn := fG hq
   simp only [aB] at cn
   have hl2 := hq.lt
   have hl3 := hq.len
   have w := aX (x := (q.at' : Int) + 1) (by omega) (by omega)
   have step : ∀ b r2, q.next.kind ≠ 4 → cU f q.adv = some (b, r2) → r2.ok ∧ RC 118 [] q.adv r2 (.agg (aR b)) := fun b r2 h4 hb => by
    obtain ⟨k2, _, c2⟩ := h1 f (by omega) q.adv (Rd.ok_adv hq h4) b r2 hb
    exact ⟨k2, c2⟩
   have body : (q.is [42] || q.is [47]) = true → ∃ b r2, (r2.ok ∧ RC 118 [] q.adv r2 (.agg (aR b))) ∧ c9 f (two (if q.next.text = [47] then 11 else 10) x b q.next) r2 = some (e, r') := fun hs => by
    rw [if_pos hs] at hrun
    cases hc : cU f q.adv with
    | none => rw [hc] at hrun; simp at hrun
    | some p =>
     rw [hc] at hrun
     refine ⟨p.1, p.2, step p.1 p.2 ?_ hc, hrun⟩
     rcases Bool.or_eq_true_iff.1 hs with h | h
     ·exact Rd.is_4 h
     ·exact Rd.is_4 h
   cases hs : q.is [42] <;> rw [hs] at ci
   ·cases hu : q.is [47] <;> rw [hu] at cj
    ·rw [hs, hu, if_neg (by decide)] at hrun
     simp only [Option.some.injEq, Prod.mk.injEq] at hrun
     obtain ⟨rfl, rfl⟩ := hrun
     simp -implicitDefEqProofs (maxDischargeDepth := 80) [lb117_0, hl, hi, neC hi, neA, ltA, aC, aB, aA, Km]
     refine aD ((ci) (by simp -implicitDefEqProofs (maxDischargeDepth := 80) [hl, hi, neC hi, neA, ltA, aC, aB, aA, Km]) (by omega) (fun m2 hm2 => ?_))
     have im2 : id < m2 := by omega
     have Km2 := nfc Km hm2
     simp -implicitDefEqProofs (maxDischargeDepth := 80) [hl, hi, neC hi, neA, ltA, aC, aB, aA, Km2]
     refine aD ((cj) (by simp -implicitDefEqProofs (maxDischargeDepth := 80) [hl, hi, neC hi, neA, ltA, aC, aB, aA, Km2]) (by omega) (fun m3 hm3 => ?_))
     have im3 : id < m3 := by omega
     have Km3 := nfc Km2 hm3
     simp -implicitDefEqProofs (maxDischargeDepth := 80) [hl, hi, neC hi, neA, ltA, aC, aB, aA, Km3]
     exact ⟨_, (by repeat (first | exact aG _ | refine aE ?_ (aF (hfr _ (by omega))) | refine aE ?_ (hfr _ (by omega)))), hk _ (by omega)⟩
    ·obtain ⟨b, r2, ⟨k2, c2⟩, hrun2⟩ := body (by rw [hu]; simp)
     have ht : q.next.text = [47] := (Rd.is_kind hu).2.2
     rw [if_pos ht] at hrun2
     have c3 := mY 11 x b q.next
     simp only [aA, aB] at c2 c3
     rw [ht] at c3 cn
     simp -implicitDefEqProofs (maxDischargeDepth := 80) [lb117_0, hl, hi, neC hi, neA, ltA, aC, aB, aA, Km]
     refine aD ((ci) (by simp -implicitDefEqProofs (maxDischargeDepth := 80) [hl, hi, neC hi, neA, ltA, aC, aB, aA, Km]) (by omega) (fun m2 hm2 => ?_))
     have im2 : id < m2 := by omega
     have Km2 := nfc Km hm2
     simp -implicitDefEqProofs (maxDischargeDepth := 80) [hl, hi, neC hi, neA, ltA, aC, aB, aA, Km2]
     refine aD ((cj) (by simp -implicitDefEqProofs (maxDischargeDepth := 80) [hl, hi, neC hi, neA, ltA, aC, aB, aA, Km2]) (by omega) (fun m3 hm3 => ?_))
     have im3 : id < m3 := by omega
     have Km3 := nfc Km2 hm3
     simp -implicitDefEqProofs (maxDischargeDepth := 80) [hl, hi, neC hi, neA, ltA, aC, aB, aA, Km3]
     refine aD ((cn) (by simp -implicitDefEqProofs (maxDischargeDepth := 80) [hl, hi, neC hi, neA, ltA, aC, aB, aA, Km3]) (by omega) (fun m4 hm4 => ?_))
     have im4 : id < m4 := by omega
     have Km4 := nfc Km3 hm4
     simp -implicitDefEqProofs (maxDischargeDepth := 80) [hl, hi, neC hi, neA, ltA, aC, aB, aA, Km4, w]
     refine aD ((c2) (by simp -implicitDefEqProofs (maxDischargeDepth := 80) [hl, hi, neC hi, neA, ltA, aC, aB, aA, Km4]) (by omega) (fun m5 hm5 => ?_))
     have im5 : id < m5 := by omega
     have Km5 := nfc Km4 hm5
     simp -implicitDefEqProofs (maxDischargeDepth := 80) [hl, hi, neC hi, neA, ltA, aC, aB, aA, Km5]
     refine aH (c3) (by simp) ?_
     simp -implicitDefEqProofs (maxDischargeDepth := 80) [hl, hi, neC hi, neA, ltA, aC, aB, aA, Km5]
     refine aK (f, two 11 x b q.next, r2) ⟨by omega, by simp only; omega, k2, hrun2⟩ (by simp only; omega) (by simp) ?_
     simp only [aA, aC]
     exact (by repeat (first | exact aL _ | refine aQ ?_ (by simp only [look]; repeat (first | rw [if_neg (by omega)] | exact aF (hfr _ (by omega)) | exact hfr _ (by omega)))))
   ·obtain ⟨b, r2, ⟨k2, c2⟩, hrun2⟩ := body (by rw [hs]; rfl)
    have ht : q.next.text = [42] := (Rd.is_kind hs).2.2
    have ht2 : ¬ q.next.text = [47] := by rw [ht]; simp
    rw [if_neg ht2] at hrun2
    have c3 := mY 10 x b q.next
    simp only [aA, aB] at c2 c3
    rw [ht] at c3 cn
    simp -implicitDefEqProofs (maxDischargeDepth := 80) [lb117_0, hl, hi, neC hi, neA, ltA, aC, aB, aA, Km]
    refine aD ((ci) (by simp -implicitDefEqProofs (maxDischargeDepth := 80) [hl, hi, neC hi, neA, ltA, aC, aB, aA, Km]) (by omega) (fun m2 hm2 => ?_))
    have im2 : id < m2 := by omega
    have Km2 := nfc Km hm2
    simp -implicitDefEqProofs (maxDischargeDepth := 80) [hl, hi, neC hi, neA, ltA, aC, aB, aA, Km2]
    refine aD ((cn) (by simp -implicitDefEqProofs (maxDischargeDepth := 80) [hl, hi, neC hi, neA, ltA, aC, aB, aA, Km2]) (by omega) (fun m4 hm4 => ?_))
    have im4 : id < m4 := by omega
    have Km4 := nfc Km2 hm4
    simp -implicitDefEqProofs (maxDischargeDepth := 80) [hl, hi, neC hi, neA, ltA, aC, aB, aA, Km4, w]
    refine aD ((c2) (by simp -implicitDefEqProofs (maxDischargeDepth := 80) [hl, hi, neC hi, neA, ltA, aC, aB, aA, Km4]) (by omega) (fun m5 hm5 => ?_))
    have im5 : id < m5 := by omega
    have Km5 := nfc Km4 hm5
    simp -implicitDefEqProofs (maxDischargeDepth := 80) [hl, hi, neC hi, neA, ltA, aC, aB, aA, Km5]
    refine aH (c3) (by simp) ?_
    simp -implicitDefEqProofs (maxDischargeDepth := 80) [hl, hi, neC hi, neA, ltA, aC, aB, aA, Km5]
    refine aK (f, two 10 x b q.next, r2) ⟨by omega, by simp only; omega, k2, hrun2⟩ (by simp only; omega) (by simp) ?_
    simp only [aA, aC]
    exact (by repeat (first | exact aL _ | refine aQ ?_ (by simp only [look]; repeat (first | rw [if_neg (by omega)] | exact aF (hfr _ (by omega)) | exact hfr _ (by omega)))))
theorem word_c (s : List UInt8) : Pure Tryz.prog 120 [Tx s] (I (bT s)) := by
 refine fi120.pu (by simp) ?_
 unfold bT
 by_cases h0 : s = [116, 114, 117, 101]
 ·subst h0; simp -implicitDefEqProofs (maxDischargeDepth := 80) [ac120]
 ·
  by_cases h1 : s = [102, 97, 108, 115, 101]
  ·subst h1; simp -implicitDefEqProofs (maxDischargeDepth := 80) [ac120]
  ·
   by_cases h2 : s = [110, 105, 108]
   ·subst h2; simp -implicitDefEqProofs (maxDischargeDepth := 80) [ac120]
   ·
    by_cases h3 : s = [102, 97, 105, 108]
    ·subst h3; simp -implicitDefEqProofs (maxDischargeDepth := 80) [ac120]
    ·
     by_cases h4 : s = [110, 111, 116]
     ·subst h4; simp -implicitDefEqProofs (maxDischargeDepth := 80) [ac120]
     ·
      by_cases h5 : s = [114, 101]
      ·subst h5; simp -implicitDefEqProofs (maxDischargeDepth := 80) [ac120]
      ·
       by_cases h6 : s = [105, 109]
       ·subst h6; simp -implicitDefEqProofs (maxDischargeDepth := 80) [ac120]
       ·
        by_cases h7 : s = [99, 111, 110, 106]
        ·subst h7; simp -implicitDefEqProofs (maxDischargeDepth := 80) [ac120]
        ·
         simp -implicitDefEqProofs (maxDischargeDepth := 80) [ac120, h0, h1, h2, h3, h4, h5, h6, h7]
set_option maxHeartbeats 4000000
theorem lB (s : List UInt8) : bT s = 0 ∨ bT s = 2 ∨ bT s = 3 ∨ bT s = 4 ∨ bT s = 5 ∨ bT s = 14 ∨ bT s = 15 ∨ bT s = 16 ∨ bT s = 17 := by
 unfold bT
 repeat' split
 all_goals simp
theorem unit_s {n : Nat} (h1 : ∀ r, r.ok → EC 75 [] (a6 n r) r) (h2 : ∀ m r, r.ok → EC 119 [.agg (aB m)] (dT n m r) r) :
  ∀ r, r.ok → EC 118 [] (cU (n + 1) r) r := by
 intro r h e r' hrun
 have cn := fG h
 simp only [aB] at cn
 have hl2 := h.lt
 have hl3 := h.len
 have w := aX (x := (r.at' : Int) + 1) (by omega) (by omega)
 have ct := iL h [40]
 have cw := word_c r.next.text
 have cf := kY h 21
 unfold cU at hrun
 by_cases g1 : r.why = 0
 ·rw [if_neg (by simp [g1])] at hrun
  have KF1 := And.intro trivial (g1)
  by_cases g2 : r.next.kind = 2
  ·rw [if_pos g2] at hrun
   simp only [Option.some.injEq, Prod.mk.injEq] at hrun
   obtain ⟨rfl, rfl⟩ := hrun
   refine ⟨Rd.ok_adv h (by omega), rfl, ?_⟩
   intro id mem nx K hl hi hk
   simp [bZ, aC, g1] at hk
   refine bA ?_
   refine fi118.ct (by simp) fun hfr => ?_
   simp -implicitDefEqProofs (maxDischargeDepth := 80) [ac118, hl, hi, neC hi, neA, ltA, aC, aB, aA, KF1]
   refine aD ((cn) (by simp -implicitDefEqProofs (maxDischargeDepth := 80) [hl, hi, neC hi, neA, ltA, aC, aB, aA, KF1]) (by omega) (fun m1 hm1 => ?_))
   have im1 : id < m1 := by omega
   have Km1 := nfc KF1 hm1
   simp -implicitDefEqProofs (maxDischargeDepth := 80) [hl, hi, neC hi, neA, ltA, aC, aB, aA, Km1, g1, g2, w]
   exact dY (by repeat (first | exact aG _ | refine aE ?_ (aF (hfr _ (by omega))) | refine aE ?_ (hfr _ (by omega)))) (by simp [frz]) (hk _ (by omega))
  ·rw [if_neg g2] at hrun
   by_cases g3 : r.next.kind = 0
   ·rw [if_pos g3] at hrun
    obtain ⟨k2, n2, c2⟩ := h2 r.next r.adv (Rd.ok_adv h (by omega)) e r' hrun
    refine ⟨k2, n2, ?_⟩
    intro id mem nx K hl hi hk
    simp only [aA, aB, g3] at hk c2
    refine bA ?_
    refine fi118.ct (by simp) fun hfr => ?_
    simp -implicitDefEqProofs (maxDischargeDepth := 80) [ac118, hl, hi, neC hi, neA, ltA, aC, aB, aA, KF1]
    refine aD ((cn) (by simp -implicitDefEqProofs (maxDischargeDepth := 80) [hl, hi, neC hi, neA, ltA, aC, aB, aA, KF1]) (by omega) (fun m1 hm1 => ?_))
    have im1 : id < m1 := by omega
    have Km1 := nfc KF1 hm1
    simp -implicitDefEqProofs (maxDischargeDepth := 80) [hl, hi, neC hi, neA, ltA, aC, aB, aA, Km1, g1, g2, g3, w]
    refine aD ((c2) (by simp -implicitDefEqProofs (maxDischargeDepth := 80) [hl, hi, neC hi, neA, ltA, aC, aB, aA, Km1]) (by omega) (fun m2 hm2 => ?_))
    have im2 : id < m2 := by omega
    have Km2 := nfc Km1 hm2
    simp -implicitDefEqProofs (maxDischargeDepth := 80) [hl, hi, neC hi, neA, ltA, aC, aB, aA, Km2]
    exact dY (by repeat (first | exact aG _ | refine aE ?_ (aF (hfr _ (by omega))) | refine aE ?_ (hfr _ (by omega)))) (by simp [frz]) (hk _ (by omega))
   ·rw [if_neg g3] at hrun
    cases g4 : r.is [40] <;> rw [g4] at hrun ct
    ·rw [if_neg (by decide)] at hrun ct
     by_cases g5 : r.next.kind = 1
     ·by_cases g6 : bT r.next.text = 0
      ·rw [if_pos (.inr g6)] at hrun
       simp only [Option.some.injEq, Prod.mk.injEq] at hrun
       obtain ⟨rfl, rfl⟩ := hrun
       refine ⟨Rd.ok_fail h _, hJ, ?_⟩
       intro id mem nx K hl hi hk
       simp only [ex0, bZ] at hk
       refine bA ?_
       refine fi118.ct (by simp) fun hfr => ?_
       simp -implicitDefEqProofs (maxDischargeDepth := 80) [ac118, hl, hi, neC hi, neA, ltA, aC, aB, aA, KF1]
       refine aD ((cn) (by simp -implicitDefEqProofs (maxDischargeDepth := 80) [hl, hi, neC hi, neA, ltA, aC, aB, aA, KF1]) (by omega) (fun m1 hm1 => ?_))
       have im1 : id < m1 := by omega
       have Km1 := nfc KF1 hm1
       simp -implicitDefEqProofs (maxDischargeDepth := 80) [hl, hi, neC hi, neA, ltA, aC, aB, aA, Km1, g1, g2, g3, g5]
       refine aD ((ct) (by simp -implicitDefEqProofs (maxDischargeDepth := 80) [hl, hi, neC hi, neA, ltA, aC, aB, aA, Km1]) (by omega) (fun m2 hm2 => ?_))
       have im2 : id < m2 := by omega
       have Km2 := nfc Km1 hm2
       simp -implicitDefEqProofs (maxDischargeDepth := 80) [hl, hi, neC hi, neA, ltA, aC, aB, aA, Km2]
       refine aH (cw) (by simp) ?_
       simp -implicitDefEqProofs (maxDischargeDepth := 80) [hl, hi, neC hi, neA, ltA, aC, aB, aA, Km2, g5, g6]
       refine aD ((cf) (by simp -implicitDefEqProofs (maxDischargeDepth := 80) [hl, hi, neC hi, neA, ltA, aC, aB, aA, Km2]) (by omega) (fun m3 hm3 => ?_))
       have im3 : id < m3 := by omega
       have Km3 := nfc Km2 hm3
       simp -implicitDefEqProofs (maxDischargeDepth := 80) [hl, hi, neC hi, neA, ltA, aC, aB, aA, Km3]
       exact dY (by repeat (first | exact aG _ | refine aE ?_ (aF (hfr _ (by omega))) | refine aE ?_ (hfr _ (by omega)))) (by simp [frz]) (hk _ (by omega))
      ·rw [if_neg (by simp [g5, g6])] at hrun
       have ka : r.adv.ok := Rd.ok_adv h (by omega)
       by_cases g7 : bT r.next.text = 5
       ·rw [if_pos g7] at hrun
        simp only [Option.some.injEq, Prod.mk.injEq] at hrun
        obtain ⟨rfl, rfl⟩ := hrun
        have cy := qY ka
        rw [g7] at cw
        refine ⟨Rd.ok_typ ka, qF, ?_⟩
        intro id mem nx K hl hi hk
        simp only [bZ] at hk
        refine bA ?_
        refine fi118.ct (by simp) fun hfr => ?_
        simp -implicitDefEqProofs (maxDischargeDepth := 80) [ac118, hl, hi, neC hi, neA, ltA, aC, aB, aA, KF1]
        refine aD ((cn) (by simp -implicitDefEqProofs (maxDischargeDepth := 80) [hl, hi, neC hi, neA, ltA, aC, aB, aA, KF1]) (by omega) (fun m1 hm1 => ?_))
        have im1 : id < m1 := by omega
        have Km1 := nfc KF1 hm1
        simp -implicitDefEqProofs (maxDischargeDepth := 80) [hl, hi, neC hi, neA, ltA, aC, aB, aA, Km1, g1, g2, g3, g5]
        refine aD ((ct) (by simp -implicitDefEqProofs (maxDischargeDepth := 80) [hl, hi, neC hi, neA, ltA, aC, aB, aA, Km1]) (by omega) (fun m2 hm2 => ?_))
        have im2 : id < m2 := by omega
        have Km2 := nfc Km1 hm2
        simp -implicitDefEqProofs (maxDischargeDepth := 80) [hl, hi, neC hi, neA, ltA, aC, aB, aA, Km2]
        refine aH (cw) (by simp) ?_
        simp -implicitDefEqProofs (maxDischargeDepth := 80) [hl, hi, neC hi, neA, ltA, aC, aB, aA, Km2, g5, w]
        refine aH (cw) (by simp) ?_
        simp -implicitDefEqProofs (maxDischargeDepth := 80) [hl, hi, neC hi, neA, ltA, aC, aB, aA, Km2]
        refine aD ((cy) (by simp -implicitDefEqProofs (maxDischargeDepth := 80) [hl, hi, neC hi, neA, ltA, aC, aB, aA, Km2]) (by omega) (fun m3 hm3 => ?_))
        have im3 : id < m3 := by omega
        have Km3 := nfc Km2 hm3
        simp -implicitDefEqProofs (maxDischargeDepth := 80) [hl, hi, neC hi, neA, ltA, aC, aB, aA, Km3]
        exact dY (by repeat (first | exact aG _ | refine aE ?_ (aF (hfr _ (by omega))) | refine aE ?_ (hfr _ (by omega)))) (by simp [frz]) (hk _ (by omega))
       ·rw [if_neg g7] at hrun
        by_cases g8 : 14 ≤ bT r.next.text
        ·rw [if_pos g8] at hrun
         simp only [Option.map_eq_some_iff, Prod.mk.injEq] at hrun
         obtain ⟨⟨x, q⟩, hx, rfl, rfl⟩ := hrun
         have cy := dI ka [40]
         obtain ⟨k2, n2, c2⟩ := h1 (r.adv.want [40]) (Rd.ok_want ka _) x q hx
         have cz := dI k2 [41]
         have hv : bT r.next.text = 14 ∨ bT r.next.text = 15 ∨ bT r.next.text = 16 ∨ bT r.next.text = 17 := by
          have := lB r.next.text
          omega
         refine ⟨Rd.ok_want k2 _, nest_want.trans (n2.trans nest_want), ?_⟩
         intro id mem nx K hl hi hk
         simp only [bZ, em_1] at hk
         simp only [aA] at hk c2
         generalize bT r.next.text = v at *
         refine bA ?_
         refine fi118.ct (by simp) fun hfr => ?_
         rcases hv with rfl | rfl | rfl | rfl
         all_goals
          simp -implicitDefEqProofs (maxDischargeDepth := 80) [ac118, hl, hi, neC hi, neA, ltA, aC, aB, aA, KF1]
          refine aD ((cn) (by simp -implicitDefEqProofs (maxDischargeDepth := 80) [hl, hi, neC hi, neA, ltA, aC, aB, aA, KF1]) (by omega) (fun m1 hm1 => ?_))
          have im1 : id < m1 := by omega
          have Km1 := nfc KF1 hm1
          simp -implicitDefEqProofs (maxDischargeDepth := 80) [hl, hi, neC hi, neA, ltA, aC, aB, aA, Km1, g1, g2, g3, g5]
          refine aD ((ct) (by simp -implicitDefEqProofs (maxDischargeDepth := 80) [hl, hi, neC hi, neA, ltA, aC, aB, aA, Km1]) (by omega) (fun m2 hm2 => ?_))
          have im2 : id < m2 := by omega
          have Km2 := nfc Km1 hm2
          simp -implicitDefEqProofs (maxDischargeDepth := 80) [hl, hi, neC hi, neA, ltA, aC, aB, aA, Km2]
          refine aH (cw) (by simp) ?_
          simp -implicitDefEqProofs (maxDischargeDepth := 80) [hl, hi, neC hi, neA, ltA, aC, aB, aA, Km2, g5, w]
          refine aH (cw) (by simp) ?_
          simp -implicitDefEqProofs (maxDischargeDepth := 80) [hl, hi, neC hi, neA, ltA, aC, aB, aA, Km2]
          refine aD ((cy) (by simp -implicitDefEqProofs (maxDischargeDepth := 80) [hl, hi, neC hi, neA, ltA, aC, aB, aA, Km2]) (by omega) (fun m3 hm3 => ?_))
          have im3 : id < m3 := by omega
          have Km3 := nfc Km2 hm3
          simp -implicitDefEqProofs (maxDischargeDepth := 80) [hl, hi, neC hi, neA, ltA, aC, aB, aA, Km3]
          refine aD ((c2) (by simp -implicitDefEqProofs (maxDischargeDepth := 80) [hl, hi, neC hi, neA, ltA, aC, aB, aA, Km3]) (by omega) (fun m4 hm4 => ?_))
          have im4 : id < m4 := by omega
          have Km4 := nfc Km3 hm4
          simp -implicitDefEqProofs (maxDischargeDepth := 80) [hl, hi, neC hi, neA, ltA, aC, aB, aA, Km4]
          refine aD ((cz) (by simp -implicitDefEqProofs (maxDischargeDepth := 80) [hl, hi, neC hi, neA, ltA, aC, aB, aA, Km4]) (by omega) (fun m5 hm5 => ?_))
          have im5 : id < m5 := by omega
          have Km5 := nfc Km4 hm5
          simp -implicitDefEqProofs (maxDischargeDepth := 80) [hl, hi, neC hi, neA, ltA, aC, aB, aA, Km5]
          exact dY (by repeat (first | exact aG _ | refine aE ?_ (aF (hfr _ (by omega))) | refine aE ?_ (hfr _ (by omega)))) (by simp [frz]) (hk _ (by omega))
        ·rw [if_neg g8] at hrun
         simp only [Option.some.injEq, Prod.mk.injEq] at hrun
         obtain ⟨rfl, rfl⟩ := hrun
         have hv : bT r.next.text = 2 ∨ bT r.next.text = 3 ∨ bT r.next.text = 4 := by
          have := lB r.next.text
          omega
         refine ⟨ka, rfl, ?_⟩
         intro id mem nx K hl hi hk
         simp [bZ, aC, g1] at hk
         generalize bT r.next.text = v at *
         refine bA ?_
         refine fi118.ct (by simp) fun hfr => ?_
         rcases hv with rfl | rfl | rfl
         all_goals
          simp -implicitDefEqProofs (maxDischargeDepth := 80) [ac118, hl, hi, neC hi, neA, ltA, aC, aB, aA, KF1]
          refine aD ((cn) (by simp -implicitDefEqProofs (maxDischargeDepth := 80) [hl, hi, neC hi, neA, ltA, aC, aB, aA, KF1]) (by omega) (fun m1 hm1 => ?_))
          have im1 : id < m1 := by omega
          have Km1 := nfc KF1 hm1
          simp -implicitDefEqProofs (maxDischargeDepth := 80) [hl, hi, neC hi, neA, ltA, aC, aB, aA, Km1, g1, g2, g3, g5]
          refine aD ((ct) (by simp -implicitDefEqProofs (maxDischargeDepth := 80) [hl, hi, neC hi, neA, ltA, aC, aB, aA, Km1]) (by omega) (fun m2 hm2 => ?_))
          have im2 : id < m2 := by omega
          have Km2 := nfc Km1 hm2
          simp -implicitDefEqProofs (maxDischargeDepth := 80) [hl, hi, neC hi, neA, ltA, aC, aB, aA, Km2]
          refine aH (cw) (by simp) ?_
          simp -implicitDefEqProofs (maxDischargeDepth := 80) [hl, hi, neC hi, neA, ltA, aC, aB, aA, Km2, g5, w]
          refine aH (cw) (by simp) ?_
          simp -implicitDefEqProofs (maxDischargeDepth := 80) [hl, hi, neC hi, neA, ltA, aC, aB, aA, Km2]
          exact dY (by repeat (first | exact aG _ | refine aE ?_ (aF (hfr _ (by omega))) | refine aE ?_ (hfr _ (by omega)))) (by simp [frz]) (hk _ (by omega))
     ·rw [if_pos (.inl g5)] at hrun
      simp only [Option.some.injEq, Prod.mk.injEq] at hrun
      obtain ⟨rfl, rfl⟩ := hrun
      refine ⟨Rd.ok_fail h _, hJ, ?_⟩
      intro id mem nx K hl hi hk
      simp only [ex0, bZ] at hk
      refine bA ?_
      refine fi118.ct (by simp) fun hfr => ?_
      simp -implicitDefEqProofs (maxDischargeDepth := 80) [ac118, hl, hi, neC hi, neA, ltA, aC, aB, aA, KF1]
      refine aD ((cn) (by simp -implicitDefEqProofs (maxDischargeDepth := 80) [hl, hi, neC hi, neA, ltA, aC, aB, aA, KF1]) (by omega) (fun m1 hm1 => ?_))
      have im1 : id < m1 := by omega
      have Km1 := nfc KF1 hm1
      simp -implicitDefEqProofs (maxDischargeDepth := 80) [hl, hi, neC hi, neA, ltA, aC, aB, aA, Km1, g1, g2, g3, g5]
      refine aD ((ct) (by simp -implicitDefEqProofs (maxDischargeDepth := 80) [hl, hi, neC hi, neA, ltA, aC, aB, aA, Km1]) (by omega) (fun m2 hm2 => ?_))
      have im2 : id < m2 := by omega
      have Km2 := nfc Km1 hm2
      simp -implicitDefEqProofs (maxDischargeDepth := 80) [hl, hi, neC hi, neA, ltA, aC, aB, aA, Km2, g5]
      refine aD ((cf) (by simp -implicitDefEqProofs (maxDischargeDepth := 80) [hl, hi, neC hi, neA, ltA, aC, aB, aA, Km2]) (by omega) (fun m3 hm3 => ?_))
      have im3 : id < m3 := by omega
      have Km3 := nfc Km2 hm3
      simp -implicitDefEqProofs (maxDischargeDepth := 80) [hl, hi, neC hi, neA, ltA, aC, aB, aA, Km3]
      exact dY (by repeat (first | exact aG _ | refine aE ?_ (aF (hfr _ (by omega))) | refine aE ?_ (hfr _ (by omega)))) (by simp [frz]) (hk _ (by omega))
    ·rw [if_pos rfl] at hrun ct
     simp only [Option.map_eq_some_iff, Prod.mk.injEq] at hrun
     obtain ⟨⟨x, q⟩, hx, rfl, rfl⟩ := hrun
     obtain ⟨k2, n2, c2⟩ := h1 r.adv (Rd.ok_adv h (Rd.is_4 g4)) x q hx
     have cz := dI k2 [41]
     refine ⟨Rd.ok_want k2 _, nest_want.trans n2, ?_⟩
     intro id mem nx K hl hi hk
     simp only [aA] at hk c2
     refine bA ?_
     refine fi118.ct (by simp) fun hfr => ?_
     simp -implicitDefEqProofs (maxDischargeDepth := 80) [ac118, hl, hi, neC hi, neA, ltA, aC, aB, aA, KF1]
     refine aD ((cn) (by simp -implicitDefEqProofs (maxDischargeDepth := 80) [hl, hi, neC hi, neA, ltA, aC, aB, aA, KF1]) (by omega) (fun m1 hm1 => ?_))
     have im1 : id < m1 := by omega
     have Km1 := nfc KF1 hm1
     simp -implicitDefEqProofs (maxDischargeDepth := 80) [hl, hi, neC hi, neA, ltA, aC, aB, aA, Km1, g1, g2, g3]
     refine aD ((ct) (by simp -implicitDefEqProofs (maxDischargeDepth := 80) [hl, hi, neC hi, neA, ltA, aC, aB, aA, Km1]) (by omega) (fun m2 hm2 => ?_))
     have im2 : id < m2 := by omega
     have Km2 := nfc Km1 hm2
     simp -implicitDefEqProofs (maxDischargeDepth := 80) [hl, hi, neC hi, neA, ltA, aC, aB, aA, Km2]
     refine aD ((c2) (by simp -implicitDefEqProofs (maxDischargeDepth := 80) [hl, hi, neC hi, neA, ltA, aC, aB, aA, Km2]) (by omega) (fun m3 hm3 => ?_))
     have im3 : id < m3 := by omega
     have Km3 := nfc Km2 hm3
     simp -implicitDefEqProofs (maxDischargeDepth := 80) [hl, hi, neC hi, neA, ltA, aC, aB, aA, Km3]
     refine aD ((cz) (by simp -implicitDefEqProofs (maxDischargeDepth := 80) [hl, hi, neC hi, neA, ltA, aC, aB, aA, Km3]) (by omega) (fun m4 hm4 => ?_))
     have im4 : id < m4 := by omega
     have Km4 := nfc Km3 hm4
     simp -implicitDefEqProofs (maxDischargeDepth := 80) [hl, hi, neC hi, neA, ltA, aC, aB, aA, Km4]
     exact dY (by repeat (first | exact aG _ | refine aE ?_ (aF (hfr _ (by omega))) | refine aE ?_ (hfr _ (by omega)))) (by simp [frz]) (hk _ (by omega))
 ·rw [if_pos g1] at hrun
  simp only [Option.some.injEq, Prod.mk.injEq] at hrun
  obtain ⟨rfl, rfl⟩ := hrun
  refine ⟨h, rfl, ?_⟩
  intro id mem nx K hl hi hk
  rw [c8 hl] at hk
  simp only [ex0, bZ] at hk
  refine bA ?_
  refine fi118.ct (by simp) fun hfr => ?_
  simp -implicitDefEqProofs (maxDischargeDepth := 80) [ac118, hl, hi, neC hi, neA, ltA, aC, aB, aA]
  refine aD ((cn) (by simp -implicitDefEqProofs (maxDischargeDepth := 80) [hl, hi, neC hi, neA, ltA, aC, aB, aA]) (by omega) (fun m1 hm1 => ?_))
  have im1 : id < m1 := by omega
  have Km1 := nfc trivial hm1
  simp -implicitDefEqProofs (maxDischargeDepth := 80) [hl, hi, neC hi, neA, ltA, aC, aB, aA, Km1, g1]
  exact dY (by repeat (first | exact aG _ | refine aE ?_ (aF (hfr _ (by omega))) | refine aE ?_ (hfr _ (by omega)))) (by simp [frz]) (hk _ (by omega))
theorem A2 {N : Nat} (h1 : ∀ k, k < N → ∀ r, r.ok → EC 75 [] (a6 k r) r) : ∀ n l (r : Rd) L r', n ≤ N → r.ok → cR n l r = some (L, r') → r'.ok ∧ r'.nest = r.nest := by
 intro n
 induction n with
 | zero => intro a r e r' _ _ h; simp [cR] at h
 | succ n ih =>
  intro l r L r' hn h hrun
  unfold cR at hrun
  split at hrun
  ·have hq : (if l = [] then r else r.want [44]).ok ∧ (if l = [] then r else r.want [44]).nest = r.nest := by
    split
    ·exact ⟨h, rfl⟩
    ·exact ⟨Rd.ok_want h _, nest_want⟩
   cases hc : a6 n (if l = [] then r else r.want [44]) with
   | none => rw [hc] at hrun; simp at hrun
   | some p =>
    rw [hc] at hrun
    obtain ⟨k2, n2, _⟩ := h1 n (by omega) _ hq.1 p.1 p.2 hc
    obtain ⟨k3, n3⟩ := ih _ p.2 L r' (by omega) k2 hrun
    exact ⟨k3, n3.trans (n2.trans hq.2)⟩
  ·simp only [Option.some.injEq, Prod.mk.injEq] at hrun
   obtain ⟨_, rfl⟩ := hrun
   exact ⟨h, rfl⟩
theorem F2 {n : Nat} (hN : n ≤ 2 ^ 40) (h1 : ∀ k, k ≤ n → ∀ r, r.ok → EC 75 [] (a6 k r) r) :
  ∀ m r, r.ok → EC 119 [.agg (aB m)] (dT (n + 1) m r) r := by
 intro mk r h e r' hrun
 have ct := iL h [40]
 unfold dT at hrun
 cases hs : r.is [40] <;> rw [hs] at hrun ct
 ·simp only [Bool.false_eq_true, if_false, Option.some.injEq, Prod.mk.injEq] at hrun ct
  obtain ⟨rfl, rfl⟩ := hrun
  refine ⟨h, rfl, ?_⟩
  intro id mem nx K hl hi hk
  simp only [bZ] at hk
  refine bA ?_
  refine fi119.ct (by simp) fun hfr => ?_
  simp -implicitDefEqProofs (maxDischargeDepth := 80) [ac119, hl, hi, neC hi, neA, ltA, aC, aB, aA]
  refine aD ((ct) (by simp -implicitDefEqProofs (maxDischargeDepth := 80) [hl, hi, neC hi, neA, ltA, aC, aB, aA]) (by omega) (fun m1 hm1 => ?_))
  have im1 : id < m1 := by omega
  have Km1 := nfc trivial hm1
  simp -implicitDefEqProofs (maxDischargeDepth := 80) [hl, hi, neC hi, neA, ltA, aC, aB, aA, Km1]
  exact dY (by repeat (first | exact aG _ | refine aE ?_ (aF (hfr _ (by omega))) | refine aE ?_ (hfr _ (by omega)))) (by simp [frz]) (hk _ (by omega))
 ·simp only [if_true, Option.map_eq_some_iff, Prod.mk.injEq] at hrun ct
  obtain ⟨⟨L, q⟩, hL, rfl, rfl⟩ := hrun
  have ha := Rd.ok_adv h (Rd.is_4 hs)
  obtain ⟨k9, n9⟩ := A2 (N := n) (fun k hk => h1 k (by omega)) n [] r.adv L q (Nat.le_refl _) ha hL
  have cz := dI k9 [41]
  refine ⟨Rd.ok_want k9 _, nest_want.trans n9, ?_⟩
  intro id mem nx K hl hi hk
  simp only [bZ] at hk
  refine bA ?_
  refine fi119.ct (by simp) fun hfr => ?_
  simp -implicitDefEqProofs (maxDischargeDepth := 80) [ac119, hl, hi, neC hi, neA, ltA, aC, aB, aA]
  refine aD ((ct) (by simp -implicitDefEqProofs (maxDischargeDepth := 80) [hl, hi, neC hi, neA, ltA, aC, aB, aA]) (by omega) (fun m1 hm1 => ?_))
  have im1 : id < m1 := by omega
  have Km1 := nfc trivial hm1
  simp -implicitDefEqProofs (maxDischargeDepth := 80) [hl, hi, neC hi, neA, ltA, aC, aB, aA, Km1]
  refine l6 (id := m1 + 5) (off := 5) (k := 7) (by rw [a7, if_pos rfl]) rfl (.inl rfl) ?_
  refine lpG cf119 lb119_0 [6] (α := Nat × List Ex × Rd) (fun _ _ => []) (fun s _ => (m1 + 7, .arr s.2.1.length 7 (em aR s.2.1)) :: (m1 + 5, .box [I 7, Tx mk.text, Tx [], I 0, CX 0 0, .osl (m1 + 7) s.2.1.length 0 s.2.1.length, I mk.at']) :: (nx + 1, .box [I 0, Tx [], Tx [], I 0, CX 0 0, .pl (.slice none 0 0), I 0]) :: upd mem id (.box (aC s.2.2)))
   (fun s m => m1 + 8 ≤ m ∧ s.1 + s.2.1.length ≤ n ∧ s.2.2.ok ∧ cR s.1 s.2.1 s.2.2 = some (L, q)) (fun s => s.1) (n, [], r.adv) ⟨by omega, by simp, ha, hL⟩ (by simp) (by simp [aC]) ?_
  rintro ⟨f, l, y⟩ m ⟨hm, hf, hy, hrun⟩
  have Km := nfc Km1 hm
  simp only at hf hy hrun
  cases f with
  | zero => simp [cR] at hrun
  | succ f =>
   unfold cR at hrun
   have ci := jJ hy [41]
   have cw := dI hy [44]
   have bd : (l.length + 1) * 96 ≤ 3 * 2 ^ 46 := by omega
   by_cases g1 : y.why = 0
   ·have hw := hy
    have KF1 := And.intro Km (g1)
    cases hi2 : y.is [41] <;> rw [hi2] at ci
    ·rw [if_pos ⟨g1, hi2⟩] at hrun
     by_cases h0 : l = []
     ·subst h0
      rw [if_pos rfl] at hrun
      cases hc : a6 f y with
      | none => rw [hc] at hrun; simp at hrun
      | some p =>
       rw [hc] at hrun
       obtain ⟨k2, _, c2⟩ := h1 f (by omega) y hy p.1 p.2 hc
       simp only [aA] at c2
       simp -implicitDefEqProofs (maxDischargeDepth := 80) [lb119_0, hl, hi, neC hi, neA, ltA, aC, aB, aA, KF1]
       refine aD ((ci) (by simp -implicitDefEqProofs (maxDischargeDepth := 80) [hl, hi, neC hi, neA, ltA, aC, aB, aA, KF1]) (by omega) (fun m2 hm2 => ?_))
       have im2 : id < m2 := by omega
       have Km2 := nfc KF1 hm2
       simp -implicitDefEqProofs (maxDischargeDepth := 80) [hl, hi, neC hi, neA, ltA, aC, aB, aA, Km2]
       refine aD ((c2) (by simp -implicitDefEqProofs (maxDischargeDepth := 80) [hl, hi, neC hi, neA, ltA, aC, aB, aA, Km2]) (by omega) (fun m3 hm3 => ?_))
       have im3 : id < m3 := by omega
       have Km3 := nfc Km2 hm3
       simp -implicitDefEqProofs (maxDischargeDepth := 80) [hl, hi, neC hi, neA, ltA, aC, aB, aA, Km3]
       refine aK (f, [p.1], p.2) ⟨by omega, by simp only [List.length_cons, List.length_nil] at hf ⊢; omega, k2, hrun⟩ (by simp only; omega) (by simp) ?_
       simp only [em_1, aA, List.length_cons, List.length_nil]
       exact (by repeat (first | exact aL _ | refine aQ ?_ (by simp only [look]; repeat (first | rw [if_neg (by omega)] | exact aF (hfr _ (by omega)) | exact hfr _ (by omega)))))
     ·rw [if_neg h0] at hrun
      have hpos := List.length_pos_iff.2 h0
      cases hc : a6 f (y.want [44]) with
      | none => rw [hc] at hrun; simp at hrun
      | some p =>
       rw [hc] at hrun
       obtain ⟨k2, _, c2⟩ := h1 f (by omega) _ (Rd.ok_want hy _) p.1 p.2 hc
       simp only [aA] at c2
       simp -implicitDefEqProofs (maxDischargeDepth := 80) [lb119_0, hl, hi, neC hi, neA, ltA, aC, aB, aA, KF1]
       refine aD ((ci) (by simp -implicitDefEqProofs (maxDischargeDepth := 80) [hl, hi, neC hi, neA, ltA, aC, aB, aA, KF1]) (by omega) (fun m2 hm2 => ?_))
       have im2 : id < m2 := by omega
       have Km2 := nfc KF1 hm2
       simp -implicitDefEqProofs (maxDischargeDepth := 80) [hl, hi, neC hi, neA, ltA, aC, aB, aA, Km2, hpos]
       refine aD ((cw) (by simp -implicitDefEqProofs (maxDischargeDepth := 80) [hl, hi, neC hi, neA, ltA, aC, aB, aA, Km2]) (by omega) (fun m4 hm4 => ?_))
       have im4 : id < m4 := by omega
       have Km4 := nfc Km2 hm4
       simp -implicitDefEqProofs (maxDischargeDepth := 80) [hl, hi, neC hi, neA, ltA, aC, aB, aA, Km4]
       refine aD ((c2) (by simp -implicitDefEqProofs (maxDischargeDepth := 80) [hl, hi, neC hi, neA, ltA, aC, aB, aA, Km4]) (by omega) (fun m3 hm3 => ?_))
       have im3 : id < m3 := by omega
       have Km3 := nfc Km4 hm3
       simp -implicitDefEqProofs (maxDischargeDepth := 80) [hl, hi, neC hi, neA, ltA, aC, aB, aA, Km3]
       have hap := u_ l p.1
       rw [aA p.1] at hap
       refine ⟨by omega, aK (f, l ++ [p.1], p.2) ⟨by omega, by simp only [List.length_append, List.length_cons, List.length_nil]; omega, k2, hrun⟩ (by simp only; omega) (by simp) ?_⟩
       rw [hap]
       simp only [List.length_append, List.length_cons, List.length_nil, Nat.zero_add]
       exact (by repeat (first | exact aL _ | refine aQ ?_ (by simp only [look]; repeat (first | rw [if_neg (by omega)] | exact aF (hfr _ (by omega)) | exact hfr _ (by omega)))))
    ·rw [if_neg (by simp [hi2])] at hrun
     simp only [Option.some.injEq, Prod.mk.injEq] at hrun
     obtain ⟨rfl, rfl⟩ := hrun
     simp -implicitDefEqProofs (maxDischargeDepth := 80) [lb119_0, hl, hi, neC hi, neA, ltA, aC, aB, aA, KF1, g1]
     refine aD ((ci) (by simp -implicitDefEqProofs (maxDischargeDepth := 80) [hl, hi, neC hi, neA, ltA, aC, aB, aA, KF1]) (by omega) (fun m2 hm2 => ?_))
     have im2 : id < m2 := by omega
     have Km2 := nfc KF1 hm2
     simp -implicitDefEqProofs (maxDischargeDepth := 80) [hl, hi, neC hi, neA, ltA, aC, aB, aA, Km2]
     refine aD ((cz) (by simp -implicitDefEqProofs (maxDischargeDepth := 80) [hl, hi, neC hi, neA, ltA, aC, aB, aA, Km2]) (by omega) (fun m3 hm3 => ?_))
     have im3 : id < m3 := by omega
     have Km3 := nfc Km2 hm3
     simp -implicitDefEqProofs (maxDischargeDepth := 80) [hl, hi, neC hi, neA, ltA, aC, aB, aA, Km3]
     exact lR (m1 + 7) _ (by simp -implicitDefEqProofs (maxDischargeDepth := 80) [hl, hi, neC hi, neA, ltA, aC, aB, aA, Km3]; rfl) (by repeat (first | exact aG _ | refine aE ?_ (aF (hfr _ (by omega))) | refine aE ?_ (hfr _ (by omega)))) (aF (hfr _ (by omega))) (by simp [frz, look, List.take_of_length_le]) (hk _ (by omega))
   ·rw [if_neg (by simp [g1])] at hrun
    simp only [Option.some.injEq, Prod.mk.injEq] at hrun
    obtain ⟨rfl, rfl⟩ := hrun
    simp -implicitDefEqProofs (maxDischargeDepth := 80) [lb119_0, hl, hi, neC hi, neA, ltA, aC, aB, aA, Km, g1]
    refine aD ((cz) (by simp -implicitDefEqProofs (maxDischargeDepth := 80) [hl, hi, neC hi, neA, ltA, aC, aB, aA, Km]) (by omega) (fun m3 hm3 => ?_))
    have im3 : id < m3 := by omega
    have Km3 := nfc Km hm3
    simp -implicitDefEqProofs (maxDischargeDepth := 80) [hl, hi, neC hi, neA, ltA, aC, aB, aA, Km3]
    exact lR (m1 + 7) _ (by simp -implicitDefEqProofs (maxDischargeDepth := 80) [hl, hi, neC hi, neA, ltA, aC, aB, aA, Km3]; rfl) (by repeat (first | exact aG _ | refine aE ?_ (aF (hfr _ (by omega))) | refine aE ?_ (hfr _ (by omega)))) (aF (hfr _ (by omega))) (by simp [frz, look, List.take_of_length_le]) (hk _ (by omega))
theorem A6 {N : Nat} (h1 : ∀ k, k < N → ∀ r, r.ok → EC 75 [] (a6 k r) r) : ∀ n ss (r : Rd) L r', n ≤ N → r.ok → bF n ss r = some (L, r') → r'.ok ∧ r'.nest = r.nest := by
 intro n
 induction n with
 | zero => intro ss r L r' _ _ h; simp [bF] at h
 | succ n ih =>
  intro ss r L r' hn h hrun
  cases ss with
  | nil =>
   simp only [bF, Option.some.injEq, Prod.mk.injEq] at hrun
   obtain ⟨_, rfl⟩ := hrun
   exact ⟨h, rfl⟩
  | cons s ss =>
   unfold bF at hrun
   have hq : (if s = [] then r else r.want s).ok ∧ (if s = [] then r else r.want s).nest = r.nest := by
    split
    ·exact ⟨h, rfl⟩
    ·exact ⟨Rd.ok_want h _, nest_want⟩
   cases hc : a6 n (if s = [] then r else r.want s) with
   | none => rw [hc] at hrun; simp at hrun
   | some p =>
    rw [hc] at hrun
    simp only [Option.bind_some, Option.map_eq_some_iff, Prod.mk.injEq] at hrun
    obtain ⟨q2, hq2, _, rfl⟩ := hrun
    obtain ⟨k2, n2, _⟩ := h1 n (by omega) _ hq.1 p.1 p.2 hc
    obtain ⟨k3, n3⟩ := ih ss p.2 q2.1 q2.2 (by omega) k2 hq2
    exact ⟨k3, n3.trans (n2.trans hq.2)⟩
theorem F3 {n : Nat} (h1 : ∀ k, k < n → ∀ r, r.ok → EC 75 [] (a6 k r) r) (ss : List (List UInt8)) (hss : ss.length ≤ 100) (r : Rd) (h : r.ok) (L : List Ex) (r' : Rd)
  (hrun : bF n ss r = some (L, r')) : r'.ok ∧ r'.nest = r.nest ∧ RC 98 [.sl (em aI ss)] r r' (.sl (em aR L)) := by
 obtain ⟨k9, n9⟩ := A6 h1 n ss r L r' (Nat.le_refl _) h hrun
 refine ⟨k9, n9, ?_⟩
 intro id mem nx K hl hi hk
 refine bA ?_
 refine fi98.ct (by simp) fun hfr => ?_
 simp -implicitDefEqProofs (maxDischargeDepth := 80) [ac98, hl, hi, neC hi, neA, ltA, aC, aB, aA]
 refine dO (j := 5) (k := 7) rfl (.inl rfl) ?_
 generalize hB : nx + 1 + 1 + 1 = B0
 refine lpG cf98 lb98_0 [5, 6, 7] (α := Nat × Nat × List Ex × Rd) (fun s _ => [(5, .osl B0 s.2.2.1.length 0 s.2.2.1.length), (6, I s.2.1)]) (fun s _ => (B0, .arr s.2.2.1.length 7 (em aR s.2.2.1)) :: upd mem id (.box (aC s.2.2.2)))
  (fun s m => B0 < m ∧ s.1 ≤ n ∧ s.2.2.1.length = s.2.1 ∧ s.2.1 ≤ ss.length ∧ s.2.2.2.ok ∧ ∃ L2, bF s.1 (ss.drop s.2.1) s.2.2.2 = some (L2, r') ∧ s.2.2.1 ++ L2 = L) (fun s => s.1) (n, 0, [], r) ⟨by omega, Nat.le_refl _, rfl, by simp, h, L, hrun, rfl⟩ (by simp) (by simp [c8 hl]) ?_
 rintro ⟨f, i, l, y⟩ m ⟨hm, hf, hli, his, hy, L2, hrun, hL⟩
 have Km := nfc trivial hm
 simp only at hf hli his hy hrun hL
 have iB : id < B0 := by omega
 have KF1 := And.intro Km (iB)
 have KF2 := And.intro KF1 (neC iB)
 cases f with
 | zero => simp [bF] at hrun
 | succ f =>
  by_cases hlt : i < ss.length
  ·have hd : ss.drop i = ss[i] :: ss.drop (i + 1) := List.drop_eq_getElem_cons hlt
   have hg : ss[i]?.getD default = ss[i] := by rw [List.getElem?_eq_getElem hlt]; rfl
   rw [hd] at hrun
   unfold bF at hrun
   have w1 := aX (x := (i : Int) + 1) (by omega) (by omega)
   have cw := dI hy ss[i]
   by_cases h0 : ss[i] = []
   ·rw [if_pos h0] at hrun
    cases hc : a6 f y with
    | none => rw [hc] at hrun; simp at hrun
    | some p =>
     rw [hc] at hrun
     simp only [Option.bind_some, Option.map_eq_some_iff, Prod.mk.injEq] at hrun
     obtain ⟨q2, hq2, rfl, rfl⟩ := hrun
     obtain ⟨k2, _, c2⟩ := h1 f (by omega) y hy p.1 p.2 hc
     simp only [aA] at c2
     simp -implicitDefEqProofs (maxDischargeDepth := 80) [lb98_0, hl, hi, neC hi, neA, ltA, aC, aB, aA, KF2, hlt, hg, h0]
     refine aD ((c2) (by simp -implicitDefEqProofs (maxDischargeDepth := 80) [hl, hi, neC hi, neA, ltA, aC, aB, aA, KF2]) (by omega) (fun m3 hm3 => ?_))
     have im3 : id < m3 := by omega
     have Km3 := nfc KF2 hm3
     simp -implicitDefEqProofs (maxDischargeDepth := 80) [hl, hi, neC hi, neA, ltA, aC, aB, aA, Km3, hlt, hg, h0, w1]
     have hap := u_ l p.1
     rw [aA p.1] at hap
     have hl1 : (l ++ [p.1]).length = l.length + 1 := by simp
     refine ⟨by omega, aK (f, i + 1, l ++ [p.1], p.2) ⟨by omega, by simp only; omega, by simp only; omega, by simp only; omega, k2, q2.1, hq2, by simpa using hL⟩ (by simp only; omega) (by simp) ?_⟩
     rw [hap]
     simp only [List.length_append, List.length_cons, List.length_nil, Nat.zero_add]
     exact (by repeat (first | exact aL _ | refine aQ ?_ (by simp only [look]; repeat (first | rw [if_neg (by omega)] | exact aF (hfr _ (by omega)) | exact hfr _ (by omega)))))
   ·rw [if_neg h0] at hrun
    cases hc : a6 f (y.want ss[i]) with
    | none => rw [hc] at hrun; simp at hrun
    | some p =>
     rw [hc] at hrun
     simp only [Option.bind_some, Option.map_eq_some_iff, Prod.mk.injEq] at hrun
     obtain ⟨q2, hq2, rfl, rfl⟩ := hrun
     obtain ⟨k2, _, c2⟩ := h1 f (by omega) _ (Rd.ok_want hy _) p.1 p.2 hc
     simp only [aA] at c2
     simp -implicitDefEqProofs (maxDischargeDepth := 80) [lb98_0, hl, hi, neC hi, neA, ltA, aC, aB, aA, KF2, hlt, hg, h0]
     refine aD ((cw) (by simp -implicitDefEqProofs (maxDischargeDepth := 80) [hl, hi, neC hi, neA, ltA, aC, aB, aA, KF2]) (by omega) (fun m2 hm2 => ?_))
     have im2 : id < m2 := by omega
     have Km2 := nfc KF2 hm2
     simp -implicitDefEqProofs (maxDischargeDepth := 80) [hl, hi, neC hi, neA, ltA, aC, aB, aA, Km2]
     refine aD ((c2) (by simp -implicitDefEqProofs (maxDischargeDepth := 80) [hl, hi, neC hi, neA, ltA, aC, aB, aA, Km2]) (by omega) (fun m3 hm3 => ?_))
     have im3 : id < m3 := by omega
     have Km3 := nfc Km2 hm3
     simp -implicitDefEqProofs (maxDischargeDepth := 80) [hl, hi, neC hi, neA, ltA, aC, aB, aA, Km3, hlt, hg, h0, w1]
     have hap := u_ l p.1
     rw [aA p.1] at hap
     have hl1 : (l ++ [p.1]).length = l.length + 1 := by simp
     refine ⟨by omega, aK (f, i + 1, l ++ [p.1], p.2) ⟨by omega, by simp only; omega, by simp only; omega, by simp only; omega, k2, q2.1, hq2, by simpa using hL⟩ (by simp only; omega) (by simp) ?_⟩
     rw [hap]
     simp only [List.length_append, List.length_cons, List.length_nil, Nat.zero_add]
     exact (by repeat (first | exact aL _ | refine aQ ?_ (by simp only [look]; repeat (first | rw [if_neg (by omega)] | exact aF (hfr _ (by omega)) | exact hfr _ (by omega)))))
  ·have he : ss.drop i = [] := List.drop_eq_nil_of_le (by omega)
   rw [he] at hrun
   simp only [bF, Option.some.injEq, Prod.mk.injEq] at hrun
   obtain ⟨rfl, rfl⟩ := hrun
   simp only [List.append_nil] at hL
   subst hL
   simp -implicitDefEqProofs (maxDischargeDepth := 80) [lb98_0, hl, hi, neC hi, neA, ltA, aC, aB, aA, KF2, hlt]
   exact lR B0 _ (by simp -implicitDefEqProofs (maxDischargeDepth := 80) [hl, hi, neC hi, neA, ltA, aC, aB, aA, KF2]; rfl) (by repeat (first | exact aG _ | refine aE ?_ (aF (hfr _ (by omega))) | refine aE ?_ (hfr _ (by omega)))) (aF (hfr _ (by omega))) (by simp [frz, look, List.take_of_length_le]) (hk _ (by omega))
theorem upd_comm {α : Type} {i j : Nat} (h : i ≠ j) {a b : α} : ∀ {m : List (Nat × α)}, upd (upd m i a) j b = upd (upd m j b) i a
 | [] => rfl
 | (k, x) :: m => by
  by_cases h1 : k = i
  ·subst h1
   simp [upd, h]
  ·by_cases h2 : k = j
   ·subst h2
    simp [upd, h1]
   ·simp only [upd, h1, h2, if_false]; rw [upd_comm h]
theorem zJ {n : Nat} (h1 : ∀ r, r.ok → EC 75 [] (a6 n r) r) (r : Rd) (h : r.ok) (p : Int) (e : Ex) (r' : Rd) (hrun : cB (n + 1) r p = some (e, r')) :
  r'.ok ∧ r'.nest = r.nest ∧ ∀ (id id2 : Nat) (mem : Mem) (nx : Nat) (K : KD), look mem id = some (.box (aC r)) → id < nx → look mem id2 = some (.box [I 0, Tx [], Tx [], I 0, CX 0 0, .pl (.slice none 0 0), I p]) → id2 < nx → id ≠ id2 →
   (∀ nx', nx ≤ nx' → K (.tup []) (upd (upd mem id2 (.box (aR e))) id (.box (aC r'))) nx') → bH Tryz.prog 99 [.opt id 0, .opt id2 0] mem nx K := by
 unfold cB at hrun
 cases hc1 : a6 n r with
 | none => rw [hc1] at hrun; simp at hrun
 | some q1 =>
  obtain ⟨x, r1⟩ := q1
  rw [hc1] at hrun
  simp only [Option.bind_some] at hrun
  obtain ⟨k1, n1, c1⟩ := h1 r h x r1 hc1
  have w1 := dI k1 [111, 102]
  have kw1 := Rd.ok_want k1 [111, 102]
  have w2 := dI kw1 [110, 105, 108]
  have kw2 := Rd.ok_want kw1 [110, 105, 108]
  have w3 := dI kw2 [45, 62]
  have kw3 := Rd.ok_want kw2 [45, 62]
  have n3 : (((r1.want [111, 102]).want [110, 105, 108]).want [45, 62]).nest = r.nest := by rw [nest_want, nest_want, nest_want, n1]
  generalize r1.want [111, 102] = s1 at *
  generalize s1.want [110, 105, 108] = s2 at *
  generalize s2.want [45, 62] = s3 at *
  cases hc2 : a6 n s3 with
  | none => rw [hc2] at hrun; simp at hrun
  | some q2 =>
   obtain ⟨a, r2⟩ := q2
   rw [hc2] at hrun
   simp only [Option.bind_some] at hrun
   obtain ⟨k2, n2, c2⟩ := h1 s3 kw3 a r2 hc2
   have w4 := dI k2 [124]
   have kw4 := Rd.ok_want k2 [124]
   have w5 := l_ kw4
   have kw5 := Rd.ok_name kw4
   have n5 : (r2.want [124]).name.2.nest = r.nest := by rw [lC, nest_want, n2, n3]
   generalize r2.want [124] = s4 at *
   generalize s4.name.1 = hd at *
   generalize s4.name.2 = s5 at *
   have w6 := dI kw5 [58]
   have kw6 := Rd.ok_want kw5 [58]
   have w7 := l_ kw6
   have kw7 := Rd.ok_name kw6
   have n7 : (s5.want [58]).name.2.nest = r.nest := by rw [lC, nest_want, n5]
   generalize s5.want [58] = s6 at *
   generalize s6.name.1 = tl at *
   generalize s6.name.2 = s7 at *
   have w8 := dI kw7 [45, 62]
   have kw8 := Rd.ok_want kw7 [45, 62]
   have n8 : (s7.want [45, 62]).nest = r.nest := by rw [nest_want, n7]
   generalize s7.want [45, 62] = s8 at *
   simp only [Option.map_eq_some_iff, Prod.mk.injEq] at hrun
   obtain ⟨⟨b, r3⟩, hc3, rfl, rfl⟩ := hrun
   obtain ⟨k3, n9, c3⟩ := h1 s8 kw8 b r3 hc3
   refine ⟨k3, n9.trans n8, ?_⟩
   intro id id2 mem nx K hl hi hl2 hi2 hne hk
   simp only [bZ, em_3] at hk
   simp only [aA] at hk c1 c2 c3
   simp only [aB] at w5 w7
   refine fi99.ct (by simp) fun hfr => ?_
   have hA : ∀ (m : Mem) (q : Blk), look (upd m id q) id2 = look m id2 := fun m q => dF (Ne.symm hne)
   have hB : ∀ (m : Mem) (q : Blk), look (upd m id2 q) id = look m id := fun m q => dF hne
   have hC : ∀ (m : Mem) (q q2 : Blk), upd (upd m id q) id2 q2 = upd (upd m id2 q2) id q := fun m q q2 => upd_comm hne
   have KF3 := And.intro trivial (hA)
   have KF4 := And.intro KF3 (hB)
   have KF5 := And.intro KF4 (hC)
   have KF6 := And.intro KF5 (hl2)
   have KF7 := And.intro KF6 (hi2)
   have KF8 := And.intro KF7 (neC hi2)
   simp -implicitDefEqProofs (maxDischargeDepth := 80) [ac99, hl, hi, neC hi, neA, ltA, aC, aB, aA, KF8]
   refine aD ((c1) (by simp -implicitDefEqProofs (maxDischargeDepth := 80) [hl, hi, neC hi, neA, ltA, aC, aB, aA, KF8]) (by omega) (fun m1 hm1 => ?_))
   have im1 : id < m1 := by omega
   have Km1 := nfc KF8 hm1
   simp -implicitDefEqProofs (maxDischargeDepth := 80) [hl, hi, neC hi, neA, ltA, aC, aB, aA, Km1]
   refine aD ((w1) (by simp -implicitDefEqProofs (maxDischargeDepth := 80) [hl, hi, neC hi, neA, ltA, aC, aB, aA, Km1]) (by omega) (fun m2 hm2 => ?_))
   have im2 : id < m2 := by omega
   have Km2 := nfc Km1 hm2
   simp -implicitDefEqProofs (maxDischargeDepth := 80) [hl, hi, neC hi, neA, ltA, aC, aB, aA, Km2]
   refine aD ((w2) (by simp -implicitDefEqProofs (maxDischargeDepth := 80) [hl, hi, neC hi, neA, ltA, aC, aB, aA, Km2]) (by omega) (fun m3 hm3 => ?_))
   have im3 : id < m3 := by omega
   have Km3 := nfc Km2 hm3
   simp -implicitDefEqProofs (maxDischargeDepth := 80) [hl, hi, neC hi, neA, ltA, aC, aB, aA, Km3]
   refine aD ((w3) (by simp -implicitDefEqProofs (maxDischargeDepth := 80) [hl, hi, neC hi, neA, ltA, aC, aB, aA, Km3]) (by omega) (fun m4 hm4 => ?_))
   have im4 : id < m4 := by omega
   have Km4 := nfc Km3 hm4
   simp -implicitDefEqProofs (maxDischargeDepth := 80) [hl, hi, neC hi, neA, ltA, aC, aB, aA, Km4]
   refine aD ((c2) (by simp -implicitDefEqProofs (maxDischargeDepth := 80) [hl, hi, neC hi, neA, ltA, aC, aB, aA, Km4]) (by omega) (fun m5 hm5 => ?_))
   have im5 : id < m5 := by omega
   have Km5 := nfc Km4 hm5
   simp -implicitDefEqProofs (maxDischargeDepth := 80) [hl, hi, neC hi, neA, ltA, aC, aB, aA, Km5]
   refine aD ((w4) (by simp -implicitDefEqProofs (maxDischargeDepth := 80) [hl, hi, neC hi, neA, ltA, aC, aB, aA, Km5]) (by omega) (fun m6 hm6 => ?_))
   have im6 : id < m6 := by omega
   have Km6 := nfc Km5 hm6
   simp -implicitDefEqProofs (maxDischargeDepth := 80) [hl, hi, neC hi, neA, ltA, aC, aB, aA, Km6]
   refine aD ((w5) (by simp -implicitDefEqProofs (maxDischargeDepth := 80) [hl, hi, neC hi, neA, ltA, aC, aB, aA, Km6]) (by omega) (fun m7 hm7 => ?_))
   have im7 : id < m7 := by omega
   have Km7 := nfc Km6 hm7
   simp -implicitDefEqProofs (maxDischargeDepth := 80) [hl, hi, neC hi, neA, ltA, aC, aB, aA, Km7]
   refine aD ((w6) (by simp -implicitDefEqProofs (maxDischargeDepth := 80) [hl, hi, neC hi, neA, ltA, aC, aB, aA, Km7]) (by omega) (fun m8 hm8 => ?_))
   have im8 : id < m8 := by omega
   have Km8 := nfc Km7 hm8
   simp -implicitDefEqProofs (maxDischargeDepth := 80) [hl, hi, neC hi, neA, ltA, aC, aB, aA, Km8]
   refine aD ((w7) (by simp -implicitDefEqProofs (maxDischargeDepth := 80) [hl, hi, neC hi, neA, ltA, aC, aB, aA, Km8]) (by omega) (fun m9 hm9 => ?_))
   have im9 : id < m9 := by omega
   have Km9 := nfc Km8 hm9
   simp -implicitDefEqProofs (maxDischargeDepth := 80) [hl, hi, neC hi, neA, ltA, aC, aB, aA, Km9]
   refine aD ((w8) (by simp -implicitDefEqProofs (maxDischargeDepth := 80) [hl, hi, neC hi, neA, ltA, aC, aB, aA, Km9]) (by omega) (fun m10 hm10 => ?_))
   have im10 : id < m10 := by omega
   have Km10 := nfc Km9 hm10
   simp -implicitDefEqProofs (maxDischargeDepth := 80) [hl, hi, neC hi, neA, ltA, aC, aB, aA, Km10]
   refine aD ((c3) (by simp -implicitDefEqProofs (maxDischargeDepth := 80) [hl, hi, neC hi, neA, ltA, aC, aB, aA, Km10]) (by omega) (fun m11 hm11 => ?_))
   have im11 : id < m11 := by omega
   have Km11 := nfc Km10 hm11
   simp -implicitDefEqProofs (maxDischargeDepth := 80) [hl, hi, neC hi, neA, ltA, aC, aB, aA, Km11]
   exact ⟨_, by repeat (first | exact aG _ | refine aE ?_ (aF (aF (hfr _ (by omega))))), hk _ (by omega)⟩
theorem expr_s {n : Nat} (hN : n ≤ 2 ^ 40) (h0 : ∀ r, r.ok → EC 97 [] (dJ n r) r)
  (h1 : ∀ ss r L r', ss.length ≤ 100 → r.ok → bF n ss r = some (L, r') → r'.ok ∧ r'.nest = r.nest ∧ RC 98 [.sl (em aI ss)] r r' (.sl (em aR L)))
  (h2 : ∀ (r : Rd) (p : Int) (e : Ex) (r' : Rd), r.ok → cB n r p = some (e, r') → r'.ok ∧ r'.nest = r.nest ∧ ∀ (id id2 : Nat) (mem : Mem) (nx : Nat) (K : KD), look mem id = some (.box (aC r)) → id < nx → look mem id2 = some (.box [I 0, Tx [], Tx [], I 0, CX 0 0, .pl (.slice none 0 0), I p]) → id2 < nx → id ≠ id2 →
   (∀ nx', nx ≤ nx' → K (.tup []) (upd (upd mem id2 (.box (aR e))) id (.box (aC r'))) nx') → bH Tryz.prog 99 [.opt id 0, .opt id2 0] mem nx K) :
  ∀ r, r.ok → EC 75 [] (a6 (n + 1) r) r := by
 intro r h e r' hrun
 have cn := fG h
 simp only [aB] at cn
 have hl2 := h.lt
 have hl3 := h.len
 have hn0 := h.n0
 have hn1 := h.n1
 have hL := h.l1
 have w := aX (x := (r.at' : Int) + 1) (by omega) (by omega)
 have wn := aX (x := r.nest + 1) (by omega) (by omega)
 have wm := aX (x := r.nest) (by omega) (by omega)
 have i1 := jJ h [108, 101, 116]
 have i2 := jJ h [115, 116, 114, 105, 99, 116]
 have i3 := jJ h [99, 97, 115, 101]
 have i4 := jJ h [105, 102]
 have cf := kY h 23
 unfold a6 at hrun
 simp only at hrun
 cases hb : binds r
 ·have hbs := hb
  unfold binds at hbs
  simp only [Bool.or_eq_false_iff] at hbs
  obtain ⟨b1, b2, b3⟩ := hbs
  rw [b1] at i1
  rw [b2] at i2
  rw [b3] at i3
  simp only [hb, Bool.false_and, Bool.false_eq_true, if_false] at hrun
  by_cases g1 : r.why = 0
  ·rw [if_neg (by simp [g1])] at hrun
   have KF1 := And.intro trivial (g1)
   cases hif : r.is [105, 102] <;> rw [hif] at i4
   ·rw [if_pos ⟨trivial, hif⟩] at hrun
    obtain ⟨k2, n2, c2⟩ := h0 r h e r' hrun
    refine ⟨k2, n2, ?_⟩
    intro id mem nx K hl hi hk
    simp only [aA] at hk c2
    refine bA ?_
    refine fi75.ct (by simp) fun hfr => ?_
    simp -implicitDefEqProofs (maxDischargeDepth := 80) [ac75, hl, hi, neC hi, neA, ltA, aC, aB, aA, KF1]
    refine aD ((cn) (by simp -implicitDefEqProofs (maxDischargeDepth := 80) [hl, hi, neC hi, neA, ltA, aC, aB, aA, KF1]) (by omega) (fun m1 hm1 => ?_))
    have im1 : id < m1 := by omega
    have Km1 := nfc KF1 hm1
    simp -implicitDefEqProofs (maxDischargeDepth := 80) [hl, hi, neC hi, neA, ltA, aC, aB, aA, Km1]
    refine aD ((i1) (by simp -implicitDefEqProofs (maxDischargeDepth := 80) [hl, hi, neC hi, neA, ltA, aC, aB, aA, Km1]) (by omega) (fun m2 hm2 => ?_))
    have im2 : id < m2 := by omega
    have Km2 := nfc Km1 hm2
    simp -implicitDefEqProofs (maxDischargeDepth := 80) [hl, hi, neC hi, neA, ltA, aC, aB, aA, Km2]
    refine aD ((i2) (by simp -implicitDefEqProofs (maxDischargeDepth := 80) [hl, hi, neC hi, neA, ltA, aC, aB, aA, Km2]) (by omega) (fun m3 hm3 => ?_))
    have im3 : id < m3 := by omega
    have Km3 := nfc Km2 hm3
    simp -implicitDefEqProofs (maxDischargeDepth := 80) [hl, hi, neC hi, neA, ltA, aC, aB, aA, Km3]
    refine aD ((i3) (by simp -implicitDefEqProofs (maxDischargeDepth := 80) [hl, hi, neC hi, neA, ltA, aC, aB, aA, Km3]) (by omega) (fun m4 hm4 => ?_))
    have im4 : id < m4 := by omega
    have Km4 := nfc Km3 hm4
    simp -implicitDefEqProofs (maxDischargeDepth := 80) [hl, hi, neC hi, neA, ltA, aC, aB, aA, Km4]
    refine aD ((i4) (by simp -implicitDefEqProofs (maxDischargeDepth := 80) [hl, hi, neC hi, neA, ltA, aC, aB, aA, Km4]) (by omega) (fun m5 hm5 => ?_))
    have im5 : id < m5 := by omega
    have Km5 := nfc Km4 hm5
    simp -implicitDefEqProofs (maxDischargeDepth := 80) [hl, hi, neC hi, neA, ltA, aC, aB, aA, Km5]
    refine aD ((c2) (by simp -implicitDefEqProofs (maxDischargeDepth := 80) [hl, hi, neC hi, neA, ltA, aC, aB, aA, Km5]) (by omega) (fun m6 hm6 => ?_))
    have im6 : id < m6 := by omega
    have Km6 := nfc Km5 hm6
    simp -implicitDefEqProofs (maxDischargeDepth := 80) [hl, hi, neC hi, neA, ltA, aC, aB, aA, Km6]
    exact dY (by repeat (first | exact aG _ | refine aE ?_ (aF (hfr _ (by omega))) | refine aE ?_ (hfr _ (by omega)))) (by simp [frz]) (hk _ (by omega))
   ·have ht := (Rd.is_kind hif).2.2
    rw [if_neg (by simp [hif]), if_pos ht] at hrun
    simp only [Option.map_eq_some_iff, Prod.mk.injEq] at hrun
    obtain ⟨⟨e1, q1⟩, ⟨⟨L, q⟩, hp, rfl, rfl⟩, rfl, rfl⟩ := hrun
    obtain ⟨k2, n2, c2⟩ := h1 _ r.adv L q (by simp) (Rd.ok_adv h (Rd.is_4 hif)) hp
    rw [em_3] at c2
    refine ⟨k2, n2, ?_⟩
    intro id mem nx K hl hi hk
    simp only [bZ] at hk
    rw [ht] at cn
    refine bA ?_
    refine fi75.ct (by simp) fun hfr => ?_
    simp -implicitDefEqProofs (maxDischargeDepth := 80) [ac75, hl, hi, neC hi, neA, ltA, aC, aB, aA, KF1]
    refine aD ((cn) (by simp -implicitDefEqProofs (maxDischargeDepth := 80) [hl, hi, neC hi, neA, ltA, aC, aB, aA, KF1]) (by omega) (fun m1 hm1 => ?_))
    have im1 : id < m1 := by omega
    have Km1 := nfc KF1 hm1
    simp -implicitDefEqProofs (maxDischargeDepth := 80) [hl, hi, neC hi, neA, ltA, aC, aB, aA, Km1]
    refine aD ((i1) (by simp -implicitDefEqProofs (maxDischargeDepth := 80) [hl, hi, neC hi, neA, ltA, aC, aB, aA, Km1]) (by omega) (fun m2 hm2 => ?_))
    have im2 : id < m2 := by omega
    have Km2 := nfc Km1 hm2
    simp -implicitDefEqProofs (maxDischargeDepth := 80) [hl, hi, neC hi, neA, ltA, aC, aB, aA, Km2]
    refine aD ((i2) (by simp -implicitDefEqProofs (maxDischargeDepth := 80) [hl, hi, neC hi, neA, ltA, aC, aB, aA, Km2]) (by omega) (fun m3 hm3 => ?_))
    have im3 : id < m3 := by omega
    have Km3 := nfc Km2 hm3
    simp -implicitDefEqProofs (maxDischargeDepth := 80) [hl, hi, neC hi, neA, ltA, aC, aB, aA, Km3]
    refine aD ((i3) (by simp -implicitDefEqProofs (maxDischargeDepth := 80) [hl, hi, neC hi, neA, ltA, aC, aB, aA, Km3]) (by omega) (fun m4 hm4 => ?_))
    have im4 : id < m4 := by omega
    have Km4 := nfc Km3 hm4
    simp -implicitDefEqProofs (maxDischargeDepth := 80) [hl, hi, neC hi, neA, ltA, aC, aB, aA, Km4]
    refine aD ((i4) (by simp -implicitDefEqProofs (maxDischargeDepth := 80) [hl, hi, neC hi, neA, ltA, aC, aB, aA, Km4]) (by omega) (fun m5 hm5 => ?_))
    have im5 : id < m5 := by omega
    have Km5 := nfc Km4 hm5
    simp -implicitDefEqProofs (maxDischargeDepth := 80) [hl, hi, neC hi, neA, ltA, aC, aB, aA, Km5, w]
    refine aD ((c2) (by simp -implicitDefEqProofs (maxDischargeDepth := 80) [hl, hi, neC hi, neA, ltA, aC, aB, aA, Km5]) (by omega) (fun m6 hm6 => ?_))
    have im6 : id < m6 := by omega
    have Km6 := nfc Km5 hm6
    simp -implicitDefEqProofs (maxDischargeDepth := 80) [hl, hi, neC hi, neA, ltA, aC, aB, aA, Km6]
    exact dY (by repeat (first | exact aG _ | refine aE ?_ (aF (hfr _ (by omega))) | refine aE ?_ (hfr _ (by omega)))) (by simp [frz]) (hk _ (by omega))
  ·rw [if_pos g1] at hrun
   simp only [Option.some.injEq, Prod.mk.injEq] at hrun
   obtain ⟨rfl, rfl⟩ := hrun
   refine ⟨h, rfl, ?_⟩
   intro id mem nx K hl hi hk
   rw [c8 hl] at hk
   simp only [ex0, bZ] at hk
   refine bA ?_
   refine fi75.ct (by simp) fun hfr => ?_
   simp -implicitDefEqProofs (maxDischargeDepth := 80) [ac75, hl, hi, neC hi, neA, ltA, aC, aB, aA]
   refine aD ((cn) (by simp -implicitDefEqProofs (maxDischargeDepth := 80) [hl, hi, neC hi, neA, ltA, aC, aB, aA]) (by omega) (fun m1 hm1 => ?_))
   have im1 : id < m1 := by omega
   have Km1 := nfc trivial hm1
   simp -implicitDefEqProofs (maxDischargeDepth := 80) [hl, hi, neC hi, neA, ltA, aC, aB, aA, Km1]
   refine aD ((i1) (by simp -implicitDefEqProofs (maxDischargeDepth := 80) [hl, hi, neC hi, neA, ltA, aC, aB, aA, Km1]) (by omega) (fun m2 hm2 => ?_))
   have im2 : id < m2 := by omega
   have Km2 := nfc Km1 hm2
   simp -implicitDefEqProofs (maxDischargeDepth := 80) [hl, hi, neC hi, neA, ltA, aC, aB, aA, Km2]
   refine aD ((i2) (by simp -implicitDefEqProofs (maxDischargeDepth := 80) [hl, hi, neC hi, neA, ltA, aC, aB, aA, Km2]) (by omega) (fun m3 hm3 => ?_))
   have im3 : id < m3 := by omega
   have Km3 := nfc Km2 hm3
   simp -implicitDefEqProofs (maxDischargeDepth := 80) [hl, hi, neC hi, neA, ltA, aC, aB, aA, Km3]
   refine aD ((i3) (by simp -implicitDefEqProofs (maxDischargeDepth := 80) [hl, hi, neC hi, neA, ltA, aC, aB, aA, Km3]) (by omega) (fun m4 hm4 => ?_))
   have im4 : id < m4 := by omega
   have Km4 := nfc Km3 hm4
   simp -implicitDefEqProofs (maxDischargeDepth := 80) [hl, hi, neC hi, neA, ltA, aC, aB, aA, Km4, g1]
   exact dY (by repeat (first | exact aG _ | refine aE ?_ (aF (hfr _ (by omega))) | refine aE ?_ (hfr _ (by omega)))) (by simp [frz]) (hk _ (by omega))
 ·have g1 : r.why = 0 := by
   have hbs := hb
   unfold binds at hbs
   simp only [Bool.or_eq_true] at hbs
   rcases hbs with h | h | h
   ·exact (Rd.is_kind h).1
   ·exact (Rd.is_kind h).1
   ·exact (Rd.is_kind h).1
  have KF2 := And.intro trivial (g1)
  have h4 : r.next.kind ≠ 4 := by
   have hbs := hb
   unfold binds at hbs
   simp only [Bool.or_eq_true] at hbs
   rcases hbs with h | h | h
   ·exact Rd.is_4 h
   ·exact Rd.is_4 h
   ·exact Rd.is_4 h
  by_cases g2 : r.lN ≤ r.nest
  ·have hrun2 : e = ex0 ∧ r' = r.fail 23 := by
    simp only [hb, Bool.true_and, g2, decide_true, if_true] at hrun
    rw [if_pos (by simp [Rd.fail, g1])] at hrun
    simp only [Option.some.injEq, Prod.mk.injEq] at hrun
    exact ⟨hrun.1.symm, hrun.2.symm⟩
   obtain ⟨rfl, rfl⟩ := hrun2
   have hwhy : ¬ (r.fail 23).why = 0 := by simp [Rd.fail, g1]
   refine ⟨Rd.ok_fail h _, hJ, ?_⟩
   intro id mem nx K hl hi hk
   simp only [ex0, bZ] at hk
   cases b1 : r.is [108, 101, 116] <;> rw [b1] at i1
   ·cases b2 : r.is [115, 116, 114, 105, 99, 116] <;> rw [b2] at i2
    ·have b3 : r.is [99, 97, 115, 101] = true := by
      unfold binds at hb; rw [b1, b2] at hb; simpa using hb
     rw [b3] at i3
     refine bA ?_
     refine fi75.ct (by simp) fun hfr => ?_
     simp -implicitDefEqProofs (maxDischargeDepth := 80) [ac75, hl, hi, neC hi, neA, ltA, aC, aB, aA, KF2]
     refine aD ((cn) (by simp -implicitDefEqProofs (maxDischargeDepth := 80) [hl, hi, neC hi, neA, ltA, aC, aB, aA, KF2]) (by omega) (fun m1 hm1 => ?_))
     have im1 : id < m1 := by omega
     have Km1 := nfc KF2 hm1
     simp -implicitDefEqProofs (maxDischargeDepth := 80) [hl, hi, neC hi, neA, ltA, aC, aB, aA, Km1]
     refine aD ((i1) (by simp -implicitDefEqProofs (maxDischargeDepth := 80) [hl, hi, neC hi, neA, ltA, aC, aB, aA, Km1]) (by omega) (fun m2 hm2 => ?_))
     have im2 : id < m2 := by omega
     have Km2 := nfc Km1 hm2
     simp -implicitDefEqProofs (maxDischargeDepth := 80) [hl, hi, neC hi, neA, ltA, aC, aB, aA, Km2]
     refine aD ((i2) (by simp -implicitDefEqProofs (maxDischargeDepth := 80) [hl, hi, neC hi, neA, ltA, aC, aB, aA, Km2]) (by omega) (fun m3 hm3 => ?_))
     have im3 : id < m3 := by omega
     have Km3 := nfc Km2 hm3
     simp -implicitDefEqProofs (maxDischargeDepth := 80) [hl, hi, neC hi, neA, ltA, aC, aB, aA, Km3]
     refine aD ((i3) (by simp -implicitDefEqProofs (maxDischargeDepth := 80) [hl, hi, neC hi, neA, ltA, aC, aB, aA, Km3]) (by omega) (fun m4 hm4 => ?_))
     have im4 : id < m4 := by omega
     have Km4 := nfc Km3 hm4
     simp -implicitDefEqProofs (maxDischargeDepth := 80) [hl, hi, neC hi, neA, ltA, aC, aB, aA, Km4, g2]
     refine aD ((cf) (by simp -implicitDefEqProofs (maxDischargeDepth := 80) [hl, hi, neC hi, neA, ltA, aC, aB, aA, Km4]) (by omega) (fun m5 hm5 => ?_))
     have im5 : id < m5 := by omega
     have Km5 := nfc Km4 hm5
     simp -implicitDefEqProofs (maxDischargeDepth := 80) [hl, hi, neC hi, neA, ltA, aC, aB, aA, Km5, hwhy]
     exact dY (by repeat (first | exact aG _ | refine aE ?_ (aF (hfr _ (by omega))) | refine aE ?_ (hfr _ (by omega)))) (by simp [frz]) (hk _ (by omega))
    ·refine bA ?_
     refine fi75.ct (by simp) fun hfr => ?_
     simp -implicitDefEqProofs (maxDischargeDepth := 80) [ac75, hl, hi, neC hi, neA, ltA, aC, aB, aA, KF2]
     refine aD ((cn) (by simp -implicitDefEqProofs (maxDischargeDepth := 80) [hl, hi, neC hi, neA, ltA, aC, aB, aA, KF2]) (by omega) (fun m1 hm1 => ?_))
     have im1 : id < m1 := by omega
     have Km1 := nfc KF2 hm1
     simp -implicitDefEqProofs (maxDischargeDepth := 80) [hl, hi, neC hi, neA, ltA, aC, aB, aA, Km1]
     refine aD ((i1) (by simp -implicitDefEqProofs (maxDischargeDepth := 80) [hl, hi, neC hi, neA, ltA, aC, aB, aA, Km1]) (by omega) (fun m2 hm2 => ?_))
     have im2 : id < m2 := by omega
     have Km2 := nfc Km1 hm2
     simp -implicitDefEqProofs (maxDischargeDepth := 80) [hl, hi, neC hi, neA, ltA, aC, aB, aA, Km2]
     refine aD ((i2) (by simp -implicitDefEqProofs (maxDischargeDepth := 80) [hl, hi, neC hi, neA, ltA, aC, aB, aA, Km2]) (by omega) (fun m3 hm3 => ?_))
     have im3 : id < m3 := by omega
     have Km3 := nfc Km2 hm3
     simp -implicitDefEqProofs (maxDischargeDepth := 80) [hl, hi, neC hi, neA, ltA, aC, aB, aA, Km3, g2]
     refine aD ((cf) (by simp -implicitDefEqProofs (maxDischargeDepth := 80) [hl, hi, neC hi, neA, ltA, aC, aB, aA, Km3]) (by omega) (fun m5 hm5 => ?_))
     have im5 : id < m5 := by omega
     have Km5 := nfc Km3 hm5
     simp -implicitDefEqProofs (maxDischargeDepth := 80) [hl, hi, neC hi, neA, ltA, aC, aB, aA, Km5, hwhy]
     exact dY (by repeat (first | exact aG _ | refine aE ?_ (aF (hfr _ (by omega))) | refine aE ?_ (hfr _ (by omega)))) (by simp [frz]) (hk _ (by omega))
   ·refine bA ?_
    refine fi75.ct (by simp) fun hfr => ?_
    simp -implicitDefEqProofs (maxDischargeDepth := 80) [ac75, hl, hi, neC hi, neA, ltA, aC, aB, aA, KF2]
    refine aD ((cn) (by simp -implicitDefEqProofs (maxDischargeDepth := 80) [hl, hi, neC hi, neA, ltA, aC, aB, aA, KF2]) (by omega) (fun m1 hm1 => ?_))
    have im1 : id < m1 := by omega
    have Km1 := nfc KF2 hm1
    simp -implicitDefEqProofs (maxDischargeDepth := 80) [hl, hi, neC hi, neA, ltA, aC, aB, aA, Km1]
    refine aD ((i1) (by simp -implicitDefEqProofs (maxDischargeDepth := 80) [hl, hi, neC hi, neA, ltA, aC, aB, aA, Km1]) (by omega) (fun m2 hm2 => ?_))
    have im2 : id < m2 := by omega
    have Km2 := nfc Km1 hm2
    simp -implicitDefEqProofs (maxDischargeDepth := 80) [hl, hi, neC hi, neA, ltA, aC, aB, aA, Km2, g2]
    refine aD ((cf) (by simp -implicitDefEqProofs (maxDischargeDepth := 80) [hl, hi, neC hi, neA, ltA, aC, aB, aA, Km2]) (by omega) (fun m5 hm5 => ?_))
    have im5 : id < m5 := by omega
    have Km5 := nfc Km2 hm5
    simp -implicitDefEqProofs (maxDischargeDepth := 80) [hl, hi, neC hi, neA, ltA, aC, aB, aA, Km5, hwhy]
    exact dY (by repeat (first | exact aG _ | refine aE ?_ (aF (hfr _ (by omega))) | refine aE ?_ (hfr _ (by omega)))) (by simp [frz]) (hk _ (by omega))
  ·simp only [hb, Bool.true_and, g2, decide_false, if_false, if_true, Bool.false_eq_true, Bool.true_eq_false, false_and] at hrun
   rw [if_neg (by simp [g1])] at hrun
   obtain ⟨rd, hrd⟩ : ∃ rd : Rd, rd = Rd.adv { r with nest := r.nest + 1 } := ⟨_, rfl⟩
   have krd : rd.ok := by
    rw [hrd]
    exact ⟨h.ms, h.ms.2 _ h.lt h4, h.len, by show 0 ≤ r.nest + 1; omega, by show r.nest + 1 ≤ 2 ^ 40; omega, h.l1⟩
   have nrd : rd.nest = r.nest + 1 := by rw [hrd]; rfl
   rw [← hrd] at hrun
   have f1 : rd.ms = r.ms := by rw [hrd]; rfl
   have f2 : (rd.at' : Int) = (r.at' : Int) + 1 := by rw [hrd]; simp
   have f3 : rd.why = 0 := by rw [hrd]; exact g1
   have f4 : rd.wh = r.wh := by rw [hrd]; rfl
   have f5 : rd.lT = r.lT := by rw [hrd]; rfl
   have f6 : rd.lF = r.lF := by rw [hrd]; rfl
   have f7 : rd.lA = r.lA := by rw [hrd]; rfl
   have f8 : rd.lN = r.lN := by rw [hrd]; rfl
   clear hrd
   have KF3 := And.intro KF2 (f1)
   have KF4 := And.intro KF3 (f2)
   have KF5 := And.intro KF4 (f3)
   have KF6 := And.intro KF5 (f4)
   have KF7 := And.intro KF6 (f5)
   have KF8 := And.intro KF7 (f6)
   have KF9 := And.intro KF8 (f7)
   have KF10 := And.intro KF9 (f8)
   have KF11 := And.intro KF10 (nrd)
   cases b1 : r.is [108, 101, 116] <;> rw [b1] at i1
   ·cases b2 : r.is [115, 116, 114, 105, 99, 116] <;> rw [b2] at i2
    ·have b3 : r.is [99, 97, 115, 101] = true := by
      unfold binds at hb; rw [b1, b2] at hb; simpa using hb
     rw [b3] at i3
     have ht : r.next.text = [99, 97, 115, 101] := (Rd.is_kind b3).2.2
     have t1 : ¬ r.next.text = [105, 102] := by rw [ht]; simp
     rw [if_neg t1, if_pos ht] at hrun
     simp only [Option.map_eq_some_iff, Prod.mk.injEq] at hrun
     obtain ⟨⟨e1, q⟩, hp, rfl, rfl⟩ := hrun
     obtain ⟨k2, n2, cb⟩ := h2 rd r.next.at' e1 q krd hp
     have nq : q.nest = r.nest + 1 := by rw [n2, nrd]
     refine ⟨⟨k2.ms, k2.lt, k2.len, by simp only; omega, by simp only; omega, k2.l1⟩, by simp only; omega, ?_⟩
     intro id mem nx K hl hi hk
     simp only [aA] at hk
     simp [aC, nq] at hk
     rw [ht] at cn
     refine bA ?_
     refine fi75.ct (by simp) fun hfr => ?_
     simp -implicitDefEqProofs (maxDischargeDepth := 80) [ac75, hl, hi, neC hi, neA, ltA, aC, aB, aA, KF11]
     refine aD ((cn) (by simp -implicitDefEqProofs (maxDischargeDepth := 80) [hl, hi, neC hi, neA, ltA, aC, aB, aA, KF11]) (by omega) (fun m1 hm1 => ?_))
     have im1 : id < m1 := by omega
     have Km1 := nfc KF11 hm1
     simp -implicitDefEqProofs (maxDischargeDepth := 80) [hl, hi, neC hi, neA, ltA, aC, aB, aA, Km1]
     refine aD ((i1) (by simp -implicitDefEqProofs (maxDischargeDepth := 80) [hl, hi, neC hi, neA, ltA, aC, aB, aA, Km1]) (by omega) (fun m2 hm2 => ?_))
     have im2 : id < m2 := by omega
     have Km2 := nfc Km1 hm2
     simp -implicitDefEqProofs (maxDischargeDepth := 80) [hl, hi, neC hi, neA, ltA, aC, aB, aA, Km2]
     refine aD ((i2) (by simp -implicitDefEqProofs (maxDischargeDepth := 80) [hl, hi, neC hi, neA, ltA, aC, aB, aA, Km2]) (by omega) (fun m3 hm3 => ?_))
     have im3 : id < m3 := by omega
     have Km3 := nfc Km2 hm3
     simp -implicitDefEqProofs (maxDischargeDepth := 80) [hl, hi, neC hi, neA, ltA, aC, aB, aA, Km3]
     refine aD ((i3) (by simp -implicitDefEqProofs (maxDischargeDepth := 80) [hl, hi, neC hi, neA, ltA, aC, aB, aA, Km3]) (by omega) (fun m4 hm4 => ?_))
     have im4 : id < m4 := by omega
     have Km4 := nfc Km3 hm4
     simp -implicitDefEqProofs (maxDischargeDepth := 80) [hl, hi, neC hi, neA, ltA, aC, aB, aA, Km4, g2, wn, w]
     refine aD (cb id _ _ _ _ (by simp -implicitDefEqProofs (maxDischargeDepth := 80) [hl, hi, neC hi, neA, ltA, aC, aB, aA, Km4]) (by omega) (by simp -implicitDefEqProofs (maxDischargeDepth := 80) [hl, hi, neC hi, neA, ltA, aC, aB, aA, Km4]) (by omega) (by omega) (fun m6 hm6 => ?_))
     have Km6 := nfc Km4 hm6
     simp -implicitDefEqProofs (maxDischargeDepth := 80) [hl, hi, neC hi, neA, ltA, aC, aB, aA, Km6, nq, wm]
     exact dY (by repeat (first | exact aG _ | refine aE ?_ (aF (hfr _ (by omega))) | refine aE ?_ (hfr _ (by omega)))) (by simp [frz]) (hk _ (by omega))
    ·have ht : r.next.text = [115, 116, 114, 105, 99, 116] := (Rd.is_kind b2).2.2
     have t1 : ¬ r.next.text = [105, 102] := by rw [ht]; simp
     have t2 : ¬ r.next.text = [99, 97, 115, 101] := by rw [ht]; simp
     rw [if_neg t1, if_neg t2] at hrun
     rw [if_pos ht] at hrun
     simp only [Option.map_map, Option.map_eq_some_iff, Function.comp_def, Prod.mk.injEq] at hrun
     obtain ⟨⟨L, q⟩, hp, rfl, rfl⟩ := hrun
     have w5 := l_ krd
     have kw5 := Rd.ok_name krd
     have n5 : rd.name.2.nest = rd.nest := lC
     have w6 := qY kw5
     have kw6 := Rd.ok_typ kw5
     have n6 : rd.name.2.typ.2.nest = rd.nest := by rw [qF, n5]
     generalize rd.name.1 = hd at *
     generalize rd.name.2 = s5 at *
     generalize s5.typ.1 = ty at *
     generalize s5.typ.2 = s6 at *
     obtain ⟨k2, n2, c2⟩ := h1 _ s6 L q (by simp) kw6 hp
     rw [em_2] at c2
     have nq : q.nest = r.nest + 1 := by rw [n2, n6, nrd]
     refine ⟨⟨k2.ms, k2.lt, k2.len, by simp only; omega, by simp only; omega, k2.l1⟩, by simp only; omega, ?_⟩
     intro id mem nx K hl hi hk
     simp only [bZ] at hk
     simp [aC, nq] at hk
     simp only [aB] at w5
     rw [ht] at cn
     refine bA ?_
     refine fi75.ct (by simp) fun hfr => ?_
     simp -implicitDefEqProofs (maxDischargeDepth := 80) [ac75, hl, hi, neC hi, neA, ltA, aC, aB, aA, KF11]
     refine aD ((cn) (by simp -implicitDefEqProofs (maxDischargeDepth := 80) [hl, hi, neC hi, neA, ltA, aC, aB, aA, KF11]) (by omega) (fun m1 hm1 => ?_))
     have im1 : id < m1 := by omega
     have Km1 := nfc KF11 hm1
     simp -implicitDefEqProofs (maxDischargeDepth := 80) [hl, hi, neC hi, neA, ltA, aC, aB, aA, Km1]
     refine aD ((i1) (by simp -implicitDefEqProofs (maxDischargeDepth := 80) [hl, hi, neC hi, neA, ltA, aC, aB, aA, Km1]) (by omega) (fun m2 hm2 => ?_))
     have im2 : id < m2 := by omega
     have Km2 := nfc Km1 hm2
     simp -implicitDefEqProofs (maxDischargeDepth := 80) [hl, hi, neC hi, neA, ltA, aC, aB, aA, Km2]
     refine aD ((i2) (by simp -implicitDefEqProofs (maxDischargeDepth := 80) [hl, hi, neC hi, neA, ltA, aC, aB, aA, Km2]) (by omega) (fun m3 hm3 => ?_))
     have im3 : id < m3 := by omega
     have Km3 := nfc Km2 hm3
     simp -implicitDefEqProofs (maxDischargeDepth := 80) [hl, hi, neC hi, neA, ltA, aC, aB, aA, Km3, g2, wn, w]
     refine aD ((w5) (by simp -implicitDefEqProofs (maxDischargeDepth := 80) [hl, hi, neC hi, neA, ltA, aC, aB, aA, Km3]) (by omega) (fun m6 hm6 => ?_))
     have im6 : id < m6 := by omega
     have Km6 := nfc Km3 hm6
     simp -implicitDefEqProofs (maxDischargeDepth := 80) [hl, hi, neC hi, neA, ltA, aC, aB, aA, Km6]
     refine aD ((w6) (by simp -implicitDefEqProofs (maxDischargeDepth := 80) [hl, hi, neC hi, neA, ltA, aC, aB, aA, Km6]) (by omega) (fun m7 hm7 => ?_))
     have im7 : id < m7 := by omega
     have Km7 := nfc Km6 hm7
     simp -implicitDefEqProofs (maxDischargeDepth := 80) [hl, hi, neC hi, neA, ltA, aC, aB, aA, Km7]
     refine aD ((c2) (by simp -implicitDefEqProofs (maxDischargeDepth := 80) [hl, hi, neC hi, neA, ltA, aC, aB, aA, Km7]) (by omega) (fun m8 hm8 => ?_))
     have im8 : id < m8 := by omega
     have Km8 := nfc Km7 hm8
     simp -implicitDefEqProofs (maxDischargeDepth := 80) [hl, hi, neC hi, neA, ltA, aC, aB, aA, Km8, nq, wm]
     exact dY (by repeat (first | exact aG _ | refine aE ?_ (aF (hfr _ (by omega))) | refine aE ?_ (hfr _ (by omega)))) (by simp [frz]) (hk _ (by omega))
   ·have ht : r.next.text = [108, 101, 116] := (Rd.is_kind b1).2.2
    have t1 : ¬ r.next.text = [105, 102] := by rw [ht]; simp
    have t2 : ¬ r.next.text = [99, 97, 115, 101] := by rw [ht]; simp
    have t3 : ¬ r.next.text = [115, 116, 114, 105, 99, 116] := by rw [ht]; simp
    rw [if_neg t1, if_neg t2] at hrun
    rw [if_neg t3] at hrun
    simp only [Option.map_map, Option.map_eq_some_iff, Function.comp_def, Prod.mk.injEq] at hrun
    obtain ⟨⟨L, q⟩, hp, rfl, rfl⟩ := hrun
    have w5 := l_ krd
    have kw5 := Rd.ok_name krd
    have n5 : rd.name.2.nest = rd.nest := lC
    have w6 := qY kw5
    have kw6 := Rd.ok_typ kw5
    have n6 : rd.name.2.typ.2.nest = rd.nest := by rw [qF, n5]
    generalize rd.name.1 = hd at *
    generalize rd.name.2 = s5 at *
    generalize s5.typ.1 = ty at *
    generalize s5.typ.2 = s6 at *
    obtain ⟨k2, n2, c2⟩ := h1 _ s6 L q (by simp) kw6 hp
    rw [em_2] at c2
    have nq : q.nest = r.nest + 1 := by rw [n2, n6, nrd]
    refine ⟨⟨k2.ms, k2.lt, k2.len, by simp only; omega, by simp only; omega, k2.l1⟩, by simp only; omega, ?_⟩
    intro id mem nx K hl hi hk
    simp only [bZ] at hk
    simp [aC, nq] at hk
    simp only [aB] at w5
    rw [ht] at cn
    refine bA ?_
    refine fi75.ct (by simp) fun hfr => ?_
    simp -implicitDefEqProofs (maxDischargeDepth := 80) [ac75, hl, hi, neC hi, neA, ltA, aC, aB, aA, KF11]
    refine aD ((cn) (by simp -implicitDefEqProofs (maxDischargeDepth := 80) [hl, hi, neC hi, neA, ltA, aC, aB, aA, KF11]) (by omega) (fun m1 hm1 => ?_))
    have im1 : id < m1 := by omega
    have Km1 := nfc KF11 hm1
    simp -implicitDefEqProofs (maxDischargeDepth := 80) [hl, hi, neC hi, neA, ltA, aC, aB, aA, Km1]
    refine aD ((i1) (by simp -implicitDefEqProofs (maxDischargeDepth := 80) [hl, hi, neC hi, neA, ltA, aC, aB, aA, Km1]) (by omega) (fun m2 hm2 => ?_))
    have im2 : id < m2 := by omega
    have Km2 := nfc Km1 hm2
    simp -implicitDefEqProofs (maxDischargeDepth := 80) [hl, hi, neC hi, neA, ltA, aC, aB, aA, Km2, g2, wn, w]
    refine aD ((w5) (by simp -implicitDefEqProofs (maxDischargeDepth := 80) [hl, hi, neC hi, neA, ltA, aC, aB, aA, Km2]) (by omega) (fun m6 hm6 => ?_))
    have im6 : id < m6 := by omega
    have Km6 := nfc Km2 hm6
    simp -implicitDefEqProofs (maxDischargeDepth := 80) [hl, hi, neC hi, neA, ltA, aC, aB, aA, Km6]
    refine aD ((w6) (by simp -implicitDefEqProofs (maxDischargeDepth := 80) [hl, hi, neC hi, neA, ltA, aC, aB, aA, Km6]) (by omega) (fun m7 hm7 => ?_))
    have im7 : id < m7 := by omega
    have Km7 := nfc Km6 hm7
    simp -implicitDefEqProofs (maxDischargeDepth := 80) [hl, hi, neC hi, neA, ltA, aC, aB, aA, Km7]
    refine aD ((c2) (by simp -implicitDefEqProofs (maxDischargeDepth := 80) [hl, hi, neC hi, neA, ltA, aC, aB, aA, Km7]) (by omega) (fun m8 hm8 => ?_))
    have im8 : id < m8 := by omega
    have Km8 := nfc Km7 hm8
    simp -implicitDefEqProofs (maxDischargeDepth := 80) [hl, hi, neC hi, neA, ltA, aC, aB, aA, Km8, nq, wm]
    exact dY (by repeat (first | exact aG _ | refine aE ?_ (aF (hfr _ (by omega))) | refine aE ?_ (hfr _ (by omega)))) (by simp [frz]) (hk _ (by omega))
structure PGood (k : Nat) : Prop where
 expr : ∀ r, r.ok → EC 75 [] (a6 k r) r
 cons : ∀ r, r.ok → EC 97 [] (dJ k r) r
 comp : ∀ r, r.ok → EC 111 [] (dZ k r) r
 sum : ∀ r, r.ok → EC 116 [] (eJ k r) r
 term : ∀ r, r.ok → EC 117 [] (cS k r) r
 unit : ∀ r, r.ok → EC 118 [] (cU k r) r
 named : ∀ m r, r.ok → EC 119 [.agg (aB m)] (dT k m r) r
theorem all_c : ∀ n, n ≤ 2 ^ 40 → PGood n := by
 intro n
 induction n using Nat.strongRecOn with
 | _ n ih =>
  intro hn
  cases n with
  | zero =>
   refine ⟨?_, ?_, ?_, ?_, ?_, ?_, ?_⟩
   ·intro r _ e r' h; simp [a6] at h
   ·intro r _ e r' h; simp [dJ] at h
   ·intro r _ e r' h; simp [dZ] at h
   ·intro r _ e r' h; simp [eJ] at h
   ·intro r _ e r' h; simp [cS] at h
   ·intro r _ e r' h; simp [cU] at h
   ·intro m r _ e r' h; simp [dT] at h
  | succ n =>
   have g : ∀ k, k ≤ n → PGood k := fun k hk => ih k (by omega) (by omega)
   have gn := g n (Nat.le_refl _)
   refine ⟨?_, cons_s gn.comp gn.cons, comp_s gn.sum, sum_s fun k hk => (g k hk).term, term_s fun k hk => (g k hk).unit, unit_s gn.expr gn.named, F2 (by omega) fun k hk => (g k hk).expr⟩
   refine expr_s (by omega) gn.cons ?_ ?_
   ·intro ss r L r' hss h hrun
    exact F3 (fun k hk => (g k (by omega)).expr) ss hss r h L r' hrun
   ·intro r p e r' h hrun
    cases n with
    | zero => simp [cB] at hrun
    | succ n => exact zJ (g n (by omega)).expr r h p e r' hrun
theorem C4 {n : Nat} (hn : n ≤ 2 ^ 40) {r : Rd} (h : r.ok) {e : Ex} {r' : Rd} (hrun : a6 n r = some (e, r')) : r'.ok ∧ r'.nest = r.nest ∧ RC 75 [] r r' (.agg (aR e)) := (all_c n hn).expr r h e r' hrun
end Go.Fx.YtackkeoannbnbaaGreatDoor

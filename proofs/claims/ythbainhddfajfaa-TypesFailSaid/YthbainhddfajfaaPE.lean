/-
  What the parser makes: definitions and programs; the contract of a text's reading.
-/
import Derived.Test.YthbainhddfajfaaPD
set_option linter.all false
set_option maxRecDepth 100000
set_option maxHeartbeats 4000000
namespace Go.Fx.Ythbainhddfajfaa
open Go Go.Fx Go.Proofs Go.Fx.Flt
def PmOk (ms : List Mk) (a b : Nat) (p : Pm) : Prop := placeIn ms a b p.at' ∧ tyOk p.type
/-- A definition out of the marks from a to b. -/
structure FnOk (ms : List Mk) (a b : Nat) (f : Fn) : Prop where
  lt : a < b
  place : f.at' = (ms[a]?.getD default).at'
  type : tyOk f.type
  params : ∀ p ∈ f.params, PmOk ms (a + 1) b p
  len : f.params.length ≤ b - a
  body : Wf ms (a + 1) b f.body
  size : size f.body ≤ b - a
def Fns (ms : List Mk) : Nat → List Fn → Nat → Prop
  | a, [], b => a ≤ b
  | a, f :: fs, b => ∃ c, FnOk ms a c f ∧ Fns ms c fs b
theorem made_params : ∀ n l (r0 r : Rd) L q, paramsF n l r = some (L, q) → q.why = 0 → (r.why = 0 → r.ms = r0.ms ∧ r0.at' ≤ r.at' ∧ (∀ p ∈ l, PmOk r0.ms r0.at' r.at' p) ∧ l.length ≤ r.at' - r0.at') →
    r.why = 0 ∧ q.ms = r0.ms ∧ r0.at' ≤ q.at' ∧ (∀ p ∈ L, PmOk r0.ms r0.at' q.at' p) ∧ L.length ≤ q.at' - r0.at' := by
  intro n
  induction n with
  | zero => intro l r0 r L q h; simp [paramsF] at h
  | succ n ih =>
    intro l r0 r L q hrun hq ha
    unfold paramsF at hrun
    split at hrun
    · rename_i hs
      obtain ⟨k1, k2, k3, k4⟩ := ha hs.1
      have s1 : Step r (pw r l) 0 := by
        unfold pw; split
        · exact Step.refl
        · intro h
          obtain ⟨g1, g2, g3⟩ := step_want h
          exact ⟨g1, g2, by omega⟩
      have s2 : Step (pw r l) (pf (pw r l) l) 0 := by
        unfold pf; split
        · exact step_fail (by decide)
        · exact Step.refl
      generalize pf (pw r l) l = z at *
      have key : z.name.2.typ.2.why = 0 → z.name.2.typ.2.ms = r0.ms ∧ r0.at' ≤ z.name.2.typ.2.at' ∧ (∀ p ∈ l ++ [⟨z.name.1.text, z.name.2.typ.1, z.name.1.at'⟩], PmOk r0.ms r0.at' z.name.2.typ.2.at' p) ∧ (l ++ [(⟨z.name.1.text, z.name.2.typ.1, z.name.1.at'⟩ : Pm)]).length ≤ z.name.2.typ.2.at' - r0.at' := fun hw => by
        have t := typ_ok hw
        obtain ⟨a1, a2, a3⟩ := step_typ hw
        have np := name_place a1
        obtain ⟨b1, b2, b3⟩ := step_name a1
        obtain ⟨c1, c2, c3⟩ := (s1.trans s2) b1
        have hm : z.ms = r0.ms := c2.trans k1
        refine ⟨a2.trans (b2.trans hm), by omega, fun p hp => ?_, by simp only [List.length_append, List.length_cons, List.length_nil]; omega⟩
        rw [List.mem_append, List.mem_singleton] at hp
        rcases hp with hp | rfl
        · obtain ⟨e1, e2⟩ := k3 p hp
          exact ⟨e1.mono (Nat.le_refl _) (by omega), e2⟩
        · refine ⟨?_, t⟩
          simp only
          rw [np]
          have := place_next (r := z) (b := z.name.2.typ.2.at') (by omega)
          rw [hm] at this
          exact this.mono (by omega) (Nat.le_refl _)
      obtain ⟨m1, m2⟩ := ih _ r0 _ L q hrun hq key
      exact ⟨hs.1, m2⟩
    · simp only [Option.some.injEq, Prod.mk.injEq] at hrun
      obtain ⟨rfl, rfl⟩ := hrun
      obtain ⟨k1, k2, k3, k4⟩ := ha hq
      exact ⟨hq, k1, k2, k3, k4⟩
theorem made_def {n : Nat} {r : Rd} {c : Nat} {f : Fn} {q : Rd} (hrun : defF n r c = some (f, q)) (hq : q.why = 0) : r.why = 0 ∧ q.ms = r.ms ∧ FnOk r.ms r.at' q.at' f := by
  unfold defF at hrun
  have s0 : Step r (df r c) 0 := by
    unfold df; split
    · exact step_fail (by decide)
    · exact Step.refl
  have hdf : (df r c).why = 0 → df r c = r := fun h => by
    unfold df at h ⊢
    split at h
    · exact absurd h (fail_why (by decide))
    · rename_i g; rw [if_neg g]
  have s1 : Step (df r c) ((df r c).name.2.want [40]) 2 := step_name.trans step_want
  cases hp : paramsF n [] ((df r c).name.2.want [40]) with
  | none => rw [hp] at hrun; simp at hrun
  | some p =>
    obtain ⟨ps, r4⟩ := p
    rw [hp] at hrun
    simp only [Option.bind_some, Option.map_eq_some_iff, Prod.mk.injEq] at hrun
    obtain ⟨⟨body, r9⟩, hb, he1, he2⟩ := hrun
    simp only at he1 he2
    subst he1 he2
    obtain ⟨a1, a2, a3⟩ := step_want hq
    obtain ⟨b1, b2, b3, b4, b5⟩ := (makes_all n _).expr body r9 hb a1
    have s2 : Step ((r4.want [41]).want [58]).typ.2 (((r4.want [41]).want [58]).typ.2.want [61]) 1 := step_want
    obtain ⟨c1, c2, c3⟩ := s2 b1
    have ht := typ_ok c1
    obtain ⟨d1, d2, d3⟩ := ((step_want.trans step_want).trans step_typ : Step r4 ((r4.want [41]).want [58]).typ.2 3) c1
    obtain ⟨e1, e2, e3, e4, e5⟩ := made_params n [] _ _ ps r4 hp d1 (fun _ => ⟨rfl, Nat.le_refl _, fun p hp => by simp at hp, by simp⟩)
    obtain ⟨f1, f2, f3⟩ := s1 e1
    obtain ⟨g1, g2, g3⟩ := s0 f1
    have hr := hdf f1
    have hn1 : (df r c).name.2.why = 0 := (step_want e1).1
    have np := name_place hn1
    have hm4 : r4.ms = r.ms := e2.trans (f2.trans g2)
    rw [f2, g2] at e4
    rw [c2, d2, hm4] at b4
    refine ⟨g1, a2.trans (b2.trans (c2.trans (d2.trans hm4))), ⟨by omega, ?_, ht, fun p hp => ?_, by simp only; omega, Wf.mono (by omega) (by omega) _ b4, by simp only; omega⟩⟩
    · simp only
      rw [np, hr]; rfl
    · obtain ⟨h1, h2⟩ := e4 p hp
      exact ⟨h1.mono (by omega) (by omega), h2⟩
theorem made_prog : ∀ n l (r : Rd) L q, progF n l r = some (L, q) → q.why = 0 → r.why = 0 ∧ q.ms = r.ms ∧ ∃ k, L = l ++ k ∧ Fns r.ms r.at' k q.at' ∧ (l = [] → k ≠ []) := by
  intro n
  induction n with
  | zero => intro l r L q h; simp [progF] at h
  | succ n ih =>
    intro l r L q hrun hq
    unfold progF at hrun
    split at hrun
    · rename_i hs
      cases hd : defF n r l.length with
      | none => rw [hd] at hrun; simp at hrun
      | some p =>
        obtain ⟨f, r2⟩ := p
        rw [hd] at hrun
        simp only [Option.bind_some] at hrun
        obtain ⟨a1, a2, k, a3, a4, _⟩ := ih _ r2 L q hrun hq
        obtain ⟨b1, b2, b3⟩ := made_def hd a1
        rw [b2] at a4
        exact ⟨hs.1, a2.trans b2, f :: k, by rw [a3]; simp, ⟨r2.at', b3, a4⟩, fun _ => by simp⟩
    · rename_i hs
      simp only [Option.some.injEq, Prod.mk.injEq] at hrun
      obtain ⟨rfl, rfl⟩ := hrun
      refine ⟨hq, rfl, [], by simp, Nat.le_refl _, fun h => ?_⟩
      exact absurd ⟨hq, .inl h⟩ hs
/-- Marks stand one behind the other. -/
def Rising (ms : List Mk) : Prop := ∀ i j, i < j → j < ms.length → (ms[i]?.getD default).at' < (ms[j]?.getD default).at'
theorem rising_snoc {ms : List Mk} {m : Mk} (h : Rising ms) (hb : ∀ i, i < ms.length → (ms[i]?.getD default).at' < m.at') : Rising (ms ++ [m]) := by
  intro i j hij hj
  simp only [List.length_append, List.length_cons, List.length_nil] at hj
  have hi : i < ms.length := by omega
  rw [List.getElem?_append_left hi]
  by_cases e : j < ms.length
  · rw [List.getElem?_append_left e]; exact h i j hij e
  · have : j = ms.length := by omega
    subst this
    rw [List.getElem?_append_right (Nat.le_refl _)]
    simpa using hb i hi
theorem one_at {t : List UInt8} {p : Nat} : (oneF t p).1.at' = p := by
  unfold oneF
  split
  · rfl
  · split
    · rfl
    · split
      · rfl
      · rfl
theorem marksF_rising : ∀ (f : Nat) (t : List UInt8) (p : Nat) (out : List Mk), p ≤ t.length → Rising out → (∀ i, i < out.length → (out[i]?.getD default).at' < p) → (marksF f t p out).2 < 0 → Rising (marksF f t p out).1
  | 0, t, p, out, _, _, _, h => by simp [marksF] at h
  | f + 1, t, p, out, hp, hr, hb, h => by
    unfold marksF at h ⊢
    by_cases c1 : p < t.length
    · rw [if_pos c1] at h ⊢
      by_cases c2 : blankI (bt8 t p) = true
      · rw [if_pos c2] at h ⊢
        exact marksF_rising f t _ out (by omega) hr (fun i hi => by have := hb i hi; omega) h
      · rw [if_neg c2] at h ⊢
        by_cases c3 : bt8 t p = 35
        · rw [if_pos c3] at h ⊢
          have hc := commF_le t.length t p hp
          exact marksF_rising f t _ out hc.2 hr (fun i hi => by have := hb i hi; omega) h
        · rw [if_neg c3] at h ⊢
          by_cases c4 : (oneF t p).2 = true
          · rw [if_pos c4] at h ⊢
            obtain ⟨l1, l2⟩ := one_len c1 c4
            have ha := one_at (t := t) (p := p)
            refine marksF_rising f t _ _ l2 (rising_snoc hr fun i hi => by have := hb i hi; omega) (fun i hi => ?_) h
            simp only [List.length_append, List.length_cons, List.length_nil] at hi
            by_cases e : i < out.length
            · rw [List.getElem?_append_left e]
              have := hb i e; omega
            · have : i = out.length := by omega
              subst this
              rw [List.getElem?_append_right (Nat.le_refl _)]
              simp only [Nat.sub_self, List.getElem?_cons_zero, Option.getD_some]
              omega
          · rw [if_neg c4] at h; simp only at h; omega
    · rw [if_neg c1] at h ⊢
      exact rising_snoc hr fun i hi => by
        have := hb i hi
        simp only [endMk]; omega
/-- A program that some text has. -/
def ProgOk (L : List Fn) : Prop := ∃ ms a b, MOk ms ∧ ms.length ≤ 2 ^ 21 ∧ Rising ms ∧ b < ms.length ∧ Fns ms a L b ∧ L ≠ []
/-- What a text is read as: a program, or a fault. -/
def ReadAs (t : List UInt8) (L : List Fn) (w p : Int) : Prop :=
  Pure Try.prog 17 [.sl (em encB t), limD 32768 32768 32768 32768] (resD L w p) ∧ (w = 0 → ProgOk L) ∧ (w ≠ 0 → L = [])
theorem read_as (t : List UInt8) (ht : t.length < 2 ^ 48) : ∃ L w p, ReadAs t L w p := by
  by_cases h1 : 32768 < t.length
  · exact ⟨[], 22, 32768, Parse_big t ht h1, fun h => absurd h (by decide), fun _ => rfl⟩
  · by_cases h2 : (marksL t).2 < 0
    · have hk := rd0_ok (t := t) (lt := 32768) (lF := 32768) (lA := 32768) (lN := 32768) (by omega) h2 (by decide)
      obtain ⟨L, q, hq, kq⟩ := prog_ends hk
      have hc := Parse_ok t (by omega) h2 (by decide) hq
      by_cases h3 : q.why = 0
      · rw [if_pos h3] at hc
        obtain ⟨g1, g2, k, g3, g4, g5⟩ := made_prog _ _ _ L q hq h3
        simp only [List.nil_append] at g3
        subst g3
        refine ⟨L, 0, 0, hc, fun _ => ⟨(marksL t).1, 0, q.at', hk.ms, hk.len, ?_, ?_, g4, g5 rfl⟩, fun h => absurd rfl h⟩
        · exact marksF_rising _ t 0 [] (by omega) (fun i j _ h => by simp at h) (fun i h => by simp at h) h2
        · have := kq.lt
          rw [g2] at this; exact this
      · rw [if_neg h3] at hc
        exact ⟨[], q.why, q.wh, hc, fun h => absurd h h3, fun _ => rfl⟩
    · have hc := Parse_bad t (by omega) h2
      refine ⟨[], 20, (marksL t).2, hc, fun h => absurd h (by decide), fun _ => rfl⟩
end Go.Fx.Ythbainhddfajfaa

/-
  What the parser makes: right shapes, places, sizes.
-/
import Derived.Test.YthbainhddfajfaaPC
set_option linter.all false
set_option maxRecDepth 100000
set_option maxHeartbeats 4000000
namespace Go.Fx.Ythbainhddfajfaa
open Go Go.Fx Go.Proofs Go.Fx.Flt
def tyOk (t : Int) : Prop := t = 1 ∨ t = 2 ∨ t = 3
/-- The parts and the type that an operation has. -/
def shape (op ty : Int) (n : Nat) : Prop :=
  ((op = 1 ∨ op = 2 ∨ op = 3 ∨ op = 4 ∨ op = 6) ∧ n = 0) ∨ (op = 5 ∧ n = 0 ∧ tyOk ty) ∨ op = 7 ∨ ((8 ≤ op ∧ op ≤ 13 ∨ op = 18) ∧ n = 2) ∨ (14 ≤ op ∧ op ≤ 17 ∧ n = 1) ∨ ((op = 19 ∨ op = 20) ∧ n = 3) ∨ ((op = 21 ∨ op = 22) ∧ n = 2 ∧ tyOk ty)
/-- A place of a mark from a to b. -/
def placeIn (ms : List Mk) (a b : Nat) (p : Int) : Prop := ∃ i, a ≤ i ∧ i < b ∧ p = (ms[i]?.getD default).at'
mutual
def size : Ex → Nat
  | .mk _ _ _ _ _ args _ => 1 + sizes args
def sizes : List Ex → Nat
  | [] => 0
  | e :: es => size e + sizes es
end
mutual
def Wf (ms : List Mk) (a b : Nat) : Ex → Prop
  | .mk op _ _ ty _ args p => placeIn ms a b p ∧ shape op ty args.length ∧ Wfs ms a b args
def Wfs (ms : List Mk) (a b : Nat) : List Ex → Prop
  | [] => True
  | e :: es => Wf ms a b e ∧ Wfs ms a b es
end
theorem placeIn.mono {ms : List Mk} {a b c d : Nat} {p : Int} (h : placeIn ms a b p) (h1 : c ≤ a) (h2 : b ≤ d) : placeIn ms c d p := by
  obtain ⟨i, g1, g2, g3⟩ := h
  exact ⟨i, by omega, by omega, g3⟩
mutual
theorem Wf.mono {ms : List Mk} {a b c d : Nat} (h1 : c ≤ a) (h2 : b ≤ d) : ∀ (e : Ex), Wf ms a b e → Wf ms c d e
  | .mk op n t ty z args p, h => by
    unfold Wf at h ⊢
    exact ⟨h.1.mono h1 h2, h.2.1, Wfs.mono h1 h2 args h.2.2⟩
theorem Wfs.mono {ms : List Mk} {a b c d : Nat} (h1 : c ≤ a) (h2 : b ≤ d) : ∀ (l : List Ex), Wfs ms a b l → Wfs ms c d l
  | [], _ => by unfold Wfs; trivial
  | e :: es, h => by
    unfold Wfs at h ⊢
    exact ⟨Wf.mono h1 h2 e h.1, Wfs.mono h1 h2 es h.2⟩
end
theorem Wfs_app {ms : List Mk} {a b : Nat} : ∀ {l k : List Ex}, Wfs ms a b l → Wfs ms a b k → Wfs ms a b (l ++ k)
  | [], _, _, h => h
  | e :: es, k, h, g => by
    unfold Wfs at h
    show Wfs ms a b (e :: (es ++ k))
    unfold Wfs
    exact ⟨h.1, Wfs_app h.2 g⟩
theorem sizes_app : ∀ (l k : List Ex), sizes (l ++ k) = sizes l + sizes k
  | [], k => by simp [sizes]
  | e :: es, k => by
    show sizes (e :: (es ++ k)) = _
    simp only [sizes, sizes_app es k]; omega
/-- Without a fault at the end there was none before, and k marks at least were taken. -/
def Step (r q : Rd) (k : Nat) : Prop := q.why = 0 → r.why = 0 ∧ q.ms = r.ms ∧ r.at' + k ≤ q.at'
theorem Step.trans {r q s : Rd} {j k : Nat} (h : Step r q j) (g : Step q s k) : Step r s (j + k) := fun hs => by
  obtain ⟨g1, g2, g3⟩ := g hs
  obtain ⟨h1, h2, h3⟩ := h g1
  exact ⟨h1, g2.trans h2, by omega⟩
theorem Step.refl {r : Rd} : Step r r 0 := fun h => ⟨h, rfl, by omega⟩
theorem step_adv {r : Rd} : Step r r.adv 1 := fun h => ⟨h, rfl, by simp⟩
theorem step_fail {r : Rd} {w : Int} (hw : w ≠ 0) {k : Nat} : Step r (r.fail w) k := fun h => absurd h (fail_why hw)
theorem step_want {r : Rd} {s : List UInt8} : Step r (r.want s) 1 := by
  unfold Rd.want
  split
  · exact step_adv
  · exact step_fail (by decide)
theorem step_name {r : Rd} : Step r r.name.2 1 := by
  unfold Rd.name
  split
  · exact step_fail (by decide)
  · exact step_adv
theorem name_place {r : Rd} (h : r.name.2.why = 0) : r.name.1 = r.next := by
  unfold Rd.name at h ⊢
  split
  · rename_i hb
    rw [if_pos hb] at h
    exact absurd h (fail_why (by decide))
  · rfl
theorem step_typ {r : Rd} : Step r r.typ.2 1 := by
  unfold Rd.typ
  split
  · exact step_adv
  · split
    · exact step_adv
    · split
      · exact step_adv
      · exact step_fail (by decide)
theorem typ_ok {r : Rd} (h : r.typ.2.why = 0) : tyOk r.typ.1 := by
  unfold Rd.typ at h ⊢
  split
  · exact .inl rfl
  · rename_i h1
    rw [if_neg h1] at h
    split
    · exact .inr (.inl rfl)
    · rename_i h2
      rw [if_neg h2] at h
      split
      · exact .inr (.inr rfl)
      · rename_i h3
        rw [if_neg h3] at h
        exact absurd h (fail_why (by decide))
/-- What a run of the parser makes. -/
def Made (run : PR) (r : Rd) : Prop := ∀ e q, run = some (e, q) → q.why = 0 → r.why = 0 ∧ q.ms = r.ms ∧ r.at' + 1 ≤ q.at' ∧ Wf r.ms r.at' q.at' e ∧ size e ≤ q.at' - r.at'
def MadeL (k : Nat) (run : Option (List Ex × Rd)) (r : Rd) : Prop := ∀ l q, run = some (l, q) → q.why = 0 → r.why = 0 ∧ q.ms = r.ms ∧ r.at' + k ≤ q.at' ∧ Wfs r.ms r.at' q.at' l ∧ sizes l ≤ q.at' - r.at'
theorem place_next {r : Rd} {b : Nat} (h : r.at' < b) : placeIn r.ms r.at' b r.next.at' := ⟨r.at', Nat.le_refl _, h, rfl⟩
theorem made_two {r r1 r2 : Rd} {a b : Ex} {op : Int} (hop : 8 ≤ op ∧ op ≤ 13 ∨ op = 18) (m1 : r1.ms = r.ms) (l1 : r.at' + 1 ≤ r1.at') (w1 : Wf r.ms r.at' r1.at' a) (s1 : size a ≤ r1.at' - r.at')
    (l2 : r1.at' + 1 + 1 ≤ r2.at') (w2 : Wf r.ms (r1.at' + 1) r2.at' b) (s2 : size b ≤ r2.at' - (r1.at' + 1)) : Wf r.ms r.at' r2.at' (two op a b r1.next) ∧ size (two op a b r1.next) ≤ r2.at' - r.at' := by
  unfold two
  constructor
  · unfold Wf Wfs Wfs Wfs
    refine ⟨?_, .inr (.inr (.inr (.inl ⟨hop, rfl⟩))), Wf.mono (Nat.le_refl _) (by omega) _ w1, Wf.mono (by omega) (Nat.le_refl _) _ w2, trivial⟩
    have := place_next (r := r1) (b := r2.at') (by omega)
    rw [m1] at this
    exact this.mono (by omega) (Nat.le_refl _)
  · simp only [size, sizes]
    omega
theorem made_sumL {N : Nat} (h1 : ∀ k, k < N → ∀ r, Made (termF k r) r) : ∀ n a (r0 r : Rd) e q, n ≤ N → sumLF n a r = some (e, q) → q.why = 0 → (r.why = 0 → r.ms = r0.ms ∧ r0.at' + 1 ≤ r.at' ∧ Wf r0.ms r0.at' r.at' a ∧ size a ≤ r.at' - r0.at') →
    r.why = 0 ∧ q.ms = r0.ms ∧ r0.at' + 1 ≤ q.at' ∧ Wf r0.ms r0.at' q.at' e ∧ size e ≤ q.at' - r0.at' := by
  intro n
  induction n with
  | zero => intro a r0 r e q _ h; simp [sumLF] at h
  | succ n ih =>
    intro a r0 r e q hn hrun hq ha
    unfold sumLF at hrun
    split at hrun
    · cases hc : termF n r.adv with
      | none => rw [hc] at hrun; simp at hrun
      | some p =>
        obtain ⟨b, r2⟩ := p
        rw [hc] at hrun
        simp only [Option.bind_some] at hrun
        have hop : 8 ≤ (if r.next.text = [45] then (9 : Int) else 8) ∧ (if r.next.text = [45] then (9 : Int) else 8) ≤ 13 := by split <;> omega
        generalize (if r.next.text = [45] then (9 : Int) else 8) = op at *
        have key : r2.why = 0 → r.why = 0 ∧ (r2.ms = r0.ms ∧ r0.at' + 1 ≤ r2.at' ∧ Wf r0.ms r0.at' r2.at' (two op a b r.next) ∧ size (two op a b r.next) ≤ r2.at' - r0.at') := fun hw => by
          obtain ⟨g1, g2, g3, g4, g5⟩ := h1 n (by omega) r.adv b r2 hc hw
          simp only [Rd.adv_why, Rd.adv_ms, Rd.adv_at] at g1 g2 g3 g4 g5
          obtain ⟨k1, k2, k3, k4⟩ := ha g1
          rw [k1] at g4
          have := made_two (r := r0) (r1 := r) (r2 := r2) (.inl hop) k1 k2 k3 k4 g3 g4 g5
          exact ⟨g1, g2.trans k1, by omega, this.1, this.2⟩
        obtain ⟨m1, m2⟩ := ih _ r0 r2 e q (by omega) hrun hq (fun hw => (key hw).2)
        exact ⟨(key m1).1, m2⟩
    · simp only [Option.some.injEq, Prod.mk.injEq] at hrun
      obtain ⟨rfl, rfl⟩ := hrun
      obtain ⟨k1, k2, k3, k4⟩ := ha hq
      exact ⟨hq, k1, k2, k3, k4⟩
theorem made_termL {N : Nat} (h1 : ∀ k, k < N → ∀ r, Made (unitF k r) r) : ∀ n a (r0 r : Rd) e q, n ≤ N → termLF n a r = some (e, q) → q.why = 0 → (r.why = 0 → r.ms = r0.ms ∧ r0.at' + 1 ≤ r.at' ∧ Wf r0.ms r0.at' r.at' a ∧ size a ≤ r.at' - r0.at') →
    r.why = 0 ∧ q.ms = r0.ms ∧ r0.at' + 1 ≤ q.at' ∧ Wf r0.ms r0.at' q.at' e ∧ size e ≤ q.at' - r0.at' := by
  intro n
  induction n with
  | zero => intro a r0 r e q _ h; simp [termLF] at h
  | succ n ih =>
    intro a r0 r e q hn hrun hq ha
    unfold termLF at hrun
    split at hrun
    · cases hc : unitF n r.adv with
      | none => rw [hc] at hrun; simp at hrun
      | some p =>
        obtain ⟨b, r2⟩ := p
        rw [hc] at hrun
        simp only [Option.bind_some] at hrun
        have hop : 8 ≤ (if r.next.text = [47] then (11 : Int) else 10) ∧ (if r.next.text = [47] then (11 : Int) else 10) ≤ 13 := by split <;> omega
        generalize (if r.next.text = [47] then (11 : Int) else 10) = op at *
        have key : r2.why = 0 → r.why = 0 ∧ (r2.ms = r0.ms ∧ r0.at' + 1 ≤ r2.at' ∧ Wf r0.ms r0.at' r2.at' (two op a b r.next) ∧ size (two op a b r.next) ≤ r2.at' - r0.at') := fun hw => by
          obtain ⟨g1, g2, g3, g4, g5⟩ := h1 n (by omega) r.adv b r2 hc hw
          simp only [Rd.adv_why, Rd.adv_ms, Rd.adv_at] at g1 g2 g3 g4 g5
          obtain ⟨k1, k2, k3, k4⟩ := ha g1
          rw [k1] at g4
          have := made_two (r := r0) (r1 := r) (r2 := r2) (.inl hop) k1 k2 k3 k4 g3 g4 g5
          exact ⟨g1, g2.trans k1, by omega, this.1, this.2⟩
        obtain ⟨m1, m2⟩ := ih _ r0 r2 e q (by omega) hrun hq (fun hw => (key hw).2)
        exact ⟨(key m1).1, m2⟩
    · simp only [Option.some.injEq, Prod.mk.injEq] at hrun
      obtain ⟨rfl, rfl⟩ := hrun
      obtain ⟨k1, k2, k3, k4⟩ := ha hq
      exact ⟨hq, k1, k2, k3, k4⟩
theorem made_namedL {N : Nat} (h1 : ∀ k, k < N → ∀ r, Made (exprF k r) r) : ∀ n l (r0 r : Rd) L q, n ≤ N → namedLF n l r = some (L, q) → q.why = 0 → (r.why = 0 → r.ms = r0.ms ∧ r0.at' ≤ r.at' ∧ Wfs r0.ms r0.at' r.at' l ∧ sizes l ≤ r.at' - r0.at') →
    r.why = 0 ∧ q.ms = r0.ms ∧ r0.at' ≤ q.at' ∧ Wfs r0.ms r0.at' q.at' L ∧ sizes L ≤ q.at' - r0.at' := by
  intro n
  induction n with
  | zero => intro a r0 r e q _ h; simp [namedLF] at h
  | succ n ih =>
    intro l r0 r L q hn hrun hq ha
    unfold namedLF at hrun
    split at hrun
    · rename_i hs
      have st : Step r (if l = [] then r else r.want [44]) 0 := by
        split
        · exact Step.refl
        · intro h
          obtain ⟨g1, g2, g3⟩ := step_want h
          exact ⟨g1, g2, by omega⟩
      generalize (if l = [] then r else r.want [44]) = r1 at *
      cases hc : exprF n r1 with
      | none => rw [hc] at hrun; simp at hrun
      | some p =>
        obtain ⟨b, r2⟩ := p
        rw [hc] at hrun
        simp only [Option.bind_some] at hrun
        obtain ⟨k1, k2, k3, k4⟩ := ha hs.1
        have key : r2.why = 0 → r2.ms = r0.ms ∧ r0.at' ≤ r2.at' ∧ Wfs r0.ms r0.at' r2.at' (l ++ [b]) ∧ sizes (l ++ [b]) ≤ r2.at' - r0.at' := fun hw => by
          obtain ⟨g1, g2, g3, g4, g5⟩ := h1 n (by omega) r1 b r2 hc hw
          obtain ⟨j1, j2, j3⟩ := st g1
          rw [j2, k1] at g4
          refine ⟨g2.trans (j2.trans k1), by omega, Wfs_app (Wfs.mono (Nat.le_refl _) (by omega) _ k3) ?_, ?_⟩
          · unfold Wfs Wfs
            exact ⟨Wf.mono (by omega) (Nat.le_refl _) _ g4, trivial⟩
          · rw [sizes_app]
            simp only [sizes]
            omega
        obtain ⟨m1, m2⟩ := ih _ r0 r2 L q (by omega) hrun hq key
        exact ⟨hs.1, m2⟩
    · simp only [Option.some.injEq, Prod.mk.injEq] at hrun
      obtain ⟨rfl, rfl⟩ := hrun
      obtain ⟨k1, k2, k3, k4⟩ := ha hq
      exact ⟨hq, k1, k2, k3, k4⟩
theorem made_parts {N : Nat} (h1 : ∀ k, k < N → ∀ r, Made (exprF k r) r) : ∀ ss n (r : Rd), n ≤ N → MadeL 0 (partsF n ss r) r ∧ ∀ L q, partsF n ss r = some (L, q) → L.length = ss.length := by
  intro ss
  induction ss with
  | nil =>
    intro n r hn
    cases n with
    | zero => exact ⟨fun l q h => by simp [partsF] at h, fun l q h => by simp [partsF] at h⟩
    | succ n =>
      refine ⟨fun l q h hq => ?_, fun l q h => ?_⟩
      · simp only [partsF, Option.some.injEq, Prod.mk.injEq] at h
        obtain ⟨rfl, rfl⟩ := h
        exact ⟨hq, rfl, by omega, by unfold Wfs; trivial, by simp [sizes]⟩
      · simp only [partsF, Option.some.injEq, Prod.mk.injEq] at h
        obtain ⟨rfl, rfl⟩ := h
        rfl
  | cons s ss ih =>
    intro n r hn
    cases n with
    | zero => exact ⟨fun l q h => by simp [partsF] at h, fun l q h => by simp [partsF] at h⟩
    | succ n =>
      have st : Step r (if s = [] then r else r.want s) 0 := by
        split
        · exact Step.refl
        · intro h
          obtain ⟨g1, g2, g3⟩ := step_want h
          exact ⟨g1, g2, by omega⟩
      have split' : ∀ L q, partsF (n + 1) (s :: ss) r = some (L, q) → ∃ b r2 l, exprF n (if s = [] then r else r.want s) = some (b, r2) ∧ partsF n ss r2 = some (l, q) ∧ L = b :: l := fun L q h => by
        unfold partsF at h
        cases hc : exprF n (if s = [] then r else r.want s) with
        | none => rw [hc] at h; simp at h
        | some p =>
          rw [hc] at h
          simp only [Option.bind_some, Option.map_eq_some_iff, Prod.mk.injEq] at h
          obtain ⟨q2, h2, rfl, rfl⟩ := h
          exact ⟨p.1, p.2, q2.1, rfl, h2, rfl⟩
      generalize (if s = [] then r else r.want s) = r1 at *
      refine ⟨fun L q h hq => ?_, fun L q h => ?_⟩
      · obtain ⟨b, r2, l, e1, e2, rfl⟩ := split' L q h
        obtain ⟨a1, a2, a3, a4, a5⟩ := (ih n r2 (by omega)).1 l q e2 hq
        obtain ⟨g1, g2, g3, g4, g5⟩ := h1 n (by omega) r1 b r2 e1 a1
        obtain ⟨j1, j2, j3⟩ := st g1
        rw [g2, j2] at a4
        rw [j2] at g4
        refine ⟨j1, a2.trans (g2.trans j2), by omega, ?_, by simp only [sizes]; omega⟩
        unfold Wfs
        exact ⟨Wf.mono (by omega) (by omega) _ g4, Wfs.mono (by omega) (Nat.le_refl _) _ a4⟩
      · obtain ⟨b, r2, l, e1, e2, rfl⟩ := split' L q h
        have := (ih n r2 (by omega)).2 l q e2
        simp [this]
theorem made_branches {N : Nat} (h1 : ∀ k, k < N → ∀ r, Made (exprF k r) r) (n : Nat) (hn : n ≤ N) (r : Rd) (p : Int) (e : Ex) (q : Rd) (hrun : branchesF n r p = some (e, q)) (hq : q.why = 0) :
    r.why = 0 ∧ q.ms = r.ms ∧ r.at' ≤ q.at' ∧ ∃ h t x a b, e = .mk 20 h t 0 ⟨0, 0⟩ [x, a, b] p ∧ Wfs r.ms r.at' q.at' [x, a, b] ∧ sizes [x, a, b] ≤ q.at' - r.at' := by
  cases n with
  | zero => simp [branchesF] at hrun
  | succ n =>
    unfold branchesF at hrun
    cases hc1 : exprF n r with
    | none => rw [hc1] at hrun; simp at hrun
    | some p1 =>
      obtain ⟨x, r1⟩ := p1
      rw [hc1] at hrun
      simp only [Option.bind_some] at hrun
      have s1 : Step r1 (((r1.want [111, 102]).want [110, 105, 108]).want [45, 62]) 3 := (step_want.trans step_want).trans step_want
      generalize ((r1.want [111, 102]).want [110, 105, 108]).want [45, 62] = s3 at *
      cases hc2 : exprF n s3 with
      | none => rw [hc2] at hrun; simp at hrun
      | some p2 =>
        obtain ⟨a, r2⟩ := p2
        rw [hc2] at hrun
        simp only [Option.bind_some, Option.map_eq_some_iff, Prod.mk.injEq] at hrun
        obtain ⟨⟨b, r3⟩, hc3, he1, he2⟩ := hrun
        simp only at he1 he2
        subst he1 he2
        have s2 : Step r2 ((((r2.want [124]).name.2.want [58]).name.2).want [45, 62]) 5 := (((step_want.trans step_name).trans step_want).trans step_name).trans step_want
        generalize (((r2.want [124]).name.2.want [58]).name.2).want [45, 62] = s8 at *
        obtain ⟨c1, c2, c3, c4, c5⟩ := h1 n (by omega) s8 b r3 hc3 hq
        obtain ⟨j1, j2, j3⟩ := s2 c1
        obtain ⟨b1, b2, b3, b4, b5⟩ := h1 n (by omega) s3 a r2 hc2 j1
        obtain ⟨i1, i2, i3⟩ := s1 b1
        obtain ⟨a1, a2, a3, a4, a5⟩ := h1 n (by omega) r x r1 hc1 i1
        rw [j2, b2, i2, a2] at c4
        rw [i2, a2] at b4
        refine ⟨a1, c2.trans (j2.trans (b2.trans (i2.trans a2))), by omega, _, _, x, a, b, rfl, ?_, by simp only [sizes]; omega⟩
        unfold Wfs Wfs Wfs Wfs
        exact ⟨Wf.mono (Nat.le_refl _) (by omega) _ a4, Wf.mono (by omega) (by omega) _ b4, Wf.mono (by omega) (Nat.le_refl _) _ c4, trivial⟩
structure Makes (n : Nat) (r : Rd) : Prop where
  expr : Made (exprF n r) r
  cons : Made (consF n r) r
  comp : Made (compF n r) r
  sum : Made (sumF n r) r
  term : Made (termF n r) r
  unit : Made (unitF n r) r
  named : ∀ r0 : Rd, r0.adv = r → r0.why = 0 → Made (namedF n r0.next r) r0
theorem made_leaf {r q : Rd} {op ty : Int} {n t : List UInt8} {z : Cx} (st : Step r q 1) (hq : q.why = 0) (hs : shape op ty 0) : r.why = 0 ∧ q.ms = r.ms ∧ r.at' + 1 ≤ q.at' ∧ Wf r.ms r.at' q.at' (.mk op n t ty z [] r.next.at') ∧ size (.mk op n t ty z [] r.next.at') ≤ q.at' - r.at' := by
  obtain ⟨g1, g2, g3⟩ := st hq
  refine ⟨g1, g2, g3, ?_, by simp only [size, sizes]; omega⟩
  unfold Wf Wfs
  exact ⟨place_next (by omega), hs, trivial⟩
theorem makes_all : ∀ n (r : Rd), Makes n r := by
  intro n
  induction n using Nat.strongRecOn with
  | _ n ih =>
    intro r
    cases n with
    | zero =>
      refine ⟨?_, ?_, ?_, ?_, ?_, ?_, ?_⟩
      · intro e q h; simp [exprF] at h
      · intro e q h; simp [consF] at h
      · intro e q h; simp [compF] at h
      · intro e q h; simp [sumF] at h
      · intro e q h; simp [termF] at h
      · intro e q h; simp [unitF] at h
      · intro r0 _ _ e q h; simp [namedF] at h
    | succ n =>
      have he : ∀ k, k < n → ∀ r, Made (exprF k r) r := fun k hk r => (ih k (by omega) r).expr
      have gn := ih n (by omega)
      refine ⟨?_, ?_, ?_, ?_, ?_, ?_, ?_⟩
      · intro e q hrun hq
        unfold exprF at hrun
        simp only at hrun
        have hr1 : ∀ r1, r1 = (if (binds r && decide (r.lN ≤ r.nest)) = true then r.fail 23 else r) → r1.why = 0 → r1 = r := fun r1 h hw => by
          split at h
          · rw [h] at hw; exact absurd hw (fail_why (by decide))
          · exact h
        generalize hrr : (if (binds r && decide (r.lN ≤ r.nest)) = true then r.fail 23 else r) = r1 at *
        by_cases h0 : r1.why = 0
        · have e1 := hr1 r1 rfl h0
          subst e1
          rw [if_neg (by simp [h0])] at hrun
          split at hrun
          · exact (gn r1).cons e q hrun hq
          · obtain ⟨r2, hr2⟩ : ∃ r2, r2 = (if binds r1 then { r1 with nest := r1.nest + 1 } else r1).adv := ⟨_, rfl⟩
            rw [← hr2] at hrun
            have s2 : r2.ms = r1.ms ∧ r2.at' = r1.at' + 1 ∧ r2.why = r1.why := by
              rw [hr2]
              cases binds r1
              · exact ⟨rfl, rfl, rfl⟩
              · exact ⟨rfl, rfl, rfl⟩
            obtain ⟨m2, a2, w2⟩ := s2
            clear hr2
            simp only [Option.map_eq_some_iff, Prod.mk.injEq] at hrun
            obtain ⟨⟨e', q'⟩, hres, he1, he2⟩ := hrun
            simp only at he1 he2
            subst he1
            have hq' : q'.why = 0 ∧ q.ms = q'.ms ∧ q.at' = q'.at' := by
              rw [← he2] at hq ⊢
              split at hq
              · rename_i hb; rw [if_pos hb]; exact ⟨hq, rfl, rfl⟩
              · rename_i hb; rw [if_neg hb]; exact ⟨hq, rfl, rfl⟩
            obtain ⟨hw, hm, hat⟩ := hq'
            rw [hm, hat]
            have fin : ∀ op n t ty (args : List Ex), e' = .mk op n t ty ⟨0, 0⟩ args r1.next.at' → shape op ty args.length → q'.ms = r2.ms → r2.at' ≤ q'.at' → Wfs r2.ms r2.at' q'.at' args → sizes args ≤ q'.at' - r2.at' →
                r1.why = 0 ∧ q'.ms = r1.ms ∧ r1.at' + 1 ≤ q'.at' ∧ Wf r1.ms r1.at' q'.at' e' ∧ size e' ≤ q'.at' - r1.at' := fun op n t ty args he hs g1 g2 g3 g4 => by
              subst he
              rw [m2] at g3
              refine ⟨h0, g1.trans m2, by omega, ?_, by simp only [size]; omega⟩
              unfold Wf
              exact ⟨place_next (by omega), hs, Wfs.mono (by omega) (Nat.le_refl _) _ g3⟩
            split at hres
            · simp only [Option.map_eq_some_iff, Prod.mk.injEq] at hres
              obtain ⟨⟨l, q2⟩, hl, he1, he3⟩ := hres
              simp only at he1 he3
              subst he3
              obtain ⟨b1, b2, b3, b4, b5⟩ := (made_parts (N := n) he _ n r2 (Nat.le_refl _)).1 l q2 hl hw
              have hlen := (made_parts (N := n) he _ n r2 (Nat.le_refl _)).2 l q2 hl
              exact fin 19 [] [] 0 l he1.symm (.inr (.inr (.inr (.inr (.inr (.inl ⟨.inl rfl, hlen⟩)))))) b2 (by omega) b4 b5
            · split at hres
              · obtain ⟨b1, b2, b3, hd, tl, x, a, b, he1, b4, b5⟩ := made_branches (N := n) he n (Nat.le_refl _) r2 _ e' q' hres hw
                exact fin 20 hd tl 0 [x, a, b] he1 (.inr (.inr (.inr (.inr (.inr (.inl ⟨.inr rfl, rfl⟩)))))) b2 b3 b4 b5
              · simp only [Option.map_eq_some_iff, Prod.mk.injEq] at hres
                obtain ⟨⟨l, q2⟩, hl, he1, he3⟩ := hres
                simp only at he1 he3
                subst he3
                obtain ⟨b1, b2, b3, b4, b5⟩ := (made_parts (N := n) he _ n r2.name.2.typ.2 (Nat.le_refl _)).1 l q2 hl hw
                have hlen := (made_parts (N := n) he _ n r2.name.2.typ.2 (Nat.le_refl _)).2 l q2 hl
                have st : Step r2 r2.name.2.typ.2 2 := step_name.trans step_typ
                obtain ⟨j1, j2, j3⟩ := st b1
                rw [j2] at b4
                refine fin _ _ [] r2.name.2.typ.1 l he1.symm (.inr (.inr (.inr (.inr (.inr (.inr ⟨?_, hlen, typ_ok b1⟩)))))) (b2.trans j2) (by omega) (Wfs.mono (by omega) (Nat.le_refl _) _ b4) (by omega)
                split
                · exact .inr rfl
                · exact .inl rfl
        · rw [if_pos h0] at hrun
          simp only [Option.some.injEq, Prod.mk.injEq] at hrun
          obtain ⟨_, rfl⟩ := hrun
          exact absurd hq h0
      · intro e q hrun hq
        unfold consF at hrun
        cases hc : compF n r with
        | none => rw [hc] at hrun; simp at hrun
        | some p =>
          obtain ⟨a, r1⟩ := p
          rw [hc] at hrun
          simp only [Option.bind_some] at hrun
          split at hrun
          · simp only [Option.map_eq_some_iff, Prod.mk.injEq] at hrun
            obtain ⟨⟨b, r2⟩, hb, he1, he2⟩ := hrun
            simp only at he1 he2
            subst he1 he2
            obtain ⟨g1, g2, g3, g4, g5⟩ := (gn r1.adv).cons b r2 hb hq
            simp only [Rd.adv_why, Rd.adv_ms, Rd.adv_at] at g1 g2 g3 g4 g5
            obtain ⟨k1, k2, k3, k4, k5⟩ := (gn r).comp a r1 hc g1
            rw [k2] at g4
            have := made_two (r := r) (r1 := r1) (r2 := r2) (.inr rfl : 8 ≤ (18 : Int) ∧ (18 : Int) ≤ 13 ∨ (18 : Int) = 18) k2 k3 k4 k5 g3 g4 g5
            exact ⟨k1, g2.trans k2, by omega, this.1, this.2⟩
          · simp only [Option.some.injEq, Prod.mk.injEq] at hrun
            obtain ⟨rfl, rfl⟩ := hrun
            exact (gn r).comp a r1 hc hq
      · intro e q hrun hq
        unfold compF at hrun
        cases hc : sumF n r with
        | none => rw [hc] at hrun; simp at hrun
        | some p =>
          obtain ⟨a, r1⟩ := p
          rw [hc] at hrun
          simp only [Option.bind_some] at hrun
          split at hrun
          · simp only [Option.map_eq_some_iff, Prod.mk.injEq] at hrun
            obtain ⟨⟨b, r2⟩, hb, he1, he2⟩ := hrun
            simp only at he1 he2
            subst he1 he2
            obtain ⟨g1, g2, g3, g4, g5⟩ := (gn r1.adv).sum b r2 hb hq
            simp only [Rd.adv_why, Rd.adv_ms, Rd.adv_at] at g1 g2 g3 g4 g5
            obtain ⟨k1, k2, k3, k4, k5⟩ := (gn r).sum a r1 hc g1
            rw [k2] at g4
            have := made_two (r := r) (r1 := r1) (r2 := r2) (op := if r1.is [60] then 13 else 12) (.inl (by split <;> omega)) k2 k3 k4 k5 g3 g4 g5
            exact ⟨k1, g2.trans k2, by omega, this.1, this.2⟩
          · simp only [Option.some.injEq, Prod.mk.injEq] at hrun
            obtain ⟨rfl, rfl⟩ := hrun
            exact (gn r).sum a r1 hc hq
      · intro e q hrun hq
        unfold sumF at hrun
        cases hc : termF n r with
        | none => rw [hc] at hrun; simp at hrun
        | some p =>
          obtain ⟨a, r1⟩ := p
          rw [hc] at hrun
          simp only [Option.bind_some] at hrun
          have key := made_sumL (N := n) (fun k hk r => (ih k (by omega) r).term) n a r r1 e q (Nat.le_refl _) hrun hq (fun hw => ((gn r).term a r1 hc hw).2)
          exact ⟨((gn r).term a r1 hc key.1).1, key.2⟩
      · intro e q hrun hq
        unfold termF at hrun
        cases hc : unitF n r with
        | none => rw [hc] at hrun; simp at hrun
        | some p =>
          obtain ⟨a, r1⟩ := p
          rw [hc] at hrun
          simp only [Option.bind_some] at hrun
          have key := made_termL (N := n) (fun k hk r => (ih k (by omega) r).unit) n a r r1 e q (Nat.le_refl _) hrun hq (fun hw => ((gn r).unit a r1 hc hw).2)
          exact ⟨((gn r).unit a r1 hc key.1).1, key.2⟩
      · intro e q hrun hq
        unfold unitF at hrun
        by_cases g1 : r.why = 0
        · rw [if_neg (by simp [g1])] at hrun
          by_cases g2 : r.next.kind = 2
          · rw [if_pos g2] at hrun
            simp only [Option.some.injEq, Prod.mk.injEq] at hrun
            obtain ⟨rfl, rfl⟩ := hrun
            exact made_leaf step_adv hq (.inl ⟨.inl rfl, rfl⟩)
          · rw [if_neg g2] at hrun
            by_cases g3 : r.next.kind = 0
            · rw [if_pos g3] at hrun
              exact (gn r.adv).named r rfl g1 e q hrun hq
            · rw [if_neg g3] at hrun
              cases g4 : r.is [40] <;> rw [g4] at hrun
              · rw [if_neg (by decide)] at hrun
                by_cases g5 : ¬ r.next.kind = 1 ∨ wordF r.next.text = 0
                · rw [if_pos g5] at hrun
                  simp only [Option.some.injEq, Prod.mk.injEq] at hrun
                  obtain ⟨_, rfl⟩ := hrun
                  exact absurd hq (fail_why (by decide))
                · rw [if_neg g5] at hrun
                  by_cases g6 : wordF r.next.text = 5
                  · rw [if_pos g6] at hrun
                    simp only [Option.some.injEq, Prod.mk.injEq] at hrun
                    obtain ⟨rfl, rfl⟩ := hrun
                    have st : Step r r.adv.typ.2 2 := step_adv.trans step_typ
                    exact made_leaf (fun h => by obtain ⟨a, b, c⟩ := st h; exact ⟨a, b, by omega⟩) hq (.inr (.inl ⟨rfl, rfl, typ_ok hq⟩))
                  · rw [if_neg g6] at hrun
                    by_cases g7 : 14 ≤ wordF r.next.text
                    · rw [if_pos g7] at hrun
                      simp only [Option.map_eq_some_iff, Prod.mk.injEq] at hrun
                      obtain ⟨⟨x, q2⟩, hx, he1, he2⟩ := hrun
                      simp only at he1 he2
                      subst he1 he2
                      obtain ⟨j1, j2, j3⟩ := step_want hq
                      obtain ⟨b1, b2, b3, b4, b5⟩ := (gn _).expr x q2 hx j1
                      have st : Step r (r.adv.want [40]) 2 := step_adv.trans step_want
                      obtain ⟨i1, i2, i3⟩ := st b1
                      rw [i2] at b4
                      have hv := word_vals r.next.text
                      refine ⟨g1, j2.trans (b2.trans i2), by omega, ?_, by simp only [size, sizes]; omega⟩
                      unfold Wf Wfs Wfs
                      exact ⟨place_next (by omega), .inr (.inr (.inr (.inr (.inl ⟨g7, by omega, rfl⟩)))), Wf.mono (by omega) (by omega) _ b4, trivial⟩
                    · rw [if_neg g7] at hrun
                      simp only [Option.some.injEq, Prod.mk.injEq] at hrun
                      obtain ⟨rfl, rfl⟩ := hrun
                      have hv := word_vals r.next.text
                      have h0 : wordF r.next.text ≠ 0 := fun h => g5 (.inr h)
                      exact made_leaf step_adv hq (.inl ⟨by omega, rfl⟩)
              · rw [if_pos rfl] at hrun
                simp only [Option.map_eq_some_iff, Prod.mk.injEq] at hrun
                obtain ⟨⟨x, q2⟩, hx, he1, he2⟩ := hrun
                simp only at he1 he2
                subst he1 he2
                obtain ⟨j1, j2, j3⟩ := step_want hq
                obtain ⟨b1, b2, b3, b4, b5⟩ := (gn _).expr x q2 hx j1
                simp only [Rd.adv_why, Rd.adv_ms, Rd.adv_at] at b1 b2 b3 b4 b5
                exact ⟨g1, j2.trans b2, by omega, Wf.mono (by omega) (by omega) _ b4, by omega⟩
        · rw [if_pos g1] at hrun
          simp only [Option.some.injEq, Prod.mk.injEq] at hrun
          obtain ⟨_, rfl⟩ := hrun
          exact absurd hq g1
      · intro r0 h0 w0 e q hrun hq
        subst h0
        unfold namedF at hrun
        split at hrun
        · simp only [Option.map_eq_some_iff, Prod.mk.injEq] at hrun
          obtain ⟨⟨l, q2⟩, hl, he1, he2⟩ := hrun
          simp only at he1 he2
          subst he1 he2
          obtain ⟨j1, j2, j3⟩ := step_want hq
          obtain ⟨b1, b2, b3, b4, b5⟩ := made_namedL (N := n) he n [] r0.adv.adv r0.adv.adv l q2 (Nat.le_refl _) hl j1 (fun _ => ⟨rfl, Nat.le_refl _, by unfold Wfs; trivial, by simp [sizes]⟩)
          simp only [Rd.adv_why, Rd.adv_ms, Rd.adv_at] at b1 b2 b3 b4 b5
          refine ⟨w0, j2.trans b2, by omega, ?_, by simp only [size]; omega⟩
          unfold Wf
          exact ⟨place_next (by omega), .inr (.inr (.inl rfl)), Wfs.mono (by omega) (by omega) _ b4⟩
        · simp only [Option.some.injEq, Prod.mk.injEq] at hrun
          obtain ⟨rfl, rfl⟩ := hrun
          exact made_leaf step_adv hq (.inl ⟨by simp, rfl⟩)
end Go.Fx.Ythbainhddfajfaa

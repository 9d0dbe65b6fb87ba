/-
  The parser comes to an end at every text.
-/
import Derived.Test.YthbainhddfajfaaPB
set_option linter.all false
set_option maxRecDepth 100000
set_option maxHeartbeats 4000000
namespace Go.Fx.Ythbainhddfajfaa
open Go Go.Fx Go.Proofs Go.Fx.Flt
/-- How many marks are left to read. -/
def rem (r : Rd) : Nat := if r.why = 0 then r.ms.length - r.at' else 0
theorem rem_no {r : Rd} (h : r.why ≠ 0) : rem r = 0 := by unfold rem; rw [if_neg h]
theorem rem_pos {r : Rd} (h : r.ok) (h0 : r.why = 0) : 1 ≤ rem r := by
  have := h.lt
  unfold rem; rw [if_pos h0]; omega
theorem rem_adv {r : Rd} (h : r.ok) (h0 : r.why = 0) : rem r.adv + 1 = rem r := by
  have := h.lt
  simp [rem, h0]; omega
theorem fail_why {r : Rd} {w : Int} (hw : w ≠ 0) : (r.fail w).why ≠ 0 := by
  unfold Rd.fail
  split
  · exact hw
  · assumption
theorem rem_fail {r : Rd} {w : Int} (hw : w ≠ 0) : rem (r.fail w) = 0 := rem_no (fail_why hw)
/-- From r to q: nothing is given back, and without a fault something was taken. -/
def Down (r q : Rd) : Prop := q.ok ∧ rem q ≤ rem r ∧ (q.why = 0 → rem q < rem r)
theorem down_fail {r : Rd} (h : r.ok) {w : Int} (hw : w ≠ 0) : Down r (r.fail w) := ⟨Rd.ok_fail h _, by rw [rem_fail hw]; omega, fun g => absurd g (fail_why hw)⟩
theorem down_adv {r : Rd} (h : r.ok) (h0 : r.why = 0) (h4 : r.next.kind ≠ 4) : Down r r.adv := by
  have := rem_adv h h0
  exact ⟨Rd.ok_adv h h4, by omega, fun _ => by omega⟩
theorem down_is {r : Rd} (h : r.ok) {s : List UInt8} (hs : r.is s = true) : Down r r.adv := down_adv h (Rd.is_kind hs).1 (Rd.is_4 hs)
theorem down_want {r : Rd} (h : r.ok) (s : List UInt8) : Down r (r.want s) := by
  unfold Rd.want
  cases hs : r.is s
  · exact down_fail h (by decide)
  · exact down_is h hs
theorem down_name {r : Rd} (h : r.ok) : Down r r.name.2 := by
  unfold Rd.name
  cases hb : r.bad
  · unfold Rd.bad at hb
    simp at hb
    exact down_adv h hb.1 (by omega)
  · exact down_fail h (by decide)
theorem down_typ {r : Rd} (h : r.ok) : Down r r.typ.2 := by
  unfold Rd.typ
  cases h1 : r.is [78]
  · cases h2 : r.is [66]
    · cases h3 : r.is [76]
      · exact down_fail h (by decide)
      · exact down_is h h3
    · exact down_is h h2
  · exact down_is h h1
theorem Down.trans {r q s : Rd} (h : Down r q) (k : Down q s) : Down r s := ⟨k.1, by have := h.2.1; have := k.2.1; omega, fun g => by have := k.2.2 g; have := h.2.1; omega⟩
/-- The same without something taken. -/
def Le (r q : Rd) : Prop := q.ok ∧ rem q ≤ rem r
theorem Down.le {r q : Rd} (h : Down r q) : Le r q := ⟨h.1, h.2.1⟩
theorem Le.refl {r : Rd} (h : r.ok) : Le r r := ⟨h, Nat.le_refl _⟩
theorem Down.after {r q s : Rd} (h : Down r q) (k : Le q s) : Down r s := ⟨k.1, by have := h.2.1; have := k.2; omega, fun g => by
  by_cases hq : q.why = 0
  · have := h.2.2 hq; have := k.2; omega
  · have := rem_no hq; have := k.2; have := rem_pos k.1 g; omega⟩
theorem Le.trans {r q s : Rd} (h : Le r q) (k : Le q s) : Le r s := ⟨k.1, by have := h.2; have := k.2; omega⟩
def Fin (run : PR) (r : Rd) : Prop := ∃ e q, run = some (e, q) ∧ Down r q
def FinL {α : Type} (run : Option (α × Rd)) (r : Rd) : Prop := ∃ e q, run = some (e, q) ∧ Le r q
theorem fin_sumL {N : Nat} (h1 : ∀ k, k < N → ∀ r, r.ok → 20 * rem r + 4 ≤ k → Fin (termF k r) r) : ∀ n a (r : Rd), n ≤ N → r.ok → 20 * rem r + 1 ≤ n → FinL (sumLF n a r) r := by
  intro n
  induction n with
  | zero => intro a r _ _ h; omega
  | succ n ih =>
    intro a r hn h hf
    unfold sumLF
    split
    · rename_i hs
      have d : Down r r.adv := by
        rcases Bool.or_eq_true_iff.1 hs with g | g
        · exact down_is h g
        · exact down_is h g
      have g0 : r.why = 0 := by
        rcases Bool.or_eq_true_iff.1 hs with g | g
        · exact (Rd.is_kind g).1
        · exact (Rd.is_kind g).1
      have ra := rem_adv h g0
      obtain ⟨b, q, hq, dq⟩ := h1 n (by omega) r.adv d.1 (by omega)
      rw [hq]
      have := dq.2.1
      obtain ⟨e, s, hs2, ds⟩ := ih (two (if r.next.text = [45] then 9 else 8) a b r.next) q (by omega) dq.1 (by omega)
      exact ⟨e, s, hs2, (d.trans dq).le.trans ds⟩
    · exact ⟨a, r, rfl, Le.refl h⟩
theorem fin_termL {N : Nat} (h1 : ∀ k, k < N → ∀ r, r.ok → 20 * rem r + 3 ≤ k → Fin (unitF k r) r) : ∀ n a (r : Rd), n ≤ N → r.ok → 20 * rem r + 1 ≤ n → FinL (termLF n a r) r := by
  intro n
  induction n with
  | zero => intro a r _ _ h; omega
  | succ n ih =>
    intro a r hn h hf
    unfold termLF
    split
    · rename_i hs
      have d : Down r r.adv := by
        rcases Bool.or_eq_true_iff.1 hs with g | g
        · exact down_is h g
        · exact down_is h g
      have g0 : r.why = 0 := by
        rcases Bool.or_eq_true_iff.1 hs with g | g
        · exact (Rd.is_kind g).1
        · exact (Rd.is_kind g).1
      have ra := rem_adv h g0
      obtain ⟨b, q, hq, dq⟩ := h1 n (by omega) r.adv d.1 (by omega)
      rw [hq]
      have := dq.2.1
      obtain ⟨e, s, hs2, ds⟩ := ih (two (if r.next.text = [47] then 11 else 10) a b r.next) q (by omega) dq.1 (by omega)
      exact ⟨e, s, hs2, (d.trans dq).le.trans ds⟩
    · exact ⟨a, r, rfl, Le.refl h⟩
theorem fin_namedL {N : Nat} (h1 : ∀ k, k < N → ∀ r, r.ok → 20 * rem r + 8 ≤ k → Fin (exprF k r) r) : ∀ n l (r : Rd), n ≤ N → r.ok → 20 * rem r + 9 ≤ n → FinL (namedLF n l r) r := by
  intro n
  induction n with
  | zero => intro a r _ _ h; omega
  | succ n ih =>
    intro l r hn h hf
    unfold namedLF
    split
    · rename_i hs
      have rp := rem_pos h hs.1
      have d : Le r (if l = [] then r else r.want [44]) := by
        split
        · exact Le.refl h
        · exact (down_want h _).le
      generalize (if l = [] then r else r.want [44]) = r1 at *
      have := d.2
      obtain ⟨b, q, hq, dq⟩ := h1 n (by omega) r1 d.1 (by omega)
      rw [hq]
      have hb : 20 * rem q + 9 ≤ n := by
        by_cases g : q.why = 0
        · have := dq.2.2 g; omega
        · have := rem_no g; omega
      obtain ⟨e, s, hs2, ds⟩ := ih (l ++ [b]) q (by omega) dq.1 hb
      exact ⟨e, s, hs2, d.trans (dq.le.trans ds)⟩
    · exact ⟨l, r, rfl, Le.refl h⟩
theorem fin_parts {N : Nat} (h1 : ∀ k, k < N → ∀ r, r.ok → 20 * rem r + 8 ≤ k → Fin (exprF k r) r) : ∀ ss n (r : Rd), n ≤ N → r.ok → 20 * rem r + 9 + ss.length ≤ n → FinL (partsF n ss r) r := by
  intro ss
  induction ss with
  | nil =>
    intro n r hn h hf
    obtain ⟨m, rfl⟩ : ∃ m, n = m + 1 := ⟨n - 1, by omega⟩
    exact ⟨[], r, by simp [partsF], Le.refl h⟩
  | cons s ss ih =>
    intro n r hn h hf
    obtain ⟨m, rfl⟩ : ∃ m, n = m + 1 := ⟨n - 1, by omega⟩
    simp only [List.length_cons] at hf
    unfold partsF
    have d : Le r (if s = [] then r else r.want s) := by
      split
      · exact Le.refl h
      · exact (down_want h _).le
    generalize (if s = [] then r else r.want s) = r1 at *
    have := d.2
    obtain ⟨b, q, hq, dq⟩ := h1 m (by omega) r1 d.1 (by omega)
    rw [hq]
    have := dq.2.1
    obtain ⟨e, t, ht, dt⟩ := ih m q (by omega) dq.1 (by omega)
    simp only [Option.bind_some, ht, Option.map_some]
    exact ⟨b :: e, t, rfl, d.trans (dq.le.trans dt)⟩
theorem fin_branches {N : Nat} (h1 : ∀ k, k < N → ∀ r, r.ok → 20 * rem r + 8 ≤ k → Fin (exprF k r) r) (n : Nat) (r : Rd) (p : Int) (hn : n ≤ N) (h : r.ok) (hf : 20 * rem r + 9 ≤ n) : FinL (branchesF n r p) r := by
  obtain ⟨m, rfl⟩ : ∃ m, n = m + 1 := ⟨n - 1, by omega⟩
  unfold branchesF
  obtain ⟨x, r1, hx, d1⟩ := h1 m (by omega) r h (by omega)
  rw [hx]
  simp only [Option.bind_some]
  have d2 := down_want d1.1 [111, 102]
  have d3 := down_want d2.1 [110, 105, 108]
  have d4 := down_want d3.1 [45, 62]
  have D := ((d1.trans d2).trans d3).trans d4
  generalize ((r1.want [111, 102]).want [110, 105, 108]).want [45, 62] = s at *
  have := D.2.1
  obtain ⟨a, r2, ha, d5⟩ := h1 m (by omega) s D.1 (by omega)
  rw [ha]
  simp only [Option.bind_some]
  have e1 := down_want d5.1 [124]
  have e2 := down_name e1.1
  have e3 := down_want e2.1 [58]
  have e4 := down_name e3.1
  have e5 := down_want e4.1 [45, 62]
  have E := (((((D.trans d5).trans e1).trans e2).trans e3).trans e4).trans e5
  have := E.2.1
  obtain ⟨b, r3, hb, d6⟩ := h1 m (by omega) _ E.1 (by omega)
  rw [hb]
  exact ⟨_, r3, rfl, (E.trans d6).le⟩
structure Ends (n : Nat) (r : Rd) : Prop where
  expr : 20 * rem r + 8 ≤ n → Fin (exprF n r) r
  cons : 20 * rem r + 7 ≤ n → Fin (consF n r) r
  comp : 20 * rem r + 6 ≤ n → Fin (compF n r) r
  sum : 20 * rem r + 5 ≤ n → Fin (sumF n r) r
  term : 20 * rem r + 4 ≤ n → Fin (termF n r) r
  unit : 20 * rem r + 3 ≤ n → Fin (unitF n r) r
  named : ∀ m, 20 * rem r + 12 ≤ n → FinL (namedF n m r) r
theorem ends_all : ∀ n, n ≤ 2 ^ 40 → ∀ (r : Rd), r.ok → Ends n r := by
  intro n
  induction n using Nat.strongRecOn with
  | _ n ih =>
    intro hn r h
    replace ih : ∀ m, m < n → ∀ r, r.ok → Ends m r := fun m hm => ih m hm (by omega)
    cases n with
    | zero => refine ⟨?_, ?_, ?_, ?_, ?_, ?_, ?_⟩ <;> (intros; omega)
    | succ n =>
      have he : ∀ k, k < n → ∀ r, r.ok → 20 * rem r + 8 ≤ k → Fin (exprF k r) r := fun k hk r h => (ih k (by omega) r h).expr
      refine ⟨fun hf => ?_, fun hf => ?_, fun hf => ?_, fun hf => ?_, fun hf => ?_, fun hf => ?_, fun m hf => ?_⟩
      · suffices main : ∃ e q, exprF (n + 1) r = some (e, q) ∧ rem q ≤ rem r ∧ (q.why = 0 → rem q < rem r) by
          obtain ⟨e, q, hq, g1, g2⟩ := main
          exact ⟨e, q, hq, (expr_c hn h hq).1, g1, g2⟩
        unfold exprF
        simp only
        by_cases c1 : (binds r && decide (r.lN ≤ r.nest)) = true
        · rw [c1]
          simp only [if_true]
          rw [if_pos (fail_why (by decide))]
          exact ⟨ex0, _, rfl, (down_fail h (by decide)).2⟩
        · simp only [Bool.not_eq_true] at c1
          rw [c1]
          simp only [Bool.false_eq_true, if_false]
          by_cases c2 : r.why = 0
          · rw [if_neg (by simp [c2])]
            have rp := rem_pos h c2
            by_cases c3 : binds r = false ∧ r.is [105, 102] = false
            · rw [if_pos c3]
              obtain ⟨e, q, hq, dq⟩ := (ih n (by omega) r h).cons (by omega)
              exact ⟨e, q, hq, dq.2⟩
            · rw [if_neg c3]
              have h4 : r.next.kind ≠ 4 := by
                cases hb : binds r
                · cases hi : r.is [105, 102]
                  · exact absurd ⟨hb, hi⟩ c3
                  · exact Rd.is_4 hi
                · unfold binds at hb
                  simp only [Bool.or_eq_true] at hb
                  rcases hb with g | g | g
                  · exact Rd.is_4 g
                  · exact Rd.is_4 g
                  · exact Rd.is_4 g
              obtain ⟨r2, hr2⟩ : ∃ r2, r2 = (if binds r then { r with nest := r.nest + 1 } else r).adv := ⟨_, rfl⟩
              have h2 : r2.ok ∧ rem r2 + 1 = rem r := by
                have ra := rem_adv h c2
                have ka := Rd.ok_adv h h4
                cases hb : binds r
                · rw [hb] at hr2
                  simp only [Bool.false_eq_true, if_false] at hr2
                  rw [hr2]; exact ⟨ka, ra⟩
                · rw [hb] at hr2 c1
                  simp only [if_true, Bool.true_and, decide_eq_false_iff_not] at hr2 c1
                  rw [hr2]
                  have := h.n0
                  have := h.l1
                  exact ⟨⟨ka.ms, ka.lt, ka.len, by show 0 ≤ r.nest + 1; omega, by show r.nest + 1 ≤ 2 ^ 40; omega, ka.l1⟩, ra⟩
              rw [← hr2]
              have last : ∀ (res : PR), FinL res r2 → ∃ e q, (res.map fun (e, q) => (e, if binds r then { q with nest := q.nest - 1 } else q)) = some (e, q) ∧ rem q ≤ rem r ∧ (q.why = 0 → rem q < rem r) := fun res hres => by
                obtain ⟨e, q, hq, dq⟩ := hres
                rw [hq]
                have h3 := dq.2
                have h4 := h2.2
                cases hb : binds r
                · exact ⟨e, q, rfl, by omega, fun _ => by omega⟩
                · refine ⟨e, _, rfl, ?_, fun _ => ?_⟩
                  · show rem q ≤ rem r
                    omega
                  · show rem q < rem r
                    omega
              apply last
              split
              · obtain ⟨l, q, hl, dl⟩ := fin_parts (N := n) he [[], [116, 104, 101, 110], [101, 108, 115, 101]] n r2 (Nat.le_refl _) h2.1 (by simp only [List.length_cons, List.length_nil]; omega)
                rw [hl]
                exact ⟨_, q, rfl, dl⟩
              · split
                · exact fin_branches he n r2 _ (Nat.le_refl _) h2.1 (by omega)
                · have d1 := down_name h2.1
                  have d2 := down_typ d1.1
                  have D := d1.trans d2
                  have := D.2.1
                  obtain ⟨l, q, hl, dl⟩ := fin_parts (N := n) he [[61], [105, 110]] n r2.name.2.typ.2 (Nat.le_refl _) D.1 (by simp only [List.length_cons, List.length_nil]; omega)
                  rw [hl]
                  exact ⟨_, q, rfl, D.le.trans dl⟩
          · rw [if_pos c2]
            exact ⟨ex0, r, rfl, Nat.le_refl _, fun g => absurd g c2⟩
      · unfold consF
        obtain ⟨a, r1, ha, d1⟩ := (ih n (by omega) r h).comp (by omega)
        rw [ha]
        simp only [Option.bind_some]
        cases hs : r1.is [58]
        · exact ⟨a, r1, rfl, d1⟩
        · have d2 := down_is d1.1 hs
          have ra := rem_adv d1.1 (Rd.is_kind hs).1
          have := d1.2.1
          obtain ⟨b, r2, hb, d3⟩ := (ih n (by omega) r1.adv d2.1).cons (by omega)
          rw [if_pos rfl, hb]
          exact ⟨_, r2, rfl, (d1.trans d2).trans d3⟩
      · unfold compF
        obtain ⟨a, r1, ha, d1⟩ := (ih n (by omega) r h).sum (by omega)
        rw [ha]
        simp only [Option.bind_some]
        cases hs : (r1.is [61, 61] || r1.is [60])
        · exact ⟨a, r1, rfl, d1⟩
        · have d2 : Down r1 r1.adv := by
            rcases Bool.or_eq_true_iff.1 hs with g | g
            · exact down_is d1.1 g
            · exact down_is d1.1 g
          have := d1.2.1
          have := d2.2.1
          obtain ⟨b, r2, hb, d3⟩ := (ih n (by omega) r1.adv d2.1).sum (by omega)
          rw [if_pos rfl, hb]
          exact ⟨_, r2, rfl, (d1.trans d2).trans d3⟩
      · unfold sumF
        obtain ⟨a, r1, ha, d1⟩ := (ih n (by omega) r h).term (by omega)
        rw [ha]
        simp only [Option.bind_some]
        by_cases g : r1.why = 0
        · have := d1.2.2 g
          obtain ⟨e, q, hq, dq⟩ := fin_sumL (N := n) (fun k hk r h => (ih k (by omega) r h).term) n a r1 (Nat.le_refl _) d1.1 (by omega)
          exact ⟨e, q, hq, d1.after dq⟩
        · have := rem_no g
          obtain ⟨e, q, hq, dq⟩ := fin_sumL (N := n) (fun k hk r h => (ih k (by omega) r h).term) n a r1 (Nat.le_refl _) d1.1 (by omega)
          exact ⟨e, q, hq, d1.after dq⟩
      · unfold termF
        obtain ⟨a, r1, ha, d1⟩ := (ih n (by omega) r h).unit (by omega)
        rw [ha]
        simp only [Option.bind_some]
        by_cases g : r1.why = 0
        · have := d1.2.2 g
          obtain ⟨e, q, hq, dq⟩ := fin_termL (N := n) (fun k hk r h => (ih k (by omega) r h).unit) n a r1 (Nat.le_refl _) d1.1 (by omega)
          exact ⟨e, q, hq, d1.after dq⟩
        · have := rem_no g
          obtain ⟨e, q, hq, dq⟩ := fin_termL (N := n) (fun k hk r h => (ih k (by omega) r h).unit) n a r1 (Nat.le_refl _) d1.1 (by omega)
          exact ⟨e, q, hq, d1.after dq⟩
      · unfold unitF
        by_cases g1 : r.why = 0
        · rw [if_neg (by simp [g1])]
          have rp := rem_pos h g1
          have ra := rem_adv h g1
          by_cases g2 : r.next.kind = 2
          · rw [if_pos g2]; exact ⟨_, _, rfl, down_adv h g1 (by omega)⟩
          · rw [if_neg g2]
            by_cases g3 : r.next.kind = 0
            · rw [if_pos g3]
              have d := down_adv h g1 (by omega)
              obtain ⟨e, q, hq, dq⟩ := (ih n (by omega) r.adv d.1).named r.next (by omega)
              exact ⟨e, q, hq, d.after dq⟩
            · rw [if_neg g3]
              cases g4 : r.is [40]
              · rw [if_neg (by decide)]
                by_cases g5 : ¬ r.next.kind = 1 ∨ wordF r.next.text = 0
                · rw [if_pos g5]; exact ⟨_, _, rfl, down_fail h (by decide)⟩
                · rw [if_neg g5]
                  have k1 : r.next.kind = 1 := by
                    by_cases k : r.next.kind = 1
                    · exact k
                    · exact absurd (.inl k) g5
                  have d := down_adv h g1 (by omega)
                  by_cases g6 : wordF r.next.text = 5
                  · rw [if_pos g6]; exact ⟨_, _, rfl, d.trans (down_typ d.1)⟩
                  · rw [if_neg g6]
                    by_cases g7 : 14 ≤ wordF r.next.text
                    · rw [if_pos g7]
                      have d2 := down_want d.1 [40]
                      have := d2.2.1
                      obtain ⟨x, q, hx, dx⟩ := (ih n (by omega) _ d2.1).expr (by omega)
                      rw [hx]
                      exact ⟨_, _, rfl, ((d.trans d2).trans dx).trans (down_want dx.1 _)⟩
                    · rw [if_neg g7]; exact ⟨_, _, rfl, d⟩
              · rw [if_pos rfl]
                have d := down_is h g4
                obtain ⟨x, q, hx, dx⟩ := (ih n (by omega) r.adv d.1).expr (by omega)
                rw [hx]
                exact ⟨_, _, rfl, (d.trans dx).trans (down_want dx.1 _)⟩
        · rw [if_pos g1]
          exact ⟨ex0, r, rfl, h, Nat.le_refl _, fun g => absurd g g1⟩
      · unfold namedF
        cases hs : r.is [40]
        · exact ⟨_, r, rfl, Le.refl h⟩
        · rw [if_pos rfl]
          have d := down_is h hs
          have := d.2.1
          obtain ⟨l, q, hl, dl⟩ := fin_namedL (N := n) he n [] r.adv (Nat.le_refl _) d.1 (by omega)
          rw [hl]
          exact ⟨_, _, rfl, (d.le.trans dl).trans (down_want dl.1 _).le⟩
theorem fin_params : ∀ n l (r : Rd), r.ok → rem r + 1 ≤ n → FinL (paramsF n l r) r := by
  intro n
  induction n with
  | zero => intro l r _ h; omega
  | succ n ih =>
    intro l r h hf
    unfold paramsF
    split
    · rename_i hs
      have rp := rem_pos h hs.1
      have d1 : Le r (pw r l) := by
        unfold pw; split
        · exact Le.refl h
        · exact (down_want h _).le
      have d2 : Le (pw r l) (pf (pw r l) l) := by
        unfold pf; split
        · exact (down_fail d1.1 (by decide)).le
        · exact Le.refl d1.1
      have d3 := (d1.trans d2)
      have d4 := (down_name d3.1).trans (down_typ (down_name d3.1).1)
      have := d3.2
      have hb : rem (pf (pw r l) l).name.2.typ.2 + 1 ≤ n := by
        by_cases g : (pf (pw r l) l).name.2.typ.2.why = 0
        · have := d4.2.2 g; omega
        · have := rem_no g; omega
      obtain ⟨e, q, hq, dq⟩ := ih _ _ d4.1 hb
      exact ⟨e, q, hq, d3.trans (d4.le.trans dq)⟩
    · exact ⟨l, r, rfl, Le.refl h⟩
theorem fin_def {n : Nat} (hn : n ≤ 2 ^ 40) (r : Rd) (h : r.ok) (c : Nat) (hf : 20 * rem r + 8 ≤ n) : ∃ f q, defF n r c = some (f, q) ∧ Down r q := by
  unfold defF
  have d0 : Le r (df r c) := by
    unfold df; split
    · exact (down_fail h (by decide)).le
    · exact Le.refl h
  have d1 := (down_name d0.1).trans (down_want (down_name d0.1).1 [40])
  generalize (df r c).name.2.want [40] = s at *
  have := d0.2
  have := d1.2.1
  obtain ⟨ps, r4, hp, d2⟩ := fin_params n [] s d1.1 (by omega)
  rw [hp]
  simp only [Option.bind_some]
  have D : Down r r4 := ⟨d2.1, by have := d2.2; omega, fun g => by
    have a := (d1.after d2).2.2 g
    omega⟩
  have e1 := down_want D.1 [41]
  have e2 := down_want e1.1 [58]
  have e3 := down_typ e2.1
  have e4 := down_want e3.1 [61]
  have E := (((D.trans e1).trans e2).trans e3).trans e4
  have := E.2.1
  obtain ⟨b, r9, hb, d3⟩ := (ends_all n hn _ E.1).expr (by omega)
  rw [hb]
  exact ⟨_, _, rfl, (E.trans d3).trans (down_want d3.1 _)⟩
theorem fin_prog : ∀ n l (r : Rd), n ≤ 2 ^ 40 → r.ok → 20 * rem r + 9 ≤ n → FinL (progF n l r) r := by
  intro n
  induction n with
  | zero => intro l r _ _ h; omega
  | succ n ih =>
    intro l r hn h hf
    unfold progF
    split
    · rename_i hs
      have rp := rem_pos h hs.1
      obtain ⟨f, q, hq, dq⟩ := fin_def (n := n) (by omega) r h l.length (by omega)
      rw [hq]
      have hb : 20 * rem q + 9 ≤ n := by
        by_cases g : q.why = 0
        · have := dq.2.2 g; omega
        · have := rem_no g; omega
      obtain ⟨e, s, hs2, ds⟩ := ih (l ++ [f]) q (by omega) dq.1 hb
      exact ⟨e, s, hs2, dq.le.trans ds⟩
    · exact ⟨l, r, rfl, Le.refl h⟩
/-- What a text is read as. -/
theorem prog_ends {r : Rd} (h : r.ok) : ∃ L q, progF (2 ^ 30) [] r = some (L, q) ∧ q.ok := by
  have hr : rem r ≤ 2 ^ 21 := by
    have := h.len
    unfold rem
    split <;> omega
  obtain ⟨L, q, hq, dq⟩ := fin_prog (2 ^ 30) [] r (by decide) h (by omega)
  exact ⟨L, q, hq, dq.1⟩
end Go.Fx.Ythbainhddfajfaa

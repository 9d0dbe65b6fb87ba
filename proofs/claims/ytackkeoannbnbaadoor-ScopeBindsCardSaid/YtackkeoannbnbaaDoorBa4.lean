/- The law ScopeBinds answers true for every input, and every argument reads behind the call as it read before. Conditions: those of the given statement, none besides.. No condition. -/
import Derived.Test.YtackkeoannbnbaaDoorBa3
import Derived.Test.YtackkeoannbnbaaDoorRows
set_option linter.all false
set_option maxRecDepth 100000
set_option maxHeartbeats 4000000
namespace Go.Fx.YtackkeoannbnbaaDoor
open Go Go.Fx Go.Proofs Go.Fx.Flt
def rem (r : Rd) : Nat := if r.why = 0 then r.ms.length - r.at' else 0
theorem j9 {r : Rd} (h : r.why ≠ 0) : rem r = 0 := by unfold rem; rw [if_neg h]
theorem jK {r : Rd} (h : r.ok) (h0 : r.why = 0) : 1 ≤ rem r := by
 have := h.lt
 unfold rem; rw [if_pos h0]; omega
theorem jL {r : Rd} (h : r.ok) (h0 : r.why = 0) : rem r.adv + 1 = rem r := by
 have := h.lt
 simp [rem, h0]; omega
theorem eS {r : Rd} {w : Int} (hw : w ≠ 0) : (r.fail w).why ≠ 0 := by
 unfold Rd.fail
 split
 ·exact hw
 ·assumption
theorem A9 {r : Rd} {w : Int} (hw : w ≠ 0) : rem (r.fail w) = 0 := j9 (eS hw)
def Down (r q : Rd) : Prop := q.ok ∧ rem q ≤ rem r ∧ (q.why = 0 → rem q < rem r)
theorem fQ {r : Rd} (h : r.ok) {w : Int} (hw : w ≠ 0) : Down r (r.fail w) := ⟨Rd.ok_fail h _, by rw [A9 hw]; omega, fun g => absurd g (eS hw)⟩
theorem j_ {r : Rd} (h : r.ok) (h0 : r.why = 0) (h4 : r.next.kind ≠ 4) : Down r r.adv := by
 have := jL h h0
 exact ⟨Rd.ok_adv h h4, by omega, fun _ => by omega⟩
theorem dR {r : Rd} (h : r.ok) {s : List UInt8} (hs : r.is s = true) : Down r r.adv := j_ h (Rd.is_kind hs).1 (Rd.is_4 hs)
theorem bM {r : Rd} (h : r.ok) (s : List UInt8) : Down r (r.want s) := by
 unfold Rd.want
 cases hs : r.is s
 ·exact fQ h (by decide)
 ·exact dR h hs
theorem fF {r : Rd} (h : r.ok) : Down r r.name.2 := by
 unfold Rd.name
 cases hb : r.bad
 ·unfold Rd.bad at hb
  simp at hb
  exact j_ h hb.1 (by omega)
 ·exact fQ h (by decide)
theorem l8 {r : Rd} (h : r.ok) : Down r r.typ.2 := by
 unfold Rd.typ
 cases h1 : r.is [78]
 ·cases h2 : r.is [66]
  ·cases h3 : r.is [76]
   ·exact fQ h (by decide)
   ·exact dR h h3
  ·exact dR h h2
 ·exact dR h h1
theorem Down.trans {r q s : Rd} (h : Down r q) (k : Down q s) : Down r s := ⟨k.1, by have := h.2.1; have := k.2.1; omega, fun g => by have := k.2.2 g; have := h.2.1; omega⟩
def Le (r q : Rd) : Prop := q.ok ∧ rem q ≤ rem r
theorem Down.le {r q : Rd} (h : Down r q) : Le r q := ⟨h.1, h.2.1⟩
theorem Le.refl {r : Rd} (h : r.ok) : Le r r := ⟨h, Nat.le_refl _⟩
theorem Down.after {r q s : Rd} (h : Down r q) (k : Le q s) : Down r s := ⟨k.1, by have := h.2.1; have := k.2; omega, fun g => by
 by_cases hq : q.why = 0
 ·have := h.2.2 hq; have := k.2; omega
 ·have := j9 hq; have := k.2; have := jK k.1 g; omega⟩
theorem Le.trans {r q s : Rd} (h : Le r q) (k : Le q s) : Le r s := ⟨k.1, by have := h.2; have := k.2; omega⟩
def iW (run : PR) (r : Rd) : Prop := ∃ e q, run = some (e, q) ∧ Down r q
def mT {α : Type} (run : Option (α × Rd)) (r : Rd) : Prop := ∃ e q, run = some (e, q) ∧ Le r q
theorem uN {N : Nat} (h1 : ∀ k, k < N → ∀ r, r.ok → 20 * rem r + 4 ≤ k → iW (cO k r) r) : ∀ n a (r : Rd), n ≤ N → r.ok → 20 * rem r + 1 ≤ n → mT (eC n a r) r := by
 intro n
 induction n with
 | zero => intro a r _ _ h; omega
 | succ n ih =>
  intro a r hn h hf
  unfold eC
  split
  ·rename_i hs
   have d : Down r r.adv := by
    rcases Bool.or_eq_true_iff.1 hs with g | g
    ·exact dR h g
    ·exact dR h g
   have g0 : r.why = 0 := by
    rcases Bool.or_eq_true_iff.1 hs with g | g
    ·exact (Rd.is_kind g).1
    ·exact (Rd.is_kind g).1
   have ra := jL h g0
   obtain ⟨b, q, hq, dq⟩ := h1 n (by omega) r.adv d.1 (by omega)
   rw [hq]
   have := dq.2.1
   obtain ⟨e, s, hs2, ds⟩ := ih (two (if r.next.text = [45] then 9 else 8) a b r.next) q (by omega) dq.1 (by omega)
   exact ⟨e, s, hs2, (d.trans dq).le.trans ds⟩
  ·exact ⟨a, r, rfl, Le.refl h⟩
theorem tG {N : Nat} (h1 : ∀ k, k < N → ∀ r, r.ok → 20 * rem r + 3 ≤ k → iW (cN k r) r) : ∀ n a (r : Rd), n ≤ N → r.ok → 20 * rem r + 1 ≤ n → mT (dD n a r) r := by
 intro n
 induction n with
 | zero => intro a r _ _ h; omega
 | succ n ih =>
  intro a r hn h hf
  unfold dD
  split
  ·rename_i hs
   have d : Down r r.adv := by
    rcases Bool.or_eq_true_iff.1 hs with g | g
    ·exact dR h g
    ·exact dR h g
   have g0 : r.why = 0 := by
    rcases Bool.or_eq_true_iff.1 hs with g | g
    ·exact (Rd.is_kind g).1
    ·exact (Rd.is_kind g).1
   have ra := jL h g0
   obtain ⟨b, q, hq, dq⟩ := h1 n (by omega) r.adv d.1 (by omega)
   rw [hq]
   have := dq.2.1
   obtain ⟨e, s, hs2, ds⟩ := ih (two (if r.next.text = [47] then 11 else 10) a b r.next) q (by omega) dq.1 (by omega)
   exact ⟨e, s, hs2, (d.trans dq).le.trans ds⟩
  ·exact ⟨a, r, rfl, Le.refl h⟩
theorem xU {N : Nat} (h1 : ∀ k, k < N → ∀ r, r.ok → 20 * rem r + 8 ≤ k → iW (aX k r) r) : ∀ n l (r : Rd), n ≤ N → r.ok → 20 * rem r + 9 ≤ n → mT (cR n l r) r := by
 intro n
 induction n with
 | zero => intro a r _ _ h; omega
 | succ n ih =>
  intro l r hn h hf
  unfold cR
  split
  ·rename_i hs
   have rp := jK h hs.1
   have d : Le r (if l = [] then r else r.want [44]) := by
    split
    ·exact Le.refl h
    ·exact (bM h _).le
   generalize (if l = [] then r else r.want [44]) = r1 at *
   have := d.2
   obtain ⟨b, q, hq, dq⟩ := h1 n (by omega) r1 d.1 (by omega)
   rw [hq]
   have hb : 20 * rem q + 9 ≤ n := by
    by_cases g : q.why = 0
    ·have := dq.2.2 g; omega
    ·have := j9 g; omega
   obtain ⟨e, s, hs2, ds⟩ := ih (l ++ [b]) q (by omega) dq.1 hb
   exact ⟨e, s, hs2, d.trans (dq.le.trans ds)⟩
  ·exact ⟨l, r, rfl, Le.refl h⟩
theorem rJ {N : Nat} (h1 : ∀ k, k < N → ∀ r, r.ok → 20 * rem r + 8 ≤ k → iW (aX k r) r) : ∀ ss n (r : Rd), n ≤ N → r.ok → 20 * rem r + 9 + ss.length ≤ n → mT (bH n ss r) r := by
 intro ss
 induction ss with
 | nil =>
  intro n r hn h hf
  obtain ⟨m, rfl⟩ : ∃ m, n = m + 1 := ⟨n - 1, by omega⟩
  exact ⟨[], r, by simp [bH], Le.refl h⟩
 | cons s ss ih =>
  intro n r hn h hf
  obtain ⟨m, rfl⟩ : ∃ m, n = m + 1 := ⟨n - 1, by omega⟩
  simp only [List.length_cons] at hf
  unfold bH
  have d : Le r (if s = [] then r else r.want s) := by
   split
   ·exact Le.refl h
   ·exact (bM h _).le
  generalize (if s = [] then r else r.want s) = r1 at *
  have := d.2
  obtain ⟨b, q, hq, dq⟩ := h1 m (by omega) r1 d.1 (by omega)
  rw [hq]
  have := dq.2.1
  obtain ⟨e, t, ht, dt⟩ := ih m q (by omega) dq.1 (by omega)
  simp only [Option.bind_some, ht, Option.map_some]
  exact ⟨b :: e, t, rfl, d.trans (dq.le.trans dt)⟩
theorem tR {N : Nat} (h1 : ∀ k, k < N → ∀ r, r.ok → 20 * rem r + 8 ≤ k → iW (aX k r) r) (n : Nat) (r : Rd) (p : Int) (hn : n ≤ N) (h : r.ok) (hf : 20 * rem r + 9 ≤ n) : mT (cH n r p) r := by
 obtain ⟨m, rfl⟩ : ∃ m, n = m + 1 := ⟨n - 1, by omega⟩
 unfold cH
 obtain ⟨x, r1, hx, d1⟩ := h1 m (by omega) r h (by omega)
 rw [hx]
 simp only [Option.bind_some]
 have d2 := bM d1.1 [111, 102]
 have d3 := bM d2.1 [110, 105, 108]
 have d4 := bM d3.1 [45, 62]
 have D := ((d1.trans d2).trans d3).trans d4
 generalize ((r1.want [111, 102]).want [110, 105, 108]).want [45, 62] = s at *
 have := D.2.1
 obtain ⟨a, r2, ha, d5⟩ := h1 m (by omega) s D.1 (by omega)
 rw [ha]
 simp only [Option.bind_some]
 have e1 := bM d5.1 [124]
 have e2 := fF e1.1
 have e3 := bM e2.1 [58]
 have e4 := fF e3.1
 have e5 := bM e4.1 [45, 62]
 have E := (((((D.trans d5).trans e1).trans e2).trans e3).trans e4).trans e5
 have := E.2.1
 obtain ⟨b, r3, hb, d6⟩ := h1 m (by omega) _ E.1 (by omega)
 rw [hb]
 exact ⟨_, r3, rfl, (E.trans d6).le⟩
structure Ends (n : Nat) (r : Rd) : Prop where
 expr : 20 * rem r + 8 ≤ n → iW (aX n r) r
 cons : 20 * rem r + 7 ≤ n → iW (eG n r) r
 comp : 20 * rem r + 6 ≤ n → iW (eF n r) r
 sum : 20 * rem r + 5 ≤ n → iW (fG n r) r
 term : 20 * rem r + 4 ≤ n → iW (cO n r) r
 unit : 20 * rem r + 3 ≤ n → iW (cN n r) r
 named : ∀ m, 20 * rem r + 12 ≤ n → mT (eA n m r) r
theorem BD : ∀ n, n ≤ 2 ^ 40 → ∀ (r : Rd), r.ok → Ends n r := by
 intro n
 induction n using Nat.strongRecOn with
 | _ n ih =>
  intro hn r h
  replace ih : ∀ m, m < n → ∀ r, r.ok → Ends m r := fun m hm => ih m hm (by omega)
  cases n with
  | zero => refine ⟨?_, ?_, ?_, ?_, ?_, ?_, ?_⟩ <;> (intros; omega)
  | succ n =>
   have he : ∀ k, k < n → ∀ r, r.ok → 20 * rem r + 8 ≤ k → iW (aX k r) r := fun k hk r h => (ih k (by omega) r h).expr
   refine ⟨fun hf => ?_, fun hf => ?_, fun hf => ?_, fun hf => ?_, fun hf => ?_, fun hf => ?_, fun m hf => ?_⟩
   ·suffices main : ∃ e q, aX (n + 1) r = some (e, q) ∧ rem q ≤ rem r ∧ (q.why = 0 → rem q < rem r) by
     obtain ⟨e, q, hq, g1, g2⟩ := main
     exact ⟨e, q, hq, (AL hn h hq).1, g1, g2⟩
    unfold aX
    simp only
    by_cases c1 : (binds r && decide (r.lN ≤ r.nest)) = true
    ·rw [c1]
     simp only [if_true]
     rw [if_pos (eS (by decide))]
     exact ⟨ex0, _, rfl, (fQ h (by decide)).2⟩
    ·simp only [Bool.not_eq_true] at c1
     rw [c1]
     simp only [Bool.false_eq_true, if_false]
     by_cases c2 : r.why = 0
     ·rw [if_neg (by simp [c2])]
      have rp := jK h c2
      by_cases c3 : binds r = false ∧ r.is [105, 102] = false
      ·rw [if_pos c3]
       obtain ⟨e, q, hq, dq⟩ := (ih n (by omega) r h).cons (by omega)
       exact ⟨e, q, hq, dq.2⟩
      ·rw [if_neg c3]
       have h4 : r.next.kind ≠ 4 := by
        cases hb : binds r
        ·cases hi : r.is [105, 102]
         ·exact absurd ⟨hb, hi⟩ c3
         ·exact Rd.is_4 hi
        ·unfold binds at hb
         simp only [Bool.or_eq_true] at hb
         rcases hb with g | g | g
         ·exact Rd.is_4 g
         ·exact Rd.is_4 g
         ·exact Rd.is_4 g
       obtain ⟨r2, hr2⟩ : ∃ r2, r2 = (if binds r then { r with nest := r.nest + 1 } else r).adv := ⟨_, rfl⟩
       have h2 : r2.ok ∧ rem r2 + 1 = rem r := by
        have ra := jL h c2
        have ka := Rd.ok_adv h h4
        cases hb : binds r
        ·rw [hb] at hr2
         simp only [Bool.false_eq_true, if_false] at hr2
         rw [hr2]; exact ⟨ka, ra⟩
        ·rw [hb] at hr2 c1
         simp only [if_true, Bool.true_and, decide_eq_false_iff_not] at hr2 c1
         rw [hr2]
         have := h.n0
         have := h.l1
         exact ⟨⟨ka.ms, ka.lt, ka.len, by show 0 ≤ r.nest + 1; omega, by show r.nest + 1 ≤ 2 ^ 40; omega, ka.l1⟩, ra⟩
       rw [← hr2]
       have last : ∀ (res : PR), mT res r2 → ∃ e q, (res.map fun (e, q) => (e, if binds r then { q with nest := q.nest - 1 } else q)) = some (e, q) ∧ rem q ≤ rem r ∧ (q.why = 0 → rem q < rem r) := fun res hres => by
        obtain ⟨e, q, hq, dq⟩ := hres
        rw [hq]
        have h3 := dq.2
        have h4 := h2.2
        cases hb : binds r
        ·exact ⟨e, q, rfl, by omega, fun _ => by omega⟩
        ·refine ⟨e, _, rfl, ?_, fun _ => ?_⟩
         ·show rem q ≤ rem r
          omega
         ·show rem q < rem r
          omega
       apply last
       split
       ·obtain ⟨l, q, hl, dl⟩ := rJ (N := n) he [[], [116, 104, 101, 110], [101, 108, 115, 101]] n r2 (Nat.le_refl _) h2.1 (by simp only [List.length_cons, List.length_nil]; omega)
        rw [hl]
        exact ⟨_, q, rfl, dl⟩
       ·split
        ·exact tR he n r2 _ (Nat.le_refl _) h2.1 (by omega)
        ·have d1 := fF h2.1
         have d2 := l8 d1.1
         have D := d1.trans d2
         have := D.2.1
         obtain ⟨l, q, hl, dl⟩ := rJ (N := n) he [[61], [105, 110]] n r2.name.2.typ.2 (Nat.le_refl _) D.1 (by simp only [List.length_cons, List.length_nil]; omega)
         rw [hl]
         exact ⟨_, q, rfl, D.le.trans dl⟩
     ·rw [if_pos c2]
      exact ⟨ex0, r, rfl, Nat.le_refl _, fun g => absurd g c2⟩
   ·unfold eG
    obtain ⟨a, r1, ha, d1⟩ := (ih n (by omega) r h).comp (by omega)
    rw [ha]
    simp only [Option.bind_some]
    cases hs : r1.is [58]
    ·exact ⟨a, r1, rfl, d1⟩
    ·have d2 := dR d1.1 hs
     have ra := jL d1.1 (Rd.is_kind hs).1
     have := d1.2.1
     obtain ⟨b, r2, hb, d3⟩ := (ih n (by omega) r1.adv d2.1).cons (by omega)
     rw [if_pos rfl, hb]
     exact ⟨_, r2, rfl, (d1.trans d2).trans d3⟩
   ·unfold eF
    obtain ⟨a, r1, ha, d1⟩ := (ih n (by omega) r h).sum (by omega)
    rw [ha]
    simp only [Option.bind_some]
    cases hs : (r1.is [61, 61] || r1.is [60])
    ·exact ⟨a, r1, rfl, d1⟩
    ·have d2 : Down r1 r1.adv := by
      rcases Bool.or_eq_true_iff.1 hs with g | g
      ·exact dR d1.1 g
      ·exact dR d1.1 g
     have := d1.2.1
     have := d2.2.1
     obtain ⟨b, r2, hb, d3⟩ := (ih n (by omega) r1.adv d2.1).sum (by omega)
     rw [if_pos rfl, hb]
     exact ⟨_, r2, rfl, (d1.trans d2).trans d3⟩
   ·unfold fG
    obtain ⟨a, r1, ha, d1⟩ := (ih n (by omega) r h).term (by omega)
    rw [ha]
    simp only [Option.bind_some]
    by_cases g : r1.why = 0
    ·have := d1.2.2 g
     obtain ⟨e, q, hq, dq⟩ := uN (N := n) (fun k hk r h => (ih k (by omega) r h).term) n a r1 (Nat.le_refl _) d1.1 (by omega)
     exact ⟨e, q, hq, d1.after dq⟩
    ·have := j9 g
     obtain ⟨e, q, hq, dq⟩ := uN (N := n) (fun k hk r h => (ih k (by omega) r h).term) n a r1 (Nat.le_refl _) d1.1 (by omega)
     exact ⟨e, q, hq, d1.after dq⟩
   ·unfold cO
    obtain ⟨a, r1, ha, d1⟩ := (ih n (by omega) r h).unit (by omega)
    rw [ha]
    simp only [Option.bind_some]
    by_cases g : r1.why = 0
    ·have := d1.2.2 g
     obtain ⟨e, q, hq, dq⟩ := tG (N := n) (fun k hk r h => (ih k (by omega) r h).unit) n a r1 (Nat.le_refl _) d1.1 (by omega)
     exact ⟨e, q, hq, d1.after dq⟩
    ·have := j9 g
     obtain ⟨e, q, hq, dq⟩ := tG (N := n) (fun k hk r h => (ih k (by omega) r h).unit) n a r1 (Nat.le_refl _) d1.1 (by omega)
     exact ⟨e, q, hq, d1.after dq⟩
   ·unfold cN
    by_cases g1 : r.why = 0
    ·rw [if_neg (by simp [g1])]
     have rp := jK h g1
     have ra := jL h g1
     by_cases g2 : r.next.kind = 2
     ·rw [if_pos g2]; exact ⟨_, _, rfl, j_ h g1 (by omega)⟩
     ·rw [if_neg g2]
      by_cases g3 : r.next.kind = 0
      ·rw [if_pos g3]
       have d := j_ h g1 (by omega)
       obtain ⟨e, q, hq, dq⟩ := (ih n (by omega) r.adv d.1).named r.next (by omega)
       exact ⟨e, q, hq, d.after dq⟩
      ·rw [if_neg g3]
       cases g4 : r.is [40]
       ·rw [if_neg (by decide)]
        by_cases g5 : ¬ r.next.kind = 1 ∨ bK r.next.text = 0
        ·rw [if_pos g5]; exact ⟨_, _, rfl, fQ h (by decide)⟩
        ·rw [if_neg g5]
         have k1 : r.next.kind = 1 := by
          by_cases k : r.next.kind = 1
          ·exact k
          ·exact absurd (.inl k) g5
         have d := j_ h g1 (by omega)
         by_cases g6 : bK r.next.text = 5
         ·rw [if_pos g6]; exact ⟨_, _, rfl, d.trans (l8 d.1)⟩
         ·rw [if_neg g6]
          by_cases g7 : 14 ≤ bK r.next.text
          ·rw [if_pos g7]
           have d2 := bM d.1 [40]
           have := d2.2.1
           obtain ⟨x, q, hx, dx⟩ := (ih n (by omega) _ d2.1).expr (by omega)
           rw [hx]
           exact ⟨_, _, rfl, ((d.trans d2).trans dx).trans (bM dx.1 _)⟩
          ·rw [if_neg g7]; exact ⟨_, _, rfl, d⟩
       ·rw [if_pos rfl]
        have d := dR h g4
        obtain ⟨x, q, hx, dx⟩ := (ih n (by omega) r.adv d.1).expr (by omega)
        rw [hx]
        exact ⟨_, _, rfl, (d.trans dx).trans (bM dx.1 _)⟩
    ·rw [if_pos g1]
     exact ⟨ex0, r, rfl, h, Nat.le_refl _, fun g => absurd g g1⟩
   ·unfold eA
    cases hs : r.is [40]
    ·exact ⟨_, r, rfl, Le.refl h⟩
    ·rw [if_pos rfl]
     have d := dR h hs
     have := d.2.1
     obtain ⟨l, q, hl, dl⟩ := xU (N := n) he n [] r.adv (Nat.le_refl _) d.1 (by omega)
     rw [hl]
     exact ⟨_, _, rfl, (d.le.trans dl).trans (bM dl.1 _).le⟩
theorem xI : ∀ n l (r : Rd), r.ok → rem r + 1 ≤ n → mT (b_ n l r) r := by
 intro n
 induction n with
 | zero => intro l r _ h; omega
 | succ n ih =>
  intro l r h hf
  unfold b_
  split
  ·rename_i hs
   have rp := jK h hs.1
   have d1 : Le r (pw r l) := by
    unfold pw; split
    ·exact Le.refl h
    ·exact (bM h _).le
   have d2 : Le (pw r l) (pf (pw r l) l) := by
    unfold pf; split
    ·exact (fQ d1.1 (by decide)).le
    ·exact Le.refl d1.1
   have d3 := (d1.trans d2)
   have d4 := (fF d3.1).trans (l8 (fF d3.1).1)
   have := d3.2
   have hb : rem (pf (pw r l) l).name.2.typ.2 + 1 ≤ n := by
    by_cases g : (pf (pw r l) l).name.2.typ.2.why = 0
    ·have := d4.2.2 g; omega
    ·have := j9 g; omega
   obtain ⟨e, q, hq, dq⟩ := ih _ _ d4.1 hb
   exact ⟨e, q, hq, d3.trans (d4.le.trans dq)⟩
  ·exact ⟨l, r, rfl, Le.refl h⟩
theorem EA {n : Nat} (hn : n ≤ 2 ^ 40) (r : Rd) (h : r.ok) (c : Nat) (hf : 20 * rem r + 8 ≤ n) : ∃ f q, i8 n r c = some (f, q) ∧ Down r q := by
 unfold i8
 have d0 : Le r (df r c) := by
  unfold df; split
  ·exact (fQ h (by decide)).le
  ·exact Le.refl h
 have d1 := (fF d0.1).trans (bM (fF d0.1).1 [40])
 generalize (df r c).name.2.want [40] = s at *
 have := d0.2
 have := d1.2.1
 obtain ⟨ps, r4, hp, d2⟩ := xI n [] s d1.1 (by omega)
 rw [hp]
 simp only [Option.bind_some]
 have D : Down r r4 := ⟨d2.1, by have := d2.2; omega, fun g => by
  have a := (d1.after d2).2.2 g
  omega⟩
 have e1 := bM D.1 [41]
 have e2 := bM e1.1 [58]
 have e3 := l8 e2.1
 have e4 := bM e3.1 [61]
 have E := (((D.trans e1).trans e2).trans e3).trans e4
 have := E.2.1
 obtain ⟨b, r9, hb, d3⟩ := (BD n hn _ E.1).expr (by omega)
 rw [hb]
 exact ⟨_, _, rfl, (E.trans d3).trans (bM d3.1 _)⟩
theorem CB : ∀ n l (r : Rd), n ≤ 2 ^ 40 → r.ok → 20 * rem r + 9 ≤ n → mT (cU n l r) r := by
 intro n
 induction n with
 | zero => intro l r _ _ h; omega
 | succ n ih =>
  intro l r hn h hf
  unfold cU
  split
  ·rename_i hs
   have rp := jK h hs.1
   obtain ⟨f, q, hq, dq⟩ := EA (n := n) (by omega) r h l.length (by omega)
   rw [hq]
   have hb : 20 * rem q + 9 ≤ n := by
    by_cases g : q.why = 0
    ·have := dq.2.2 g; omega
    ·have := j9 g; omega
   obtain ⟨e, s, hs2, ds⟩ := ih (l ++ [f]) q (by omega) dq.1 hb
   exact ⟨e, s, hs2, dq.le.trans ds⟩
  ·exact ⟨l, r, rfl, Le.refl h⟩
theorem AD {r : Rd} (h : r.ok) : ∃ L q, cU (2 ^ 30) [] r = some (L, q) ∧ q.ok := by
 have hr : rem r ≤ 2 ^ 21 := by
  have := h.len
  unfold rem
  split <;> omega
 obtain ⟨L, q, hq, dq⟩ := CB (2 ^ 30) [] r (by decide) h (by omega)
 exact ⟨L, q, hq, dq.1⟩
def tyOk (t : Int) : Prop := t = 1 ∨ t = 2 ∨ t = 3
def xJ (op ty : Int) (n : Nat) : Prop :=
 ((op = 1 ∨ op = 2 ∨ op = 3 ∨ op = 4 ∨ op = 6) ∧ n = 0) ∨ (op = 5 ∧ n = 0 ∧ tyOk ty) ∨ op = 7 ∨ ((8 ≤ op ∧ op ≤ 13 ∨ op = 18) ∧ n = 2) ∨ (14 ≤ op ∧ op ≤ 17 ∧ n = 1) ∨ ((op = 19 ∨ op = 20) ∧ n = 3) ∨ ((op = 21 ∨ op = 22) ∧ n = 2 ∧ tyOk ty)
def placeIn (ms : List Mk) (a b : Nat) (p : Int) : Prop := ∃ i, a ≤ i ∧ i < b ∧ p = (ms[i]?.getD default).at'
mutual
def size : Ex → Nat
 | .mk _ _ _ _ _ args _ => 1 + aW args
def aW : List Ex → Nat
 | [] => 0
 | e :: es => size e + aW es
end
mutual
def Wf (ms : List Mk) (a b : Nat) : Ex → Prop
 | .mk op _ _ ty _ args p => placeIn ms a b p ∧ xJ op ty args.length ∧ Wfs ms a b args
def Wfs (ms : List Mk) (a b : Nat) : List Ex → Prop
 | [] => True
 | e :: es => Wf ms a b e ∧ Wfs ms a b es
end
theorem placeIn.mono {ms : List Mk} {a b c d : Nat} {p : Int} (h : placeIn ms a b p) (h1 : c ≤ a) (h2 : b ≤ d) : placeIn ms c d p := by
 obtain ⟨i, g1, g2, g3⟩ := h
 exact ⟨i, by omega, by omega, g3⟩
mutual
theorem Wf.mono {ms : List Mk} {a b c d : Nat} (h1 : c ≤ a) (h2 : b ≤ d) : ∀ (e : Ex), Wf ms a b e → Wf ms c d e
 | .mk op n t ty z args p, h => by
  unfold Wf at h ⊢
  exact ⟨h.1.mono h1 h2, h.2.1, Wfs.mono h1 h2 args h.2.2⟩
theorem Wfs.mono {ms : List Mk} {a b c d : Nat} (h1 : c ≤ a) (h2 : b ≤ d) : ∀ (l : List Ex), Wfs ms a b l → Wfs ms c d l
 | [], _ => by unfold Wfs; trivial
 | e :: es, h => by
  unfold Wfs at h ⊢
  exact ⟨Wf.mono h1 h2 e h.1, Wfs.mono h1 h2 es h.2⟩
end
theorem vJ {ms : List Mk} {a b : Nat} : ∀ {l k : List Ex}, Wfs ms a b l → Wfs ms a b k → Wfs ms a b (l ++ k)
 | [], _, _, h => h
 | e :: es, k, h, g => by
  unfold Wfs at h
  show Wfs ms a b (e :: (es ++ k))
  unfold Wfs
  exact ⟨h.1, vJ h.2 g⟩
theorem sF : ∀ (l k : List Ex), aW (l ++ k) = aW l + aW k
 | [], k => by simp [aW]
 | e :: es, k => by
  show aW (e :: (es ++ k)) = _
  simp only [aW, sF es k]; omega
def Step (r q : Rd) (k : Nat) : Prop := q.why = 0 → r.why = 0 ∧ q.ms = r.ms ∧ r.at' + k ≤ q.at'
theorem Step.trans {r q s : Rd} {j k : Nat} (h : Step r q j) (g : Step q s k) : Step r s (j + k) := fun hs => by
 obtain ⟨g1, g2, g3⟩ := g hs
 obtain ⟨h1, h2, h3⟩ := h g1
 exact ⟨h1, g2.trans h2, by omega⟩
theorem Step.refl {r : Rd} : Step r r 0 := fun h => ⟨h, rfl, by omega⟩
theorem step_adv {r : Rd} : Step r r.adv 1 := fun h => ⟨h, rfl, by simp⟩
theorem iR {r : Rd} {w : Int} (hw : w ≠ 0) {k : Nat} : Step r (r.fail w) k := fun h => absurd h (eS hw)
theorem step_want {r : Rd} {s : List UInt8} : Step r (r.want s) 1 := by
 unfold Rd.want
 split
 ·exact step_adv
 ·exact iR (by decide)
theorem step_name {r : Rd} : Step r r.name.2 1 := by
 unfold Rd.name
 split
 ·exact iR (by decide)
 ·exact step_adv
theorem qC {r : Rd} (h : r.name.2.why = 0) : r.name.1 = r.next := by
 unfold Rd.name at h ⊢
 split
 ·rename_i hb
  rw [if_pos hb] at h
  exact absurd h (eS (by decide))
 ·rfl
theorem mR {r : Rd} : Step r r.typ.2 1 := by
 unfold Rd.typ
 split
 ·exact step_adv
 ·split
  ·exact step_adv
  ·split
   ·exact step_adv
   ·exact iR (by decide)
theorem p7 {r : Rd} (h : r.typ.2.why = 0) : tyOk r.typ.1 := by
 unfold Rd.typ at h ⊢
 split
 ·exact .inl rfl
 ·rename_i h1
  rw [if_neg h1] at h
  split
  ·exact .inr (.inl rfl)
  ·rename_i h2
   rw [if_neg h2] at h
   split
   ·exact .inr (.inr rfl)
   ·rename_i h3
    rw [if_neg h3] at h
    exact absurd h (eS (by decide))
def h_ (run : PR) (r : Rd) : Prop := ∀ e q, run = some (e, q) → q.why = 0 → r.why = 0 ∧ q.ms = r.ms ∧ r.at' + 1 ≤ q.at' ∧ Wf r.ms r.at' q.at' e ∧ size e ≤ q.at' - r.at'
def MadeL (k : Nat) (run : Option (List Ex × Rd)) (r : Rd) : Prop := ∀ l q, run = some (l, q) → q.why = 0 → r.why = 0 ∧ q.ms = r.ms ∧ r.at' + k ≤ q.at' ∧ Wfs r.ms r.at' q.at' l ∧ aW l ≤ q.at' - r.at'
theorem f_ {r : Rd} {b : Nat} (h : r.at' < b) : placeIn r.ms r.at' b r.next.at' := ⟨r.at', Nat.le_refl _, h, rfl⟩
theorem mS {r r1 r2 : Rd} {a b : Ex} {op : Int} (hop : 8 ≤ op ∧ op ≤ 13 ∨ op = 18) (m1 : r1.ms = r.ms) (l1 : r.at' + 1 ≤ r1.at') (w1 : Wf r.ms r.at' r1.at' a) (s1 : size a ≤ r1.at' - r.at')
  (l2 : r1.at' + 1 + 1 ≤ r2.at') (w2 : Wf r.ms (r1.at' + 1) r2.at' b) (s2 : size b ≤ r2.at' - (r1.at' + 1)) : Wf r.ms r.at' r2.at' (two op a b r1.next) ∧ size (two op a b r1.next) ≤ r2.at' - r.at' := by
 unfold two
 constructor
 ·unfold Wf Wfs Wfs Wfs
  refine ⟨?_, .inr (.inr (.inr (.inl ⟨hop, rfl⟩))), Wf.mono (Nat.le_refl _) (by omega) _ w1, Wf.mono (by omega) (Nat.le_refl _) _ w2, trivial⟩
  have := f_ (r := r1) (b := r2.at') (by omega)
  rw [m1] at this
  exact this.mono (by omega) (Nat.le_refl _)
 ·simp only [size, aW]
  omega
theorem y5 {N : Nat} (h1 : ∀ k, k < N → ∀ r, h_ (cO k r) r) : ∀ n a (r0 r : Rd) e q, n ≤ N → eC n a r = some (e, q) → q.why = 0 → (r.why = 0 → r.ms = r0.ms ∧ r0.at' + 1 ≤ r.at' ∧ Wf r0.ms r0.at' r.at' a ∧ size a ≤ r.at' - r0.at') →
  r.why = 0 ∧ q.ms = r0.ms ∧ r0.at' + 1 ≤ q.at' ∧ Wf r0.ms r0.at' q.at' e ∧ size e ≤ q.at' - r0.at' := by
 intro n
 induction n with
 | zero => intro a r0 r e q _ h; simp [eC] at h
 | succ n ih =>
  intro a r0 r e q hn hrun hq ha
  unfold eC at hrun
  split at hrun
  ·cases hc : cO n r.adv with
   | none => rw [hc] at hrun; simp at hrun
   | some p =>
    obtain ⟨b, r2⟩ := p
    rw [hc] at hrun
    simp only [Option.bind_some] at hrun
    have hop : 8 ≤ (if r.next.text = [45] then (9 : Int) else 8) ∧ (if r.next.text = [45] then (9 : Int) else 8) ≤ 13 := by split <;> omega
    generalize (if r.next.text = [45] then (9 : Int) else 8) = op at *
    have key : r2.why = 0 → r.why = 0 ∧ (r2.ms = r0.ms ∧ r0.at' + 1 ≤ r2.at' ∧ Wf r0.ms r0.at' r2.at' (two op a b r.next) ∧ size (two op a b r.next) ≤ r2.at' - r0.at') := fun hw => by
     obtain ⟨g1, g2, g3, g4, g5⟩ := h1 n (by omega) r.adv b r2 hc hw
     simp only [Rd.adv_why, Rd.adv_ms, Rd.adv_at] at g1 g2 g3 g4 g5
     obtain ⟨k1, k2, k3, k4⟩ := ha g1
     rw [k1] at g4
     have := mS (r := r0) (r1 := r) (r2 := r2) (.inl hop) k1 k2 k3 k4 g3 g4 g5
     exact ⟨g1, g2.trans k1, by omega, this.1, this.2⟩
    obtain ⟨m1, m2⟩ := ih _ r0 r2 e q (by omega) hrun hq (fun hw => (key hw).2)
    exact ⟨(key m1).1, m2⟩
  ·simp only [Option.some.injEq, Prod.mk.injEq] at hrun
   obtain ⟨rfl, rfl⟩ := hrun
   obtain ⟨k1, k2, k3, k4⟩ := ha hq
   exact ⟨hq, k1, k2, k3, k4⟩
theorem xZ {N : Nat} (h1 : ∀ k, k < N → ∀ r, h_ (cN k r) r) : ∀ n a (r0 r : Rd) e q, n ≤ N → dD n a r = some (e, q) → q.why = 0 → (r.why = 0 → r.ms = r0.ms ∧ r0.at' + 1 ≤ r.at' ∧ Wf r0.ms r0.at' r.at' a ∧ size a ≤ r.at' - r0.at') →
  r.why = 0 ∧ q.ms = r0.ms ∧ r0.at' + 1 ≤ q.at' ∧ Wf r0.ms r0.at' q.at' e ∧ size e ≤ q.at' - r0.at' := by
 intro n
 induction n with
 | zero => intro a r0 r e q _ h; simp [dD] at h
 | succ n ih =>
  intro a r0 r e q hn hrun hq ha
  unfold dD at hrun
  split at hrun
  ·cases hc : cN n r.adv with
   | none => rw [hc] at hrun; simp at hrun
   | some p =>
    obtain ⟨b, r2⟩ := p
    rw [hc] at hrun
    simp only [Option.bind_some] at hrun
    have hop : 8 ≤ (if r.next.text = [47] then (11 : Int) else 10) ∧ (if r.next.text = [47] then (11 : Int) else 10) ≤ 13 := by split <;> omega
    generalize (if r.next.text = [47] then (11 : Int) else 10) = op at *
    have key : r2.why = 0 → r.why = 0 ∧ (r2.ms = r0.ms ∧ r0.at' + 1 ≤ r2.at' ∧ Wf r0.ms r0.at' r2.at' (two op a b r.next) ∧ size (two op a b r.next) ≤ r2.at' - r0.at') := fun hw => by
     obtain ⟨g1, g2, g3, g4, g5⟩ := h1 n (by omega) r.adv b r2 hc hw
     simp only [Rd.adv_why, Rd.adv_ms, Rd.adv_at] at g1 g2 g3 g4 g5
     obtain ⟨k1, k2, k3, k4⟩ := ha g1
     rw [k1] at g4
     have := mS (r := r0) (r1 := r) (r2 := r2) (.inl hop) k1 k2 k3 k4 g3 g4 g5
     exact ⟨g1, g2.trans k1, by omega, this.1, this.2⟩
    obtain ⟨m1, m2⟩ := ih _ r0 r2 e q (by omega) hrun hq (fun hw => (key hw).2)
    exact ⟨(key m1).1, m2⟩
  ·simp only [Option.some.injEq, Prod.mk.injEq] at hrun
   obtain ⟨rfl, rfl⟩ := hrun
   obtain ⟨k1, k2, k3, k4⟩ := ha hq
   exact ⟨hq, k1, k2, k3, k4⟩
theorem vH {N : Nat} (h1 : ∀ k, k < N → ∀ r, h_ (aX k r) r) : ∀ n l (r0 r : Rd) L q, n ≤ N → cR n l r = some (L, q) → q.why = 0 → (r.why = 0 → r.ms = r0.ms ∧ r0.at' ≤ r.at' ∧ Wfs r0.ms r0.at' r.at' l ∧ aW l ≤ r.at' - r0.at') →
  r.why = 0 ∧ q.ms = r0.ms ∧ r0.at' ≤ q.at' ∧ Wfs r0.ms r0.at' q.at' L ∧ aW L ≤ q.at' - r0.at' := by
 intro n
 induction n with
 | zero => intro a r0 r e q _ h; simp [cR] at h
 | succ n ih =>
  intro l r0 r L q hn hrun hq ha
  unfold cR at hrun
  split at hrun
  ·rename_i hs
   have st : Step r (if l = [] then r else r.want [44]) 0 := by
    split
    ·exact Step.refl
    ·intro h
     obtain ⟨g1, g2, g3⟩ := step_want h
     exact ⟨g1, g2, by omega⟩
   generalize (if l = [] then r else r.want [44]) = r1 at *
   cases hc : aX n r1 with
   | none => rw [hc] at hrun; simp at hrun
   | some p =>
    obtain ⟨b, r2⟩ := p
    rw [hc] at hrun
    simp only [Option.bind_some] at hrun
    obtain ⟨k1, k2, k3, k4⟩ := ha hs.1
    have key : r2.why = 0 → r2.ms = r0.ms ∧ r0.at' ≤ r2.at' ∧ Wfs r0.ms r0.at' r2.at' (l ++ [b]) ∧ aW (l ++ [b]) ≤ r2.at' - r0.at' := fun hw => by
     obtain ⟨g1, g2, g3, g4, g5⟩ := h1 n (by omega) r1 b r2 hc hw
     obtain ⟨j1, j2, j3⟩ := st g1
     rw [j2, k1] at g4
     refine ⟨g2.trans (j2.trans k1), by omega, vJ (Wfs.mono (Nat.le_refl _) (by omega) _ k3) ?_, ?_⟩
     ·unfold Wfs Wfs
      exact ⟨Wf.mono (by omega) (Nat.le_refl _) _ g4, trivial⟩
     ·rw [sF]
      simp only [aW]
      omega
    obtain ⟨m1, m2⟩ := ih _ r0 r2 L q (by omega) hrun hq key
    exact ⟨hs.1, m2⟩
  ·simp only [Option.some.injEq, Prod.mk.injEq] at hrun
   obtain ⟨rfl, rfl⟩ := hrun
   obtain ⟨k1, k2, k3, k4⟩ := ha hq
   exact ⟨hq, k1, k2, k3, k4⟩
theorem jG {N : Nat} (h1 : ∀ k, k < N → ∀ r, h_ (aX k r) r) : ∀ ss n (r : Rd), n ≤ N → MadeL 0 (bH n ss r) r ∧ ∀ L q, bH n ss r = some (L, q) → L.length = ss.length := by
 intro ss
 induction ss with
 | nil =>
  intro n r hn
  cases n with
  | zero => exact ⟨fun l q h => by simp [bH] at h, fun l q h => by simp [bH] at h⟩
  | succ n =>
   refine ⟨fun l q h hq => ?_, fun l q h => ?_⟩
   ·simp only [bH, Option.some.injEq, Prod.mk.injEq] at h
    obtain ⟨rfl, rfl⟩ := h
    exact ⟨hq, rfl, by omega, by unfold Wfs; trivial, by simp [aW]⟩
   ·simp only [bH, Option.some.injEq, Prod.mk.injEq] at h
    obtain ⟨rfl, rfl⟩ := h
    rfl
 | cons s ss ih =>
  intro n r hn
  cases n with
  | zero => exact ⟨fun l q h => by simp [bH] at h, fun l q h => by simp [bH] at h⟩
  | succ n =>
   have st : Step r (if s = [] then r else r.want s) 0 := by
    split
    ·exact Step.refl
    ·intro h
     obtain ⟨g1, g2, g3⟩ := step_want h
     exact ⟨g1, g2, by omega⟩
   have split' : ∀ L q, bH (n + 1) (s :: ss) r = some (L, q) → ∃ b r2 l, aX n (if s = [] then r else r.want s) = some (b, r2) ∧ bH n ss r2 = some (l, q) ∧ L = b :: l := fun L q h => by
    unfold bH at h
    cases hc : aX n (if s = [] then r else r.want s) with
    | none => rw [hc] at h; simp at h
    | some p =>
     rw [hc] at h
     simp only [Option.bind_some, Option.map_eq_some_iff, Prod.mk.injEq] at h
     obtain ⟨q2, h2, rfl, rfl⟩ := h
     exact ⟨p.1, p.2, q2.1, rfl, h2, rfl⟩
   generalize (if s = [] then r else r.want s) = r1 at *
   refine ⟨fun L q h hq => ?_, fun L q h => ?_⟩
   ·obtain ⟨b, r2, l, e1, e2, rfl⟩ := split' L q h
    obtain ⟨a1, a2, a3, a4, a5⟩ := (ih n r2 (by omega)).1 l q e2 hq
    obtain ⟨g1, g2, g3, g4, g5⟩ := h1 n (by omega) r1 b r2 e1 a1
    obtain ⟨j1, j2, j3⟩ := st g1
    rw [g2, j2] at a4
    rw [j2] at g4
    refine ⟨j1, a2.trans (g2.trans j2), by omega, ?_, by simp only [aW]; omega⟩
    unfold Wfs
    exact ⟨Wf.mono (by omega) (by omega) _ g4, Wfs.mono (by omega) (Nat.le_refl _) _ a4⟩
   ·obtain ⟨b, r2, l, e1, e2, rfl⟩ := split' L q h
    have := (ih n r2 (by omega)).2 l q e2
    simp [this]
theorem tH {N : Nat} (h1 : ∀ k, k < N → ∀ r, h_ (aX k r) r) (n : Nat) (hn : n ≤ N) (r : Rd) (p : Int) (e : Ex) (q : Rd) (hrun : cH n r p = some (e, q)) (hq : q.why = 0) :
  r.why = 0 ∧ q.ms = r.ms ∧ r.at' ≤ q.at' ∧ ∃ h t x a b, e = .mk 20 h t 0 ⟨0, 0⟩ [x, a, b] p ∧ Wfs r.ms r.at' q.at' [x, a, b] ∧ aW [x, a, b] ≤ q.at' - r.at' := by
 cases n with
 | zero => simp [cH] at hrun
 | succ n =>
  unfold cH at hrun
  cases hc1 : aX n r with
  | none => rw [hc1] at hrun; simp at hrun
  | some p1 =>
   obtain ⟨x, r1⟩ := p1
   rw [hc1] at hrun
   simp only [Option.bind_some] at hrun
   have s1 : Step r1 (((r1.want [111, 102]).want [110, 105, 108]).want [45, 62]) 3 := (step_want.trans step_want).trans step_want
   generalize ((r1.want [111, 102]).want [110, 105, 108]).want [45, 62] = s3 at *
   cases hc2 : aX n s3 with
   | none => rw [hc2] at hrun; simp at hrun
   | some p2 =>
    obtain ⟨a, r2⟩ := p2
    rw [hc2] at hrun
    simp only [Option.bind_some, Option.map_eq_some_iff, Prod.mk.injEq] at hrun
    obtain ⟨⟨b, r3⟩, hc3, he1, he2⟩ := hrun
    simp only at he1 he2
    subst he1 he2
    have s2 : Step r2 ((((r2.want [124]).name.2.want [58]).name.2).want [45, 62]) 5 := (((step_want.trans step_name).trans step_want).trans step_name).trans step_want
    generalize (((r2.want [124]).name.2.want [58]).name.2).want [45, 62] = s8 at *
    obtain ⟨c1, c2, c3, c4, c5⟩ := h1 n (by omega) s8 b r3 hc3 hq
    obtain ⟨j1, j2, j3⟩ := s2 c1
    obtain ⟨b1, b2, b3, b4, b5⟩ := h1 n (by omega) s3 a r2 hc2 j1
    obtain ⟨i1, i2, i3⟩ := s1 b1
    obtain ⟨a1, a2, a3, a4, a5⟩ := h1 n (by omega) r x r1 hc1 i1
    rw [j2, b2, i2, a2] at c4
    rw [i2, a2] at b4
    refine ⟨a1, c2.trans (j2.trans (b2.trans (i2.trans a2))), by omega, _, _, x, a, b, rfl, ?_, by simp only [aW]; omega⟩
    unfold Wfs Wfs Wfs Wfs
    exact ⟨Wf.mono (Nat.le_refl _) (by omega) _ a4, Wf.mono (by omega) (by omega) _ b4, Wf.mono (by omega) (Nat.le_refl _) _ c4, trivial⟩
structure Makes (n : Nat) (r : Rd) : Prop where
 expr : h_ (aX n r) r
 cons : h_ (eG n r) r
 comp : h_ (eF n r) r
 sum : h_ (fG n r) r
 term : h_ (cO n r) r
 unit : h_ (cN n r) r
 named : ∀ r0 : Rd, r0.adv = r → r0.why = 0 → h_ (eA n r0.next r) r0
theorem kO {r q : Rd} {op ty : Int} {n t : List UInt8} {z : Cx} (st : Step r q 1) (hq : q.why = 0) (hs : xJ op ty 0) : r.why = 0 ∧ q.ms = r.ms ∧ r.at' + 1 ≤ q.at' ∧ Wf r.ms r.at' q.at' (.mk op n t ty z [] r.next.at') ∧ size (.mk op n t ty z [] r.next.at') ≤ q.at' - r.at' := by
 obtain ⟨g1, g2, g3⟩ := st hq
 refine ⟨g1, g2, g3, ?_, by simp only [size, aW]; omega⟩
 unfold Wf Wfs
 exact ⟨f_ (by omega), hs, trivial⟩
theorem zL : ∀ n (r : Rd), Makes n r := by
 intro n
 induction n using Nat.strongRecOn with
 | _ n ih =>
  intro r
  cases n with
  | zero =>
   refine ⟨?_, ?_, ?_, ?_, ?_, ?_, ?_⟩
   ·intro e q h; simp [aX] at h
   ·intro e q h; simp [eG] at h
   ·intro e q h; simp [eF] at h
   ·intro e q h; simp [fG] at h
   ·intro e q h; simp [cO] at h
   ·intro e q h; simp [cN] at h
   ·intro r0 _ _ e q h; simp [eA] at h
  | succ n =>
   have he : ∀ k, k < n → ∀ r, h_ (aX k r) r := fun k hk r => (ih k (by omega) r).expr
   have gn := ih n (by omega)
   refine ⟨?_, ?_, ?_, ?_, ?_, ?_, ?_⟩
   ·intro e q hrun hq
    unfold aX at hrun
    simp only at hrun
    have hr1 : ∀ r1, r1 = (if (binds r && decide (r.lN ≤ r.nest)) = true then r.fail 23 else r) → r1.why = 0 → r1 = r := fun r1 h hw => by
     split at h
     ·rw [h] at hw; exact absurd hw (eS (by decide))
     ·exact h
    generalize hrr : (if (binds r && decide (r.lN ≤ r.nest)) = true then r.fail 23 else r) = r1 at *
    by_cases h0 : r1.why = 0
    ·have e1 := hr1 r1 rfl h0
     subst e1
     rw [if_neg (by simp [h0])] at hrun
     split at hrun
     ·exact (gn r1).cons e q hrun hq
     ·obtain ⟨r2, hr2⟩ : ∃ r2, r2 = (if binds r1 then { r1 with nest := r1.nest + 1 } else r1).adv := ⟨_, rfl⟩
      rw [← hr2] at hrun
      have s2 : r2.ms = r1.ms ∧ r2.at' = r1.at' + 1 ∧ r2.why = r1.why := by
       rw [hr2]
       cases binds r1
       ·exact ⟨rfl, rfl, rfl⟩
       ·exact ⟨rfl, rfl, rfl⟩
      obtain ⟨m2, a2, w2⟩ := s2
      clear hr2
      simp only [Option.map_eq_some_iff, Prod.mk.injEq] at hrun
      obtain ⟨⟨e', q'⟩, hres, he1, he2⟩ := hrun
      simp only at he1 he2
      subst he1
      have hq' : q'.why = 0 ∧ q.ms = q'.ms ∧ q.at' = q'.at' := by
       rw [← he2] at hq ⊢
       split at hq
       ·rename_i hb; rw [if_pos hb]; exact ⟨hq, rfl, rfl⟩
       ·rename_i hb; rw [if_neg hb]; exact ⟨hq, rfl, rfl⟩
      obtain ⟨hw, hm, hat⟩ := hq'
      rw [hm, hat]
      have fin : ∀ op n t ty (args : List Ex), e' = .mk op n t ty ⟨0, 0⟩ args r1.next.at' → xJ op ty args.length → q'.ms = r2.ms → r2.at' ≤ q'.at' → Wfs r2.ms r2.at' q'.at' args → aW args ≤ q'.at' - r2.at' →
        r1.why = 0 ∧ q'.ms = r1.ms ∧ r1.at' + 1 ≤ q'.at' ∧ Wf r1.ms r1.at' q'.at' e' ∧ size e' ≤ q'.at' - r1.at' := fun op n t ty args he hs g1 g2 g3 g4 => by
       subst he
       rw [m2] at g3
       refine ⟨h0, g1.trans m2, by omega, ?_, by simp only [size]; omega⟩
       unfold Wf
       exact ⟨f_ (by omega), hs, Wfs.mono (by omega) (Nat.le_refl _) _ g3⟩
      split at hres
      ·simp only [Option.map_eq_some_iff, Prod.mk.injEq] at hres
       obtain ⟨⟨l, q2⟩, hl, he1, he3⟩ := hres
       simp only at he1 he3
       subst he3
       obtain ⟨b1, b2, b3, b4, b5⟩ := (jG (N := n) he _ n r2 (Nat.le_refl _)).1 l q2 hl hw
       have hlen := (jG (N := n) he _ n r2 (Nat.le_refl _)).2 l q2 hl
       exact fin 19 [] [] 0 l he1.symm (.inr (.inr (.inr (.inr (.inr (.inl ⟨.inl rfl, hlen⟩)))))) b2 (by omega) b4 b5
      ·split at hres
       ·obtain ⟨b1, b2, b3, hd, tl, x, a, b, he1, b4, b5⟩ := tH (N := n) he n (Nat.le_refl _) r2 _ e' q' hres hw
        exact fin 20 hd tl 0 [x, a, b] he1 (.inr (.inr (.inr (.inr (.inr (.inl ⟨.inr rfl, rfl⟩)))))) b2 b3 b4 b5
       ·simp only [Option.map_eq_some_iff, Prod.mk.injEq] at hres
        obtain ⟨⟨l, q2⟩, hl, he1, he3⟩ := hres
        simp only at he1 he3
        subst he3
        obtain ⟨b1, b2, b3, b4, b5⟩ := (jG (N := n) he _ n r2.name.2.typ.2 (Nat.le_refl _)).1 l q2 hl hw
        have hlen := (jG (N := n) he _ n r2.name.2.typ.2 (Nat.le_refl _)).2 l q2 hl
        have st : Step r2 r2.name.2.typ.2 2 := step_name.trans mR
        obtain ⟨j1, j2, j3⟩ := st b1
        rw [j2] at b4
        refine fin _ _ [] r2.name.2.typ.1 l he1.symm (.inr (.inr (.inr (.inr (.inr (.inr ⟨?_, hlen, p7 b1⟩)))))) (b2.trans j2) (by omega) (Wfs.mono (by omega) (Nat.le_refl _) _ b4) (by omega)
        split
        ·exact .inr rfl
        ·exact .inl rfl
    ·rw [if_pos h0] at hrun
     simp only [Option.some.injEq, Prod.mk.injEq] at hrun
     obtain ⟨_, rfl⟩ := hrun
     exact absurd hq h0
   ·intro e q hrun hq
    unfold eG at hrun
    cases hc : eF n r with
    | none => rw [hc] at hrun; simp at hrun
    | some p =>
     obtain ⟨a, r1⟩ := p
     rw [hc] at hrun
     simp only [Option.bind_some] at hrun
     split at hrun
     ·simp only [Option.map_eq_some_iff, Prod.mk.injEq] at hrun
      obtain ⟨⟨b, r2⟩, hb, he1, he2⟩ := hrun
      simp only at he1 he2
      subst he1 he2
      obtain ⟨g1, g2, g3, g4, g5⟩ := (gn r1.adv).cons b r2 hb hq
      simp only [Rd.adv_why, Rd.adv_ms, Rd.adv_at] at g1 g2 g3 g4 g5
      obtain ⟨k1, k2, k3, k4, k5⟩ := (gn r).comp a r1 hc g1
      rw [k2] at g4
      have := mS (r := r) (r1 := r1) (r2 := r2) (.inr rfl : 8 ≤ (18 : Int) ∧ (18 : Int) ≤ 13 ∨ (18 : Int) = 18) k2 k3 k4 k5 g3 g4 g5
      exact ⟨k1, g2.trans k2, by omega, this.1, this.2⟩
     ·simp only [Option.some.injEq, Prod.mk.injEq] at hrun
      obtain ⟨rfl, rfl⟩ := hrun
      exact (gn r).comp a r1 hc hq
   ·intro e q hrun hq
    unfold eF at hrun
    cases hc : fG n r with
    | none => rw [hc] at hrun; simp at hrun
    | some p =>
     obtain ⟨a, r1⟩ := p
     rw [hc] at hrun
     simp only [Option.bind_some] at hrun
     split at hrun
     ·simp only [Option.map_eq_some_iff, Prod.mk.injEq] at hrun
      obtain ⟨⟨b, r2⟩, hb, he1, he2⟩ := hrun
      simp only at he1 he2
      subst he1 he2
      obtain ⟨g1, g2, g3, g4, g5⟩ := (gn r1.adv).sum b r2 hb hq
      simp only [Rd.adv_why, Rd.adv_ms, Rd.adv_at] at g1 g2 g3 g4 g5
      obtain ⟨k1, k2, k3, k4, k5⟩ := (gn r).sum a r1 hc g1
      rw [k2] at g4
      have := mS (r := r) (r1 := r1) (r2 := r2) (op := if r1.is [60] then 13 else 12) (.inl (by split <;> omega)) k2 k3 k4 k5 g3 g4 g5
      exact ⟨k1, g2.trans k2, by omega, this.1, this.2⟩
     ·simp only [Option.some.injEq, Prod.mk.injEq] at hrun
      obtain ⟨rfl, rfl⟩ := hrun
      exact (gn r).sum a r1 hc hq
   ·intro e q hrun hq
    unfold fG at hrun
    cases hc : cO n r with
    | none => rw [hc] at hrun; simp at hrun
    | some p =>
     obtain ⟨a, r1⟩ := p
     rw [hc] at hrun
     simp only [Option.bind_some] at hrun
     have key := y5 (N := n) (fun k hk r => (ih k (by omega) r).term) n a r r1 e q (Nat.le_refl _) hrun hq (fun hw => ((gn r).term a r1 hc hw).2)
     exact ⟨((gn r).term a r1 hc key.1).1, key.2⟩
   ·intro e q hrun hq
    unfold cO at hrun
    cases hc : cN n r with
    | none => rw [hc] at hrun; simp at hrun
    | some p =>
     obtain ⟨a, r1⟩ := p
     rw [hc] at hrun
     simp only [Option.bind_some] at hrun
     have key := xZ (N := n) (fun k hk r => (ih k (by omega) r).unit) n a r r1 e q (Nat.le_refl _) hrun hq (fun hw => ((gn r).unit a r1 hc hw).2)
     exact ⟨((gn r).unit a r1 hc key.1).1, key.2⟩
   ·intro e q hrun hq
    unfold cN at hrun
    by_cases g1 : r.why = 0
    ·rw [if_neg (by simp [g1])] at hrun
     by_cases g2 : r.next.kind = 2
     ·rw [if_pos g2] at hrun
      simp only [Option.some.injEq, Prod.mk.injEq] at hrun
      obtain ⟨rfl, rfl⟩ := hrun
      exact kO step_adv hq (.inl ⟨.inl rfl, rfl⟩)
     ·rw [if_neg g2] at hrun
      by_cases g3 : r.next.kind = 0
      ·rw [if_pos g3] at hrun
       exact (gn r.adv).named r rfl g1 e q hrun hq
      ·rw [if_neg g3] at hrun
       cases g4 : r.is [40] <;> rw [g4] at hrun
       ·rw [if_neg (by decide)] at hrun
        by_cases g5 : ¬ r.next.kind = 1 ∨ bK r.next.text = 0
        ·rw [if_pos g5] at hrun
         simp only [Option.some.injEq, Prod.mk.injEq] at hrun
         obtain ⟨_, rfl⟩ := hrun
         exact absurd hq (eS (by decide))
        ·rw [if_neg g5] at hrun
         by_cases g6 : bK r.next.text = 5
         ·rw [if_pos g6] at hrun
          simp only [Option.some.injEq, Prod.mk.injEq] at hrun
          obtain ⟨rfl, rfl⟩ := hrun
          have st : Step r r.adv.typ.2 2 := step_adv.trans mR
          exact kO (fun h => by obtain ⟨a, b, c⟩ := st h; exact ⟨a, b, by omega⟩) hq (.inr (.inl ⟨rfl, rfl, p7 hq⟩))
         ·rw [if_neg g6] at hrun
          by_cases g7 : 14 ≤ bK r.next.text
          ·rw [if_pos g7] at hrun
           simp only [Option.map_eq_some_iff, Prod.mk.injEq] at hrun
           obtain ⟨⟨x, q2⟩, hx, he1, he2⟩ := hrun
           simp only at he1 he2
           subst he1 he2
           obtain ⟨j1, j2, j3⟩ := step_want hq
           obtain ⟨b1, b2, b3, b4, b5⟩ := (gn _).expr x q2 hx j1
           have st : Step r (r.adv.want [40]) 2 := step_adv.trans step_want
           obtain ⟨i1, i2, i3⟩ := st b1
           rw [i2] at b4
           have hv := kB r.next.text
           refine ⟨g1, j2.trans (b2.trans i2), by omega, ?_, by simp only [size, aW]; omega⟩
           unfold Wf Wfs Wfs
           exact ⟨f_ (by omega), .inr (.inr (.inr (.inr (.inl ⟨g7, by omega, rfl⟩)))), Wf.mono (by omega) (by omega) _ b4, trivial⟩
          ·rw [if_neg g7] at hrun
           simp only [Option.some.injEq, Prod.mk.injEq] at hrun
           obtain ⟨rfl, rfl⟩ := hrun
           have hv := kB r.next.text
           have h0 : bK r.next.text ≠ 0 := fun h => g5 (.inr h)
           exact kO step_adv hq (.inl ⟨by omega, rfl⟩)
       ·rw [if_pos rfl] at hrun
        simp only [Option.map_eq_some_iff, Prod.mk.injEq] at hrun
        obtain ⟨⟨x, q2⟩, hx, he1, he2⟩ := hrun
        simp only at he1 he2
        subst he1 he2
        obtain ⟨j1, j2, j3⟩ := step_want hq
        obtain ⟨b1, b2, b3, b4, b5⟩ := (gn _).expr x q2 hx j1
        simp only [Rd.adv_why, Rd.adv_ms, Rd.adv_at] at b1 b2 b3 b4 b5
        exact ⟨g1, j2.trans b2, by omega, Wf.mono (by omega) (by omega) _ b4, by omega⟩
    ·rw [if_pos g1] at hrun
     simp only [Option.some.injEq, Prod.mk.injEq] at hrun
     obtain ⟨_, rfl⟩ := hrun
     exact absurd hq g1
   ·intro r0 h0 w0 e q hrun hq
    subst h0
    unfold eA at hrun
    split at hrun
    ·simp only [Option.map_eq_some_iff, Prod.mk.injEq] at hrun
     obtain ⟨⟨l, q2⟩, hl, he1, he2⟩ := hrun
     simp only at he1 he2
     subst he1 he2
     obtain ⟨j1, j2, j3⟩ := step_want hq
     obtain ⟨b1, b2, b3, b4, b5⟩ := vH (N := n) he n [] r0.adv.adv r0.adv.adv l q2 (Nat.le_refl _) hl j1 (fun _ => ⟨rfl, Nat.le_refl _, by unfold Wfs; trivial, by simp [aW]⟩)
     simp only [Rd.adv_why, Rd.adv_ms, Rd.adv_at] at b1 b2 b3 b4 b5
     refine ⟨w0, j2.trans b2, by omega, ?_, by simp only [size]; omega⟩
     unfold Wf
     exact ⟨f_ (by omega), .inr (.inr (.inl rfl)), Wfs.mono (by omega) (by omega) _ b4⟩
    ·simp only [Option.some.injEq, Prod.mk.injEq] at hrun
     obtain ⟨rfl, rfl⟩ := hrun
     exact kO step_adv hq (.inl ⟨by simp, rfl⟩)
def PmOk (ms : List Mk) (a b : Nat) (p : Pm) : Prop := placeIn ms a b p.at' ∧ tyOk p.type
structure FnOk (ms : List Mk) (a b : Nat) (f : Fn) : Prop where
 lt : a < b
 dN : f.at' = (ms[a]?.getD default).at'
 type : tyOk f.type
 params : ∀ p ∈ f.params, PmOk ms (a + 1) b p
 len : f.params.length ≤ b - a
 body : Wf ms (a + 1) b f.body
 size : size f.body ≤ b - a
def Fns (ms : List Mk) : Nat → List Fn → Nat → Prop
 | a, [], b => a ≤ b
 | a, f :: fs, b => ∃ c, FnOk ms a c f ∧ Fns ms c fs b
theorem vO : ∀ n l (r0 r : Rd) L q, b_ n l r = some (L, q) → q.why = 0 → (r.why = 0 → r.ms = r0.ms ∧ r0.at' ≤ r.at' ∧ (∀ p ∈ l, PmOk r0.ms r0.at' r.at' p) ∧ l.length ≤ r.at' - r0.at') →
  r.why = 0 ∧ q.ms = r0.ms ∧ r0.at' ≤ q.at' ∧ (∀ p ∈ L, PmOk r0.ms r0.at' q.at' p) ∧ L.length ≤ q.at' - r0.at' := by
 intro n
 induction n with
 | zero => intro l r0 r L q h; simp [b_] at h
 | succ n ih =>
  intro l r0 r L q hrun hq ha
  unfold b_ at hrun
  split at hrun
  ·rename_i hs
   obtain ⟨k1, k2, k3, k4⟩ := ha hs.1
   have s1 : Step r (pw r l) 0 := by
    unfold pw; split
    ·exact Step.refl
    ·intro h
     obtain ⟨g1, g2, g3⟩ := step_want h
     exact ⟨g1, g2, by omega⟩
   have s2 : Step (pw r l) (pf (pw r l) l) 0 := by
    unfold pf; split
    ·exact iR (by decide)
    ·exact Step.refl
   generalize pf (pw r l) l = z at *
   have key : z.name.2.typ.2.why = 0 → z.name.2.typ.2.ms = r0.ms ∧ r0.at' ≤ z.name.2.typ.2.at' ∧ (∀ p ∈ l ++ [⟨z.name.1.text, z.name.2.typ.1, z.name.1.at'⟩], PmOk r0.ms r0.at' z.name.2.typ.2.at' p) ∧ (l ++ [(⟨z.name.1.text, z.name.2.typ.1, z.name.1.at'⟩ : Pm)]).length ≤ z.name.2.typ.2.at' - r0.at' := fun hw => by
    have t := p7 hw
    obtain ⟨a1, a2, a3⟩ := mR hw
    have np := qC a1
    obtain ⟨b1, b2, b3⟩ := step_name a1
    obtain ⟨c1, c2, c3⟩ := (s1.trans s2) b1
    have hm : z.ms = r0.ms := c2.trans k1
    refine ⟨a2.trans (b2.trans hm), by omega, fun p hp => ?_, by simp only [List.length_append, List.length_cons, List.length_nil]; omega⟩
    rw [List.mem_append, List.mem_singleton] at hp
    rcases hp with hp | rfl
    ·obtain ⟨e1, e2⟩ := k3 p hp
     exact ⟨e1.mono (Nat.le_refl _) (by omega), e2⟩
    ·refine ⟨?_, t⟩
     simp only
     rw [np]
     have := f_ (r := z) (b := z.name.2.typ.2.at') (by omega)
     rw [hm] at this
     exact this.mono (by omega) (Nat.le_refl _)
   obtain ⟨m1, m2⟩ := ih _ r0 _ L q hrun hq key
   exact ⟨hs.1, m2⟩
  ·simp only [Option.some.injEq, Prod.mk.injEq] at hrun
   obtain ⟨rfl, rfl⟩ := hrun
   obtain ⟨k1, k2, k3, k4⟩ := ha hq
   exact ⟨hq, k1, k2, k3, k4⟩
theorem AX {n : Nat} {r : Rd} {c : Nat} {f : Fn} {q : Rd} (hrun : i8 n r c = some (f, q)) (hq : q.why = 0) : r.why = 0 ∧ q.ms = r.ms ∧ FnOk r.ms r.at' q.at' f := by
 unfold i8 at hrun
 have s0 : Step r (df r c) 0 := by
  unfold df; split
  ·exact iR (by decide)
  ·exact Step.refl
 have hdf : (df r c).why = 0 → df r c = r := fun h => by
  unfold df at h ⊢
  split at h
  ·exact absurd h (eS (by decide))
  ·rename_i g; rw [if_neg g]
 have s1 : Step (df r c) ((df r c).name.2.want [40]) 2 := step_name.trans step_want
 cases hp : b_ n [] ((df r c).name.2.want [40]) with
 | none => rw [hp] at hrun; simp at hrun
 | some p =>
  obtain ⟨ps, r4⟩ := p
  rw [hp] at hrun
  simp only [Option.bind_some, Option.map_eq_some_iff, Prod.mk.injEq] at hrun
  obtain ⟨⟨body, r9⟩, hb, he1, he2⟩ := hrun
  simp only at he1 he2
  subst he1 he2
  obtain ⟨a1, a2, a3⟩ := step_want hq
  obtain ⟨b1, b2, b3, b4, b5⟩ := (zL n _).expr body r9 hb a1
  have s2 : Step ((r4.want [41]).want [58]).typ.2 (((r4.want [41]).want [58]).typ.2.want [61]) 1 := step_want
  obtain ⟨c1, c2, c3⟩ := s2 b1
  have ht := p7 c1
  obtain ⟨d1, d2, d3⟩ := ((step_want.trans step_want).trans mR : Step r4 ((r4.want [41]).want [58]).typ.2 3) c1
  obtain ⟨e1, e2, e3, e4, e5⟩ := vO n [] _ _ ps r4 hp d1 (fun _ => ⟨rfl, Nat.le_refl _, fun p hp => by simp at hp, by simp⟩)
  obtain ⟨f1, f2, f3⟩ := s1 e1
  obtain ⟨g1, g2, g3⟩ := s0 f1
  have hr := hdf f1
  have hn1 : (df r c).name.2.why = 0 := (step_want e1).1
  have np := qC hn1
  have hm4 : r4.ms = r.ms := e2.trans (f2.trans g2)
  rw [f2, g2] at e4
  rw [c2, d2, hm4] at b4
  refine ⟨g1, a2.trans (b2.trans (c2.trans (d2.trans hm4))), ⟨by omega, ?_, ht, fun p hp => ?_, by simp only; omega, Wf.mono (by omega) (by omega) _ b4, by simp only; omega⟩⟩
  ·simp only
   rw [np, hr]; rfl
  ·obtain ⟨h1, h2⟩ := e4 p hp
   exact ⟨h1.mono (by omega) (by omega), h2⟩
theorem tD : ∀ n l (r : Rd) L q, cU n l r = some (L, q) → q.why = 0 → r.why = 0 ∧ q.ms = r.ms ∧ ∃ k, L = l ++ k ∧ Fns r.ms r.at' k q.at' ∧ (l = [] → k ≠ []) := by
 intro n
 induction n with
 | zero => intro l r L q h; simp [cU] at h
 | succ n ih =>
  intro l r L q hrun hq
  unfold cU at hrun
  split at hrun
  ·rename_i hs
   cases hd : i8 n r l.length with
   | none => rw [hd] at hrun; simp at hrun
   | some p =>
    obtain ⟨f, r2⟩ := p
    rw [hd] at hrun
    simp only [Option.bind_some] at hrun
    obtain ⟨a1, a2, k, a3, a4, _⟩ := ih _ r2 L q hrun hq
    obtain ⟨b1, b2, b3⟩ := AX hd a1
    rw [b2] at a4
    exact ⟨hs.1, a2.trans b2, f :: k, by rw [a3]; simp, ⟨r2.at', b3, a4⟩, fun _ => by simp⟩
  ·rename_i hs
   simp only [Option.some.injEq, Prod.mk.injEq] at hrun
   obtain ⟨rfl, rfl⟩ := hrun
   refine ⟨hq, rfl, [], by simp, Nat.le_refl _, fun h => ?_⟩
   exact absurd ⟨hq, .inl h⟩ hs
def oA (ms : List Mk) : Prop := ∀ i j, i < j → j < ms.length → (ms[i]?.getD default).at' < (ms[j]?.getD default).at'
theorem oJ {ms : List Mk} {m : Mk} (h : oA ms) (hb : ∀ i, i < ms.length → (ms[i]?.getD default).at' < m.at') : oA (ms ++ [m]) := by
 intro i j hij hj
 simp only [List.length_append, List.length_cons, List.length_nil] at hj
 have hi : i < ms.length := by omega
 rw [List.getElem?_append_left hi]
 by_cases e : j < ms.length
 ·rw [List.getElem?_append_left e]; exact h i j hij e
 ·have : j = ms.length := by omega
  subst this
  rw [List.getElem?_append_right (Nat.le_refl _)]
  simpa using hb i hi
theorem one_at {t : List UInt8} {p : Nat} : (eD t p).1.at' = p := by
 unfold eD
 split
 ·rfl
 ·split
  ·rfl
  ·split
   ·rfl
   ·rfl
theorem eZ : ∀ (f : Nat) (t : List UInt8) (p : Nat) (out : List Mk), p ≤ t.length → oA out → (∀ i, i < out.length → (out[i]?.getD default).at' < p) → (cL f t p out).2 < 0 → oA (cL f t p out).1
 | 0, t, p, out, _, _, _, h => by simp [cL] at h
 | f + 1, t, p, out, hp, hr, hb, h => by
  unfold cL at h ⊢
  by_cases c1 : p < t.length
  ·rw [if_pos c1] at h ⊢
   by_cases c2 : jT (bt8 t p) = true
   ·rw [if_pos c2] at h ⊢
    exact eZ f t _ out (by omega) hr (fun i hi => by have := hb i hi; omega) h
   ·rw [if_neg c2] at h ⊢
    by_cases c3 : bt8 t p = 35
    ·rw [if_pos c3] at h ⊢
     have hc := jN t.length t p hp
     exact eZ f t _ out hc.2 hr (fun i hi => by have := hb i hi; omega) h
    ·rw [if_neg c3] at h ⊢
     by_cases c4 : (eD t p).2 = true
     ·rw [if_pos c4] at h ⊢
      obtain ⟨l1, l2⟩ := rQ c1 c4
      have ha := one_at (t := t) (p := p)
      refine eZ f t _ _ l2 (oJ hr fun i hi => by have := hb i hi; omega) (fun i hi => ?_) h
      simp only [List.length_append, List.length_cons, List.length_nil] at hi
      by_cases e : i < out.length
      ·rw [List.getElem?_append_left e]
       have := hb i e; omega
      ·have : i = out.length := by omega
       subst this
       rw [List.getElem?_append_right (Nat.le_refl _)]
       simp only [Nat.sub_self, List.getElem?_cons_zero, Option.getD_some]
       omega
     ·rw [if_neg c4] at h; simp only at h; omega
  ·rw [if_neg c1] at h ⊢
   exact oJ hr fun i hi => by
    have := hb i hi
    simp only [oP]; omega
def zV (L : List Fn) : Prop := ∃ ms a b, MOk ms ∧ ms.length ≤ 2 ^ 21 ∧ oA ms ∧ b < ms.length ∧ Fns ms a L b ∧ L ≠ []
def lK (t : List UInt8) (L : List Fn) (w p : Int) : Prop :=
 Pure Tryd.prog 20 [.sl (em c_ t), limD 32768 32768 32768 32768] (resD L w p) ∧ (w = 0 → zV L) ∧ (w ≠ 0 → L = [])
theorem vX (t : List UInt8) (ht : t.length ≤ 32768) (hm : (cG t).2 < 0) {n : Nat} (hN : n ≤ 2 ^ 40) {L : List Fn} {q : Rd} (hp : cU n [] (rd0 t 32768 32768 32768 32768) = some (L, q)) (hw : q.why = 0) (hlt : q.at' < (cG t).1.length) : lK t L 0 0 := by
 have hk := uJ (t := t) (lt := 32768) (lF := 32768) (lA := 32768) (lN := 32768) (by omega) hm (by decide)
 have hc := tU t ht hm hN hp
 rw [if_pos hw] at hc
 obtain ⟨g1, g2, k, g3, g4, g5⟩ := tD _ _ _ L q hp hw
 simp only [List.nil_append] at g3
 subst g3
 refine ⟨hc, fun _ => ⟨(cG t).1, 0, q.at', hk.ms, hk.len, ?_, hlt, g4, g5 rfl⟩, fun h => absurd rfl h⟩
 exact eZ _ t 0 [] (by omega) (fun i j _ h => by simp at h) (fun i h => by simp at h) hm
theorem s_ {α : Type} {o : Option α} {d : α} (h : o.isSome = true) : o = some (o.getD d) := by
 cases o with
 | none => simp at h
 | some x => rfl
theorem C6 {a b c d : Int} : bD Tryd.prog .eql 54 (.agg [I a, I b]) (.agg [I c, I d]) = some (.pl (.bool (decide (a = c ∧ b = d)))) := by
 refine (CA (vs := [.int .i64 a, .int .i64 b]) (us := [.int .i64 c, .int .i64 d]) Tryd.underlying54 (by kernel_rfl) (by kernel_rfl) rfl rfl ?_).1
 simp [pF, scal, Tryd.underlying24, Tryd.underlying3]
 rw [Bool.eq_iff_iff]; simp
set_option maxRecDepth 1000000
set_option maxHeartbeats 0
noncomputable def cf37 : Cfg := ⟨Tryd.prog, 32, [0, 1, 2, 4, 5], []⟩
noncomputable def ac37 : AC :=
 (.seq (.reg [JN 2 0, JP 4 (.mv (.c (.slice none 0 0)))]) (.seq (.block 0 (.seq (.ifr [JG 6 0 2, JD 7 1 6, JO 8 (.bin .eql 40 (.t 7) (JT 21)), JB 5 8] (.g 5) .skip (.reg [JG 9 0 2, JD 10 1 9, JO 11 (.bin .eql 40 (.t 10) (JT 22)), JC 12 11, JS 13 12 (.mv (.g 1)), JS 14 12 (.bin .eql 3 (.t 13) (JT 1)), JO 15 (.pick (.t 12) (.t 14) JY), JB 5 15])) (.cond (.g 5) (.seq (.reg [JG 16 1 2, JD 17 1 16, JO 18 (.bsl 1 1 [JU] [(0, 1, .t 17)]), JB 4 18]) .ret) (.ifr [JG 20 0 2, JD 21 1 20, JO 22 (.bin .eql 40 (.t 21) (JT 20)), JC 23 22, JS 24 23 (.mv (.g 1)), JS 25 23 (.bin .eql 3 (.t 24) (JT 2)), JO 26 (.pick (.t 23) (.t 25) JY), JC 19 26] (.t 19) (.seq (.reg [JG 27 1 2, JD 28 1 27, JG 29 2 2, JD 30 1 29, JO 31 (.bsl 1 2 [JU] [(0, 1, .t 28), (1, 1, .t 30)]), JB 4 31]) .ret) .skip)))) (.seq (.reg [JP 4 (.mv (.c (.slice none 0 0)))]) .ret)))
theorem fi37 : FI Tryd.prog 37 cf37 ac37 [.t 4] [0, 1, 2, 4, 5] 32 := FI_of (c := Tryd.f37.body.getD .skip) Tryd.func37 (by kernel_rfl) (by rfl) (by rfl) (by kernel_rfl) (by kernel_rfl) rfl rfl rfl
@[simp] theorem cfP37 : cf37.P = Tryd.prog := (rfl)
noncomputable def cf26 : Cfg := ⟨Tryd.prog, 55, [0, 1, 2, 3, 6, 7, 8, 10, 12, 18, 19, 20, 28, 29, 30, 43, 44, 45], [16, 42]⟩
noncomputable def lb26_0 : AC :=
 .seq (.ifr [JO 46 (.bin .lss 3 (.g 45) (.g 44))] (.t 46) .skip (.exit 4)) (.seq (.block 5 (.seq (.reg [JO 47 (.ia 1 (.g 43) (.g 45)), JD 48 1 47, JB 12 48]) (.reg [JA 49 1, JA 50 12, JO 51 (.lk none (.int .i64 0) false (.t 49) (.t 50)), JO 52 (.bin .sub 3 (.t 51) (JT 1)), JQ (.mup none (.t 49) (.t 50) (.t 52))]))) (.reg [JO 53 (.bin .add 3 (.g 45) (JT 1)), JB 45 53]))
noncomputable def lb26_1 : AC :=
 .seq (.ifr [JO 31 (.bin .lss 3 (.g 30) (.g 29))] (.t 31) .skip (.exit 2)) (.seq (.block 3 (.seq (.reg [JO 32 (.ia 1 (.g 28) (.g 30)), JD 33 1 32, JB 10 33]) (.reg [JA 34 1, JA 35 10, JO 36 (.lk none (.int .i64 0) false (.t 34) (.t 35)), JO 37 (.bin .add 3 (.t 36) (JT 1)), JQ (.mup none (.t 34) (.t 35) (.t 37))]))) (.reg [JO 38 (.bin .add 3 (.g 30) (JT 1)), JB 30 38]))
noncomputable def lb26_2 : AC :=
 .seq (.ifr [JO 21 (.bin .lss 3 (.g 20) (.g 19))] (.t 21) .skip (.exit 0)) (.seq (.block 1 (.seq (.reg [JA 22 20, JO 23 (.ia 7 (.g 18) (.g 20)), JE 24 7 23, JP 7 (.al [JV, JU, JU, JV, .complex .f64 0 0, JW, JV]), JB 6 22, JQ (.st 7 (.g 7) (.t 24))]) (.seq (.reg [JF 25 7 3, JA 26 6, JO 27 (.pc (.f 37) [.t 25, .t 26]), JB 8 27]) (.seq (.seq (.reg [JP 28 (.mv (.g 8)), JP 29 (.len false (.g 28)), JI 30 0]) (.block 2 (.loop lb26_1))) (.seq (.reg [JF 39 7 7, JA 40 1, JA 41 2, JO 42 (.cl (.f 26) [.t 39, .t 40, .t 41])]) (.seq (.reg [JP 43 (.mv (.g 8)), JP 44 (.len false (.g 43)), JI 45 0]) (.block 4 (.loop lb26_0)))))))) (.reg [JO 54 (.bin .add 3 (.g 20) (JT 1)), JB 20 54]))
noncomputable def ac26 : AC :=
 (.seq (.reg [JN 3 0]) (.seq (.reg [JA 13 2, JF 14 7 3, JA 15 1, JO 16 (.cl (.t 13) [.t 14, .t 15])]) (.seq (.reg [JG 17 5 3, JP 18 (.ld false 1 (.t 17)), JP 19 (.len false (.g 18)), JI 20 0]) (.block 0 (.loop lb26_2)))))
theorem fi26 : FI Tryd.prog 26 cf26 ac26 [] [0, 1, 2, 3, 6, 7, 8, 10, 12, 18, 19, 20, 28, 29, 30, 43, 44, 45] 55 := FI_of (c := Tryd.f26.body.getD .skip) Tryd.func26 (by kernel_rfl) (by rfl) (by rfl) (by kernel_rfl) (by kernel_rfl) rfl rfl rfl
@[simp] theorem cfP26 : cf26.P = Tryd.prog := (rfl)
noncomputable def cf14 : Cfg := ⟨Tryd.prog, 75, [0, 1, 2, 3, 4, 5, 6, 7, 9, 10, 12, 16, 17, 18, 39, 40, 41, 47, 48, 49], [1, 31, 61, 72]⟩
noncomputable def lb14_0 : AC :=
 .seq (.ifr [JO 50 (.bin .lss 3 (.g 49) (.g 48))] (.t 50) .skip (.exit 4)) (.seq (.block 5 (.seq (.reg [JO 51 (.ia 3 (.g 47) (.g 49)), JE 52 3 51, JP 12 (.al [JU, JV, JV]), JQ (.st 3 (.g 12) (.t 52))]) (.seq (.ifr [JA 53 10, JG 54 0 12, JD 55 1 54, JO 56 (.lk none (.int .i64 0) false (.t 53) (.t 55)), JO 57 (.bin .gtr 3 (.t 56) (JT 0))] (.t 57) (.reg [JO 58 (.ld false 1 (.g 4)), JG 59 2 12, JD 60 1 59, JO 61 (.cl (.t 58) [.c (.int .i64 30), .t 60])]) .skip) (.reg [JA 62 10, JG 63 0 12, JD 64 1 63, JO 65 (.lk none (.int .i64 0) false (.t 62) (.t 64)), JO 66 (.bin .add 3 (.t 65) (JT 1)), JQ (.mup none (.t 62) (.t 64) (.t 66))])))) (.reg [JO 67 (.bin .add 3 (.g 49) (JT 1)), JB 49 67]))
noncomputable def lb14_1 : AC :=
 .seq (.ifr [JO 42 (.bin .lss 3 (.g 41) (.g 40))] (.t 42) .skip (.exit 2)) (.seq (.block 3 (.seq (.reg [JO 43 (.ia 11 (.g 39) (.g 41)), JE 44 11 43, JP 9 (.al [JU, JW, JV, JV, JU, JU, JV, .complex .f64 0 0, JW, JV, JV]), JQ (.st 11 (.g 9) (.t 44))]) (.seq (.reg [.mk (.t 45) none .mkm, JB 10 45]) (.seq (.seq (.reg [JG 46 1 9, JP 47 (.ld false 1 (.t 46)), JP 48 (.len false (.g 47)), JI 49 0]) (.block 4 (.loop lb14_0))) (.reg [JG 68 3 9, JE 69 7 68, JA 70 10, JO 71 (.mkf 27 [.g 5, .g 4, .g 1]), JO 72 (.cl (.f 26) [.t 69, .t 70, .t 71])]))))) (.reg [JO 73 (.bin .add 3 (.g 41) (JT 1)), JB 41 73]))
noncomputable def lb14_2 : AC :=
 .seq (.ifr [JO 19 (.bin .lss 3 (.g 18) (.g 17))] (.t 19) .skip (.exit 0)) (.seq (.block 1 (.seq (.reg [JA 20 18, JO 21 (.ia 11 (.g 16) (.g 18)), JE 22 11 21, JP 7 (.al [JU, JW, JV, JV, JU, JU, JV, .complex .f64 0 0, JW, JV, JV]), JB 6 20, JQ (.st 11 (.g 7) (.t 22))]) (.ifr [JO 23 (.ld false 1 (.g 5)), JG 24 0 7, JD 25 1 24, JO 26 (.lk none (.int .i64 0) false (.t 23) (.t 25)), JO 27 (.bin .gtr 3 (.t 26) (JT 0))] (.t 27) (.reg [JO 28 (.ld false 1 (.g 4)), JG 29 10 7, JD 30 1 29, JO 31 (.cl (.t 28) [.c (.int .i64 30), .t 30])]) (.reg [JO 32 (.ld false 1 (.g 5)), JG 33 0 7, JD 34 1 33, JA 35 6, JO 36 (.bin .add 3 (.t 35) (JT 1)), JQ (.mup none (.t 32) (.t 34) (.t 36))])))) (.reg [JO 37 (.bin .add 3 (.g 18) (JT 1)), JB 18 37]))
noncomputable def ac14 : AC :=
 (.seq (.reg [JP 1 (.bx (.g 0)), JP 2 (.al [JV, JV])]) (.seq (.reg [JP 3 (.al [JV, JV])]) (.seq (.reg [JO 13 (.mkf 25 [.g 3]), JP 4 (.al [.nilFunc]), JQ (.st 1 (.g 4) (.t 13))]) (.seq (.reg [.mk (.t 14) none .mkm, JP 5 (.al [.map none]), JQ (.st 1 (.g 5) (.t 14))]) (.seq (.seq (.reg [JG 15 0 1, JP 16 (.ld false 1 (.t 15)), JP 17 (.len false (.g 16)), JI 18 0]) (.block 0 (.loop lb14_2))) (.seq (.seq (.reg [JG 38 0 1, JP 39 (.ld false 1 (.t 38)), JP 40 (.len false (.g 39)), JI 41 0]) (.block 2 (.loop lb14_1))) (.seq (.reg [JF 74 2 3, JQ (.st 2 (.g 2) (.t 74))]) .ret)))))))
theorem fi14 : FI Tryd.prog 14 cf14 ac14 [.c 2 true 2] [0, 1, 2, 3, 4, 5, 6, 7, 9, 10, 12, 16, 17, 18, 39, 40, 41, 47, 48, 49] 75 := FI_of (c := Tryd.f14.body.getD .skip) Tryd.func14 (by kernel_rfl) (by rfl) (by rfl) (by kernel_rfl) (by kernel_rfl) rfl rfl rfl
@[simp] theorem cfP14 : cf14.P = Tryd.prog := (rfl)
noncomputable def cf25 : Cfg := ⟨Tryd.prog, 17, [0, 1, 2], []⟩
noncomputable def ac25 : AC :=
 (.ifr [JG 5 0 2, JD 6 1 5, JO 7 (.bin .eql 24 (.t 6) (JT 0)), JC 8 7, JR 9 8 (.mv (.g 1)), JR 10 8 (.fa 1 (.g 2)), JR 11 8 (.ld false 1 (.t 10)), JR 12 8 (.bin .lss 3 (.t 9) (.t 11)), JO 13 (.pick (.t 8) JX (.t 12))] (.t 13) (.reg [JA 14 0, JA 15 1, JO 16 (.bld [JV, JV] [(0, 1, .t 14), (1, 1, .t 15)]), JQ (.st 2 (.g 2) (.t 16))]) .skip)
theorem fi25 : FI Tryd.prog 25 cf25 ac25 [] [0, 1, 2] 17 := FI_of (c := Tryd.f25.body.getD .skip) Tryd.func25 (by kernel_rfl) (by rfl) (by rfl) (by kernel_rfl) (by kernel_rfl) rfl rfl rfl
@[simp] theorem cfP25 : cf25.P = Tryd.prog := (rfl)
noncomputable def cf27 : Cfg := ⟨Tryd.prog, 61, [0, 1, 2, 3, 4, 5, 7], [26, 38, 60]⟩
noncomputable def ac27 : AC :=
 (.seq (.reg [JN 5 0]) (.seq (.reg [JO 8 (.ld false 1 (.g 2)), JG 9 1 5, JD 10 1 9, JO 11 (.lk none (.int .i64 0) false (.t 8) (.t 10)), JB 7 11]) (.block 0 (.ifr [JG 13 0 5, JD 14 1 13, JO 15 (.bin .eql 40 (.t 14) (JT 6)), JC 16 15, JS 17 16 (.mv (.g 1)), JS 18 16 (.fa 1 (.g 5)), JS 19 16 (.ld false 1 (.t 18)), JS 20 16 (.lk none (.int .i64 0) false (.t 17) (.t 19)), JS 21 16 (.bin .eql 3 (.t 20) (JT 0)), JO 22 (.pick (.t 16) (.t 21) JY), JC 12 22] (.t 12) (.reg [JO 23 (.ld false 1 (.g 3)), JG 24 6 5, JD 25 1 24, JO 26 (.cl (.t 23) [.c (.int .i64 31), .t 25])]) (.ifr [JG 28 0 5, JD 29 1 28, JO 30 (.bin .eql 40 (.t 29) (JT 7)), JC 31 30, JS 32 31 (.mv (.g 7)), JS 33 31 (.bin .eql 3 (.t 32) (JT 0)), JO 34 (.pick (.t 31) (.t 33) JY), JC 27 34] (.t 27) (.reg [JO 35 (.ld false 1 (.g 3)), JG 36 6 5, JD 37 1 36, JO 38 (.cl (.t 35) [.c (.int .i64 32), .t 37])]) (.ifr [JG 40 0 5, JD 41 1 40, JO 42 (.bin .eql 40 (.t 41) (JT 7)), JC 43 42, JS 44 43 (.fa 0 (.g 4)), JS 45 43 (.ld false 1 (.t 44)), JS 46 43 (.mv (.g 7)), JS 47 43 (.bin .sub 3 (.t 46) (JT 1)), JS 48 43 (.ia 11 (.t 45) (.t 47)), JS 49 43 (.fa 1 (.t 48)), JS 50 43 (.ld false 1 (.t 49)), JS 51 43 (.len false (.t 50)), JS 52 43 (.fa 5 (.g 5)), JS 53 43 (.ld false 1 (.t 52)), JS 54 43 (.len false (.t 53)), JS 55 43 (.bin .neq 3 (.t 51) (.t 54)), JO 56 (.pick (.t 43) (.t 55) JY), JC 39 56] (.t 39) (.reg [JO 57 (.ld false 1 (.g 3)), JG 58 6 5, JD 59 1 58, JO 60 (.cl (.t 57) [.c (.int .i64 33), .t 59])]) .skip))))))
theorem fi27 : FI Tryd.prog 27 cf27 ac27 [] [0, 1, 2, 3, 4, 5, 7] 61 := FI_of (c := Tryd.f27.body.getD .skip) Tryd.func27 (by kernel_rfl) (by rfl) (by rfl) (by kernel_rfl) (by kernel_rfl) rfl rfl rfl
@[simp] theorem cfP27 : cf27.P = Tryd.prog := (rfl)
set_option maxRecDepth 100000
set_option maxHeartbeats 4000000
def aJ (op : Int) (n t : List UInt8) (i : Int) : List (List UInt8) := if op = 21 ∨ (op = 22 ∧ i = 1) then [n] else if op = 20 ∧ i = 2 then [n, t] else []
def q_ (e : Ex) (i : Int) : List (List UInt8) := aJ e.op e.name e.tail i
theorem wH (e : Ex) (i : Int) : Pure Tryd.prog 37 [.agg (aO e), I i] (.sl (em bC (q_ e i))) := by
 refine fi37.pu (by simp) ?_
 simp only [aA, q_]
 generalize e.op = op
 unfold aJ
 by_cases h1 : op = 21
 ·simp -implicitDefEqProofs [ac37, h1]; rfl
 ·by_cases h2 : op = 22
  ·by_cases h3 : i = 1
   ·simp -implicitDefEqProofs [ac37, h1, h2, h3]; rfl
   ·simp -implicitDefEqProofs [ac37, h1, h2, h3]
  ·by_cases h4 : op = 20
   ·by_cases h3 : i = 2
    ·simp -implicitDefEqProofs [ac37, h1, h2, h3, h4]; rfl
    ·simp -implicitDefEqProofs [ac37, h1, h2, h3, h4]
   ·simp -implicitDefEqProofs [ac37, h1, h2, h4]
abbrev Ft := Int × Int
def fT (s : Ft) (w p : Int) : Ft := if s.1 = 0 ∨ p < s.2 then (w, p) else s
theorem zO (s : Ft) (w p : Int) {fid : Nat} {mem : Mem} {nx : Nat} {K : KD} (hl : look mem fid = some (.box [I s.1, I s.2])) (hi : fid < nx) (hk : ∀ nx', nx ≤ nx' → K (.tup []) (upd mem fid (.box [I (fT s w p).1, I (fT s w p).2])) nx') :
  bP Tryd.prog 25 [I w, I p, .opt fid 0] mem nx K := by
 refine fi25.ct (by simp) fun hfr => ?_
 unfold fT at hk
 by_cases h1 : s.1 = 0
 ·rw [if_pos (.inl h1)] at hk
  simp -implicitDefEqProofs [ac25, hl, h1]
  exact ⟨_, aG _, hk _ (by omega)⟩
 ·by_cases h2 : p < s.2
  ·rw [if_pos (.inr h2)] at hk
   simp -implicitDefEqProofs [ac25, hl, h1, h2]
   exact ⟨_, aG _, hk _ (by omega)⟩
  ·rw [if_neg (by omega), cE hl] at hk
   simp -implicitDefEqProofs [ac25, hl, h1, h2]
   exact ⟨_, aG _, hk _ (by omega)⟩
def lP (P : List Fn) (pl : Sm) (op p : Int) (n : List UInt8) (k : Nat) (m : Sm) (s : Ft) : Ft :=
 if op = 6 ∧ cF m n = 0 then fT s 31 p else if op = 7 ∧ cF pl n = 0 then fT s 32 p else
 if op = 7 ∧ ((P[(cF pl n).toNat - 1]?.getD default).params.length ≠ k) then fT s 33 p else s
structure E6 (mem : Mem) (nx mid fid b5 pid b4 b1 : Nat) (P : List Fn) (pl : Sm) (m : Sm) (s : Ft) : Prop where
 lm : look mem mid = some (.map (aV m))
 lf : look mem fid = some (.box [I s.1, I s.2])
 l5 : look mem b5 = some (.box [.omap pid])
 lp : look mem pid = some (.map (aV pl))
 l4 : look mem b4 = some (.box [.fn 25 [.opt fid 0]])
 l1 : look mem b1 = some (.box [.sl (em dO P)])
 im : mid < nx
 if' : fid < nx
 i5 : b5 < nx
 ip : pid < nx
 i4 : b4 < nx
 i1 : b1 < nx
 mf : mid ≠ fid
 m5 : b5 ≠ mid
 mp : pid ≠ mid
 m4 : b4 ≠ mid
 m1 : b1 ≠ mid
 f5 : b5 ≠ fid
 fp : pid ≠ fid
 f4 : b4 ≠ fid
 f1 : b1 ≠ fid
def bZ (mem : Mem) (mid fid : Nat) (m : Sm) (s : Ft) : Mem := upd (upd mem fid (.box [I s.1, I s.2])) mid (.map (aV m))
theorem E6.cons {mem : Mem} {nx nx' mid fid b5 pid b4 b1 k : Nat} {P : List Fn} {pl m : Sm} {s : Ft} {b : Blk} (h : E6 mem nx mid fid b5 pid b4 b1 P pl m s) (hk : nx ≤ k) (hn : nx ≤ nx') : E6 ((k, b) :: mem) nx' mid fid b5 pid b4 b1 P pl m s := by
 have e : ∀ j, j < nx → look ((k, b) :: mem) j = look mem j := fun j hj => by
  simp only [look]; rw [if_neg (by omega)]
 exact ⟨(e _ h.im).trans h.lm, (e _ h.if').trans h.lf, (e _ h.i5).trans h.l5, (e _ h.ip).trans h.lp, (e _ h.i4).trans h.l4, (e _ h.i1).trans h.l1, Nat.lt_of_lt_of_le h.im hn, Nat.lt_of_lt_of_le h.if' hn, Nat.lt_of_lt_of_le h.i5 hn, Nat.lt_of_lt_of_le h.ip hn, Nat.lt_of_lt_of_le h.i4 hn, Nat.lt_of_lt_of_le h.i1 hn, h.mf, h.m5, h.mp, h.m4, h.m1, h.f5, h.fp, h.f4, h.f1⟩
theorem E6.up {mem : Mem} {nx nx' mid fid b5 pid b4 b1 : Nat} {P : List Fn} {pl m : Sm} {s : Ft} (h : E6 mem nx mid fid b5 pid b4 b1 P pl m s) (hn : nx ≤ nx') (m' : Sm) (s' : Ft) : E6 (bZ mem mid fid m' s') nx' mid fid b5 pid b4 b1 P pl m' s' := by
 have e : ∀ j, j ≠ fid → j ≠ mid → look (bZ mem mid fid m' s') j = look mem j := fun j h1 h2 => by
  unfold bZ; rw [cS h2, cS h1]
 refine ⟨?_, ?_, (e _ h.f5 h.m5).trans h.l5, (e _ h.fp h.mp).trans h.lp, (e _ h.f4 h.m4).trans h.l4, (e _ h.f1 h.m1).trans h.l1, Nat.lt_of_lt_of_le h.im hn, Nat.lt_of_lt_of_le h.if' hn, Nat.lt_of_lt_of_le h.i5 hn, Nat.lt_of_lt_of_le h.ip hn, Nat.lt_of_lt_of_le h.i4 hn, Nat.lt_of_lt_of_le h.i1 hn, h.mf, h.m5, h.mp, h.m4, h.m1, h.f5, h.fp, h.f4, h.f1⟩
 ·unfold bZ; rw [iO, cS h.mf, h.lm]; rfl
 ·unfold bZ; rw [cS (Ne.symm h.mf), iO, h.lf]; rfl
theorem kH {mem : Mem} {nx mid fid b5 pid b4 b1 : Nat} {P : List Fn} {pl m : Sm} {s : Ft} (h : E6 mem nx mid fid b5 pid b4 b1 P pl m s) : bZ mem mid fid m s = mem := by
 unfold bZ; rw [cE h.lf, cE h.lm]
theorem zT {mem : Mem} {mid fid : Nat} (h : mid ≠ fid) {m m' : Sm} {s s' : Ft} : bZ (bZ mem mid fid m s) mid fid m' s' = bZ mem mid fid m' s' := by
 unfold bZ; rw [upd_comm (i := mid) (j := fid) h, hZ, hZ]
theorem memS_f {mem : Mem} {nx mid fid b5 pid b4 b1 : Nat} {P : List Fn} {pl m : Sm} {s : Ft} (h : E6 mem nx mid fid b5 pid b4 b1 P pl m s) (s' : Ft) : upd mem fid (.box [I s'.1, I s'.2]) = bZ mem mid fid m s' := by
 have : look (upd mem fid (.box [I s'.1, I s'.2])) mid = some (.map (aV m)) := (cS h.mf).trans h.lm
 unfold bZ; exact (cE this).symm
def plOk (P : List Fn) (pl : Sm) : Prop := ∀ n, 0 ≤ cF pl n ∧ cF pl n ≤ P.length
theorem ia_Fn {l : List Fn} {mem : Mem} {j : IntKind} {i : Int} : iaD mem 11 (.sl (em dO l)) (.pl (.int j i)) = if 0 ≤ i ∧ i < l.length then some (.pt [Tx (l[i.toNat]?.getD default).name, .sl (em fJ (l[i.toNat]?.getD default).params), I (l[i.toNat]?.getD default).type, I (l[i.toNat]?.getD default).body.op, Tx (l[i.toNat]?.getD default).body.name, Tx (l[i.toNat]?.getD default).body.tail, I (l[i.toNat]?.getD default).body.type, CX (l[i.toNat]?.getD default).body.num.re (l[i.toNat]?.getD default).body.num.im, .sl (em aO (l[i.toNat]?.getD default).body.args), I (l[i.toNat]?.getD default).body.at', I (l[i.toNat]?.getD default).at']) else none := by
 rw [← bS]
 exact oT fun f => by rw [bS]; rfl
attribute [simp] ia_Fn
theorem CS (e : Ex) {mem : Mem} {nx mid fid b5 pid b4 b1 : Nat} {P : List Fn} {pl m : Sm} {s : Ft} {K : KD} (h : E6 mem nx mid fid b5 pid b4 b1 P pl m s) (hp : plOk P pl) (hP : P.length < 2 ^ 40)
  (hk : ∀ nx', nx ≤ nx' → K (.tup []) (bZ mem mid fid m (lP P pl e.op e.at' e.name e.args.length m s)) nx') :
  bP Tryd.prog 27 [.agg (aO e), .omap mid, .opt b5 0, .opt b4 0, .opt b1 0] mem nx K := by
 refine fi27.ct (by simp) fun hfr => ?_
 have ht : ∀ (w p : Int) (nx2 : Nat), nx ≤ nx2 → ∀ K : KD, (∀ nx', nx2 ≤ nx' → K (.tup []) (bZ mem mid fid m (fT s w p)) nx') → bP Tryd.prog 25 [I w, I p, .opt fid 0] mem nx2 K := fun w p nx2 hn K hk2 =>
  zO s w p h.lf (Nat.lt_of_lt_of_le h.if' hn) (fun nx' hn' => by rw [memS_f h]; exact hk2 nx' hn')
 simp only [aA]
 unfold lP at hk
 obtain ⟨hp0, hp1⟩ := hp e.name
 have w := bB (x := cF pl e.name - 1) (by omega) (by omega)
 by_cases h1 : e.op = 6
 ·by_cases h2 : cF m e.name = 0
  ·rw [if_pos ⟨h1, h2⟩] at hk
   simp -implicitDefEqProofs [ac27, h.lm, h.l5, h.lp, h.l4, h.l1, h1, h2]
   refine hJ (ht _ _ _ (by omega) _ (fun n1 hn1 => ?_))
   simp -implicitDefEqProofs
   exact ⟨_, aG _, hk _ (by omega)⟩
  ·rw [if_neg (fun g => h2 g.2), if_neg (fun g => by omega), if_neg (fun g => by omega), kH h] at hk
   simp -implicitDefEqProofs [ac27, h.lm, h.l5, h.lp, h.l4, h.l1, h1, h2]
   exact ⟨_, aG _, hk _ (by omega)⟩
 ·rw [if_neg (fun g => h1 g.1)] at hk
  by_cases h3 : e.op = 7
  ·by_cases h4 : cF pl e.name = 0
   ·rw [if_pos ⟨h3, h4⟩] at hk
    simp -implicitDefEqProofs [ac27, h.lm, h.l5, h.lp, h.l4, h.l1, h1, h3, h4]
    refine hJ (ht _ _ _ (by omega) _ (fun n1 hn1 => ?_))
    simp -implicitDefEqProofs
    exact ⟨_, aG _, hk _ (by omega)⟩
   ·rw [if_neg (fun g => h4 g.2)] at hk
    have b1 : (1 : Int) ≤ cF pl e.name := by omega
    have b2 : cF pl e.name - 1 < (P.length : Int) := by omega
    generalize hQ : (P[(cF pl e.name).toNat - 1]?.getD default) = Q at *
    by_cases h5 : Q.params.length = e.args.length
    ·rw [if_neg (fun g => g.2 h5), kH h] at hk
     simp -implicitDefEqProofs [ac27, h.lm, h.l5, h.lp, h.l4, h.l1, h1, h3, h4, w, b1, b2, hQ, h5]
     exact ⟨_, aG _, hk _ (by omega)⟩
    ·rw [if_pos ⟨h3, h5⟩] at hk
     have h6 : ¬ (Q.params.length : Int) = (e.args.length : Int) := by omega
     simp -implicitDefEqProofs [ac27, h.lm, h.l5, h.lp, h.l4, h.l1, h1, h3, h4, w, b1, b2, hQ, h5, h6]
     refine hJ (ht _ _ _ (by omega) _ (fun n1 hn1 => ?_))
     simp -implicitDefEqProofs
     exact ⟨_, aG _, hk _ (by omega)⟩
  ·rw [if_neg (fun g => h3 g.1), if_neg (fun g => h3 g.1), kH h] at hk
   simp -implicitDefEqProofs [ac27, h.lm, h.l5, h.lp, h.l4, h.l1, h1, h3]
   exact ⟨_, aG _, hk _ (by omega)⟩
def b8 (m : Sm) (n : List UInt8) : Sm := dU m n (IntKind.i64.wrap (cF m n + 1))
def i6 (m : Sm) (n : List UInt8) : Sm := dU m n (IntKind.i64.wrap (cF m n - 1))
mutual
def jA (P : List Fn) (pl : Sm) : Ex → Sm → Ft → Sm × Ft
 | .mk op n t _ _ args p, m, s => jP P pl op n t 0 args m (lP P pl op p n args.length m s)
def jP (P : List Fn) (pl : Sm) (op : Int) (n t : List UInt8) (i : Nat) : List Ex → Sm → Ft → Sm × Ft
 | [], m, s => (m, s)
 | x :: xs, m, s => jP P pl op n t (i + 1) xs ((aJ op n t i).foldl i6 (jA P pl x ((aJ op n t i).foldl b8 m) s).1) (jA P pl x ((aJ op n t i).foldl b8 m) s).2
end
def WC (e : Ex) : Prop := ∀ ⦃mem : Mem⦄ ⦃nx mid fid b5 pid b4 b1 : Nat⦄ ⦃P : List Fn⦄ ⦃pl m : Sm⦄ ⦃s : Ft⦄ ⦃K : KD⦄, E6 mem nx mid fid b5 pid b4 b1 P pl m s → plOk P pl → P.length < 2 ^ 40 → size e ≤ 2 ^ 40 →
 (∀ nx', nx ≤ nx' → K (.tup []) (bZ mem mid fid (jA P pl e m s).1 (jA P pl e m s).2) nx') → bP Tryd.prog 26 [.agg (aO e), .omap mid, .fn 27 [.opt b5 0, .opt b4 0, .opt b1 0]] mem nx K
theorem kK (op : Int) (n t : List UInt8) (i : Int) : (aJ op n t i).length ≤ 2 := by
 unfold aJ
 split
 ·simp
 ·split <;> simp
theorem mF : ∀ (l : List Ex), l.length ≤ aW l
 | [] => by simp [aW]
 | .mk .. :: es => by
  have := mF es
  simp only [aW, size, List.length_cons]; omega
theorem lU : ∀ {l : List Ex} {x : Ex}, x ∈ l → size x ≤ aW l
 | e :: es, x, h => by
  simp only [aW]
  rcases List.mem_cons.1 h with rfl | h
  ·omega
  ·have := lU h; omega
theorem walk_s (op : Int) (n t : List UInt8) (ty : Int) (z : Cx) (args : List Ex) (p : Int) (ih : ∀ x ∈ args, WC x) : WC (.mk op n t ty z args p) := by
 intro mem nx mid fid b5 pid b4 b1 P pl m s K h hp hP hsz hk
 have hal : args.length ≤ 2 ^ 40 := by
  have := mF args
  simp only [size] at hsz; omega
 have hv := fun (K : KD) (nx2 : Nat) (hn : nx ≤ nx2) (hk2 : ∀ nx', nx2 ≤ nx' → K (.tup []) (bZ mem mid fid m (lP P pl op p n args.length m s)) nx') => CS (.mk op n t ty z args p) (mem := mem) (nx := nx2) (K := K) ((kH h) ▸ E6.up h hn m s) hp hP hk2
 have hR : jA P pl (.mk op n t ty z args p) m s = jP P pl op n t 0 args m (lP P pl op p n args.length m s) := by simp only [jA]
 rw [hR] at hk
 clear hR
 generalize lP P pl op p n args.length m s = s1 at *
 generalize hRR : jP P pl op n t 0 args m s1 = R at hk
 have hE : ∀ (nx' : Nat), nx ≤ nx' → ∀ m' s', E6 (bZ mem mid fid m' s') nx' mid fid b5 pid b4 b1 P pl m' s' := fun nx' hn m' s' => E6.up h hn m' s'
 have hL : ∀ m' s', look (bZ mem mid fid m' s') mid = some (.map (aV m')) := fun m' s' => (hE nx (Nat.le_refl _) m' s').lm
 have hU : ∀ m' s' m2, upd (bZ mem mid fid m' s') mid (.map (aV m2)) = bZ mem mid fid m2 s' := fun m' s' m2 => by unfold bZ; rw [hZ]
 have hM : ∀ m' s' m2 s2, bZ (bZ mem mid fid m' s') mid fid m2 s2 = bZ mem mid fid m2 s2 := fun m' s' m2 s2 => zT h.mf
 have hfr' : ∀ (hfr : ∀ i, nx ≤ i → look mem i = none) (i : Nat), nx ≤ i → ∀ m' s', look (bZ mem mid fid m' s') i = none := fun hfr i hi m' s' => by unfold bZ; exact aF (aF (hfr i hi))
 have hB := wH (.mk op n t ty z args p)
 have hbF : ∀ i, q_ (.mk op n t ty z args p) i = aJ op n t i := fun i => rfl
 simp only [hbF] at hB
 simp only [bG] at hv hB ⊢
 refine fi26.ct (by simp) fun hfr => ?_
 simp -implicitDefEqProofs [ac26]
 refine hJ (hv _ _ (by omega) (fun n1 hn1 => ?_))
 simp -implicitDefEqProofs
 refine lpG cf26 lb26_2 [6, 7, 8, 10, 12, 20, 28, 29, 30, 43, 44, 45] (α := Nat × Sm × Ft) (fun s _ => [(20, I s.1)]) (fun s _ => bZ mem mid fid s.2.1 s.2.2) (fun s k => n1 ≤ k ∧ s.1 ≤ args.length ∧ jP P pl op n t s.1 (args.drop s.1) s.2.1 s.2.2 = R) (fun s => args.length - s.1) (0, m, s1) ⟨by omega, by simp, hRR⟩ (by simp) (by simp) ?_
 rintro ⟨i, m1, s2⟩ k ⟨hk1, hi, hw⟩
 simp only at hi hw
 by_cases hlt : i < args.length
 ·have hd : args.drop i = args[i] :: args.drop (i + 1) := List.drop_eq_getElem_cons hlt
  have hg : args[i]?.getD default = args[i] := by rw [List.getElem?_eq_getElem hlt]; rfl
  have hmem : args[i] ∈ args := List.getElem_mem hlt
  rw [hd] at hw
  unfold jP at hw
  obtain ⟨x, hxe⟩ : ∃ x, args[i] = x := ⟨_, rfl⟩
  rw [hxe] at hmem hw
  have hx := ih _ hmem
  have hsx : size x ≤ 2 ^ 40 := by
   have := lU hmem
   simp only [size] at hsz; omega
  have hbl := kK op n t i
  have hBi := hB i
  generalize aJ op n t i = N at *
  have w1 := bB (x := (i : Int) + 1) (by omega) (by omega)
  unfold WC at hx
  simp only [aA] at hx
  simp -implicitDefEqProofs [lb26_2, hlt, hxe]
  refine aH (hBi) (by simp) ?_
  simp -implicitDefEqProofs
  have hb1 := h.im
  have hb2 := h.if'
  generalize hb7 : k + 1 + 3 = b7
  have hbm : ¬ b7 = mid := by omega
  have hbf : ¬ b7 = fid := by omega
  have hMc : ∀ (M : Mem) (b : Blk) (m' : Sm) (s' : Ft), bZ ((b7, b) :: M) mid fid m' s' = (b7, b) :: bZ M mid fid m' s' := fun M b m' s' => by
   unfold bZ
   simp only [upd, hbm, hbf, if_false]
  have hEc : ∀ (b : Blk) (nx' : Nat), b7 < nx' → ∀ m' s', E6 ((b7, b) :: bZ mem mid fid m' s') nx' mid fid b5 pid b4 b1 P pl m' s' := fun b nx' hn m' s' => E6.cons (hE nx (Nat.le_refl _) m' s') (by omega) (by omega)
  refine lpG cf26 lb26_1 [10, 30] (α := Nat × Sm) (fun s _ => [(30, I s.1)]) (fun s _ => (b7, .box (aO x)) :: bZ mem mid fid s.2 s2) (fun s k2 => b7 + 1 ≤ k2 ∧ s.1 ≤ N.length ∧ (N.drop s.1).foldl b8 s.2 = N.foldl b8 m1) (fun s => N.length - s.1) (0, m1) ⟨by omega, by simp, rfl⟩ (by simp) (by simp [aA]) ?_
  rintro ⟨j, m2⟩ k2 ⟨hk2, hj, hfo⟩
  simp only at hj hfo
  by_cases hjl : j < N.length
  ·have hd2 : N.drop j = N[j] :: N.drop (j + 1) := List.drop_eq_getElem_cons hjl
   rw [hd2] at hfo
   simp only [List.foldl_cons] at hfo
   have w2 := bB (x := (j : Int) + 1) (by omega) (by omega)
   simp -implicitDefEqProofs [lb26_1, hjl, hL, hbm, hU, w2]
   exact aL (j + 1, b8 m2 N[j]) ⟨by omega, hjl, hfo⟩ (by simp only; omega) (by simp) (by simp [b8])
  ·rw [List.drop_eq_nil_of_le (by omega)] at hfo
   simp only [List.foldl_nil] at hfo
   subst hfo
   generalize List.foldl b8 m1 N = m3 at *
   simp -implicitDefEqProofs [lb26_1, hjl, hbm, aA]
   refine aD (hx (hEc _ _ (by omega) _ _) hp hP hsx (fun n3 hn3 => ?_))
   generalize jA P pl x m3 s2 = r3 at *
   simp -implicitDefEqProofs [hMc, hM]
   refine lpG cf26 lb26_0 [12, 45] (α := Nat × Sm) (fun s _ => [(45, I s.1)]) (fun s _ => (b7, .box (aO x)) :: bZ mem mid fid s.2 r3.2) (fun s k2 => b7 + 1 ≤ k2 ∧ s.1 ≤ N.length ∧ (N.drop s.1).foldl i6 s.2 = N.foldl i6 r3.1) (fun s => N.length - s.1) (0, r3.1) ⟨by omega, by simp, rfl⟩ (by simp) (by simp [aA]) ?_
   rintro ⟨j2, m4⟩ k4 ⟨hk4, hj2, hfo2⟩
   simp only at hj2 hfo2
   by_cases hjl2 : j2 < N.length
   ·have hd2 : N.drop j2 = N[j2] :: N.drop (j2 + 1) := List.drop_eq_getElem_cons hjl2
    rw [hd2] at hfo2
    simp only [List.foldl_cons] at hfo2
    have w2 := bB (x := (j2 : Int) + 1) (by omega) (by omega)
    simp -implicitDefEqProofs [lb26_0, hjl2, hL, hbm, hU, w2]
    exact aL (j2 + 1, i6 m4 N[j2]) ⟨by omega, hjl2, hfo2⟩ (by simp only; omega) (by simp) (by simp [i6])
   ·rw [List.drop_eq_nil_of_le (by omega)] at hfo2
    simp only [List.foldl_nil] at hfo2
    subst hfo2
    simp -implicitDefEqProofs [lb26_0, hjl2, w1]
    refine aL (i + 1, _, r3.2) ⟨by omega, hlt, hw⟩ (by simp only; omega) (by simp) (aU (aN _) (hfr' hfr _ (by omega) _ _))
 ·have he : args.drop i = [] := List.drop_eq_nil_of_le (by omega)
  rw [he] at hw
  unfold jP at hw
  simp -implicitDefEqProofs [lb26_2, hlt]
  rw [← hw] at hk
  exact ⟨_, aG _, hk _ (by omega)⟩
mutual
theorem yJ : ∀ (e : Ex), WC e
 | .mk op n t ty z args p => walk_s op n t ty z args p (wK args)
theorem wK : ∀ (l : List Ex), ∀ x ∈ l, WC x
 | [], x, h => by simp at h
 | e :: es, x, h => (List.mem_cons.1 h).elim (fun he => he ▸ yJ e) (fun h => wK es x h)
end
set_option maxRecDepth 1000000
set_option maxHeartbeats 0
noncomputable def cf36 : Cfg := ⟨Tryd.prog, 20, [0, 1, 2, 3], []⟩
noncomputable def ac36 : AC :=
 (.seq (.reg [JN 3 0]) (.ifr [JG 5 0 3, JD 6 1 5, JO 7 (.bin .eql 40 (.t 6) (JT 6)), JC 8 7, JS 9 8 (.mv (.g 1)), JS 10 8 (.fa 1 (.g 3)), JS 11 8 (.ld false 1 (.t 10)), JS 12 8 (.lk none (.int .i64 0) false (.t 9) (.t 11)), JS 13 8 (.bin .eql 3 (.t 12) (JT 0)), JO 14 (.pick (.t 8) (.t 13) JY)] (.t 14) (.reg [JO 15 (.ld false 1 (.g 2)), JG 16 1 3, JD 17 1 16, JO 18 (.lk none (.int .i64 0) false (.t 15) (.t 17)), JO 19 (.bin .add 3 (.t 18) (JT 1)), JQ (.mup none (.t 15) (.t 17) (.t 19))]) .skip))
theorem fi36 : FI Tryd.prog 36 cf36 ac36 [] [0, 1, 2, 3] 20 := FI_of (c := Tryd.f36.body.getD .skip) Tryd.func36 (by kernel_rfl) (by rfl) (by rfl) (by kernel_rfl) (by kernel_rfl) rfl rfl rfl
@[simp] theorem cfP36 : cf36.P = Tryd.prog := (rfl)
noncomputable def cf24 : Cfg := ⟨Tryd.prog, 10, [0, 1, 2, 3], [1, 3, 4, 6, 8]⟩
noncomputable def ac24 : AC :=
 (.seq (.reg [JP 1 (.bx (.g 0)), JP 2 (.mv (.c (.map none)))]) (.seq (.reg [.mk (.t 4) none .mkm, JP 3 (.al [.map none]), JQ (.st 1 (.g 3) (.t 4))]) (.seq (.reg [JF 5 7 1, .mk (.t 6) none .mkm, JO 7 (.mkf 36 [.g 3]), JO 8 (.cl (.f 26) [.t 5, .t 6, .t 7])]) (.seq (.reg [JO 9 (.ld false 1 (.g 3)), JB 2 9]) .ret))))
theorem fi24 : FI Tryd.prog 24 cf24 ac24 [.t 2] [0, 1, 2, 3] 10 := FI_of (c := Tryd.f24.body.getD .skip) Tryd.func24 (by kernel_rfl) (by rfl) (by rfl) (by kernel_rfl) (by kernel_rfl) rfl rfl rfl
@[simp] theorem cfP24 : cf24.P = Tryd.prog := (rfl)
noncomputable def cf28 : Cfg := ⟨Tryd.prog, 24, [0, 1, 2, 3, 6, 11, 12, 13], []⟩
noncomputable def lb28_0 : AC :=
 .seq (.ifr [JO 14 (.bin .lss 3 (.g 13) (.g 12))] (.t 14) .skip (.exit 0)) (.seq (.block 1 (.seq (.reg [JO 15 (.ia 1 (.g 11) (.g 13)), JD 16 1 15, JB 6 16]) (.ifr [JA 17 6, JO 18 (.bin .neq 9 (.t 17) (.c (JU)))] (.t 18) (.reg [JO 19 (.ld false 1 (.g 2)), JA 20 6, JO 21 (.lk none (.int .i64 0) false (.t 19) (.t 20)), JO 22 (.bin .add 3 (.t 21) (JT 1)), JQ (.mup none (.t 19) (.t 20) (.t 22))]) .skip))) (.reg [JO 23 (.bin .add 3 (.g 13) (JT 1)), JB 13 23]))
noncomputable def ac28 : AC :=
 (.seq (.reg [JN 3 0]) (.seq (.reg [JG 7 1 3, JD 8 1 7, JG 9 2 3, JD 10 1 9, JP 11 (.bsl 1 2 [JU] [(0, 1, .t 8), (1, 1, .t 10)]), JP 12 (.len false (.g 11)), JI 13 0]) (.block 0 (.loop lb28_0))))
theorem fi28 : FI Tryd.prog 28 cf28 ac28 [] [0, 1, 2, 3, 6, 11, 12, 13] 24 := FI_of (c := Tryd.f28.body.getD .skip) Tryd.func28 (by kernel_rfl) (by rfl) (by rfl) (by kernel_rfl) (by kernel_rfl) rfl rfl rfl
@[simp] theorem cfP28 : cf28.P = Tryd.prog := (rfl)
noncomputable def cf12 : Cfg := ⟨Tryd.prog, 19, [0, 1, 2, 3, 5, 7, 8, 9], []⟩
noncomputable def lb12_0 : AC :=
 .seq (.ifr [JO 10 (.bin .lss 3 (.g 9) (.g 8))] (.t 10) .skip (.exit 0)) (.seq (.block 1 (.seq (.reg [JO 11 (.ia 7 (.g 7) (.g 9)), JE 12 7 11, JP 5 (.al [JV, JU, JU, JV, .complex .f64 0 0, JW, JV]), JQ (.st 7 (.g 5) (.t 12))]) (.reg [JA 13 3, JF 14 7 5, JO 15 (.pc (.f 12) [.t 14]), JO 16 (.bin .add 3 (.t 13) (.t 15)), JB 3 16]))) (.reg [JO 17 (.bin .add 3 (.g 9) (JT 1)), JB 9 17]))
noncomputable def ac12 : AC :=
 (.seq (.reg [JN 1 0, JI 2 0]) (.seq (.reg [JI 3 1]) (.seq (.seq (.reg [JG 6 5 1, JP 7 (.ld false 1 (.t 6)), JP 8 (.len false (.g 7)), JI 9 0]) (.block 0 (.loop lb12_0))) (.seq (.reg [JA 18 3, JB 2 18]) .ret))))
theorem fi12 : FI Tryd.prog 12 cf12 ac12 [.t 2] [0, 1, 2, 3, 5, 7, 8, 9] 19 := FI_of (c := Tryd.f12.body.getD .skip) Tryd.func12 (by kernel_rfl) (by rfl) (by rfl) (by kernel_rfl) (by kernel_rfl) rfl rfl rfl
@[simp] theorem cfP12 : cf12.P = Tryd.prog := (rfl)
noncomputable def cf13 : Cfg := ⟨Tryd.prog, 9, [0, 1, 2, 4], [6]⟩
noncomputable def ac13 : AC :=
 (.seq (.reg [JN 2 0, JI 4 0]) (.seq (.reg [JF 5 7 2, JO 6 (.cl (.f 24) [.t 5]), JA 7 1, JO 8 (.lk none (.int .i64 0) false (.t 6) (.t 7)), JB 4 8]) .ret))
theorem fi13 : FI Tryd.prog 13 cf13 ac13 [.t 4] [0, 1, 2, 4] 9 := FI_of (c := Tryd.f13.body.getD .skip) Tryd.func13 (by kernel_rfl) (by rfl) (by rfl) (by kernel_rfl) (by kernel_rfl) rfl rfl rfl
@[simp] theorem cfP13 : cf13.P = Tryd.prog := (rfl)
noncomputable def cf23 : Cfg := ⟨Tryd.prog, 4, [0, 1, 2], [1]⟩
noncomputable def ac23 : AC :=
 (.seq (.reg [JP 1 (.bx (.g 0)), JP 2 (.mv (.c .nilFunc))]) (.seq (.reg [JO 3 (.mkf 35 [.g 1]), JB 2 3]) .ret))
theorem fi23 : FI Tryd.prog 23 cf23 ac23 [.t 2] [0, 1, 2] 4 := FI_of (c := Tryd.f23.body.getD .skip) Tryd.func23 (by kernel_rfl) (by rfl) (by rfl) (by kernel_rfl) (by kernel_rfl) rfl rfl rfl
@[simp] theorem cfP23 : cf23.P = Tryd.prog := (rfl)
noncomputable def cf11 : Cfg := ⟨Tryd.prog, 7, [0, 1, 2], [4, 5, 6]⟩
noncomputable def ac11 : AC :=
 (.seq (.reg [JN 1 0, JP 2 (.mv (.c (.slice none 0 0)))]) (.seq (.reg [JF 3 7 1, JO 4 (.cl (.f 24) [.t 3]), JO 5 (.cl (.f 23) [.t 4]), JO 6 (.cl (.f 22) [.t 5]), JB 2 6]) .ret))
theorem fi11 : FI Tryd.prog 11 cf11 ac11 [.t 2] [0, 1, 2] 7 := FI_of (c := Tryd.f11.body.getD .skip) Tryd.func11 (by kernel_rfl) (by rfl) (by rfl) (by kernel_rfl) (by kernel_rfl) rfl rfl rfl
@[simp] theorem cfP11 : cf11.P = Tryd.prog := (rfl)
noncomputable def cf15 : Cfg := ⟨Tryd.prog, 31, [0, 1, 2, 3, 5, 11, 12, 13], [27, 29, 30]⟩
noncomputable def lb15_0 : AC :=
 .seq (.ifr [JO 14 (.bin .lss 3 (.g 13) (.g 12))] (.t 14) .skip (.exit 0)) (.seq (.block 1 (.seq (.reg [JO 15 (.ia 3 (.g 11) (.g 13)), JE 16 3 15, JP 5 (.al [JU, JV, JV]), JQ (.st 3 (.g 5) (.t 16))]) (.reg [JO 17 (.ld false 1 (.g 3)), JG 18 0 5, JD 19 1 18, JO 20 (.lk none (.int .i64 0) false (.t 17) (.t 19)), JO 21 (.bin .add 3 (.t 20) (JT 1)), JQ (.mup none (.t 17) (.t 19) (.t 21))]))) (.reg [JO 22 (.bin .add 3 (.g 13) (JT 1)), JB 13 22]))
noncomputable def ac15 : AC :=
 (.seq (.reg [JN 1 0, JP 2 (.mv (.c (.slice none 0 0)))]) (.seq (.reg [.mk (.t 6) none .mkm, JG 7 0 1, JD 8 1 7, JQ (.mup none (.t 6) (.t 8) (JT 1)), JC 9 6, JP 3 (.al [.map none]), JQ (.st 1 (.g 3) (.t 9))]) (.seq (.seq (.reg [JG 10 1 1, JP 11 (.ld false 1 (.t 10)), JP 12 (.len false (.g 11)), JI 13 0]) (.block 0 (.loop lb15_0))) (.seq (.reg [JG 23 3 1, JE 24 7 23, .mk (.t 25) none .mkm, JO 26 (.mkf 28 [.g 3]), JO 27 (.cl (.f 26) [.t 24, .t 25, .t 26])]) (.seq (.reg [JO 28 (.ld false 1 (.g 3)), JO 29 (.cl (.f 23) [.t 28]), JO 30 (.cl (.f 22) [.t 29]), JB 2 30]) .ret)))))
theorem fi15 : FI Tryd.prog 15 cf15 ac15 [.t 2] [0, 1, 2, 3, 5, 11, 12, 13] 31 := FI_of (c := Tryd.f15.body.getD .skip) Tryd.func15 (by kernel_rfl) (by rfl) (by rfl) (by kernel_rfl) (by kernel_rfl) rfl rfl rfl
@[simp] theorem cfP15 : cf15.P = Tryd.prog := (rfl)
noncomputable def cf6 : Cfg := ⟨Tryd.prog, 33, [0, 1, 4, 5, 6, 7, 8], [31]⟩
noncomputable def lb6_0 : AC :=
 .seq (.ifr [JA 15 6, JO 16 (.len false (.t 15)), JA 17 1, JO 18 (.bin .lss 3 (.t 16) (.t 17))] (.t 18) .skip (.exit 0)) (.seq (.block 1 (.seq (.reg [JA 21 7, JO 22 (.pc (.f 17) [.t 21]), JO 23 (.bin .add 9 (.c (.string (ByteArray.mk (Array.mk [116])))) (.t 22)), JB 8 23]) (.ifr [JA 24 0, JA 25 8, JO 26 (.pc (.f 18) [.t 24, .t 25]), JO 27 (.un .not (.t 26))] (.t 27) (.reg [JA 28 6, JA 29 8, JO 30 (.bsl 1 1 [JU] [(0, 1, .t 29)]), JO 31 (.app 1 16 [JU] (.t 28) (.t 30)), JB 6 31]) .skip))) (.reg [JA 19 7, JO 20 (.bin .add 3 (.t 19) (JT 1)), JB 7 20]))
noncomputable def ac6 : AC :=
 (.seq (.reg [JP 4 (.mv (.c (.slice none 0 0))), JI 5 0]) (.seq (.ifr [JA 9 1, JO 10 (.bin .lss 3 (.t 9) (JT 0)), JC 11 10, JR 12 11 (.mv (.g 1)), JR 13 11 (.bin .gtr 3 (.t 12) (JT 4096)), JO 14 (.pick (.t 11) JX (.t 13))] (.t 14) (.seq (.reg [JP 4 (.mv (.c (.slice none 0 0))), JI 5 2]) .ret) .skip) (.seq (.reg [JP 6 (.mv (.c (.slice none 0 0)))]) (.seq (.seq (.reg [JI 7 1]) (.block 0 (.loop lb6_0))) (.seq (.reg [JA 32 6, JB 4 32, JI 5 0]) .ret)))))
theorem fi6 : FI Tryd.prog 6 cf6 ac6 [.t 4, .t 5] [0, 1, 4, 5, 6, 7, 8] 33 := FI_of (c := Tryd.f6.body.getD .skip) Tryd.func6 (by kernel_rfl) (by rfl) (by rfl) (by kernel_rfl) (by kernel_rfl) rfl rfl rfl
@[simp] theorem cfP6 : cf6.P = Tryd.prog := (rfl)
noncomputable def cf18 : Cfg := ⟨Tryd.prog, 9, [0, 1, 4], []⟩
noncomputable def ac18 : AC :=
 (.seq (.reg [JP 4 (.mv JY)]) (.seq (.reg [JA 5 0, JA 6 1, JO 7 (.pc (.f 30) [.t 5, .t 6]), JO 8 (.bin .geq 3 (.t 7) (JT 0)), JB 4 8]) .ret))
theorem fi18 : FI Tryd.prog 18 cf18 ac18 [.t 4] [0, 1, 4] 9 := FI_of (c := Tryd.f18.body.getD .skip) Tryd.func18 (by kernel_rfl) (by rfl) (by rfl) (by kernel_rfl) (by kernel_rfl) rfl rfl rfl
@[simp] theorem cfP18 : cf18.P = Tryd.prog := (rfl)
noncomputable def cf30 : Cfg := ⟨Tryd.prog, 19, [0, 1, 4, 5, 7, 8], []⟩
noncomputable def lb30_0 : AC :=
 .seq (.ifr [JO 9 (.bin .lss 3 (.g 8) (.g 7))] (.t 9) .skip (.exit 0)) (.seq (.block 1 (.seq (.reg [JA 10 8, JB 5 10]) (.ifr [JA 11 1, JA 12 0, JA 13 5, JL 14 1 12 13, JD 15 1 14, JO 16 (.bin .eql 9 (.t 11) (.t 15))] (.t 16) (.seq (.reg [JA 17 5, JB 4 17]) .ret) .skip))) (.reg [JO 18 (.bin .add 3 (.g 8) (JT 1)), JB 8 18]))
noncomputable def ac30 : AC :=
 (.seq (.reg [JI 4 0]) (.seq (.seq (.reg [JA 6 0, JP 7 (.len false (.t 6)), JI 8 0]) (.block 0 (.loop lb30_0))) (.seq (.reg [JI 4 (-1)]) .ret)))
theorem fi30 : FI Tryd.prog 30 cf30 ac30 [.t 4] [0, 1, 4, 5, 7, 8] 19 := FI_of (c := Tryd.f30.body.getD .skip) Tryd.func30 (by kernel_rfl) (by rfl) (by rfl) (by kernel_rfl) (by kernel_rfl) rfl rfl rfl
@[simp] theorem cfP30 : cf30.P = Tryd.prog := (rfl)
noncomputable def cf19 : Cfg := ⟨Tryd.prog, 18, [0, 2, 3], []⟩
@[simp] theorem cfP19 : cf19.P = Tryd.prog := (rfl)
noncomputable def cf7 : Cfg := ⟨Tryd.prog, 33, [0, 1, 4, 5, 6, 7, 8], [31]⟩
@[simp] theorem cfP7 : cf7.P = Tryd.prog := (rfl)
set_option maxRecDepth 100000
set_option maxHeartbeats 4000000
structure E2 (mem : Mem) (nx mid cid b : Nat) (m c : Sm) : Prop where
 lm : look mem mid = some (.map (aV m))
 lc : look mem cid = some (.map (aV c))
 lb : look mem b = some (.box [.omap cid])
 im : mid < nx
 ic : cid < nx
 ib : b < nx
 mc : mid ≠ cid
 bm : b ≠ mid
 bc : b ≠ cid
def bO (mem : Mem) (mid cid : Nat) (m c : Sm) : Mem := upd (upd mem cid (.map (aV c))) mid (.map (aV m))
theorem E2.cons {mem : Mem} {nx nx' mid cid b k : Nat} {m c : Sm} {bl : Blk} (h : E2 mem nx mid cid b m c) (hk : nx ≤ k) (hn : nx ≤ nx') : E2 ((k, bl) :: mem) nx' mid cid b m c := by
 have e : ∀ j, j < nx → look ((k, bl) :: mem) j = look mem j := fun j hj => by
  simp only [look]; rw [if_neg (by omega)]
 exact ⟨(e _ h.im).trans h.lm, (e _ h.ic).trans h.lc, (e _ h.ib).trans h.lb, Nat.lt_of_lt_of_le h.im hn, Nat.lt_of_lt_of_le h.ic hn, Nat.lt_of_lt_of_le h.ib hn, h.mc, h.bm, h.bc⟩
theorem E2.up {mem : Mem} {nx nx' mid cid b : Nat} {m c : Sm} (h : E2 mem nx mid cid b m c) (hn : nx ≤ nx') (m' c' : Sm) : E2 (bO mem mid cid m' c') nx' mid cid b m' c' := by
 refine ⟨?_, ?_, ?_, Nat.lt_of_lt_of_le h.im hn, Nat.lt_of_lt_of_le h.ic hn, Nat.lt_of_lt_of_le h.ib hn, h.mc, h.bm, h.bc⟩
 ·unfold bO; rw [iO, cS h.mc, h.lm]; rfl
 ·unfold bO; rw [cS (Ne.symm h.mc), iO, h.lc]; rfl
 ·unfold bO; rw [cS h.bm, cS h.bc, h.lb]
theorem kF {mem : Mem} {nx mid cid b : Nat} {m c : Sm} (h : E2 mem nx mid cid b m c) : bO mem mid cid m c = mem := by
 unfold bO; rw [cE h.lc, cE h.lm]
theorem rY {mem : Mem} {mid cid : Nat} (h : mid ≠ cid) {m m' c c' : Sm} : bO (bO mem mid cid m c) mid cid m' c' = bO mem mid cid m' c' := by
 unfold bO; rw [upd_comm (i := mid) (j := cid) h, hZ, hZ]
theorem x9 {mem : Mem} {nx mid cid b : Nat} {m c : Sm} (h : E2 mem nx mid cid b m c) (c' : Sm) : upd mem cid (.map (aV c')) = bO mem mid cid m c' := by
 have : look (upd mem cid (.map (aV c'))) mid = some (.map (aV m)) := (cS h.mc).trans h.lm
 unfold bO; exact (cE this).symm
abbrev Vs := Ex → Sm → Sm → Sm
def VisC (fv : FuncId) (vis : Vs) : Prop := ∀ (e : Ex) ⦃mem : Mem⦄ ⦃nx mid cid b : Nat⦄ ⦃m c : Sm⦄ ⦃K : KD⦄, E2 mem nx mid cid b m c →
 (∀ nx', nx ≤ nx' → K (.tup []) (bO mem mid cid m (vis e m c)) nx') → bP Tryd.prog fv [.agg (aO e), .omap mid, .opt b 0] mem nx K
mutual
def cC (vis : Vs) : Ex → Sm → Sm → Sm × Sm
 | .mk op n t ty z args p, m, c => dA vis op n t 0 args m (vis (.mk op n t ty z args p) m c)
def dA (vis : Vs) (op : Int) (n t : List UInt8) (i : Nat) : List Ex → Sm → Sm → Sm × Sm
 | [], m, c => (m, c)
 | x :: xs, m, c => dA vis op n t (i + 1) xs ((aJ op n t i).foldl i6 (cC vis x ((aJ op n t i).foldl b8 m) c).1) (cC vis x ((aJ op n t i).foldl b8 m) c).2
end
def WC2 (fv : FuncId) (vis : Vs) (e : Ex) : Prop := ∀ ⦃mem : Mem⦄ ⦃nx mid cid b : Nat⦄ ⦃m c : Sm⦄ ⦃K : KD⦄, E2 mem nx mid cid b m c → size e ≤ 2 ^ 40 →
 (∀ nx', nx ≤ nx' → K (.tup []) (bO mem mid cid (cC vis e m c).1 (cC vis e m c).2) nx') → bP Tryd.prog 26 [.agg (aO e), .omap mid, .fn fv [.opt b 0]] mem nx K
theorem DP {fv : FuncId} {vis : Vs} (hV : VisC fv vis) (op : Int) (n t : List UInt8) (ty : Int) (z : Cx) (args : List Ex) (p : Int) (ih : ∀ x ∈ args, WC2 fv vis x) : WC2 fv vis (.mk op n t ty z args p) := by
 intro mem nx mid cid b m s K h hsz hk
 have hal : args.length ≤ 2 ^ 40 := by
  have := mF args
  simp only [size] at hsz; omega
 have hv := fun (K : KD) (nx2 : Nat) (hn : nx ≤ nx2) (hk2 : ∀ nx', nx2 ≤ nx' → K (.tup []) (bO mem mid cid m (vis (.mk op n t ty z args p) m s)) nx') => hV (.mk op n t ty z args p) (mem := mem) (nx := nx2) (K := K) ((kF h) ▸ E2.up h hn m s) hk2
 have hR : cC vis (.mk op n t ty z args p) m s = dA vis op n t 0 args m (vis (.mk op n t ty z args p) m s) := by simp only [cC]
 rw [hR] at hk
 clear hR
 generalize vis (.mk op n t ty z args p) m s = s1 at *
 generalize hRR : dA vis op n t 0 args m s1 = R at hk
 have hE : ∀ (nx' : Nat), nx ≤ nx' → ∀ m' s', E2 (bO mem mid cid m' s') nx' mid cid b m' s' := fun nx' hn m' s' => E2.up h hn m' s'
 have hL : ∀ m' s', look (bO mem mid cid m' s') mid = some (.map (aV m')) := fun m' s' => (hE nx (Nat.le_refl _) m' s').lm
 have hU : ∀ m' s' m2, upd (bO mem mid cid m' s') mid (.map (aV m2)) = bO mem mid cid m2 s' := fun m' s' m2 => by unfold bO; rw [hZ]
 have hM : ∀ m' s' m2 s2, bO (bO mem mid cid m' s') mid cid m2 s2 = bO mem mid cid m2 s2 := fun m' s' m2 s2 => rY h.mc
 have hfr' : ∀ (hfr : ∀ i, nx ≤ i → look mem i = none) (i : Nat), nx ≤ i → ∀ m' s', look (bO mem mid cid m' s') i = none := fun hfr i hi m' s' => by unfold bO; exact aF (aF (hfr i hi))
 have hB := wH (.mk op n t ty z args p)
 have hbF : ∀ i, q_ (.mk op n t ty z args p) i = aJ op n t i := fun i => rfl
 simp only [hbF] at hB
 simp only [bG] at hv hB ⊢
 refine fi26.ct (by simp) fun hfr => ?_
 simp -implicitDefEqProofs [ac26]
 refine hJ (hv _ _ (by omega) (fun n1 hn1 => ?_))
 simp -implicitDefEqProofs
 refine lpG cf26 lb26_2 [6, 7, 8, 10, 12, 20, 28, 29, 30, 43, 44, 45] (α := Nat × Sm × Sm) (fun s _ => [(20, I s.1)]) (fun s _ => bO mem mid cid s.2.1 s.2.2) (fun s k => n1 ≤ k ∧ s.1 ≤ args.length ∧ dA vis op n t s.1 (args.drop s.1) s.2.1 s.2.2 = R) (fun s => args.length - s.1) (0, m, s1) ⟨by omega, by simp, hRR⟩ (by simp) (by simp) ?_
 rintro ⟨i, m1, s2⟩ k ⟨hk1, hi, hw⟩
 simp only at hi hw
 by_cases hlt : i < args.length
 ·have hd : args.drop i = args[i] :: args.drop (i + 1) := List.drop_eq_getElem_cons hlt
  have hg : args[i]?.getD default = args[i] := by rw [List.getElem?_eq_getElem hlt]; rfl
  have hmem : args[i] ∈ args := List.getElem_mem hlt
  rw [hd] at hw
  unfold dA at hw
  obtain ⟨x, hxe⟩ : ∃ x, args[i] = x := ⟨_, rfl⟩
  rw [hxe] at hmem hw
  have hx := ih _ hmem
  have hsx : size x ≤ 2 ^ 40 := by
   have := lU hmem
   simp only [size] at hsz; omega
  have hbl := kK op n t i
  have hBi := hB i
  generalize aJ op n t i = N at *
  have w1 := bB (x := (i : Int) + 1) (by omega) (by omega)
  unfold WC2 at hx
  simp only [aA] at hx
  simp -implicitDefEqProofs [lb26_2, hlt, hxe]
  refine aH (hBi) (by simp) ?_
  simp -implicitDefEqProofs
  have hb1 := h.im
  have hb2 := h.ic
  generalize hb7 : k + 1 + 3 = b7
  have hbm : ¬ b7 = mid := by omega
  have hbf : ¬ b7 = cid := by omega
  have hMc : ∀ (M : Mem) (bk : Blk) (m' : Sm) (s' : Sm), bO ((b7, bk) :: M) mid cid m' s' = (b7, bk) :: bO M mid cid m' s' := fun M bk m' s' => by
   unfold bO
   simp only [upd, hbm, hbf, if_false]
  have hEc : ∀ (bk : Blk) (nx' : Nat), b7 < nx' → ∀ m' s', E2 ((b7, bk) :: bO mem mid cid m' s') nx' mid cid b m' s' := fun bk nx' hn m' s' => E2.cons (hE nx (Nat.le_refl _) m' s') (by omega) (by omega)
  refine lpG cf26 lb26_1 [10, 30] (α := Nat × Sm) (fun s _ => [(30, I s.1)]) (fun s _ => (b7, .box (aO x)) :: bO mem mid cid s.2 s2) (fun s k2 => b7 + 1 ≤ k2 ∧ s.1 ≤ N.length ∧ (N.drop s.1).foldl b8 s.2 = N.foldl b8 m1) (fun s => N.length - s.1) (0, m1) ⟨by omega, by simp, rfl⟩ (by simp) (by simp [aA]) ?_
  rintro ⟨j, m2⟩ k2 ⟨hk2, hj, hfo⟩
  simp only at hj hfo
  by_cases hjl : j < N.length
  ·have hd2 : N.drop j = N[j] :: N.drop (j + 1) := List.drop_eq_getElem_cons hjl
   rw [hd2] at hfo
   simp only [List.foldl_cons] at hfo
   have w2 := bB (x := (j : Int) + 1) (by omega) (by omega)
   simp -implicitDefEqProofs [lb26_1, hjl, hL, hbm, hU, w2]
   exact aL (j + 1, b8 m2 N[j]) ⟨by omega, hjl, hfo⟩ (by simp only; omega) (by simp) (by simp [b8])
  ·rw [List.drop_eq_nil_of_le (by omega)] at hfo
   simp only [List.foldl_nil] at hfo
   subst hfo
   generalize List.foldl b8 m1 N = m3 at *
   simp -implicitDefEqProofs [lb26_1, hjl, hbm, aA]
   refine aD (hx (hEc _ _ (by omega) _ _) hsx (fun n3 hn3 => ?_))
   generalize cC vis x m3 s2 = r3 at *
   simp -implicitDefEqProofs [hMc, hM]
   refine lpG cf26 lb26_0 [12, 45] (α := Nat × Sm) (fun s _ => [(45, I s.1)]) (fun s _ => (b7, .box (aO x)) :: bO mem mid cid s.2 r3.2) (fun s k2 => b7 + 1 ≤ k2 ∧ s.1 ≤ N.length ∧ (N.drop s.1).foldl i6 s.2 = N.foldl i6 r3.1) (fun s => N.length - s.1) (0, r3.1) ⟨by omega, by simp, rfl⟩ (by simp) (by simp [aA]) ?_
   rintro ⟨j2, m4⟩ k4 ⟨hk4, hj2, hfo2⟩
   simp only at hj2 hfo2
   by_cases hjl2 : j2 < N.length
   ·have hd2 : N.drop j2 = N[j2] :: N.drop (j2 + 1) := List.drop_eq_getElem_cons hjl2
    rw [hd2] at hfo2
    simp only [List.foldl_cons] at hfo2
    have w2 := bB (x := (j2 : Int) + 1) (by omega) (by omega)
    simp -implicitDefEqProofs [lb26_0, hjl2, hL, hbm, hU, w2]
    exact aL (j2 + 1, i6 m4 N[j2]) ⟨by omega, hjl2, hfo2⟩ (by simp only; omega) (by simp) (by simp [i6])
   ·rw [List.drop_eq_nil_of_le (by omega)] at hfo2
    simp only [List.foldl_nil] at hfo2
    subst hfo2
    simp -implicitDefEqProofs [lb26_0, hjl2, w1]
    refine aL (i + 1, _, r3.2) ⟨by omega, hlt, hw⟩ (by simp only; omega) (by simp) (aU (aN _) (hfr' hfr _ (by omega) _ _))
 ·have he : args.drop i = [] := List.drop_eq_nil_of_le (by omega)
  rw [he] at hw
  unfold dA at hw
  simp -implicitDefEqProofs [lb26_2, hlt]
  rw [← hw] at hk
  exact ⟨_, aG _, hk _ (by omega)⟩
mutual
theorem rK {fv : FuncId} {vis : Vs} (hV : VisC fv vis) : ∀ (e : Ex), WC2 fv vis e
 | .mk op n t ty z args p => DP hV op n t ty z args p (vC hV args)
theorem vC {fv : FuncId} {vis : Vs} (hV : VisC fv vis) : ∀ (l : List Ex), ∀ x ∈ l, WC2 fv vis x
 | [], x, h => by simp at h
 | e :: es, x, h => (List.mem_cons.1 h).elim (fun he => he ▸ rK hV e) (fun h => vC hV es x h)
end
def gZ : Vs := fun e m c => if e.op = 6 ∧ cF m e.name = 0 then b8 c e.name else c
theorem CT : VisC 36 gZ := by
 intro e mem nx mid cid b m c K h hk
 refine fi36.ct (by simp) fun hfr => ?_
 simp only [aA]
 unfold gZ at hk
 by_cases h1 : e.op = 6
 ·by_cases h2 : cF m e.name = 0
  ·rw [if_pos ⟨h1, h2⟩] at hk
   simp -implicitDefEqProofs [ac36, h.lm, h.lb, h.lc, h1, h2]
   refine ⟨_, aG _, ?_⟩
   rw [x9 h]
   exact hk _ (by omega)
  ·rw [if_neg (fun g => h2 g.2), kF h] at hk
   simp -implicitDefEqProofs [ac36, h.lm, h.lb, h.lc, h1, h2]
   exact ⟨_, aG _, hk _ (by omega)⟩
 ·rw [if_neg (fun g => h1 g.1), kF h] at hk
  simp -implicitDefEqProofs [ac36, h.lm, h.lb, h.lc, h1]
  exact ⟨_, aG _, hk _ (by omega)⟩
def mG (c : Sm) (s : List UInt8) : Sm := if s = [] then c else b8 c s
def eY : Vs := fun e _ c => [e.name, e.tail].foldl mG c
theorem A1 : VisC 28 eY := by
 intro e mem nx mid cid b m c K h hk
 refine fi28.ct (by simp) fun hfr => ?_
 simp only [aA]
 unfold eY at hk
 have hbs : pU 1 2 [.string (ByteArray.mk #[])] [(0, 1, Tx e.name), (1, 1, Tx e.tail)] = some (.sl (em bC [e.name, e.tail])) := rfl
 have hNl : [e.name, e.tail].length = 2 := rfl
 have hE : ∀ (nx' : Nat), nx ≤ nx' → ∀ c', E2 (bO mem mid cid m c') nx' mid cid b m c' := fun nx' hn c' => E2.up h hn m c'
 have hU : ∀ c1 c2, upd (bO mem mid cid m c1) cid (.map (aV c2)) = bO mem mid cid m c2 := fun c1 c2 => by rw [x9 (hE nx (Nat.le_refl _) c1), rY h.mc]
 simp -implicitDefEqProofs [-pU, ac28, hbs]
 generalize [e.name, e.tail] = N at *
 generalize hR : N.foldl mG c = R at *
 refine lpG cf28 lb28_0 [6, 13] (α := Nat × Sm) (fun s _ => [(13, I s.1)]) (fun s _ => bO mem mid cid m s.2) (fun s k => nx ≤ k ∧ s.1 ≤ N.length ∧ (N.drop s.1).foldl mG s.2 = R) (fun s => N.length - s.1) (0, c) ⟨by omega, by simp, by simpa using hR⟩ (by simp) (by rw [kF h]; exact aN _) ?_
 rintro ⟨i, c1⟩ k ⟨hk1, hi, hr⟩
 simp only at hk1 hi hr
 have w1 := bB (x := (i : Int) + 1) (by omega) (by omega)
 have hlc := (hE nx (Nat.le_refl _) c1).lc
 have hlb := (hE nx (Nat.le_refl _) c1).lb
 by_cases hlt : i < N.length
 ·have hi2 : (i : Int) < 2 := by omega
  have hi3 : i < 2 := by omega
  rw [List.drop_eq_getElem_cons hlt] at hr
  simp only [List.foldl_cons] at hr
  obtain ⟨x, hx⟩ : ∃ x, N[i] = x := ⟨_, rfl⟩
  rw [hx] at hr
  unfold mG at hr
  by_cases hxe : x = []
  ·rw [if_pos hxe] at hr
   simp -implicitDefEqProofs [lb28_0, hlt, hi2, hi3, hx, hxe, w1, hNl]
   exact aL (i + 1, c1) ⟨by omega, by simp only; omega, hr⟩ (by simp only; omega) (by simp) (aN _)
  ·rw [if_neg hxe] at hr
   simp -implicitDefEqProofs [lb28_0, hlt, hi2, hi3, hx, hxe, w1, hNl, hlc, hlb, hU]
   exact aL (i + 1, b8 c1 x) ⟨by omega, by simp only; omega, hr⟩ (by simp only; omega) (by simp) (by simp [b8])
 ·have hi2 : ¬ (i : Int) < 2 := by omega
  rw [List.drop_eq_nil_of_le (by omega)] at hr
  simp only [List.foldl_nil] at hr
  subst hr
  simp -implicitDefEqProofs [lb28_0, hlt, hi2, hNl]
  exact ⟨_, aG _, hk _ (by omega)⟩
set_option maxRecDepth 1000000
set_option maxHeartbeats 0
noncomputable def cf9 : Cfg := ⟨Tryd.prog, 18, [0, 1, 4, 5], []⟩
noncomputable def lb9_0 : AC :=
 .seq (.ifr [JA 6 5, JA 7 0, JO 8 (.len false (.t 7)), JO 9 (.bin .lss 3 (.t 6) (.t 8))] (.t 9) .skip (.exit 0)) (.seq (.block 1 (.ifr [JA 12 0, JA 13 5, JL 14 1 12 13, JD 15 1 14, JA 16 1, JO 17 (.bin .eql 9 (.t 15) (.t 16))] (.t 17) (.seq (.reg [JP 4 (.mv JX)]) .ret) .skip)) (.reg [JA 10 5, JO 11 (.bin .add 3 (.t 10) (JT 1)), JB 5 11]))
noncomputable def ac9 : AC :=
 (.seq (.reg [JP 4 (.mv JY)]) (.seq (.seq (.reg [JI 5 0]) (.block 0 (.loop lb9_0))) (.seq (.reg [JP 4 (.mv JY)]) .ret)))
theorem fi9 : FI Tryd.prog 9 cf9 ac9 [.t 4] [0, 1, 4, 5] 18 := FI_of (c := Tryd.f9.body.getD .skip) Tryd.func9 (by kernel_rfl) (by rfl) (by rfl) (by kernel_rfl) (by kernel_rfl) rfl rfl rfl
@[simp] theorem cfP9 : cf9.P = Tryd.prog := (rfl)
@[simp] theorem eqRef6_9 {a b : ByteArray} : bD Tryd.prog .eql 9 (.pl (.string a)) (.pl (.string b)) = some (.pl (.bool (decide (a = b)))) := mW Tryd.underlying9
set_option maxRecDepth 100000
set_option maxHeartbeats 4000000
theorem C9 {α : Type} {enc : α → List D} {l : List α} {mem : Mem} {k : Nat} (h : ∀ x, (enc x).all D.cell = true) (hk : ∀ x, (enc x).length = k) : els mem k (.sl (em enc l)) = some (em enc l) := by
 show (if (em enc l).all (fun e => e.length == k && e.all D.cell) = true then some (em enc l) else none) = _
 rw [if_pos (em_els h hk)]
theorem els_T {l : List (List UInt8)} {mem : Mem} : els mem 1 (.sl (em bC l)) = some (em bC l) := C9 (fun x => rfl) (fun x => rfl)
attribute [simp 1200] els_T
theorem imm_T (l : List (List UInt8)) : D.immss (em bC l) = true := lG fun f => by simp [bC]
attribute [simp] imm_T
def aZ : List (List UInt8) → List UInt8 → Bool
 | [], _ => false
 | x :: xs, n => if x = n then true else aZ xs n
theorem qP (l : List (List UInt8)) (n : List UInt8) (hl : l.length < 2 ^ 60) : Pure Tryd.prog 9 [.sl (em bC l), Tx n] (.pl (.bool (aZ l n))) := by
 refine fi9.pu (by simp) ?_
 simp -implicitDefEqProofs [ac9]
 generalize hR : aZ l n = R
 refine lpG cf9 lb9_0 [4, 5] (α := Nat) (fun s _ => [(5, I s)]) (fun s _ => []) (fun s k => s ≤ l.length ∧ aZ (l.drop s) n = R) (fun s => l.length - s) 0 ⟨by simp, hR⟩ (by simp) (by simp) ?_
 rintro i k ⟨hi, hr⟩
 by_cases hlt : i < l.length
 ·have hd : l.drop i = l[i] :: l.drop (i + 1) := List.drop_eq_getElem_cons hlt
  rw [hd] at hr
  unfold aZ at hr
  have w1 := bB (x := (i : Int) + 1) (by omega) (by omega)
  by_cases hg : l[i] = n
  ·rw [if_pos hg] at hr
   subst hr
   simp -implicitDefEqProofs [lb9_0, hlt, hg]
  ·rw [if_neg hg] at hr
   simp -implicitDefEqProofs [lb9_0, hlt, hg, w1]
   exact aL (i + 1) ⟨hlt, hr⟩ (by omega) (by simp) (by simp)
 ·rw [List.drop_eq_nil_of_le (by omega)] at hr
  unfold aZ at hr
  subst hr
  simp -implicitDefEqProofs [lb9_0, hlt]
abbrev Sn := Ex × Bool
mutual
def bN : Ex → List (List UInt8) → List Sn
 | .mk op n t ty z args p, N => (if op = 6 ∨ op = 7 then [(.mk op n t ty z args p, op = 6 && !aZ N n)] else []) ++ cI op n t 0 args N
def cI (op : Int) (n t : List UInt8) (i : Nat) : List Ex → List (List UInt8) → List Sn
 | [], _ => []
 | x :: xs, N => bN x (N ++ aJ op n t i) ++ cI op n t (i + 1) xs N
end
mutual
theorem gL : ∀ (e : Ex) (N : List (List UInt8)), (bN e N).length ≤ size e
 | .mk op n t ty z args p, N => by
  have := qI op n t 0 args N
  unfold bN size
  rw [List.length_append]
  split <;> simp <;> omega
theorem qI (op : Int) (n t : List UInt8) (i : Nat) : ∀ (l : List Ex) (N : List (List UInt8)), (cI op n t i l N).length ≤ aW l
 | [], N => by simp [cI, aW]
 | x :: xs, N => by
  have h1 := gL x (N ++ aJ op n t i)
  have h2 := qI op n t (i + 1) xs N
  unfold cI aW
  rw [List.length_append]; omega
end
def eJ : List Fn → Nat → Sm → Ft → Sm × Ft
 | [], _, pl, s => (pl, s)
 | f :: fs, i, pl, s => if cF pl f.name > 0 then eJ fs (i + 1) pl (fT s 30 f.at') else eJ fs (i + 1) (dU pl f.name (i + 1)) s
def mV : List Pm → Sm → Ft → Sm × Ft
 | [], m, s => (m, s)
 | x :: xs, m, s => mV xs (b8 m x.name) (if cF m x.name > 0 then fT s 30 x.at' else s)
def jJ (P : List Fn) (pl : Sm) : List Fn → Ft → Ft
 | [], s => s
 | f :: fs, s => jJ P pl fs (jA P pl f.body (mV f.params [] s).1 (mV f.params [] s).2).2
def oN (P : List Fn) : Ft := jJ P (eJ P 0 [] (0, 0)).1 P (eJ P 0 [] (0, 0)).2
theorem mD (P : List Fn) : ∀ (l : List Fn) (i : Nat) (pl : Sm) (s : Ft), i + l.length ≤ P.length → plOk P pl → plOk P (eJ l i pl s).1
 | [], i, pl, s, _, h => h
 | f :: fs, i, pl, s, hl, h => by
  simp only [List.length_cons] at hl
  unfold eJ
  split
  ·exact mD P fs _ _ _ (by omega) h
  ·refine mD P fs _ _ _ (by omega) fun n => ?_
   rw [pY]
   split
   ·omega
   ·exact h n
theorem pM (n : List UInt8) : cF [] n = 0 := rfl
theorem yH (s : Ft) (w p : Int) {fid : Nat} {mem : Mem} {nx : Nat} {K : KD} (hl : look mem fid = some (.box [I s.1, I s.2])) (hi : fid < nx) (hk : ∀ nx', nx ≤ nx' → K (.tup []) (upd mem fid (.box [I (fT s w p).1, I (fT s w p).2])) nx') :
  clK Tryd.prog (some (.fn 25 [.opt fid 0])) (some [I w, I p]) mem nx K := hJ (zO s w p hl hi hk)
theorem CI (P : List Fn) (hP : P.length < 2 ^ 40) (hf : ∀ f ∈ P, size f.body ≤ 2 ^ 40 ∧ f.params.length ≤ 2 ^ 40) : Pure Tryd.prog 14 [.agg [.sl (em dO P)]] (.agg [I (oN P).1, I (oN P).2]) := by
 refine fi14.pu (by simp) ?_
 simp -implicitDefEqProofs (maxDischargeDepth := 80) [ac14]
 generalize hR : eJ P 0 [] (0, 0) = R
 have hplR : plOk P R.1 := hR ▸ mD P P 0 [] (0, 0) (by omega) (fun n => by rw [pM]; omega)
 have hfin : oN P = jJ P R.1 P R.2 := by unfold oN; rw [hR]
 rw [hfin]
 clear hfin
 refine lpG cf14 lb14_2 [6, 7, 18] (α := Nat × Sm × Ft) (fun s _ => [(6, .top), (7, .top), (18, I s.1)]) (fun s _ => [(7, .box [.omap 6]), (6, .map (aV s.2.1)), (4, .box [.fn 25 [.opt 2 0]]), (2, .box [I s.2.2.1, I s.2.2.2]), (1, .box [I 0, I 0]), (0, .box [.sl (em dO P)])]) (fun s k => 13 ≤ k ∧ s.1 ≤ P.length ∧ eJ (P.drop s.1) s.1 s.2.1 s.2.2 = R) (fun s => P.length - s.1) (0, [], (0, 0)) ⟨by omega, by simp, hR⟩ (by simp) (aN _) ?_
 rintro ⟨i, pl, s⟩ k ⟨hk, hi, hr⟩
 simp only at hi hr
 have Kk := nfc trivial hk
 by_cases hlt : i < P.length
 ·have hd : P.drop i = P[i] :: P.drop (i + 1) := List.drop_eq_getElem_cons hlt
  rw [hd] at hr
  unfold eJ at hr
  obtain ⟨x, hxe⟩ : ∃ x, P[i] = x := ⟨_, rfl⟩
  rw [hxe] at hr
  have w1 := bB (x := (i : Int) + 1) (by omega) (by omega)
  by_cases hg : cF pl x.name > 0
  ·rw [if_pos hg] at hr
   simp -implicitDefEqProofs (maxDischargeDepth := 80) [neA, ltA, Kk, lb14_2, hlt, hxe, hg]
   refine yH s 30 x.at' (by simp -implicitDefEqProofs (maxDischargeDepth := 80) [neA, ltA, Kk]) (by omega) (fun n1 hn1 => ?_)
   simp -implicitDefEqProofs (maxDischargeDepth := 80) [neA, ltA, Kk, w1]
   exact aL (i + 1, pl, fT s 30 x.at') ⟨by omega, hlt, hr⟩ (by simp only; omega) (by simp) (aU (aN _) (by simp only [look]; repeat rw [if_neg (by omega)]))
  ·rw [if_neg hg] at hr
   simp -implicitDefEqProofs (maxDischargeDepth := 80) [neA, ltA, Kk, lb14_2, hlt, hxe, hg, w1]
   exact aL (i + 1, dU pl x.name (i + 1), s) ⟨by omega, hlt, hr⟩ (by simp only; omega) (by simp) (aU (aN _) (by simp only [look]; repeat rw [if_neg (by omega)]))
 ·rw [List.drop_eq_nil_of_le (by omega)] at hr
  unfold eJ at hr
  subst hr
  simp -implicitDefEqProofs (maxDischargeDepth := 80) [neA, ltA, Kk, lb14_2, hlt]
  have hn : 13 ≤ k + 1 + 4 := by omega
  generalize k + 1 + 4 = nx at *
  generalize hQ : jJ P pl P s = Q
  refine lpG cf14 lb14_1 [9, 10, 12, 41, 47, 48, 49] (α := Nat × Ft) (fun s _ => [(9, .top), (10, .top), (12, .top), (41, I s.1), (47, .top), (48, .top), (49, .top)]) (fun s _ => [(7, .box [.omap 6]), (6, .map (aV pl)), (4, .box [.fn 25 [.opt 2 0]]), (2, .box [I s.2.1, I s.2.2]), (1, .box [I 0, I 0]), (0, .box [.sl (em dO P)])]) (fun s k => 13 ≤ k ∧ s.1 ≤ P.length ∧ jJ P pl (P.drop s.1) s.2 = Q) (fun s => P.length - s.1) (0, s) ⟨by omega, by simp, hQ⟩ (by simp) (aN _) ?_
  clear hQ hR hk hn
  rintro ⟨i, s⟩ k ⟨hk, hi, hr⟩
  simp only at hi hr
  have Kk := nfc Kk hk
  by_cases hlt : i < P.length
  ·have hd : P.drop i = P[i] :: P.drop (i + 1) := List.drop_eq_getElem_cons hlt
   have hmem : P[i] ∈ P := List.getElem_mem hlt
   rw [hd] at hr
   unfold jJ at hr
   obtain ⟨x, hxe⟩ : ∃ x, P[i] = x := ⟨_, rfl⟩
   rw [hxe] at hr hmem
   have w1 := bB (x := (i : Int) + 1) (by omega) (by omega)
   simp -implicitDefEqProofs (maxDischargeDepth := 80) [neA, ltA, Kk, lb14_1, hlt, hxe]
   obtain ⟨hsx, hpx⟩ := hf x hmem
   have hm1 : 13 ≤ k + 5 := by omega
   have hb9 : 13 ≤ k + 1 + 2 := by omega
   have hmb : (k + 1 + 2 = k + 5) = False := eq_false (by omega)
   have hmb2 : (k + 5 = k + 1 + 2) = False := eq_false (by omega)
   have hk1 : k + 5 < k + 1 + 4 + 2 + 4 ∧ k + 1 + 2 < k + 1 + 4 + 2 + 4 := ⟨by omega, by omega⟩
   generalize k + 1 + 4 + 2 + 4 = k1 at *
   generalize hme : k + 5 = mid at *
   generalize hbe : k + 1 + 2 = b9 at *
   generalize hR2 : mV x.params [] s = R2 at *
   refine lpG cf14 lb14_0 [12, 49] (α := Nat × Sm × Ft) (fun s _ => [(12, .top), (49, I s.1)]) (fun s _ => [(mid, .map (aV s.2.1)), (b9, .box (dO x)), (7, .box [.omap 6]), (6, .map (aV pl)), (4, .box [.fn 25 [.opt 2 0]]), (2, .box [I s.2.2.1, I s.2.2.2]), (1, .box [I 0, I 0]), (0, .box [.sl (em dO P)])]) (fun s k2 => k1 ≤ k2 ∧ s.1 ≤ x.params.length ∧ mV (x.params.drop s.1) s.2.1 s.2.2 = R2) (fun s => x.params.length - s.1) (0, [], s) ⟨by omega, by simp, hR2⟩ (by simp) (by rw [bS]; exact aN _) ?_
   rintro ⟨j, m, s2⟩ k2 ⟨hk2, hj, hr2⟩
   simp only at hj hr2
   have g2 : 13 ≤ k2 := by omega
   have g3 : mid < k2 := by omega
   have g4 : b9 < k2 := by omega
   by_cases hjl : j < x.params.length
   ·have hd2 : x.params.drop j = x.params[j] :: x.params.drop (j + 1) := List.drop_eq_getElem_cons hjl
    rw [hd2] at hr2
    unfold mV at hr2
    obtain ⟨y, hye⟩ : ∃ y, x.params[j] = y := ⟨_, rfl⟩
    rw [hye] at hr2
    have w2 := bB (x := (j : Int) + 1) (by omega) (by omega)
    by_cases hg : cF m y.name > 0
    ·rw [if_pos hg] at hr2
     simp -implicitDefEqProofs (maxDischargeDepth := 80) [neA, ltA, Kk, lb14_0, hjl, hye, hg, neE g2, neE hm1, neE hb9, hmb, hmb2, g3, g4, neC g3, neC g4, bS]
     refine yH s2 30 y.at' (by simp -implicitDefEqProofs (maxDischargeDepth := 80) [neA, ltA, Kk, neE g2, neE hm1, neE hb9, hmb, hmb2, g3, g4, neC g3, neC g4, bS]) (by omega) (fun n1 hn1 => ?_)
     simp -implicitDefEqProofs (maxDischargeDepth := 80) [neA, ltA, Kk, w2, neE g2, neE hm1, neE hb9, hmb, hmb2, g3, g4, neC g3, neC g4, bS]
     exact aL (j + 1, b8 m y.name, fT s2 30 y.at') ⟨by omega, hjl, hr2⟩ (by simp only; omega) (by simp) (by simp only [b8, bS]; exact aU (aN _) (by simp only [look]; repeat rw [if_neg (by omega)]))
    ·rw [if_neg hg] at hr2
     simp -implicitDefEqProofs (maxDischargeDepth := 80) [neA, ltA, Kk, lb14_0, hjl, hye, hg, neE g2, neE hm1, neE hb9, hmb, hmb2, g3, g4, neC g3, neC g4, bS, w2]
     exact aL (j + 1, b8 m y.name, s2) ⟨by omega, hjl, hr2⟩ (by simp only; omega) (by simp) (by simp only [b8, bS]; exact aU (aN _) (by simp only [look]; repeat rw [if_neg (by omega)]))
   ·rw [List.drop_eq_nil_of_le (by omega)] at hr2
    unfold mV at hr2
    subst hr2
    have hx := yJ x.body
    unfold WC at hx
    simp only [aA] at hx
    simp -implicitDefEqProofs (maxDischargeDepth := 80) [neA, ltA, Kk, lb14_0, hjl, neE g2, neE hm1, neE hb9, hmb, hmb2, g3, g4, neC g3, neC g4, bS]
    refine aD (hx (mid := mid) (fid := 2) (b5 := 7) (pid := 6) (b4 := 4) (b1 := 0) (P := P) (pl := pl) (m := m) (s := s2) ?_ hplR hP hsx (fun n3 hn3 => ?_))
    ·constructor <;> first | omega | simp -implicitDefEqProofs (maxDischargeDepth := 80) [neA, ltA, Kk, neE g2, neE hm1, neE hb9, hmb, hmb2, g3, g4, neC g3, neC g4, bS]
    ·generalize jA P pl x.body m s2 = r3 at *
     simp -implicitDefEqProofs (maxDischargeDepth := 80) [neA, ltA, Kk, bZ, w1, neE g2, neE hm1, neE hb9, hmb, hmb2, g3, g4, neC g3, neC g4, bS]
     exact aL (i + 1, r3.2) ⟨by omega, hlt, hr⟩ (by simp only; omega) (by simp) (aU (aU (aN _) (by simp only [look]; repeat rw [if_neg (by omega)])) (by simp only [look]; repeat rw [if_neg (by omega)]))
  ·rw [List.drop_eq_nil_of_le (by omega)] at hr
   unfold jJ at hr
   subst hr
   simp -implicitDefEqProofs (maxDischargeDepth := 80) [neA, ltA, Kk, lb14_1, hlt]
def Rm (m : Sm) (N : List (List UInt8)) : Prop := ∀ n, cF m n = (N.count n : Int)
theorem uL : ∀ (N : List (List UInt8)) (n : List UInt8), aZ N n = true ↔ 0 < N.count n
 | [], n => by simp [aZ]
 | x :: xs, n => by
  unfold aZ
  rw [List.count_cons]
  by_cases h : x = n
  ·simp [h]
  ·rw [if_neg h, uL xs n]; simp [h]
theorem Rm.inc {m : Sm} {N : List (List UInt8)} (h : Rm m N) (hN : N.length < 2 ^ 62) (x : List UInt8) : Rm (b8 m x) (N ++ [x]) := fun n => by
 have hc := List.count_le_length (a := x) (l := N)
 unfold b8
 rw [pY, List.count_append, h x, bB (by omega) (by omega)]
 by_cases e : x = n
 ·subst e; simp
 ·rw [if_neg e, h n]
  simp [e]
theorem Rm.incs : ∀ (M : List (List UInt8)) {m : Sm} {N : List (List UInt8)}, Rm m N → N.length + M.length < 2 ^ 62 → Rm (M.foldl b8 m) (N ++ M)
 | [], m, N, h, _ => by simpa using h
 | x :: xs, m, N, h, hl => by
  simp only [List.length_cons] at hl
  have := Rm.incs xs (h.inc (by omega) x) (by simp only [List.length_append, List.length_cons, List.length_nil]; omega)
  simpa using this
theorem Rm.decs : ∀ (M : List (List UInt8)) {m : Sm} {N : List (List UInt8)}, Rm m (N ++ M) → N.length + M.length < 2 ^ 62 → Rm (M.foldl i6 m) N
 | [], m, N, h, _ => by simpa using h
 | x :: xs, m, N, h, hl => by
  simp only [List.length_cons] at hl
  refine Rm.decs xs (fun n => ?_) (by omega)
  have hx := h x
  rw [List.count_append, List.count_cons_self] at hx
  have hc := List.count_le_length (a := x) (l := N)
  have hc2 := List.count_le_length (a := x) (l := xs)
  unfold i6
  rw [pY, hx, bB (by omega) (by omega)]
  by_cases e : x = n
  ·subst e; rw [if_pos rfl, List.count_append]; omega
  ·rw [if_neg e, h n, List.count_append, List.count_append, List.count_cons_of_ne e]
theorem vA : Rm [] [] := fun n => by rw [pM]; simp
def FtIn (ms : List Mk) (a b : Nat) (l : List Ft) : Prop := ∀ x ∈ l, x.1 ≠ 0 ∧ placeIn ms a b x.2
theorem FtIn.app {ms : List Mk} {a b : Nat} {l k : List Ft} (h : FtIn ms a b l) (g : FtIn ms a b k) : FtIn ms a b (l ++ k) := fun x hx => (List.mem_append.1 hx).elim (h x) (g x)
theorem FtIn.mono {ms : List Mk} {a b c d : Nat} {l : List Ft} (h : FtIn ms a b l) (h1 : c ≤ a) (h2 : b ≤ d) : FtIn ms c d l := fun x hx => ⟨(h x hx).1, (h x hx).2.mono h1 h2⟩
theorem AI {ms : List Mk} : ∀ {l : List Fn} {a b : Nat}, Fns ms a l b → a ≤ b
 | [], a, b, h => h
 | f :: fs, a, b, h => by
  unfold Fns at h
  obtain ⟨c, hf, hs⟩ := h
  have := AI hs
  have := hf.lt
  omega
theorem qY {ms : List Mk} : ∀ (l : List Fn) (a b : Nat), Fns ms a l b → l.length ≤ b - a ∧ ∀ f ∈ l, size f.body ≤ b - a ∧ f.params.length ≤ b - a
 | [], a, b, _ => by simp
 | f :: fs, a, b, h => by
  unfold Fns at h
  obtain ⟨c, hf, hs⟩ := h
  have hcb : c ≤ b := AI hs
  obtain ⟨h1, h2⟩ := qY fs c b hs
  have := hf.lt; have := hf.len; have := hf.size
  refine ⟨by simp only [List.length_cons]; omega, fun g hg => ?_⟩
  rcases List.mem_cons.1 hg with rfl | hg
  ·exact ⟨by omega, by omega⟩
  ·have := h2 g hg; omega
def gtB (a b : ByteArray) : Bool := !(Op.bytesLess a.toList b.toList || a.toList == b.toList)
def gtT (a b : List UInt8) : Bool := gtB (ByteArray.mk (Array.mk a)) (ByteArray.mk (Array.mk b))
mutual
def fW : Ex → List (List UInt8)
 | .mk _ n tl _ _ args _ => ((if n = [] then [] else [n]) ++ (if tl = [] then [] else [tl])) ++ dT args
def dT : List Ex → List (List UInt8)
 | [] => []
 | x :: xs => fW x ++ dT xs
end
mutual
theorem kU : ∀ e : Ex, (fW e).length ≤ 2 * size e
 | .mk op n tl ty z args p => by
  have := nF args
  unfold fW size
  rw [List.length_append, List.length_append]
  split <;> split <;> simp <;> omega
theorem nF : ∀ l : List Ex, (dT l).length ≤ 2 * aW l
 | [] => by simp [dT]
 | x :: xs => by
  have h1 := kU x
  have h2 := nF xs
  unfold dT aW
  rw [List.length_append]; omega
end
def fN (s : List UInt8) : List (List UInt8) → Nat → List (List UInt8)
 | l, 0 => l.set 0 s
 | l, k + 1 => if gtT (l[k]?.getD []) s = true then fN s (l.set (k + 1) (l[k]?.getD [])) k else l.set (k + 1) s
def kX (out : List (List UInt8)) (s : List UInt8) : List (List UInt8) := fN s (out ++ [s]) out.length
def d_ : List (List UInt8) → List (List UInt8) → List (List UInt8)
 | [], out => out
 | x :: xs, out => d_ xs (if aZ out x = true then out else kX out x)
theorem sA (s : List UInt8) : ∀ (k : Nat) (l : List (List UInt8)), (fN s l k).length = l.length
 | 0, l => by simp [fN]
 | k + 1, l => by
  unfold fN
  split
  ·rw [sA s k]; simp
  ·simp
theorem DL (out : List (List UInt8)) (s : List UInt8) : (kX out s).length = out.length + 1 := by
 unfold kX; rw [sA]; simp
theorem uZ : ∀ (l out : List (List UInt8)), (d_ l out).length ≤ l.length + out.length
 | [], out => by simp [d_]
 | x :: xs, out => by
  unfold d_
  have := uZ xs (if aZ out x = true then out else kX out x)
  have h2 : (if aZ out x = true then out else kX out x).length ≤ out.length + 1 := by
   split
   ·omega
   ·rw [DL]; omega
  simp only [List.length_cons]; omega
theorem rW (s y : List UInt8) : ∀ (k : Nat) (l : List (List UInt8)), k < l.length → (y ∈ fN s l k ↔ y = s ∨ ∃ i, i ≠ k ∧ l[i]? = some y)
 | 0, l, h => by
  unfold fN
  rw [List.mem_iff_getElem?]
  constructor
  ·rintro ⟨i, hi⟩
   rw [List.getElem?_set] at hi
   by_cases e : 0 = i
   ·subst e
    rw [if_pos rfl, if_pos h] at hi
    left; simpa using hi.symm
   ·rw [if_neg e] at hi
    exact .inr ⟨i, by omega, hi⟩
  ·rintro (rfl | ⟨i, hi, h2⟩)
   ·exact ⟨0, by rw [List.getElem?_set, if_pos rfl, if_pos h]⟩
   ·exact ⟨i, by rw [List.getElem?_set, if_neg (by omega)]; exact h2⟩
 | k + 1, l, h => by
  unfold fN
  split
  ·rw [rW s y k _ (by simp; omega)]
   have hk : l[k]? = some (l[k]?.getD []) := by rw [List.getElem?_eq_getElem (by omega)]; rfl
   constructor
   ·rintro (rfl | ⟨i, hi, h2⟩)
    ·exact .inl rfl
    ·rw [List.getElem?_set] at h2
     by_cases e : k + 1 = i
     ·subst e
      rw [if_pos rfl, if_pos h] at h2
      exact .inr ⟨k, by omega, by rw [hk]; exact h2⟩
     ·rw [if_neg e] at h2
      exact .inr ⟨i, by omega, h2⟩
   ·rintro (rfl | ⟨i, hi, h2⟩)
    ·exact .inl rfl
    ·by_cases e : i = k
     ·subst e
      exact .inr ⟨i + 1, by omega, by rw [List.getElem?_set, if_pos rfl, if_pos h, ← hk]; exact h2⟩
     ·exact .inr ⟨i, e, by rw [List.getElem?_set, if_neg (by omega)]; exact h2⟩
  ·rw [List.mem_iff_getElem?]
   constructor
   ·rintro ⟨i, hi⟩
    rw [List.getElem?_set] at hi
    by_cases e : k + 1 = i
    ·subst e
     rw [if_pos rfl, if_pos h] at hi
     left; simpa using hi.symm
    ·rw [if_neg e] at hi
     exact .inr ⟨i, by omega, hi⟩
   ·rintro (rfl | ⟨i, hi, h2⟩)
    ·exact ⟨k + 1, by rw [List.getElem?_set, if_pos rfl, if_pos h]⟩
    ·exact ⟨i, by rw [List.getElem?_set, if_neg (by omega)]; exact h2⟩
theorem DN (out : List (List UInt8)) (s y : List UInt8) : y ∈ kX out s ↔ y = s ∨ y ∈ out := by
 unfold kX
 rw [rW s y _ _ (by simp), List.mem_iff_getElem?]
 constructor
 ·rintro (h | ⟨i, hi, h⟩)
  ·exact .inl h
  ·by_cases e : i < out.length
   ·rw [List.getElem?_append_left e] at h; exact .inr ⟨i, h⟩
   ·rw [List.getElem?_eq_none (by simp; omega)] at h; simp at h
 ·rintro (h | ⟨i, h⟩)
  ·exact .inl h
  ·have hi := (List.getElem?_eq_some_iff.1 h).1
   exact .inr ⟨i, by omega, by rw [List.getElem?_append_left hi]; exact h⟩
theorem eR : ∀ (l : List (List UInt8)) (n : List UInt8), aZ l n = true ↔ n ∈ l
 | [], n => by simp [aZ]
 | x :: xs, n => by
  unfold aZ
  split
  ·rename_i e; simp [e]
  ·rename_i e
   rw [eR xs n]
   have e2 : ¬ n = x := fun g => e g.symm
   simp [e2]
theorem mC (y : List UInt8) : ∀ (l out : List (List UInt8)), y ∈ d_ l out ↔ y ∈ l ∨ y ∈ out
 | [], out => by simp [d_]
 | x :: xs, out => by
  unfold d_
  rw [mC y xs]
  by_cases h : aZ out x = true
  ·rw [if_pos h]
   have := (eR out x).1 h
   constructor
   ·rintro (h | h)
    ·exact .inl (by simp [h])
    ·exact .inr h
   ·rintro (h | h)
    ·rcases List.mem_cons.1 h with rfl | h
     ·exact .inr this
     ·exact .inl h
    ·exact .inr h
  ·rw [if_neg h, DN, List.mem_cons]
   constructor
   ·rintro (h | h | h)
    ·exact .inl (.inr h)
    ·exact .inl (.inl h)
    ·exact .inr h
   ·rintro ((h | h) | h)
    ·exact .inr (.inl h)
    ·exact .inl h
    ·exact .inr (.inr h)
def allN (f : Fn) : List (List UInt8) := (f.name :: f.params.map Pm.name) ++ fW f.body
def aS : List Sn → List (List UInt8)
 | [] => []
 | s :: r => (if s.2 = true then [s.1.name] else []) ++ aS r
theorem cK : ∀ (a b : List Sn), aS (a ++ b) = aS a ++ aS b
 | [], b => rfl
 | x :: xs, b => by
  show _ ++ aS (xs ++ b) = _ ++ aS xs ++ aS b
  rw [cK xs b, List.append_assoc]
theorem fH : ∀ (a : List Sn), (aS a).length ≤ a.length
 | [] => by simp [aS]
 | x :: xs => by
  have := fH xs
  unfold aS
  rw [List.length_append]
  split <;> simp <;> omega
def Nd (c : Sm) : Prop := (c.map Prod.fst).Nodup
theorem pT : ∀ (c : Sm) (n : List UInt8) (v : Int), (dU c n v).map Prod.fst = if n ∈ c.map Prod.fst then c.map Prod.fst else c.map Prod.fst ++ [n]
 | [], n, v => by simp [dU]
 | p :: c, n, v => by
  unfold dU
  by_cases h : p.1 = n
  ·simp [h]
  ·rw [if_neg h]
   have h2 : ¬ n = p.1 := fun e => h e.symm
   simp only [List.map_cons, pT c n v, List.mem_cons, h2, false_or]
   split <;> simp
theorem Nd.put {c : Sm} (h : Nd c) (n : List UInt8) (v : Int) : Nd (dU c n v) := by
 unfold Nd at h ⊢
 rw [pT]
 split
 ·exact h
 ·rename_i g
  rw [List.nodup_append]
  exact ⟨h, by simp, fun a ha b hb e => by simp at hb; subst hb; subst e; exact g ha⟩
theorem EH (c : Sm) (n x : List UInt8) (v : Int) : x ∈ (dU c n v).map Prod.fst ↔ x = n ∨ x ∈ c.map Prod.fst := by
 rw [pT]
 split
 ·rename_i g
  constructor
  ·exact .inr
  ·rintro (rfl | h)
   ·exact g
   ·exact h
 ·rw [List.mem_append]; simp [or_comm]
structure Cn (c : Sm) (L : List (List UInt8)) : Prop where
 nd : Nd c
 cnt : Rm c L
 mem : ∀ x, x ∈ c.map Prod.fst ↔ x ∈ L
theorem Cn.nil : Cn [] [] := ⟨by simp [Nd], vA, by simp⟩
theorem Cn.inc {c : Sm} {L : List (List UInt8)} (h : Cn c L) (hl : L.length < 2 ^ 62) (n : List UInt8) : Cn (b8 c n) (L ++ [n]) :=
 ⟨h.nd.put _ _, h.cnt.inc hl n, fun x => by unfold b8; rw [EH, h.mem, List.mem_append]; simp [or_comm]⟩
mutual
theorem vE : ∀ (e : Ex) (m c : Sm) (N L : List (List UInt8)), Rm m N → Cn c L → N.length + 2 * size e < 2 ^ 60 → L.length + size e < 2 ^ 60 →
  Rm (cC gZ e m c).1 N ∧ Cn (cC gZ e m c).2 (L ++ aS (bN e N))
 | .mk op n t ty z args p, m, c, N, L, hm, hc, hN, hL => by
  simp only [size] at hN hL
  unfold cC bN
  rw [cK, ← List.append_assoc]
  have hg : (cF m n = 0) ↔ aZ N n = false := by
   rw [hm n]
   have := uL N n
   cases hh : aZ N n with
   | true =>
    have := this.1 hh
    exact ⟨fun k => by omega, fun k => by simp at k⟩
   | false =>
    refine ⟨fun _ => rfl, fun _ => ?_⟩
    rw [hh] at this
    have h0 : ¬ 0 < N.count n := fun g => by simpa using this.2 g
    omega
  have hv : Cn (gZ (.mk op n t ty z args p) m c) (L ++ aS (if op = 6 ∨ op = 7 then [(.mk op n t ty z args p, op = 6 && !aZ N n)] else [])) := by
   show Cn (if op = 6 ∧ cF m n = 0 then b8 c n else c) _
   by_cases h6 : op = 6
   ·by_cases g : aZ N n = false
    ·rw [if_pos (show op = 6 ∧ cF m n = 0 from ⟨h6, hg.2 g⟩)]
     simpa [aS, h6, g, Ex.name] using hc.inc (by omega) n
    ·rw [if_neg (show ¬ (op = 6 ∧ cF m n = 0) from fun k => g (hg.1 k.2))]
     have g' : aZ N n = true := by simpa using g
     simpa [aS, h6, g', Ex.name] using hc
   ·rw [if_neg (show ¬ (op = 6 ∧ cF m n = 0) from fun k => h6 k.1)]
    by_cases h7 : op = 7
    ·simpa [aS, h6, h7] using hc
    ·simpa [aS, h6, h7] using hc
  have hll : (L ++ aS (if op = 6 ∨ op = 7 then [(Ex.mk op n t ty z args p, op = 6 && !aZ N n)] else [])).length ≤ L.length + 1 := by
   rw [List.length_append]
   have := fH (if op = 6 ∨ op = 7 then [(Ex.mk op n t ty z args p, op = 6 && !aZ N n)] else [])
   have h2 : (if op = 6 ∨ op = 7 then [(Ex.mk op n t ty z args p, op = 6 && !aZ N n)] else []).length ≤ 1 := by split <;> simp
   omega
  exact sG op n t 0 args m _ N _ hm hv (by omega) (by omega)
theorem sG (op : Int) (n t : List UInt8) (i : Nat) : ∀ (l : List Ex) (m c : Sm) (N L : List (List UInt8)), Rm m N → Cn c L → N.length + 2 + 2 * aW l < 2 ^ 60 → L.length + aW l < 2 ^ 60 →
  Rm (dA gZ op n t i l m c).1 N ∧ Cn (dA gZ op n t i l m c).2 (L ++ aS (cI op n t i l N))
 | [], m, c, N, L, hm, hc, _, _ => by
  unfold dA cI
  exact ⟨hm, by simpa [aS] using hc⟩
 | x :: xs, m, c, N, L, hm, hc, hN, hL => by
  have hb := kK op n t i
  simp only [aW] at hN hL
  have hs1 : 1 ≤ size x := by cases x; simp only [size]; omega
  have h1 := vE x _ c (N ++ aJ op n t i) L (Rm.incs (aJ op n t i) hm (by omega)) hc (by rw [List.length_append]; omega) (by omega)
  have hl1 := fH (bN x (N ++ aJ op n t i))
  have hl2 := gL x (N ++ aJ op n t i)
  have h2 := sG op n t (i + 1) xs _ _ N _ (Rm.decs (aJ op n t i) h1.1 (by omega)) h1.2 (by omega) (by rw [List.length_append]; omega)
  unfold dA cI
  rw [cK, ← List.append_assoc]
  exact h2
end
def nmL (l : List (List UInt8)) : List (List UInt8) := l.filter (fun s => decide (s ≠ []))
theorem Cn.adds : ∀ (l : List (List UInt8)) {c : Sm} {L : List (List UInt8)}, Cn c L → L.length + l.length < 2 ^ 62 → Cn (l.foldl mG c) (L ++ nmL l)
 | [], c, L, h, _ => by simpa [nmL] using h
 | s :: l, c, L, h, hl => by
  simp only [List.length_cons] at hl
  simp only [List.foldl_cons]
  by_cases e : s = []
  ·rw [show mG c s = c by unfold mG; rw [if_pos e]]
   have := Cn.adds l h (by omega)
   simpa [nmL, e] using this
  ·rw [show mG c s = b8 c s by unfold mG; rw [if_neg e]]
   have := Cn.adds l (h.inc (by omega) s) (by rw [List.length_append]; simp; omega)
   simpa [nmL, e] using this
mutual
theorem uR : ∀ (e : Ex) (m c : Sm) (N L : List (List UInt8)), Rm m N → Cn c L → N.length + 2 * size e < 2 ^ 60 → L.length + 2 * size e < 2 ^ 60 →
  Rm (cC eY e m c).1 N ∧ Cn (cC eY e m c).2 (L ++ fW e)
 | .mk op n t ty z args p, m, c, N, L, hm, hc, hN, hL => by
  simp only [size] at hN hL
  unfold cC fW
  rw [← List.append_assoc]
  have hv : Cn (eY (.mk op n t ty z args p) m c) (L ++ ((if n = [] then [] else [n]) ++ (if t = [] then [] else [t]))) := by
   have h := Cn.adds [n, t] hc (by simp; omega)
   have e : nmL [n, t] = (if n = [] then [] else [n]) ++ (if t = [] then [] else [t]) := by
    unfold nmL
    by_cases h1 : n = [] <;> by_cases h2 : t = [] <;> simp [h1, h2]
   rw [e] at h
   exact h
  have hll : (L ++ ((if n = [] then [] else [n]) ++ (if t = [] then [] else [t]))).length ≤ L.length + 2 := by
   rw [List.length_append, List.length_append]
   split <;> split <;> simp
  exact tB op n t 0 args m _ N _ hm hv (by omega) (by omega)
theorem tB (op : Int) (n t : List UInt8) (i : Nat) : ∀ (l : List Ex) (m c : Sm) (N L : List (List UInt8)), Rm m N → Cn c L → N.length + 2 + 2 * aW l < 2 ^ 60 → L.length + 2 * aW l < 2 ^ 60 →
  Rm (dA eY op n t i l m c).1 N ∧ Cn (dA eY op n t i l m c).2 (L ++ dT l)
 | [], m, c, N, L, hm, hc, _, _ => by
  unfold dA dT
  exact ⟨hm, by simpa using hc⟩
 | x :: xs, m, c, N, L, hm, hc, hN, hL => by
  have hb := kK op n t i
  simp only [aW] at hN hL
  have hs1 : 1 ≤ size x := by cases x; simp only [size]; omega
  have h1 := uR x _ c (N ++ aJ op n t i) L (Rm.incs (aJ op n t i) hm (by omega)) hc (by rw [List.length_append]; omega) (by omega)
  have hl1 := kU x
  have h2 := tB op n t (i + 1) xs _ _ N _ (Rm.decs (aJ op n t i) h1.1 (by omega)) h1.2 (by omega) (by rw [List.length_append]; omega)
  unfold dA dT
  rw [← List.append_assoc]
  exact h2
end
theorem vY (a b : List UInt8) : gtT a b = true ↔ ¬ (a < b ∨ a = b) := by
 have e : ∀ l : List UInt8, (ByteArray.mk (Array.mk l)).toList = l := fun l => by simp
 unfold gtT gtB
 rw [e, e, bytesLess_eq]
 simp
theorem gtT_le {a b : List UInt8} (h : gtT a b = true) : b ≤ a := by
 rw [vY] at h
 exact List.not_lt.1 fun g => h (.inl g)
theorem D1 {a b : List UInt8} (h : ¬ gtT a b = true) : a ≤ b := by
 rw [vY] at h
 have h : a < b ∨ a = b := Decidable.byContradiction h
 rcases h with h | h
 ·exact List.le_of_lt h
 ·rw [h]; exact List.le_refl b
theorem oZ (s : List UInt8) (out : List (List UInt8)) : ∀ (k : Nat) (x : List UInt8), k ≤ out.length → ∃ j, j ≤ k ∧ fN s (out.take k ++ x :: out.drop k) k = out.take j ++ s :: out.drop j ∧ (∀ i y, j ≤ i → i < k → out[i]? = some y → s ≤ y) ∧ (∀ y, 0 < j → out[j - 1]? = some y → y ≤ s)
 | 0, x, _ => ⟨0, Nat.le_refl _, by simp [fN], fun i y h1 h2 => by omega, fun y h => by omega⟩
 | k + 1, x, h => by
  have hk : k < out.length := by omega
  have htl : (out.take (k + 1)).length = k + 1 := by rw [List.length_take]; omega
  have hl : (out.take (k + 1) ++ x :: out.drop (k + 1))[k]? = some out[k] := by
   rw [List.getElem?_append_left (by omega), List.getElem?_take, if_pos (by omega), List.getElem?_eq_getElem hk]
  have hset : ∀ z, (out.take (k + 1) ++ x :: out.drop (k + 1)).set (k + 1) z = out.take (k + 1) ++ z :: out.drop (k + 1) := fun z => by
   rw [List.set_append_right _ _ (by omega), htl, Nat.sub_self, List.set_cons_zero]
  unfold fN
  rw [hl]
  simp only [Option.getD_some]
  by_cases g : gtT out[k] s = true
  ·rw [if_pos g, hset]
   have e : out.take (k + 1) ++ out[k] :: out.drop (k + 1) = out.take k ++ out[k] :: out.drop k := by
    rw [List.drop_eq_getElem_cons hk, List.take_add_one, List.getElem?_eq_getElem hk, List.append_assoc]; rfl
   rw [e]
   obtain ⟨j, h1, h2, h3, h4⟩ := oZ s out k out[k] (by omega)
   refine ⟨j, by omega, h2, fun i y hi hi2 hy => ?_, h4⟩
   by_cases e2 : i = k
   ·subst e2
    rw [List.getElem?_eq_getElem hk, Option.some.injEq] at hy
    subst hy; exact gtT_le g
   ·exact h3 i y hi (by omega) hy
  ·rw [if_neg g, hset]
   refine ⟨k + 1, Nat.le_refl _, rfl, fun i y h1 h2 => by omega, fun y _ hy => ?_⟩
   rw [Nat.add_sub_cancel, List.getElem?_eq_getElem hk, Option.some.injEq] at hy
   subst hy; exact D1 g
abbrev Srt (l : List (List UInt8)) : Prop := l.Pairwise (fun a b => a ≤ b)
theorem zJ (out : List (List UInt8)) (s : List UInt8) : ∃ j, kX out s = out.take j ++ s :: out.drop j ∧ (Srt out → Srt (kX out s)) := by
 obtain ⟨j, h1, h2, h3, h4⟩ := oZ s out out.length s (Nat.le_refl _)
 rw [List.take_length, List.drop_length] at h2
 have hi : kX out s = out.take j ++ s :: out.drop j := h2
 refine ⟨j, hi, fun hs => ?_⟩
 rw [hi]
 have hs2 : Srt (out.take j ++ out.drop j) := by rw [List.take_append_drop]; exact hs
 obtain ⟨a1, a2, a3⟩ := List.pairwise_append.1 hs2
 have hlow : ∀ a ∈ out.take j, a ≤ s := fun a ha => by
  obtain ⟨i, hi2⟩ := List.mem_iff_getElem?.1 ha
  rw [List.getElem?_take] at hi2
  split at hi2
  ·rename_i hij
   obtain ⟨y, hy⟩ : ∃ y, out[j - 1]? = some y := by
    have : j - 1 < out.length := by omega
    exact ⟨_, List.getElem?_eq_getElem this⟩
   have hy2 := h4 y (by omega) hy
   by_cases e : i = j - 1
   ·subst e; rw [hy, Option.some.injEq] at hi2; subst hi2; exact hy2
   ·have hlt : i < j - 1 := by omega
    have hil := (List.getElem?_eq_some_iff.1 hi2)
    have hjl := (List.getElem?_eq_some_iff.1 hy)
    obtain ⟨b1, b2⟩ := hil
    obtain ⟨c1, c2⟩ := hjl
    have := List.pairwise_iff_getElem.1 hs i (j - 1) b1 c1 hlt
    rw [b2, c2] at this
    exact List.le_trans this hy2
  ·simp at hi2
 have hhigh : ∀ a ∈ out.drop j, s ≤ a := fun a ha => by
  obtain ⟨i, hi2⟩ := List.mem_iff_getElem?.1 ha
  rw [List.getElem?_drop] at hi2
  exact h3 (j + i) a (by omega) (List.getElem?_eq_some_iff.1 hi2).1 hi2
 refine List.pairwise_append.2 ⟨a1, List.pairwise_cons.2 ⟨hhigh, a2⟩, fun a ha b hb => ?_⟩
 rcases List.mem_cons.1 hb with rfl | hb
 ·exact hlow a ha
 ·exact a3 a ha b hb
theorem j0 : ∀ (l out : List (List UInt8)), Srt out → out.Nodup → Srt (d_ l out) ∧ (d_ l out).Nodup
 | [], out, h, k => ⟨h, k⟩
 | x :: xs, out, h, k => by
  unfold d_
  by_cases g : aZ out x = true
  ·rw [if_pos g]; exact j0 xs out h k
  ·rw [if_neg g]
   obtain ⟨j, h1, h2⟩ := zJ out x
   refine j0 xs _ (h2 h) ?_
   have hn : x ∉ out := fun m => g ((eR out x).2 m)
   have hp : (out.take j ++ x :: out.drop j).Perm (x :: out) := by
    have := List.perm_middle (a := x) (l₁ := out.take j) (l₂ := out.drop j)
    rw [List.take_append_drop] at this; exact this
   rw [h1]
   exact hp.symm.nodup (List.nodup_cons.2 ⟨hn, k⟩)
theorem AN {a b : List (List UInt8)} (ha : Srt a) (hb : Srt b) (na : a.Nodup) (nb : b.Nodup) (h : ∀ x, x ∈ a ↔ x ∈ b) : a = b :=
 List.Perm.eq_of_pairwise (le := fun a b => a ≤ b) (fun a b _ _ h1 h2 => List.le_antisymm h1 h2) ha hb ((List.perm_ext_iff_of_nodup na nb).2 h)
theorem sW {c : Sm} {L : List (List UInt8)} (h : Cn c L) : ((c.map Prod.fst).mergeSort fun x y => decide (x ≤ y)) = d_ L [] := by
 obtain ⟨h1, h2⟩ := j0 L [] (by simp) (by simp)
 have hp := List.mergeSort_perm (c.map Prod.fst) (fun x y => decide (x ≤ y))
 have tr : ∀ a b c : List UInt8, decide (a ≤ b) = true → decide (b ≤ c) = true → decide (a ≤ c) = true := fun a b c h1 h2 => by simp only [decide_eq_true_eq] at *; exact List.le_trans h1 h2
 have to : ∀ a b : List UInt8, (decide (a ≤ b) || decide (b ≤ a)) = true := fun a b => by simp only [Bool.or_eq_true, decide_eq_true_eq]; exact List.le_total a b
 have hs : Srt ((c.map Prod.fst).mergeSort fun x y => decide (x ≤ y)) := by
  have := List.pairwise_mergeSort tr to (c.map Prod.fst)
  simpa using this
 refine AN hs h1 (hp.symm.nodup h.nd) h2 fun x => ?_
 rw [hp.mem_iff, h.mem, mC]
 simp
abbrev sB (n : List UInt8) : Prop := n.length ≤ 32768
mutual
/-- All names in it are short. -/
def Nb : Ex → Prop
 | .mk _ n t _ _ args _ => (sB n ∧ sB t) ∧ Nbs args
def Nbs : List Ex → Prop
 | [] => True
 | e :: es => Nb e ∧ Nbs es
end
def BMs (ms : List Mk) : Prop := ∀ m ∈ ms, sB m.text
theorem eV : sB [] := by simp [sB]
theorem tV {t : List UInt8} (h : sB t) (p n : Nat) : sB (seg t p n) := by
 unfold sB seg at *
 rw [List.length_drop, List.length_take]; omega
theorem sB_one {t : List UInt8} (h : sB t) (p : Nat) : sB (eD t p).1.text := by
 unfold eD
 split
 ·exact tV h _ _
 ·split
  ·exact tV h _ _
  ·split <;> exact tV h _ _
theorem lS : ∀ (f : Nat) (t : List UInt8) (p : Nat) (out : List Mk), sB t → BMs out → BMs (cL f t p out).1
 | 0, t, p, out, ht, h => by intro m hm; simp [cL] at hm
 | f + 1, t, p, out, ht, h => by
  have happ : ∀ m : Mk, sB m.text → BMs (out ++ [m]) := fun m hm x hx => by
   rw [List.mem_append, List.mem_singleton] at hx
   rcases hx with hx | rfl
   ·exact h x hx
   ·exact hm
  unfold cL
  split
  ·split
   ·exact lS f _ _ _ ht h
   ·split
    ·exact lS f _ _ _ ht h
    ·split
     ·exact lS f _ _ _ ht (happ _ (sB_one ht p))
     ·intro m hm; simp at hm
  ·exact happ _ eV
theorem yN {r : Rd} (h : BMs r.ms) : sB r.next.text := by
 unfold Rd.next
 by_cases hi : r.at' < r.ms.length
 ·rw [List.getElem?_eq_getElem hi]; exact h _ (List.getElem_mem hi)
 ·rw [List.getElem?_eq_none (by omega)]; exact eV
theorem nT {r : Rd} (h : BMs r.ms) : sB r.name.1.text := by
 unfold Rd.name
 split
 ·exact eV
 ·exact yN h
namespace Rd
theorem fail_ms {r : Rd} {w : Int} : (r.fail w).ms = r.ms := by unfold fail; split <;> rfl
theorem want_ms {r : Rd} {s : List UInt8} : (r.want s).ms = r.ms := by
 unfold want; split
 ·rfl
 ·exact fail_ms
theorem name_ms {r : Rd} : r.name.2.ms = r.ms := by
 unfold name; split
 ·exact fail_ms
 ·rfl
theorem typ_ms {r : Rd} : r.typ.2.ms = r.ms := by
 unfold typ
 split
 ·rfl
 ·split
  ·rfl
  ·split
   ·rfl
   ·exact fail_ms
end Rd
def Gr {α : Type} (p : α → Prop) (ms : List Mk) (o : Option (α × Rd)) : Prop := ∀ x, o = some x → p x.1 ∧ x.2.ms = ms
theorem dH {α : Type} {p : α → Prop} {ms : List Mk} : Gr p ms none := fun x h => by simp at h
theorem cJ {α : Type} {p : α → Prop} {ms : List Mk} {a : α} {q : Rd} (h : p a) (h2 : q.ms = ms) : Gr p ms (some (a, q)) := fun x hx => by
 simp only [Option.some.injEq] at hx
 subst hx
 exact ⟨h, h2⟩
theorem dW {α β : Type} {p : α → Prop} {p2 : β → Prop} {ms : List Mk} {o : Option (α × Rd)} {f : α × Rd → Option (β × Rd)} (h : Gr p ms o) (h2 : ∀ a q, p a → q.ms = ms → Gr p2 ms (f (a, q))) : Gr p2 ms (o.bind f) := fun x hx => by
 cases o with
 | none => simp at hx
 | some y => exact h2 y.1 y.2 (h y rfl).1 (h y rfl).2 x hx
theorem fI {α β : Type} {p : α → Prop} {p2 : β → Prop} {ms : List Mk} {o : Option (α × Rd)} {f : α × Rd → β × Rd} (h : Gr p ms o) (h2 : ∀ a q, p a → q.ms = ms → p2 (f (a, q)).1 ∧ (f (a, q)).2.ms = ms) : Gr p2 ms (o.map f) := fun x hx => by
 cases o with
 | none => simp at hx
 | some y =>
  simp only [Option.map_some, Option.some.injEq] at hx
  subst hx
  exact h2 y.1 y.2 (h y rfl).1 (h y rfl).2
theorem wU : ∀ {l k : List Ex}, Nbs l → Nbs k → Nbs (l ++ k)
 | [], _, _, h => h
 | e :: es, k, h, g => by
  unfold Nbs at h
  show Nbs (e :: (es ++ k))
  unfold Nbs
  exact ⟨h.1, wU h.2 g⟩
theorem oU {e : Ex} (h : Nb e) : Nbs [e] := by unfold Nbs Nbs; exact ⟨h, trivial⟩
theorem vF {op : Int} {a b : Ex} {m : Mk} (ha : Nb a) (hb : Nb b) : Nb (two op a b m) := by
 unfold two Nb Nbs
 exact ⟨⟨eV, eV⟩, ha, oU hb⟩
theorem kR {op ty p : Int} {n t : List UInt8} {z : Cx} {l : List Ex} (hn : sB n) (ht : sB t) (h : Nbs l) : Nb (.mk op n t ty z l p) := by
 unfold Nb; exact ⟨⟨hn, ht⟩, h⟩
theorem lD {op ty p : Int} {z : Cx} {l : List Ex} (h : Nbs l) : Nb (.mk op [] [] ty z l p) := kR eV eV h
theorem iA : Nbs [] := by unfold Nbs; trivial
theorem Nb_0 : Nb ex0 := lD iA
structure Bnd (n : Nat) (ms : List Mk) : Prop where
 expr : ∀ r, r.ms = ms → Gr Nb ms (aX n r)
 cons : ∀ r, r.ms = ms → Gr Nb ms (eG n r)
 comp : ∀ r, r.ms = ms → Gr Nb ms (eF n r)
 sum : ∀ r, r.ms = ms → Gr Nb ms (fG n r)
 sumL : ∀ a r, Nb a → r.ms = ms → Gr Nb ms (eC n a r)
 term : ∀ r, r.ms = ms → Gr Nb ms (cO n r)
 termL : ∀ a r, Nb a → r.ms = ms → Gr Nb ms (dD n a r)
 unit : ∀ r, r.ms = ms → Gr Nb ms (cN n r)
 named : ∀ m r, sB m.text → r.ms = ms → Gr Nb ms (eA n m r)
 namedL : ∀ l r, Nbs l → r.ms = ms → Gr Nbs ms (cR n l r)
 parts : ∀ ss r, r.ms = ms → Gr Nbs ms (bH n ss r)
 branches : ∀ r p, r.ms = ms → Gr Nb ms (cH n r p)
theorem v7 {ms : List Mk} (hms : BMs ms) : ∀ n, Bnd n ms
 | 0 => ⟨fun _ _ => by unfold aX; exact dH, fun _ _ => by unfold eG; exact dH, fun _ _ => by unfold eF; exact dH, fun _ _ => by unfold fG; exact dH, fun _ _ _ _ => by unfold eC; exact dH, fun _ _ => by unfold cO; exact dH, fun _ _ _ _ => by unfold dD; exact dH, fun _ _ => by unfold cN; exact dH, fun _ _ _ _ => by unfold eA; exact dH, fun _ _ _ _ => by unfold cR; exact dH, fun ss _ _ => by cases ss <;> (unfold bH; exact dH), fun _ _ _ => by unfold cH; exact dH⟩
 | n + 1 => by
  have ih := v7 hms n
  have two' : ∀ {op : Int} {a b : Ex} {m : Mk} {q : Rd}, Nb a → Nb b → q.ms = ms → Nb (two op a b m, q).1 ∧ (two op a b m, q).2.ms = ms := fun ha hb hq => ⟨vF ha hb, hq⟩
  refine ⟨fun r hr => ?_, fun r hr => ?_, fun r hr => ?_, fun r hr => ?_, fun a r ha hr => ?_, fun r hr => ?_, fun a r ha hr => ?_, fun r hr => ?_, fun m r hm hr => ?_, fun l r hl hr => ?_, fun ss r hr => ?_, fun r p hr => ?_⟩
  ·unfold aX
   have h1 : (if (binds r && decide (r.lN ≤ r.nest)) = true then r.fail 23 else r).ms = ms := by
    split
    ·rw [Rd.fail_ms]; exact hr
    ·exact hr
   dsimp only
   generalize (if (binds r && decide (r.lN ≤ r.nest)) = true then r.fail 23 else r) = r1 at *
   have h2 : (if binds r = true then { r1 with nest := r1.nest + 1 } else r1).adv.ms = ms := by
    split <;> exact h1
   generalize (if binds r = true then { r1 with nest := r1.nest + 1 } else r1).adv = r2 at *
   split
   ·exact cJ Nb_0 h1
   ·split
    ·exact ih.cons _ h1
    ·refine fI (p := Nb) ?_ (fun e q he hq => ⟨he, by dsimp only; split <;> exact hq⟩)
     split
     ·exact fI (ih.parts _ _ h2) (fun l q hl hq => ⟨lD hl, hq⟩)
     ·split
      ·exact ih.branches _ _ h2
      ·exact fI (ih.parts _ _ (by rw [Rd.typ_ms, Rd.name_ms]; exact h2)) (fun l q hl hq => ⟨kR (nT (by rw [h2]; exact hms)) eV hl, hq⟩)
  ·unfold eG
   refine dW (ih.comp r hr) (fun a q ha hq => ?_)
   dsimp only
   split
   ·exact fI (ih.cons _ hq) (fun b q2 hb hq2 => two' ha hb hq2)
   ·exact cJ ha hq
  ·unfold eF
   refine dW (ih.sum r hr) (fun a q ha hq => ?_)
   dsimp only
   split
   ·exact fI (ih.sum _ hq) (fun b q2 hb hq2 => two' ha hb hq2)
   ·exact cJ ha hq
  ·unfold fG
   exact dW (ih.term r hr) (fun a q ha hq => ih.sumL _ _ ha hq)
  ·unfold eC
   split
   ·exact dW (ih.term _ hr) (fun b q hb hq => ih.sumL _ _ (vF ha hb) hq)
   ·exact cJ ha hr
  ·unfold cO
   exact dW (ih.unit r hr) (fun a q ha hq => ih.termL _ _ ha hq)
  ·unfold dD
   split
   ·exact dW (ih.unit _ hr) (fun b q hb hq => ih.termL _ _ (vF ha hb) hq)
   ·exact cJ ha hr
  ·unfold cN
   split
   ·exact cJ Nb_0 hr
   ·split
    ·exact cJ (lD iA) hr
    ·split
     ·exact ih.named _ _ (yN (by rw [hr]; exact hms)) hr
     ·split
      ·exact fI (ih.expr _ hr) (fun e q he hq => ⟨he, by rw [Rd.want_ms]; exact hq⟩)
      ·split
       ·exact cJ Nb_0 (by rw [Rd.fail_ms]; exact hr)
       ·split
        ·exact cJ (lD iA) (by rw [Rd.typ_ms]; exact hr)
        ·split
         ·exact fI (ih.expr _ (by rw [Rd.want_ms]; exact hr)) (fun e q he hq => ⟨lD (oU he), by rw [Rd.want_ms]; exact hq⟩)
         ·exact cJ (lD iA) hr
  ·unfold eA
   split
   ·exact fI (ih.namedL _ _ iA hr) (fun l q hl hq => ⟨kR hm eV hl, by rw [Rd.want_ms]; exact hq⟩)
   ·exact cJ (kR hm eV iA) hr
  ·unfold cR
   split
   ·refine dW (ih.expr _ ?_) (fun x q hx hq => ih.namedL _ _ (wU hl (oU hx)) hq)
    split
    ·exact hr
    ·rw [Rd.want_ms]; exact hr
   ·exact cJ hl hr
  ·cases ss with
   | nil => unfold bH; exact cJ iA hr
   | cons s ss =>
    unfold bH
    refine dW (ih.expr _ ?_) (fun x q hx hq => fI (ih.parts _ _ hq) (fun l q2 hl hq2 => ⟨?_, hq2⟩))
    ·split
     ·exact hr
     ·rw [Rd.want_ms]; exact hr
    ·dsimp only; unfold Nbs; exact ⟨hx, hl⟩
  ·unfold cH
   refine dW (ih.expr r hr) (fun x q hx hq => dW (ih.expr _ (by rw [Rd.want_ms, Rd.want_ms, Rd.want_ms]; exact hq)) (fun a q2 ha hq2 => ?_))
   dsimp only
   refine fI (ih.expr _ (by rw [Rd.want_ms, Rd.name_ms, Rd.want_ms, Rd.name_ms, Rd.want_ms]; exact hq2)) (fun b q3 hb hq3 => ⟨kR (nT (by rw [Rd.want_ms, hq2]; exact hms)) (nT (by rw [Rd.want_ms, Rd.name_ms, Rd.want_ms, hq2]; exact hms)) ?_, hq3⟩)
   unfold Nbs Nbs
   exact ⟨hx, ha, oU hb⟩
theorem uD {ms : List Mk} (hms : BMs ms) : ∀ n l r, (∀ p ∈ l, sB p.name) → r.ms = ms → Gr (fun ps => ∀ p ∈ ps, sB p.name) ms (b_ n l r)
 | 0, l, r, hl, h => by unfold b_; exact dH
 | n + 1, l, r, hl, h => by
  have hpw : (pf (pw r l) l).ms = ms := by
   unfold pf pw
   repeat' split
   all_goals first | exact h | (simp only [Rd.fail_ms, Rd.want_ms]; exact h)
  unfold b_
  split
  ·refine uD hms n _ _ (fun p hp => ?_) ?_
   ·rw [List.mem_append, List.mem_singleton] at hp
    rcases hp with hp | rfl
    ·exact hl p hp
    ·exact nT (by rw [hpw]; exact hms)
   ·rw [Rd.typ_ms, Rd.name_ms]; exact hpw
  ·exact cJ hl h
structure NbFn (f : Fn) : Prop where
 name : sB f.name
 pars : ∀ p ∈ f.params, sB p.name
 body : Nb f.body
theorem def_b {ms : List Mk} (hms : BMs ms) {n : Nat} {r : Rd} {c : Nat} (h : r.ms = ms) : Gr NbFn ms (i8 n r c) := by
 have hdf : (df r c).ms = ms := by
  unfold df
  split
  ·rw [Rd.fail_ms]; exact h
  ·exact h
 unfold i8
 refine dW (uD hms n _ _ (fun p hp => by simp at hp) (by rw [Rd.want_ms, Rd.name_ms]; exact hdf)) (fun ps q hps hq => fI ((v7 hms n).expr _ (by rw [Rd.want_ms, Rd.typ_ms, Rd.want_ms, Rd.want_ms]; exact hq)) (fun b q2 hb hq2 => ⟨⟨nT (by rw [hdf]; exact hms), hps, hb⟩, by rw [Rd.want_ms]; exact hq2⟩))
def NbF (L : List Fn) : Prop := ∀ f ∈ L, NbFn f
theorem zW {ms : List Mk} (hms : BMs ms) : ∀ n l r, NbF l → r.ms = ms → Gr NbF ms (cU n l r)
 | 0, l, r, hl, h => by unfold cU; exact dH
 | n + 1, l, r, hl, h => by
  unfold cU
  split
  ·refine dW (def_b hms h) (fun f q hf hq => zW hms n _ _ (fun g hg => ?_) hq)
   rw [List.mem_append, List.mem_singleton] at hg
   rcases hg with hg | rfl
   ·exact hl g hg
   ·exact hf
  ·exact cJ hl h
def Run (t : List UInt8) (L : List Fn) : Prop := L = [] ∨ ∃ n r q, cU n [] r = some (L, q) ∧ r.ms = (cG t).1 ∧ t.length ≤ 32768
theorem BC (t : List UInt8) (ht : t.length < 2 ^ 48) : ∃ L w p, lK t L w p ∧ Run t L := by
 by_cases h1 : 32768 < t.length
 ·exact ⟨[], 22, 32768, ⟨AE t ht h1, fun h => absurd h (by decide), fun _ => rfl⟩, .inl rfl⟩
 ·by_cases h2 : (cG t).2 < 0
  ·have hk := uJ (t := t) (lt := 32768) (lF := 32768) (lA := 32768) (lN := 32768) (by omega) h2 (by decide)
   obtain ⟨L, q, hq, kq⟩ := AD hk
   have hc := tU t (by omega) h2 (by decide) hq
   by_cases h3 : q.why = 0
   ·rw [if_pos h3] at hc
    have hrun : Run t L := .inr ⟨_, _, q, hq, rfl, by omega⟩
    obtain ⟨g1, g2, k, g3, g4, g5⟩ := tD _ _ _ L q hq h3
    simp only [List.nil_append] at g3
    subst g3
    refine ⟨L, 0, 0, ⟨hc, fun _ => ⟨(cG t).1, 0, q.at', hk.ms, hk.len, ?_, ?_, g4, g5 rfl⟩, fun h => absurd rfl h⟩, hrun⟩
    ·exact eZ _ t 0 [] (by omega) (fun i j _ h => by simp at h) (fun i h => by simp at h) h2
    ·have := kq.lt
     rw [g2] at this; exact this
   ·rw [if_neg h3] at hc
    exact ⟨[], q.why, q.wh, ⟨hc, fun h => absurd h h3, fun _ => rfl⟩, .inl rfl⟩
  ·have hc := yL t (by omega) h2
   refine ⟨[], 20, (cG t).2, ⟨hc, fun h => absurd h (by decide), fun _ => rfl⟩, .inl rfl⟩
theorem Run.nb {t : List UInt8} {L : List Fn} (h : Run t L) : NbF L := by
 rcases h with rfl | ⟨n, r, q, h, hr, ht⟩
 ·exact fun f hf => by simp at hf
 ·exact (zW (ms := (cG t).1) (lS _ t 0 [] ht (fun m hm => by simp at hm)) _ _ _ (fun f hf => by simp at hf) hr _ h).1
open Go Go.Fx Go.Proofs Go.Fx.Flt
mutual
theorem y9 : ∀ (e : Ex) (N : List (List UInt8)), Nb e → ∀ x ∈ aS (bN e N), sB x
 | .mk op n t ty z args p, N, h => by
  unfold Nb at h
  unfold bN
  rw [cK]
  intro x hx
  rcases List.mem_append.1 hx with hx | hx
  ·split at hx
   ·unfold aS at hx
    split at hx
    ·simp only [aS, List.append_nil, List.mem_singleton, Ex.name] at hx
     rw [hx]; exact h.1.1
    ·simp [aS] at hx
   ·simp [aS] at hx
  ·exact wS op n t 0 args N h.2 x hx
theorem wS (op : Int) (n t : List UInt8) (i : Nat) : ∀ (l : List Ex) (N : List (List UInt8)), Nbs l → ∀ x ∈ aS (cI op n t i l N), sB x
 | [], N, _ => by intro x hx; simp [cI, aS] at hx
 | e :: es, N, h => by
  unfold Nbs at h
  unfold cI
  rw [cK]
  intro x hx
  rcases List.mem_append.1 hx with hx | hx
  ·exact y9 e _ h.1 x hx
  ·exact wS op n t (i + 1) es N h.2 x hx
end
mutual
theorem uH : ∀ (e : Ex), Nb e → ∀ x ∈ fW e, sB x
 | .mk op n t ty z args p, h => by
  unfold Nb at h
  unfold fW
  intro x hx
  rcases List.mem_append.1 hx with hx | hx
  ·rcases List.mem_append.1 hx with hx | hx
   ·split at hx
    ·simp at hx
    ·simp only [List.mem_singleton] at hx; rw [hx]; exact h.1.1
   ·split at hx
    ·simp at hx
    ·simp only [List.mem_singleton] at hx; rw [hx]; exact h.1.2
  ·exact sI args h.2 x hx
theorem sI : ∀ (l : List Ex), Nbs l → ∀ x ∈ dT l, sB x
 | [], _ => by intro x hx; simp [dT] at hx
 | e :: es, h => by
  unfold Nbs at h
  unfold dT
  intro x hx
  rcases List.mem_append.1 hx with hx | hx
  ·exact uH e h.1 x hx
  ·exact sI es h.2 x hx
end
def qG (e : Ex) : Sm := (cC gZ e [] []).2
theorem uB (e : Ex) (hz : size e ≤ 2 ^ 40) : Cn (qG e) (aS (bN e [])) := by
 have h := (vE e [] [] [] [] vA Cn.nil (by simp; omega) (by simp; omega)).2
 rw [List.nil_append] at h
 exact h
theorem gO : ∀ (a b : List (List UInt8)), a.Nodup → (∀ x ∈ a, x ∈ b) → a.length ≤ b.length
 | [], b, _, _ => by simp
 | x :: xs, b, h, hs => by
  obtain ⟨h1, h2⟩ := List.nodup_cons.1 h
  have hx : x ∈ b := hs x (by simp)
  have := gO xs (b.erase x) h2 (fun y hy => (List.mem_erase_of_ne (fun e : y = x => h1 (e ▸ hy))).2 (hs y (by simp [hy])))
  rw [List.length_erase_of_mem hx] at this
  have : 0 < b.length := List.length_pos_of_mem hx
  simp only [List.length_cons]; omega
theorem Cn.len {c : Sm} {L : List (List UInt8)} (h : Cn c L) : c.length ≤ L.length := by
 have h1 : (c.map Prod.fst).length ≤ L.length := gO _ _ h.nd (fun x hx => (h.mem x).1 hx)
 simpa using h1
theorem Cn.key {c : Sm} {L : List (List UInt8)} (h : Cn c L) (hb : ∀ x ∈ L, sB x) : ∀ p ∈ c, p.1.length ≤ maxLen := fun p hp => by
 have := hb p.1 ((h.mem p.1).1 (List.mem_map.2 ⟨p, hp, rfl⟩))
 have e : maxLen = 2 ^ 63 - 1 := rfl
 unfold sB at this; omega
theorem x8 (e : Ex) (hz : size e ≤ 2 ^ 40) {mem : Mem} {nx : Nat} {K : KD} (hk : ∀ id n', nx ≤ id → id < n' → K (.omap id) ((id, .map (aV (qG e))) :: mem) n') : bP Tryd.prog 24 [.agg (aO e)] mem nx K := by
 refine fi24.ct (by simp) fun hfr => ?_
 have hw := rK CT e
 unfold WC2 at hw
 simp only [aA] at hw ⊢
 have z1 : (nx + 2 + 1 = nx) = False := eq_false (by omega)
 have z2 : (nx + 2 = nx) = False := eq_false (by omega)
 have z3 : (nx + 2 + 3 + 1 = nx) = False := eq_false (by omega)
 have z4 : (nx + 2 + 3 + 1 = nx + 2) = False := eq_false (by omega)
 have z5 : (nx + 2 + 3 + 1 = nx + 2 + 1) = False := eq_false (by omega)
 have z6 : (nx + 2 + 1 = nx + 2) = False := eq_false (by omega)
 have z7 : (nx + 2 = nx + 2 + 1) = False := eq_false (by omega)
 have z8 : (nx = nx + 2) = False := eq_false (by omega)
 have z9 : (nx = nx + 2 + 3 + 1) = False := eq_false (by omega)
 simp -implicitDefEqProofs [ac24, z1, z2, z3]
 refine aD (hw (mid := nx + 2 + 3 + 1) (cid := nx + 2) (b := nx + 2 + 1) (m := []) (c := []) ⟨?_, ?_, ?_, by omega, by omega, by omega, by omega, by omega, by omega⟩ hz (fun n3 hn3 => ?_))
 ·simp [look, aV]
 ·simp [look, aV, z5, z4, z6]
 ·simp [look, z5]
 ·have hup : bO ((nx + 2 + 3 + 1, Blk.map []) :: (nx + 2 + 1, Blk.box [D.omap (nx + 2)]) :: (nx + 2, Blk.map []) :: (nx, Blk.box [I e.op, Tx e.name, Tx e.tail, I e.type, CX e.num.re e.num.im, D.sl (em aO e.args), I e.at']) :: mem) (nx + 2 + 3 + 1) (nx + 2) (cC gZ e [] []).1 (cC gZ e [] []).2 = (nx + 2 + 3 + 1, Blk.map (aV (cC gZ e [] []).1)) :: (nx + 2 + 1, Blk.box [D.omap (nx + 2)]) :: (nx + 2, Blk.map (aV (qG e))) :: (nx, Blk.box [I e.op, Tx e.name, Tx e.tail, I e.type, CX e.num.re e.num.im, D.sl (em aO e.args), I e.at']) :: mem := by
   unfold bO qG
   simp only [upd, z4, z5, z6, if_false, if_true]
  rw [hup]
  simp -implicitDefEqProofs [z1, z2, z3, z4, z5, z6, z7]
  refine ⟨(nx + 2, .map (aV (qG e))) :: mem, fun i b hb => ?_, hk (nx + 2) _ (by omega) (by omega)⟩
  rw [a_] at hb
  split at hb
  ·rename_i g; subst g
   simpa only [a_, z5, z4, z6, if_false, if_true] using hb
  ·rename_i g
   have hi : i < nx := by
    rcases Nat.lt_or_ge i nx with h | h
    ·exact h
    ·rw [hfr i h] at hb; simp at hb
   simp only [a_]
   rw [if_neg (by omega), if_neg (by omega), if_neg (by omega), if_neg (by omega)]
   exact hb
structure NT (l : List (List UInt8)) (mem : Mem) (nx : Nat) (K : KD) : Prop where
 none : l = [] → ∀ n', nx ≤ n' → K (.pl (.slice none 0 0)) mem n'
 some : l ≠ [] → ∀ id n', nx ≤ id → id < n' → K (.osl id 0 0 l.length) ((id, .arr 0 1 (em bC l)) :: mem) n'
theorem zX {mem : Mem} {nx id : Nat} {K : KD} (hk : ∀ kb n', nx ≤ kb → kb < n' → K (.fn 35 [.opt kb 0]) ((kb, .box [.omap id]) :: mem) n') : bP Tryd.prog 23 [.omap id] mem nx K := by
 refine fi23.ct (by simp) fun hfr => ?_
 simp -implicitDefEqProofs [ac23]
 exact ⟨_, aG _, hk nx _ (by omega) (by omega)⟩
theorem D2 {c : Sm} {L : List (List UInt8)} (h : Cn c L) : (d_ L []).length = c.length := by
 rw [← sW h, List.length_mergeSort, List.length_map]
theorem AK {c : Sm} {L : List (List UInt8)} (hc : Cn c L) (hb : ∀ x ∈ L, sB x) (hl : L.length ≤ 2 ^ 42) {mem M : Mem} {nx n0 kb id : Nat} {K K' : KD} (hkb : look M kb = some (.box [.omap id])) (hid : look M id = some (.map (aV c))) (hn0 : nx ≤ n0)
  (hK : NT (d_ L []) mem nx K) (hlow : ∀ i, i < nx → look M i = look mem i) (hfr : ∀ i, nx ≤ i → look mem i = none) (hMf : ∀ i, n0 ≤ i → look M i = none)
  (hK' : ∀ d m n, (∃ m', cW m m' ∧ K d m' n) → K' d m n) : bP Tryd.prog 22 [.fn 35 [.opt kb 0]] M n0 K' := by
 have hlen := hc.len
 have hsl := D2 hc
 have hnone : ∀ i b, look mem i = some b → i < nx := fun i b h => by
  rcases Nat.lt_or_ge i nx with g | g
  ·exact g
  ·rw [hfr i g] at h; simp at h
 refine CU hkb hid (by omega) (hc.key hb) (fun h0 n' hn' => ?_) (fun h0 n' hn' => ?_)
 ·refine hK' _ _ _ ⟨mem, fun i b h => ?_, hK.none (List.eq_nil_of_length_eq_zero (by rw [hsl, h0]; rfl)) n' (by omega)⟩
  rw [hlow i (hnone i b h)]; exact h
 ·have hne : d_ L [] ≠ [] := fun e => h0 (List.eq_nil_of_length_eq_zero (by rw [← hsl, e]; rfl))
  rw [sW hc, ← hsl]
  refine hK' _ _ _ ⟨_, fun i b h => ?_, hK.some hne n0 n' hn0 hn'⟩
  rw [a_] at h ⊢
  split at h
  ·rename_i g; rw [if_pos g]; exact h
  ·rename_i g
   rw [if_neg g, hlow i (hnone i b h)]; exact h
def fD (e : Ex) : List (List UInt8) := d_ (aS (bN e [])) []
theorem Free_t (e : Ex) (hz : size e ≤ 2 ^ 40) (hb : Nb e) {mem : Mem} {nx : Nat} {K : KD} (hK : NT (fD e) mem nx K) : bP Tryd.prog 11 [.agg (aO e)] mem nx K := by
 refine fi11.ct (by simp) fun hfr => ?_
 have hf := fun {mem : Mem} {nx : Nat} {K : KD} hk => x8 e hz (mem := mem) (nx := nx) (K := K) hk
 simp only [aA] at hf ⊢
 simp -implicitDefEqProofs [ac11]
 refine aD (hf (fun id n1 g1 g2 => ?_))
 simp -implicitDefEqProofs
 refine aD (zX (fun kb n2 g3 g4 => ?_))
 simp -implicitDefEqProofs
 have h1 : (kb = id) = False := eq_false (by omega)
 have hl1 := fH (bN e [])
 have hl2 := gL e []
 refine aD (AK (mem := mem) (nx := nx) (uB e hz) (y9 e [] hb) (by omega) (kb := kb) (id := id) (by simp [look]) (by simp [look, h1]) (by omega) hK (fun i hi => ?_) hfr (fun i hi => ?_) (fun d m n h => ?_))
 ·rw [a_, a_, if_neg (by omega), if_neg (by omega)]
 ·rw [a_, a_, if_neg (by omega), if_neg (by omega)]; exact hfr i (by omega)
 ·simp -implicitDefEqProofs
  exact h
theorem nJ (e : Ex) (n : List UInt8) (hz : size e ≤ 2 ^ 40) : Pure Tryd.prog 13 [.agg (aO e), Tx n] (I ((aS (bN e [])).count n)) := by
 refine fi13.pu (by simp) ?_
 have hf := fun {mem : Mem} {nx : Nat} {K : KD} hk => x8 e hz (mem := mem) (nx := nx) (K := K) hk
 simp only [aA] at hf ⊢
 simp -implicitDefEqProofs [ac13]
 refine aD (hf (fun id n1 g1 g2 => ?_))
 have := (uB e hz).cnt n
 simp -implicitDefEqProofs [this]
def SzC (e : Ex) : Prop := size e ≤ 2 ^ 40 → Pure Tryd.prog 12 [.agg (aO e)] (I (size e))
theorem Size_s (op : Int) (n t : List UInt8) (ty : Int) (z : Cx) (args : List Ex) (p : Int) (ih : ∀ x ∈ args, SzC x) : SzC (.mk op n t ty z args p) := by
 intro hz
 have hal := mF args
 have hR : ((size (.mk op n t ty z args p) : Nat) : Int) = 1 + (aW args : Int) := by simp only [size]; omega
 rw [hR]
 simp only [size] at hz
 generalize hRR : (1 + (aW args : Int)) = R at *
 simp only [bG]
 refine fi12.pu (by simp) ?_
 simp -implicitDefEqProofs [ac12]
 refine lpG cf12 lb12_0 [3, 5, 9] (α := Nat × Int) (fun s _ => [(3, I s.2), (9, I s.1)]) (fun s _ => []) (fun s k => s.1 ≤ args.length ∧ 1 ≤ s.2 ∧ s.2 + (aW (args.drop s.1) : Int) = R) (fun s => args.length - s.1) (0, 1) ⟨by simp, by simp, by simpa using hRR⟩ (by simp) (by simp) ?_
 rintro ⟨i, v⟩ k ⟨hi, hv1, hr⟩
 simp only at hi hv1 hr
 by_cases hlt : i < args.length
 ·have hlti : (i : Int) < (args.length : Int) := by omega
  have hd : args.drop i = args[i] :: args.drop (i + 1) := List.drop_eq_getElem_cons hlt
  rw [hd] at hr
  simp only [aW] at hr
  obtain ⟨x, hx⟩ : ∃ x, args[i] = x := ⟨_, rfl⟩
  have hxm : x ∈ args := by rw [← hx]; exact List.getElem_mem hlt
  rw [hx] at hr
  have hsx := lU hxm
  have hc := ih x hxm (by omega)
  simp only [aA] at hc
  have w1 := bB (x := (i : Int) + 1) (by omega) (by omega)
  have w2 := bB (x := v + (size x : Int)) (by omega) (by omega)
  simp -implicitDefEqProofs [lb12_0, hlti, hlt, hx]
  refine aH hc (by simp) ?_
  simp -implicitDefEqProofs [w1, w2]
  exact aL (i + 1, v + (size x : Int)) ⟨hlt, by simp only; omega, by simp only; omega⟩ (by simp only; omega) (by simp) (by simp)
 ·have hil : i = args.length := by omega
  subst hil
  rw [List.drop_length] at hr
  simp only [aW] at hr
  have hv : v = R := by simpa using hr
  simp -implicitDefEqProofs [lb12_0, hv]
mutual
theorem nL : ∀ e : Ex, SzC e
 | .mk op n t ty z args p => Size_s op n t ty z args p (wN args)
theorem wN : ∀ l : List Ex, ∀ x ∈ l, SzC x
 | [], x, h => by simp at h
 | y :: ys, x, h => (List.mem_cons.1 h).elim (fun he => he ▸ nL y) (fun h => wN ys x h)
end
abbrev aggFn (f : Fn) : D := .agg [Tx f.name, .sl (em fJ f.params), I f.type, I f.body.op, Tx f.body.name, Tx f.body.tail, I f.body.type, CX f.body.num.re f.body.num.im, .sl (em aO f.body.args), I f.body.at', I f.at']
def q7 (f : Fn) : List (List UInt8) := d_ (allN f) []
theorem CP (f : Fn) (hz : size f.body ≤ 2 ^ 40) (hp : f.params.length ≤ 2 ^ 40) (hb : NbFn f) {mem : Mem} {nx : Nat} {K : KD} (hK : NT (q7 f) mem nx K) : bP Tryd.prog 15 [aggFn f] mem nx K := by
 refine fi15.ct (by simp) fun hfr => ?_
 have hw := rK A1 f.body
 unfold WC2 at hw
 simp only [aA] at hw
 have z1 : (nx + 2 = nx) = False := eq_false (by omega)
 simp -implicitDefEqProofs [ac15]
 have hinc0 : dU [] f.name 1 = b8 [] f.name := by
  unfold b8; rw [pM]; rfl
 rw [hinc0]
 have hL0 : nx + 2 + 7 + 4 ≤ nx + 2 + 7 + 4 := Nat.le_refl _
 generalize hN0 : nx + 2 + 7 + 4 = n0 at *
 generalize hbe : nx + 2 + 5 = b at *
 generalize hce : nx + 2 = cid at *
 have hbc : (b = cid) = False := eq_false (by omega)
 have hnp : (f.params.map Pm.name).length = f.params.length := by simp
 refine lpG cf15 lb15_0 [5, 13] (α := Nat × Sm) (fun s _ => [(13, I s.1)]) (fun s _ => (b, .box [.omap cid]) :: (cid, .map (aV s.2)) :: mem) (fun s k => n0 ≤ k ∧ s.1 ≤ f.params.length ∧ Cn s.2 (f.name :: (f.params.map Pm.name).take s.1)) (fun s => f.params.length - s.1) (0, b8 [] f.name) ⟨by omega, by simp, by simpa using Cn.nil.inc (by simp) f.name⟩ (by simp) (aN _) ?_
 rintro ⟨i, c⟩ k ⟨hk, hi, hc⟩
 simp only at hk hi hc
 by_cases hlt : i < f.params.length
 ·have hlti : (i : Int) < (f.params.length : Int) := by omega
  have w1 := bB (x := (i : Int) + 1) (by omega) (by omega)
  obtain ⟨x, hx⟩ : ∃ x, f.params[i] = x := ⟨_, rfl⟩
  have hnext : (f.name :: (f.params.map Pm.name).take i) ++ [x.name] = f.name :: (f.params.map Pm.name).take (i + 1) := by
   rw [List.take_add_one, List.getElem?_map, List.getElem?_eq_getElem hlt, hx]; rfl
  have hc2 := hc.inc (by simp; omega) x.name
  rw [hnext] at hc2
  have y1 : (k + 1 + 2 = b) = False := eq_false (by omega)
  have y2 : (k + 1 + 2 = cid) = False := eq_false (by omega)
  have y3 : (b = k + 1 + 2) = False := eq_false (by omega)
  have y4 : (cid = k + 1 + 2) = False := eq_false (by omega)
  simp -implicitDefEqProofs [lb15_0, hlti, hlt, hx, w1, y1, y2, y3, y4, hbc]
  refine aL (i + 1, b8 c x.name) ⟨by omega, hlt, hc2⟩ (by simp only; omega) (by simp) ?_
  refine aU (aN _) ?_
  rw [a_, a_, if_neg (by omega), if_neg (by omega)]
  exact hfr _ (by omega)
 ·have hil : i = f.params.length := by omega
  subst hil
  rw [List.take_of_length_le (by simp)] at hc
  have y1 : (k + 1 + 2 = b) = False := eq_false (by omega)
  have y2 : (k + 1 + 2 = cid) = False := eq_false (by omega)
  simp -implicitDefEqProofs [lb15_0]
  refine aD (hw (mid := k + 1 + 2) (cid := cid) (b := b) (m := []) (c := c) ⟨?_, ?_, ?_, by omega, by omega, by omega, by omega, by omega, by omega⟩ hz (fun n3 hn3 => ?_))
  ·simp [look, aV]
  ·simp [look, y2, hbc]
  ·simp [look, y1]
  have hwn := kU f.body
  have hC := (uR f.body [] c [] (f.name :: f.params.map Pm.name) vA hc (by simp; omega) (by simp; omega)).2
  have hL : f.name :: f.params.map Pm.name ++ fW f.body = allN f := rfl
  rw [hL] at hC
  have hall : ∀ x ∈ allN f, sB x := fun x hx => by
   rw [← hL] at hx
   rcases List.mem_append.1 hx with h | h
   ·rcases List.mem_cons.1 h with rfl | h
    ·exact hb.name
    ·obtain ⟨p, hp1, rfl⟩ := List.mem_map.1 h
     exact hb.pars p hp1
   ·exact uH _ hb.body x h
  have hlen : (allN f).length ≤ 2 ^ 42 := by rw [← hL, List.length_append]; simp; omega
  have hup : bO ((k + 1 + 2, Blk.map []) :: (b, Blk.box [D.omap cid]) :: (cid, Blk.map (aV c)) :: mem) (k + 1 + 2) cid (cC eY f.body [] c).1 (cC eY f.body [] c).2 = (k + 1 + 2, Blk.map (aV (cC eY f.body [] c).1)) :: (b, Blk.box [D.omap cid]) :: (cid, Blk.map (aV (cC eY f.body [] c).2)) :: mem := by
   unfold bO
   simp only [upd, y1, y2, hbc, if_false, if_true]
  rw [hup]
  generalize cC eY f.body [] c = R at *
  simp -implicitDefEqProofs [y1, y2, hbc]
  refine aD (zX (fun kb n2 g3 g4 => ?_))
  simp -implicitDefEqProofs
  have x1 : (kb = k + 1 + 2) = False := eq_false (by omega)
  have x2 : (kb = b) = False := eq_false (by omega)
  have x3 : (kb = cid) = False := eq_false (by omega)
  refine aD (AK (mem := mem) (nx := nx) hC hall hlen (kb := kb) (id := cid) (by simp [look]) (by simp [look, x1, x2, x3, y1, y2, hbc]) (by omega) hK (fun i hi => ?_) hfr (fun i hi => ?_) (fun d m n h => ?_))
  ·rw [a_, a_, a_, a_, if_neg (by omega), if_neg (by omega), if_neg (by omega), if_neg (by omega)]
  ·rw [a_, a_, a_, a_, if_neg (by omega), if_neg (by omega), if_neg (by omega), if_neg (by omega)]; exact hfr i (by omega)
  ·simp -implicitDefEqProofs
   exact h
theorem jY {n : Nat} (h : n < 10) : Lib.decDigits n = [dc n] := by
 rw [Lib.decDigits, dif_pos h]; unfold dc; rw [Nat.mod_eq_of_lt h]
theorem yD {n : Nat} (h : ¬ n < 10) : Lib.decDigits n = Lib.decDigits (n / 10) ++ [dc n] := by
 rw [Lib.decDigits, dif_neg h]; rfl
theorem dd_len : ∀ n : Nat, (Lib.decDigits n).length ≤ n + 1 := by
 intro n
 induction n using Nat.strongRecOn with
 | ind n ih =>
  by_cases h : n < 10
  ·rw [jY h]; simp
  ·rw [yD h, List.length_append]
   have := ih (n / 10) (by omega)
   simp only [List.length_cons, List.length_nil]; omega
def ddV (l : List UInt8) : Nat := l.foldl (fun v b => v * 10 + (b.toNat - 48)) 0
theorem yS : ∀ n : Nat, ddV (Lib.decDigits n) = n := by
 intro n
 induction n using Nat.strongRecOn with
 | ind n ih =>
  by_cases h : n < 10
  ·rw [jY h]
   simp only [ddV, List.foldl_cons, List.foldl_nil]
   rw [dc_n]; omega
  ·rw [yD h]
   have := ih (n / 10) (by omega)
   unfold ddV at this ⊢
   rw [List.foldl_append, this]
   simp only [List.foldl_cons, List.foldl_nil]
   rw [dc_n]; omega
def nm (k : Nat) : List UInt8 := 116 :: Lib.decDigits k
theorem AP {a b : Nat} (h : nm a = nm b) : a = b := by
 unfold nm at h
 simp only [List.cons.injEq, true_and] at h
 have := congrArg ddV h
 rwa [yS, yS] at this
def jV (taken : List (List UInt8)) (n : Nat) : Nat → Nat → List (List UInt8) → List (List UInt8)
 | 0, _, out => out
 | f + 1, k, out => if out.length < n then jV taken n f (k + 1) (if aZ taken (nm k) = true then out else out ++ [nm k]) else out
def lL (taken : List (List UInt8)) (n : Nat) : List (List UInt8) := jV taken n (n + taken.length + 1) 1 []
structure Fr6 (taken : List (List UInt8)) (n k : Nat) (out : List (List UInt8)) : Prop where
 hit : ∃ H : List Nat, H.Nodup ∧ (∀ j ∈ H, j < k ∧ nm j ∈ taken) ∧ k = 1 + out.length + H.length
 told : ∀ s ∈ out, ∃ j, j < k ∧ s = nm j
 free : ∀ s ∈ out, s ∉ taken
 nd : out.Nodup
 le : out.length ≤ n
theorem y8 {l : List Nat} (h : l.Nodup) : (l.map nm).Nodup := by
 refine List.pairwise_map.2 (h.imp fun hne e => hne (AP e))
theorem Fr6.bound {taken : List (List UInt8)} {n k : Nat} {out : List (List UInt8)} (h : Fr6 taken n k out) : k ≤ 1 + out.length + taken.length := by
 obtain ⟨H, h1, h2, h3⟩ := h.hit
 have := gO (H.map nm) taken (y8 h1) (fun x hx => by
  obtain ⟨j, hj, rfl⟩ := List.mem_map.1 hx
  exact (h2 j hj).2)
 rw [List.length_map] at this
 omega
theorem Fr6.start (taken : List (List UInt8)) (n : Nat) : Fr6 taken n 1 [] := ⟨⟨[], by simp, by simp, by simp⟩, by simp, by simp, by simp, by simp⟩
theorem Fr6.step {taken : List (List UInt8)} {n k : Nat} {out : List (List UInt8)} (h : Fr6 taken n k out) (hl : out.length < n) : Fr6 taken n (k + 1) (if aZ taken (nm k) = true then out else out ++ [nm k]) := by
 obtain ⟨H, h1, h2, h3⟩ := h.hit
 by_cases g : aZ taken (nm k) = true
 ·rw [if_pos g]
  refine ⟨⟨H ++ [k], ?_, ?_, by simp; omega⟩, fun s hs => ?_, h.free, h.nd, h.le⟩
  ·rw [List.nodup_append]
   refine ⟨h1, by simp, fun a ha b hb e => ?_⟩
   simp at hb; subst hb; subst e
   have := (h2 a ha).1; omega
  ·intro j hj
   rcases List.mem_append.1 hj with hj | hj
   ·exact ⟨by have := (h2 j hj).1; omega, (h2 j hj).2⟩
   ·simp at hj; subst hj; exact ⟨by omega, (eR _ _).1 g⟩
  ·obtain ⟨j, hj, e⟩ := h.told s hs
   exact ⟨j, by omega, e⟩
 ·rw [if_neg g]
  refine ⟨⟨H, h1, fun j hj => ⟨by have := (h2 j hj).1; omega, (h2 j hj).2⟩, by simp; omega⟩, fun s hs => ?_, fun s hs => ?_, ?_, by simp; omega⟩
  ·rcases List.mem_append.1 hs with hs | hs
   ·obtain ⟨j, hj, e⟩ := h.told s hs
    exact ⟨j, by omega, e⟩
   ·simp at hs; exact ⟨k, by omega, hs⟩
  ·rcases List.mem_append.1 hs with hs | hs
   ·exact h.free s hs
   ·simp at hs; subst hs; exact fun m => g ((eR _ _).2 m)
  ·rw [List.nodup_append]
   refine ⟨h.nd, by simp, fun a ha b hb e => ?_⟩
   simp at hb; subst hb; subst e
   obtain ⟨j, hj, e⟩ := h.told _ ha
   have := AP e; omega
theorem CM (l : List (List UInt8)) (n : List UInt8) (hl : l.length < 2 ^ 60) : ∃ r : Int, (0 ≤ r ↔ aZ l n = true) ∧ Pure Tryd.prog 30 [.sl (em bC l), Tx n] (I r) := by
 have key : ∀ (k : List (List UInt8)) (i : Nat), ∃ r : Int, (0 ≤ r ↔ aZ k n = true) ∧ ((aZ k n = true → ∃ j : Nat, r = ((i + j : Nat) : Int) ∧ k[j]? = some n ∧ ∀ m, m < j → k[m]? ≠ some n) ∧ (aZ k n = false → r = -1)) := by
  intro k
  induction k with
  | nil => intro i; exact ⟨-1, by simp [aZ], by simp [aZ], fun _ => rfl⟩
  | cons x xs ih =>
   intro i
   by_cases h : x = n
   ·exact ⟨i, by simp [aZ, h], fun _ => ⟨0, by simp, by simp [h], fun m hm => by omega⟩, fun g => by simp [aZ, h] at g⟩
   ·obtain ⟨r, h1, h2, h3⟩ := ih (i + 1)
    refine ⟨r, by simp [aZ, h, h1], fun g => ?_, fun g => h3 (by simpa [aZ, h] using g)⟩
    obtain ⟨j, e1, e2, e3⟩ := h2 (by simpa [aZ, h] using g)
    refine ⟨j + 1, by rw [e1]; omega, by simpa using e2, fun m hm => ?_⟩
    cases m with
    | zero => simp [h]
    | succ m => simpa using e3 m (by omega)
 obtain ⟨r, hr, h1, h2⟩ := key l 0
 refine ⟨r, hr, ?_⟩
 refine fi30.pu (by simp) ?_
 simp -implicitDefEqProofs [ac30]
 refine lpG cf30 lb30_0 [4, 5, 8] (α := Nat) (fun s _ => [(8, I s)]) (fun s _ => []) (fun s k => s ≤ l.length ∧ ∀ m, m < s → l[m]? ≠ some n) (fun s => l.length - s) 0 ⟨by simp, fun m hm => by omega⟩ (by simp) (by simp) ?_
 rintro i k ⟨hi, hn⟩
 by_cases hlt : i < l.length
 ·have hlti : (i : Int) < (l.length : Int) := by omega
  have w1 := bB (x := (i : Int) + 1) (by omega) (by omega)
  obtain ⟨x, hx⟩ : ∃ x, l[i] = x := ⟨_, rfl⟩
  have hx2 : l[i]? = some x := by rw [List.getElem?_eq_getElem hlt, hx]
  by_cases hg : n = x
  ·have hh : aZ l n = true := (eR l n).2 (List.mem_iff_getElem?.2 ⟨i, by rw [hx2, hg]⟩)
   obtain ⟨j, e1, e2, e3⟩ := h1 hh
   have hij : i = j := by
    rcases Nat.lt_trichotomy i j with h | h | h
    ·exact absurd (by rw [hx2, hg]) (e3 i h)
    ·exact h
    ·exact absurd e2 (hn j h)
   have hri : r = i := by omega
   simp -implicitDefEqProofs [lb30_0, hlti, hlt, hx, hg, hri]
  ·simp -implicitDefEqProofs [lb30_0, hlti, hlt, hx, hg, w1]
   refine aL (i + 1) ⟨hlt, fun m hm => ?_⟩ (by omega) (by simp) (by simp)
   by_cases e : m = i
   ·subst e; rw [hx2]; simp; exact fun e => hg e.symm
   ·exact hn m (by omega)
 ·have hr1 : r = -1 := h2 (by
   cases hh : aZ l n with
   | false => rfl
   | true =>
    obtain ⟨j, e1, e2, e3⟩ := h1 hh
    exact absurd e2 (hn j (by have := (List.getElem?_eq_some_iff.1 e2).1; omega)))
  have hlti : ¬ (i : Int) < (l.length : Int) := by omega
  simp -implicitDefEqProofs [lb30_0, hlti, hlt, hr1]
theorem w_ (l : List (List UInt8)) (n : List UInt8) (hl : l.length < 2 ^ 60) : Pure Tryd.prog 18 [.sl (em bC l), Tx n] (.pl (.bool (aZ l n))) := by
 obtain ⟨r, hr, hc⟩ := CM l n hl
 refine fi18.pu (by simp) ?_
 simp -implicitDefEqProofs [ac18]
 refine aH hc (by simp) ?_
 have e : decide (0 ≤ r) = aZ l n := by
  rw [Bool.eq_iff_iff, ← hr]; simp
 simp -implicitDefEqProofs [e]
def wZ (B : Nat) : Prop := ∀ k : Nat, k ≤ B → Pure Tryd.prog 17 [.pl (.int .i64 k)] (Tx (Lib.decDigits k))
theorem vR : wZ 99 := fun k hk => xA k (by omega)
theorem C0 (taken : List (List UInt8)) (n : Int) (ht : taken.length ≤ 2 ^ 43) (hIt : n ≤ 4096 → wZ (n.toNat + taken.length)) {mem : Mem} {nx : Nat} {K : KD}
  (h2 : ¬ (0 ≤ n ∧ n ≤ 4096) → ∀ n', nx ≤ n' → K (.tup [.pl (.slice none 0 0), I 2]) mem n')
  (h1 : 0 ≤ n → n ≤ 4096 → ∀ id v n', nx ≤ id → id < n' → K (.tup [.osl id v 0 (lL taken n.toNat).length, I 0]) ((id, .arr v 1 (em bC (lL taken n.toNat))) :: mem) n') :
  bP Tryd.prog 6 [.sl (em bC taken), I n] mem nx K := by
 refine fi6.ct (by simp) fun hfr => ?_
 by_cases g1 : n < 0
 ·simp -implicitDefEqProofs [ac6, g1]
  exact ⟨_, aG _, h2 (by omega) _ (by omega)⟩
 ·by_cases g2 : 4096 < n
  ·simp -implicitDefEqProofs [ac6, g1, g2]
   exact ⟨_, aG _, h2 (by omega) _ (by omega)⟩
  ·simp -implicitDefEqProofs [ac6, g1, g2]
   have h1 := h1 (by omega) (by omega)
   have hIt := hIt (by omega)
   obtain ⟨N, rfl⟩ : ∃ N : Nat, n = N := ⟨n.toNat, by omega⟩
   simp only [Int.toNat_natCast] at h1 hIt
   unfold lL at h1
   generalize hR : jV taken N (N + taken.length + 1) 1 [] = R at *
   refine l9 (j := 6) (k := 1) rfl (.inl rfl) ?_
   have hid : nx ≤ nx + 2 + 6 + 1 + 1 := by omega
   generalize nx + 2 + 6 + 1 + 1 = id at *
   refine lpG cf6 lb6_0 [6, 7, 8] (α := Nat × Nat × List (List UInt8)) (fun s _ => [(6, .osl id s.2.1 0 s.2.2.length), (7, I s.1)]) (fun s _ => (id, .arr s.2.1 1 (em bC s.2.2)) :: mem) (fun s k => id < k ∧ 1 ≤ s.1 ∧ Fr6 taken N s.1 s.2.2 ∧ jV taken N (N + taken.length + 2 - s.1) s.1 s.2.2 = R) (fun s => N + taken.length + 2 - s.1) (1, 0, []) ⟨by omega, by simp, Fr6.start taken N, hR⟩ (by simp [upd]) (by simp [em]) ?_
   rintro ⟨i, v, out⟩ k ⟨hk, hi, hfr6, hr⟩
   simp only at hk hi hfr6 hr
   have hbd := hfr6.bound
   have hle := hfr6.le
   by_cases hlt : out.length < N
   ·have hlti : (out.length : Int) < (N : Int) := by omega
    have hst := hfr6.step hlt
    obtain ⟨f, hf⟩ : ∃ f, N + taken.length + 2 - i = f + 1 := ⟨N + taken.length + 1 - i, by omega⟩
    have hf2 : N + taken.length + 2 - (i + 1) = f := by omega
    rw [hf] at hr
    unfold jV at hr
    rw [if_pos hlt] at hr
    have hc := hIt i (by omega)
    have hdl := dd_len i
    have hadd := bY (P := Tryd.prog) (ty := 9) (l := [116]) (k := Lib.decDigits i) (by simp; omega)
    have hcon := w_ taken (nm i) (by omega)
    have w1 := bB (x := (i : Int) + 1) (by omega) (by omega)
    have hnm : ([116] ++ Lib.decDigits i : List UInt8) = nm i := rfl
    rw [hnm] at hadd
    simp -implicitDefEqProofs [lb6_0, hlti]
    refine aH (hc) (by simp) ?_
    simp -implicitDefEqProofs [hadd]
    refine aH hcon (by simp) ?_
    by_cases hh : aZ taken (nm i) = true
    ·rw [if_pos hh] at hr hst
     simp -implicitDefEqProofs [hh, w1]
     exact aL (i + 1, v, out) ⟨by omega, by simp only; omega, hst, by rw [hf2]; exact hr⟩ (by simp only; omega) (by simp) (aN _)
    ·rw [if_neg hh] at hr hst
     have hh2 : aZ taken (nm i) = false := by simpa using hh
     have b1 : (out.length + 1) * 16 ≤ 3 * 2 ^ 46 := by omega
     have hap : em bC out ++ [[Tx (nm i)]] = em bC (out ++ [nm i]) := oC (enc := bC) (x := nm i)
     simp -implicitDefEqProofs [hh2, w1, b1, hap]
     exact aL (i + 1, v + 1, out ++ [nm i]) ⟨by omega, by simp only; omega, hst, by rw [hf2]; exact hr⟩ (by simp only; omega) (by simp) (aN _)
   ·have hlti : ¬ (out.length : Int) < (N : Int) := by omega
    have hres : out = R := by
     rw [← hr]
     cases N + taken.length + 2 - i with
     | zero => rfl
     | succ f => unfold jV; rw [if_neg hlt]
    subst hres
    simp -implicitDefEqProofs [lb6_0, hlti]
    exact ⟨_, aG _, h1 id v _ (by omega) (by omega)⟩
set_option maxRecDepth 1000000
set_option maxHeartbeats 0
noncomputable def cf16 : Cfg := ⟨Tryd.prog, 27, [0, 1, 2, 3, 5, 7, 8, 9, 19, 20], []⟩
noncomputable def lb16_0 : AC :=
 .seq (.ifr [JO 10 (.bin .lss 3 (.g 9) (.g 8))] (.t 10) .skip (.exit 0)) (.seq (.block 1 (.seq (.reg [JO 11 (.ia 7 (.g 7) (.g 9)), JE 12 7 11, JP 5 (.al [JV, JU, JU, JV, .complex .f64 0 0, JW, JV]), JQ (.st 7 (.g 5) (.t 12))]) (.reg [JA 13 3, JF 14 7 5, JO 15 (.pc (.f 16) [.t 14]), JO 16 (.bi .max [.t 13, .t 15]), JB 3 16]))) (.reg [JO 17 (.bin .add 3 (.g 9) (JT 1)), JB 9 17]))
noncomputable def ac16 : AC :=
 (.seq (.reg [JN 1 0, JI 2 0]) (.seq (.reg [JI 3 0]) (.seq (.seq (.reg [JG 6 5 1, JP 7 (.ld false 1 (.t 6)), JP 8 (.len false (.g 7)), JI 9 0]) (.block 0 (.loop lb16_0))) (.seq (.seq (.reg [JG 18 0 1, JP 19 (.ld false 1 (.t 18))]) (.block 2 (.seq (.ifr [JO 21 (.bin .eql 40 (.g 19) (JT 21)), JB 20 21] (.g 20) .skip (.ifr [JO 22 (.bin .eql 40 (.g 19) (JT 22)), JB 20 22] (.g 20) .skip (.reg [JO 23 (.bin .eql 40 (.g 19) (JT 20)), JB 20 23]))) (.cond (.g 20) (.reg [JA 24 3, JO 25 (.bin .add 3 (.t 24) (JT 1)), JB 3 25]) .skip)))) (.seq (.reg [JA 26 3, JB 2 26]) .ret)))))
theorem fi16 : FI Tryd.prog 16 cf16 ac16 [.t 2] [0, 1, 2, 3, 5, 7, 8, 9, 19, 20] 27 := FI_of (c := Tryd.f16.body.getD .skip) Tryd.func16 (by kernel_rfl) (by rfl) (by rfl) (by kernel_rfl) (by kernel_rfl) rfl rfl rfl
@[simp] theorem cfP16 : cf16.P = Tryd.prog := (rfl)
set_option maxRecDepth 100000
set_option maxHeartbeats 4000000
mutual
def gE : Ex → Nat
 | .mk op _ _ _ _ args _ => eI args + (if op = 21 ∨ op = 22 ∨ op = 20 then 1 else 0)
def eI : List Ex → Nat
 | [] => 0
 | x :: xs => max (gE x) (eI xs)
end
mutual
theorem yV : ∀ e : Ex, gE e ≤ size e
 | .mk op n tl ty z args p => by
  have := mQ args
  unfold gE size
  split <;> omega
theorem mQ : ∀ l : List Ex, eI l ≤ aW l
 | [] => by simp [eI]
 | x :: xs => by
  have h1 := yV x
  have h2 := mQ xs
  unfold eI aW; omega
end
theorem sK : ∀ {l : List Ex} {x : Ex}, x ∈ l → size x ≤ aW l ∧ gE x ≤ eI l
 | y :: ys, x, h => by
  unfold aW eI
  rcases List.mem_cons.1 h with rfl | h
  ·omega
  ·have := sK h; omega
theorem x7 : ∀ (l : List Ex), l.length ≤ aW l
 | [] => by simp [aW]
 | y :: ys => by
  have := x7 ys
  have h : 1 ≤ size y := by cases y; unfold size; omega
  unfold aW; simp only [List.length_cons]; omega
def tL (e : Ex) : Prop := size e ≤ 2 ^ 40 → Pure Tryd.prog 16 [.agg [I e.op, Tx e.name, Tx e.tail, I e.type, CX e.num.re e.num.im, .sl (em aO e.args), I e.at']] (I (gE e))
theorem xD (op : Int) (n tl : List UInt8) (ty : Int) (z : Cx) (args : List Ex) (p : Int) (ih : ∀ x ∈ args, tL x) : tL (.mk op n tl ty z args p) := by
 intro hz
 have hzs : aW args ≤ 2 ^ 40 := by unfold size at hz; omega
 have hlen := x7 args
 have hb := mQ args
 have ih1 : ∀ x ∈ args, Pure Tryd.prog 16 [.agg [I x.op, Tx x.name, Tx x.tail, I x.type, CX x.num.re x.num.im, .sl (em aO x.args), I x.at']] (I (gE x)) := fun x hx => ih x hx (Nat.le_trans (sK hx).1 hzs)
 have hop : op = 21 ∨ op = 22 ∨ op = 20 ∨ (op ≠ 21 ∧ op ≠ 22 ∧ op ≠ 20) := by omega
 have w1 : IntKind.i64.wrap ((eI args : Int) + 1) = eI args + 1 := bB (by omega) (by omega)
 show Pure Tryd.prog 16 [.agg [I op, Tx n, Tx tl, I ty, CX z.re z.im, .sl (em aO args), I p]] (I (gE (.mk op n tl ty z args p)))
 generalize hR : eI args = R at *
 refine fi16.pu (by simp) ?_
 simp -implicitDefEqProofs [ac16]
 refine lpG cf16 lb16_0 [3, 5, 9] (α := Nat × Nat) (fun s _ => [(3, I s.2), (5, .top), (9, I s.1)]) (fun s _ => []) (fun s k => s.1 ≤ args.length ∧ max s.2 (eI (args.drop s.1)) = R) (fun s => args.length - s.1) (0, 0) ⟨by simp, by simp [hR]⟩ (by simp) (by simp) ?_
 rintro ⟨i, m⟩ k ⟨hi, hr⟩
 simp only at hi hr
 by_cases hlt : i < args.length
 ·have wi := bB (x := (i : Int) + 1) (by omega) (by omega)
  rw [List.drop_eq_getElem_cons hlt] at hr
  unfold eI at hr
  have hx := ih1 args[i] (List.getElem_mem hlt)
  obtain ⟨x, hxe⟩ : ∃ x, args[i] = x := ⟨_, rfl⟩
  rw [hxe] at hx hr
  simp -implicitDefEqProofs [lb16_0, hlt, hxe]
  refine aH hx (by simp) ?_
  have hmx : ((max m (gE x) : Nat) : Int) = max (m : Int) (gE x : Int) := by omega
  simp -implicitDefEqProofs [wi]
  exact aL (i + 1, max m (gE x)) ⟨hlt, by simp only; omega⟩ (by simp only; omega) (by simp [hmx]) (by simp)
 ·have hil : i = args.length := by omega
  subst hil
  rw [List.drop_length] at hr
  simp only [eI, Nat.max_zero] at hr
  subst hr
  unfold gE
  rw [hR]
  rcases hop with rfl | rfl | rfl | ⟨o1, o2, o3⟩
  ·simp -implicitDefEqProofs [lb16_0, w1]
  ·simp -implicitDefEqProofs [lb16_0, w1]
  ·simp -implicitDefEqProofs [lb16_0, w1]
  ·simp -implicitDefEqProofs [lb16_0, o1, o2, o3]
mutual
theorem wG : ∀ e : Ex, tL e
 | .mk op n tl ty z args p => xD op n tl ty z args p (t8 args)
theorem t8 : ∀ l : List Ex, ∀ x ∈ l, tL x
 | [], x, h => by simp at h
 | y :: ys, x, h => by
  rcases List.mem_cons.1 h with e | h
  ·rw [e]; exact wG y
  ·exact t8 ys x h
end
theorem AF (l : List (List UInt8)) (nx : Nat) : NT l [] nx (fun d mem _ => frz mem 100 d = some (.sl (em bC l))) :=
 ⟨fun h n' _ => by subst h; simp [frz, em], fun h id n' _ _ => by simp [frz, look, List.take_of_length_le]⟩
theorem lE (e : Ex) (hz : size e ≤ 2 ^ 40) (hb : Nb e) : Pure Tryd.prog 11 [.agg (aO e)] (.sl (em bC (fD e))) :=
 iJ (by simp [aA]) (Free_t e hz hb (AF _ _))
theorem BJ (f : Fn) (hz : size f.body ≤ 2 ^ 40) (hp : f.params.length ≤ 2 ^ 40) (hb : NbFn f) : Pure Tryd.prog 15 [aggFn f] (.sl (em bC (q7 f))) :=
 iJ (by simp) (CP f hz hp hb (AF _ _))
theorem DV (taken : List (List UInt8)) (n : Int) (ht : taken.length ≤ 2 ^ 43) (hIt : n ≤ 4096 → wZ (n.toNat + taken.length)) : Pure Tryd.prog 6 [.sl (em bC taken), I n] (if 0 ≤ n ∧ n ≤ 4096 then .tup [.sl (em bC (lL taken n.toNat)), I 0] else .tup [.sl (em bC []), I 2]) := by
 refine iJ (by simp) (C0 taken n ht hIt (fun h n' _ => ?_) (fun h1 h2 id v n' _ _ => ?_))
 ·rw [if_neg h]; simp [frz, gF, em]
 ·rw [if_pos ⟨h1, h2⟩]; simp [frz, gF, look, List.take_of_length_le]
theorem uM {L L' : List (List UInt8)} (h1 : Srt L') (h2 : L'.Nodup) (h3 : ∀ x, x ∈ L ↔ x ∈ L') : d_ L [] = L' := by
 obtain ⟨a, b⟩ := j0 L [] (by simp) (by simp)
 exact AN a h1 b h2 fun x => by rw [mC, ← h3 x]; simp
def s61 : List UInt8 := [102, 40, 120, 32, 78, 44, 120, 32, 76, 41, 58, 78, 61, 122, 43, 103, 40, 41, 59]
def s62 : List UInt8 := [102, 40, 120, 32, 78, 41, 58, 78, 61, 108, 101, 116, 32, 121, 32, 78, 61, 104, 43, 120, 32, 105, 110, 32, 49, 43, 121, 59]
def q61 : List Fn × Rd := (cU 40 [] (rd0 s61 32768 32768 32768 32768)).getD ([], rd0 s61 32768 32768 32768 32768)
def q62 : List Fn × Rd := (cU 40 [] (rd0 s62 32768 32768 32768 32768)).getD ([], rd0 s62 32768 32768 32768 32768)
theorem p61 : cU 40 [] (rd0 s61 32768 32768 32768 32768) = some (q61.1, q61.2) := s_ (d := ([], rd0 s61 32768 32768 32768 32768)) (by decide)
theorem p62 : cU 40 [] (rd0 s62 32768 32768 32768 32768) = some (q62.1, q62.2) := s_ (d := ([], rd0 s62 32768 32768 32768 32768)) (by decide)
theorem read61 : lK s61 q61.1 0 0 := vX s61 (by decide) (by decide) (n := 40) (by decide) p61 (by decide) (by decide)
theorem read62 : lK s62 q62.1 0 0 := vX s62 (by decide) (by decide) (n := 40) (by decide) p62 (by decide) (by decide)
theorem rB {t : List UInt8} {L : List Fn} {w p : Int} (h : lK t L w p) : Pure Tryd.prog 10 [.sl (em c_ t)] (.tup [.agg [.sl (em dO L)], .pl (.bool (decide (w = 0)))]) := by
 refine fi10.pu (by simp) ?_
 simp -implicitDefEqProofs [ac10]
 refine aH (wide_c) (by simp) ?_
 simp -implicitDefEqProofs
 refine aH (h.1) (by simp) ?_
 simp -implicitDefEqProofs
theorem DI : oN q61.1 = (30, 6) := by decide
theorem len61 : q61.1.length = 1 := by decide
theorem len62 : q62.1.length = 1 := by decide
theorem sz61 : ∀ f ∈ q61.1, size f.body ≤ 2 ^ 40 ∧ f.params.length ≤ 2 ^ 40 := by decide
def f62 : Fn := q62.1[0]?.getD default
theorem zM : aS (bN f62.body []) = [[104], [120]] := by decide
theorem all62 : allN f62 = [[102], [120], [121], [104], [120], [121]] := by decide
theorem yF : size f62.body = 7 := by decide
theorem nest62 : gE f62.body = 1 := by decide
theorem par62 : f62.params.length = 1 := by decide
set_option maxHeartbeats 8000000
theorem xV {α : Type} {a b : List α} {i : Nat} (h1 : i < a.length) (h2 : i < b.length) (h : a.take i = b.take i) (he : a[i]? = b[i]?) : a.take (i + 1) = b.take (i + 1) := by
 rw [List.take_add_one, List.take_add_one, h, he]
theorem rD (a b : List (List UInt8)) (ha : a.length < 2 ^ 60) : Pure Tryd.prog 8 [.sl (em bC a), .sl (em bC b)] (.pl (.bool (decide (a = b)))) := by
 refine fi8.pu (by simp) ?_
 by_cases hl : a.length = b.length
 ·have hl2 : (a.length : Int) = (b.length : Int) := by omega
  simp -implicitDefEqProofs [ac8, hl2]
  generalize hR : decide (a = b) = R
  refine lpG cf8 lb8_0 [4, 5] (α := Nat) (fun s _ => [(4, .top), (5, I s)]) (fun s _ => []) (fun s k => s ≤ a.length ∧ a.take s = b.take s) (fun s => a.length - s) 0 ⟨by simp, by simp⟩ (by simp) (by simp) ?_
  rintro i k ⟨hi, hc⟩
  by_cases hlt : i < a.length
  ·have hlt2 : i < b.length := by omega
   have hlti : (i : Int) < (b.length : Int) := by omega
   have w1 := bB (x := (i : Int) + 1) (by omega) (by omega)
   obtain ⟨p, hp⟩ : ∃ p, a[i] = p := ⟨_, rfl⟩
   obtain ⟨q, hq⟩ : ∃ q, b[i] = q := ⟨_, rfl⟩
   by_cases he : p = q
   ·simp -implicitDefEqProofs [lb8_0, hlt, hlt2, hlti, hl2, hp, hq, he, w1]
    exact aL (i + 1) ⟨hlt, xV hlt hlt2 hc (by rw [List.getElem?_eq_getElem hlt, List.getElem?_eq_getElem hlt2, hp, hq, he])⟩ (by omega) (by simp) (by simp)
   ·have hno : R = false := by
     rw [← hR, decide_eq_false_iff_not]
     rintro rfl
     rw [hp] at hq
     exact he hq
    subst hno
    simp -implicitDefEqProofs [lb8_0, hlt, hlt2, hlti, hl2, hp, hq, he]
  ·have hil : i = a.length := by omega
   subst hil
   rw [List.take_length, hl, List.take_length] at hc
   have hyes : R = true := by rw [← hR, decide_eq_true_eq]; exact hc
   subst hyes
   have hlt2 : ¬ a.length < b.length := by omega
   simp -implicitDefEqProofs [lb8_0, hlt, hlt2, hl2]
 ·have hl2 : ¬ (a.length : Int) = (b.length : Int) := by omega
  have e : decide (a = b) = false := by rw [decide_eq_false_iff_not]; exact fun h => hl (by rw [h])
  rw [e]
  simp -implicitDefEqProofs [ac8, hl2]
theorem EG : fD f62.body = [[104], [120]] := by
 unfold fD; rw [zM]
 exact uM (by decide) (by decide) (fun x => Iff.rfl)
theorem C8 : q7 f62 = [[102], [104], [120], [121]] := by
 unfold q7; rw [all62]
 refine uM (by decide) (by decide) (fun x => ?_)
 simp only [List.mem_cons, List.not_mem_nil, or_false]
 constructor
 ·rintro (h | h | h | h | h | h) <;> simp [h]
 ·rintro (h | h | h | h) <;> simp [h]
theorem CJ : lL [[116, 50]] 2 = [[116, 49], [116, 51]] := by
 have d1 : Lib.decDigits 1 = [49] := by rw [jY (by decide)]; decide
 have d2 : Lib.decDigits 2 = [50] := by rw [jY (by decide)]; decide
 have d3 : Lib.decDigits 3 = [51] := by rw [jY (by decide)]; decide
 simp [lL, jV, nm, d1, d2, d3, aZ]
theorem lit61 : em c_ s61 = [[By 102], [By 40], [By 120], [By 32], [By 78], [By 44], [By 120], [By 32], [By 76], [By 41], [By 58], [By 78], [By 61], [By 122], [By 43], [By 103], [By 40], [By 41], [By 59]] := rfl
theorem lit62 : em c_ s62 = [[By 102], [By 40], [By 120], [By 32], [By 78], [By 41], [By 58], [By 78], [By 61], [By 108], [By 101], [By 116], [By 32], [By 121], [By 32], [By 78], [By 61], [By 104], [By 43], [By 120], [By 32], [By 105], [By 110], [By 32], [By 49], [By 43], [By 121], [By 59]] := rfl
theorem sz62 : size f62.body ≤ 2 ^ 40 := by rw [yF]; decide
theorem nb62 : NbFn f62 := by
 have h : NbF q62.1 := Run.nb (t := s62) (.inr ⟨40, _, _, p62, rfl, by decide⟩)
 have hl2 : 0 < q62.1.length := by rw [len62]; decide
 refine h f62 ?_
 have e : f62 = q62.1[0] := by unfold f62; rw [List.getElem?_eq_getElem hl2]; rfl
 rw [e]; exact List.getElem_mem hl2
theorem t6 : Pure Tryd.prog 5 [] (.pl (.bool true)) := by
 refine fi5.pu (by simp) ?_
 have h1 := rB read61
 have h2 := rB read62
 have hc := CI q61.1 (by rw [len61]; decide) sz61
 rw [DI] at hc
 have hf := lE f62.body sz62 nb62.body
 have hu := nJ f62.body [120] sz62
 have hn := BJ f62 sz62 (by rw [par62]; decide) nb62
 have hs := nL f62.body sz62
 have hne := wG f62.body sz62
 have hfr := DV [[116, 50]] 2 (by decide) (fun _ k hk => vR k (Nat.le_trans hk (by decide)))
 have e2 : (2 : Int).toNat = 2 := rfl
 rw [if_pos (by decide), e2, CJ] at hfr
 rw [EG] at hf
 rw [zM] at hu
 rw [C8] at hn
 rw [yF] at hs
 rw [nest62] at hne
 have hc1 : (([[104], [120]] : List (List UInt8)).count [120] : Int) = 1 := by decide
 rw [hc1] at hu
 have s1 := rD [[104], [120]] [[104], [120]] (by decide)
 have s2 := rD [[102], [104], [120], [121]] [[102], [104], [120], [121]] (by decide)
 have s3 := rD [[116, 49], [116, 51]] [[116, 49], [116, 51]] (by decide)
 have hl2 : 0 < q62.1.length := by rw [len62]; decide
 have hf1 : (q62.1[0]?.getD default) = f62 := rfl
 have hf2 : q62.1[0] = f62 := by unfold f62; rw [List.getElem?_eq_getElem hl2]; rfl
 simp only [aA] at hf hu hs
 generalize f62 = F at *
 generalize q61.1 = L1 at *
 generalize q62.1 = L2 at *
 rw [lit61] at h1
 rw [lit62] at h2
 have hd0 : decide ((0 : Int) = 0) = true := rfl
 rw [hd0] at h1 h2
 have l1 : em bC [[104], [120]] = [[Tx [104]], [Tx [120]]] := rfl
 have l2 : em bC [[102], [104], [120], [121]] = [[Tx [102]], [Tx [104]], [Tx [120]], [Tx [121]]] := rfl
 have l3 : em bC [[116, 49], [116, 51]] = [[Tx [116, 49]], [Tx [116, 51]]] := rfl
 have l4 : em bC [[116, 50]] = [[Tx [116, 50]]] := rfl
 have dt : ∀ {p : Prop} [Decidable p], p → decide p = true := fun h => decide_eq_true h
 rw [dt rfl, l1] at s1
 rw [dt rfl, l2] at s2
 rw [dt rfl, l3] at s3
 rw [l1] at hf
 rw [l2] at hn
 rw [l3, l4] at hfr
 simp -implicitDefEqProofs [ac5]
 refine aH h1 (by simp) ?_
 simp -implicitDefEqProofs
 refine aH h2 (by simp) ?_
 simp -implicitDefEqProofs [hf1, hf2, hl2]
 refine aH (hfr) (by simp) ?_
 simp -implicitDefEqProofs [hf1, hf2, hl2]
 refine aH (hc) (by simp) ?_
 simp -implicitDefEqProofs [C6, hf1, hf2, hl2]
 refine aH (hf) (by simp) ?_
 simp -implicitDefEqProofs [hf1, hf2, hl2]
 refine aH (s1) (by simp) ?_
 simp -implicitDefEqProofs [hf1, hf2, hl2]
 refine aH (hu) (by simp) ?_
 simp -implicitDefEqProofs [hf1, hf2, hl2]
 refine aH (hn) (by simp) ?_
 simp -implicitDefEqProofs [hf1, hf2, hl2]
 refine aH (s2) (by simp) ?_
 simp -implicitDefEqProofs [hf1, hf2, hl2]
 refine aH (hs) (by simp) ?_
 simp -implicitDefEqProofs [hf1, hf2, hl2]
 refine aH (hne) (by simp) ?_
 simp -implicitDefEqProofs [hf1, hf2, hl2]
 refine aH (s3) (by simp) ?_
 simp -implicitDefEqProofs
set_option maxRecDepth 1000000
set_option maxHeartbeats 0
noncomputable def cf4 : Cfg := ⟨Tryd.prog, 242, [0, 1, 2, 3, 8, 9, 10, 11, 12, 13, 14, 15, 16, 17, 18, 19, 20, 21, 22, 23, 24], [144, 146, 150]⟩
noncomputable def lb4_0 : AC :=
 .seq (.ifr [JA 151 21, JA 152 20, JO 153 (.len false (.t 152)), JO 154 (.bin .lss 3 (.t 151) (.t 153))] (.t 154) .skip (.exit 0)) (.seq (.block 1 (.seq (.reg [JA 157 20, JA 158 21, JL 159 1 157 158, JD 160 1 159, JB 22 160]) (.seq (.reg [JA 161 14, JA 162 22, JO 163 (.pc (.f 9) [.t 161, .t 162]), JB 23 163]) (.seq (.reg [JA 164 15, JA 165 22, JO 166 (.pc (.f 9) [.t 164, .t 165]), JB 24 166]) (.ifr [JA 167 16, JA 168 22, JO 169 (.pc (.f 9) [.t 167, .t 168]), JA 170 22, JA 171 2, JO 172 (.bin .neq 9 (.t 170) (.t 171)), JC 173 172, JS 174 173 (.mv (.g 23)), JS 175 173 (.mv (.t 174)), JR 176 175 (.mv (.g 24)), JS 177 173 (.pick (.t 175) JX (.t 176)), JO 178 (.pick (.t 173) (.t 177) JY), JO 179 (.bin .neq 4 (.t 169) (.t 178)), JC 180 179, JR 181 180 (.mv (.g 17)), JR 182 180 (.mv (.g 22)), JR 183 180 (.pc (.f 9) [.t 181, .t 182]), JR 184 180 (.mv (.g 23)), JR 185 180 (.mv (.t 184)), JR 186 185 (.mv (.g 22)), JR 187 185 (.mv (.g 2)), JR 188 185 (.bin .neq 9 (.t 186) (.t 187)), JR 189 185 (.mv (.t 188)), JS 190 189 (.mv (.g 24)), JR 191 185 (.pick (.t 189) (.t 190) JY), JR 192 180 (.pick (.t 185) JX (.t 191)), JR 193 180 (.bin .neq 4 (.t 183) (.t 192)), JO 194 (.pick (.t 180) JX (.t 193)), JC 195 194, JR 196 195 (.mv (.g 18)), JR 197 195 (.mv (.g 22)), JR 198 195 (.pc (.f 9) [.t 196, .t 197]), JR 199 195 (.mv (.g 23)), JR 200 195 (.mv (.t 199)), JR 201 200 (.mv (.g 22)), JR 202 200 (.mv (.g 2)), JR 203 200 (.bin .neq 9 (.t 201) (.t 202)), JR 204 200 (.mv (.t 203)), JS 205 204 (.mv (.g 22)), JS 206 204 (.mv (.g 3)), JS 207 204 (.bin .neq 9 (.t 205) (.t 206)), JR 208 200 (.pick (.t 204) (.t 207) JY), JR 209 200 (.mv (.t 208)), JS 210 209 (.mv (.g 24)), JR 211 200 (.pick (.t 209) (.t 210) JY), JR 212 195 (.pick (.t 200) JX (.t 211)), JR 213 195 (.bin .neq 4 (.t 198) (.t 212)), JO 214 (.pick (.t 195) JX (.t 213)), JC 215 214, JR 216 215 (.mv (.g 23)), JR 217 215 (.ld true 7 (.g 11)), JR 218 215 (.mv (.g 22)), JR 219 215 (.pc (.f 13) [.t 217, .t 218]), JR 220 215 (.bin .gtr 3 (.t 219) (JT 0)), JR 221 215 (.bin .neq 4 (.t 216) (.t 220)), JO 222 (.pick (.t 215) JX (.t 221))] (.t 222) (.seq (.reg [JP 8 (.mv JY)]) .ret) .skip))))) (.reg [JA 155 21, JO 156 (.bin .add 3 (.t 155) (JT 1)), JB 21 156]))
noncomputable def ac4 : AC :=
 (.seq (.reg [JP 8 (.mv JY)]) (.seq (.ifr [JO 25 (.pc (.f 5) []), JO 26 (.un .not (.t 25))] (.t 26) (.seq (.reg [JP 8 (.mv JY)]) .ret) .skip) (.seq (.reg [JA 28 0, JO 29 (.bin .add 9 (.c (.string (ByteArray.mk (Array.mk [102, 40, 41, 58, 78, 61, 40])))) (.t 28)), JO 30 (.bin .add 9 (.t 29) (.c (.string (ByteArray.mk (Array.mk [10, 41, 59, 103, 40, 41, 58, 78, 61, 40]))))), JA 31 1, JO 32 (.bin .add 9 (.t 30) (.t 31)), JO 33 (.bin .add 9 (.t 32) (.c (.string (ByteArray.mk (Array.mk [10, 41, 59, 104, 40]))))), JA 34 2, JO 35 (.bin .add 9 (.t 33) (.t 34)), JO 36 (.bin .add 9 (.t 35) (.c (.string (ByteArray.mk (Array.mk [32, 78, 44]))))), JA 37 3, JO 38 (.bin .add 9 (.t 36) (.t 37)), JO 39 (.bin .add 9 (.t 38) (.c (.string (ByteArray.mk (Array.mk [32, 76, 41, 58, 78, 61, 49, 59]))))), JO 40 (.cv 9 37 (.t 39)), JO 41 (.pc (.f 10) [.t 40]), JC 27 41, JK 42 0 27, JK 43 1 27, JP 9 (.al [JW]), JQ (.st 1 (.g 9) (.t 42)), JB 10 43]) (.seq (.ifr [JA 44 10, JO 45 (.un .not (.t 44)), JC 46 45, JR 47 46 (.fa 0 (.g 9)), JR 48 46 (.ld false 1 (.t 47)), JR 49 46 (.len false (.t 48)), JR 50 46 (.bin .neq 3 (.t 49) (JT 3)), JO 51 (.pick (.t 46) JX (.t 50)), JC 52 51, JR 53 52 (.fa 0 (.g 9)), JR 54 52 (.ld false 1 (.t 53)), JR 55 52 (.ia 11 (.t 54) (JT 2)), JR 56 52 (.fa 1 (.t 55)), JR 57 52 (.ld false 1 (.t 56)), JR 58 52 (.len false (.t 57)), JR 59 52 (.bin .neq 3 (.t 58) (JT 2)), JO 60 (.pick (.t 52) JX (.t 59)), JC 61 60, JR 62 61 (.fa 0 (.g 9)), JR 63 61 (.ld false 1 (.t 62)), JR 64 61 (.ia 11 (.t 63) (JT 2)), JR 65 61 (.fa 1 (.t 64)), JR 66 61 (.ld false 1 (.t 65)), JR 67 61 (.ia 3 (.t 66) (JT 0)), JR 68 61 (.fa 0 (.t 67)), JR 69 61 (.ld false 1 (.t 68)), JR 70 61 (.mv (.g 2)), JR 71 61 (.bin .neq 9 (.t 69) (.t 70)), JO 72 (.pick (.t 61) JX (.t 71)), JC 73 72, JR 74 73 (.fa 0 (.g 9)), JR 75 73 (.ld false 1 (.t 74)), JR 76 73 (.ia 11 (.t 75) (JT 2)), JR 77 73 (.fa 1 (.t 76)), JR 78 73 (.ld false 1 (.t 77)), JR 79 73 (.ia 3 (.t 78) (JT 1)), JR 80 73 (.fa 0 (.t 79)), JR 81 73 (.ld false 1 (.t 80)), JR 82 73 (.mv (.g 3)), JR 83 73 (.bin .neq 9 (.t 81) (.t 82)), JO 84 (.pick (.t 73) JX (.t 83))] (.t 84) (.seq (.reg [JP 8 (.mv JX)]) .ret) .skip) (.seq (.reg [JG 85 0 9, JD 86 1 85, JO 87 (.ia 11 (.t 86) (JT 0)), JH 88 3 87, JE 89 7 88, JP 11 (.al [JV, JU, JU, JV, .complex .f64 0 0, JW, JV]), JQ (.st 7 (.g 11) (.t 89))]) (.seq (.reg [JG 90 0 9, JD 91 1 90, JO 92 (.ia 11 (.t 91) (JT 1)), JH 93 3 92, JE 94 7 93, JP 12 (.al [JV, JU, JU, JV, .complex .f64 0 0, JW, JV]), JQ (.st 7 (.g 12) (.t 94))]) (.seq (.reg [JF 95 7 11, JF 96 7 12, JO 97 (.bsl 7 2 [JV, JU, JU, JV, .complex .f64 0 0, JW, JV] [(0, 7, .t 95), (7, 7, .t 96)]), JB 13 97]) (.seq (.reg [JF 98 7 11, JO 99 (.pc (.f 11) [.t 98]), JB 14 99]) (.seq (.reg [JF 100 7 12, JO 101 (.pc (.f 11) [.t 100]), JB 15 101]) (.seq (.reg [JA 102 2, JA 103 13, JO 104 (.bld [JV, JU, JU, JV, .complex .f64 0 0, JW, JV] [(0, 1, .c (.int .i64 21)), (1, 1, .t 102), (3, 1, .c (.int .i64 1)), (5, 1, .t 103)]), JO 105 (.pc (.f 11) [.t 104]), JB 16 105]) (.seq (.reg [JA 106 2, JA 107 13, JO 108 (.bld [JV, JU, JU, JV, .complex .f64 0 0, JW, JV] [(0, 1, .c (.int .i64 22)), (1, 1, .t 106), (3, 1, .c (.int .i64 1)), (5, 1, .t 107)]), JO 109 (.pc (.f 11) [.t 108]), JB 17 109]) (.seq (.reg [JA 110 2, JA 111 3, JF 112 7 11, JF 113 7 11, JF 114 7 12, JO 115 (.bsl 7 3 [JV, JU, JU, JV, .complex .f64 0 0, JW, JV] [(0, 7, .t 112), (7, 7, .t 113), (14, 7, .t 114)]), JO 116 (.bld [JV, JU, JU, JV, .complex .f64 0 0, JW, JV] [(0, 1, .c (.int .i64 20)), (1, 1, .t 110), (2, 1, .t 111), (5, 1, .t 115)]), JO 117 (.pc (.f 11) [.t 116]), JB 18 117]) (.seq (.reg [JA 118 13, JO 119 (.bld [JV, JU, JU, JV, .complex .f64 0 0, JW, JV] [(0, 1, .c (.int .i64 8)), (5, 1, .t 118)]), JP 19 (.al [JV, JU, JU, JV, .complex .f64 0 0, JW, JV]), JQ (.st 7 (.g 19) (.t 119))]) (.seq (.ifr [JF 120 7 19, JO 121 (.pc (.f 12) [.t 120]), JF 122 7 11, JO 123 (.pc (.f 12) [.t 122]), JF 124 7 12, JO 125 (.pc (.f 12) [.t 124]), JO 126 (.bin .add 3 (.t 123) (.t 125)), JO 127 (.bin .add 3 (.t 126) (JT 1)), JO 128 (.bin .neq 3 (.t 121) (.t 127)), JC 129 128, JR 130 129 (.ld true 7 (.g 19)), JR 131 129 (.mv (.g 2)), JR 132 129 (.pc (.f 13) [.t 130, .t 131]), JR 133 129 (.ld true 7 (.g 11)), JR 134 129 (.mv (.g 2)), JR 135 129 (.pc (.f 13) [.t 133, .t 134]), JR 136 129 (.ld true 7 (.g 12)), JR 137 129 (.mv (.g 2)), JR 138 129 (.pc (.f 13) [.t 136, .t 137]), JR 139 129 (.bin .add 3 (.t 135) (.t 138)), JR 140 129 (.bin .neq 3 (.t 132) (.t 139)), JO 141 (.pick (.t 129) JX (.t 140))] (.t 141) (.seq (.reg [JP 8 (.mv JY)]) .ret) .skip) (.seq (.reg [.mk (.t 142) none .z0, JA 143 14, JO 144 (.app 1 16 [JU] (.t 142) (.t 143)), JA 145 15, JO 146 (.app 1 16 [JU] (.t 144) (.t 145)), JA 147 2, JA 148 3, JO 149 (.bsl 1 2 [JU] [(0, 1, .t 147), (1, 1, .t 148)]), JO 150 (.app 1 16 [JU] (.t 146) (.t 149)), JB 20 150]) (.seq (.seq (.reg [JI 21 0]) (.block 0 (.loop lb4_0))) (.seq (.reg [JA 223 16, JO 224 (.len false (.t 223)), JA 225 20, JO 226 (.len false (.t 225)), JO 227 (.bin .leq 3 (.t 224) (.t 226)), JC 228 227, JS 229 228 (.mv (.g 17)), JS 230 228 (.len false (.t 229)), JS 231 228 (.mv (.g 20)), JS 232 228 (.len false (.t 231)), JS 233 228 (.bin .leq 3 (.t 230) (.t 232)), JO 234 (.pick (.t 228) (.t 233) JY), JC 235 234, JS 236 235 (.mv (.g 18)), JS 237 235 (.len false (.t 236)), JS 238 235 (.mv (.g 20)), JS 239 235 (.len false (.t 238)), JS 240 235 (.bin .leq 3 (.t 237) (.t 239)), JO 241 (.pick (.t 235) (.t 240) JY), JB 8 241]) .ret)))))))))))))))))
theorem fi4 : FI Tryd.prog 4 cf4 ac4 [.t 8] [0, 1, 2, 3, 8, 9, 10, 11, 12, 13, 14, 15, 16, 17, 18, 19, 20, 21, 22, 23, 24] 242 := FI_of (c := Tryd.f4.body.getD .skip) Tryd.func4 (by kernel_rfl) (by rfl) (by rfl) (by kernel_rfl) (by kernel_rfl) rfl rfl rfl
@[simp] theorem cfP4 : cf4.P = Tryd.prog := (rfl)
@[simp] theorem neL06b_4 {a b : Bool} : bD Tryd.prog .neq 4 (.pl (.bool a)) (.pl (.bool b)) = some (.pl (.bool (!decide (a = b)))) := B9 Tryd.underlying4
set_option maxRecDepth 100000
set_option maxHeartbeats 8000000
theorem AG (N : List (List UInt8)) (e : Ex) (op : Int) (n0 n : List UInt8) (he : e.name = n0) : n ∈ aS (if op = 6 ∨ op = 7 then [(e, op = 6 && !aZ N n0)] else []) ↔ op = 6 ∧ n = n0 ∧ n0 ∉ N := by
 have hh : aZ N n0 = false ↔ n0 ∉ N := by
  rw [← eR]; simp
 by_cases h6 : op = 6
 ·rw [if_pos (.inl h6)]
  by_cases g : aZ N n0 = false
  ·simp [aS, h6, g, he, hh.1 g]
  ·have g' : aZ N n0 = true := by simpa using g
   have : n0 ∈ N := (eR _ _).1 g'
   simp [aS, h6, g', this]
 ·by_cases h7 : op = 7
  ·rw [if_pos (.inr h7)]; simp [aS, h6]
  ·rw [if_neg (by omega)]; simp [aS, h6]
theorem hO (op : Int) (n t : List UInt8) (ty : Int) (z : Cx) (args : List Ex) (p : Int) (N : List (List UInt8)) : bN (.mk op n t ty z args p) N = (if op = 6 ∨ op = 7 then [(.mk op n t ty z args p, op = 6 && !aZ N n)] else []) ++ cI op n t 0 args N := by
 rw [bN]
mutual
theorem pN (A : List (List UInt8)) (n : List UInt8) : ∀ (e : Ex) (N : List (List UInt8)), n ∈ aS (bN e (A ++ N)) ↔ n ∈ aS (bN e N) ∧ n ∉ A
 | .mk op n0 t ty z args p, N => by
  rw [hO, hO, cK, cK, List.mem_append, List.mem_append, AG (A ++ N) (.mk op n0 t ty z args p) op n0 n rfl, AG N (.mk op n0 t ty z args p) op n0 n rfl, tF A n op n0 t 0 args N, List.mem_append]
  constructor
  ·rintro (⟨h1, rfl, h3⟩ | ⟨h1, h2⟩)
   ·exact ⟨.inl ⟨h1, rfl, fun h => h3 (.inr h)⟩, fun h => h3 (.inl h)⟩
   ·exact ⟨.inr h1, h2⟩
  ·rintro ⟨⟨h1, rfl, h3⟩ | h1, h2⟩
   ·exact .inl ⟨h1, rfl, fun h => h.elim h2 h3⟩
   ·exact .inr ⟨h1, h2⟩
theorem tF (A : List (List UInt8)) (n : List UInt8) (op : Int) (n0 t : List UInt8) (i : Nat) : ∀ (l : List Ex) (N : List (List UInt8)), n ∈ aS (cI op n0 t i l (A ++ N)) ↔ n ∈ aS (cI op n0 t i l N) ∧ n ∉ A
 | [], N => by simp [cI, aS]
 | x :: xs, N => by
  unfold cI
  rw [cK, cK, List.mem_append, List.mem_append, List.append_assoc, pN A n x, tF A n op n0 t (i + 1) xs N]
  constructor
  ·rintro (⟨h1, h2⟩ | ⟨h1, h2⟩)
   ·exact ⟨.inl h1, h2⟩
   ·exact ⟨.inr h1, h2⟩
  ·rintro ⟨h1 | h1, h2⟩
   ·exact .inl ⟨h1, h2⟩
   ·exact .inr ⟨h1, h2⟩
end
abbrev frS (e : Ex) : List (List UInt8) := aS (bN e [])
theorem tY (x n : List UInt8) (e : Ex) : n ∈ aS (bN e [x]) ↔ n ∈ frS e ∧ n ≠ x := by
 have := pN [x] n e []
 simpa using this
theorem CD (x y n : List UInt8) (e : Ex) : n ∈ aS (bN e [x, y]) ↔ n ∈ frS e ∧ n ≠ x ∧ n ≠ y := by
 have := pN [x, y] n e []
 simpa using this
def jU (x : List UInt8) (E G : Ex) : Ex := .mk 21 x [] 1 ⟨0, 0⟩ [E, G] 0
def j7 (x : List UInt8) (E G : Ex) : Ex := .mk 22 x [] 1 ⟨0, 0⟩ [E, G] 0
def jW (x y : List UInt8) (E G : Ex) : Ex := .mk 20 x y 0 ⟨0, 0⟩ [E, E, G] 0
def j8 (E G : Ex) : Ex := .mk 8 [] [] 0 ⟨0, 0⟩ [E, G] 0
theorem ED (x n : List UInt8) (E G : Ex) : n ∈ frS (jU x E G) ↔ n ≠ x ∧ (n ∈ frS E ∨ n ∈ frS G) := by
 unfold frS jU
 rw [hO]
 have b : ∀ i, aJ 21 x [] i = [x] := fun i => by simp [aJ]
 simp only [cI, b, List.nil_append]
 simp only [cK, List.mem_append, tY]
 simp [aS]
 constructor
 ·rintro (⟨h1, h2⟩ | ⟨h1, h2⟩)
  ·exact ⟨h2, .inl h1⟩
  ·exact ⟨h2, .inr h1⟩
 ·rintro ⟨h1, h2 | h2⟩
  ·exact .inl ⟨h2, h1⟩
  ·exact .inr ⟨h2, h1⟩
theorem CY (x n : List UInt8) (E G : Ex) : n ∈ frS (j7 x E G) ↔ n ∈ frS E ∨ (n ≠ x ∧ n ∈ frS G) := by
 unfold frS j7
 rw [hO]
 have b0 : aJ 22 x [] 0 = [] := by simp [aJ]
 have b1 : aJ 22 x [] 1 = [x] := by simp [aJ]
 simp only [cI, List.nil_append]
 have e0 : ((0 : Nat) : Int) = 0 := rfl
 have e1 : ((0 + 1 : Nat) : Int) = 1 := rfl
 rw [e0, e1, b0, b1]
 simp only [cK, List.mem_append, tY]
 simp [aS]
 exact or_congr Iff.rfl and_comm
theorem DD (x y n : List UInt8) (E G : Ex) : n ∈ frS (jW x y E G) ↔ n ∈ frS E ∨ (n ≠ x ∧ n ≠ y ∧ n ∈ frS G) := by
 unfold frS jW
 rw [hO]
 have b0 : aJ 20 x y 0 = [] := by simp [aJ]
 have b1 : aJ 20 x y 1 = [] := by simp [aJ]
 have b2 : aJ 20 x y 2 = [x, y] := by simp [aJ]
 simp only [cI, List.nil_append]
 have e0 : ((0 : Nat) : Int) = 0 := rfl
 have e1 : ((0 + 1 : Nat) : Int) = 1 := rfl
 have e2 : ((0 + 1 + 1 : Nat) : Int) = 2 := rfl
 rw [e0, e1, e2, b0, b1, b2]
 simp only [cK, List.mem_append, CD]
 simp [aS]
 constructor
 ·rintro (h | ⟨h1, h2, h3⟩)
  ·exact .inl h
  ·exact .inr ⟨h2, h3, h1⟩
 ·rintro (h | ⟨h1, h2, h3⟩)
  ·exact .inl h
  ·exact .inr ⟨h3, h1, h2⟩
theorem sum_fr (E G : Ex) : frS (j8 E G) = frS E ++ frS G := by
 unfold frS j8
 rw [hO]
 have b : ∀ i, aJ 8 [] [] i = [] := fun i => by simp [aJ]
 simp only [cI, b, List.nil_append, List.append_nil]
 simp [cK, aS]
theorem iS (e : Ex) (n : List UInt8) : n ∈ fD e ↔ n ∈ frS e := by
 unfold fD; rw [mC]; simp
theorem pO (e : Ex) : (fD e).Nodup := (j0 (frS e) [] (by simp) (by simp)).2
theorem iQ (e : Ex) : (fD e).length ≤ size e := by
 have h1 := uZ (aS (bN e [])) []
 have h2 := fH (bN e [])
 have h3 := gL e []
 unfold fD
 simp at h1; omega
theorem cvTB6 {l : List UInt8} : cvD Tryd.prog 9 37 (Tx l) = some (.sl (em c_ l)) := cv_TB (by kernel_rfl) (by kernel_rfl)
theorem mI {x : D} (h : Arg Tryd.prog 9 x) : ∃ l : List UInt8, x = Tx l ∧ l.length < 2 ^ 48 := by
 obtain ⟨n, ds, h, k⟩ := h
 simp only [Tryd.underlying9] at k
 cases n with
 | zero => exact h.elim
 | succ n =>
  simp only [Wt, Tryd.underlying9] at h
  obtain ⟨s, rfl, hl⟩ := h
  simp only [List.cons.injEq, and_true] at k
  refine ⟨s.data.toList, by rw [← k], ?_⟩
  have : s.size = s.data.toList.length := rfl
  unfold reachBytes at hl
  omega
theorem vT (t : List UInt8) (ht : t.length < 2 ^ 60) (h : 32768 < t.length) : Pure Tryd.prog 20 [.sl (em c_ t), limD 32768 32768 32768 32768] (resD [] 22 32768) := by
 refine fi20.pu (by simp) ?_
 have h1 : (32768 : Int) < t.length := by omega
 simp -implicitDefEqProofs [ac20, mm32, h1]
theorem AA (t : List UInt8) (ht : t.length < 2 ^ 60) : ∃ L w p, lK t L w p ∧ Run t L := by
 by_cases h : 32768 < t.length
 ·exact ⟨[], 22, 32768, ⟨vT t ht h, fun h => absurd h (by decide), fun _ => rfl⟩, .inl rfl⟩
 ·exact BC t (by omega)
theorem BK {P : List Fn} (h : zV P) : P.length < 2 ^ 40 ∧ ∀ f ∈ P, size f.body ≤ 2 ^ 37 ∧ f.params.length ≤ 2 ^ 37 := by
 obtain ⟨ms, a, b, _, hl, hr, hb, hF, _⟩ := h
 obtain ⟨k1, k2⟩ := qY P a b hF
 exact ⟨by omega, fun f hf => by have := k2 f hf; omega⟩
def bt1 : List UInt8 := [102, 40, 41, 58, 78, 61, 40]
def bt2 : List UInt8 := [10, 41, 59, 103, 40, 41, 58, 78, 61, 40]
def bt3 : List UInt8 := [10, 41, 59, 104, 40]
def bt4 : List UInt8 := [32, 78, 44]
def bt5 : List UInt8 := [32, 76, 41, 58, 78, 61, 49, 59]
theorem oX (a b x y : List UInt8) (ha : a.length < 2 ^ 48) (hb : b.length < 2 ^ 48) (hx : x.length < 2 ^ 48) (hy : y.length < 2 ^ 48) :
  Pure Tryd.prog 4 [Tx a, Tx b, Tx x, Tx y] (.pl (.bool true)) := by
 have l1 : bt1.length = 7 := rfl
 have l2 : bt2.length = 10 := rfl
 have l3 : bt3.length = 5 := rfl
 have l4 : bt4.length = 3 := rfl
 have l5 : bt5.length = 8 := rfl
 have a1 := bY (P := Tryd.prog) (ty := 9) (l := bt1) (k := a) (by omega)
 have a2 := bY (P := Tryd.prog) (ty := 9) (l := bt1 ++ a) (k := bt2) (by simp only [List.length_append]; omega)
 have a3 := bY (P := Tryd.prog) (ty := 9) (l := bt1 ++ a ++ bt2) (k := b) (by simp only [List.length_append]; omega)
 have a4 := bY (P := Tryd.prog) (ty := 9) (l := bt1 ++ a ++ bt2 ++ b) (k := bt3) (by simp only [List.length_append]; omega)
 have a5 := bY (P := Tryd.prog) (ty := 9) (l := bt1 ++ a ++ bt2 ++ b ++ bt3) (k := x) (by simp only [List.length_append]; omega)
 have a6 := bY (P := Tryd.prog) (ty := 9) (l := bt1 ++ a ++ bt2 ++ b ++ bt3 ++ x) (k := bt4) (by simp only [List.length_append]; omega)
 have a7 := bY (P := Tryd.prog) (ty := 9) (l := bt1 ++ a ++ bt2 ++ b ++ bt3 ++ x ++ bt4) (k := y) (by simp only [List.length_append]; omega)
 have a8 := bY (P := Tryd.prog) (ty := 9) (l := bt1 ++ a ++ bt2 ++ b ++ bt3 ++ x ++ bt4 ++ y) (k := bt5) (by simp only [List.length_append]; omega)
 have htl : (bt1 ++ a ++ bt2 ++ b ++ bt3 ++ x ++ bt4 ++ y ++ bt5).length < 2 ^ 60 := by simp only [List.length_append]; omega
 generalize hT : bt1 ++ a ++ bt2 ++ b ++ bt3 ++ x ++ bt4 ++ y ++ bt5 = T at *
 generalize bt1 ++ a ++ bt2 ++ b ++ bt3 ++ x ++ bt4 ++ y = T8 at *
 generalize bt1 ++ a ++ bt2 ++ b ++ bt3 ++ x ++ bt4 = T7 at *
 generalize bt1 ++ a ++ bt2 ++ b ++ bt3 ++ x = T6 at *
 generalize bt1 ++ a ++ bt2 ++ b ++ bt3 = T5 at *
 generalize bt1 ++ a ++ bt2 ++ b = T4 at *
 generalize bt1 ++ a ++ bt2 = T3 at *
 generalize bt1 ++ a = T2 at *
 obtain ⟨L, w, p, hr, hrun⟩ := AA T htl
 have hc := rB hr
 have hnb := hrun.nb
 clear hT htl
 unfold bt1 at a1
 unfold bt2 at a2
 unfold bt3 at a4
 unfold bt4 at a6
 unfold bt5 at a8
 refine fi4.pu (by simp) ?_
 by_cases hw : w = 0
 ·have hk := hr.2.1 hw
  obtain ⟨hPl, hsz⟩ := BK hk
  have hd : decide (w = 0) = true := by simp [hw]
  rw [hd] at hc
  simp -implicitDefEqProofs [ac4]
  refine aH (t6) (by simp) ?_
  simp -implicitDefEqProofs [a1, a2, a3, a4, a5, a6, a7, a8, cvTB6]
  refine aH (hc) (by simp) ?_
  simp -implicitDefEqProofs
  intro hL3
  refine ⟨by omega, fun hp2 => ⟨by omega, by omega, fun hxn => ⟨by omega, by omega, fun hyn => ⟨by omega, by omega, ?_⟩⟩⟩⟩
  have g0 : 0 < L.length := by omega
  have g1 : 1 < L.length := by omega
  have g2 : 2 < L.length := by omega
  have m0 : (L[0]?.getD default) ∈ L := by rw [List.getElem?_eq_getElem g0]; exact List.getElem_mem g0
  have m1 : (L[1]?.getD default) ∈ L := by rw [List.getElem?_eq_getElem g1]; exact List.getElem_mem g1
  have m2 : (L[2]?.getD default) ∈ L := by rw [List.getElem?_eq_getElem g2]; exact List.getElem_mem g2
  have hxb : sB x := by
   rw [← hxn]
   have h : 0 < (L[2]?.getD default).params.length := by omega
   rw [List.getElem?_eq_getElem h]
   exact (hnb _ m2).pars _ (List.getElem_mem h)
  have hyb : sB y := by
   rw [← hyn]
   have h : 1 < (L[2]?.getD default).params.length := by omega
   rw [List.getElem?_eq_getElem h]
   exact (hnb _ m2).pars _ (List.getElem_mem h)
  have zE := (hsz _ m0).1
  have zG := (hsz _ m1).1
  have nE := (hnb _ m0).body
  have nG := (hnb _ m1).body
  clear hxn hyn hp2 m0 m1 m2 hsz hnb hr hrun hk g0 g1 g2
  generalize (L[0]?.getD default).body = E at *
  generalize (L[1]?.getD default).body = G at *
  have nN : Nbs [E, G] := by unfold Nbs Nbs Nbs; exact ⟨nE, nG, trivial⟩
  have nN3 : Nbs [E, E, G] := by unfold Nbs; exact ⟨nE, nN⟩
  have sL : ∀ o n t u p, size (.mk o n t u ⟨0, 0⟩ [E, G] p) = 1 + (size E + (size G + 0)) := fun o n t u p => by simp only [size, aW]
  have sC : ∀ o n t u p, size (.mk o n t u ⟨0, 0⟩ [E, E, G] p) = 1 + (size E + (size E + (size G + 0))) := fun o n t u p => by simp only [size, aW]
  have em2 : em aO [E, G] = [aO E, aO G] := rfl
  have em3 : em aO [E, E, G] = [aO E, aO E, aO G] := rfl
  have c1 := lE E (by omega) nE
  have c2 := lE G (by omega) nG
  have c3 := lE (jU x E G) (by unfold jU; rw [sL]; omega) (kR hxb eV nN)
  have c4 := lE (j7 x E G) (by unfold j7; rw [sL]; omega) (kR hxb eV nN)
  have c5 := lE (jW x y E G) (by unfold jW; rw [sC]; omega) (kR hxb hyb nN3)
  have c6 := nL (j8 E G) (by unfold j8; rw [sL]; omega)
  have c7 := nL E (by omega)
  have c8 := nL G (by omega)
  have c9 := nJ (j8 E G) x (by unfold j8; rw [sL]; omega)
  have d1 := nJ E x (by omega)
  have d2 := nJ G x (by omega)
  have hs6 : size (j8 E G) = 1 + (size E + (size G + 0)) := by unfold j8; rw [sL]
  have hu9 : (aS (bN (j8 E G) [])).count x = (frS E).count x + (frS G).count x := by
   have := congrArg (List.count x) (sum_fr E G)
   rw [List.count_append] at this; exact this
  rw [hs6] at c6
  rw [hu9] at c9
  have e3 : aO (jU x E G) = [I 21, Tx x, Tx [], I 1, CX 0 0, .sl (em aO [E, G]), I 0] := by unfold jU; rw [bG]
  have e4 : aO (j7 x E G) = [I 22, Tx x, Tx [], I 1, CX 0 0, .sl (em aO [E, G]), I 0] := by unfold j7; rw [bG]
  have e5 : aO (jW x y E G) = [I 20, Tx x, Tx y, I 0, CX 0 0, .sl (em aO [E, E, G]), I 0] := by unfold jW; rw [bG]
  have e6 : aO (j8 E G) = [I 8, Tx [], Tx [], I 0, CX 0 0, .sl (em aO [E, G]), I 0] := by unfold j8; rw [bG]
  rw [e3, em2] at c3
  rw [e4, em2] at c4
  rw [e5, em3] at c5
  rw [e6, em2] at c6 c9
  have k1 := fH (bN E [])
  have k2 := gL E []
  have k3 := fH (bN G [])
  have k4 := gL G []
  have k5 := List.count_le_length (a := x) (l := frS E)
  have k6 := List.count_le_length (a := x) (l := frS G)
  have w1 := bB (x := (size E : Int) + size G) (by omega) (by omega)
  have w2 := bB (x := (size E : Int) + size G + 1) (by omega) (by omega)
  have w3 : IntKind.i64.wrap ((List.count x (aS (bN E [])) : Int) + (List.count x (aS (bN G [])) : Int)) = (List.count x (aS (bN E [])) : Int) + (List.count x (aS (bN G [])) : Int) := bB (by omega) (by unfold frS at *; omega)
  have w4 : ((1 + (size E + (size G + 0)) : Nat) : Int) = (size E : Int) + size G + 1 := by omega
  have w5 : (((frS E).count x + (frS G).count x : Nat) : Int) = (List.count x (aS (bN E [])) : Int) + (List.count x (aS (bN G [])) : Int) := by unfold frS; omega
  rw [w4] at c6
  rw [w5] at c9
  simp only [aA] at c1 c2 c3 c4 c5 c6 c7 c8 c9 d1 d2
  refine aH c1 (by simp) ?_
  simp -implicitDefEqProofs
  refine aH c2 (by simp) ?_
  simp -implicitDefEqProofs
  refine aH c3 (by simp) ?_
  simp -implicitDefEqProofs
  refine aH c4 (by simp) ?_
  simp -implicitDefEqProofs
  refine aH c5 (by simp) ?_
  simp -implicitDefEqProofs
  refine aH c6 (by simp) ?_
  simp -implicitDefEqProofs
  refine aH c7 (by simp) ?_
  simp -implicitDefEqProofs
  refine aH c8 (by simp) ?_
  simp -implicitDefEqProofs [w1, w2]
  refine aH c9 (by simp) ?_
  simp -implicitDefEqProofs
  refine aH d1 (by simp) ?_
  simp -implicitDefEqProofs
  refine aH d2 (by simp) ?_
  have hA := ED x (E := E) (G := G)
  have hB := CY x (E := E) (G := G)
  have hC := DD x y (E := E) (G := G)
  have nA := pO (jU x E G)
  have nB := pO (j7 x E G)
  have nC := pO (jW x y E G)
  have q1 := iS E
  have q2 := iS G
  have q3 := iS (jU x E G)
  have q4 := iS (j7 x E G)
  have q5 := iS (jW x y E G)
  have qU := fun n => nJ E n (by omega)
  simp only [aA] at qU
  have z1 := iQ E
  have z2 := iQ G
  have z3 := iQ (jU x E G)
  have z4 := iQ (j7 x E G)
  have z5 := iQ (jW x y E G)
  rw [show size (jU x E G) = 1 + (size E + (size G + 0)) from sL _ _ _ _ _] at z3
  rw [show size (j7 x E G) = 1 + (size E + (size G + 0)) from sL _ _ _ _ _] at z4
  rw [show size (jW x y E G) = 1 + (size E + (size E + (size G + 0))) from sC _ _ _ _ _] at z5
  generalize fD (jU x E G) = fA at *
  generalize fD (j7 x E G) = fB at *
  generalize fD (jW x y E G) = fC at *
  generalize fD E = fe at *
  generalize fD G = fg at *
  have hlit : pU 1 2 [.string (ByteArray.mk #[])] [(0, 1, Tx x), (1, 1, Tx y)] = some (.sl (em bC [x, y])) := rfl
  have b1 : fe.length * 16 ≤ 3 * 2 ^ 46 := by omega
  have b2 : (fe.length + fg.length) * 16 ≤ 3 * 2 ^ 46 := by omega
  have b3 : (fe.length + fg.length + 2) * 16 ≤ 3 * 2 ^ 46 := by omega
  have ap1 : em bC fe ++ em bC fg = em bC (fe ++ fg) := by simp [em]
  have ap2 : em bC (fe ++ fg) ++ em bC [x, y] = em bC (fe ++ fg ++ [x, y]) := by simp [em]
  have tk1 : List.take fe.length (em bC fe) = em bC fe := List.take_of_length_le (by simp)
  have tk2 : List.take (fe.length + fg.length) (em bC (fe ++ fg)) = em bC (fe ++ fg) := List.take_of_length_le (by simp)
  simp -implicitDefEqProofs [-els, -pU, els_T, w3, hlit, b1, b2, b3, ap1, ap2, tk1, tk2]
  have asc : fe ++ fg ++ [x, y] = fe ++ (fg ++ [x, y]) := List.append_assoc _ _ _
  have hal : (fe ++ (fg ++ [x, y])).length = fe.length + fg.length + 2 := by simp; omega
  have inA : ∀ s ∈ fA, s ∈ fe ++ (fg ++ [x, y]) := fun s hs => by
   have := (hA s).1 ((q3 s).1 hs)
   rcases this.2 with h | h
   ·exact List.mem_append.2 (.inl ((q1 s).2 h))
   ·exact List.mem_append.2 (.inr (List.mem_append.2 (.inl ((q2 s).2 h))))
  have inB : ∀ s ∈ fB, s ∈ fe ++ (fg ++ [x, y]) := fun s hs => by
   rcases (hB s).1 ((q4 s).1 hs) with h | h
   ·exact List.mem_append.2 (.inl ((q1 s).2 h))
   ·exact List.mem_append.2 (.inr (List.mem_append.2 (.inl ((q2 s).2 h.2))))
  have inC : ∀ s ∈ fC, s ∈ fe ++ (fg ++ [x, y]) := fun s hs => by
   rcases (hC s).1 ((q5 s).1 hs) with h | h
   ·exact List.mem_append.2 (.inl ((q1 s).2 h))
   ·exact List.mem_append.2 (.inr (List.mem_append.2 (.inl ((q2 s).2 h.2.2))))
  have lA := gO fA _ nA inA
  have lB := gO fB _ nB inB
  have lC := gO fC _ nC inC
  rw [hal] at lA lB lC
  have hv : ∀ n, ∃ A B : Bool, aZ fe n = A ∧ aZ fg n = B ∧ aZ fA n = (!decide (n = x) && (A || B)) ∧ aZ fB n = (A || (!decide (n = x) && B)) ∧ aZ fC n = (A || (!decide (n = x) && (!decide (n = y) && B))) ∧ decide (n ∈ aS (bN E [])) = A := fun n => by
   have key : ∀ (l : List (List UInt8)) (p : Prop) [Decidable p], (n ∈ l ↔ p) → aZ l n = decide p := fun l p _ h => by
    rw [Bool.eq_iff_iff, eR, h]; simp
   refine ⟨_, _, rfl, rfl, ?_, ?_, ?_, ?_⟩
   ·rw [key fA _ ((q3 n).trans (hA n)), key fe _ (q1 n), key fg _ (q2 n)]
    by_cases h1 : n = x <;> by_cases h2 : n ∈ frS E <;> by_cases h3 : n ∈ frS G <;> simp [h1, h2, h3] <;> simp_all
   ·rw [key fB _ ((q4 n).trans (hB n)), key fe _ (q1 n), key fg _ (q2 n)]
    by_cases h1 : n = x <;> by_cases h2 : n ∈ frS E <;> by_cases h3 : n ∈ frS G <;> simp [h1, h2, h3] <;> simp_all
   ·rw [key fC _ ((q5 n).trans (hC n)), key fe _ (q1 n), key fg _ (q2 n)]
    by_cases h1 : n = x <;> by_cases h4 : n = y <;> by_cases h2 : n ∈ frS E <;> by_cases h3 : n ∈ frS G <;> simp [h1, h2, h3, h4] <;> simp_all
   ·rw [key fe _ (q1 n)]
  clear hA hB hC nA nB nC q1 q2 q3 q4 q5 inA inB inC
  refine lpG cf4 lb4_0 [8, 21, 22, 23, 24] (α := Nat) (fun s _ => [(21, I s)]) (fun _ _ => [(135, .arr 2 1 (em bC (fe ++ (fg ++ [x, y])))), (69, .box [I E.op, Tx E.name, Tx E.tail, I E.type, CX E.num.re E.num.im, .sl (em aO E.args), I E.at'])]) (fun s k => 135 < k ∧ s ≤ fe.length + fg.length + 2) (fun s => fe.length + fg.length + 2 - s) 0 ⟨by omega, by omega⟩ (by simp) (nI (fun i b h => by
   simp only [look] at h ⊢
   split at h
   ·rename_i g; subst g; simpa using h
   ·split at h
    ·rename_i g g2; subst g2; simpa using h
    ·simp at h)) ?_
  generalize fe ++ (fg ++ [x, y]) = all at *
  rintro i k ⟨hk, hi⟩
  by_cases hlt : i < fe.length + fg.length + 2
  ·have hlti : (i : Int) < (fe.length : Int) + (fg.length : Int) + 2 := by omega
   have hlta : i < all.length := by omega
   have w6 := bB (x := (i : Int) + 1) (by omega) (by omega)
   obtain ⟨n, hn⟩ : ∃ n, all[i] = n := ⟨_, rfl⟩
   obtain ⟨A, B, v1, v2, v3, v4, v5, v6⟩ := hv n
   have r1 := qP fe n (by omega)
   have r2 := qP fg n (by omega)
   have r3 := qP fA n (by omega)
   have r4 := qP fB n (by omega)
   have r5 := qP fC n (by omega)
   have r6 := qU n
   rw [v1] at r1
   rw [v2] at r2
   rw [v3] at r3
   rw [v4] at r4
   rw [v5] at r5
   clear v1 v2 v3 v4 v5
   obtain ⟨X, hX⟩ : ∃ X, decide (n = x) = X := ⟨_, rfl⟩
   obtain ⟨Y, hY⟩ : ∃ Y, decide (n = y) = Y := ⟨_, rfl⟩
   rw [hX] at r3 r4 r5
   rw [hY] at r5
   have hX2 : (n = x) = (X = true) := by rw [← hX]; simp
   have hY2 : (n = y) = (Y = true) := by rw [← hY]; simp
   have hcm : (n ∈ aS (bN E [])) = (A = true) := by rw [← v6]; simp
   simp -implicitDefEqProofs [lb4_0, hlti, hlt, hlta, hal, hn, bC]
   refine aH r1 (by simp) ?_
   simp -implicitDefEqProofs
   refine aH r2 (by simp) ?_
   simp -implicitDefEqProofs
   refine aH r3 (by simp) ?_
   clear hX hY v6
   cases X <;> cases Y <;> cases A <;> cases B
   all_goals
    simp only [Bool.false_eq_true] at hX2 hY2 hcm
    simp -implicitDefEqProofs [hX2, hY2]
    refine aH r4 (by simp) ?_
    simp -implicitDefEqProofs [hX2, hY2]
    refine aH r5 (by simp) ?_
    simp -implicitDefEqProofs [hX2, hY2]
    refine aH r6 (by simp) ?_
    simp -implicitDefEqProofs [hX2, hY2, hcm, w6]
    exact aL (i + 1) ⟨by omega, by omega⟩ (by omega) (by simp) (aN _)
  ·have hlti : ¬ (i : Int) < (fe.length : Int) + (fg.length : Int) + 2 := by omega
   have la : (fA.length : Int) ≤ (fe.length : Int) + (fg.length : Int) + 2 := by omega
   have lb : (fB.length : Int) ≤ (fe.length : Int) + (fg.length : Int) + 2 := by omega
   have lc : (fC.length : Int) ≤ (fe.length : Int) + (fg.length : Int) + 2 := by omega
   simp -implicitDefEqProofs [lb4_0, hlti, hlt, la, lb, lc]
 ·have hd : decide (w = 0) = false := by simp [hw]
  rw [hd] at hc
  simp -implicitDefEqProofs [ac4]
  refine aH (t6) (by simp) ?_
  simp -implicitDefEqProofs [a1, a2, a3, a4, a5, a6, a7, a8, cvTB6]
  refine aH (hc) (by simp) ?_
  simp -implicitDefEqProofs
theorem law_ScopeBinds : ∀ xs, Args Tryd.prog Tryd.f4.params.toList xs → Pure Tryd.prog 4 xs (.pl (.bool true)) := by
 intro xs h
 rw [Tryd.params4] at h
 simp only [Args] at h
 obtain ⟨a, r, rfl, ha, b, r2, rfl, hb, c, r3, rfl, hc, d, r4, rfl, hd, rfl⟩ := h
 obtain ⟨a', rfl, ka⟩ := mI ha
 obtain ⟨b', rfl, kb⟩ := mI hb
 obtain ⟨c', rfl, kc⟩ := mI hc
 obtain ⟨d', rfl, kd⟩ := mI hd
 exact oX a' b' c' d' ka kb kc kd
end Go.Fx.YtackkeoannbnbaaDoor
set_option maxRecDepth 1000000
namespace Go.Proofs.YtackkeoannbnbaaDoor.RowScopeBinds
open Go Go.Fx Go.Proofs Go.Proofs.YtackkeoannbnbaaDoor
theorem fnRow : uY Tryd.checked 4 Tryd.f4 Rows.scopeBindsSpec (Tryd.f4.resultTypes.getD 0 0) where
 own := by kernel_rfl
 noInit := by kernel_rfl
 func := Tryd.func4
 laid := by kernel_rfl
 params := by kernel_rfl
 res := by kernel_rfl
 bool := by kernel_rfl
 vars := rfl
 spec := by
  intro H ds h
  have h' : ds.length = 4 := h.trans (by kernel_rfl)
  match ds, h' with
  | [d0, d1, d2, d3], _ => rfl
theorem met (os : Os) (args : Array Value) : laidMetH Tryd.prog Rows.scopeBindsRow.laid ((World.laidAll Tryd.prog os Rows.scopeBindsRow.laid).forCall (fun _ _ => 0) ⟨#[], args, []⟩).memory := by
 rw [MakeChecks.laidMetH_plain _ _ _ (by kernel_rfl)]
 exact laidMet_laidAll args (by kernel_rfl) (by kernel_rfl)
theorem tabs (w : World) (h : laidMetH Tryd.prog Rows.scopeBindsRow.laid w) : TB Tryd.prog (· < w.heap.size) w :=
 Go.Fx.YtackkeoannbnbaaDoor.tb_of_laid (G := 0) (by kernel_rfl) h (by kernel_rfl) (by kernel_rfl) (by kernel_rfl) (by kernel_rfl) (by kernel_rfl)
theorem over : Rows.scopeBindsRow.holds Tryd.pinned (OpenSpec.ofChange Rows.scopeBindsSpec) :=
 OpenClaim.holds_of_wide 4 Tryd.f4 rfl rfl rfl rfl rfl rfl rfl ⟨rfl, rfl, rfl, rfl, rfl⟩ rfl rfl rfl rfl rfl (by kernel_rfl) Tryd.func4 (by kernel_rfl)
  (of_decide_eq_true (by kernel_rfl)) (by unfold Func.isWrapper; first | (rw [if_pos (by decide +kernel)]; kernel_rfl) | (rw [if_neg (by decide +kernel)]; exact ⟨rfl, rfl⟩))
  (fun os started H enc _ => vM (C := Tryd.checked) (conds := []) (X := fun w => laidMetH Tryd.prog Rows.scopeBindsRow.laid w) fnRow started (fun _ _ hh h => h.of_heap hh) tabs
   (ChangeSpec.witness_shaped (enc := enc) (C := Tryd.checked) (os := os) (X := fun w _ => laidMetH Tryd.prog Rows.scopeBindsRow.laid w) false (World.laidAll Tryd.prog os Rows.scopeBindsRow.laid) #[.string (ByteArray.mk #[]), .string (ByteArray.mk #[]), .string (ByteArray.mk #[]), .string (ByteArray.mk #[])] 8 (World.laidAll_os _ _ _) (World.shaped_of_ZipB (by kernel_rfl) (by kernel_rfl)) (by kernel_rfl) (by kernel_rfl) (by kernel_rfl) (met os _)) Go.Fx.YtackkeoannbnbaaDoor.law_ScopeBinds)
theorem stands : (Tryd.f4.params.toList.all fun u => !Tryd.prog.wantsStandIn u) = true := by kernel_rfl
theorem carded : Rows.ScopeBindsCardSaid :=
 Claim7.holds_tied_plain_at .later [] [.data, .data, .data] true Rows.scopeBindsCard.stood.harness false
  over (fun _ h => by cases h) (by kernel_rfl) (fun _ h => by cases h) scopeBinds_row_tie rfl ⟨rfl, rfl⟩ (by kernel_rfl) rfl
  (fun f fn hf hfn => by
   obtain rfl : f = 4 := Option.some.inj ((show Tryd.prog.funcNamed Rows.scopeBindsRow.func = some 4 by kernel_rfl).symm.trans hf) |>.symm
   obtain rfl : fn = Tryd.f4 := (Option.some.inj (Tryd.func4.symm.trans hfn)).symm
   exact ⟨by kernel_rfl, fun j t ht => by
    have hm : t ∈ Tryd.f4.params.toList := Array.mem_toList_iff.2 (Array.mem_of_getElem? ht)
    have := List.all_eq_true.1 stands t hm
    exact (show Tryd.prog.wantsStandIn t = false by simpa using this)⟩)
  (by kernel_rfl)
end Go.Proofs.YtackkeoannbnbaaDoor.RowScopeBinds
namespace Go.Proofs.YtackkeoannbnbaaDoor
theorem scopeBinds_holds : Rows.ScopeBindsCardSaid := RowScopeBinds.carded
#print axioms scopeBinds_holds
end Go.Proofs.YtackkeoannbnbaaDoor

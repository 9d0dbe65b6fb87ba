/- The law ScopeNames answers true for every input, and every argument reads behind the call as it read before. Conditions: those of the given statement, none besides.. No condition. -/
import Derived.Test.YtackkeoannbnbaaGreatDoorNa3
import Derived.Test.YtackkeoannbnbaaGreatDoorRows
set_option linter.all false
set_option maxRecDepth 100000
set_option maxHeartbeats 4000000
namespace Go.Fx.YtackkeoannbnbaaGreatDoor
open Go Go.Fx Go.Proofs Go.Fx.Flt
theorem yR {n : Nat} (hN : n ≤ 2 ^ 40) (r : Rd) (h : r.ok) (L : List Fn) (r' : Rd) (hp : cV n [] r = some (L, r')) : RC 45 [] r r' (.agg [.sl (em dG L)]) := by
 intro id mem nx K hl hi hk
 refine aJ ?_
 refine fi45.ct (by simp) fun hfr => ?_
 simp -implicitDefEqProofs (maxDischargeDepth := 80) [ac45, hl, hi, neC hi, neA, ltA, aC, aB, aA]
 refine kT (id := nx + 1) (off := 0) (k := 11) (by rw [a6, if_pos rfl]) rfl (.inl rfl) ?_
 refine lpG cf45 lb45_0 [4] (α := Nat × List Fn × Rd) (fun _ _ => []) (fun s _ => (nx + 1 + 1, .arr s.2.1.length 11 (em dG s.2.1)) :: (nx + 1, .box [.osl (nx + 1 + 1) s.2.1.length 0 s.2.1.length]) :: (nx, .box [.pl (.slice none 0 0)]) :: upd mem id (.box (aC s.2.2)))
  (fun s m => nx + 1 + 2 ≤ m ∧ s.1 + s.2.1.length ≤ n ∧ s.2.2.ok ∧ cV s.1 s.2.1 s.2.2 = some (L, r')) (fun s => s.1) (n, [], r) ⟨by omega, by simp, h, hp⟩ (by simp) (by simp [cD hl]) ?_
 rintro ⟨f, l, y⟩ m ⟨hm, hf, hy, hrun⟩
 have Km := nfc trivial hm
 simp only at hf hy hrun
 cases f with
 | zero => simp [cV] at hrun
 | succ f =>
  unfold cV at hrun
  have cnx := eU hy
  simp only [aB] at cnx
  have go : (y.why = 0 ∧ (l = [] ∨ y.next.kind ≠ 4)) → ∃ d q, i9 f y l.length = some (d, q) ∧ cV f (l ++ [d]) q = some (L, r') ∧ q.ok ∧ RC 59 [I l.length] y q (.agg (dG d)) := fun hc => by
   rw [if_pos hc] at hrun
   cases hd : i9 f y l.length with
   | none => rw [hd] at hrun; simp at hrun
   | some p =>
    rw [hd] at hrun
    obtain ⟨k1, k2⟩ := def_s (by omega) y hy _ p.1 p.2 hd
    exact ⟨p.1, p.2, rfl, hrun, k1, k2⟩
  have stop : ¬ (y.why = 0 ∧ (l = [] ∨ y.next.kind ≠ 4)) → l = L ∧ y = r' := fun hc => by
   rw [if_neg hc] at hrun
   simpa using hrun
  by_cases g1 : y.why = 0
  ·have hu := g1
   have KF1 := And.intro Km (g1)
   by_cases h0 : l = []
   ·obtain ⟨d, q, _, hrun2, kq, cd⟩ := go ⟨g1, .inl h0⟩
    subst h0
    have hap := zA [] d
    simp only [bQ, List.length_nil] at cd
    simp -implicitDefEqProofs (maxDischargeDepth := 80) [lb45_0, hl, hi, neC hi, neA, ltA, aC, aB, aA, KF1]
    refine aD ((cd) (by simp -implicitDefEqProofs (maxDischargeDepth := 80) [hl, hi, neC hi, neA, ltA, aC, aB, aA, KF1]) (by omega) (fun m2 hm2 => ?_))
    have im2 : id < m2 := by omega
    have Km2 := nfc KF1 hm2
    simp -implicitDefEqProofs (maxDischargeDepth := 80) [hl, hi, neC hi, neA, ltA, aC, aB, aA, Km2]
    refine aI (f, [d], q) ⟨by omega, by simp only [List.length_nil, List.length_cons] at hf ⊢; omega, kq, hrun2⟩ (by simp only; omega) (by simp) ?_
    simp only [em_1, bQ, List.length_cons, List.length_nil, Nat.zero_add]
    exact (by repeat (first | exact aK _ | refine aX ?_ (by simp only [look]; repeat (first | rw [if_neg (by omega)] | exact aF (hfr _ (by omega)) | exact hfr _ (by omega)))))
   ·have hpos := List.length_pos_iff.2 h0
    by_cases g2 : y.next.kind = 4
    ·obtain ⟨rfl, rfl⟩ := stop (by simp [h0, g2])
     simp only [aC, g1] at hk
     simp -implicitDefEqProofs (maxDischargeDepth := 80) [lb45_0, hl, hi, neC hi, neA, ltA, aC, aB, aA, KF1, h0]
     refine aD ((cnx) (by simp -implicitDefEqProofs (maxDischargeDepth := 80) [hl, hi, neC hi, neA, ltA, aC, aB, aA, KF1]) (by omega) (fun m2 hm2 => ?_))
     have im2 : id < m2 := by omega
     have Km2 := nfc KF1 hm2
     simp -implicitDefEqProofs (maxDischargeDepth := 80) [hl, hi, neC hi, neA, ltA, aC, aB, aA, Km2, g2]
     exact kL (nx + 1 + 1) _ (by simp -implicitDefEqProofs (maxDischargeDepth := 80) [hl, hi, neC hi, neA, ltA, aC, aB, aA, Km2]; rfl) (by repeat (first | exact aG _ | refine aE ?_ (aF (hfr _ (by omega))) | refine aE ?_ (hfr _ (by omega)))) (aF (hfr _ (by omega))) (by simp [frz, look, List.take_of_length_le]) (hk _ (by omega))
    ·obtain ⟨d, q, _, hrun2, kq, cd⟩ := go ⟨g1, .inr g2⟩
     have hap := zA l d
     simp only [bQ] at cd
     rw [bQ d] at hap
     simp -implicitDefEqProofs (maxDischargeDepth := 80) [lb45_0, hl, hi, neC hi, neA, ltA, aC, aB, aA, KF1, h0]
     refine aD ((cnx) (by simp -implicitDefEqProofs (maxDischargeDepth := 80) [hl, hi, neC hi, neA, ltA, aC, aB, aA, KF1]) (by omega) (fun m2 hm2 => ?_))
     have im2 : id < m2 := by omega
     have Km2 := nfc KF1 hm2
     simp -implicitDefEqProofs (maxDischargeDepth := 80) [hl, hi, neC hi, neA, ltA, aC, aB, aA, Km2, g2]
     refine aD ((cd) (by simp -implicitDefEqProofs (maxDischargeDepth := 80) [hl, hi, neC hi, neA, ltA, aC, aB, aA, Km2]) (by omega) (fun m3 hm3 => ?_))
     have im3 : id < m3 := by omega
     have Km3 := nfc Km2 hm3
     simp -implicitDefEqProofs (maxDischargeDepth := 80) [hl, hi, neC hi, neA, ltA, aC, aB, aA, Km3]
     refine ⟨by omega, aI (f, l ++ [d], q) ⟨by omega, by simp only [List.length_append, List.length_cons, List.length_nil]; omega, kq, hrun2⟩ (by simp only; omega) (by simp) ?_⟩
     rw [hap]
     simp only [List.length_append, List.length_cons, List.length_nil, Nat.zero_add]
     exact (by repeat (first | exact aK _ | refine aX ?_ (by simp only [look]; repeat (first | rw [if_neg (by omega)] | exact aF (hfr _ (by omega)) | exact hfr _ (by omega)))))
  ·obtain ⟨rfl, rfl⟩ := stop (by simp [g1])
   simp -implicitDefEqProofs (maxDischargeDepth := 80) [lb45_0, hl, hi, neC hi, neA, ltA, aC, aB, aA, Km, g1]
   exact kL (nx + 1 + 1) _ (by simp -implicitDefEqProofs (maxDischargeDepth := 80) [hl, hi, neC hi, neA, ltA, aC, aB, aA, Km]; rfl) (by repeat (first | exact aG _ | refine aE ?_ (aF (hfr _ (by omega))) | refine aE ?_ (hfr _ (by omega)))) (aF (hfr _ (by omega))) (by simp [frz, look, List.take_of_length_le]) (hk _ (by omega))
def rd0 (t : List UInt8) (lt lF lA lN : Int) : Rd := ⟨(cH t).1, 0, 0, 0, lt, lF, lA, lN, 0⟩
abbrev limD (a b c d : Int) : D := .agg [I a, I b, I c, I d]
abbrev resD (l : List Fn) (w p : Int) : D := .tup [.agg [.sl (em dG l)], .agg [I w, I p]]
theorem wide_c : Pure Tryz.prog 23 [] (limD 32768 32768 32768 32768) := by
 refine fi23.pu (by simp) ?_
 simp -implicitDefEqProofs [ac23]
theorem sJ {t : List UInt8} {lt lF lA lN : Int} (ht : t.length ≤ 2 ^ 20) (hm : (cH t).2 < 0) (hN : lN ≤ 2 ^ 40) : (rd0 t lt lF lA lN).ok := by
 have h := kE (t.length + 1) t 0 [] hm
 have hl := jA (t.length + 1) t 0 [] (by omega) (by simp)
 exact ⟨h, h.1, by show (cH t).1.length ≤ 2 ^ 21; unfold cH; omega, by show (0 : Int) ≤ 0; omega, by show (0 : Int) ≤ 2 ^ 40; omega, hN⟩
theorem mm32 : min (max (32768 : Int) 0) 32768 = 32768 := by decide
theorem x8 (t : List UInt8) (ht : t.length < 2 ^ 48) (h : 32768 < t.length) : Pure Tryz.prog 22 [.sl (em cQ t), limD 32768 32768 32768 32768] (resD [] 22 32768) := by
 refine fi22.pu (by simp) ?_
 have h1 : (32768 : Int) < t.length := by omega
 simp -implicitDefEqProofs [ac22, mm32, h1]
theorem zC (t : List UInt8) (ht : t.length ≤ 32768) (hm : ¬ (cH t).2 < 0) : Pure Tryz.prog 22 [.sl (em cQ t), limD 32768 32768 32768 32768] (resD [] 20 (cH t).2) := by
 refine fi22.pu (by simp) ?_
 have h1 : ¬ (32768 : Int) < t.length := by omega
 have h2 : (0 : Int) ≤ (cH t).2 := by omega
 have hc := vQ t (by omega)
 simp -implicitDefEqProofs [ac22, mm32, h1]
 refine aH (hc) (by simp) ?_
 simp -implicitDefEqProofs [h2]
theorem tC (t : List UInt8) (ht : t.length ≤ 32768) (hm : (cH t).2 < 0) {n : Nat} (hN : n ≤ 2 ^ 40) {L : List Fn} {r : Rd} (hp : cV n [] (rd0 t 32768 32768 32768 32768) = some (L, r)) :
  Pure Tryz.prog 22 [.sl (em cQ t), limD 32768 32768 32768 32768] (if r.why = 0 then resD L 0 0 else resD [] r.why r.wh) := by
 have h1 : ¬ (32768 : Int) < t.length := by omega
 have h2 : ¬ (0 : Int) ≤ (cH t).2 := by omega
 have hc := vQ t (by omega)
 have hpr := yR hN _ (sJ (by omega) hm (by omega)) L r hp
 refine fi22.pu (by simp) ?_
 simp -implicitDefEqProofs [ac22, mm32, h1]
 refine aH (hc) (by simp) ?_
 simp -implicitDefEqProofs [h2]
 refine aD (hpr (by simp [look, aC, rd0]) (by omega) (fun m1 hm1 => ?_))
 by_cases hw : r.why = 0
 ·simp -implicitDefEqProofs [hw, aC]
 ·simp -implicitDefEqProofs [hw, aC]
def rem (r : Rd) : Nat := if r.why = 0 then r.ms.length - r.at' else 0
theorem jS {r : Rd} (h : r.why ≠ 0) : rem r = 0 := by unfold rem; rw [if_neg h]
theorem jO {r : Rd} (h : r.ok) (h0 : r.why = 0) : 1 ≤ rem r := by
 have := h.lt
 unfold rem; rw [if_pos h0]; omega
theorem jP {r : Rd} (h : r.ok) (h0 : r.why = 0) : rem r.adv + 1 = rem r := by
 have := h.lt
 simp [rem, h0]; omega
theorem eP {r : Rd} {w : Int} (hw : w ≠ 0) : (r.fail w).why ≠ 0 := by
 unfold Rd.fail
 split
 ·exact hw
 ·assumption
theorem B7 {r : Rd} {w : Int} (hw : w ≠ 0) : rem (r.fail w) = 0 := jS (eP hw)
def Down (r q : Rd) : Prop := q.ok ∧ rem q ≤ rem r ∧ (q.why = 0 → rem q < rem r)
theorem fD {r : Rd} (h : r.ok) {w : Int} (hw : w ≠ 0) : Down r (r.fail w) := ⟨Rd.ok_fail h _, by rw [B7 hw]; omega, fun g => absurd g (eP hw)⟩
theorem jZ {r : Rd} (h : r.ok) (h0 : r.why = 0) (h4 : r.next.kind ≠ 4) : Down r r.adv := by
 have := jP h h0
 exact ⟨Rd.ok_adv h h4, by omega, fun _ => by omega⟩
theorem dP {r : Rd} (h : r.ok) {s : List UInt8} (hs : r.is s = true) : Down r r.adv := jZ h (Rd.is_kind hs).1 (Rd.is_4 hs)
theorem bL {r : Rd} (h : r.ok) (s : List UInt8) : Down r (r.want s) := by
 unfold Rd.want
 cases hs : r.is s
 ·exact fD h (by decide)
 ·exact dP h hs
theorem fA {r : Rd} (h : r.ok) : Down r r.name.2 := by
 unfold Rd.name
 cases hb : r.bad
 ·unfold Rd.bad at hb
  simp at hb
  exact jZ h hb.1 (by omega)
 ·exact fD h (by decide)
theorem l8 {r : Rd} (h : r.ok) : Down r r.typ.2 := by
 unfold Rd.typ
 cases h1 : r.is [78]
 ·cases h2 : r.is [66]
  ·cases h3 : r.is [76]
   ·exact fD h (by decide)
   ·exact dP h h3
  ·exact dP h h2
 ·exact dP h h1
theorem Down.trans {r q s : Rd} (h : Down r q) (k : Down q s) : Down r s := ⟨k.1, by have := h.2.1; have := k.2.1; omega, fun g => by have := k.2.2 g; have := h.2.1; omega⟩
def Le (r q : Rd) : Prop := q.ok ∧ rem q ≤ rem r
theorem Down.le {r q : Rd} (h : Down r q) : Le r q := ⟨h.1, h.2.1⟩
theorem Le.refl {r : Rd} (h : r.ok) : Le r r := ⟨h, Nat.le_refl _⟩
theorem Down.after {r q s : Rd} (h : Down r q) (k : Le q s) : Down r s := ⟨k.1, by have := h.2.1; have := k.2; omega, fun g => by
 by_cases hq : q.why = 0
 ·have := h.2.2 hq; have := k.2; omega
 ·have := jS hq; have := k.2; have := jO k.1 g; omega⟩
theorem Le.trans {r q s : Rd} (h : Le r q) (k : Le q s) : Le r s := ⟨k.1, by have := h.2; have := k.2; omega⟩
def i_ (run : PR) (r : Rd) : Prop := ∃ e q, run = some (e, q) ∧ Down r q
def l7 {α : Type} (run : Option (α × Rd)) (r : Rd) : Prop := ∃ e q, run = some (e, q) ∧ Le r q
theorem t_ {N : Nat} (h1 : ∀ k, k < N → ∀ r, r.ok → 20 * rem r + 4 ≤ k → i_ (cI k r) r) : ∀ n a (r : Rd), n ≤ N → r.ok → 20 * rem r + 1 ≤ n → l7 (d9 n a r) r := by
 intro n
 induction n with
 | zero => intro a r _ _ h; omega
 | succ n ih =>
  intro a r hn h hf
  unfold d9
  split
  ·rename_i hs
   have d : Down r r.adv := by
    rcases Bool.or_eq_true_iff.1 hs with g | g
    ·exact dP h g
    ·exact dP h g
   have g0 : r.why = 0 := by
    rcases Bool.or_eq_true_iff.1 hs with g | g
    ·exact (Rd.is_kind g).1
    ·exact (Rd.is_kind g).1
   have ra := jP h g0
   obtain ⟨b, q, hq, dq⟩ := h1 n (by omega) r.adv d.1 (by omega)
   rw [hq]
   have := dq.2.1
   obtain ⟨e, s, hs2, ds⟩ := ih (two (if r.next.text = [45] then 9 else 8) a b r.next) q (by omega) dq.1 (by omega)
   exact ⟨e, s, hs2, (d.trans dq).le.trans ds⟩
  ·exact ⟨a, r, rfl, Le.refl h⟩
theorem rG {N : Nat} (h1 : ∀ k, k < N → ∀ r, r.ok → 20 * rem r + 3 ≤ k → i_ (cK k r) r) : ∀ n a (r : Rd), n ≤ N → r.ok → 20 * rem r + 1 ≤ n → l7 (dC n a r) r := by
 intro n
 induction n with
 | zero => intro a r _ _ h; omega
 | succ n ih =>
  intro a r hn h hf
  unfold dC
  split
  ·rename_i hs
   have d : Down r r.adv := by
    rcases Bool.or_eq_true_iff.1 hs with g | g
    ·exact dP h g
    ·exact dP h g
   have g0 : r.why = 0 := by
    rcases Bool.or_eq_true_iff.1 hs with g | g
    ·exact (Rd.is_kind g).1
    ·exact (Rd.is_kind g).1
   have ra := jP h g0
   obtain ⟨b, q, hq, dq⟩ := h1 n (by omega) r.adv d.1 (by omega)
   rw [hq]
   have := dq.2.1
   obtain ⟨e, s, hs2, ds⟩ := ih (two (if r.next.text = [47] then 11 else 10) a b r.next) q (by omega) dq.1 (by omega)
   exact ⟨e, s, hs2, (d.trans dq).le.trans ds⟩
  ·exact ⟨a, r, rfl, Le.refl h⟩
theorem wT {N : Nat} (h1 : ∀ k, k < N → ∀ r, r.ok → 20 * rem r + 8 ≤ k → i_ (aZ k r) r) : ∀ n l (r : Rd), n ≤ N → r.ok → 20 * rem r + 9 ≤ n → l7 (cS n l r) r := by
 intro n
 induction n with
 | zero => intro a r _ _ h; omega
 | succ n ih =>
  intro l r hn h hf
  unfold cS
  split
  ·rename_i hs
   have rp := jO h hs.1
   have d : Le r (if l = [] then r else r.want [44]) := by
    split
    ·exact Le.refl h
    ·exact (bL h _).le
   generalize (if l = [] then r else r.want [44]) = r1 at *
   have := d.2
   obtain ⟨b, q, hq, dq⟩ := h1 n (by omega) r1 d.1 (by omega)
   rw [hq]
   have hb : 20 * rem q + 9 ≤ n := by
    by_cases g : q.why = 0
    ·have := dq.2.2 g; omega
    ·have := jS g; omega
   obtain ⟨e, s, hs2, ds⟩ := ih (l ++ [b]) q (by omega) dq.1 hb
   exact ⟨e, s, hs2, d.trans (dq.le.trans ds)⟩
  ·exact ⟨l, r, rfl, Le.refl h⟩
theorem r6 {N : Nat} (h1 : ∀ k, k < N → ∀ r, r.ok → 20 * rem r + 8 ≤ k → i_ (aZ k r) r) : ∀ ss n (r : Rd), n ≤ N → r.ok → 20 * rem r + 9 + ss.length ≤ n → l7 (bE n ss r) r := by
 intro ss
 induction ss with
 | nil =>
  intro n r hn h hf
  obtain ⟨m, rfl⟩ : ∃ m, n = m + 1 := ⟨n - 1, by omega⟩
  exact ⟨[], r, by simp [bE], Le.refl h⟩
 | cons s ss ih =>
  intro n r hn h hf
  obtain ⟨m, rfl⟩ : ∃ m, n = m + 1 := ⟨n - 1, by omega⟩
  simp only [List.length_cons] at hf
  unfold bE
  have d : Le r (if s = [] then r else r.want s) := by
   split
   ·exact Le.refl h
   ·exact (bL h _).le
  generalize (if s = [] then r else r.want s) = r1 at *
  have := d.2
  obtain ⟨b, q, hq, dq⟩ := h1 m (by omega) r1 d.1 (by omega)
  rw [hq]
  have := dq.2.1
  obtain ⟨e, t, ht, dt⟩ := ih m q (by omega) dq.1 (by omega)
  simp only [Option.bind_some, ht, Option.map_some]
  exact ⟨b :: e, t, rfl, d.trans (dq.le.trans dt)⟩
theorem t6 {N : Nat} (h1 : ∀ k, k < N → ∀ r, r.ok → 20 * rem r + 8 ≤ k → i_ (aZ k r) r) (n : Nat) (r : Rd) (p : Int) (hn : n ≤ N) (h : r.ok) (hf : 20 * rem r + 9 ≤ n) : l7 (cG n r p) r := by
 obtain ⟨m, rfl⟩ : ∃ m, n = m + 1 := ⟨n - 1, by omega⟩
 unfold cG
 obtain ⟨x, r1, hx, d1⟩ := h1 m (by omega) r h (by omega)
 rw [hx]
 simp only [Option.bind_some]
 have d2 := bL d1.1 [111, 102]
 have d3 := bL d2.1 [110, 105, 108]
 have d4 := bL d3.1 [45, 62]
 have D := ((d1.trans d2).trans d3).trans d4
 generalize ((r1.want [111, 102]).want [110, 105, 108]).want [45, 62] = s at *
 have := D.2.1
 obtain ⟨a, r2, ha, d5⟩ := h1 m (by omega) s D.1 (by omega)
 rw [ha]
 simp only [Option.bind_some]
 have e1 := bL d5.1 [124]
 have e2 := fA e1.1
 have e3 := bL e2.1 [58]
 have e4 := fA e3.1
 have e5 := bL e4.1 [45, 62]
 have E := (((((D.trans d5).trans e1).trans e2).trans e3).trans e4).trans e5
 have := E.2.1
 obtain ⟨b, r3, hb, d6⟩ := h1 m (by omega) _ E.1 (by omega)
 rw [hb]
 exact ⟨_, r3, rfl, (E.trans d6).le⟩
structure Ends (n : Nat) (r : Rd) : Prop where
 expr : 20 * rem r + 8 ≤ n → i_ (aZ n r) r
 cons : 20 * rem r + 7 ≤ n → i_ (eD n r) r
 comp : 20 * rem r + 6 ≤ n → i_ (eF n r) r
 sum : 20 * rem r + 5 ≤ n → i_ (fE n r) r
 term : 20 * rem r + 4 ≤ n → i_ (cI n r) r
 unit : 20 * rem r + 3 ≤ n → i_ (cK n r) r
 named : ∀ m, 20 * rem r + 12 ≤ n → l7 (d8 n m r) r
theorem A4 : ∀ n, n ≤ 2 ^ 40 → ∀ (r : Rd), r.ok → Ends n r := by
 intro n
 induction n using Nat.strongRecOn with
 | _ n ih =>
  intro hn r h
  replace ih : ∀ m, m < n → ∀ r, r.ok → Ends m r := fun m hm => ih m hm (by omega)
  cases n with
  | zero => refine ⟨?_, ?_, ?_, ?_, ?_, ?_, ?_⟩ <;> (intros; omega)
  | succ n =>
   have he : ∀ k, k < n → ∀ r, r.ok → 20 * rem r + 8 ≤ k → i_ (aZ k r) r := fun k hk r h => (ih k (by omega) r h).expr
   refine ⟨fun hf => ?_, fun hf => ?_, fun hf => ?_, fun hf => ?_, fun hf => ?_, fun hf => ?_, fun m hf => ?_⟩
   ·suffices main : ∃ e q, aZ (n + 1) r = some (e, q) ∧ rem q ≤ rem r ∧ (q.why = 0 → rem q < rem r) by
     obtain ⟨e, q, hq, g1, g2⟩ := main
     exact ⟨e, q, hq, (AD hn h hq).1, g1, g2⟩
    unfold aZ
    simp only
    by_cases c1 : (binds r && decide (r.lN ≤ r.nest)) = true
    ·rw [c1]
     simp only [if_true]
     rw [if_pos (eP (by decide))]
     exact ⟨ex0, _, rfl, (fD h (by decide)).2⟩
    ·simp only [Bool.not_eq_true] at c1
     rw [c1]
     simp only [Bool.false_eq_true, if_false]
     by_cases c2 : r.why = 0
     ·rw [if_neg (by simp [c2])]
      have rp := jO h c2
      by_cases c3 : binds r = false ∧ r.is [105, 102] = false
      ·rw [if_pos c3]
       obtain ⟨e, q, hq, dq⟩ := (ih n (by omega) r h).cons (by omega)
       exact ⟨e, q, hq, dq.2⟩
      ·rw [if_neg c3]
       have h4 : r.next.kind ≠ 4 := by
        cases hb : binds r
        ·cases hi : r.is [105, 102]
         ·exact absurd ⟨hb, hi⟩ c3
         ·exact Rd.is_4 hi
        ·unfold binds at hb
         simp only [Bool.or_eq_true] at hb
         rcases hb with g | g | g
         ·exact Rd.is_4 g
         ·exact Rd.is_4 g
         ·exact Rd.is_4 g
       obtain ⟨r2, hr2⟩ : ∃ r2, r2 = (if binds r then { r with nest := r.nest + 1 } else r).adv := ⟨_, rfl⟩
       have h2 : r2.ok ∧ rem r2 + 1 = rem r := by
        have ra := jP h c2
        have ka := Rd.ok_adv h h4
        cases hb : binds r
        ·rw [hb] at hr2
         simp only [Bool.false_eq_true, if_false] at hr2
         rw [hr2]; exact ⟨ka, ra⟩
        ·rw [hb] at hr2 c1
         simp only [if_true, Bool.true_and, decide_eq_false_iff_not] at hr2 c1
         rw [hr2]
         have := h.n0
         have := h.l1
         exact ⟨⟨ka.ms, ka.lt, ka.len, by show 0 ≤ r.nest + 1; omega, by show r.nest + 1 ≤ 2 ^ 40; omega, ka.l1⟩, ra⟩
       rw [← hr2]
       have last : ∀ (res : PR), l7 res r2 → ∃ e q, (res.map fun (e, q) => (e, if binds r then { q with nest := q.nest - 1 } else q)) = some (e, q) ∧ rem q ≤ rem r ∧ (q.why = 0 → rem q < rem r) := fun res hres => by
        obtain ⟨e, q, hq, dq⟩ := hres
        rw [hq]
        have h3 := dq.2
        have h4 := h2.2
        cases hb : binds r
        ·exact ⟨e, q, rfl, by omega, fun _ => by omega⟩
        ·refine ⟨e, _, rfl, ?_, fun _ => ?_⟩
         ·show rem q ≤ rem r
          omega
         ·show rem q < rem r
          omega
       apply last
       split
       ·obtain ⟨l, q, hl, dl⟩ := r6 (N := n) he [[], [116, 104, 101, 110], [101, 108, 115, 101]] n r2 (Nat.le_refl _) h2.1 (by simp only [List.length_cons, List.length_nil]; omega)
        rw [hl]
        exact ⟨_, q, rfl, dl⟩
       ·split
        ·exact t6 he n r2 _ (Nat.le_refl _) h2.1 (by omega)
        ·have d1 := fA h2.1
         have d2 := l8 d1.1
         have D := d1.trans d2
         have := D.2.1
         obtain ⟨l, q, hl, dl⟩ := r6 (N := n) he [[61], [105, 110]] n r2.name.2.typ.2 (Nat.le_refl _) D.1 (by simp only [List.length_cons, List.length_nil]; omega)
         rw [hl]
         exact ⟨_, q, rfl, D.le.trans dl⟩
     ·rw [if_pos c2]
      exact ⟨ex0, r, rfl, Nat.le_refl _, fun g => absurd g c2⟩
   ·unfold eD
    obtain ⟨a, r1, ha, d1⟩ := (ih n (by omega) r h).comp (by omega)
    rw [ha]
    simp only [Option.bind_some]
    cases hs : r1.is [58]
    ·exact ⟨a, r1, rfl, d1⟩
    ·have d2 := dP d1.1 hs
     have ra := jP d1.1 (Rd.is_kind hs).1
     have := d1.2.1
     obtain ⟨b, r2, hb, d3⟩ := (ih n (by omega) r1.adv d2.1).cons (by omega)
     rw [if_pos rfl, hb]
     exact ⟨_, r2, rfl, (d1.trans d2).trans d3⟩
   ·unfold eF
    obtain ⟨a, r1, ha, d1⟩ := (ih n (by omega) r h).sum (by omega)
    rw [ha]
    simp only [Option.bind_some]
    cases hs : (r1.is [61, 61] || r1.is [60])
    ·exact ⟨a, r1, rfl, d1⟩
    ·have d2 : Down r1 r1.adv := by
      rcases Bool.or_eq_true_iff.1 hs with g | g
      ·exact dP d1.1 g
      ·exact dP d1.1 g
     have := d1.2.1
     have := d2.2.1
     obtain ⟨b, r2, hb, d3⟩ := (ih n (by omega) r1.adv d2.1).sum (by omega)
     rw [if_pos rfl, hb]
     exact ⟨_, r2, rfl, (d1.trans d2).trans d3⟩
   ·unfold fE
    obtain ⟨a, r1, ha, d1⟩ := (ih n (by omega) r h).term (by omega)
    rw [ha]
    simp only [Option.bind_some]
    by_cases g : r1.why = 0
    ·have := d1.2.2 g
     obtain ⟨e, q, hq, dq⟩ := t_ (N := n) (fun k hk r h => (ih k (by omega) r h).term) n a r1 (Nat.le_refl _) d1.1 (by omega)
     exact ⟨e, q, hq, d1.after dq⟩
    ·have := jS g
     obtain ⟨e, q, hq, dq⟩ := t_ (N := n) (fun k hk r h => (ih k (by omega) r h).term) n a r1 (Nat.le_refl _) d1.1 (by omega)
     exact ⟨e, q, hq, d1.after dq⟩
   ·unfold cI
    obtain ⟨a, r1, ha, d1⟩ := (ih n (by omega) r h).unit (by omega)
    rw [ha]
    simp only [Option.bind_some]
    by_cases g : r1.why = 0
    ·have := d1.2.2 g
     obtain ⟨e, q, hq, dq⟩ := rG (N := n) (fun k hk r h => (ih k (by omega) r h).unit) n a r1 (Nat.le_refl _) d1.1 (by omega)
     exact ⟨e, q, hq, d1.after dq⟩
    ·have := jS g
     obtain ⟨e, q, hq, dq⟩ := rG (N := n) (fun k hk r h => (ih k (by omega) r h).unit) n a r1 (Nat.le_refl _) d1.1 (by omega)
     exact ⟨e, q, hq, d1.after dq⟩
   ·unfold cK
    by_cases g1 : r.why = 0
    ·rw [if_neg (by simp [g1])]
     have rp := jO h g1
     have ra := jP h g1
     by_cases g2 : r.next.kind = 2
     ·rw [if_pos g2]; exact ⟨_, _, rfl, jZ h g1 (by omega)⟩
     ·rw [if_neg g2]
      by_cases g3 : r.next.kind = 0
      ·rw [if_pos g3]
       have d := jZ h g1 (by omega)
       obtain ⟨e, q, hq, dq⟩ := (ih n (by omega) r.adv d.1).named r.next (by omega)
       exact ⟨e, q, hq, d.after dq⟩
      ·rw [if_neg g3]
       cases g4 : r.is [40]
       ·rw [if_neg (by decide)]
        by_cases g5 : ¬ r.next.kind = 1 ∨ bG r.next.text = 0
        ·rw [if_pos g5]; exact ⟨_, _, rfl, fD h (by decide)⟩
        ·rw [if_neg g5]
         have k1 : r.next.kind = 1 := by
          by_cases k : r.next.kind = 1
          ·exact k
          ·exact absurd (.inl k) g5
         have d := jZ h g1 (by omega)
         by_cases g6 : bG r.next.text = 5
         ·rw [if_pos g6]; exact ⟨_, _, rfl, d.trans (l8 d.1)⟩
         ·rw [if_neg g6]
          by_cases g7 : 14 ≤ bG r.next.text
          ·rw [if_pos g7]
           have d2 := bL d.1 [40]
           have := d2.2.1
           obtain ⟨x, q, hx, dx⟩ := (ih n (by omega) _ d2.1).expr (by omega)
           rw [hx]
           exact ⟨_, _, rfl, ((d.trans d2).trans dx).trans (bL dx.1 _)⟩
          ·rw [if_neg g7]; exact ⟨_, _, rfl, d⟩
       ·rw [if_pos rfl]
        have d := dP h g4
        obtain ⟨x, q, hx, dx⟩ := (ih n (by omega) r.adv d.1).expr (by omega)
        rw [hx]
        exact ⟨_, _, rfl, (d.trans dx).trans (bL dx.1 _)⟩
    ·rw [if_pos g1]
     exact ⟨ex0, r, rfl, h, Nat.le_refl _, fun g => absurd g g1⟩
   ·unfold d8
    cases hs : r.is [40]
    ·exact ⟨_, r, rfl, Le.refl h⟩
    ·rw [if_pos rfl]
     have d := dP h hs
     have := d.2.1
     obtain ⟨l, q, hl, dl⟩ := wT (N := n) he n [] r.adv (Nat.le_refl _) d.1 (by omega)
     rw [hl]
     exact ⟨_, _, rfl, (d.le.trans dl).trans (bL dl.1 _).le⟩
theorem xL : ∀ n l (r : Rd), r.ok → rem r + 1 ≤ n → l7 (bY n l r) r := by
 intro n
 induction n with
 | zero => intro l r _ h; omega
 | succ n ih =>
  intro l r h hf
  unfold bY
  split
  ·rename_i hs
   have rp := jO h hs.1
   have d1 : Le r (pw r l) := by
    unfold pw; split
    ·exact Le.refl h
    ·exact (bL h _).le
   have d2 : Le (pw r l) (pf (pw r l) l) := by
    unfold pf; split
    ·exact (fD d1.1 (by decide)).le
    ·exact Le.refl d1.1
   have d3 := (d1.trans d2)
   have d4 := (fA d3.1).trans (l8 (fA d3.1).1)
   have := d3.2
   have hb : rem (pf (pw r l) l).name.2.typ.2 + 1 ≤ n := by
    by_cases g : (pf (pw r l) l).name.2.typ.2.why = 0
    ·have := d4.2.2 g; omega
    ·have := jS g; omega
   obtain ⟨e, q, hq, dq⟩ := ih _ _ d4.1 hb
   exact ⟨e, q, hq, d3.trans (d4.le.trans dq)⟩
  ·exact ⟨l, r, rfl, Le.refl h⟩
theorem DG {n : Nat} (hn : n ≤ 2 ^ 40) (r : Rd) (h : r.ok) (c : Nat) (hf : 20 * rem r + 8 ≤ n) : ∃ f q, i9 n r c = some (f, q) ∧ Down r q := by
 unfold i9
 have d0 : Le r (df r c) := by
  unfold df; split
  ·exact (fD h (by decide)).le
  ·exact Le.refl h
 have d1 := (fA d0.1).trans (bL (fA d0.1).1 [40])
 generalize (df r c).name.2.want [40] = s at *
 have := d0.2
 have := d1.2.1
 obtain ⟨ps, r4, hp, d2⟩ := xL n [] s d1.1 (by omega)
 rw [hp]
 simp only [Option.bind_some]
 have D : Down r r4 := ⟨d2.1, by have := d2.2; omega, fun g => by
  have a := (d1.after d2).2.2 g
  omega⟩
 have e1 := bL D.1 [41]
 have e2 := bL e1.1 [58]
 have e3 := l8 e2.1
 have e4 := bL e3.1 [61]
 have E := (((D.trans e1).trans e2).trans e3).trans e4
 have := E.2.1
 obtain ⟨b, r9, hb, d3⟩ := (A4 n hn _ E.1).expr (by omega)
 rw [hb]
 exact ⟨_, _, rfl, (E.trans d3).trans (bL d3.1 _)⟩
theorem BL : ∀ n l (r : Rd), n ≤ 2 ^ 40 → r.ok → 20 * rem r + 9 ≤ n → l7 (cV n l r) r := by
 intro n
 induction n with
 | zero => intro l r _ _ h; omega
 | succ n ih =>
  intro l r hn h hf
  unfold cV
  split
  ·rename_i hs
   have rp := jO h hs.1
   obtain ⟨f, q, hq, dq⟩ := DG (n := n) (by omega) r h l.length (by omega)
   rw [hq]
   have hb : 20 * rem q + 9 ≤ n := by
    by_cases g : q.why = 0
    ·have := dq.2.2 g; omega
    ·have := jS g; omega
   obtain ⟨e, s, hs2, ds⟩ := ih (l ++ [f]) q (by omega) dq.1 hb
   exact ⟨e, s, hs2, dq.le.trans ds⟩
  ·exact ⟨l, r, rfl, Le.refl h⟩
theorem zO {r : Rd} (h : r.ok) : ∃ L q, cV (2 ^ 30) [] r = some (L, q) ∧ q.ok := by
 have hr : rem r ≤ 2 ^ 21 := by
  have := h.len
  unfold rem
  split <;> omega
 obtain ⟨L, q, hq, dq⟩ := BL (2 ^ 30) [] r (by decide) h (by omega)
 exact ⟨L, q, hq, dq.1⟩
def tyOk (t : Int) : Prop := t = 1 ∨ t = 2 ∨ t = 3
def wV (op ty : Int) (n : Nat) : Prop :=
 ((op = 1 ∨ op = 2 ∨ op = 3 ∨ op = 4 ∨ op = 6) ∧ n = 0) ∨ (op = 5 ∧ n = 0 ∧ tyOk ty) ∨ op = 7 ∨ ((8 ≤ op ∧ op ≤ 13 ∨ op = 18) ∧ n = 2) ∨ (14 ≤ op ∧ op ≤ 17 ∧ n = 1) ∨ ((op = 19 ∨ op = 20) ∧ n = 3) ∨ ((op = 21 ∨ op = 22) ∧ n = 2 ∧ tyOk ty)
def placeIn (ms : List Mk) (a b : Nat) (p : Int) : Prop := ∃ i, a ≤ i ∧ i < b ∧ p = (ms[i]?.getD default).at'
mutual
def size : Ex → Nat
 | .mk _ _ _ _ _ args _ => 1 + aS args
def aS : List Ex → Nat
 | [] => 0
 | e :: es => size e + aS es
end
mutual
def Wf (ms : List Mk) (a b : Nat) : Ex → Prop
 | .mk op _ _ ty _ args p => placeIn ms a b p ∧ wV op ty args.length ∧ Wfs ms a b args
def Wfs (ms : List Mk) (a b : Nat) : List Ex → Prop
 | [] => True
 | e :: es => Wf ms a b e ∧ Wfs ms a b es
end
theorem placeIn.mono {ms : List Mk} {a b c d : Nat} {p : Int} (h : placeIn ms a b p) (h1 : c ≤ a) (h2 : b ≤ d) : placeIn ms c d p := by
 obtain ⟨i, g1, g2, g3⟩ := h
 exact ⟨i, by omega, by omega, g3⟩
mutual
theorem Wf.mono {ms : List Mk} {a b c d : Nat} (h1 : c ≤ a) (h2 : b ≤ d) : ∀ (e : Ex), Wf ms a b e → Wf ms c d e
 | .mk op n t ty z args p, h => by
  unfold Wf at h ⊢
  exact ⟨h.1.mono h1 h2, h.2.1, Wfs.mono h1 h2 args h.2.2⟩
theorem Wfs.mono {ms : List Mk} {a b c d : Nat} (h1 : c ≤ a) (h2 : b ≤ d) : ∀ (l : List Ex), Wfs ms a b l → Wfs ms c d l
 | [], _ => by unfold Wfs; trivial
 | e :: es, h => by
  unfold Wfs at h ⊢
  exact ⟨Wf.mono h1 h2 e h.1, Wfs.mono h1 h2 es h.2⟩
end
theorem vM {ms : List Mk} {a b : Nat} : ∀ {l k : List Ex}, Wfs ms a b l → Wfs ms a b k → Wfs ms a b (l ++ k)
 | [], _, _, h => h
 | e :: es, k, h, g => by
  unfold Wfs at h
  show Wfs ms a b (e :: (es ++ k))
  unfold Wfs
  exact ⟨h.1, vM h.2 g⟩
theorem rI : ∀ (l k : List Ex), aS (l ++ k) = aS l + aS k
 | [], k => by simp [aS]
 | e :: es, k => by
  show aS (e :: (es ++ k)) = _
  simp only [aS, rI es k]; omega
def Step (r q : Rd) (k : Nat) : Prop := q.why = 0 → r.why = 0 ∧ q.ms = r.ms ∧ r.at' + k ≤ q.at'
theorem Step.trans {r q s : Rd} {j k : Nat} (h : Step r q j) (g : Step q s k) : Step r s (j + k) := fun hs => by
 obtain ⟨g1, g2, g3⟩ := g hs
 obtain ⟨h1, h2, h3⟩ := h g1
 exact ⟨h1, g2.trans h2, by omega⟩
theorem Step.refl {r : Rd} : Step r r 0 := fun h => ⟨h, rfl, by omega⟩
theorem step_adv {r : Rd} : Step r r.adv 1 := fun h => ⟨h, rfl, by simp⟩
theorem iQ {r : Rd} {w : Int} (hw : w ≠ 0) {k : Nat} : Step r (r.fail w) k := fun h => absurd h (eP hw)
theorem step_want {r : Rd} {s : List UInt8} : Step r (r.want s) 1 := by
 unfold Rd.want
 split
 ·exact step_adv
 ·exact iQ (by decide)
theorem step_name {r : Rd} : Step r r.name.2 1 := by
 unfold Rd.name
 split
 ·exact iQ (by decide)
 ·exact step_adv
theorem pK {r : Rd} (h : r.name.2.why = 0) : r.name.1 = r.next := by
 unfold Rd.name at h ⊢
 split
 ·rename_i hb
  rw [if_pos hb] at h
  exact absurd h (eP (by decide))
 ·rfl
theorem mD {r : Rd} : Step r r.typ.2 1 := by
 unfold Rd.typ
 split
 ·exact step_adv
 ·split
  ·exact step_adv
  ·split
   ·exact step_adv
   ·exact iQ (by decide)
theorem qA {r : Rd} (h : r.typ.2.why = 0) : tyOk r.typ.1 := by
 unfold Rd.typ at h ⊢
 split
 ·exact .inl rfl
 ·rename_i h1
  rw [if_neg h1] at h
  split
  ·exact .inr (.inl rfl)
  ·rename_i h2
   rw [if_neg h2] at h
   split
   ·exact .inr (.inr rfl)
   ·rename_i h3
    rw [if_neg h3] at h
    exact absurd h (eP (by decide))
def hD (run : PR) (r : Rd) : Prop := ∀ e q, run = some (e, q) → q.why = 0 → r.why = 0 ∧ q.ms = r.ms ∧ r.at' + 1 ≤ q.at' ∧ Wf r.ms r.at' q.at' e ∧ size e ≤ q.at' - r.at'
def MadeL (k : Nat) (run : Option (List Ex × Rd)) (r : Rd) : Prop := ∀ l q, run = some (l, q) → q.why = 0 → r.why = 0 ∧ q.ms = r.ms ∧ r.at' + k ≤ q.at' ∧ Wfs r.ms r.at' q.at' l ∧ aS l ≤ q.at' - r.at'
theorem fT {r : Rd} {b : Nat} (h : r.at' < b) : placeIn r.ms r.at' b r.next.at' := ⟨r.at', Nat.le_refl _, h, rfl⟩
theorem mA {r r1 r2 : Rd} {a b : Ex} {op : Int} (hop : 8 ≤ op ∧ op ≤ 13 ∨ op = 18) (m1 : r1.ms = r.ms) (l1 : r.at' + 1 ≤ r1.at') (w1 : Wf r.ms r.at' r1.at' a) (s1 : size a ≤ r1.at' - r.at')
  (l2 : r1.at' + 1 + 1 ≤ r2.at') (w2 : Wf r.ms (r1.at' + 1) r2.at' b) (s2 : size b ≤ r2.at' - (r1.at' + 1)) : Wf r.ms r.at' r2.at' (two op a b r1.next) ∧ size (two op a b r1.next) ≤ r2.at' - r.at' := by
 unfold two
 constructor
 ·unfold Wf Wfs Wfs Wfs
  refine ⟨?_, .inr (.inr (.inr (.inl ⟨hop, rfl⟩))), Wf.mono (Nat.le_refl _) (by omega) _ w1, Wf.mono (by omega) (Nat.le_refl _) _ w2, trivial⟩
  have := fT (r := r1) (b := r2.at') (by omega)
  rw [m1] at this
  exact this.mono (by omega) (Nat.le_refl _)
 ·simp only [size, aS]
  omega
theorem x6 {N : Nat} (h1 : ∀ k, k < N → ∀ r, hD (cI k r) r) : ∀ n a (r0 r : Rd) e q, n ≤ N → d9 n a r = some (e, q) → q.why = 0 → (r.why = 0 → r.ms = r0.ms ∧ r0.at' + 1 ≤ r.at' ∧ Wf r0.ms r0.at' r.at' a ∧ size a ≤ r.at' - r0.at') →
  r.why = 0 ∧ q.ms = r0.ms ∧ r0.at' + 1 ≤ q.at' ∧ Wf r0.ms r0.at' q.at' e ∧ size e ≤ q.at' - r0.at' := by
 intro n
 induction n with
 | zero => intro a r0 r e q _ h; simp [d9] at h
 | succ n ih =>
  intro a r0 r e q hn hrun hq ha
  unfold d9 at hrun
  split at hrun
  ·cases hc : cI n r.adv with
   | none => rw [hc] at hrun; simp at hrun
   | some p =>
    obtain ⟨b, r2⟩ := p
    rw [hc] at hrun
    simp only [Option.bind_some] at hrun
    have hop : 8 ≤ (if r.next.text = [45] then (9 : Int) else 8) ∧ (if r.next.text = [45] then (9 : Int) else 8) ≤ 13 := by split <;> omega
    generalize (if r.next.text = [45] then (9 : Int) else 8) = op at *
    have key : r2.why = 0 → r.why = 0 ∧ (r2.ms = r0.ms ∧ r0.at' + 1 ≤ r2.at' ∧ Wf r0.ms r0.at' r2.at' (two op a b r.next) ∧ size (two op a b r.next) ≤ r2.at' - r0.at') := fun hw => by
     obtain ⟨g1, g2, g3, g4, g5⟩ := h1 n (by omega) r.adv b r2 hc hw
     simp only [Rd.adv_why, Rd.adv_ms, Rd.adv_at] at g1 g2 g3 g4 g5
     obtain ⟨k1, k2, k3, k4⟩ := ha g1
     rw [k1] at g4
     have := mA (r := r0) (r1 := r) (r2 := r2) (.inl hop) k1 k2 k3 k4 g3 g4 g5
     exact ⟨g1, g2.trans k1, by omega, this.1, this.2⟩
    obtain ⟨m1, m2⟩ := ih _ r0 r2 e q (by omega) hrun hq (fun hw => (key hw).2)
    exact ⟨(key m1).1, m2⟩
  ·simp only [Option.some.injEq, Prod.mk.injEq] at hrun
   obtain ⟨rfl, rfl⟩ := hrun
   obtain ⟨k1, k2, k3, k4⟩ := ha hq
   exact ⟨hq, k1, k2, k3, k4⟩
theorem xE {N : Nat} (h1 : ∀ k, k < N → ∀ r, hD (cK k r) r) : ∀ n a (r0 r : Rd) e q, n ≤ N → dC n a r = some (e, q) → q.why = 0 → (r.why = 0 → r.ms = r0.ms ∧ r0.at' + 1 ≤ r.at' ∧ Wf r0.ms r0.at' r.at' a ∧ size a ≤ r.at' - r0.at') →
  r.why = 0 ∧ q.ms = r0.ms ∧ r0.at' + 1 ≤ q.at' ∧ Wf r0.ms r0.at' q.at' e ∧ size e ≤ q.at' - r0.at' := by
 intro n
 induction n with
 | zero => intro a r0 r e q _ h; simp [dC] at h
 | succ n ih =>
  intro a r0 r e q hn hrun hq ha
  unfold dC at hrun
  split at hrun
  ·cases hc : cK n r.adv with
   | none => rw [hc] at hrun; simp at hrun
   | some p =>
    obtain ⟨b, r2⟩ := p
    rw [hc] at hrun
    simp only [Option.bind_some] at hrun
    have hop : 8 ≤ (if r.next.text = [47] then (11 : Int) else 10) ∧ (if r.next.text = [47] then (11 : Int) else 10) ≤ 13 := by split <;> omega
    generalize (if r.next.text = [47] then (11 : Int) else 10) = op at *
    have key : r2.why = 0 → r.why = 0 ∧ (r2.ms = r0.ms ∧ r0.at' + 1 ≤ r2.at' ∧ Wf r0.ms r0.at' r2.at' (two op a b r.next) ∧ size (two op a b r.next) ≤ r2.at' - r0.at') := fun hw => by
     obtain ⟨g1, g2, g3, g4, g5⟩ := h1 n (by omega) r.adv b r2 hc hw
     simp only [Rd.adv_why, Rd.adv_ms, Rd.adv_at] at g1 g2 g3 g4 g5
     obtain ⟨k1, k2, k3, k4⟩ := ha g1
     rw [k1] at g4
     have := mA (r := r0) (r1 := r) (r2 := r2) (.inl hop) k1 k2 k3 k4 g3 g4 g5
     exact ⟨g1, g2.trans k1, by omega, this.1, this.2⟩
    obtain ⟨m1, m2⟩ := ih _ r0 r2 e q (by omega) hrun hq (fun hw => (key hw).2)
    exact ⟨(key m1).1, m2⟩
  ·simp only [Option.some.injEq, Prod.mk.injEq] at hrun
   obtain ⟨rfl, rfl⟩ := hrun
   obtain ⟨k1, k2, k3, k4⟩ := ha hq
   exact ⟨hq, k1, k2, k3, k4⟩
theorem vE {N : Nat} (h1 : ∀ k, k < N → ∀ r, hD (aZ k r) r) : ∀ n l (r0 r : Rd) L q, n ≤ N → cS n l r = some (L, q) → q.why = 0 → (r.why = 0 → r.ms = r0.ms ∧ r0.at' ≤ r.at' ∧ Wfs r0.ms r0.at' r.at' l ∧ aS l ≤ r.at' - r0.at') →
  r.why = 0 ∧ q.ms = r0.ms ∧ r0.at' ≤ q.at' ∧ Wfs r0.ms r0.at' q.at' L ∧ aS L ≤ q.at' - r0.at' := by
 intro n
 induction n with
 | zero => intro a r0 r e q _ h; simp [cS] at h
 | succ n ih =>
  intro l r0 r L q hn hrun hq ha
  unfold cS at hrun
  split at hrun
  ·rename_i hs
   have st : Step r (if l = [] then r else r.want [44]) 0 := by
    split
    ·exact Step.refl
    ·intro h
     obtain ⟨g1, g2, g3⟩ := step_want h
     exact ⟨g1, g2, by omega⟩
   generalize (if l = [] then r else r.want [44]) = r1 at *
   cases hc : aZ n r1 with
   | none => rw [hc] at hrun; simp at hrun
   | some p =>
    obtain ⟨b, r2⟩ := p
    rw [hc] at hrun
    simp only [Option.bind_some] at hrun
    obtain ⟨k1, k2, k3, k4⟩ := ha hs.1
    have key : r2.why = 0 → r2.ms = r0.ms ∧ r0.at' ≤ r2.at' ∧ Wfs r0.ms r0.at' r2.at' (l ++ [b]) ∧ aS (l ++ [b]) ≤ r2.at' - r0.at' := fun hw => by
     obtain ⟨g1, g2, g3, g4, g5⟩ := h1 n (by omega) r1 b r2 hc hw
     obtain ⟨j1, j2, j3⟩ := st g1
     rw [j2, k1] at g4
     refine ⟨g2.trans (j2.trans k1), by omega, vM (Wfs.mono (Nat.le_refl _) (by omega) _ k3) ?_, ?_⟩
     ·unfold Wfs Wfs
      exact ⟨Wf.mono (by omega) (Nat.le_refl _) _ g4, trivial⟩
     ·rw [rI]
      simp only [aS]
      omega
    obtain ⟨m1, m2⟩ := ih _ r0 r2 L q (by omega) hrun hq key
    exact ⟨hs.1, m2⟩
  ·simp only [Option.some.injEq, Prod.mk.injEq] at hrun
   obtain ⟨rfl, rfl⟩ := hrun
   obtain ⟨k1, k2, k3, k4⟩ := ha hq
   exact ⟨hq, k1, k2, k3, k4⟩
theorem jH {N : Nat} (h1 : ∀ k, k < N → ∀ r, hD (aZ k r) r) : ∀ ss n (r : Rd), n ≤ N → MadeL 0 (bE n ss r) r ∧ ∀ L q, bE n ss r = some (L, q) → L.length = ss.length := by
 intro ss
 induction ss with
 | nil =>
  intro n r hn
  cases n with
  | zero => exact ⟨fun l q h => by simp [bE] at h, fun l q h => by simp [bE] at h⟩
  | succ n =>
   refine ⟨fun l q h hq => ?_, fun l q h => ?_⟩
   ·simp only [bE, Option.some.injEq, Prod.mk.injEq] at h
    obtain ⟨rfl, rfl⟩ := h
    exact ⟨hq, rfl, by omega, by unfold Wfs; trivial, by simp [aS]⟩
   ·simp only [bE, Option.some.injEq, Prod.mk.injEq] at h
    obtain ⟨rfl, rfl⟩ := h
    rfl
 | cons s ss ih =>
  intro n r hn
  cases n with
  | zero => exact ⟨fun l q h => by simp [bE] at h, fun l q h => by simp [bE] at h⟩
  | succ n =>
   have st : Step r (if s = [] then r else r.want s) 0 := by
    split
    ·exact Step.refl
    ·intro h
     obtain ⟨g1, g2, g3⟩ := step_want h
     exact ⟨g1, g2, by omega⟩
   have split' : ∀ L q, bE (n + 1) (s :: ss) r = some (L, q) → ∃ b r2 l, aZ n (if s = [] then r else r.want s) = some (b, r2) ∧ bE n ss r2 = some (l, q) ∧ L = b :: l := fun L q h => by
    unfold bE at h
    cases hc : aZ n (if s = [] then r else r.want s) with
    | none => rw [hc] at h; simp at h
    | some p =>
     rw [hc] at h
     simp only [Option.bind_some, Option.map_eq_some_iff, Prod.mk.injEq] at h
     obtain ⟨q2, h2, rfl, rfl⟩ := h
     exact ⟨p.1, p.2, q2.1, rfl, h2, rfl⟩
   generalize (if s = [] then r else r.want s) = r1 at *
   refine ⟨fun L q h hq => ?_, fun L q h => ?_⟩
   ·obtain ⟨b, r2, l, e1, e2, rfl⟩ := split' L q h
    obtain ⟨a1, a2, a3, a4, a5⟩ := (ih n r2 (by omega)).1 l q e2 hq
    obtain ⟨g1, g2, g3, g4, g5⟩ := h1 n (by omega) r1 b r2 e1 a1
    obtain ⟨j1, j2, j3⟩ := st g1
    rw [g2, j2] at a4
    rw [j2] at g4
    refine ⟨j1, a2.trans (g2.trans j2), by omega, ?_, by simp only [aS]; omega⟩
    unfold Wfs
    exact ⟨Wf.mono (by omega) (by omega) _ g4, Wfs.mono (by omega) (Nat.le_refl _) _ a4⟩
   ·obtain ⟨b, r2, l, e1, e2, rfl⟩ := split' L q h
    have := (ih n r2 (by omega)).2 l q e2
    simp [this]
theorem sS {N : Nat} (h1 : ∀ k, k < N → ∀ r, hD (aZ k r) r) (n : Nat) (hn : n ≤ N) (r : Rd) (p : Int) (e : Ex) (q : Rd) (hrun : cG n r p = some (e, q)) (hq : q.why = 0) :
  r.why = 0 ∧ q.ms = r.ms ∧ r.at' ≤ q.at' ∧ ∃ h t x a b, e = .mk 20 h t 0 ⟨0, 0⟩ [x, a, b] p ∧ Wfs r.ms r.at' q.at' [x, a, b] ∧ aS [x, a, b] ≤ q.at' - r.at' := by
 cases n with
 | zero => simp [cG] at hrun
 | succ n =>
  unfold cG at hrun
  cases hc1 : aZ n r with
  | none => rw [hc1] at hrun; simp at hrun
  | some p1 =>
   obtain ⟨x, r1⟩ := p1
   rw [hc1] at hrun
   simp only [Option.bind_some] at hrun
   have s1 : Step r1 (((r1.want [111, 102]).want [110, 105, 108]).want [45, 62]) 3 := (step_want.trans step_want).trans step_want
   generalize ((r1.want [111, 102]).want [110, 105, 108]).want [45, 62] = s3 at *
   cases hc2 : aZ n s3 with
   | none => rw [hc2] at hrun; simp at hrun
   | some p2 =>
    obtain ⟨a, r2⟩ := p2
    rw [hc2] at hrun
    simp only [Option.bind_some, Option.map_eq_some_iff, Prod.mk.injEq] at hrun
    obtain ⟨⟨b, r3⟩, hc3, he1, he2⟩ := hrun
    simp only at he1 he2
    subst he1 he2
    have s2 : Step r2 ((((r2.want [124]).name.2.want [58]).name.2).want [45, 62]) 5 := (((step_want.trans step_name).trans step_want).trans step_name).trans step_want
    generalize (((r2.want [124]).name.2.want [58]).name.2).want [45, 62] = s8 at *
    obtain ⟨c1, c2, c3, c4, c5⟩ := h1 n (by omega) s8 b r3 hc3 hq
    obtain ⟨j1, j2, j3⟩ := s2 c1
    obtain ⟨b1, b2, b3, b4, b5⟩ := h1 n (by omega) s3 a r2 hc2 j1
    obtain ⟨i1, i2, i3⟩ := s1 b1
    obtain ⟨a1, a2, a3, a4, a5⟩ := h1 n (by omega) r x r1 hc1 i1
    rw [j2, b2, i2, a2] at c4
    rw [i2, a2] at b4
    refine ⟨a1, c2.trans (j2.trans (b2.trans (i2.trans a2))), by omega, _, _, x, a, b, rfl, ?_, by simp only [aS]; omega⟩
    unfold Wfs Wfs Wfs Wfs
    exact ⟨Wf.mono (Nat.le_refl _) (by omega) _ a4, Wf.mono (by omega) (by omega) _ b4, Wf.mono (by omega) (Nat.le_refl _) _ c4, trivial⟩
structure Makes (n : Nat) (r : Rd) : Prop where
 expr : hD (aZ n r) r
 cons : hD (eD n r) r
 comp : hD (eF n r) r
 sum : hD (fE n r) r
 term : hD (cI n r) r
 unit : hD (cK n r) r
 named : ∀ r0 : Rd, r0.adv = r → r0.why = 0 → hD (d8 n r0.next r) r0
theorem kO {r q : Rd} {op ty : Int} {n t : List UInt8} {z : Cx} (st : Step r q 1) (hq : q.why = 0) (hs : wV op ty 0) : r.why = 0 ∧ q.ms = r.ms ∧ r.at' + 1 ≤ q.at' ∧ Wf r.ms r.at' q.at' (.mk op n t ty z [] r.next.at') ∧ size (.mk op n t ty z [] r.next.at') ≤ q.at' - r.at' := by
 obtain ⟨g1, g2, g3⟩ := st hq
 refine ⟨g1, g2, g3, ?_, by simp only [size, aS]; omega⟩
 unfold Wf Wfs
 exact ⟨fT (by omega), hs, trivial⟩
theorem xZ : ∀ n (r : Rd), Makes n r := by
 intro n
 induction n using Nat.strongRecOn with
 | _ n ih =>
  intro r
  cases n with
  | zero =>
   refine ⟨?_, ?_, ?_, ?_, ?_, ?_, ?_⟩
   ·intro e q h; simp [aZ] at h
   ·intro e q h; simp [eD] at h
   ·intro e q h; simp [eF] at h
   ·intro e q h; simp [fE] at h
   ·intro e q h; simp [cI] at h
   ·intro e q h; simp [cK] at h
   ·intro r0 _ _ e q h; simp [d8] at h
  | succ n =>
   have he : ∀ k, k < n → ∀ r, hD (aZ k r) r := fun k hk r => (ih k (by omega) r).expr
   have gn := ih n (by omega)
   refine ⟨?_, ?_, ?_, ?_, ?_, ?_, ?_⟩
   ·intro e q hrun hq
    unfold aZ at hrun
    simp only at hrun
    have hr1 : ∀ r1, r1 = (if (binds r && decide (r.lN ≤ r.nest)) = true then r.fail 23 else r) → r1.why = 0 → r1 = r := fun r1 h hw => by
     split at h
     ·rw [h] at hw; exact absurd hw (eP (by decide))
     ·exact h
    generalize hrr : (if (binds r && decide (r.lN ≤ r.nest)) = true then r.fail 23 else r) = r1 at *
    by_cases h0 : r1.why = 0
    ·have e1 := hr1 r1 rfl h0
     subst e1
     rw [if_neg (by simp [h0])] at hrun
     split at hrun
     ·exact (gn r1).cons e q hrun hq
     ·obtain ⟨r2, hr2⟩ : ∃ r2, r2 = (if binds r1 then { r1 with nest := r1.nest + 1 } else r1).adv := ⟨_, rfl⟩
      rw [← hr2] at hrun
      have s2 : r2.ms = r1.ms ∧ r2.at' = r1.at' + 1 ∧ r2.why = r1.why := by
       rw [hr2]
       cases binds r1
       ·exact ⟨rfl, rfl, rfl⟩
       ·exact ⟨rfl, rfl, rfl⟩
      obtain ⟨m2, a2, w2⟩ := s2
      clear hr2
      simp only [Option.map_eq_some_iff, Prod.mk.injEq] at hrun
      obtain ⟨⟨e', q'⟩, hres, he1, he2⟩ := hrun
      simp only at he1 he2
      subst he1
      have hq' : q'.why = 0 ∧ q.ms = q'.ms ∧ q.at' = q'.at' := by
       rw [← he2] at hq ⊢
       split at hq
       ·rename_i hb; rw [if_pos hb]; exact ⟨hq, rfl, rfl⟩
       ·rename_i hb; rw [if_neg hb]; exact ⟨hq, rfl, rfl⟩
      obtain ⟨hw, hm, hat⟩ := hq'
      rw [hm, hat]
      have fin : ∀ op n t ty (args : List Ex), e' = .mk op n t ty ⟨0, 0⟩ args r1.next.at' → wV op ty args.length → q'.ms = r2.ms → r2.at' ≤ q'.at' → Wfs r2.ms r2.at' q'.at' args → aS args ≤ q'.at' - r2.at' →
        r1.why = 0 ∧ q'.ms = r1.ms ∧ r1.at' + 1 ≤ q'.at' ∧ Wf r1.ms r1.at' q'.at' e' ∧ size e' ≤ q'.at' - r1.at' := fun op n t ty args he hs g1 g2 g3 g4 => by
       subst he
       rw [m2] at g3
       refine ⟨h0, g1.trans m2, by omega, ?_, by simp only [size]; omega⟩
       unfold Wf
       exact ⟨fT (by omega), hs, Wfs.mono (by omega) (Nat.le_refl _) _ g3⟩
      split at hres
      ·simp only [Option.map_eq_some_iff, Prod.mk.injEq] at hres
       obtain ⟨⟨l, q2⟩, hl, he1, he3⟩ := hres
       simp only at he1 he3
       subst he3
       obtain ⟨b1, b2, b3, b4, b5⟩ := (jH (N := n) he _ n r2 (Nat.le_refl _)).1 l q2 hl hw
       have hlen := (jH (N := n) he _ n r2 (Nat.le_refl _)).2 l q2 hl
       exact fin 19 [] [] 0 l he1.symm (.inr (.inr (.inr (.inr (.inr (.inl ⟨.inl rfl, hlen⟩)))))) b2 (by omega) b4 b5
      ·split at hres
       ·obtain ⟨b1, b2, b3, hd, tl, x, a, b, he1, b4, b5⟩ := sS (N := n) he n (Nat.le_refl _) r2 _ e' q' hres hw
        exact fin 20 hd tl 0 [x, a, b] he1 (.inr (.inr (.inr (.inr (.inr (.inl ⟨.inr rfl, rfl⟩)))))) b2 b3 b4 b5
       ·simp only [Option.map_eq_some_iff, Prod.mk.injEq] at hres
        obtain ⟨⟨l, q2⟩, hl, he1, he3⟩ := hres
        simp only at he1 he3
        subst he3
        obtain ⟨b1, b2, b3, b4, b5⟩ := (jH (N := n) he _ n r2.name.2.typ.2 (Nat.le_refl _)).1 l q2 hl hw
        have hlen := (jH (N := n) he _ n r2.name.2.typ.2 (Nat.le_refl _)).2 l q2 hl
        have st : Step r2 r2.name.2.typ.2 2 := step_name.trans mD
        obtain ⟨j1, j2, j3⟩ := st b1
        rw [j2] at b4
        refine fin _ _ [] r2.name.2.typ.1 l he1.symm (.inr (.inr (.inr (.inr (.inr (.inr ⟨?_, hlen, qA b1⟩)))))) (b2.trans j2) (by omega) (Wfs.mono (by omega) (Nat.le_refl _) _ b4) (by omega)
        split
        ·exact .inr rfl
        ·exact .inl rfl
    ·rw [if_pos h0] at hrun
     simp only [Option.some.injEq, Prod.mk.injEq] at hrun
     obtain ⟨_, rfl⟩ := hrun
     exact absurd hq h0
   ·intro e q hrun hq
    unfold eD at hrun
    cases hc : eF n r with
    | none => rw [hc] at hrun; simp at hrun
    | some p =>
     obtain ⟨a, r1⟩ := p
     rw [hc] at hrun
     simp only [Option.bind_some] at hrun
     split at hrun
     ·simp only [Option.map_eq_some_iff, Prod.mk.injEq] at hrun
      obtain ⟨⟨b, r2⟩, hb, he1, he2⟩ := hrun
      simp only at he1 he2
      subst he1 he2
      obtain ⟨g1, g2, g3, g4, g5⟩ := (gn r1.adv).cons b r2 hb hq
      simp only [Rd.adv_why, Rd.adv_ms, Rd.adv_at] at g1 g2 g3 g4 g5
      obtain ⟨k1, k2, k3, k4, k5⟩ := (gn r).comp a r1 hc g1
      rw [k2] at g4
      have := mA (r := r) (r1 := r1) (r2 := r2) (.inr rfl : 8 ≤ (18 : Int) ∧ (18 : Int) ≤ 13 ∨ (18 : Int) = 18) k2 k3 k4 k5 g3 g4 g5
      exact ⟨k1, g2.trans k2, by omega, this.1, this.2⟩
     ·simp only [Option.some.injEq, Prod.mk.injEq] at hrun
      obtain ⟨rfl, rfl⟩ := hrun
      exact (gn r).comp a r1 hc hq
   ·intro e q hrun hq
    unfold eF at hrun
    cases hc : fE n r with
    | none => rw [hc] at hrun; simp at hrun
    | some p =>
     obtain ⟨a, r1⟩ := p
     rw [hc] at hrun
     simp only [Option.bind_some] at hrun
     split at hrun
     ·simp only [Option.map_eq_some_iff, Prod.mk.injEq] at hrun
      obtain ⟨⟨b, r2⟩, hb, he1, he2⟩ := hrun
      simp only at he1 he2
      subst he1 he2
      obtain ⟨g1, g2, g3, g4, g5⟩ := (gn r1.adv).sum b r2 hb hq
      simp only [Rd.adv_why, Rd.adv_ms, Rd.adv_at] at g1 g2 g3 g4 g5
      obtain ⟨k1, k2, k3, k4, k5⟩ := (gn r).sum a r1 hc g1
      rw [k2] at g4
      have := mA (r := r) (r1 := r1) (r2 := r2) (op := if r1.is [60] then 13 else 12) (.inl (by split <;> omega)) k2 k3 k4 k5 g3 g4 g5
      exact ⟨k1, g2.trans k2, by omega, this.1, this.2⟩
     ·simp only [Option.some.injEq, Prod.mk.injEq] at hrun
      obtain ⟨rfl, rfl⟩ := hrun
      exact (gn r).sum a r1 hc hq
   ·intro e q hrun hq
    unfold fE at hrun
    cases hc : cI n r with
    | none => rw [hc] at hrun; simp at hrun
    | some p =>
     obtain ⟨a, r1⟩ := p
     rw [hc] at hrun
     simp only [Option.bind_some] at hrun
     have key := x6 (N := n) (fun k hk r => (ih k (by omega) r).term) n a r r1 e q (Nat.le_refl _) hrun hq (fun hw => ((gn r).term a r1 hc hw).2)
     exact ⟨((gn r).term a r1 hc key.1).1, key.2⟩
   ·intro e q hrun hq
    unfold cI at hrun
    cases hc : cK n r with
    | none => rw [hc] at hrun; simp at hrun
    | some p =>
     obtain ⟨a, r1⟩ := p
     rw [hc] at hrun
     simp only [Option.bind_some] at hrun
     have key := xE (N := n) (fun k hk r => (ih k (by omega) r).unit) n a r r1 e q (Nat.le_refl _) hrun hq (fun hw => ((gn r).unit a r1 hc hw).2)
     exact ⟨((gn r).unit a r1 hc key.1).1, key.2⟩
   ·intro e q hrun hq
    unfold cK at hrun
    by_cases g1 : r.why = 0
    ·rw [if_neg (by simp [g1])] at hrun
     by_cases g2 : r.next.kind = 2
     ·rw [if_pos g2] at hrun
      simp only [Option.some.injEq, Prod.mk.injEq] at hrun
      obtain ⟨rfl, rfl⟩ := hrun
      exact kO step_adv hq (.inl ⟨.inl rfl, rfl⟩)
     ·rw [if_neg g2] at hrun
      by_cases g3 : r.next.kind = 0
      ·rw [if_pos g3] at hrun
       exact (gn r.adv).named r rfl g1 e q hrun hq
      ·rw [if_neg g3] at hrun
       cases g4 : r.is [40] <;> rw [g4] at hrun
       ·rw [if_neg (by decide)] at hrun
        by_cases g5 : ¬ r.next.kind = 1 ∨ bG r.next.text = 0
        ·rw [if_pos g5] at hrun
         simp only [Option.some.injEq, Prod.mk.injEq] at hrun
         obtain ⟨_, rfl⟩ := hrun
         exact absurd hq (eP (by decide))
        ·rw [if_neg g5] at hrun
         by_cases g6 : bG r.next.text = 5
         ·rw [if_pos g6] at hrun
          simp only [Option.some.injEq, Prod.mk.injEq] at hrun
          obtain ⟨rfl, rfl⟩ := hrun
          have st : Step r r.adv.typ.2 2 := step_adv.trans mD
          exact kO (fun h => by obtain ⟨a, b, c⟩ := st h; exact ⟨a, b, by omega⟩) hq (.inr (.inl ⟨rfl, rfl, qA hq⟩))
         ·rw [if_neg g6] at hrun
          by_cases g7 : 14 ≤ bG r.next.text
          ·rw [if_pos g7] at hrun
           simp only [Option.map_eq_some_iff, Prod.mk.injEq] at hrun
           obtain ⟨⟨x, q2⟩, hx, he1, he2⟩ := hrun
           simp only at he1 he2
           subst he1 he2
           obtain ⟨j1, j2, j3⟩ := step_want hq
           obtain ⟨b1, b2, b3, b4, b5⟩ := (gn _).expr x q2 hx j1
           have st : Step r (r.adv.want [40]) 2 := step_adv.trans step_want
           obtain ⟨i1, i2, i3⟩ := st b1
           rw [i2] at b4
           have hv := kC r.next.text
           refine ⟨g1, j2.trans (b2.trans i2), by omega, ?_, by simp only [size, aS]; omega⟩
           unfold Wf Wfs Wfs
           exact ⟨fT (by omega), .inr (.inr (.inr (.inr (.inl ⟨g7, by omega, rfl⟩)))), Wf.mono (by omega) (by omega) _ b4, trivial⟩
          ·rw [if_neg g7] at hrun
           simp only [Option.some.injEq, Prod.mk.injEq] at hrun
           obtain ⟨rfl, rfl⟩ := hrun
           have hv := kC r.next.text
           have h0 : bG r.next.text ≠ 0 := fun h => g5 (.inr h)
           exact kO step_adv hq (.inl ⟨by omega, rfl⟩)
       ·rw [if_pos rfl] at hrun
        simp only [Option.map_eq_some_iff, Prod.mk.injEq] at hrun
        obtain ⟨⟨x, q2⟩, hx, he1, he2⟩ := hrun
        simp only at he1 he2
        subst he1 he2
        obtain ⟨j1, j2, j3⟩ := step_want hq
        obtain ⟨b1, b2, b3, b4, b5⟩ := (gn _).expr x q2 hx j1
        simp only [Rd.adv_why, Rd.adv_ms, Rd.adv_at] at b1 b2 b3 b4 b5
        exact ⟨g1, j2.trans b2, by omega, Wf.mono (by omega) (by omega) _ b4, by omega⟩
    ·rw [if_pos g1] at hrun
     simp only [Option.some.injEq, Prod.mk.injEq] at hrun
     obtain ⟨_, rfl⟩ := hrun
     exact absurd hq g1
   ·intro r0 h0 w0 e q hrun hq
    subst h0
    unfold d8 at hrun
    split at hrun
    ·simp only [Option.map_eq_some_iff, Prod.mk.injEq] at hrun
     obtain ⟨⟨l, q2⟩, hl, he1, he2⟩ := hrun
     simp only at he1 he2
     subst he1 he2
     obtain ⟨j1, j2, j3⟩ := step_want hq
     obtain ⟨b1, b2, b3, b4, b5⟩ := vE (N := n) he n [] r0.adv.adv r0.adv.adv l q2 (Nat.le_refl _) hl j1 (fun _ => ⟨rfl, Nat.le_refl _, by unfold Wfs; trivial, by simp [aS]⟩)
     simp only [Rd.adv_why, Rd.adv_ms, Rd.adv_at] at b1 b2 b3 b4 b5
     refine ⟨w0, j2.trans b2, by omega, ?_, by simp only [size]; omega⟩
     unfold Wf
     exact ⟨fT (by omega), .inr (.inr (.inl rfl)), Wfs.mono (by omega) (by omega) _ b4⟩
    ·simp only [Option.some.injEq, Prod.mk.injEq] at hrun
     obtain ⟨rfl, rfl⟩ := hrun
     exact kO step_adv hq (.inl ⟨by simp, rfl⟩)
def PmOk (ms : List Mk) (a b : Nat) (p : Pm) : Prop := placeIn ms a b p.at' ∧ tyOk p.type
structure FnOk (ms : List Mk) (a b : Nat) (f : Fn) : Prop where
 lt : a < b
 dF : f.at' = (ms[a]?.getD default).at'
 type : tyOk f.type
 params : ∀ p ∈ f.params, PmOk ms (a + 1) b p
 len : f.params.length ≤ b - a
 body : Wf ms (a + 1) b f.body
 size : size f.body ≤ b - a
def Fns (ms : List Mk) : Nat → List Fn → Nat → Prop
 | a, [], b => a ≤ b
 | a, f :: fs, b => ∃ c, FnOk ms a c f ∧ Fns ms c fs b
theorem vG : ∀ n l (r0 r : Rd) L q, bY n l r = some (L, q) → q.why = 0 → (r.why = 0 → r.ms = r0.ms ∧ r0.at' ≤ r.at' ∧ (∀ p ∈ l, PmOk r0.ms r0.at' r.at' p) ∧ l.length ≤ r.at' - r0.at') →
  r.why = 0 ∧ q.ms = r0.ms ∧ r0.at' ≤ q.at' ∧ (∀ p ∈ L, PmOk r0.ms r0.at' q.at' p) ∧ L.length ≤ q.at' - r0.at' := by
 intro n
 induction n with
 | zero => intro l r0 r L q h; simp [bY] at h
 | succ n ih =>
  intro l r0 r L q hrun hq ha
  unfold bY at hrun
  split at hrun
  ·rename_i hs
   obtain ⟨k1, k2, k3, k4⟩ := ha hs.1
   have s1 : Step r (pw r l) 0 := by
    unfold pw; split
    ·exact Step.refl
    ·intro h
     obtain ⟨g1, g2, g3⟩ := step_want h
     exact ⟨g1, g2, by omega⟩
   have s2 : Step (pw r l) (pf (pw r l) l) 0 := by
    unfold pf; split
    ·exact iQ (by decide)
    ·exact Step.refl
   generalize pf (pw r l) l = z at *
   have key : z.name.2.typ.2.why = 0 → z.name.2.typ.2.ms = r0.ms ∧ r0.at' ≤ z.name.2.typ.2.at' ∧ (∀ p ∈ l ++ [⟨z.name.1.text, z.name.2.typ.1, z.name.1.at'⟩], PmOk r0.ms r0.at' z.name.2.typ.2.at' p) ∧ (l ++ [(⟨z.name.1.text, z.name.2.typ.1, z.name.1.at'⟩ : Pm)]).length ≤ z.name.2.typ.2.at' - r0.at' := fun hw => by
    have t := qA hw
    obtain ⟨a1, a2, a3⟩ := mD hw
    have np := pK a1
    obtain ⟨b1, b2, b3⟩ := step_name a1
    obtain ⟨c1, c2, c3⟩ := (s1.trans s2) b1
    have hm : z.ms = r0.ms := c2.trans k1
    refine ⟨a2.trans (b2.trans hm), by omega, fun p hp => ?_, by simp only [List.length_append, List.length_cons, List.length_nil]; omega⟩
    rw [List.mem_append, List.mem_singleton] at hp
    rcases hp with hp | rfl
    ·obtain ⟨e1, e2⟩ := k3 p hp
     exact ⟨e1.mono (Nat.le_refl _) (by omega), e2⟩
    ·refine ⟨?_, t⟩
     simp only
     rw [np]
     have := fT (r := z) (b := z.name.2.typ.2.at') (by omega)
     rw [hm] at this
     exact this.mono (by omega) (Nat.le_refl _)
   obtain ⟨m1, m2⟩ := ih _ r0 _ L q hrun hq key
   exact ⟨hs.1, m2⟩
  ·simp only [Option.some.injEq, Prod.mk.injEq] at hrun
   obtain ⟨rfl, rfl⟩ := hrun
   obtain ⟨k1, k2, k3, k4⟩ := ha hq
   exact ⟨hq, k1, k2, k3, k4⟩
theorem BG {n : Nat} {r : Rd} {c : Nat} {f : Fn} {q : Rd} (hrun : i9 n r c = some (f, q)) (hq : q.why = 0) : r.why = 0 ∧ q.ms = r.ms ∧ FnOk r.ms r.at' q.at' f := by
 unfold i9 at hrun
 have s0 : Step r (df r c) 0 := by
  unfold df; split
  ·exact iQ (by decide)
  ·exact Step.refl
 have hdf : (df r c).why = 0 → df r c = r := fun h => by
  unfold df at h ⊢
  split at h
  ·exact absurd h (eP (by decide))
  ·rename_i g; rw [if_neg g]
 have s1 : Step (df r c) ((df r c).name.2.want [40]) 2 := step_name.trans step_want
 cases hp : bY n [] ((df r c).name.2.want [40]) with
 | none => rw [hp] at hrun; simp at hrun
 | some p =>
  obtain ⟨ps, r4⟩ := p
  rw [hp] at hrun
  simp only [Option.bind_some, Option.map_eq_some_iff, Prod.mk.injEq] at hrun
  obtain ⟨⟨body, r9⟩, hb, he1, he2⟩ := hrun
  simp only at he1 he2
  subst he1 he2
  obtain ⟨a1, a2, a3⟩ := step_want hq
  obtain ⟨b1, b2, b3, b4, b5⟩ := (xZ n _).expr body r9 hb a1
  have s2 : Step ((r4.want [41]).want [58]).typ.2 (((r4.want [41]).want [58]).typ.2.want [61]) 1 := step_want
  obtain ⟨c1, c2, c3⟩ := s2 b1
  have ht := qA c1
  obtain ⟨d1, d2, d3⟩ := ((step_want.trans step_want).trans mD : Step r4 ((r4.want [41]).want [58]).typ.2 3) c1
  obtain ⟨e1, e2, e3, e4, e5⟩ := vG n [] _ _ ps r4 hp d1 (fun _ => ⟨rfl, Nat.le_refl _, fun p hp => by simp at hp, by simp⟩)
  obtain ⟨f1, f2, f3⟩ := s1 e1
  obtain ⟨g1, g2, g3⟩ := s0 f1
  have hr := hdf f1
  have hn1 : (df r c).name.2.why = 0 := (step_want e1).1
  have np := pK hn1
  have hm4 : r4.ms = r.ms := e2.trans (f2.trans g2)
  rw [f2, g2] at e4
  rw [c2, d2, hm4] at b4
  refine ⟨g1, a2.trans (b2.trans (c2.trans (d2.trans hm4))), ⟨by omega, ?_, ht, fun p hp => ?_, by simp only; omega, Wf.mono (by omega) (by omega) _ b4, by simp only; omega⟩⟩
  ·simp only
   rw [np, hr]; rfl
  ·obtain ⟨h1, h2⟩ := e4 p hp
   exact ⟨h1.mono (by omega) (by omega), h2⟩
theorem rT : ∀ n l (r : Rd) L q, cV n l r = some (L, q) → q.why = 0 → r.why = 0 ∧ q.ms = r.ms ∧ ∃ k, L = l ++ k ∧ Fns r.ms r.at' k q.at' ∧ (l = [] → k ≠ []) := by
 intro n
 induction n with
 | zero => intro l r L q h; simp [cV] at h
 | succ n ih =>
  intro l r L q hrun hq
  unfold cV at hrun
  split at hrun
  ·rename_i hs
   cases hd : i9 n r l.length with
   | none => rw [hd] at hrun; simp at hrun
   | some p =>
    obtain ⟨f, r2⟩ := p
    rw [hd] at hrun
    simp only [Option.bind_some] at hrun
    obtain ⟨a1, a2, k, a3, a4, _⟩ := ih _ r2 L q hrun hq
    obtain ⟨b1, b2, b3⟩ := BG hd a1
    rw [b2] at a4
    exact ⟨hs.1, a2.trans b2, f :: k, by rw [a3]; simp, ⟨r2.at', b3, a4⟩, fun _ => by simp⟩
  ·rename_i hs
   simp only [Option.some.injEq, Prod.mk.injEq] at hrun
   obtain ⟨rfl, rfl⟩ := hrun
   refine ⟨hq, rfl, [], by simp, Nat.le_refl _, fun h => ?_⟩
   exact absurd ⟨hq, .inl h⟩ hs
def nL (ms : List Mk) : Prop := ∀ i j, i < j → j < ms.length → (ms[i]?.getD default).at' < (ms[j]?.getD default).at'
theorem oG {ms : List Mk} {m : Mk} (h : nL ms) (hb : ∀ i, i < ms.length → (ms[i]?.getD default).at' < m.at') : nL (ms ++ [m]) := by
 intro i j hij hj
 simp only [List.length_append, List.length_cons, List.length_nil] at hj
 have hi : i < ms.length := by omega
 rw [List.getElem?_append_left hi]
 by_cases e : j < ms.length
 ·rw [List.getElem?_append_left e]; exact h i j hij e
 ·have : j = ms.length := by omega
  subst this
  rw [List.getElem?_append_right (Nat.le_refl _)]
  simpa using hb i hi
theorem one_at {t : List UInt8} {p : Nat} : (eC t p).1.at' = p := by
 unfold eC
 split
 ·rfl
 ·split
  ·rfl
  ·split
   ·rfl
   ·rfl
theorem eW : ∀ (f : Nat) (t : List UInt8) (p : Nat) (out : List Mk), p ≤ t.length → nL out → (∀ i, i < out.length → (out[i]?.getD default).at' < p) → (cF f t p out).2 < 0 → nL (cF f t p out).1
 | 0, t, p, out, _, _, _, h => by simp [cF] at h
 | f + 1, t, p, out, hp, hr, hb, h => by
  unfold cF at h ⊢
  by_cases c1 : p < t.length
  ·rw [if_pos c1] at h ⊢
   by_cases c2 : kA (bt8 t p) = true
   ·rw [if_pos c2] at h ⊢
    exact eW f t _ out (by omega) hr (fun i hi => by have := hb i hi; omega) h
   ·rw [if_neg c2] at h ⊢
    by_cases c3 : bt8 t p = 35
    ·rw [if_pos c3] at h ⊢
     have hc := jV t.length t p hp
     exact eW f t _ out hc.2 hr (fun i hi => by have := hb i hi; omega) h
    ·rw [if_neg c3] at h ⊢
     by_cases c4 : (eC t p).2 = true
     ·rw [if_pos c4] at h ⊢
      obtain ⟨l1, l2⟩ := qX c1 c4
      have ha := one_at (t := t) (p := p)
      refine eW f t _ _ l2 (oG hr fun i hi => by have := hb i hi; omega) (fun i hi => ?_) h
      simp only [List.length_append, List.length_cons, List.length_nil] at hi
      by_cases e : i < out.length
      ·rw [List.getElem?_append_left e]
       have := hb i e; omega
      ·have : i = out.length := by omega
       subst this
       rw [List.getElem?_append_right (Nat.le_refl _)]
       simp only [Nat.sub_self, List.getElem?_cons_zero, Option.getD_some]
       omega
     ·rw [if_neg c4] at h; simp only at h; omega
  ·rw [if_neg c1] at h ⊢
   exact oG hr fun i hi => by
    have := hb i hi
    simp only [oD]; omega
def yG (L : List Fn) : Prop := ∃ ms a b, MOk ms ∧ ms.length ≤ 2 ^ 21 ∧ nL ms ∧ b < ms.length ∧ Fns ms a L b ∧ L ≠ []
def nA (t : List UInt8) (L : List Fn) (w p : Int) : Prop :=
 Pure Tryz.prog 22 [.sl (em cQ t), limD 32768 32768 32768 32768] (resD L w p) ∧ (w = 0 → yG L) ∧ (w ≠ 0 → L = [])
theorem wP (t : List UInt8) (ht : t.length ≤ 32768) (hm : (cH t).2 < 0) {n : Nat} (hN : n ≤ 2 ^ 40) {L : List Fn} {q : Rd} (hp : cV n [] (rd0 t 32768 32768 32768 32768) = some (L, q)) (hw : q.why = 0) (hlt : q.at' < (cH t).1.length) : nA t L 0 0 := by
 have hk := sJ (t := t) (lt := 32768) (lF := 32768) (lA := 32768) (lN := 32768) (by omega) hm (by decide)
 have hc := tC t ht hm hN hp
 rw [if_pos hw] at hc
 obtain ⟨g1, g2, k, g3, g4, g5⟩ := rT _ _ _ L q hp hw
 simp only [List.nil_append] at g3
 subst g3
 refine ⟨hc, fun _ => ⟨(cH t).1, 0, q.at', hk.ms, hk.len, ?_, hlt, g4, g5 rfl⟩, fun h => absurd rfl h⟩
 exact eW _ t 0 [] (by omega) (fun i j _ h => by simp at h) (fun i h => by simp at h) hm
theorem r7 {α : Type} {o : Option α} {d : α} (h : o.isSome = true) : o = some (o.getD d) := by
 cases o with
 | none => simp at h
 | some x => rfl
theorem DT {a b c d : Int} : bB Tryz.prog .eql 31 (.agg [I a, I b]) (.agg [I c, I d]) = some (.pl (.bool (decide (a = c ∧ b = d)))) := by
 refine (AZ (vs := [.int .i64 a, .int .i64 b]) (us := [.int .i64 c, .int .i64 d]) Tryz.underlying31 (by kernel_rfl) (by kernel_rfl) rfl rfl ?_).1
 simp [pB, scal, Tryz.underlying29, Tryz.underlying3]
 rw [Bool.eq_iff_iff]; simp
theorem wt_u8 {n : Nat} {ds : List D} (h : Wt Tryz.prog n 5 ds) : ∃ b : UInt8, ds = cQ b ∧ True := by
 cases n with
 | zero => exact h.elim
 | succ n =>
  simp only [Wt, Tryz.underlying5] at h
  obtain ⟨z, rfl, hz⟩ := h
  simp [Lit.wf, IntKind.min, IntKind.max, IntKind.signed, IntKind.bits] at hz
  refine ⟨UInt8.ofNat z.toNat, ?_, trivial⟩
  unfold cQ
  have : (((UInt8.ofNat z.toNat).toNat : Nat) : Int) = z := by
   rw [UInt8.toNat_ofNat']
   omega
  rw [this]
theorem B_ {n : Nat} {ds : List D} (h : Wt Tryz.prog n 22 ds) : ∃ l : List UInt8, ds = [.sl (em cQ l)] ∧ l.length < 2 ^ 48 := by
 cases n with
 | zero => exact h.elim
 | succ n =>
  simp only [Wt, Tryz.underlying22] at h
  obtain ⟨es, rfl, hl, he⟩ := h
  obtain ⟨l, rfl, _⟩ := wC (enc := cQ) (p := fun _ => True) fun c hc => wt_u8 (he c hc)
  refine ⟨l, rfl, ?_⟩
  have hb : Tryz.prog.bytesOf 5 = 1 := by kernel_rfl
  rw [hb, yS] at hl
  unfold reachBytes at hl
  omega
theorem x_ {x : D} (h : Arg Tryz.prog 22 x) : ∃ l : List UInt8, x = .sl (em cQ l) ∧ l.length < 2 ^ 48 := by
 obtain ⟨n, ds, h, k⟩ := h
 simp only [Tryz.underlying22] at k
 obtain ⟨l, rfl, h1⟩ := B_ h
 simp only [List.cons.injEq, and_true] at k
 exact ⟨l, k.symm, h1⟩
set_option maxRecDepth 1000000
set_option maxHeartbeats 0
noncomputable def cf46 : Cfg := ⟨Tryz.prog, 32, [0, 1, 2, 4, 5], []⟩
noncomputable def ac46 : AC :=
 (.seq (.reg [JN 2 0, JP 4 (.mv (.c (.slice none 0 0)))]) (.seq (.block 0 (.seq (.ifr [JG 6 0 2, JD 7 1 6, JO 8 (.bin .eql 39 (.t 7) (JT 21)), JB 5 8] (.g 5) .skip (.reg [JG 9 0 2, JD 10 1 9, JO 11 (.bin .eql 39 (.t 10) (JT 22)), JC 12 11, JS 13 12 (.mv (.g 1)), JS 14 12 (.bin .eql 3 (.t 13) (JT 1)), JO 15 (.pick (.t 12) (.t 14) JY), JB 5 15])) (.cond (.g 5) (.seq (.reg [JG 16 1 2, JD 17 1 16, JO 18 (.bsl 1 1 [JU] [(0, 1, .t 17)]), JB 4 18]) .ret) (.ifr [JG 20 0 2, JD 21 1 20, JO 22 (.bin .eql 39 (.t 21) (JT 20)), JC 23 22, JS 24 23 (.mv (.g 1)), JS 25 23 (.bin .eql 3 (.t 24) (JT 2)), JO 26 (.pick (.t 23) (.t 25) JY), JC 19 26] (.t 19) (.seq (.reg [JG 27 1 2, JD 28 1 27, JG 29 2 2, JD 30 1 29, JO 31 (.bsl 1 2 [JU] [(0, 1, .t 28), (1, 1, .t 30)]), JB 4 31]) .ret) .skip)))) (.seq (.reg [JP 4 (.mv (.c (.slice none 0 0)))]) .ret)))
theorem fi46 : FI Tryz.prog 46 cf46 ac46 [.t 4] [0, 1, 2, 4, 5] 32 := FI_of (c := Tryz.f46.body.getD .skip) Tryz.func46 (by kernel_rfl) (by rfl) (by rfl) (by kernel_rfl) (by kernel_rfl) rfl rfl rfl
@[simp] theorem cfP46 : cf46.P = Tryz.prog := (rfl)
noncomputable def cf25 : Cfg := ⟨Tryz.prog, 55, [0, 1, 2, 3, 6, 7, 8, 10, 12, 18, 19, 20, 28, 29, 30, 43, 44, 45], [16, 42]⟩
noncomputable def lb25_0 : AC :=
 .seq (.ifr [JO 46 (.bin .lss 3 (.g 45) (.g 44))] (.t 46) .skip (.exit 4)) (.seq (.block 5 (.seq (.reg [JO 47 (.ia 1 (.g 43) (.g 45)), JD 48 1 47, JB 12 48]) (.reg [JA 49 1, JA 50 12, JO 51 (.lk none (.int .i64 0) false (.t 49) (.t 50)), JO 52 (.bin .sub 3 (.t 51) (JT 1)), JQ (.mup none (.t 49) (.t 50) (.t 52))]))) (.reg [JO 53 (.bin .add 3 (.g 45) (JT 1)), JB 45 53]))
noncomputable def lb25_1 : AC :=
 .seq (.ifr [JO 31 (.bin .lss 3 (.g 30) (.g 29))] (.t 31) .skip (.exit 2)) (.seq (.block 3 (.seq (.reg [JO 32 (.ia 1 (.g 28) (.g 30)), JD 33 1 32, JB 10 33]) (.reg [JA 34 1, JA 35 10, JO 36 (.lk none (.int .i64 0) false (.t 34) (.t 35)), JO 37 (.bin .add 3 (.t 36) (JT 1)), JQ (.mup none (.t 34) (.t 35) (.t 37))]))) (.reg [JO 38 (.bin .add 3 (.g 30) (JT 1)), JB 30 38]))
noncomputable def lb25_2 : AC :=
 .seq (.ifr [JO 21 (.bin .lss 3 (.g 20) (.g 19))] (.t 21) .skip (.exit 0)) (.seq (.block 1 (.seq (.reg [JA 22 20, JO 23 (.ia 7 (.g 18) (.g 20)), JE 24 7 23, JP 7 (.al [JV, JU, JU, JV, .complex .f64 0 0, JW, JV]), JB 6 22, JQ (.st 7 (.g 7) (.t 24))]) (.seq (.reg [JF 25 7 3, JA 26 6, JO 27 (.pc (.f 46) [.t 25, .t 26]), JB 8 27]) (.seq (.seq (.reg [JP 28 (.mv (.g 8)), JP 29 (.len false (.g 28)), JI 30 0]) (.block 2 (.loop lb25_1))) (.seq (.reg [JF 39 7 7, JA 40 1, JA 41 2, JO 42 (.cl (.f 25) [.t 39, .t 40, .t 41])]) (.seq (.reg [JP 43 (.mv (.g 8)), JP 44 (.len false (.g 43)), JI 45 0]) (.block 4 (.loop lb25_0)))))))) (.reg [JO 54 (.bin .add 3 (.g 20) (JT 1)), JB 20 54]))
noncomputable def ac25 : AC :=
 (.seq (.reg [JN 3 0]) (.seq (.reg [JA 13 2, JF 14 7 3, JA 15 1, JO 16 (.cl (.t 13) [.t 14, .t 15])]) (.seq (.reg [JG 17 5 3, JP 18 (.ld false 1 (.t 17)), JP 19 (.len false (.g 18)), JI 20 0]) (.block 0 (.loop lb25_2)))))
theorem fi25 : FI Tryz.prog 25 cf25 ac25 [] [0, 1, 2, 3, 6, 7, 8, 10, 12, 18, 19, 20, 28, 29, 30, 43, 44, 45] 55 := FI_of (c := Tryz.f25.body.getD .skip) Tryz.func25 (by kernel_rfl) (by rfl) (by rfl) (by kernel_rfl) (by kernel_rfl) rfl rfl rfl
@[simp] theorem cfP25 : cf25.P = Tryz.prog := (rfl)
noncomputable def cf8 : Cfg := ⟨Tryz.prog, 75, [0, 1, 2, 3, 4, 5, 6, 7, 9, 10, 12, 16, 17, 18, 39, 40, 41, 47, 48, 49], [1, 31, 61, 72]⟩
noncomputable def lb8_0 : AC :=
 .seq (.ifr [JO 50 (.bin .lss 3 (.g 49) (.g 48))] (.t 50) .skip (.exit 4)) (.seq (.block 5 (.seq (.reg [JO 51 (.ia 3 (.g 47) (.g 49)), JE 52 3 51, JP 12 (.al [JU, JV, JV]), JQ (.st 3 (.g 12) (.t 52))]) (.seq (.ifr [JA 53 10, JG 54 0 12, JD 55 1 54, JO 56 (.lk none (.int .i64 0) false (.t 53) (.t 55)), JO 57 (.bin .gtr 3 (.t 56) (JT 0))] (.t 57) (.reg [JO 58 (.ld false 1 (.g 4)), JG 59 2 12, JD 60 1 59, JO 61 (.cl (.t 58) [.c (.int .i64 30), .t 60])]) .skip) (.reg [JA 62 10, JG 63 0 12, JD 64 1 63, JO 65 (.lk none (.int .i64 0) false (.t 62) (.t 64)), JO 66 (.bin .add 3 (.t 65) (JT 1)), JQ (.mup none (.t 62) (.t 64) (.t 66))])))) (.reg [JO 67 (.bin .add 3 (.g 49) (JT 1)), JB 49 67]))
noncomputable def lb8_1 : AC :=
 .seq (.ifr [JO 42 (.bin .lss 3 (.g 41) (.g 40))] (.t 42) .skip (.exit 2)) (.seq (.block 3 (.seq (.reg [JO 43 (.ia 11 (.g 39) (.g 41)), JE 44 11 43, JP 9 (.al [JU, JW, JV, JV, JU, JU, JV, .complex .f64 0 0, JW, JV, JV]), JQ (.st 11 (.g 9) (.t 44))]) (.seq (.reg [.mk (.t 45) none .mkm, JB 10 45]) (.seq (.seq (.reg [JG 46 1 9, JP 47 (.ld false 1 (.t 46)), JP 48 (.len false (.g 47)), JI 49 0]) (.block 4 (.loop lb8_0))) (.reg [JG 68 3 9, JE 69 7 68, JA 70 10, JO 71 (.mkf 26 [.g 5, .g 4, .g 1]), JO 72 (.cl (.f 25) [.t 69, .t 70, .t 71])]))))) (.reg [JO 73 (.bin .add 3 (.g 41) (JT 1)), JB 41 73]))
noncomputable def lb8_2 : AC :=
 .seq (.ifr [JO 19 (.bin .lss 3 (.g 18) (.g 17))] (.t 19) .skip (.exit 0)) (.seq (.block 1 (.seq (.reg [JA 20 18, JO 21 (.ia 11 (.g 16) (.g 18)), JE 22 11 21, JP 7 (.al [JU, JW, JV, JV, JU, JU, JV, .complex .f64 0 0, JW, JV, JV]), JB 6 20, JQ (.st 11 (.g 7) (.t 22))]) (.ifr [JO 23 (.ld false 1 (.g 5)), JG 24 0 7, JD 25 1 24, JO 26 (.lk none (.int .i64 0) false (.t 23) (.t 25)), JO 27 (.bin .gtr 3 (.t 26) (JT 0))] (.t 27) (.reg [JO 28 (.ld false 1 (.g 4)), JG 29 10 7, JD 30 1 29, JO 31 (.cl (.t 28) [.c (.int .i64 30), .t 30])]) (.reg [JO 32 (.ld false 1 (.g 5)), JG 33 0 7, JD 34 1 33, JA 35 6, JO 36 (.bin .add 3 (.t 35) (JT 1)), JQ (.mup none (.t 32) (.t 34) (.t 36))])))) (.reg [JO 37 (.bin .add 3 (.g 18) (JT 1)), JB 18 37]))
noncomputable def ac8 : AC :=
 (.seq (.reg [JP 1 (.bx (.g 0)), JP 2 (.al [JV, JV])]) (.seq (.reg [JP 3 (.al [JV, JV])]) (.seq (.reg [JO 13 (.mkf 24 [.g 3]), JP 4 (.al [.nilFunc]), JQ (.st 1 (.g 4) (.t 13))]) (.seq (.reg [.mk (.t 14) none .mkm, JP 5 (.al [.map none]), JQ (.st 1 (.g 5) (.t 14))]) (.seq (.seq (.reg [JG 15 0 1, JP 16 (.ld false 1 (.t 15)), JP 17 (.len false (.g 16)), JI 18 0]) (.block 0 (.loop lb8_2))) (.seq (.seq (.reg [JG 38 0 1, JP 39 (.ld false 1 (.t 38)), JP 40 (.len false (.g 39)), JI 41 0]) (.block 2 (.loop lb8_1))) (.seq (.reg [JF 74 2 3, JQ (.st 2 (.g 2) (.t 74))]) .ret)))))))
theorem fi8 : FI Tryz.prog 8 cf8 ac8 [.c 2 true 2] [0, 1, 2, 3, 4, 5, 6, 7, 9, 10, 12, 16, 17, 18, 39, 40, 41, 47, 48, 49] 75 := FI_of (c := Tryz.f8.body.getD .skip) Tryz.func8 (by kernel_rfl) (by rfl) (by rfl) (by kernel_rfl) (by kernel_rfl) rfl rfl rfl
@[simp] theorem cfP8 : cf8.P = Tryz.prog := (rfl)
noncomputable def cf24 : Cfg := ⟨Tryz.prog, 17, [0, 1, 2], []⟩
noncomputable def ac24 : AC :=
 (.ifr [JG 5 0 2, JD 6 1 5, JO 7 (.bin .eql 29 (.t 6) (JT 0)), JC 8 7, JR 9 8 (.mv (.g 1)), JR 10 8 (.fa 1 (.g 2)), JR 11 8 (.ld false 1 (.t 10)), JR 12 8 (.bin .lss 3 (.t 9) (.t 11)), JO 13 (.pick (.t 8) JX (.t 12))] (.t 13) (.reg [JA 14 0, JA 15 1, JO 16 (.bld [JV, JV] [(0, 1, .t 14), (1, 1, .t 15)]), JQ (.st 2 (.g 2) (.t 16))]) .skip)
theorem fi24 : FI Tryz.prog 24 cf24 ac24 [] [0, 1, 2] 17 := FI_of (c := Tryz.f24.body.getD .skip) Tryz.func24 (by kernel_rfl) (by rfl) (by rfl) (by kernel_rfl) (by kernel_rfl) rfl rfl rfl
@[simp] theorem cfP24 : cf24.P = Tryz.prog := (rfl)
noncomputable def cf26 : Cfg := ⟨Tryz.prog, 61, [0, 1, 2, 3, 4, 5, 7], [26, 38, 60]⟩
noncomputable def ac26 : AC :=
 (.seq (.reg [JN 5 0]) (.seq (.reg [JO 8 (.ld false 1 (.g 2)), JG 9 1 5, JD 10 1 9, JO 11 (.lk none (.int .i64 0) false (.t 8) (.t 10)), JB 7 11]) (.block 0 (.ifr [JG 13 0 5, JD 14 1 13, JO 15 (.bin .eql 39 (.t 14) (JT 6)), JC 16 15, JS 17 16 (.mv (.g 1)), JS 18 16 (.fa 1 (.g 5)), JS 19 16 (.ld false 1 (.t 18)), JS 20 16 (.lk none (.int .i64 0) false (.t 17) (.t 19)), JS 21 16 (.bin .eql 3 (.t 20) (JT 0)), JO 22 (.pick (.t 16) (.t 21) JY), JC 12 22] (.t 12) (.reg [JO 23 (.ld false 1 (.g 3)), JG 24 6 5, JD 25 1 24, JO 26 (.cl (.t 23) [.c (.int .i64 31), .t 25])]) (.ifr [JG 28 0 5, JD 29 1 28, JO 30 (.bin .eql 39 (.t 29) (JT 7)), JC 31 30, JS 32 31 (.mv (.g 7)), JS 33 31 (.bin .eql 3 (.t 32) (JT 0)), JO 34 (.pick (.t 31) (.t 33) JY), JC 27 34] (.t 27) (.reg [JO 35 (.ld false 1 (.g 3)), JG 36 6 5, JD 37 1 36, JO 38 (.cl (.t 35) [.c (.int .i64 32), .t 37])]) (.ifr [JG 40 0 5, JD 41 1 40, JO 42 (.bin .eql 39 (.t 41) (JT 7)), JC 43 42, JS 44 43 (.fa 0 (.g 4)), JS 45 43 (.ld false 1 (.t 44)), JS 46 43 (.mv (.g 7)), JS 47 43 (.bin .sub 3 (.t 46) (JT 1)), JS 48 43 (.ia 11 (.t 45) (.t 47)), JS 49 43 (.fa 1 (.t 48)), JS 50 43 (.ld false 1 (.t 49)), JS 51 43 (.len false (.t 50)), JS 52 43 (.fa 5 (.g 5)), JS 53 43 (.ld false 1 (.t 52)), JS 54 43 (.len false (.t 53)), JS 55 43 (.bin .neq 3 (.t 51) (.t 54)), JO 56 (.pick (.t 43) (.t 55) JY), JC 39 56] (.t 39) (.reg [JO 57 (.ld false 1 (.g 3)), JG 58 6 5, JD 59 1 58, JO 60 (.cl (.t 57) [.c (.int .i64 33), .t 59])]) .skip))))))
theorem fi26 : FI Tryz.prog 26 cf26 ac26 [] [0, 1, 2, 3, 4, 5, 7] 61 := FI_of (c := Tryz.f26.body.getD .skip) Tryz.func26 (by kernel_rfl) (by rfl) (by rfl) (by kernel_rfl) (by kernel_rfl) rfl rfl rfl
@[simp] theorem cfP26 : cf26.P = Tryz.prog := (rfl)
set_option maxRecDepth 100000
set_option maxHeartbeats 4000000
def bK (op : Int) (n t : List UInt8) (i : Int) : List (List UInt8) := if op = 21 ∨ (op = 22 ∧ i = 1) then [n] else if op = 20 ∧ i = 2 then [n, t] else []
def jU (e : Ex) (i : Int) : List (List UInt8) := bK e.op e.name e.tail i
theorem vZ (e : Ex) (i : Int) : Pure Tryz.prog 46 [.agg (aP e), I i] (.sl (em aN (jU e i))) := by
 refine fi46.pu (by simp) ?_
 simp only [aA, jU]
 generalize e.op = op
 unfold bK
 by_cases h1 : op = 21
 ·simp -implicitDefEqProofs [ac46, h1]; rfl
 ·by_cases h2 : op = 22
  ·by_cases h3 : i = 1
   ·simp -implicitDefEqProofs [ac46, h1, h2, h3]; rfl
   ·simp -implicitDefEqProofs [ac46, h1, h2, h3]
  ·by_cases h4 : op = 20
   ·by_cases h3 : i = 2
    ·simp -implicitDefEqProofs [ac46, h1, h2, h3, h4]; rfl
    ·simp -implicitDefEqProofs [ac46, h1, h2, h3, h4]
   ·simp -implicitDefEqProofs [ac46, h1, h2, h4]
abbrev Ft := Int × Int
def fQ (s : Ft) (w p : Int) : Ft := if s.1 = 0 ∨ p < s.2 then (w, p) else s
theorem zU (s : Ft) (w p : Int) {fid : Nat} {mem : Mem} {nx : Nat} {K : KD} (hl : look mem fid = some (.box [I s.1, I s.2])) (hi : fid < nx) (hk : ∀ nx', nx ≤ nx' → K (.tup []) (upd mem fid (.box [I (fQ s w p).1, I (fQ s w p).2])) nx') :
  bM Tryz.prog 24 [I w, I p, .opt fid 0] mem nx K := by
 refine fi24.ct (by simp) fun hfr => ?_
 unfold fQ at hk
 by_cases h1 : s.1 = 0
 ·rw [if_pos (.inl h1)] at hk
  simp -implicitDefEqProofs [ac24, hl, h1]
  exact ⟨_, aG _, hk _ (by omega)⟩
 ·by_cases h2 : p < s.2
  ·rw [if_pos (.inr h2)] at hk
   simp -implicitDefEqProofs [ac24, hl, h1, h2]
   exact ⟨_, aG _, hk _ (by omega)⟩
  ·rw [if_neg (by omega), cD hl] at hk
   simp -implicitDefEqProofs [ac24, hl, h1, h2]
   exact ⟨_, aG _, hk _ (by omega)⟩
def lH (P : List Fn) (pl : Sm) (op p : Int) (n : List UInt8) (k : Nat) (m : Sm) (s : Ft) : Ft :=
 if op = 6 ∧ cE m n = 0 then fQ s 31 p else if op = 7 ∧ cE pl n = 0 then fQ s 32 p else
 if op = 7 ∧ ((P[(cE pl n).toNat - 1]?.getD default).params.length ≠ k) then fQ s 33 p else s
structure E6 (mem : Mem) (nx mid fid b5 pid b4 b1 : Nat) (P : List Fn) (pl : Sm) (m : Sm) (s : Ft) : Prop where
 lm : look mem mid = some (.map (aW m))
 lf : look mem fid = some (.box [I s.1, I s.2])
 l5 : look mem b5 = some (.box [.omap pid])
 lp : look mem pid = some (.map (aW pl))
 l4 : look mem b4 = some (.box [.fn 24 [.opt fid 0]])
 l1 : look mem b1 = some (.box [.sl (em dG P)])
 im : mid < nx
 if' : fid < nx
 i5 : b5 < nx
 ip : pid < nx
 i4 : b4 < nx
 i1 : b1 < nx
 mf : mid ≠ fid
 m5 : b5 ≠ mid
 mp : pid ≠ mid
 m4 : b4 ≠ mid
 m1 : b1 ≠ mid
 f5 : b5 ≠ fid
 fp : pid ≠ fid
 f4 : b4 ≠ fid
 f1 : b1 ≠ fid
def bV (mem : Mem) (mid fid : Nat) (m : Sm) (s : Ft) : Mem := upd (upd mem fid (.box [I s.1, I s.2])) mid (.map (aW m))
theorem E6.cons {mem : Mem} {nx nx' mid fid b5 pid b4 b1 k : Nat} {P : List Fn} {pl m : Sm} {s : Ft} {b : Blk} (h : E6 mem nx mid fid b5 pid b4 b1 P pl m s) (hk : nx ≤ k) (hn : nx ≤ nx') : E6 ((k, b) :: mem) nx' mid fid b5 pid b4 b1 P pl m s := by
 have e : ∀ j, j < nx → look ((k, b) :: mem) j = look mem j := fun j hj => by
  simp only [look]; rw [if_neg (by omega)]
 exact ⟨(e _ h.im).trans h.lm, (e _ h.if').trans h.lf, (e _ h.i5).trans h.l5, (e _ h.ip).trans h.lp, (e _ h.i4).trans h.l4, (e _ h.i1).trans h.l1, Nat.lt_of_lt_of_le h.im hn, Nat.lt_of_lt_of_le h.if' hn, Nat.lt_of_lt_of_le h.i5 hn, Nat.lt_of_lt_of_le h.ip hn, Nat.lt_of_lt_of_le h.i4 hn, Nat.lt_of_lt_of_le h.i1 hn, h.mf, h.m5, h.mp, h.m4, h.m1, h.f5, h.fp, h.f4, h.f1⟩
theorem E6.up {mem : Mem} {nx nx' mid fid b5 pid b4 b1 : Nat} {P : List Fn} {pl m : Sm} {s : Ft} (h : E6 mem nx mid fid b5 pid b4 b1 P pl m s) (hn : nx ≤ nx') (m' : Sm) (s' : Ft) : E6 (bV mem mid fid m' s') nx' mid fid b5 pid b4 b1 P pl m' s' := by
 have e : ∀ j, j ≠ fid → j ≠ mid → look (bV mem mid fid m' s') j = look mem j := fun j h1 h2 => by
  unfold bV; rw [cT h2, cT h1]
 refine ⟨?_, ?_, (e _ h.f5 h.m5).trans h.l5, (e _ h.fp h.mp).trans h.lp, (e _ h.f4 h.m4).trans h.l4, (e _ h.f1 h.m1).trans h.l1, Nat.lt_of_lt_of_le h.im hn, Nat.lt_of_lt_of_le h.if' hn, Nat.lt_of_lt_of_le h.i5 hn, Nat.lt_of_lt_of_le h.ip hn, Nat.lt_of_lt_of_le h.i4 hn, Nat.lt_of_lt_of_le h.i1 hn, h.mf, h.m5, h.mp, h.m4, h.m1, h.f5, h.fp, h.f4, h.f1⟩
 ·unfold bV; rw [iT, cT h.mf, h.lm]; rfl
 ·unfold bV; rw [cT (Ne.symm h.mf), iT, h.lf]; rfl
theorem kI {mem : Mem} {nx mid fid b5 pid b4 b1 : Nat} {P : List Fn} {pl m : Sm} {s : Ft} (h : E6 mem nx mid fid b5 pid b4 b1 P pl m s) : bV mem mid fid m s = mem := by
 unfold bV; rw [cD h.lf, cD h.lm]
theorem zJ {mem : Mem} {mid fid : Nat} (h : mid ≠ fid) {m m' : Sm} {s s' : Ft} : bV (bV mem mid fid m s) mid fid m' s' = bV mem mid fid m' s' := by
 unfold bV; rw [upd_comm (i := mid) (j := fid) h, h_, h_]
theorem memS_f {mem : Mem} {nx mid fid b5 pid b4 b1 : Nat} {P : List Fn} {pl m : Sm} {s : Ft} (h : E6 mem nx mid fid b5 pid b4 b1 P pl m s) (s' : Ft) : upd mem fid (.box [I s'.1, I s'.2]) = bV mem mid fid m s' := by
 have : look (upd mem fid (.box [I s'.1, I s'.2])) mid = some (.map (aW m)) := (cT h.mf).trans h.lm
 unfold bV; exact (cD this).symm
def plOk (P : List Fn) (pl : Sm) : Prop := ∀ n, 0 ≤ cE pl n ∧ cE pl n ≤ P.length
theorem ia_Fn {l : List Fn} {mem : Mem} {j : IntKind} {i : Int} : iaD mem 11 (.sl (em dG l)) (.pl (.int j i)) = if 0 ≤ i ∧ i < l.length then some (.pt [Tx (l[i.toNat]?.getD default).name, .sl (em e9 (l[i.toNat]?.getD default).params), I (l[i.toNat]?.getD default).type, I (l[i.toNat]?.getD default).body.op, Tx (l[i.toNat]?.getD default).body.name, Tx (l[i.toNat]?.getD default).body.tail, I (l[i.toNat]?.getD default).body.type, CX (l[i.toNat]?.getD default).body.num.re (l[i.toNat]?.getD default).body.num.im, .sl (em aP (l[i.toNat]?.getD default).body.args), I (l[i.toNat]?.getD default).body.at', I (l[i.toNat]?.getD default).at']) else none := by
 rw [← bQ]
 exact l9 fun f => by rw [bQ]; rfl
attribute [simp] ia_Fn
theorem CQ (e : Ex) {mem : Mem} {nx mid fid b5 pid b4 b1 : Nat} {P : List Fn} {pl m : Sm} {s : Ft} {K : KD} (h : E6 mem nx mid fid b5 pid b4 b1 P pl m s) (hp : plOk P pl) (hP : P.length < 2 ^ 40)
  (hk : ∀ nx', nx ≤ nx' → K (.tup []) (bV mem mid fid m (lH P pl e.op e.at' e.name e.args.length m s)) nx') :
  bM Tryz.prog 26 [.agg (aP e), .omap mid, .opt b5 0, .opt b4 0, .opt b1 0] mem nx K := by
 refine fi26.ct (by simp) fun hfr => ?_
 have ht : ∀ (w p : Int) (nx2 : Nat), nx ≤ nx2 → ∀ K : KD, (∀ nx', nx2 ≤ nx' → K (.tup []) (bV mem mid fid m (fQ s w p)) nx') → bM Tryz.prog 24 [I w, I p, .opt fid 0] mem nx2 K := fun w p nx2 hn K hk2 =>
  zU s w p h.lf (Nat.lt_of_lt_of_le h.if' hn) (fun nx' hn' => by rw [memS_f h]; exact hk2 nx' hn')
 simp only [aA]
 unfold lH at hk
 obtain ⟨hp0, hp1⟩ := hp e.name
 have w := aY (x := cE pl e.name - 1) (by omega) (by omega)
 by_cases h1 : e.op = 6
 ·by_cases h2 : cE m e.name = 0
  ·rw [if_pos ⟨h1, h2⟩] at hk
   simp -implicitDefEqProofs [ac26, h.lm, h.l5, h.lp, h.l4, h.l1, h1, h2]
   refine iC (ht _ _ _ (by omega) _ (fun n1 hn1 => ?_))
   simp -implicitDefEqProofs
   exact ⟨_, aG _, hk _ (by omega)⟩
  ·rw [if_neg (fun g => h2 g.2), if_neg (fun g => by omega), if_neg (fun g => by omega), kI h] at hk
   simp -implicitDefEqProofs [ac26, h.lm, h.l5, h.lp, h.l4, h.l1, h1, h2]
   exact ⟨_, aG _, hk _ (by omega)⟩
 ·rw [if_neg (fun g => h1 g.1)] at hk
  by_cases h3 : e.op = 7
  ·by_cases h4 : cE pl e.name = 0
   ·rw [if_pos ⟨h3, h4⟩] at hk
    simp -implicitDefEqProofs [ac26, h.lm, h.l5, h.lp, h.l4, h.l1, h1, h3, h4]
    refine iC (ht _ _ _ (by omega) _ (fun n1 hn1 => ?_))
    simp -implicitDefEqProofs
    exact ⟨_, aG _, hk _ (by omega)⟩
   ·rw [if_neg (fun g => h4 g.2)] at hk
    have b1 : (1 : Int) ≤ cE pl e.name := by omega
    have b2 : cE pl e.name - 1 < (P.length : Int) := by omega
    generalize hQ : (P[(cE pl e.name).toNat - 1]?.getD default) = Q at *
    by_cases h5 : Q.params.length = e.args.length
    ·rw [if_neg (fun g => g.2 h5), kI h] at hk
     simp -implicitDefEqProofs [ac26, h.lm, h.l5, h.lp, h.l4, h.l1, h1, h3, h4, w, b1, b2, hQ, h5]
     exact ⟨_, aG _, hk _ (by omega)⟩
    ·rw [if_pos ⟨h3, h5⟩] at hk
     have h6 : ¬ (Q.params.length : Int) = (e.args.length : Int) := by omega
     simp -implicitDefEqProofs [ac26, h.lm, h.l5, h.lp, h.l4, h.l1, h1, h3, h4, w, b1, b2, hQ, h5, h6]
     refine iC (ht _ _ _ (by omega) _ (fun n1 hn1 => ?_))
     simp -implicitDefEqProofs
     exact ⟨_, aG _, hk _ (by omega)⟩
  ·rw [if_neg (fun g => h3 g.1), if_neg (fun g => h3 g.1), kI h] at hk
   simp -implicitDefEqProofs [ac26, h.lm, h.l5, h.lp, h.l4, h.l1, h1, h3]
   exact ⟨_, aG _, hk _ (by omega)⟩
def bW (m : Sm) (n : List UInt8) : Sm := dS m n (IntKind.i64.wrap (cE m n + 1))
def iJ (m : Sm) (n : List UInt8) : Sm := dS m n (IntKind.i64.wrap (cE m n - 1))
mutual
def jB (P : List Fn) (pl : Sm) : Ex → Sm → Ft → Sm × Ft
 | .mk op n t _ _ args p, m, s => j9 P pl op n t 0 args m (lH P pl op p n args.length m s)
def j9 (P : List Fn) (pl : Sm) (op : Int) (n t : List UInt8) (i : Nat) : List Ex → Sm → Ft → Sm × Ft
 | [], m, s => (m, s)
 | x :: xs, m, s => j9 P pl op n t (i + 1) xs ((bK op n t i).foldl iJ (jB P pl x ((bK op n t i).foldl bW m) s).1) (jB P pl x ((bK op n t i).foldl bW m) s).2
end
def WC (e : Ex) : Prop := ∀ ⦃mem : Mem⦄ ⦃nx mid fid b5 pid b4 b1 : Nat⦄ ⦃P : List Fn⦄ ⦃pl m : Sm⦄ ⦃s : Ft⦄ ⦃K : KD⦄, E6 mem nx mid fid b5 pid b4 b1 P pl m s → plOk P pl → P.length < 2 ^ 40 → size e ≤ 2 ^ 40 →
 (∀ nx', nx ≤ nx' → K (.tup []) (bV mem mid fid (jB P pl e m s).1 (jB P pl e m s).2) nx') → bM Tryz.prog 25 [.agg (aP e), .omap mid, .fn 26 [.opt b5 0, .opt b4 0, .opt b1 0]] mem nx K
theorem iP (op : Int) (n t : List UInt8) (i : Int) : (bK op n t i).length ≤ 2 := by
 unfold bK
 split
 ·simp
 ·split <;> simp
theorem gC : ∀ (l : List Ex), l.length ≤ aS l
 | [] => by simp [aS]
 | .mk .. :: es => by
  have := gC es
  simp only [aS, size, List.length_cons]; omega
theorem gD : ∀ {l : List Ex} {x : Ex}, x ∈ l → size x ≤ aS l
 | e :: es, x, h => by
  simp only [aS]
  rcases List.mem_cons.1 h with rfl | h
  ·omega
  ·have := gD h; omega
theorem walk_s (op : Int) (n t : List UInt8) (ty : Int) (z : Cx) (args : List Ex) (p : Int) (ih : ∀ x ∈ args, WC x) : WC (.mk op n t ty z args p) := by
 intro mem nx mid fid b5 pid b4 b1 P pl m s K h hp hP hsz hk
 have hal : args.length ≤ 2 ^ 40 := by
  have := gC args
  simp only [size] at hsz; omega
 have hv := fun (K : KD) (nx2 : Nat) (hn : nx ≤ nx2) (hk2 : ∀ nx', nx2 ≤ nx' → K (.tup []) (bV mem mid fid m (lH P pl op p n args.length m s)) nx') => CQ (.mk op n t ty z args p) (mem := mem) (nx := nx2) (K := K) ((kI h) ▸ E6.up h hn m s) hp hP hk2
 have hR : jB P pl (.mk op n t ty z args p) m s = j9 P pl op n t 0 args m (lH P pl op p n args.length m s) := by simp only [jB]
 rw [hR] at hk
 clear hR
 generalize lH P pl op p n args.length m s = s1 at *
 generalize hRR : j9 P pl op n t 0 args m s1 = R at hk
 have hE : ∀ (nx' : Nat), nx ≤ nx' → ∀ m' s', E6 (bV mem mid fid m' s') nx' mid fid b5 pid b4 b1 P pl m' s' := fun nx' hn m' s' => E6.up h hn m' s'
 have hL : ∀ m' s', look (bV mem mid fid m' s') mid = some (.map (aW m')) := fun m' s' => (hE nx (Nat.le_refl _) m' s').lm
 have hU : ∀ m' s' m2, upd (bV mem mid fid m' s') mid (.map (aW m2)) = bV mem mid fid m2 s' := fun m' s' m2 => by unfold bV; rw [h_]
 have hM : ∀ m' s' m2 s2, bV (bV mem mid fid m' s') mid fid m2 s2 = bV mem mid fid m2 s2 := fun m' s' m2 s2 => zJ h.mf
 have hfr' : ∀ (hfr : ∀ i, nx ≤ i → look mem i = none) (i : Nat), nx ≤ i → ∀ m' s', look (bV mem mid fid m' s') i = none := fun hfr i hi m' s' => by unfold bV; exact aF (aF (hfr i hi))
 have hB := vZ (.mk op n t ty z args p)
 have hbF : ∀ i, jU (.mk op n t ty z args p) i = bK op n t i := fun i => rfl
 simp only [hbF] at hB
 simp only [bI] at hv hB ⊢
 refine fi25.ct (by simp) fun hfr => ?_
 simp -implicitDefEqProofs [ac25]
 refine iC (hv _ _ (by omega) (fun n1 hn1 => ?_))
 simp -implicitDefEqProofs
 refine lpG cf25 lb25_2 [6, 7, 8, 10, 12, 20, 28, 29, 30, 43, 44, 45] (α := Nat × Sm × Ft) (fun s _ => [(20, I s.1)]) (fun s _ => bV mem mid fid s.2.1 s.2.2) (fun s k => n1 ≤ k ∧ s.1 ≤ args.length ∧ j9 P pl op n t s.1 (args.drop s.1) s.2.1 s.2.2 = R) (fun s => args.length - s.1) (0, m, s1) ⟨by omega, by simp, hRR⟩ (by simp) (by simp) ?_
 rintro ⟨i, m1, s2⟩ k ⟨hk1, hi, hw⟩
 simp only at hi hw
 by_cases hlt : i < args.length
 ·have hd : args.drop i = args[i] :: args.drop (i + 1) := List.drop_eq_getElem_cons hlt
  have hg : args[i]?.getD default = args[i] := by rw [List.getElem?_eq_getElem hlt]; rfl
  have hmem : args[i] ∈ args := List.getElem_mem hlt
  rw [hd] at hw
  unfold j9 at hw
  obtain ⟨x, hxe⟩ : ∃ x, args[i] = x := ⟨_, rfl⟩
  rw [hxe] at hmem hw
  have hx := ih _ hmem
  have hsx : size x ≤ 2 ^ 40 := by
   have := gD hmem
   simp only [size] at hsz; omega
  have hbl := iP op n t i
  have hBi := hB i
  generalize bK op n t i = N at *
  have w1 := aY (x := (i : Int) + 1) (by omega) (by omega)
  unfold WC at hx
  simp only [aA] at hx
  simp -implicitDefEqProofs [lb25_2, hlt, hxe]
  refine aH (hBi) (by simp) ?_
  simp -implicitDefEqProofs
  have hb1 := h.im
  have hb2 := h.if'
  generalize hb7 : k + 1 + 3 = b7
  have hbm : ¬ b7 = mid := by omega
  have hbf : ¬ b7 = fid := by omega
  have hMc : ∀ (M : Mem) (b : Blk) (m' : Sm) (s' : Ft), bV ((b7, b) :: M) mid fid m' s' = (b7, b) :: bV M mid fid m' s' := fun M b m' s' => by
   unfold bV
   simp only [upd, hbm, hbf, if_false]
  have hEc : ∀ (b : Blk) (nx' : Nat), b7 < nx' → ∀ m' s', E6 ((b7, b) :: bV mem mid fid m' s') nx' mid fid b5 pid b4 b1 P pl m' s' := fun b nx' hn m' s' => E6.cons (hE nx (Nat.le_refl _) m' s') (by omega) (by omega)
  refine lpG cf25 lb25_1 [10, 30] (α := Nat × Sm) (fun s _ => [(30, I s.1)]) (fun s _ => (b7, .box (aP x)) :: bV mem mid fid s.2 s2) (fun s k2 => b7 + 1 ≤ k2 ∧ s.1 ≤ N.length ∧ (N.drop s.1).foldl bW s.2 = N.foldl bW m1) (fun s => N.length - s.1) (0, m1) ⟨by omega, by simp, rfl⟩ (by simp) (by simp [aA]) ?_
  rintro ⟨j, m2⟩ k2 ⟨hk2, hj, hfo⟩
  simp only at hj hfo
  by_cases hjl : j < N.length
  ·have hd2 : N.drop j = N[j] :: N.drop (j + 1) := List.drop_eq_getElem_cons hjl
   rw [hd2] at hfo
   simp only [List.foldl_cons] at hfo
   have w2 := aY (x := (j : Int) + 1) (by omega) (by omega)
   simp -implicitDefEqProofs [lb25_1, hjl, hL, hbm, hU, w2]
   exact aI (j + 1, bW m2 N[j]) ⟨by omega, hjl, hfo⟩ (by simp only; omega) (by simp) (by simp [bW])
  ·rw [List.drop_eq_nil_of_le (by omega)] at hfo
   simp only [List.foldl_nil] at hfo
   subst hfo
   generalize List.foldl bW m1 N = m3 at *
   simp -implicitDefEqProofs [lb25_1, hjl, hbm, aA]
   refine aD (hx (hEc _ _ (by omega) _ _) hp hP hsx (fun n3 hn3 => ?_))
   generalize jB P pl x m3 s2 = r3 at *
   simp -implicitDefEqProofs [hMc, hM]
   refine lpG cf25 lb25_0 [12, 45] (α := Nat × Sm) (fun s _ => [(45, I s.1)]) (fun s _ => (b7, .box (aP x)) :: bV mem mid fid s.2 r3.2) (fun s k2 => b7 + 1 ≤ k2 ∧ s.1 ≤ N.length ∧ (N.drop s.1).foldl iJ s.2 = N.foldl iJ r3.1) (fun s => N.length - s.1) (0, r3.1) ⟨by omega, by simp, rfl⟩ (by simp) (by simp [aA]) ?_
   rintro ⟨j2, m4⟩ k4 ⟨hk4, hj2, hfo2⟩
   simp only at hj2 hfo2
   by_cases hjl2 : j2 < N.length
   ·have hd2 : N.drop j2 = N[j2] :: N.drop (j2 + 1) := List.drop_eq_getElem_cons hjl2
    rw [hd2] at hfo2
    simp only [List.foldl_cons] at hfo2
    have w2 := aY (x := (j2 : Int) + 1) (by omega) (by omega)
    simp -implicitDefEqProofs [lb25_0, hjl2, hL, hbm, hU, w2]
    exact aI (j2 + 1, iJ m4 N[j2]) ⟨by omega, hjl2, hfo2⟩ (by simp only; omega) (by simp) (by simp [iJ])
   ·rw [List.drop_eq_nil_of_le (by omega)] at hfo2
    simp only [List.foldl_nil] at hfo2
    subst hfo2
    simp -implicitDefEqProofs [lb25_0, hjl2, w1]
    refine aI (i + 1, _, r3.2) ⟨by omega, hlt, hw⟩ (by simp only; omega) (by simp) (aX (aK _) (hfr' hfr _ (by omega) _ _))
 ·have he : args.drop i = [] := List.drop_eq_nil_of_le (by omega)
  rw [he] at hw
  unfold j9 at hw
  simp -implicitDefEqProofs [lb25_2, hlt]
  rw [← hw] at hk
  exact ⟨_, aG _, hk _ (by omega)⟩
mutual
theorem yA : ∀ (e : Ex), WC e
 | .mk op n t ty z args p => walk_s op n t ty z args p (wH args)
theorem wH : ∀ (l : List Ex), ∀ x ∈ l, WC x
 | [], x, h => by simp at h
 | e :: es, x, h => (List.mem_cons.1 h).elim (fun he => he ▸ yA e) (fun h => wH es x h)
end
set_option maxRecDepth 1000000
set_option maxHeartbeats 0
noncomputable def cf53 : Cfg := ⟨Tryz.prog, 20, [0, 1, 2, 3], []⟩
noncomputable def ac53 : AC :=
 (.seq (.reg [JN 3 0]) (.ifr [JG 5 0 3, JD 6 1 5, JO 7 (.bin .eql 39 (.t 6) (JT 6)), JC 8 7, JS 9 8 (.mv (.g 1)), JS 10 8 (.fa 1 (.g 3)), JS 11 8 (.ld false 1 (.t 10)), JS 12 8 (.lk none (.int .i64 0) false (.t 9) (.t 11)), JS 13 8 (.bin .eql 3 (.t 12) (JT 0)), JO 14 (.pick (.t 8) (.t 13) JY)] (.t 14) (.reg [JO 15 (.ld false 1 (.g 2)), JG 16 1 3, JD 17 1 16, JO 18 (.lk none (.int .i64 0) false (.t 15) (.t 17)), JO 19 (.bin .add 3 (.t 18) (JT 1)), JQ (.mup none (.t 15) (.t 17) (.t 19))]) .skip))
theorem fi53 : FI Tryz.prog 53 cf53 ac53 [] [0, 1, 2, 3] 20 := FI_of (c := Tryz.f53.body.getD .skip) Tryz.func53 (by kernel_rfl) (by rfl) (by rfl) (by kernel_rfl) (by kernel_rfl) rfl rfl rfl
@[simp] theorem cfP53 : cf53.P = Tryz.prog := (rfl)
noncomputable def cf39 : Cfg := ⟨Tryz.prog, 10, [0, 1, 2, 3], [1, 3, 4, 6, 8]⟩
noncomputable def ac39 : AC :=
 (.seq (.reg [JP 1 (.bx (.g 0)), JP 2 (.mv (.c (.map none)))]) (.seq (.reg [.mk (.t 4) none .mkm, JP 3 (.al [.map none]), JQ (.st 1 (.g 3) (.t 4))]) (.seq (.reg [JF 5 7 1, .mk (.t 6) none .mkm, JO 7 (.mkf 53 [.g 3]), JO 8 (.cl (.f 25) [.t 5, .t 6, .t 7])]) (.seq (.reg [JO 9 (.ld false 1 (.g 3)), JB 2 9]) .ret))))
theorem fi39 : FI Tryz.prog 39 cf39 ac39 [.t 2] [0, 1, 2, 3] 10 := FI_of (c := Tryz.f39.body.getD .skip) Tryz.func39 (by kernel_rfl) (by rfl) (by rfl) (by kernel_rfl) (by kernel_rfl) rfl rfl rfl
@[simp] theorem cfP39 : cf39.P = Tryz.prog := (rfl)
noncomputable def cf28 : Cfg := ⟨Tryz.prog, 24, [0, 1, 2, 3, 6, 11, 12, 13], []⟩
noncomputable def lb28_0 : AC :=
 .seq (.ifr [JO 14 (.bin .lss 3 (.g 13) (.g 12))] (.t 14) .skip (.exit 0)) (.seq (.block 1 (.seq (.reg [JO 15 (.ia 1 (.g 11) (.g 13)), JD 16 1 15, JB 6 16]) (.ifr [JA 17 6, JO 18 (.bin .neq 9 (.t 17) (.c (JU)))] (.t 18) (.reg [JO 19 (.ld false 1 (.g 2)), JA 20 6, JO 21 (.lk none (.int .i64 0) false (.t 19) (.t 20)), JO 22 (.bin .add 3 (.t 21) (JT 1)), JQ (.mup none (.t 19) (.t 20) (.t 22))]) .skip))) (.reg [JO 23 (.bin .add 3 (.g 13) (JT 1)), JB 13 23]))
noncomputable def ac28 : AC :=
 (.seq (.reg [JN 3 0]) (.seq (.reg [JG 7 1 3, JD 8 1 7, JG 9 2 3, JD 10 1 9, JP 11 (.bsl 1 2 [JU] [(0, 1, .t 8), (1, 1, .t 10)]), JP 12 (.len false (.g 11)), JI 13 0]) (.block 0 (.loop lb28_0))))
theorem fi28 : FI Tryz.prog 28 cf28 ac28 [] [0, 1, 2, 3, 6, 11, 12, 13] 24 := FI_of (c := Tryz.f28.body.getD .skip) Tryz.func28 (by kernel_rfl) (by rfl) (by rfl) (by kernel_rfl) (by kernel_rfl) rfl rfl rfl
@[simp] theorem cfP28 : cf28.P = Tryz.prog := (rfl)
noncomputable def cf20 : Cfg := ⟨Tryz.prog, 19, [0, 1, 2, 3, 5, 7, 8, 9], []⟩
noncomputable def lb20_0 : AC :=
 .seq (.ifr [JO 10 (.bin .lss 3 (.g 9) (.g 8))] (.t 10) .skip (.exit 0)) (.seq (.block 1 (.seq (.reg [JO 11 (.ia 7 (.g 7) (.g 9)), JE 12 7 11, JP 5 (.al [JV, JU, JU, JV, .complex .f64 0 0, JW, JV]), JQ (.st 7 (.g 5) (.t 12))]) (.reg [JA 13 3, JF 14 7 5, JO 15 (.pc (.f 20) [.t 14]), JO 16 (.bin .add 3 (.t 13) (.t 15)), JB 3 16]))) (.reg [JO 17 (.bin .add 3 (.g 9) (JT 1)), JB 9 17]))
noncomputable def ac20 : AC :=
 (.seq (.reg [JN 1 0, JI 2 0]) (.seq (.reg [JI 3 1]) (.seq (.seq (.reg [JG 6 5 1, JP 7 (.ld false 1 (.t 6)), JP 8 (.len false (.g 7)), JI 9 0]) (.block 0 (.loop lb20_0))) (.seq (.reg [JA 18 3, JB 2 18]) .ret))))
theorem fi20 : FI Tryz.prog 20 cf20 ac20 [.t 2] [0, 1, 2, 3, 5, 7, 8, 9] 19 := FI_of (c := Tryz.f20.body.getD .skip) Tryz.func20 (by kernel_rfl) (by rfl) (by rfl) (by kernel_rfl) (by kernel_rfl) rfl rfl rfl
@[simp] theorem cfP20 : cf20.P = Tryz.prog := (rfl)
noncomputable def cf19 : Cfg := ⟨Tryz.prog, 9, [0, 1, 2, 4], [6]⟩
noncomputable def ac19 : AC :=
 (.seq (.reg [JN 2 0, JI 4 0]) (.seq (.reg [JF 5 7 2, JO 6 (.cl (.f 39) [.t 5]), JA 7 1, JO 8 (.lk none (.int .i64 0) false (.t 6) (.t 7)), JB 4 8]) .ret))
theorem fi19 : FI Tryz.prog 19 cf19 ac19 [.t 4] [0, 1, 2, 4] 9 := FI_of (c := Tryz.f19.body.getD .skip) Tryz.func19 (by kernel_rfl) (by rfl) (by rfl) (by kernel_rfl) (by kernel_rfl) rfl rfl rfl
@[simp] theorem cfP19 : cf19.P = Tryz.prog := (rfl)
noncomputable def cf30 : Cfg := ⟨Tryz.prog, 4, [0, 1, 2], [1]⟩
noncomputable def ac30 : AC :=
 (.seq (.reg [JP 1 (.bx (.g 0)), JP 2 (.mv (.c .nilFunc))]) (.seq (.reg [JO 3 (.mkf 50 [.g 1]), JB 2 3]) .ret))
theorem fi30 : FI Tryz.prog 30 cf30 ac30 [.t 2] [0, 1, 2] 4 := FI_of (c := Tryz.f30.body.getD .skip) Tryz.func30 (by kernel_rfl) (by rfl) (by rfl) (by kernel_rfl) (by kernel_rfl) rfl rfl rfl
@[simp] theorem cfP30 : cf30.P = Tryz.prog := (rfl)
noncomputable def cf15 : Cfg := ⟨Tryz.prog, 7, [0, 1, 2], [4, 5, 6]⟩
noncomputable def ac15 : AC :=
 (.seq (.reg [JN 1 0, JP 2 (.mv (.c (.slice none 0 0)))]) (.seq (.reg [JF 3 7 1, JO 4 (.cl (.f 39) [.t 3]), JO 5 (.cl (.f 30) [.t 4]), JO 6 (.cl (.f 29) [.t 5]), JB 2 6]) .ret))
theorem fi15 : FI Tryz.prog 15 cf15 ac15 [.t 2] [0, 1, 2] 7 := FI_of (c := Tryz.f15.body.getD .skip) Tryz.func15 (by kernel_rfl) (by rfl) (by rfl) (by kernel_rfl) (by kernel_rfl) rfl rfl rfl
@[simp] theorem cfP15 : cf15.P = Tryz.prog := (rfl)
noncomputable def cf11 : Cfg := ⟨Tryz.prog, 31, [0, 1, 2, 3, 5, 11, 12, 13], [27, 29, 30]⟩
noncomputable def lb11_0 : AC :=
 .seq (.ifr [JO 14 (.bin .lss 3 (.g 13) (.g 12))] (.t 14) .skip (.exit 0)) (.seq (.block 1 (.seq (.reg [JO 15 (.ia 3 (.g 11) (.g 13)), JE 16 3 15, JP 5 (.al [JU, JV, JV]), JQ (.st 3 (.g 5) (.t 16))]) (.reg [JO 17 (.ld false 1 (.g 3)), JG 18 0 5, JD 19 1 18, JO 20 (.lk none (.int .i64 0) false (.t 17) (.t 19)), JO 21 (.bin .add 3 (.t 20) (JT 1)), JQ (.mup none (.t 17) (.t 19) (.t 21))]))) (.reg [JO 22 (.bin .add 3 (.g 13) (JT 1)), JB 13 22]))
noncomputable def ac11 : AC :=
 (.seq (.reg [JN 1 0, JP 2 (.mv (.c (.slice none 0 0)))]) (.seq (.reg [.mk (.t 6) none .mkm, JG 7 0 1, JD 8 1 7, JQ (.mup none (.t 6) (.t 8) (JT 1)), JC 9 6, JP 3 (.al [.map none]), JQ (.st 1 (.g 3) (.t 9))]) (.seq (.seq (.reg [JG 10 1 1, JP 11 (.ld false 1 (.t 10)), JP 12 (.len false (.g 11)), JI 13 0]) (.block 0 (.loop lb11_0))) (.seq (.reg [JG 23 3 1, JE 24 7 23, .mk (.t 25) none .mkm, JO 26 (.mkf 28 [.g 3]), JO 27 (.cl (.f 25) [.t 24, .t 25, .t 26])]) (.seq (.reg [JO 28 (.ld false 1 (.g 3)), JO 29 (.cl (.f 30) [.t 28]), JO 30 (.cl (.f 29) [.t 29]), JB 2 30]) .ret)))))
theorem fi11 : FI Tryz.prog 11 cf11 ac11 [.t 2] [0, 1, 2, 3, 5, 11, 12, 13] 31 := FI_of (c := Tryz.f11.body.getD .skip) Tryz.func11 (by kernel_rfl) (by rfl) (by rfl) (by kernel_rfl) (by kernel_rfl) rfl rfl rfl
@[simp] theorem cfP11 : cf11.P = Tryz.prog := (rfl)
noncomputable def cf14 : Cfg := ⟨Tryz.prog, 33, [0, 1, 4, 5, 6, 7, 8], [31]⟩
noncomputable def lb14_0 : AC :=
 .seq (.ifr [JA 15 6, JO 16 (.len false (.t 15)), JA 17 1, JO 18 (.bin .lss 3 (.t 16) (.t 17))] (.t 18) .skip (.exit 0)) (.seq (.block 1 (.seq (.reg [JA 21 7, JO 22 (.pc (.f 37) [.t 21]), JO 23 (.bin .add 9 (.c (.string (ByteArray.mk (Array.mk [116])))) (.t 22)), JB 8 23]) (.ifr [JA 24 0, JA 25 8, JO 26 (.pc (.f 38) [.t 24, .t 25]), JO 27 (.un .not (.t 26))] (.t 27) (.reg [JA 28 6, JA 29 8, JO 30 (.bsl 1 1 [JU] [(0, 1, .t 29)]), JO 31 (.app 1 16 [JU] (.t 28) (.t 30)), JB 6 31]) .skip))) (.reg [JA 19 7, JO 20 (.bin .add 3 (.t 19) (JT 1)), JB 7 20]))
noncomputable def ac14 : AC :=
 (.seq (.reg [JP 4 (.mv (.c (.slice none 0 0))), JI 5 0]) (.seq (.ifr [JA 9 1, JO 10 (.bin .lss 3 (.t 9) (JT 0)), JC 11 10, JR 12 11 (.mv (.g 1)), JR 13 11 (.bin .gtr 3 (.t 12) (JT 4096)), JO 14 (.pick (.t 11) JX (.t 13))] (.t 14) (.seq (.reg [JP 4 (.mv (.c (.slice none 0 0))), JI 5 2]) .ret) .skip) (.seq (.reg [JP 6 (.mv (.c (.slice none 0 0)))]) (.seq (.seq (.reg [JI 7 1]) (.block 0 (.loop lb14_0))) (.seq (.reg [JA 32 6, JB 4 32, JI 5 0]) .ret)))))
theorem fi14 : FI Tryz.prog 14 cf14 ac14 [.t 4, .t 5] [0, 1, 4, 5, 6, 7, 8] 33 := FI_of (c := Tryz.f14.body.getD .skip) Tryz.func14 (by kernel_rfl) (by rfl) (by rfl) (by kernel_rfl) (by kernel_rfl) rfl rfl rfl
@[simp] theorem cfP14 : cf14.P = Tryz.prog := (rfl)
noncomputable def cf38 : Cfg := ⟨Tryz.prog, 9, [0, 1, 4], []⟩
noncomputable def ac38 : AC :=
 (.seq (.reg [JP 4 (.mv JY)]) (.seq (.reg [JA 5 0, JA 6 1, JO 7 (.pc (.f 52) [.t 5, .t 6]), JO 8 (.bin .geq 3 (.t 7) (JT 0)), JB 4 8]) .ret))
theorem fi38 : FI Tryz.prog 38 cf38 ac38 [.t 4] [0, 1, 4] 9 := FI_of (c := Tryz.f38.body.getD .skip) Tryz.func38 (by kernel_rfl) (by rfl) (by rfl) (by kernel_rfl) (by kernel_rfl) rfl rfl rfl
@[simp] theorem cfP38 : cf38.P = Tryz.prog := (rfl)
noncomputable def cf52 : Cfg := ⟨Tryz.prog, 19, [0, 1, 4, 5, 7, 8], []⟩
noncomputable def lb52_0 : AC :=
 .seq (.ifr [JO 9 (.bin .lss 3 (.g 8) (.g 7))] (.t 9) .skip (.exit 0)) (.seq (.block 1 (.seq (.reg [JA 10 8, JB 5 10]) (.ifr [JA 11 1, JA 12 0, JA 13 5, JL 14 1 12 13, JD 15 1 14, JO 16 (.bin .eql 9 (.t 11) (.t 15))] (.t 16) (.seq (.reg [JA 17 5, JB 4 17]) .ret) .skip))) (.reg [JO 18 (.bin .add 3 (.g 8) (JT 1)), JB 8 18]))
noncomputable def ac52 : AC :=
 (.seq (.reg [JI 4 0]) (.seq (.seq (.reg [JA 6 0, JP 7 (.len false (.t 6)), JI 8 0]) (.block 0 (.loop lb52_0))) (.seq (.reg [JI 4 (-1)]) .ret)))
theorem fi52 : FI Tryz.prog 52 cf52 ac52 [.t 4] [0, 1, 4, 5, 7, 8] 19 := FI_of (c := Tryz.f52.body.getD .skip) Tryz.func52 (by kernel_rfl) (by rfl) (by rfl) (by kernel_rfl) (by kernel_rfl) rfl rfl rfl
@[simp] theorem cfP52 : cf52.P = Tryz.prog := (rfl)
noncomputable def cf17 : Cfg := ⟨Tryz.prog, 30, [0, 1, 2, 3, 4, 5], [27]⟩
noncomputable def lb17_0 : AC :=
 .seq (.ifr [JA 8 5, JA 9 4, JO 10 (.len false (.t 9)), JO 11 (.bin .lss 3 (.t 8) (.t 10))] (.t 11) .skip (.exit 0)) (.seq (.block 1 (.ifr [JA 14 4, JA 15 5, JL 16 8 14 15, JH 17 7 16, JD 18 1 17] (.t 18) (.reg [JA 19 3, JA 20 4, JA 21 5, JL 22 8 20 21, JH 23 0 22, JH 24 1 23, JD 25 1 24, JO 26 (.bsl 1 1 [JU] [(0, 1, .t 25)]), JO 27 (.app 1 16 [JU] (.t 19) (.t 26)), JB 3 27]) .skip)) (.reg [JA 12 5, JO 13 (.bin .add 3 (.t 12) (JT 1)), JB 5 13]))
noncomputable def ac17 : AC :=
 (.seq (.reg [JN 1 0, JP 2 (.mv (.c (.slice none 0 0)))]) (.seq (.reg [JP 3 (.mv (.c (.slice none 0 0)))]) (.seq (.reg [JF 6 7 1, JO 7 (.pc (.f 42) [.t 6, .c (.slice none 0 0)]), JB 4 7]) (.seq (.seq (.reg [JI 5 0]) (.block 0 (.loop lb17_0))) (.seq (.reg [JA 28 3, JO 29 (.pc (.f 32) [.t 28]), JB 2 29]) .ret)))))
theorem fi17 : FI Tryz.prog 17 cf17 ac17 [.t 2] [0, 1, 2, 3, 4, 5] 30 := FI_of (c := Tryz.f17.body.getD .skip) Tryz.func17 (by kernel_rfl) (by rfl) (by rfl) (by kernel_rfl) (by kernel_rfl) rfl rfl rfl
@[simp] theorem cfP17 : cf17.P = Tryz.prog := (rfl)
noncomputable def cf34 : Cfg := ⟨Tryz.prog, 34, [0, 1, 2, 4, 5, 6, 7], []⟩
noncomputable def lb34_0 : AC :=
 .seq (.ifr [JA 10 7, JA 11 6, JO 12 (.len false (.t 11)), JO 13 (.bin .lss 3 (.t 10) (.t 12))] (.t 13) .skip (.exit 0)) (.seq (.block 1 (.ifr [JA 16 6, JA 17 7, JL 18 8 16 17, JH 19 7 18, JD 20 1 19, JC 21 20, JS 22 21 (.mv (.g 6)), JS 23 21 (.mv (.g 7)), JS 24 21 (.ia 8 (.t 22) (.t 23)), JS 25 21 (.fa 0 (.t 24)), JS 26 21 (.fa 1 (.t 25)), JS 27 21 (.ld false 1 (.t 26)), JS 28 21 (.mv (.g 1)), JS 29 21 (.bin .eql 9 (.t 27) (.t 28)), JO 30 (.pick (.t 21) (.t 29) JY)] (.t 30) (.reg [JA 31 5, JO 32 (.bin .add 3 (.t 31) (JT 1)), JB 5 32]) .skip)) (.reg [JA 14 7, JO 15 (.bin .add 3 (.t 14) (JT 1)), JB 7 15]))
noncomputable def ac34 : AC :=
 (.seq (.reg [JN 2 0, JI 4 0]) (.seq (.reg [JI 5 0]) (.seq (.reg [JF 8 7 2, JO 9 (.pc (.f 42) [.t 8, .c (.slice none 0 0)]), JB 6 9]) (.seq (.seq (.reg [JI 7 0]) (.block 0 (.loop lb34_0))) (.seq (.reg [JA 33 5, JB 4 33]) .ret)))))
theorem fi34 : FI Tryz.prog 34 cf34 ac34 [.t 4] [0, 1, 2, 4, 5, 6, 7] 34 := FI_of (c := Tryz.f34.body.getD .skip) Tryz.func34 (by kernel_rfl) (by rfl) (by rfl) (by kernel_rfl) (by kernel_rfl) rfl rfl rfl
@[simp] theorem cfP34 : cf34.P = Tryz.prog := (rfl)
noncomputable def cf35 : Cfg := ⟨Tryz.prog, 23, [0, 1, 2, 3, 4, 5], []⟩
noncomputable def lb35_0 : AC :=
 .seq (.ifr [JA 6 4, JG 7 5 1, JD 8 1 7, JO 9 (.len false (.t 8)), JO 10 (.bin .lss 3 (.t 6) (.t 9))] (.t 10) .skip (.exit 0)) (.seq (.block 1 (.seq (.reg [JG 13 5 1, JD 14 1 13, JA 15 4, JL 16 7 14 15, JE 17 7 16, JO 18 (.pc (.f 35) [.t 17]), JB 5 18]) (.reg [JA 19 3, JA 20 5, JO 21 (.bin .add 3 (.t 19) (.t 20)), JB 3 21]))) (.reg [JA 11 4, JO 12 (.bin .add 3 (.t 11) (JT 1)), JB 4 12]))
noncomputable def ac35 : AC :=
 (.seq (.reg [JN 1 0, JI 2 0]) (.seq (.reg [JI 3 1]) (.seq (.seq (.reg [JI 4 0]) (.block 0 (.loop lb35_0))) (.seq (.reg [JA 22 3, JB 2 22]) .ret))))
theorem fi35 : FI Tryz.prog 35 cf35 ac35 [.t 2] [0, 1, 2, 3, 4, 5] 23 := FI_of (c := Tryz.f35.body.getD .skip) Tryz.func35 (by kernel_rfl) (by rfl) (by rfl) (by kernel_rfl) (by kernel_rfl) rfl rfl rfl
@[simp] theorem cfP35 : cf35.P = Tryz.prog := (rfl)
noncomputable def cf40 : Cfg := ⟨Tryz.prog, 18, [0, 2, 3], []⟩
@[simp] theorem cfP40 : cf40.P = Tryz.prog := (rfl)
noncomputable def cf16 : Cfg := ⟨Tryz.prog, 33, [0, 1, 4, 5, 6, 7, 8], [31]⟩
@[simp] theorem cfP16 : cf16.P = Tryz.prog := (rfl)
set_option maxRecDepth 100000
set_option maxHeartbeats 4000000
structure E2 (mem : Mem) (nx mid cid b : Nat) (m c : Sm) : Prop where
 lm : look mem mid = some (.map (aW m))
 lc : look mem cid = some (.map (aW c))
 lb : look mem b = some (.box [.omap cid])
 im : mid < nx
 ic : cid < nx
 ib : b < nx
 mc : mid ≠ cid
 bm : b ≠ mid
 bc : b ≠ cid
def bN (mem : Mem) (mid cid : Nat) (m c : Sm) : Mem := upd (upd mem cid (.map (aW c))) mid (.map (aW m))
theorem E2.cons {mem : Mem} {nx nx' mid cid b k : Nat} {m c : Sm} {bl : Blk} (h : E2 mem nx mid cid b m c) (hk : nx ≤ k) (hn : nx ≤ nx') : E2 ((k, bl) :: mem) nx' mid cid b m c := by
 have e : ∀ j, j < nx → look ((k, bl) :: mem) j = look mem j := fun j hj => by
  simp only [look]; rw [if_neg (by omega)]
 exact ⟨(e _ h.im).trans h.lm, (e _ h.ic).trans h.lc, (e _ h.ib).trans h.lb, Nat.lt_of_lt_of_le h.im hn, Nat.lt_of_lt_of_le h.ic hn, Nat.lt_of_lt_of_le h.ib hn, h.mc, h.bm, h.bc⟩
theorem E2.up {mem : Mem} {nx nx' mid cid b : Nat} {m c : Sm} (h : E2 mem nx mid cid b m c) (hn : nx ≤ nx') (m' c' : Sm) : E2 (bN mem mid cid m' c') nx' mid cid b m' c' := by
 refine ⟨?_, ?_, ?_, Nat.lt_of_lt_of_le h.im hn, Nat.lt_of_lt_of_le h.ic hn, Nat.lt_of_lt_of_le h.ib hn, h.mc, h.bm, h.bc⟩
 ·unfold bN; rw [iT, cT h.mc, h.lm]; rfl
 ·unfold bN; rw [cT (Ne.symm h.mc), iT, h.lc]; rfl
 ·unfold bN; rw [cT h.bm, cT h.bc, h.lb]
theorem kP {mem : Mem} {nx mid cid b : Nat} {m c : Sm} (h : E2 mem nx mid cid b m c) : bN mem mid cid m c = mem := by
 unfold bN; rw [cD h.lc, cD h.lm]
theorem rN {mem : Mem} {mid cid : Nat} (h : mid ≠ cid) {m m' c c' : Sm} : bN (bN mem mid cid m c) mid cid m' c' = bN mem mid cid m' c' := by
 unfold bN; rw [upd_comm (i := mid) (j := cid) h, h_, h_]
theorem zI {mem : Mem} {nx mid cid b : Nat} {m c : Sm} (h : E2 mem nx mid cid b m c) (c' : Sm) : upd mem cid (.map (aW c')) = bN mem mid cid m c' := by
 have : look (upd mem cid (.map (aW c'))) mid = some (.map (aW m)) := (cT h.mc).trans h.lm
 unfold bN; exact (cD this).symm
abbrev Vs := Ex → Sm → Sm → Sm
def VisC (fv : FuncId) (vis : Vs) : Prop := ∀ (e : Ex) ⦃mem : Mem⦄ ⦃nx mid cid b : Nat⦄ ⦃m c : Sm⦄ ⦃K : KD⦄, E2 mem nx mid cid b m c →
 (∀ nx', nx ≤ nx' → K (.tup []) (bN mem mid cid m (vis e m c)) nx') → bM Tryz.prog fv [.agg (aP e), .omap mid, .opt b 0] mem nx K
mutual
def b8 (vis : Vs) : Ex → Sm → Sm → Sm × Sm
 | .mk op n t ty z args p, m, c => cY vis op n t 0 args m (vis (.mk op n t ty z args p) m c)
def cY (vis : Vs) (op : Int) (n t : List UInt8) (i : Nat) : List Ex → Sm → Sm → Sm × Sm
 | [], m, c => (m, c)
 | x :: xs, m, c => cY vis op n t (i + 1) xs ((bK op n t i).foldl iJ (b8 vis x ((bK op n t i).foldl bW m) c).1) (b8 vis x ((bK op n t i).foldl bW m) c).2
end
def WC2 (fv : FuncId) (vis : Vs) (e : Ex) : Prop := ∀ ⦃mem : Mem⦄ ⦃nx mid cid b : Nat⦄ ⦃m c : Sm⦄ ⦃K : KD⦄, E2 mem nx mid cid b m c → size e ≤ 2 ^ 40 →
 (∀ nx', nx ≤ nx' → K (.tup []) (bN mem mid cid (b8 vis e m c).1 (b8 vis e m c).2) nx') → bM Tryz.prog 25 [.agg (aP e), .omap mid, .fn fv [.opt b 0]] mem nx K
theorem C2 {fv : FuncId} {vis : Vs} (hV : VisC fv vis) (op : Int) (n t : List UInt8) (ty : Int) (z : Cx) (args : List Ex) (p : Int) (ih : ∀ x ∈ args, WC2 fv vis x) : WC2 fv vis (.mk op n t ty z args p) := by
 intro mem nx mid cid b m s K h hsz hk
 have hal : args.length ≤ 2 ^ 40 := by
  have := gC args
  simp only [size] at hsz; omega
 have hv := fun (K : KD) (nx2 : Nat) (hn : nx ≤ nx2) (hk2 : ∀ nx', nx2 ≤ nx' → K (.tup []) (bN mem mid cid m (vis (.mk op n t ty z args p) m s)) nx') => hV (.mk op n t ty z args p) (mem := mem) (nx := nx2) (K := K) ((kP h) ▸ E2.up h hn m s) hk2
 have hR : b8 vis (.mk op n t ty z args p) m s = cY vis op n t 0 args m (vis (.mk op n t ty z args p) m s) := by simp only [b8]
 rw [hR] at hk
 clear hR
 generalize vis (.mk op n t ty z args p) m s = s1 at *
 generalize hRR : cY vis op n t 0 args m s1 = R at hk
 have hE : ∀ (nx' : Nat), nx ≤ nx' → ∀ m' s', E2 (bN mem mid cid m' s') nx' mid cid b m' s' := fun nx' hn m' s' => E2.up h hn m' s'
 have hL : ∀ m' s', look (bN mem mid cid m' s') mid = some (.map (aW m')) := fun m' s' => (hE nx (Nat.le_refl _) m' s').lm
 have hU : ∀ m' s' m2, upd (bN mem mid cid m' s') mid (.map (aW m2)) = bN mem mid cid m2 s' := fun m' s' m2 => by unfold bN; rw [h_]
 have hM : ∀ m' s' m2 s2, bN (bN mem mid cid m' s') mid cid m2 s2 = bN mem mid cid m2 s2 := fun m' s' m2 s2 => rN h.mc
 have hfr' : ∀ (hfr : ∀ i, nx ≤ i → look mem i = none) (i : Nat), nx ≤ i → ∀ m' s', look (bN mem mid cid m' s') i = none := fun hfr i hi m' s' => by unfold bN; exact aF (aF (hfr i hi))
 have hB := vZ (.mk op n t ty z args p)
 have hbF : ∀ i, jU (.mk op n t ty z args p) i = bK op n t i := fun i => rfl
 simp only [hbF] at hB
 simp only [bI] at hv hB ⊢
 refine fi25.ct (by simp) fun hfr => ?_
 simp -implicitDefEqProofs [ac25]
 refine iC (hv _ _ (by omega) (fun n1 hn1 => ?_))
 simp -implicitDefEqProofs
 refine lpG cf25 lb25_2 [6, 7, 8, 10, 12, 20, 28, 29, 30, 43, 44, 45] (α := Nat × Sm × Sm) (fun s _ => [(20, I s.1)]) (fun s _ => bN mem mid cid s.2.1 s.2.2) (fun s k => n1 ≤ k ∧ s.1 ≤ args.length ∧ cY vis op n t s.1 (args.drop s.1) s.2.1 s.2.2 = R) (fun s => args.length - s.1) (0, m, s1) ⟨by omega, by simp, hRR⟩ (by simp) (by simp) ?_
 rintro ⟨i, m1, s2⟩ k ⟨hk1, hi, hw⟩
 simp only at hi hw
 by_cases hlt : i < args.length
 ·have hd : args.drop i = args[i] :: args.drop (i + 1) := List.drop_eq_getElem_cons hlt
  have hg : args[i]?.getD default = args[i] := by rw [List.getElem?_eq_getElem hlt]; rfl
  have hmem : args[i] ∈ args := List.getElem_mem hlt
  rw [hd] at hw
  unfold cY at hw
  obtain ⟨x, hxe⟩ : ∃ x, args[i] = x := ⟨_, rfl⟩
  rw [hxe] at hmem hw
  have hx := ih _ hmem
  have hsx : size x ≤ 2 ^ 40 := by
   have := gD hmem
   simp only [size] at hsz; omega
  have hbl := iP op n t i
  have hBi := hB i
  generalize bK op n t i = N at *
  have w1 := aY (x := (i : Int) + 1) (by omega) (by omega)
  unfold WC2 at hx
  simp only [aA] at hx
  simp -implicitDefEqProofs [lb25_2, hlt, hxe]
  refine aH (hBi) (by simp) ?_
  simp -implicitDefEqProofs
  have hb1 := h.im
  have hb2 := h.ic
  generalize hb7 : k + 1 + 3 = b7
  have hbm : ¬ b7 = mid := by omega
  have hbf : ¬ b7 = cid := by omega
  have hMc : ∀ (M : Mem) (bk : Blk) (m' : Sm) (s' : Sm), bN ((b7, bk) :: M) mid cid m' s' = (b7, bk) :: bN M mid cid m' s' := fun M bk m' s' => by
   unfold bN
   simp only [upd, hbm, hbf, if_false]
  have hEc : ∀ (bk : Blk) (nx' : Nat), b7 < nx' → ∀ m' s', E2 ((b7, bk) :: bN mem mid cid m' s') nx' mid cid b m' s' := fun bk nx' hn m' s' => E2.cons (hE nx (Nat.le_refl _) m' s') (by omega) (by omega)
  refine lpG cf25 lb25_1 [10, 30] (α := Nat × Sm) (fun s _ => [(30, I s.1)]) (fun s _ => (b7, .box (aP x)) :: bN mem mid cid s.2 s2) (fun s k2 => b7 + 1 ≤ k2 ∧ s.1 ≤ N.length ∧ (N.drop s.1).foldl bW s.2 = N.foldl bW m1) (fun s => N.length - s.1) (0, m1) ⟨by omega, by simp, rfl⟩ (by simp) (by simp [aA]) ?_
  rintro ⟨j, m2⟩ k2 ⟨hk2, hj, hfo⟩
  simp only at hj hfo
  by_cases hjl : j < N.length
  ·have hd2 : N.drop j = N[j] :: N.drop (j + 1) := List.drop_eq_getElem_cons hjl
   rw [hd2] at hfo
   simp only [List.foldl_cons] at hfo
   have w2 := aY (x := (j : Int) + 1) (by omega) (by omega)
   simp -implicitDefEqProofs [lb25_1, hjl, hL, hbm, hU, w2]
   exact aI (j + 1, bW m2 N[j]) ⟨by omega, hjl, hfo⟩ (by simp only; omega) (by simp) (by simp [bW])
  ·rw [List.drop_eq_nil_of_le (by omega)] at hfo
   simp only [List.foldl_nil] at hfo
   subst hfo
   generalize List.foldl bW m1 N = m3 at *
   simp -implicitDefEqProofs [lb25_1, hjl, hbm, aA]
   refine aD (hx (hEc _ _ (by omega) _ _) hsx (fun n3 hn3 => ?_))
   generalize b8 vis x m3 s2 = r3 at *
   simp -implicitDefEqProofs [hMc, hM]
   refine lpG cf25 lb25_0 [12, 45] (α := Nat × Sm) (fun s _ => [(45, I s.1)]) (fun s _ => (b7, .box (aP x)) :: bN mem mid cid s.2 r3.2) (fun s k2 => b7 + 1 ≤ k2 ∧ s.1 ≤ N.length ∧ (N.drop s.1).foldl iJ s.2 = N.foldl iJ r3.1) (fun s => N.length - s.1) (0, r3.1) ⟨by omega, by simp, rfl⟩ (by simp) (by simp [aA]) ?_
   rintro ⟨j2, m4⟩ k4 ⟨hk4, hj2, hfo2⟩
   simp only at hj2 hfo2
   by_cases hjl2 : j2 < N.length
   ·have hd2 : N.drop j2 = N[j2] :: N.drop (j2 + 1) := List.drop_eq_getElem_cons hjl2
    rw [hd2] at hfo2
    simp only [List.foldl_cons] at hfo2
    have w2 := aY (x := (j2 : Int) + 1) (by omega) (by omega)
    simp -implicitDefEqProofs [lb25_0, hjl2, hL, hbm, hU, w2]
    exact aI (j2 + 1, iJ m4 N[j2]) ⟨by omega, hjl2, hfo2⟩ (by simp only; omega) (by simp) (by simp [iJ])
   ·rw [List.drop_eq_nil_of_le (by omega)] at hfo2
    simp only [List.foldl_nil] at hfo2
    subst hfo2
    simp -implicitDefEqProofs [lb25_0, hjl2, w1]
    refine aI (i + 1, _, r3.2) ⟨by omega, hlt, hw⟩ (by simp only; omega) (by simp) (aX (aK _) (hfr' hfr _ (by omega) _ _))
 ·have he : args.drop i = [] := List.drop_eq_nil_of_le (by omega)
  rw [he] at hw
  unfold cY at hw
  simp -implicitDefEqProofs [lb25_2, hlt]
  rw [← hw] at hk
  exact ⟨_, aG _, hk _ (by omega)⟩
mutual
theorem qP {fv : FuncId} {vis : Vs} (hV : VisC fv vis) : ∀ (e : Ex), WC2 fv vis e
 | .mk op n t ty z args p => C2 hV op n t ty z args p (tG hV args)
theorem tG {fv : FuncId} {vis : Vs} (hV : VisC fv vis) : ∀ (l : List Ex), ∀ x ∈ l, WC2 fv vis x
 | [], x, h => by simp at h
 | e :: es, x, h => (List.mem_cons.1 h).elim (fun he => he ▸ qP hV e) (fun h => tG hV es x h)
end
def gW : Vs := fun e m c => if e.op = 6 ∧ cE m e.name = 0 then bW c e.name else c
theorem DH : VisC 53 gW := by
 intro e mem nx mid cid b m c K h hk
 refine fi53.ct (by simp) fun hfr => ?_
 simp only [aA]
 unfold gW at hk
 by_cases h1 : e.op = 6
 ·by_cases h2 : cE m e.name = 0
  ·rw [if_pos ⟨h1, h2⟩] at hk
   simp -implicitDefEqProofs [ac53, h.lm, h.lb, h.lc, h1, h2]
   refine ⟨_, aG _, ?_⟩
   rw [zI h]
   exact hk _ (by omega)
  ·rw [if_neg (fun g => h2 g.2), kP h] at hk
   simp -implicitDefEqProofs [ac53, h.lm, h.lb, h.lc, h1, h2]
   exact ⟨_, aG _, hk _ (by omega)⟩
 ·rw [if_neg (fun g => h1 g.1), kP h] at hk
  simp -implicitDefEqProofs [ac53, h.lm, h.lb, h.lc, h1]
  exact ⟨_, aG _, hk _ (by omega)⟩
def lP (c : Sm) (s : List UInt8) : Sm := if s = [] then c else bW c s
def eX : Vs := fun e _ c => [e.name, e.tail].foldl lP c
theorem BK : VisC 28 eX := by
 intro e mem nx mid cid b m c K h hk
 refine fi28.ct (by simp) fun hfr => ?_
 simp only [aA]
 unfold eX at hk
 have hbs : bslI 1 2 [.string (ByteArray.mk #[])] [(0, 1, Tx e.name), (1, 1, Tx e.tail)] = some (.sl (em aN [e.name, e.tail])) := rfl
 have hNl : [e.name, e.tail].length = 2 := rfl
 have hE : ∀ (nx' : Nat), nx ≤ nx' → ∀ c', E2 (bN mem mid cid m c') nx' mid cid b m c' := fun nx' hn c' => E2.up h hn m c'
 have hU : ∀ c1 c2, upd (bN mem mid cid m c1) cid (.map (aW c2)) = bN mem mid cid m c2 := fun c1 c2 => by rw [zI (hE nx (Nat.le_refl _) c1), rN h.mc]
 simp -implicitDefEqProofs [-bslI, ac28, hbs]
 generalize [e.name, e.tail] = N at *
 generalize hR : N.foldl lP c = R at *
 refine lpG cf28 lb28_0 [6, 13] (α := Nat × Sm) (fun s _ => [(13, I s.1)]) (fun s _ => bN mem mid cid m s.2) (fun s k => nx ≤ k ∧ s.1 ≤ N.length ∧ (N.drop s.1).foldl lP s.2 = R) (fun s => N.length - s.1) (0, c) ⟨by omega, by simp, by simpa using hR⟩ (by simp) (by rw [kP h]; exact aK _) ?_
 rintro ⟨i, c1⟩ k ⟨hk1, hi, hr⟩
 simp only at hk1 hi hr
 have w1 := aY (x := (i : Int) + 1) (by omega) (by omega)
 have hlc := (hE nx (Nat.le_refl _) c1).lc
 have hlb := (hE nx (Nat.le_refl _) c1).lb
 by_cases hlt : i < N.length
 ·have hi2 : (i : Int) < 2 := by omega
  have hi3 : i < 2 := by omega
  rw [List.drop_eq_getElem_cons hlt] at hr
  simp only [List.foldl_cons] at hr
  obtain ⟨x, hx⟩ : ∃ x, N[i] = x := ⟨_, rfl⟩
  rw [hx] at hr
  unfold lP at hr
  by_cases hxe : x = []
  ·rw [if_pos hxe] at hr
   simp -implicitDefEqProofs [lb28_0, hlt, hi2, hi3, hx, hxe, w1, hNl]
   exact aI (i + 1, c1) ⟨by omega, by simp only; omega, hr⟩ (by simp only; omega) (by simp) (aK _)
  ·rw [if_neg hxe] at hr
   simp -implicitDefEqProofs [lb28_0, hlt, hi2, hi3, hx, hxe, w1, hNl, hlc, hlb, hU]
   exact aI (i + 1, bW c1 x) ⟨by omega, by simp only; omega, hr⟩ (by simp only; omega) (by simp) (by simp [bW])
 ·have hi2 : ¬ (i : Int) < 2 := by omega
  rw [List.drop_eq_nil_of_le (by omega)] at hr
  simp only [List.foldl_nil] at hr
  subst hr
  simp -implicitDefEqProofs [lb28_0, hlt, hi2, hNl]
  exact ⟨_, aG _, hk _ (by omega)⟩
set_option maxRecDepth 1000000
set_option maxHeartbeats 0
noncomputable def cf41 : Cfg := ⟨Tryz.prog, 18, [0, 1, 4, 5], []⟩
noncomputable def lb41_0 : AC :=
 .seq (.ifr [JA 6 5, JA 7 0, JO 8 (.len false (.t 7)), JO 9 (.bin .lss 3 (.t 6) (.t 8))] (.t 9) .skip (.exit 0)) (.seq (.block 1 (.ifr [JA 12 0, JA 13 5, JL 14 1 12 13, JD 15 1 14, JA 16 1, JO 17 (.bin .eql 9 (.t 15) (.t 16))] (.t 17) (.seq (.reg [JP 4 (.mv JX)]) .ret) .skip)) (.reg [JA 10 5, JO 11 (.bin .add 3 (.t 10) (JT 1)), JB 5 11]))
noncomputable def ac41 : AC :=
 (.seq (.reg [JP 4 (.mv JY)]) (.seq (.seq (.reg [JI 5 0]) (.block 0 (.loop lb41_0))) (.seq (.reg [JP 4 (.mv JY)]) .ret)))
theorem fi41 : FI Tryz.prog 41 cf41 ac41 [.t 4] [0, 1, 4, 5] 18 := FI_of (c := Tryz.f41.body.getD .skip) Tryz.func41 (by kernel_rfl) (by rfl) (by rfl) (by kernel_rfl) (by kernel_rfl) rfl rfl rfl
@[simp] theorem cfP41 : cf41.P = Tryz.prog := (rfl)
noncomputable def cf33 : Cfg := ⟨Tryz.prog, 12, [0, 1, 4, 5], [8, 11]⟩
noncomputable def ac33 : AC :=
 (.seq (.reg [JP 4 (.mv (.c (.slice none 0 0)))]) (.seq (.reg [JP 5 (.mv (.c (.slice none 0 0)))]) (.seq (.reg [JA 6 5, JA 7 0, JO 8 (.app 1 16 [JU] (.t 6) (.t 7)), JB 5 8]) (.seq (.reg [JA 9 5, JA 10 1, JO 11 (.app 1 16 [JU] (.t 9) (.t 10)), JB 4 11]) .ret))))
theorem fi33 : FI Tryz.prog 33 cf33 ac33 [.t 4] [0, 1, 4, 5] 12 := FI_of (c := Tryz.f33.body.getD .skip) Tryz.func33 (by kernel_rfl) (by rfl) (by rfl) (by kernel_rfl) (by kernel_rfl) rfl rfl rfl
@[simp] theorem cfP33 : cf33.P = Tryz.prog := (rfl)
noncomputable def cf54 : Cfg := ⟨Tryz.prog, 32, [0, 1, 2, 4, 5], []⟩
noncomputable def ac54 : AC :=
 (.seq (.reg [JN 2 0, JP 4 (.mv (.c (.slice none 0 0)))]) (.seq (.block 0 (.seq (.ifr [JG 6 0 2, JD 7 1 6, JO 8 (.bin .eql 39 (.t 7) (JT 21)), JB 5 8] (.g 5) .skip (.reg [JG 9 0 2, JD 10 1 9, JO 11 (.bin .eql 39 (.t 10) (JT 22)), JC 12 11, JS 13 12 (.mv (.g 1)), JS 14 12 (.bin .eql 3 (.t 13) (JT 1)), JO 15 (.pick (.t 12) (.t 14) JY), JB 5 15])) (.cond (.g 5) (.seq (.reg [JG 16 1 2, JD 17 1 16, JO 18 (.bsl 1 1 [JU] [(0, 1, .t 17)]), JB 4 18]) .ret) (.ifr [JG 20 0 2, JD 21 1 20, JO 22 (.bin .eql 39 (.t 21) (JT 20)), JC 23 22, JS 24 23 (.mv (.g 1)), JS 25 23 (.bin .eql 3 (.t 24) (JT 2)), JO 26 (.pick (.t 23) (.t 25) JY), JC 19 26] (.t 19) (.seq (.reg [JG 27 1 2, JD 28 1 27, JG 29 2 2, JD 30 1 29, JO 31 (.bsl 1 2 [JU] [(0, 1, .t 28), (1, 1, .t 30)]), JB 4 31]) .ret) .skip)))) (.seq (.reg [JP 4 (.mv (.c (.slice none 0 0)))]) .ret)))
theorem fi54 : FI Tryz.prog 54 cf54 ac54 [.t 4] [0, 1, 2, 4, 5] 32 := FI_of (c := Tryz.f54.body.getD .skip) Tryz.func54 (by kernel_rfl) (by rfl) (by rfl) (by kernel_rfl) (by kernel_rfl) rfl rfl rfl
@[simp] theorem cfP54 : cf54.P = Tryz.prog := (rfl)
noncomputable def cf42 : Cfg := ⟨Tryz.prog, 55, [0, 1, 2, 4, 5, 6, 7, 8], [31, 53]⟩
noncomputable def lb42_0 : AC :=
 .seq (.ifr [JA 32 6, JG 33 5 2, JD 34 1 33, JO 35 (.len false (.t 34)), JO 36 (.bin .lss 3 (.t 32) (.t 35))] (.t 36) .skip (.exit 0)) (.seq (.block 1 (.seq (.reg [JA 39 1, JF 40 7 2, JA 41 6, JO 42 (.pc (.f 54) [.t 40, .t 41]), JO 43 (.pc (.f 33) [.t 39, .t 42]), JB 7 43]) (.seq (.reg [JG 44 5 2, JD 45 1 44, JA 46 6, JL 47 7 45 46, JE 48 7 47, JA 49 7, JO 50 (.pc (.f 42) [.t 48, .t 49]), JB 8 50]) (.reg [JA 51 5, JA 52 8, JO 53 (.app 8 104 [JV, JU, JU, JV, .complex .f64 0 0, JW, JV, .bool false] (.t 51) (.t 52)), JB 5 53])))) (.reg [JA 37 6, JO 38 (.bin .add 3 (.t 37) (JT 1)), JB 6 38]))
noncomputable def ac42 : AC :=
 (.seq (.reg [JN 2 0, JP 4 (.mv (.c (.slice none 0 0)))]) (.seq (.reg [JP 5 (.mv (.c (.slice none 0 0)))]) (.seq (.ifr [JG 9 0 2, JD 10 1 9, JO 11 (.bin .eql 39 (.t 10) (JT 6)), JC 12 11, JR 13 12 (.fa 0 (.g 2)), JR 14 12 (.ld false 1 (.t 13)), JR 15 12 (.bin .eql 39 (.t 14) (JT 7)), JO 16 (.pick (.t 12) JX (.t 15))] (.t 16) (.reg [JA 17 5, JF 18 7 2, JG 19 0 2, JD 20 1 19, JO 21 (.bin .eql 39 (.t 20) (JT 6)), JC 22 21, JS 23 22 (.mv (.g 1)), JS 24 22 (.fa 1 (.g 2)), JS 25 22 (.ld false 1 (.t 24)), JS 26 22 (.pc (.f 41) [.t 23, .t 25]), JS 27 22 (.un .not (.t 26)), JO 28 (.pick (.t 22) (.t 27) JY), JO 29 (.bld [JV, JU, JU, JV, .complex .f64 0 0, JW, JV, .bool false] [(0, 7, .t 18), (7, 1, .t 28)]), JO 30 (.bsl 8 1 [JV, JU, JU, JV, .complex .f64 0 0, JW, JV, .bool false] [(0, 8, .t 29)]), JO 31 (.app 8 104 [JV, JU, JU, JV, .complex .f64 0 0, JW, JV, .bool false] (.t 17) (.t 30)), JB 5 31]) .skip) (.seq (.seq (.reg [JI 6 0]) (.block 0 (.loop lb42_0))) (.seq (.reg [JA 54 5, JB 4 54]) .ret)))))
theorem fi42 : FI Tryz.prog 42 cf42 ac42 [.t 4] [0, 1, 2, 4, 5, 6, 7, 8] 55 := FI_of (c := Tryz.f42.body.getD .skip) Tryz.func42 (by kernel_rfl) (by rfl) (by rfl) (by kernel_rfl) (by kernel_rfl) rfl rfl rfl
@[simp] theorem cfP42 : cf42.P = Tryz.prog := (rfl)
noncomputable def cf47 : Cfg := ⟨Tryz.prog, 22, [0, 1, 2, 4, 5], []⟩
@[simp] theorem cfP47 : cf47.P = Tryz.prog := (rfl)
noncomputable def cf27 : Cfg := ⟨Tryz.prog, 129, [0, 1, 2, 3, 4, 5, 6, 7, 8, 9, 10, 11], [35, 50, 60, 69, 95, 110, 127]⟩
@[simp] theorem cfP27 : cf27.P = Tryz.prog := (rfl)
noncomputable def cf9 : Cfg := ⟨Tryz.prog, 32, [0, 1, 2, 3, 4, 5], []⟩
@[simp] theorem cfP9 : cf9.P = Tryz.prog := (rfl)
@[simp] theorem eqRef6_9 {a b : ByteArray} : bB Tryz.prog .eql 9 (.pl (.string a)) (.pl (.string b)) = some (.pl (.bool (decide (a = b)))) := lO Tryz.underlying9
@[simp] theorem neRef6_9 {a b : ByteArray} : bB Tryz.prog .neq 9 (.pl (.string a)) (.pl (.string b)) = some (.pl (.bool (!decide (a = b)))) := mE Tryz.underlying9
set_option maxRecDepth 100000
set_option maxHeartbeats 4000000
theorem wE {α : Type} {enc : α → List D} {l : List α} {mem : Mem} {k : Nat} (h : ∀ x, (enc x).all D.cell = true) (hk : ∀ x, (enc x).length = k) : els mem k (.sl (em enc l)) = some (em enc l) := by
 show (if (em enc l).all (fun e => e.length == k && e.all D.cell) = true then some (em enc l) else none) = _
 rw [if_pos (em_els h hk)]
theorem pT {l : List (List UInt8)} {mem : Mem} : els mem 1 (.sl (em aN l)) = some (em aN l) := wE (fun x => rfl) (fun x => rfl)
attribute [simp 1200] pT
theorem imm_T (l : List (List UInt8)) : D.immss (em aN l) = true := jY fun f => by simp [aN]
attribute [simp] imm_T
def bA : List (List UInt8) → List UInt8 → Bool
 | [], _ => false
 | x :: xs, n => if x = n then true else bA xs n
theorem Has_c (l : List (List UInt8)) (n : List UInt8) (hl : l.length < 2 ^ 60) : Pure Tryz.prog 41 [.sl (em aN l), Tx n] (.pl (.bool (bA l n))) := by
 refine fi41.pu (by simp) ?_
 simp -implicitDefEqProofs [ac41]
 generalize hR : bA l n = R
 refine lpG cf41 lb41_0 [4, 5] (α := Nat) (fun s _ => [(5, I s)]) (fun s _ => []) (fun s k => s ≤ l.length ∧ bA (l.drop s) n = R) (fun s => l.length - s) 0 ⟨by simp, hR⟩ (by simp) (by simp) ?_
 rintro i k ⟨hi, hr⟩
 by_cases hlt : i < l.length
 ·have hd : l.drop i = l[i] :: l.drop (i + 1) := List.drop_eq_getElem_cons hlt
  rw [hd] at hr
  unfold bA at hr
  have w1 := aY (x := (i : Int) + 1) (by omega) (by omega)
  by_cases hg : l[i] = n
  ·rw [if_pos hg] at hr
   subst hr
   simp -implicitDefEqProofs [lb41_0, hlt, hg]
  ·rw [if_neg hg] at hr
   simp -implicitDefEqProofs [lb41_0, hlt, hg, w1]
   exact aI (i + 1) ⟨hlt, hr⟩ (by omega) (by simp) (by simp)
 ·rw [List.drop_eq_nil_of_le (by omega)] at hr
  unfold bA at hr
  subst hr
  simp -implicitDefEqProofs [lb41_0, hlt]
theorem CH (e : Ex) (i : Int) : Pure Tryz.prog 54 [.agg (aP e), I i] (.sl (em aN (jU e i))) := by
 refine fi54.pu (by simp) ?_
 simp only [aA, jU]
 generalize e.op = op
 unfold bK
 by_cases h1 : op = 21
 ·simp -implicitDefEqProofs [ac54, h1]; rfl
 ·by_cases h2 : op = 22
  ·by_cases h3 : i = 1
   ·simp -implicitDefEqProofs [ac54, h1, h2, h3]; rfl
   ·simp -implicitDefEqProofs [ac54, h1, h2, h3]
  ·by_cases h4 : op = 20
   ·by_cases h3 : i = 2
    ·simp -implicitDefEqProofs [ac54, h1, h2, h3, h4]; rfl
    ·simp -implicitDefEqProofs [ac54, h1, h2, h3, h4]
   ·simp -implicitDefEqProofs [ac54, h1, h2, h4]
theorem AL (l k : List (List UInt8)) (hl : l.length < 2 ^ 40) (hk : k.length < 2 ^ 40) : Pure Tryz.prog 33 [.sl (em aN l), .sl (em aN k)] (.sl (em aN (l ++ k))) := by
 refine fi33.pu (by simp) ?_
 have b1 : l.length * 16 ≤ 3 * 2 ^ 46 := by omega
 have b2 : (l.length + k.length) * 16 ≤ 3 * 2 ^ 46 := by omega
 simp -implicitDefEqProofs [-els, ac33, b1, b2]
 rw [List.take_of_length_le (by simp)]
abbrev Sn := Ex × Bool
def gY (s : Sn) : List D := aP s.1 ++ [.pl (.bool s.2)]
theorem fF (s : Sn) : gY s = [I s.1.op, Tx s.1.name, Tx s.1.tail, I s.1.type, CX s.1.num.re s.1.num.im, .sl (em aP s.1.args), I s.1.at', .pl (.bool s.2)] := by
 unfold gY; rw [aA]; rfl
theorem yH {l : List Sn} {mem : Mem} : els mem 8 (.sl (em gY l)) = some (em gY l) := wE (fun x => by rw [fF]; rfl) (fun x => by rw [fF]; rfl)
attribute [simp 1200] yH
theorem imm_Sn (l : List Sn) : D.immss (em gY l) = true := jY fun f => by rw [fF]; simp
attribute [simp] imm_Sn
theorem ia_Sn {l : List Sn} {mem : Mem} {j : IntKind} {i : Int} : iaD mem 8 (.sl (em gY l)) (.pl (.int j i)) = if 0 ≤ i ∧ i < l.length then some (.pt [I (l[i.toNat]?.getD default).1.op, Tx (l[i.toNat]?.getD default).1.name, Tx (l[i.toNat]?.getD default).1.tail, I (l[i.toNat]?.getD default).1.type, CX (l[i.toNat]?.getD default).1.num.re (l[i.toNat]?.getD default).1.num.im, .sl (em aP (l[i.toNat]?.getD default).1.args), I (l[i.toNat]?.getD default).1.at', .pl (.bool (l[i.toNat]?.getD default).2)]) else none := by
 rw [← fF]
 exact l9 fun f => by rw [fF]; rfl
attribute [simp] ia_Sn
mutual
def cC : Ex → List (List UInt8) → List Sn
 | .mk op n t ty z args p, N => (if op = 6 ∨ op = 7 then [(.mk op n t ty z args p, op = 6 && !bA N n)] else []) ++ dL op n t 0 args N
def dL (op : Int) (n t : List UInt8) (i : Nat) : List Ex → List (List UInt8) → List Sn
 | [], _ => []
 | x :: xs, N => cC x (N ++ bK op n t i) ++ dL op n t (i + 1) xs N
end
mutual
theorem fL : ∀ (e : Ex) (N : List (List UInt8)), (cC e N).length ≤ size e
 | .mk op n t ty z args p, N => by
  have := mB op n t 0 args N
  unfold cC size
  rw [List.length_append]
  split <;> simp <;> omega
theorem mB (op : Int) (n t : List UInt8) (i : Nat) : ∀ (l : List Ex) (N : List (List UInt8)), (dL op n t i l N).length ≤ aS l
 | [], N => by simp [dL, aS]
 | x :: xs, N => by
  have h1 := fL x (N ++ bK op n t i)
  have h2 := mB op n t (i + 1) xs N
  unfold dL aS
  rw [List.length_append]; omega
end
def SC (e : Ex) : Prop := ∀ ⦃N : List (List UInt8)⦄, N.length + 2 * size e < 2 ^ 39 → Pure Tryz.prog 42 [.agg (aP e), .sl (em aN N)] (.sl (em gY (cC e N)))
theorem seen_s (op : Int) (n t : List UInt8) (ty : Int) (z : Cx) (args : List Ex) (p : Int) (ih : ∀ x ∈ args, SC x) : SC (.mk op n t ty z args p) := by
 intro N hN
 have hal := gC args
 have hsl := mB op n t 0 args N
 have hR : cC (.mk op n t ty z args p) N = (if op = 6 ∨ op = 7 then [(.mk op n t ty z args p, op = 6 && !bA N n)] else []) ++ dL op n t 0 args N := by simp only [cC]
 have hlen : (cC (.mk op n t ty z args p) N).length ≤ 2 ^ 39 := by have := fL (.mk op n t ty z args p) N; omega
 simp only [size] at hN
 have hH := Has_c N n (by omega)
 have hB := CH (.mk op n t ty z args p)
 have hbF : ∀ i, jU (.mk op n t ty z args p) i = bK op n t i := fun i => rfl
 simp only [hbF] at hB
 generalize hRR : cC (.mk op n t ty z args p) N = R at *
 clear hRR
 simp only [bI] at hB ⊢
 -- the loop
 have loop : ∀ (id nx : Nat) (l0 : List Sn) (es : List (List D)) (n0 : Nat) (Q : Exit → St → Prop), es = em gY l0 → n0 = l0.length → id < nx → l0 ++ dL op n t 0 args N = R → (∀ v nx', Q (.exit 0) ⟨[(0, .agg [I op, Tx n, Tx t, I ty, CX z.re z.im, .sl (em aP args), I p]), (1, .sl (em aN N)), (2, .pt [I op, Tx n, Tx t, I ty, CX z.re z.im, .sl (em aP args), I p]), (4, .pl (.slice none 0 0)), (5, .osl id v 0 R.length), (6, I args.length), (7, .top), (8, .top)], [], [(id, .arr v 8 (em gY R))], nx'⟩) →
   A cf42 (.loop lb42_0) Q [(0, .agg [I op, Tx n, Tx t, I ty, CX z.re z.im, .sl (em aP args), I p]), (1, .sl (em aN N)), (2, .pt [I op, Tx n, Tx t, I ty, CX z.re z.im, .sl (em aP args), I p]), (4, .pl (.slice none 0 0)), (5, .osl id 0 0 n0), (6, I 0), (7, .pl undef), (8, .pl undef)] [(id, .arr 0 8 es)] nx := by
  rintro id nx l0 _ _ Q rfl rfl hid hl0 hq
  refine lpG cf42 lb42_0 [5, 6, 7, 8] (α := Nat × Nat × List Sn) (fun s _ => [(5, .osl id s.2.1 0 s.2.2.length), (6, I s.1), (7, .top), (8, .top)]) (fun s _ => [(id, .arr s.2.1 8 (em gY s.2.2))]) (fun s k => id < k ∧ s.1 ≤ args.length ∧ s.2.2 ++ dL op n t s.1 (args.drop s.1) N = R) (fun s => args.length - s.1) (0, 0, l0) ⟨hid, by simp, hl0⟩ (by simp) (by simp) ?_
  rintro ⟨i, v, l⟩ k ⟨hk, hi, hr⟩
  simp only at hi hr
  by_cases hlt : i < args.length
  ·have hd : args.drop i = args[i] :: args.drop (i + 1) := List.drop_eq_getElem_cons hlt
   have hmem : args[i] ∈ args := List.getElem_mem hlt
   rw [hd] at hr
   unfold dL at hr
   obtain ⟨x, hxe⟩ : ∃ x, args[i] = x := ⟨_, rfl⟩
   rw [hxe] at hr hmem
   have w1 := aY (x := (i : Int) + 1) (by omega) (by omega)
   have hbl := iP op n t i
   have hBi := hB i
   have hsx := gD hmem
   have hs1 : 1 ≤ size x := by cases x; simp only [size]; omega
   have hW := AL N (bK op n t i) (by omega) (by omega)
   generalize bK op n t i = M at *
   have hS := ih x hmem (N := N ++ M) (by rw [List.length_append]; omega)
   simp only [aA] at hS
   generalize cC x (N ++ M) = T at *
   have hb : (l.length + T.length) * 104 ≤ 3 * 2 ^ 46 := by
    have := congrArg List.length hr
    simp only [List.length_append] at this; omega
   simp -implicitDefEqProofs [-els, lb42_0, hlt, hxe]
   refine aH (hBi) (by simp) ?_
   simp -implicitDefEqProofs
   refine aH (hW) (by simp) ?_
   simp -implicitDefEqProofs [hlt, hxe]
   refine aH hS (by simp) ?_
   simp -implicitDefEqProofs [-els, yH, hb, w1]
   exact aI (i + 1, v + 1, l ++ T) ⟨by omega, hlt, by rw [List.append_assoc]; exact hr⟩ (by simp only; omega) (by simp) (by simp)
  ·rw [List.drop_eq_nil_of_le (by omega)] at hr
   unfold dL at hr
   rw [List.append_nil] at hr
   subst hr
   have hia : i = args.length := by omega
   subst hia
   simp -implicitDefEqProofs [lb42_0]
   exact hq _ _
 refine fi42.pu (by simp) ?_
 by_cases h6 : op = 6
 ·subst h6
  rw [if_pos (.inl rfl)] at hR
  simp -implicitDefEqProofs [ac42]
  refine aH (hH) (by simp) ?_
  simp -implicitDefEqProofs
  refine loop _ _ _ _ _ _ ?_ (by rfl) ?_ hR.symm (fun v nx2 => ?_) <;> first | omega | (simp [em, fF, Ex.op, Ex.name, Ex.tail, Ex.type, Ex.num, Ex.args, Ex.at']; done) | skip
  simp -implicitDefEqProofs
 ·by_cases h7 : op = 7
  ·subst h7
   rw [if_pos (.inr rfl)] at hR
   simp -implicitDefEqProofs [ac42]
   refine loop _ _ _ _ _ _ ?_ (by rfl) ?_ hR.symm (fun v nx2 => ?_) <;> first | omega | (simp [em, fF, Ex.op, Ex.name, Ex.tail, Ex.type, Ex.num, Ex.args, Ex.at']; done) | skip
   simp -implicitDefEqProofs
  ·rw [if_neg (by omega)] at hR
   simp -implicitDefEqProofs [ac42, h6, h7]
   refine eR (j := 5) (k := 8) rfl (.inl rfl) ?_
   simp -implicitDefEqProofs
   refine loop _ _ _ _ _ _ ?_ (by rfl) ?_ hR.symm (fun v nx2 => ?_) <;> first | omega | (simp [em, fF, Ex.op, Ex.name, Ex.tail, Ex.type, Ex.num, Ex.args, Ex.at']; done) | skip
   simp -implicitDefEqProofs
mutual
theorem y5 : ∀ (e : Ex), SC e
 | .mk op n t ty z args p => seen_s op n t ty z args p (v7 args)
theorem v7 : ∀ (l : List Ex), ∀ x ∈ l, SC x
 | [], x, h => by simp at h
 | e :: es, x, h => (List.mem_cons.1 h).elim (fun he => he ▸ y5 e) (fun h => v7 es x h)
end
def eZ : List Fn → Nat → Sm → Ft → Sm × Ft
 | [], _, pl, s => (pl, s)
 | f :: fs, i, pl, s => if cE pl f.name > 0 then eZ fs (i + 1) pl (fQ s 30 f.at') else eZ fs (i + 1) (dS pl f.name (i + 1)) s
def lI : List Pm → Sm → Ft → Sm × Ft
 | [], m, s => (m, s)
 | x :: xs, m, s => lI xs (bW m x.name) (if cE m x.name > 0 then fQ s 30 x.at' else s)
def jJ (P : List Fn) (pl : Sm) : List Fn → Ft → Ft
 | [], s => s
 | f :: fs, s => jJ P pl fs (jB P pl f.body (lI f.params [] s).1 (lI f.params [] s).2).2
def nP (P : List Fn) : Ft := jJ P (eZ P 0 [] (0, 0)).1 P (eZ P 0 [] (0, 0)).2
theorem mK (P : List Fn) : ∀ (l : List Fn) (i : Nat) (pl : Sm) (s : Ft), i + l.length ≤ P.length → plOk P pl → plOk P (eZ l i pl s).1
 | [], i, pl, s, _, h => h
 | f :: fs, i, pl, s, hl, h => by
  simp only [List.length_cons] at hl
  unfold eZ
  split
  ·exact mK P fs _ _ _ (by omega) h
  ·refine mK P fs _ _ _ (by omega) fun n => ?_
   rw [pD]
   split
   ·omega
   ·exact h n
theorem o6 (n : List UInt8) : cE [] n = 0 := rfl
theorem yY (s : Ft) (w p : Int) {fid : Nat} {mem : Mem} {nx : Nat} {K : KD} (hl : look mem fid = some (.box [I s.1, I s.2])) (hi : fid < nx) (hk : ∀ nx', nx ≤ nx' → K (.tup []) (upd mem fid (.box [I (fQ s w p).1, I (fQ s w p).2])) nx') :
  clK Tryz.prog (some (.fn 24 [.opt fid 0])) (some [I w, I p]) mem nx K := iC (zU s w p hl hi hk)
theorem D8 (P : List Fn) (hP : P.length < 2 ^ 40) (hf : ∀ f ∈ P, size f.body ≤ 2 ^ 40 ∧ f.params.length ≤ 2 ^ 40) : Pure Tryz.prog 8 [.agg [.sl (em dG P)]] (.agg [I (nP P).1, I (nP P).2]) := by
 refine fi8.pu (by simp) ?_
 simp -implicitDefEqProofs (maxDischargeDepth := 80) [ac8]
 generalize hR : eZ P 0 [] (0, 0) = R
 have hplR : plOk P R.1 := hR ▸ mK P P 0 [] (0, 0) (by omega) (fun n => by rw [o6]; omega)
 have hfin : nP P = jJ P R.1 P R.2 := by unfold nP; rw [hR]
 rw [hfin]
 clear hfin
 refine lpG cf8 lb8_2 [6, 7, 18] (α := Nat × Sm × Ft) (fun s _ => [(6, .top), (7, .top), (18, I s.1)]) (fun s _ => [(7, .box [.omap 6]), (6, .map (aW s.2.1)), (4, .box [.fn 24 [.opt 2 0]]), (2, .box [I s.2.2.1, I s.2.2.2]), (1, .box [I 0, I 0]), (0, .box [.sl (em dG P)])]) (fun s k => 13 ≤ k ∧ s.1 ≤ P.length ∧ eZ (P.drop s.1) s.1 s.2.1 s.2.2 = R) (fun s => P.length - s.1) (0, [], (0, 0)) ⟨by omega, by simp, hR⟩ (by simp) (aK _) ?_
 rintro ⟨i, pl, s⟩ k ⟨hk, hi, hr⟩
 simp only at hi hr
 have Kk := nfc trivial hk
 by_cases hlt : i < P.length
 ·have hd : P.drop i = P[i] :: P.drop (i + 1) := List.drop_eq_getElem_cons hlt
  rw [hd] at hr
  unfold eZ at hr
  obtain ⟨x, hxe⟩ : ∃ x, P[i] = x := ⟨_, rfl⟩
  rw [hxe] at hr
  have w1 := aY (x := (i : Int) + 1) (by omega) (by omega)
  by_cases hg : cE pl x.name > 0
  ·rw [if_pos hg] at hr
   simp -implicitDefEqProofs (maxDischargeDepth := 80) [neA, ltA, Kk, lb8_2, hlt, hxe, hg]
   refine yY s 30 x.at' (by simp -implicitDefEqProofs (maxDischargeDepth := 80) [neA, ltA, Kk]) (by omega) (fun n1 hn1 => ?_)
   simp -implicitDefEqProofs (maxDischargeDepth := 80) [neA, ltA, Kk, w1]
   exact aI (i + 1, pl, fQ s 30 x.at') ⟨by omega, hlt, hr⟩ (by simp only; omega) (by simp) (aX (aK _) (by simp only [look]; repeat rw [if_neg (by omega)]))
  ·rw [if_neg hg] at hr
   simp -implicitDefEqProofs (maxDischargeDepth := 80) [neA, ltA, Kk, lb8_2, hlt, hxe, hg, w1]
   exact aI (i + 1, dS pl x.name (i + 1), s) ⟨by omega, hlt, hr⟩ (by simp only; omega) (by simp) (aX (aK _) (by simp only [look]; repeat rw [if_neg (by omega)]))
 ·rw [List.drop_eq_nil_of_le (by omega)] at hr
  unfold eZ at hr
  subst hr
  simp -implicitDefEqProofs (maxDischargeDepth := 80) [neA, ltA, Kk, lb8_2, hlt]
  have hn : 13 ≤ k + 1 + 4 := by omega
  generalize k + 1 + 4 = nx at *
  generalize hQ : jJ P pl P s = Q
  refine lpG cf8 lb8_1 [9, 10, 12, 41, 47, 48, 49] (α := Nat × Ft) (fun s _ => [(9, .top), (10, .top), (12, .top), (41, I s.1), (47, .top), (48, .top), (49, .top)]) (fun s _ => [(7, .box [.omap 6]), (6, .map (aW pl)), (4, .box [.fn 24 [.opt 2 0]]), (2, .box [I s.2.1, I s.2.2]), (1, .box [I 0, I 0]), (0, .box [.sl (em dG P)])]) (fun s k => 13 ≤ k ∧ s.1 ≤ P.length ∧ jJ P pl (P.drop s.1) s.2 = Q) (fun s => P.length - s.1) (0, s) ⟨by omega, by simp, hQ⟩ (by simp) (aK _) ?_
  clear hQ hR hk hn
  rintro ⟨i, s⟩ k ⟨hk, hi, hr⟩
  simp only at hi hr
  have Kk := nfc Kk hk
  by_cases hlt : i < P.length
  ·have hd : P.drop i = P[i] :: P.drop (i + 1) := List.drop_eq_getElem_cons hlt
   have hmem : P[i] ∈ P := List.getElem_mem hlt
   rw [hd] at hr
   unfold jJ at hr
   obtain ⟨x, hxe⟩ : ∃ x, P[i] = x := ⟨_, rfl⟩
   rw [hxe] at hr hmem
   have w1 := aY (x := (i : Int) + 1) (by omega) (by omega)
   simp -implicitDefEqProofs (maxDischargeDepth := 80) [neA, ltA, Kk, lb8_1, hlt, hxe]
   obtain ⟨hsx, hpx⟩ := hf x hmem
   have hm1 : 13 ≤ k + 5 := by omega
   have hb9 : 13 ≤ k + 1 + 2 := by omega
   have hmb : (k + 1 + 2 = k + 5) = False := eq_false (by omega)
   have hmb2 : (k + 5 = k + 1 + 2) = False := eq_false (by omega)
   have hk1 : k + 5 < k + 1 + 4 + 2 + 4 ∧ k + 1 + 2 < k + 1 + 4 + 2 + 4 := ⟨by omega, by omega⟩
   generalize k + 1 + 4 + 2 + 4 = k1 at *
   generalize hme : k + 5 = mid at *
   generalize hbe : k + 1 + 2 = b9 at *
   generalize hR2 : lI x.params [] s = R2 at *
   refine lpG cf8 lb8_0 [12, 49] (α := Nat × Sm × Ft) (fun s _ => [(12, .top), (49, I s.1)]) (fun s _ => [(mid, .map (aW s.2.1)), (b9, .box (dG x)), (7, .box [.omap 6]), (6, .map (aW pl)), (4, .box [.fn 24 [.opt 2 0]]), (2, .box [I s.2.2.1, I s.2.2.2]), (1, .box [I 0, I 0]), (0, .box [.sl (em dG P)])]) (fun s k2 => k1 ≤ k2 ∧ s.1 ≤ x.params.length ∧ lI (x.params.drop s.1) s.2.1 s.2.2 = R2) (fun s => x.params.length - s.1) (0, [], s) ⟨by omega, by simp, hR2⟩ (by simp) (by rw [bQ]; exact aK _) ?_
   rintro ⟨j, m, s2⟩ k2 ⟨hk2, hj, hr2⟩
   simp only at hj hr2
   have g2 : 13 ≤ k2 := by omega
   have g3 : mid < k2 := by omega
   have g4 : b9 < k2 := by omega
   by_cases hjl : j < x.params.length
   ·have hd2 : x.params.drop j = x.params[j] :: x.params.drop (j + 1) := List.drop_eq_getElem_cons hjl
    rw [hd2] at hr2
    unfold lI at hr2
    obtain ⟨y, hye⟩ : ∃ y, x.params[j] = y := ⟨_, rfl⟩
    rw [hye] at hr2
    have w2 := aY (x := (j : Int) + 1) (by omega) (by omega)
    by_cases hg : cE m y.name > 0
    ·rw [if_pos hg] at hr2
     simp -implicitDefEqProofs (maxDischargeDepth := 80) [neA, ltA, Kk, lb8_0, hjl, hye, hg, neE g2, neE hm1, neE hb9, hmb, hmb2, g3, g4, neC g3, neC g4, bQ]
     refine yY s2 30 y.at' (by simp -implicitDefEqProofs (maxDischargeDepth := 80) [neA, ltA, Kk, neE g2, neE hm1, neE hb9, hmb, hmb2, g3, g4, neC g3, neC g4, bQ]) (by omega) (fun n1 hn1 => ?_)
     simp -implicitDefEqProofs (maxDischargeDepth := 80) [neA, ltA, Kk, w2, neE g2, neE hm1, neE hb9, hmb, hmb2, g3, g4, neC g3, neC g4, bQ]
     exact aI (j + 1, bW m y.name, fQ s2 30 y.at') ⟨by omega, hjl, hr2⟩ (by simp only; omega) (by simp) (by simp only [bW, bQ]; exact aX (aK _) (by simp only [look]; repeat rw [if_neg (by omega)]))
    ·rw [if_neg hg] at hr2
     simp -implicitDefEqProofs (maxDischargeDepth := 80) [neA, ltA, Kk, lb8_0, hjl, hye, hg, neE g2, neE hm1, neE hb9, hmb, hmb2, g3, g4, neC g3, neC g4, bQ, w2]
     exact aI (j + 1, bW m y.name, s2) ⟨by omega, hjl, hr2⟩ (by simp only; omega) (by simp) (by simp only [bW, bQ]; exact aX (aK _) (by simp only [look]; repeat rw [if_neg (by omega)]))
   ·rw [List.drop_eq_nil_of_le (by omega)] at hr2
    unfold lI at hr2
    subst hr2
    have hx := yA x.body
    unfold WC at hx
    simp only [aA] at hx
    simp -implicitDefEqProofs (maxDischargeDepth := 80) [neA, ltA, Kk, lb8_0, hjl, neE g2, neE hm1, neE hb9, hmb, hmb2, g3, g4, neC g3, neC g4, bQ]
    refine aD (hx (mid := mid) (fid := 2) (b5 := 7) (pid := 6) (b4 := 4) (b1 := 0) (P := P) (pl := pl) (m := m) (s := s2) ?_ hplR hP hsx (fun n3 hn3 => ?_))
    ·constructor <;> first | omega | simp -implicitDefEqProofs (maxDischargeDepth := 80) [neA, ltA, Kk, neE g2, neE hm1, neE hb9, hmb, hmb2, g3, g4, neC g3, neC g4, bQ]
    ·generalize jB P pl x.body m s2 = r3 at *
     simp -implicitDefEqProofs (maxDischargeDepth := 80) [neA, ltA, Kk, bV, w1, neE g2, neE hm1, neE hb9, hmb, hmb2, g3, g4, neC g3, neC g4, bQ]
     exact aI (i + 1, r3.2) ⟨by omega, hlt, hr⟩ (by simp only; omega) (by simp) (aX (aX (aK _) (by simp only [look]; repeat rw [if_neg (by omega)])) (by simp only [look]; repeat rw [if_neg (by omega)]))
  ·rw [List.drop_eq_nil_of_le (by omega)] at hr
   unfold jJ at hr
   subst hr
   simp -implicitDefEqProofs (maxDischargeDepth := 80) [neA, ltA, Kk, lb8_1, hlt]
def Rm (m : Sm) (N : List (List UInt8)) : Prop := ∀ n, cE m n = (N.count n : Int)
theorem uN : ∀ (N : List (List UInt8)) (n : List UInt8), bA N n = true ↔ 0 < N.count n
 | [], n => by simp [bA]
 | x :: xs, n => by
  unfold bA
  rw [List.count_cons]
  by_cases h : x = n
  ·simp [h]
  ·rw [if_neg h, uN xs n]; simp [h]
theorem Rm.inc {m : Sm} {N : List (List UInt8)} (h : Rm m N) (hN : N.length < 2 ^ 62) (x : List UInt8) : Rm (bW m x) (N ++ [x]) := fun n => by
 have hc := List.count_le_length (a := x) (l := N)
 unfold bW
 rw [pD, List.count_append, h x, aY (by omega) (by omega)]
 by_cases e : x = n
 ·subst e; simp
 ·rw [if_neg e, h n]
  simp [e]
theorem Rm.incs : ∀ (M : List (List UInt8)) {m : Sm} {N : List (List UInt8)}, Rm m N → N.length + M.length < 2 ^ 62 → Rm (M.foldl bW m) (N ++ M)
 | [], m, N, h, _ => by simpa using h
 | x :: xs, m, N, h, hl => by
  simp only [List.length_cons] at hl
  have := Rm.incs xs (h.inc (by omega) x) (by simp only [List.length_append, List.length_cons, List.length_nil]; omega)
  simpa using this
theorem Rm.decs : ∀ (M : List (List UInt8)) {m : Sm} {N : List (List UInt8)}, Rm m (N ++ M) → N.length + M.length < 2 ^ 62 → Rm (M.foldl iJ m) N
 | [], m, N, h, _ => by simpa using h
 | x :: xs, m, N, h, hl => by
  simp only [List.length_cons] at hl
  refine Rm.decs xs (fun n => ?_) (by omega)
  have hx := h x
  rw [List.count_append, List.count_cons_self] at hx
  have hc := List.count_le_length (a := x) (l := N)
  have hc2 := List.count_le_length (a := x) (l := xs)
  unfold iJ
  rw [pD, hx, aY (by omega) (by omega)]
  by_cases e : x = n
  ·subst e; rw [if_pos rfl, List.count_append]; omega
  ·rw [if_neg e, h n, List.count_append, List.count_append, List.count_cons_of_ne e]
theorem uV : Rm [] [] := fun n => by rw [o6]; simp
def FtIn (ms : List Mk) (a b : Nat) (l : List Ft) : Prop := ∀ x ∈ l, x.1 ≠ 0 ∧ placeIn ms a b x.2
theorem FtIn.app {ms : List Mk} {a b : Nat} {l k : List Ft} (h : FtIn ms a b l) (g : FtIn ms a b k) : FtIn ms a b (l ++ k) := fun x hx => (List.mem_append.1 hx).elim (h x) (g x)
theorem FtIn.mono {ms : List Mk} {a b c d : Nat} {l : List Ft} (h : FtIn ms a b l) (h1 : c ≤ a) (h2 : b ≤ d) : FtIn ms c d l := fun x hx => ⟨(h x hx).1, (h x hx).2.mono h1 h2⟩
theorem x4 {ms : List Mk} : ∀ {l : List Fn} {a b : Nat}, Fns ms a l b → a ≤ b
 | [], a, b, h => h
 | f :: fs, a, b, h => by
  unfold Fns at h
  obtain ⟨c, hf, hs⟩ := h
  have := x4 hs
  have := hf.lt
  omega
theorem p8 {ms : List Mk} : ∀ (l : List Fn) (a b : Nat), Fns ms a l b → l.length ≤ b - a ∧ ∀ f ∈ l, size f.body ≤ b - a ∧ f.params.length ≤ b - a
 | [], a, b, _ => by simp
 | f :: fs, a, b, h => by
  unfold Fns at h
  obtain ⟨c, hf, hs⟩ := h
  have hcb : c ≤ b := x4 hs
  obtain ⟨h1, h2⟩ := p8 fs c b hs
  have := hf.lt; have := hf.len; have := hf.size
  refine ⟨by simp only [List.length_cons]; omega, fun g hg => ?_⟩
  rcases List.mem_cons.1 hg with rfl | hg
  ·exact ⟨by omega, by omega⟩
  ·have := h2 g hg; omega
set_option maxRecDepth 1000000
set_option maxHeartbeats 0
noncomputable def cf31 : Cfg := ⟨Tryz.prog, 39, [0, 1, 2, 3, 4, 5], [13, 21, 37]⟩
noncomputable def lb31_0 : AC :=
 .seq (.ifr [JA 22 4, JG 23 5 1, JD 24 1 23, JO 25 (.len false (.t 24)), JO 26 (.bin .lss 3 (.t 22) (.t 25))] (.t 26) .skip (.exit 0)) (.seq (.block 1 (.seq (.reg [JG 29 5 1, JD 30 1 29, JA 31 4, JL 32 7 30 31, JE 33 7 32, JO 34 (.pc (.f 31) [.t 33]), JB 5 34]) (.reg [JA 35 3, JA 36 5, JO 37 (.app 1 16 [JU] (.t 35) (.t 36)), JB 3 37]))) (.reg [JA 27 4, JO 28 (.bin .add 3 (.t 27) (JT 1)), JB 4 28]))
noncomputable def ac31 : AC :=
 (.seq (.reg [JN 1 0, JP 2 (.mv (.c (.slice none 0 0)))]) (.seq (.reg [JP 3 (.mv (.c (.slice none 0 0)))]) (.seq (.ifr [JG 6 1 1, JD 7 1 6, JO 8 (.bin .neq 9 (.t 7) (.c (JU)))] (.t 8) (.reg [JA 9 3, JG 10 1 1, JD 11 1 10, JO 12 (.bsl 1 1 [JU] [(0, 1, .t 11)]), JO 13 (.app 1 16 [JU] (.t 9) (.t 12)), JB 3 13]) .skip) (.seq (.ifr [JG 14 2 1, JD 15 1 14, JO 16 (.bin .neq 9 (.t 15) (.c (JU)))] (.t 16) (.reg [JA 17 3, JG 18 2 1, JD 19 1 18, JO 20 (.bsl 1 1 [JU] [(0, 1, .t 19)]), JO 21 (.app 1 16 [JU] (.t 17) (.t 20)), JB 3 21]) .skip) (.seq (.seq (.reg [JI 4 0]) (.block 0 (.loop lb31_0))) (.seq (.reg [JA 38 3, JB 2 38]) .ret))))))
theorem fi31 : FI Tryz.prog 31 cf31 ac31 [.t 2] [0, 1, 2, 3, 4, 5] 39 := FI_of (c := Tryz.f31.body.getD .skip) Tryz.func31 (by kernel_rfl) (by rfl) (by rfl) (by kernel_rfl) (by kernel_rfl) rfl rfl rfl
@[simp] theorem cfP31 : cf31.P = Tryz.prog := (rfl)
noncomputable def cf32 : Cfg := ⟨Tryz.prog, 59, [0, 2, 3, 4, 5], [17, 26]⟩
noncomputable def lb32_0 : AC :=
 .seq (.ifr [JA 27 5, JO 28 (.bin .gtr 3 (.t 27) (JT 0)), JC 29 28, JS 30 29 (.mv (.g 3)), JS 31 29 (.mv (.g 5)), JS 32 29 (.bin .sub 3 (.t 31) (JT 1)), JS 33 29 (.ia 1 (.t 30) (.t 32)), JS 34 29 (.ld false 1 (.t 33)), JS 35 29 (.mv (.g 0)), JS 36 29 (.mv (.g 4)), JS 37 29 (.ia 1 (.t 35) (.t 36)), JS 38 29 (.ld false 1 (.t 37)), JS 39 29 (.bin .gtr 9 (.t 34) (.t 38)), JO 40 (.pick (.t 29) (.t 39) JY)] (.t 40) .skip (.exit 2)) (.block 3 (.seq (.reg [JA 41 3, JA 42 5, JA 43 3, JA 44 5, JO 45 (.bin .sub 3 (.t 44) (JT 1)), JL 46 1 43 45, JD 47 1 46, JL 48 1 41 42, JQ (.st 1 (.t 48) (.t 47))]) (.reg [JA 49 5, JO 50 (.bin .sub 3 (.t 49) (JT 1)), JB 5 50])))
noncomputable def lb32_1 : AC :=
 .seq (.ifr [JA 6 4, JA 7 0, JO 8 (.len false (.t 7)), JO 9 (.bin .lss 3 (.t 6) (.t 8))] (.t 9) .skip (.exit 0)) (.seq (.block 1 (.seq (.ifr [JA 12 3, JA 13 0, JA 14 4, JL 15 1 13 14, JD 16 1 15, JO 17 (.cl (.f 41) [.t 12, .t 16])] (.t 17) (.exit 1) .skip) (.seq (.reg [JA 18 3, JO 19 (.len false (.t 18)), JB 5 19]) (.seq (.reg [JA 20 3, JA 21 0, JA 22 4, JL 23 1 21 22, JD 24 1 23, JO 25 (.bsl 1 1 [JU] [(0, 1, .t 24)]), JO 26 (.app 1 16 [JU] (.t 20) (.t 25)), JB 3 26]) (.seq (.block 2 (.loop lb32_0)) (.reg [JA 51 3, JA 52 5, JA 53 0, JA 54 4, JL 55 1 53 54, JD 56 1 55, JL 57 1 51 52, JQ (.st 1 (.t 57) (.t 56))])))))) (.reg [JA 10 4, JO 11 (.bin .add 3 (.t 10) (JT 1)), JB 4 11]))
noncomputable def ac32 : AC :=
 (.seq (.reg [JP 2 (.mv (.c (.slice none 0 0)))]) (.seq (.reg [JP 3 (.mv (.c (.slice none 0 0)))]) (.seq (.seq (.reg [JI 4 0]) (.block 0 (.loop lb32_1))) (.seq (.reg [JA 58 3, JB 2 58]) .ret))))
theorem fi32 : FI Tryz.prog 32 cf32 ac32 [.t 2] [0, 2, 3, 4, 5] 59 := FI_of (c := Tryz.f32.body.getD .skip) Tryz.func32 (by kernel_rfl) (by rfl) (by rfl) (by kernel_rfl) (by kernel_rfl) rfl rfl rfl
@[simp] theorem cfP32 : cf32.P = Tryz.prog := (rfl)
noncomputable def cf12 : Cfg := ⟨Tryz.prog, 32, [0, 1, 2, 3, 4, 5], [8, 24]⟩
noncomputable def lb12_0 : AC :=
 .seq (.ifr [JA 9 4, JG 10 1 1, JD 11 1 10, JO 12 (.len false (.t 11)), JO 13 (.bin .lss 3 (.t 9) (.t 12))] (.t 13) .skip (.exit 0)) (.seq (.block 1 (.reg [JA 16 3, JG 17 1 1, JD 18 1 17, JA 19 4, JL 20 3 18 19, JH 21 0 20, JD 22 1 21, JO 23 (.bsl 1 1 [JU] [(0, 1, .t 22)]), JO 24 (.app 1 16 [JU] (.t 16) (.t 23)), JB 3 24])) (.reg [JA 14 4, JO 15 (.bin .add 3 (.t 14) (JT 1)), JB 4 15]))
noncomputable def ac12 : AC :=
 (.seq (.reg [JN 1 0, JP 2 (.mv (.c (.slice none 0 0)))]) (.seq (.reg [JG 6 0 1, JD 7 1 6, JO 8 (.bso 1 1 [JU] [(0, 1, .t 7)]), JB 3 8]) (.seq (.seq (.reg [JI 4 0]) (.block 0 (.loop lb12_0))) (.seq (.reg [JG 25 3 1, JE 26 7 25, JO 27 (.pc (.f 31) [.t 26]), JB 5 27]) (.seq (.reg [JA 28 3, JA 29 5, JO 30 (.pc (.f 33) [.t 28, .t 29]), JO 31 (.pc (.f 32) [.t 30]), JB 2 31]) .ret)))))
theorem fi12 : FI Tryz.prog 12 cf12 ac12 [.t 2] [0, 1, 2, 3, 4, 5] 32 := FI_of (c := Tryz.f12.body.getD .skip) Tryz.func12 (by kernel_rfl) (by rfl) (by rfl) (by kernel_rfl) (by kernel_rfl) rfl rfl rfl
@[simp] theorem cfP12 : cf12.P = Tryz.prog := (rfl)
set_option maxRecDepth 100000
set_option maxHeartbeats 4000000
def gtB (a b : ByteArray) : Bool := !(Op.bytesLess a.toList b.toList || a.toList == b.toList)
@[simp] theorem bin_gtrT {ty : TypeId} {a b : ByteArray} : bB Tryz.prog .gtr ty (.pl (.string a)) (.pl (.string b)) = some (.pl (.bool (gtB a b))) := by
 have : Sem.look Tryz.prog (binOp .gtr ty (.string a) (.string b)) = some (.bool (gtB a b)) := by
  simp [binOp, Op.stringOp, Sem.look, Pure.pure, gtB]
 simp only [bB, lit, Bool.and_self, if_true, this, Option.map_some]
def gtT (a b : List UInt8) : Bool := gtB (ByteArray.mk (Array.mk a)) (ByteArray.mk (Array.mk b))
mutual
def aU : Ex → List (List UInt8)
 | .mk _ n tl _ _ args _ => ((if n = [] then [] else [n]) ++ (if tl = [] then [] else [tl])) ++ a8 args
def a8 : List Ex → List (List UInt8)
 | [] => []
 | x :: xs => aU x ++ a8 xs
end
mutual
theorem eY : ∀ e : Ex, (aU e).length ≤ 2 * size e
 | .mk op n tl ty z args p => by
  have := mV args
  unfold aU size
  rw [List.length_append, List.length_append]
  split <;> split <;> simp <;> omega
theorem mV : ∀ l : List Ex, (a8 l).length ≤ 2 * aS l
 | [] => by simp [a8]
 | x :: xs => by
  have h1 := eY x
  have h2 := mV xs
  unfold a8 aS
  rw [List.length_append]; omega
end
theorem gR : ∀ {l : List Ex} {x : Ex}, x ∈ l → size x ≤ aS l
 | y :: ys, x, h => by
  unfold aS
  rcases List.mem_cons.1 h with rfl | h
  ·omega
  ·have := gR h; omega
theorem pN : ∀ (l : List Ex), l.length ≤ aS l
 | [] => by simp [aS]
 | y :: ys => by
  have := pN ys
  have h : 1 ≤ size y := by cases y; unfold size; omega
  unfold aS; simp only [List.length_cons]; omega
def WiC (e : Ex) : Prop := size e ≤ 2 ^ 40 → Pure Tryz.prog 31 [.agg [I e.op, Tx e.name, Tx e.tail, I e.type, CX e.num.re e.num.im, .sl (em aP e.args), I e.at']] (.sl (em aN (aU e)))
theorem vB (op : Int) (n tl : List UInt8) (ty : Int) (z : Cx) (args : List Ex) (p : Int) (ih : ∀ x ∈ args, WiC x) : WiC (.mk op n tl ty z args p) := by
 intro hz
 show Pure Tryz.prog 31 [.agg [I op, Tx n, Tx tl, I ty, CX z.re z.im, .sl (em aP args), I p]] (.sl (em aN (aU (.mk op n tl ty z args p))))
 have hRl : (aU (.mk op n tl ty z args p)).length ≤ 2 ^ 41 := by have := eY (.mk op n tl ty z args p); omega
 generalize hR0 : aU (.mk op n tl ty z args p) = R at *
 refine fi31.pu (by simp) ?_
 simp -implicitDefEqProofs [ac31]
 have hsz : aS args ≤ 2 ^ 40 := by unfold size at hz; omega
 have hal := pN args
 by_cases hn : n = []
 ·by_cases ht : tl = []
  ·simp -implicitDefEqProofs [hn, ht]
   have hR : ([] : List (List UInt8)) ++ a8 args = R := by rw [← hR0]; unfold aU; simp [hn, ht]
   refine eR (j := 3) (k := 1) rfl (.inl rfl) ?_
   refine lpG cf31 lb31_0 [3, 4, 5] (α := Nat × Nat × List (List UInt8)) (fun s _ => [(3, .osl 10 s.2.1 0 s.2.2.length), (4, I s.1), (5, .top)]) (fun s _ => [(10, .arr s.2.1 1 (em aN s.2.2))]) (fun s k => 10 < k ∧ s.1 ≤ args.length ∧ s.2.2 ++ a8 (args.drop s.1) = R) (fun s => args.length - s.1) (0, 0, []) ⟨by omega, by omega, by simpa using hR⟩ (by simp [upd]) (by simp [em, aN]) ?_
   rintro ⟨i, v, l⟩ k ⟨hk, hi, hr⟩
   simp only at hk hi hr
   by_cases hlt : i < args.length
   ·have hlti : (i : Int) < (args.length : Int) := by omega
    have w1 := aY (x := (i : Int) + 1) (by omega) (by omega)
    rw [List.drop_eq_getElem_cons hlt] at hr
    unfold a8 at hr
    obtain ⟨x, hx⟩ : ∃ x, args[i] = x := ⟨_, rfl⟩
    have hxm : x ∈ args := by rw [← hx]; exact List.getElem_mem hlt
    rw [hx, ← List.append_assoc] at hr
    have hc := ih x hxm (by have := (gR hxm); omega)
    have hrl : (l ++ aU x).length ≤ R.length := by rw [← hr]; simp only [List.length_append]; omega
    have b1 : (l.length + (aU x).length) * 16 ≤ 3 * 2 ^ 46 := by rw [List.length_append] at hrl; omega
    have hap : em aN l ++ em aN (aU x) = em aN (l ++ aU x) := by simp [em]
    simp -implicitDefEqProofs [lb31_0, hlti, hlt, hx]
    refine aH hc (by simp) ?_
    simp -implicitDefEqProofs [-els, pT, b1, hap, w1]
    exact aI (i + 1, v + 1, l ++ aU x) ⟨by omega, hlt, hr⟩ (by simp only; omega) (by simp) (aK _)
   ·have hil : i = args.length := by omega
    subst hil
    rw [List.drop_length] at hr
    unfold a8 at hr
    rw [List.append_nil] at hr
    subst hr
    simp -implicitDefEqProofs [lb31_0, frz, look]
    try rw [List.take_of_length_le (by simp)]
  ·simp -implicitDefEqProofs [hn, ht]
   have hR : [tl] ++ a8 args = R := by rw [← hR0]; unfold aU; simp [hn, ht]
   refine lpG cf31 lb31_0 [3, 4, 5] (α := Nat × Nat × List (List UInt8)) (fun s _ => [(3, .osl 13 s.2.1 0 s.2.2.length), (4, I s.1), (5, .top)]) (fun s _ => [(13, .arr s.2.1 1 (em aN s.2.2))]) (fun s k => 13 < k ∧ s.1 ≤ args.length ∧ s.2.2 ++ a8 (args.drop s.1) = R) (fun s => args.length - s.1) (0, 0, [tl]) ⟨by omega, by omega, by simpa using hR⟩ (by simp [upd]) (by simp [em, aN]) ?_
   rintro ⟨i, v, l⟩ k ⟨hk, hi, hr⟩
   simp only at hk hi hr
   by_cases hlt : i < args.length
   ·have hlti : (i : Int) < (args.length : Int) := by omega
    have w1 := aY (x := (i : Int) + 1) (by omega) (by omega)
    rw [List.drop_eq_getElem_cons hlt] at hr
    unfold a8 at hr
    obtain ⟨x, hx⟩ : ∃ x, args[i] = x := ⟨_, rfl⟩
    have hxm : x ∈ args := by rw [← hx]; exact List.getElem_mem hlt
    rw [hx, ← List.append_assoc] at hr
    have hc := ih x hxm (by have := (gR hxm); omega)
    have hrl : (l ++ aU x).length ≤ R.length := by rw [← hr]; simp only [List.length_append]; omega
    have b1 : (l.length + (aU x).length) * 16 ≤ 3 * 2 ^ 46 := by rw [List.length_append] at hrl; omega
    have hap : em aN l ++ em aN (aU x) = em aN (l ++ aU x) := by simp [em]
    simp -implicitDefEqProofs [lb31_0, hlti, hlt, hx]
    refine aH hc (by simp) ?_
    simp -implicitDefEqProofs [-els, pT, b1, hap, w1]
    exact aI (i + 1, v + 1, l ++ aU x) ⟨by omega, hlt, hr⟩ (by simp only; omega) (by simp) (aK _)
   ·have hil : i = args.length := by omega
    subst hil
    rw [List.drop_length] at hr
    unfold a8 at hr
    rw [List.append_nil] at hr
    subst hr
    simp -implicitDefEqProofs [lb31_0, frz, look]
    try rw [List.take_of_length_le (by simp)]
 ·by_cases ht : tl = []
  ·simp -implicitDefEqProofs [hn, ht]
   have hR : [n] ++ a8 args = R := by rw [← hR0]; unfold aU; simp [hn, ht]
   refine lpG cf31 lb31_0 [3, 4, 5] (α := Nat × Nat × List (List UInt8)) (fun s _ => [(3, .osl 10 s.2.1 0 s.2.2.length), (4, I s.1), (5, .top)]) (fun s _ => [(10, .arr s.2.1 1 (em aN s.2.2))]) (fun s k => 10 < k ∧ s.1 ≤ args.length ∧ s.2.2 ++ a8 (args.drop s.1) = R) (fun s => args.length - s.1) (0, 0, [n]) ⟨by omega, by omega, by simpa using hR⟩ (by simp [upd]) (by simp [em, aN]) ?_
   rintro ⟨i, v, l⟩ k ⟨hk, hi, hr⟩
   simp only at hk hi hr
   by_cases hlt : i < args.length
   ·have hlti : (i : Int) < (args.length : Int) := by omega
    have w1 := aY (x := (i : Int) + 1) (by omega) (by omega)
    rw [List.drop_eq_getElem_cons hlt] at hr
    unfold a8 at hr
    obtain ⟨x, hx⟩ : ∃ x, args[i] = x := ⟨_, rfl⟩
    have hxm : x ∈ args := by rw [← hx]; exact List.getElem_mem hlt
    rw [hx, ← List.append_assoc] at hr
    have hc := ih x hxm (by have := (gR hxm); omega)
    have hrl : (l ++ aU x).length ≤ R.length := by rw [← hr]; simp only [List.length_append]; omega
    have b1 : (l.length + (aU x).length) * 16 ≤ 3 * 2 ^ 46 := by rw [List.length_append] at hrl; omega
    have hap : em aN l ++ em aN (aU x) = em aN (l ++ aU x) := by simp [em]
    simp -implicitDefEqProofs [lb31_0, hlti, hlt, hx]
    refine aH hc (by simp) ?_
    simp -implicitDefEqProofs [-els, pT, b1, hap, w1]
    exact aI (i + 1, v + 1, l ++ aU x) ⟨by omega, hlt, hr⟩ (by simp only; omega) (by simp) (aK _)
   ·have hil : i = args.length := by omega
    subst hil
    rw [List.drop_length] at hr
    unfold a8 at hr
    rw [List.append_nil] at hr
    subst hr
    simp -implicitDefEqProofs [lb31_0, frz, look]
    try rw [List.take_of_length_le (by simp)]
  ·simp -implicitDefEqProofs [hn, ht]
   have hR : [n, tl] ++ a8 args = R := by rw [← hR0]; unfold aU; simp [hn, ht]
   refine lpG cf31 lb31_0 [3, 4, 5] (α := Nat × Nat × List (List UInt8)) (fun s _ => [(3, .osl 10 s.2.1 0 s.2.2.length), (4, I s.1), (5, .top)]) (fun s _ => [(10, .arr s.2.1 1 (em aN s.2.2))]) (fun s k => 10 < k ∧ s.1 ≤ args.length ∧ s.2.2 ++ a8 (args.drop s.1) = R) (fun s => args.length - s.1) (0, 1, [n, tl]) ⟨by omega, by omega, by simpa using hR⟩ (by simp [upd]) (by simp [em, aN]) ?_
   rintro ⟨i, v, l⟩ k ⟨hk, hi, hr⟩
   simp only at hk hi hr
   by_cases hlt : i < args.length
   ·have hlti : (i : Int) < (args.length : Int) := by omega
    have w1 := aY (x := (i : Int) + 1) (by omega) (by omega)
    rw [List.drop_eq_getElem_cons hlt] at hr
    unfold a8 at hr
    obtain ⟨x, hx⟩ : ∃ x, args[i] = x := ⟨_, rfl⟩
    have hxm : x ∈ args := by rw [← hx]; exact List.getElem_mem hlt
    rw [hx, ← List.append_assoc] at hr
    have hc := ih x hxm (by have := (gR hxm); omega)
    have hrl : (l ++ aU x).length ≤ R.length := by rw [← hr]; simp only [List.length_append]; omega
    have b1 : (l.length + (aU x).length) * 16 ≤ 3 * 2 ^ 46 := by rw [List.length_append] at hrl; omega
    have hap : em aN l ++ em aN (aU x) = em aN (l ++ aU x) := by simp [em]
    simp -implicitDefEqProofs [lb31_0, hlti, hlt, hx]
    refine aH hc (by simp) ?_
    simp -implicitDefEqProofs [-els, pT, b1, hap, w1]
    exact aI (i + 1, v + 1, l ++ aU x) ⟨by omega, hlt, hr⟩ (by simp only; omega) (by simp) (aK _)
   ·have hil : i = args.length := by omega
    subst hil
    rw [List.drop_length] at hr
    unfold a8 at hr
    rw [List.append_nil] at hr
    subst hr
    simp -implicitDefEqProofs [lb31_0, frz, look]
    try rw [List.take_of_length_le (by simp)]
mutual
theorem s9 : ∀ e : Ex, WiC e
 | .mk op n tl ty z args p => vB op n tl ty z args p (sH args)
theorem sH : ∀ l : List Ex, ∀ x ∈ l, WiC x
 | [], x, h => by simp at h
 | y :: ys, x, h => by
  rcases List.mem_cons.1 h with e | h
  ·rw [e]; exact s9 y
  ·exact sH ys x h
end
def dR (s : List UInt8) : List (List UInt8) → Nat → List (List UInt8)
 | l, 0 => l.set 0 s
 | l, k + 1 => if gtT (l[k]?.getD []) s = true then dR s (l.set (k + 1) (l[k]?.getD [])) k else l.set (k + 1) s
def i7 (out : List (List UInt8)) (s : List UInt8) : List (List UInt8) := dR s (out ++ [s]) out.length
def cR : List (List UInt8) → List (List UInt8) → List (List UInt8)
 | [], out => out
 | x :: xs, out => cR xs (if bA out x = true then out else i7 out x)
theorem r5 (s : List UInt8) : ∀ (k : Nat) (l : List (List UInt8)), (dR s l k).length = l.length
 | 0, l => by simp [dR]
 | k + 1, l => by
  unfold dR
  split
  ·rw [r5 s k]; simp
  ·simp
theorem vX (out : List (List UInt8)) (s : List UInt8) : (i7 out s).length = out.length + 1 := by
 unfold i7; rw [r5]; simp
theorem oV : ∀ (l out : List (List UInt8)), (cR l out).length ≤ l.length + out.length
 | [], out => by simp [cR]
 | x :: xs, out => by
  unfold cR
  have := oV xs (if bA out x = true then out else i7 out x)
  have h2 : (if bA out x = true then out else i7 out x).length ≤ out.length + 1 := by
   split
   ·omega
   ·rw [vX]; omega
  simp only [List.length_cons]; omega
theorem rX (s y : List UInt8) : ∀ (k : Nat) (l : List (List UInt8)), k < l.length → (y ∈ dR s l k ↔ y = s ∨ ∃ i, i ≠ k ∧ l[i]? = some y)
 | 0, l, h => by
  unfold dR
  rw [List.mem_iff_getElem?]
  constructor
  ·rintro ⟨i, hi⟩
   rw [List.getElem?_set] at hi
   by_cases e : 0 = i
   ·subst e
    rw [if_pos rfl, if_pos h] at hi
    left; simpa using hi.symm
   ·rw [if_neg e] at hi
    exact .inr ⟨i, by omega, hi⟩
  ·rintro (rfl | ⟨i, hi, h2⟩)
   ·exact ⟨0, by rw [List.getElem?_set, if_pos rfl, if_pos h]⟩
   ·exact ⟨i, by rw [List.getElem?_set, if_neg (by omega)]; exact h2⟩
 | k + 1, l, h => by
  unfold dR
  split
  ·rw [rX s y k _ (by simp; omega)]
   have hk : l[k]? = some (l[k]?.getD []) := by rw [List.getElem?_eq_getElem (by omega)]; rfl
   constructor
   ·rintro (rfl | ⟨i, hi, h2⟩)
    ·exact .inl rfl
    ·rw [List.getElem?_set] at h2
     by_cases e : k + 1 = i
     ·subst e
      rw [if_pos rfl, if_pos h] at h2
      exact .inr ⟨k, by omega, by rw [hk]; exact h2⟩
     ·rw [if_neg e] at h2
      exact .inr ⟨i, by omega, h2⟩
   ·rintro (rfl | ⟨i, hi, h2⟩)
    ·exact .inl rfl
    ·by_cases e : i = k
     ·subst e
      exact .inr ⟨i + 1, by omega, by rw [List.getElem?_set, if_pos rfl, if_pos h, ← hk]; exact h2⟩
     ·exact .inr ⟨i, e, by rw [List.getElem?_set, if_neg (by omega)]; exact h2⟩
  ·rw [List.mem_iff_getElem?]
   constructor
   ·rintro ⟨i, hi⟩
    rw [List.getElem?_set] at hi
    by_cases e : k + 1 = i
    ·subst e
     rw [if_pos rfl, if_pos h] at hi
     left; simpa using hi.symm
    ·rw [if_neg e] at hi
     exact .inr ⟨i, by omega, hi⟩
   ·rintro (rfl | ⟨i, hi, h2⟩)
    ·exact ⟨k + 1, by rw [List.getElem?_set, if_pos rfl, if_pos h]⟩
    ·exact ⟨i, by rw [List.getElem?_set, if_neg (by omega)]; exact h2⟩
theorem CG (out : List (List UInt8)) (s y : List UInt8) : y ∈ i7 out s ↔ y = s ∨ y ∈ out := by
 unfold i7
 rw [rX s y _ _ (by simp), List.mem_iff_getElem?]
 constructor
 ·rintro (h | ⟨i, hi, h⟩)
  ·exact .inl h
  ·by_cases e : i < out.length
   ·rw [List.getElem?_append_left e] at h; exact .inr ⟨i, h⟩
   ·rw [List.getElem?_eq_none (by simp; omega)] at h; simp at h
 ·rintro (h | ⟨i, h⟩)
  ·exact .inl h
  ·have hi := (List.getElem?_eq_some_iff.1 h).1
   exact .inr ⟨i, by omega, by rw [List.getElem?_append_left hi]; exact h⟩
theorem g_ : ∀ (l : List (List UInt8)) (n : List UInt8), bA l n = true ↔ n ∈ l
 | [], n => by simp [bA]
 | x :: xs, n => by
  unfold bA
  split
  ·rename_i e; simp [e]
  ·rename_i e
   rw [g_ xs n]
   have e2 : ¬ n = x := fun g => e g.symm
   simp [e2]
theorem oZ (y : List UInt8) : ∀ (l out : List (List UInt8)), y ∈ cR l out ↔ y ∈ l ∨ y ∈ out
 | [], out => by simp [cR]
 | x :: xs, out => by
  unfold cR
  rw [oZ y xs]
  by_cases h : bA out x = true
  ·rw [if_pos h]
   have := (g_ out x).1 h
   constructor
   ·rintro (h | h)
    ·exact .inl (by simp [h])
    ·exact .inr h
   ·rintro (h | h)
    ·rcases List.mem_cons.1 h with rfl | h
     ·exact .inr this
     ·exact .inl h
    ·exact .inr h
  ·rw [if_neg h, CG, List.mem_cons]
   constructor
   ·rintro (h | h | h)
    ·exact .inl (.inr h)
    ·exact .inl (.inl h)
    ·exact .inr h
   ·rintro ((h | h) | h)
    ·exact .inr (.inl h)
    ·exact .inl h
    ·exact .inr (.inr h)
theorem uS (l : List (List UInt8)) (hl : l.length ≤ 2 ^ 39) : Pure Tryz.prog 32 [.sl (em aN l)] (.sl (em aN (cR l []))) := by
 refine fi32.pu (by simp) ?_
 simp -implicitDefEqProofs [ac32]
 generalize hR : cR l [] = R
 refine eR (j := 3) (k := 1) rfl (.inl rfl) ?_
 refine lpG cf32 lb32_1 [3, 4, 5] (α := Nat × Nat × List (List UInt8)) (fun z _ => [(3, .osl 3 z.2.1 0 z.2.2.length), (4, I z.1), (5, .top)]) (fun z _ => [(3, .arr z.2.1 1 (em aN z.2.2))]) (fun z k => 3 < k ∧ z.1 ≤ l.length ∧ z.2.2.length ≤ z.1 ∧ cR (l.drop z.1) z.2.2 = R) (fun z => l.length - z.1) (0, 0, []) ⟨by omega, by omega, by simp, by simpa using hR⟩ (by simp [upd]) (by simp) ?_
 rintro ⟨i, v, out⟩ k ⟨hk, hi, hol, hr⟩
 simp only at hk hi hol hr
 by_cases hlt : i < l.length
 ·have hlti : (i : Int) < (l.length : Int) := by omega
  have w1 := aY (x := (i : Int) + 1) (by omega) (by omega)
  rw [List.drop_eq_getElem_cons hlt] at hr
  unfold cR at hr
  obtain ⟨x, hx⟩ : ∃ x, l[i] = x := ⟨_, rfl⟩
  rw [hx] at hr
  have hhas := Has_c out x (by omega)
  simp -implicitDefEqProofs [lb32_1, hlti, hlt, hx]
  refine aD (xN (d0 := .pl (.bool (bA out x))) (mf := [(3, .arr v 1 (em aN out))]) (args' := [.sl (em aN out), Tx x]) rfl (aG _) (by simp [fM, frz, look, List.take_of_length_le]) hhas ?_)
  by_cases hh : bA out x = true
  ·rw [if_pos hh] at hr
   simp -implicitDefEqProofs [hh, w1]
   exact aI (i + 1, v, out) ⟨by omega, hlt, by simp only; omega, hr⟩ (by simp only; omega) (by simp) (aK _)
  ·rw [if_neg hh] at hr
   have b1 : (out.length + 1) * 16 ≤ 3 * 2 ^ 46 := by omega
   have hap : em aN out ++ [[Tx x]] = em aN (out ++ [x]) := iW (enc := aN) (x := x)
   simp -implicitDefEqProofs [hh, hlti, hlt, hx, b1, hap]
   have hins : dR x (out ++ [x]) out.length = i7 out x := rfl
   generalize hI : i7 out x = In at *
   refine lpG cf32 lb32_0 [5] (α := Nat × List (List UInt8)) (fun z _ => [(5, I z.1)]) (fun z _ => [(3, .arr (v + 1) 1 (em aN z.2))]) (fun z k => 3 < k ∧ z.1 ≤ out.length ∧ z.2.length = out.length + 1 ∧ dR x z.2 z.1 = In) (fun z => z.1) (out.length, out ++ [x]) ⟨by omega, by omega, by simp, hins⟩ (by simp) (by simp) ?_
   rintro ⟨j, c⟩ k2 ⟨hk2, hj, hcl, hs⟩
   simp only at hk2 hj hcl hs
   have hlen : In.length = out.length + 1 := by rw [← hI, vX]
   cases j with
   | zero =>
    unfold dR at hs
    have hc0 : 0 < c.length := by omega
    simp -implicitDefEqProofs [lb32_0, hlti, hlt, hx, hcl, hc0, aN, w1]
    rw [show (em aN c).set 0 [Tx x] = em aN (c.set 0 x) from tB (enc := aN) (x := x), hs]
    rw [← hlen]
    exact aI (i + 1, v + 1, In) ⟨by omega, hlt, by simp only; omega, hr⟩ (by simp only; omega) (by simp) (aK _)
   | succ j =>
    unfold dR at hs
    have hjc : j < c.length := by omega
    have hjo : j < out.length + 1 := by omega
    have hjo2 : j + 1 < out.length + 1 := by omega
    have hji : (j : Int) < (out.length : Int) + 1 := by omega
    have hji2 : (j : Int) < (out.length : Int) := by omega
    have w3 : ((j + 1 : Nat) : Int) - 1 = j := by omega
    have w4 := aY (x := (j : Int)) (by omega) (by omega)
    obtain ⟨y, hy⟩ : ∃ y, c[j] = y := ⟨_, rfl⟩
    rw [List.getElem?_eq_getElem hjc, hy] at hs
    simp only [Option.getD_some] at hs
    by_cases hg : gtT y x = true
    ·rw [if_pos hg] at hs
     have hg2 : gtB (ByteArray.mk (Array.mk y)) (ByteArray.mk (Array.mk x)) = true := hg
     simp -implicitDefEqProofs [lb32_0, hlti, hlt, hx, hcl, hjc, hjo, hjo2, hji, hji2, hy, hg2, w1, w3, w4, aN]
     refine ⟨by omega, ?_⟩
     rw [show (em aN c).set (j + 1) [Tx y] = em aN (c.set (j + 1) y) from tB (enc := aN) (x := y)]
     exact aI (j, c.set (j + 1) y) ⟨by omega, by simp only; omega, by simp only [List.length_set]; omega, hs⟩ (by simp only; omega) (by simp) (aK _)
    ·rw [if_neg hg] at hs
     have hg2 : gtB (ByteArray.mk (Array.mk y)) (ByteArray.mk (Array.mk x)) = false := by simpa [gtT] using hg
     simp -implicitDefEqProofs [lb32_0, hlti, hlt, hx, hcl, hjc, hjo, hjo2, hji, hji2, hy, hg2, w1, w3, w4, aN]
     refine ⟨by omega, ?_⟩
     rw [show (em aN c).set (j + 1) [Tx x] = em aN (c.set (j + 1) x) from tB (enc := aN) (x := x), hs]
     rw [← hlen]
     exact aI (i + 1, v + 1, In) ⟨by omega, hlt, by simp only; omega, hr⟩ (by simp only; omega) (by simp) (aK _)
 ·have hil : i = l.length := by omega
  subst hil
  rw [List.drop_length] at hr
  unfold cR at hr
  subst hr
  simp -implicitDefEqProofs [lb32_1, frz, look]
  try rw [List.take_of_length_le (by simp)]
def kS (f : Fn) : List (List UInt8) := (f.name :: f.params.map Pm.name) ++ aU f.body
theorem DJ (f : Fn) (hz : size f.body ≤ 2 ^ 37) (hp : f.params.length ≤ 2 ^ 37) : Pure Tryz.prog 12 [.agg [Tx f.name, .sl (em e9 f.params), I f.type, I f.body.op, Tx f.body.name, Tx f.body.tail, I f.body.type, CX f.body.num.re f.body.num.im, .sl (em aP f.body.args), I f.body.at', I f.at']] (.sl (em aN (cR (kS f) []))) := by
 refine fi12.pu (by simp) ?_
 simp -implicitDefEqProofs [ac12]
 refine oL ?_
 refine lpG cf12 lb12_0 [3, 4] (α := Nat × Nat × List (List UInt8)) (fun z _ => [(3, .osl 4 z.2.1 0 z.2.2.length), (4, I z.1)]) (fun z _ => [(4, .arr z.2.1 1 (em aN z.2.2))]) (fun z k => 4 < k ∧ z.1 ≤ f.params.length ∧ z.2.2 = f.name :: (f.params.map Pm.name).take z.1) (fun z => f.params.length - z.1) (0, 0, [f.name]) ⟨by omega, by omega, by simp⟩ (by simp) (by simp [em, aN]) ?_
 rintro ⟨i, v, l⟩ k ⟨hk, hi, hl⟩
 simp only at hk hi hl
 have hll : l.length = i + 1 := by rw [hl]; simp; omega
 by_cases hlt : i < f.params.length
 ·have hlti : (i : Int) < (f.params.length : Int) := by omega
  have w1 := aY (x := (i : Int) + 1) (by omega) (by omega)
  obtain ⟨x, hx⟩ : ∃ x, f.params[i] = x := ⟨_, rfl⟩
  have hnext : l ++ [x.name] = f.name :: (f.params.map Pm.name).take (i + 1) := by
   rw [List.take_add_one, List.getElem?_map, List.getElem?_eq_getElem hlt, hx, hl]; rfl
  have b1 : (l.length + 1) * 16 ≤ 3 * 2 ^ 46 := by omega
  have hap : em aN l ++ [[Tx x.name]] = em aN (l ++ [x.name]) := iW (enc := aN) (x := x.name)
  simp -implicitDefEqProofs [lb12_0, hlti, hlt, hx, b1, hap, w1]
  exact aI (i + 1, v + 1, l ++ [x.name]) ⟨by omega, hlt, hnext⟩ (by simp only; omega) (by simp) (aK _)
 ·have hil : i = f.params.length := by omega
  subst hil
  rw [List.take_of_length_le (by simp)] at hl
  have hwl := eY f.body
  simp -implicitDefEqProofs [lb12_0]
  refine sC (j := 3) (d := .osl 4 v 0 l.length) (d' := .sl (em aN l)) rfl (by simp [frz, look, List.take_of_length_le]) ?_
  simp -implicitDefEqProofs [upd]
  refine aH (s9 f.body (by omega)) (by simp) ?_
  simp -implicitDefEqProofs
  refine aH (AL l (aU f.body) (by omega) (by omega)) (by simp) ?_
  simp -implicitDefEqProofs
  refine aH (uS (l ++ aU f.body) (by rw [List.length_append]; omega)) (by simp) ?_
  have : l ++ aU f.body = kS f := by rw [hl]; rfl
  simp -implicitDefEqProofs [this]
def a_ : List Sn → List (List UInt8)
 | [] => []
 | s :: r => (if s.2 = true then [s.1.name] else []) ++ a_ r
theorem gF : ∀ (a b : List Sn), a_ (a ++ b) = a_ a ++ a_ b
 | [], b => rfl
 | x :: xs, b => by
  show _ ++ a_ (xs ++ b) = _ ++ a_ xs ++ a_ b
  rw [gF xs b, List.append_assoc]
theorem eM : ∀ (a : List Sn), (a_ a).length ≤ a.length
 | [] => by simp [a_]
 | x :: xs => by
  have := eM xs
  unfold a_
  rw [List.length_append]
  split <;> simp <;> omega
def Nd (c : Sm) : Prop := (c.map Prod.fst).Nodup
theorem o9 : ∀ (c : Sm) (n : List UInt8) (v : Int), (dS c n v).map Prod.fst = if n ∈ c.map Prod.fst then c.map Prod.fst else c.map Prod.fst ++ [n]
 | [], n, v => by simp [dS]
 | p :: c, n, v => by
  unfold dS
  by_cases h : p.1 = n
  ·simp [h]
  ·rw [if_neg h]
   have h2 : ¬ n = p.1 := fun e => h e.symm
   simp only [List.map_cons, o9 c n v, List.mem_cons, h2, false_or]
   split <;> simp
theorem Nd.put {c : Sm} (h : Nd c) (n : List UInt8) (v : Int) : Nd (dS c n v) := by
 unfold Nd at h ⊢
 rw [o9]
 split
 ·exact h
 ·rename_i g
  rw [List.nodup_append]
  exact ⟨h, by simp, fun a ha b hb e => by simp at hb; subst hb; subst e; exact g ha⟩
theorem DR (c : Sm) (n x : List UInt8) (v : Int) : x ∈ (dS c n v).map Prod.fst ↔ x = n ∨ x ∈ c.map Prod.fst := by
 rw [o9]
 split
 ·rename_i g
  constructor
  ·exact .inr
  ·rintro (rfl | h)
   ·exact g
   ·exact h
 ·rw [List.mem_append]; simp [or_comm]
structure Cn (c : Sm) (L : List (List UInt8)) : Prop where
 nd : Nd c
 cnt : Rm c L
 mem : ∀ x, x ∈ c.map Prod.fst ↔ x ∈ L
theorem Cn.nil : Cn [] [] := ⟨by simp [Nd], uV, by simp⟩
theorem Cn.inc {c : Sm} {L : List (List UInt8)} (h : Cn c L) (hl : L.length < 2 ^ 62) (n : List UInt8) : Cn (bW c n) (L ++ [n]) :=
 ⟨h.nd.put _ _, h.cnt.inc hl n, fun x => by unfold bW; rw [DR, h.mem, List.mem_append]; simp [or_comm]⟩
mutual
theorem tM : ∀ (e : Ex) (m c : Sm) (N L : List (List UInt8)), Rm m N → Cn c L → N.length + 2 * size e < 2 ^ 60 → L.length + size e < 2 ^ 60 →
  Rm (b8 gW e m c).1 N ∧ Cn (b8 gW e m c).2 (L ++ a_ (cC e N))
 | .mk op n t ty z args p, m, c, N, L, hm, hc, hN, hL => by
  simp only [size] at hN hL
  unfold b8 cC
  rw [gF, ← List.append_assoc]
  have hg : (cE m n = 0) ↔ bA N n = false := by
   rw [hm n]
   have := uN N n
   cases hh : bA N n with
   | true =>
    have := this.1 hh
    exact ⟨fun k => by omega, fun k => by simp at k⟩
   | false =>
    refine ⟨fun _ => rfl, fun _ => ?_⟩
    rw [hh] at this
    have h0 : ¬ 0 < N.count n := fun g => by simpa using this.2 g
    omega
  have hv : Cn (gW (.mk op n t ty z args p) m c) (L ++ a_ (if op = 6 ∨ op = 7 then [(.mk op n t ty z args p, op = 6 && !bA N n)] else [])) := by
   show Cn (if op = 6 ∧ cE m n = 0 then bW c n else c) _
   by_cases h6 : op = 6
   ·by_cases g : bA N n = false
    ·rw [if_pos (show op = 6 ∧ cE m n = 0 from ⟨h6, hg.2 g⟩)]
     simpa [a_, h6, g, Ex.name] using hc.inc (by omega) n
    ·rw [if_neg (show ¬ (op = 6 ∧ cE m n = 0) from fun k => g (hg.1 k.2))]
     have g' : bA N n = true := by simpa using g
     simpa [a_, h6, g', Ex.name] using hc
   ·rw [if_neg (show ¬ (op = 6 ∧ cE m n = 0) from fun k => h6 k.1)]
    by_cases h7 : op = 7
    ·simpa [a_, h6, h7] using hc
    ·simpa [a_, h6, h7] using hc
  have hll : (L ++ a_ (if op = 6 ∨ op = 7 then [(Ex.mk op n t ty z args p, op = 6 && !bA N n)] else [])).length ≤ L.length + 1 := by
   rw [List.length_append]
   have := eM (if op = 6 ∨ op = 7 then [(Ex.mk op n t ty z args p, op = 6 && !bA N n)] else [])
   have h2 : (if op = 6 ∨ op = 7 then [(Ex.mk op n t ty z args p, op = 6 && !bA N n)] else []).length ≤ 1 := by split <;> simp
   omega
  exact rE op n t 0 args m _ N _ hm hv (by omega) (by omega)
theorem rE (op : Int) (n t : List UInt8) (i : Nat) : ∀ (l : List Ex) (m c : Sm) (N L : List (List UInt8)), Rm m N → Cn c L → N.length + 2 + 2 * aS l < 2 ^ 60 → L.length + aS l < 2 ^ 60 →
  Rm (cY gW op n t i l m c).1 N ∧ Cn (cY gW op n t i l m c).2 (L ++ a_ (dL op n t i l N))
 | [], m, c, N, L, hm, hc, _, _ => by
  unfold cY dL
  exact ⟨hm, by simpa [a_] using hc⟩
 | x :: xs, m, c, N, L, hm, hc, hN, hL => by
  have hb := iP op n t i
  simp only [aS] at hN hL
  have hs1 : 1 ≤ size x := by cases x; simp only [size]; omega
  have h1 := tM x _ c (N ++ bK op n t i) L (Rm.incs (bK op n t i) hm (by omega)) hc (by rw [List.length_append]; omega) (by omega)
  have hl1 := eM (cC x (N ++ bK op n t i))
  have hl2 := fL x (N ++ bK op n t i)
  have h2 := rE op n t (i + 1) xs _ _ N _ (Rm.decs (bK op n t i) h1.1 (by omega)) h1.2 (by omega) (by rw [List.length_append]; omega)
  unfold cY dL
  rw [gF, ← List.append_assoc]
  exact h2
end
def nmL (l : List (List UInt8)) : List (List UInt8) := l.filter (fun s => decide (s ≠ []))
theorem Cn.adds : ∀ (l : List (List UInt8)) {c : Sm} {L : List (List UInt8)}, Cn c L → L.length + l.length < 2 ^ 62 → Cn (l.foldl lP c) (L ++ nmL l)
 | [], c, L, h, _ => by simpa [nmL] using h
 | s :: l, c, L, h, hl => by
  simp only [List.length_cons] at hl
  simp only [List.foldl_cons]
  by_cases e : s = []
  ·rw [show lP c s = c by unfold lP; rw [if_pos e]]
   have := Cn.adds l h (by omega)
   simpa [nmL, e] using this
  ·rw [show lP c s = bW c s by unfold lP; rw [if_neg e]]
   have := Cn.adds l (h.inc (by omega) s) (by rw [List.length_append]; simp; omega)
   simpa [nmL, e] using this
mutual
theorem tN : ∀ (e : Ex) (m c : Sm) (N L : List (List UInt8)), Rm m N → Cn c L → N.length + 2 * size e < 2 ^ 60 → L.length + 2 * size e < 2 ^ 60 →
  Rm (b8 eX e m c).1 N ∧ Cn (b8 eX e m c).2 (L ++ aU e)
 | .mk op n t ty z args p, m, c, N, L, hm, hc, hN, hL => by
  simp only [size] at hN hL
  unfold b8 aU
  rw [← List.append_assoc]
  have hv : Cn (eX (.mk op n t ty z args p) m c) (L ++ ((if n = [] then [] else [n]) ++ (if t = [] then [] else [t]))) := by
   have h := Cn.adds [n, t] hc (by simp; omega)
   have e : nmL [n, t] = (if n = [] then [] else [n]) ++ (if t = [] then [] else [t]) := by
    unfold nmL
    by_cases h1 : n = [] <;> by_cases h2 : t = [] <;> simp [h1, h2]
   rw [e] at h
   exact h
  have hll : (L ++ ((if n = [] then [] else [n]) ++ (if t = [] then [] else [t]))).length ≤ L.length + 2 := by
   rw [List.length_append, List.length_append]
   split <;> split <;> simp
  exact rQ op n t 0 args m _ N _ hm hv (by omega) (by omega)
theorem rQ (op : Int) (n t : List UInt8) (i : Nat) : ∀ (l : List Ex) (m c : Sm) (N L : List (List UInt8)), Rm m N → Cn c L → N.length + 2 + 2 * aS l < 2 ^ 60 → L.length + 2 * aS l < 2 ^ 60 →
  Rm (cY eX op n t i l m c).1 N ∧ Cn (cY eX op n t i l m c).2 (L ++ a8 l)
 | [], m, c, N, L, hm, hc, _, _ => by
  unfold cY a8
  exact ⟨hm, by simpa using hc⟩
 | x :: xs, m, c, N, L, hm, hc, hN, hL => by
  have hb := iP op n t i
  simp only [aS] at hN hL
  have hs1 : 1 ≤ size x := by cases x; simp only [size]; omega
  have h1 := tN x _ c (N ++ bK op n t i) L (Rm.incs (bK op n t i) hm (by omega)) hc (by rw [List.length_append]; omega) (by omega)
  have hl1 := eY x
  have h2 := rQ op n t (i + 1) xs _ _ N _ (Rm.decs (bK op n t i) h1.1 (by omega)) h1.2 (by omega) (by rw [List.length_append]; omega)
  unfold cY a8
  rw [← List.append_assoc]
  exact h2
end
theorem wN (a b : List UInt8) : gtT a b = true ↔ ¬ (a < b ∨ a = b) := by
 have e : ∀ l : List UInt8, (ByteArray.mk (Array.mk l)).toList = l := fun l => by simp
 unfold gtT gtB
 rw [e, e, bytesLess_eq]
 simp
theorem gtT_le {a b : List UInt8} (h : gtT a b = true) : b ≤ a := by
 rw [wN] at h
 exact List.not_lt.1 fun g => h (.inl g)
theorem DN {a b : List UInt8} (h : ¬ gtT a b = true) : a ≤ b := by
 rw [wN] at h
 have h : a < b ∨ a = b := Decidable.byContradiction h
 rcases h with h | h
 ·exact List.le_of_lt h
 ·rw [h]; exact List.le_refl b
theorem oP (s : List UInt8) (out : List (List UInt8)) : ∀ (k : Nat) (x : List UInt8), k ≤ out.length → ∃ j, j ≤ k ∧ dR s (out.take k ++ x :: out.drop k) k = out.take j ++ s :: out.drop j ∧ (∀ i y, j ≤ i → i < k → out[i]? = some y → s ≤ y) ∧ (∀ y, 0 < j → out[j - 1]? = some y → y ≤ s)
 | 0, x, _ => ⟨0, Nat.le_refl _, by simp [dR], fun i y h1 h2 => by omega, fun y h => by omega⟩
 | k + 1, x, h => by
  have hk : k < out.length := by omega
  have htl : (out.take (k + 1)).length = k + 1 := by rw [List.length_take]; omega
  have hl : (out.take (k + 1) ++ x :: out.drop (k + 1))[k]? = some out[k] := by
   rw [List.getElem?_append_left (by omega), List.getElem?_take, if_pos (by omega), List.getElem?_eq_getElem hk]
  have hset : ∀ z, (out.take (k + 1) ++ x :: out.drop (k + 1)).set (k + 1) z = out.take (k + 1) ++ z :: out.drop (k + 1) := fun z => by
   rw [List.set_append_right _ _ (by omega), htl, Nat.sub_self, List.set_cons_zero]
  unfold dR
  rw [hl]
  simp only [Option.getD_some]
  by_cases g : gtT out[k] s = true
  ·rw [if_pos g, hset]
   have e : out.take (k + 1) ++ out[k] :: out.drop (k + 1) = out.take k ++ out[k] :: out.drop k := by
    rw [List.drop_eq_getElem_cons hk, List.take_add_one, List.getElem?_eq_getElem hk, List.append_assoc]; rfl
   rw [e]
   obtain ⟨j, h1, h2, h3, h4⟩ := oP s out k out[k] (by omega)
   refine ⟨j, by omega, h2, fun i y hi hi2 hy => ?_, h4⟩
   by_cases e2 : i = k
   ·subst e2
    rw [List.getElem?_eq_getElem hk, Option.some.injEq] at hy
    subst hy; exact gtT_le g
   ·exact h3 i y hi (by omega) hy
  ·rw [if_neg g, hset]
   refine ⟨k + 1, Nat.le_refl _, rfl, fun i y h1 h2 => by omega, fun y _ hy => ?_⟩
   rw [Nat.add_sub_cancel, List.getElem?_eq_getElem hk, Option.some.injEq] at hy
   subst hy; exact DN g
abbrev Srt (l : List (List UInt8)) : Prop := l.Pairwise (fun a b => a ≤ b)
theorem yZ (out : List (List UInt8)) (s : List UInt8) : ∃ j, i7 out s = out.take j ++ s :: out.drop j ∧ (Srt out → Srt (i7 out s)) := by
 obtain ⟨j, h1, h2, h3, h4⟩ := oP s out out.length s (Nat.le_refl _)
 rw [List.take_length, List.drop_length] at h2
 have hi : i7 out s = out.take j ++ s :: out.drop j := h2
 refine ⟨j, hi, fun hs => ?_⟩
 rw [hi]
 have hs2 : Srt (out.take j ++ out.drop j) := by rw [List.take_append_drop]; exact hs
 obtain ⟨a1, a2, a3⟩ := List.pairwise_append.1 hs2
 have hlow : ∀ a ∈ out.take j, a ≤ s := fun a ha => by
  obtain ⟨i, hi2⟩ := List.mem_iff_getElem?.1 ha
  rw [List.getElem?_take] at hi2
  split at hi2
  ·rename_i hij
   obtain ⟨y, hy⟩ : ∃ y, out[j - 1]? = some y := by
    have : j - 1 < out.length := by omega
    exact ⟨_, List.getElem?_eq_getElem this⟩
   have hy2 := h4 y (by omega) hy
   by_cases e : i = j - 1
   ·subst e; rw [hy, Option.some.injEq] at hi2; subst hi2; exact hy2
   ·have hlt : i < j - 1 := by omega
    have hil := (List.getElem?_eq_some_iff.1 hi2)
    have hjl := (List.getElem?_eq_some_iff.1 hy)
    obtain ⟨b1, b2⟩ := hil
    obtain ⟨c1, c2⟩ := hjl
    have := List.pairwise_iff_getElem.1 hs i (j - 1) b1 c1 hlt
    rw [b2, c2] at this
    exact List.le_trans this hy2
  ·simp at hi2
 have hhigh : ∀ a ∈ out.drop j, s ≤ a := fun a ha => by
  obtain ⟨i, hi2⟩ := List.mem_iff_getElem?.1 ha
  rw [List.getElem?_drop] at hi2
  exact h3 (j + i) a (by omega) (List.getElem?_eq_some_iff.1 hi2).1 hi2
 refine List.pairwise_append.2 ⟨a1, List.pairwise_cons.2 ⟨hhigh, a2⟩, fun a ha b hb => ?_⟩
 rcases List.mem_cons.1 hb with rfl | hb
 ·exact hlow a ha
 ·exact a3 a ha b hb
theorem lY : ∀ (l out : List (List UInt8)), Srt out → out.Nodup → Srt (cR l out) ∧ (cR l out).Nodup
 | [], out, h, k => ⟨h, k⟩
 | x :: xs, out, h, k => by
  unfold cR
  by_cases g : bA out x = true
  ·rw [if_pos g]; exact lY xs out h k
  ·rw [if_neg g]
   obtain ⟨j, h1, h2⟩ := yZ out x
   refine lY xs _ (h2 h) ?_
   have hn : x ∉ out := fun m => g ((g_ out x).2 m)
   have hp : (out.take j ++ x :: out.drop j).Perm (x :: out) := by
    have := List.perm_middle (a := x) (l₁ := out.take j) (l₂ := out.drop j)
    rw [List.take_append_drop] at this; exact this
   rw [h1]
   exact hp.symm.nodup (List.nodup_cons.2 ⟨hn, k⟩)
theorem zS {a b : List (List UInt8)} (ha : Srt a) (hb : Srt b) (na : a.Nodup) (nb : b.Nodup) (h : ∀ x, x ∈ a ↔ x ∈ b) : a = b :=
 List.Perm.eq_of_pairwise (le := fun a b => a ≤ b) (fun a b _ _ h1 h2 => List.le_antisymm h1 h2) ha hb ((List.perm_ext_iff_of_nodup na nb).2 h)
theorem rM {c : Sm} {L : List (List UInt8)} (h : Cn c L) : ((c.map Prod.fst).mergeSort fun x y => decide (x ≤ y)) = cR L [] := by
 obtain ⟨h1, h2⟩ := lY L [] (by simp) (by simp)
 have hp := List.mergeSort_perm (c.map Prod.fst) (fun x y => decide (x ≤ y))
 have tr : ∀ a b c : List UInt8, decide (a ≤ b) = true → decide (b ≤ c) = true → decide (a ≤ c) = true := fun a b c h1 h2 => by simp only [decide_eq_true_eq] at *; exact List.le_trans h1 h2
 have to : ∀ a b : List UInt8, (decide (a ≤ b) || decide (b ≤ a)) = true := fun a b => by simp only [Bool.or_eq_true, decide_eq_true_eq]; exact List.le_total a b
 have hs : Srt ((c.map Prod.fst).mergeSort fun x y => decide (x ≤ y)) := by
  have := List.pairwise_mergeSort tr to (c.map Prod.fst)
  simpa using this
 refine zS hs h1 (hp.symm.nodup h.nd) h2 fun x => ?_
 rw [hp.mem_iff, h.mem, oZ]
 simp
abbrev sB (n : List UInt8) : Prop := n.length ≤ 32768
mutual
/-- All names in it are short. -/
def Nb : Ex → Prop
 | .mk _ n t _ _ args _ => (sB n ∧ sB t) ∧ Nbs args
def Nbs : List Ex → Prop
 | [] => True
 | e :: es => Nb e ∧ Nbs es
end
def BMs (ms : List Mk) : Prop := ∀ m ∈ ms, sB m.text
theorem fY : sB [] := by simp [sB]
theorem tF {t : List UInt8} (h : sB t) (p n : Nat) : sB (seg t p n) := by
 unfold sB seg at *
 rw [List.length_drop, List.length_take]; omega
theorem sB_one {t : List UInt8} (h : sB t) (p : Nat) : sB (eC t p).1.text := by
 unfold eC
 split
 ·exact tF h _ _
 ·split
  ·exact tF h _ _
  ·split <;> exact tF h _ _
theorem lQ : ∀ (f : Nat) (t : List UInt8) (p : Nat) (out : List Mk), sB t → BMs out → BMs (cF f t p out).1
 | 0, t, p, out, ht, h => by intro m hm; simp [cF] at hm
 | f + 1, t, p, out, ht, h => by
  have happ : ∀ m : Mk, sB m.text → BMs (out ++ [m]) := fun m hm x hx => by
   rw [List.mem_append, List.mem_singleton] at hx
   rcases hx with hx | rfl
   ·exact h x hx
   ·exact hm
  unfold cF
  split
  ·split
   ·exact lQ f _ _ _ ht h
   ·split
    ·exact lQ f _ _ _ ht h
    ·split
     ·exact lQ f _ _ _ ht (happ _ (sB_one ht p))
     ·intro m hm; simp at hm
  ·exact happ _ fY
theorem xY {r : Rd} (h : BMs r.ms) : sB r.next.text := by
 unfold Rd.next
 by_cases hi : r.at' < r.ms.length
 ·rw [List.getElem?_eq_getElem hi]; exact h _ (List.getElem_mem hi)
 ·rw [List.getElem?_eq_none (by omega)]; exact fY
theorem nK {r : Rd} (h : BMs r.ms) : sB r.name.1.text := by
 unfold Rd.name
 split
 ·exact fY
 ·exact xY h
namespace Rd
theorem fail_ms {r : Rd} {w : Int} : (r.fail w).ms = r.ms := by unfold fail; split <;> rfl
theorem want_ms {r : Rd} {s : List UInt8} : (r.want s).ms = r.ms := by
 unfold want; split
 ·rfl
 ·exact fail_ms
theorem name_ms {r : Rd} : r.name.2.ms = r.ms := by
 unfold name; split
 ·exact fail_ms
 ·rfl
theorem typ_ms {r : Rd} : r.typ.2.ms = r.ms := by
 unfold typ
 split
 ·rfl
 ·split
  ·rfl
  ·split
   ·rfl
   ·exact fail_ms
end Rd
def Gr {α : Type} (p : α → Prop) (ms : List Mk) (o : Option (α × Rd)) : Prop := ∀ x, o = some x → p x.1 ∧ x.2.ms = ms
theorem dH {α : Type} {p : α → Prop} {ms : List Mk} : Gr p ms none := fun x h => by simp at h
theorem cJ {α : Type} {p : α → Prop} {ms : List Mk} {a : α} {q : Rd} (h : p a) (h2 : q.ms = ms) : Gr p ms (some (a, q)) := fun x hx => by
 simp only [Option.some.injEq] at hx
 subst hx
 exact ⟨h, h2⟩
theorem dW {α β : Type} {p : α → Prop} {p2 : β → Prop} {ms : List Mk} {o : Option (α × Rd)} {f : α × Rd → Option (β × Rd)} (h : Gr p ms o) (h2 : ∀ a q, p a → q.ms = ms → Gr p2 ms (f (a, q))) : Gr p2 ms (o.bind f) := fun x hx => by
 cases o with
 | none => simp at hx
 | some y => exact h2 y.1 y.2 (h y rfl).1 (h y rfl).2 x hx
theorem fN {α β : Type} {p : α → Prop} {p2 : β → Prop} {ms : List Mk} {o : Option (α × Rd)} {f : α × Rd → β × Rd} (h : Gr p ms o) (h2 : ∀ a q, p a → q.ms = ms → p2 (f (a, q)).1 ∧ (f (a, q)).2.ms = ms) : Gr p2 ms (o.map f) := fun x hx => by
 cases o with
 | none => simp at hx
 | some y =>
  simp only [Option.map_some, Option.some.injEq] at hx
  subst hx
  exact h2 y.1 y.2 (h y rfl).1 (h y rfl).2
theorem vT : ∀ {l k : List Ex}, Nbs l → Nbs k → Nbs (l ++ k)
 | [], _, _, h => h
 | e :: es, k, h, g => by
  unfold Nbs at h
  show Nbs (e :: (es ++ k))
  unfold Nbs
  exact ⟨h.1, vT h.2 g⟩
theorem nZ {e : Ex} (h : Nb e) : Nbs [e] := by unfold Nbs Nbs; exact ⟨h, trivial⟩
theorem tZ {op : Int} {a b : Ex} {m : Mk} (ha : Nb a) (hb : Nb b) : Nb (two op a b m) := by
 unfold two Nb Nbs
 exact ⟨⟨fY, fY⟩, ha, nZ hb⟩
theorem pO {op ty p : Int} {n t : List UInt8} {z : Cx} {l : List Ex} (hn : sB n) (ht : sB t) (h : Nbs l) : Nb (.mk op n t ty z l p) := by
 unfold Nb; exact ⟨⟨hn, ht⟩, h⟩
theorem lG {op ty p : Int} {z : Cx} {l : List Ex} (h : Nbs l) : Nb (.mk op [] [] ty z l p) := pO fY fY h
theorem hZ : Nbs [] := by unfold Nbs; trivial
theorem Nb_0 : Nb ex0 := lG hZ
structure Bnd (n : Nat) (ms : List Mk) : Prop where
 expr : ∀ r, r.ms = ms → Gr Nb ms (aZ n r)
 cons : ∀ r, r.ms = ms → Gr Nb ms (eD n r)
 comp : ∀ r, r.ms = ms → Gr Nb ms (eF n r)
 sum : ∀ r, r.ms = ms → Gr Nb ms (fE n r)
 sumL : ∀ a r, Nb a → r.ms = ms → Gr Nb ms (d9 n a r)
 term : ∀ r, r.ms = ms → Gr Nb ms (cI n r)
 termL : ∀ a r, Nb a → r.ms = ms → Gr Nb ms (dC n a r)
 unit : ∀ r, r.ms = ms → Gr Nb ms (cK n r)
 named : ∀ m r, sB m.text → r.ms = ms → Gr Nb ms (d8 n m r)
 namedL : ∀ l r, Nbs l → r.ms = ms → Gr Nbs ms (cS n l r)
 parts : ∀ ss r, r.ms = ms → Gr Nbs ms (bE n ss r)
 branches : ∀ r p, r.ms = ms → Gr Nb ms (cG n r p)
theorem wG {ms : List Mk} (hms : BMs ms) : ∀ n, Bnd n ms
 | 0 => ⟨fun _ _ => by unfold aZ; exact dH, fun _ _ => by unfold eD; exact dH, fun _ _ => by unfold eF; exact dH, fun _ _ => by unfold fE; exact dH, fun _ _ _ _ => by unfold d9; exact dH, fun _ _ => by unfold cI; exact dH, fun _ _ _ _ => by unfold dC; exact dH, fun _ _ => by unfold cK; exact dH, fun _ _ _ _ => by unfold d8; exact dH, fun _ _ _ _ => by unfold cS; exact dH, fun ss _ _ => by cases ss <;> (unfold bE; exact dH), fun _ _ _ => by unfold cG; exact dH⟩
 | n + 1 => by
  have ih := wG hms n
  have two' : ∀ {op : Int} {a b : Ex} {m : Mk} {q : Rd}, Nb a → Nb b → q.ms = ms → Nb (two op a b m, q).1 ∧ (two op a b m, q).2.ms = ms := fun ha hb hq => ⟨tZ ha hb, hq⟩
  refine ⟨fun r hr => ?_, fun r hr => ?_, fun r hr => ?_, fun r hr => ?_, fun a r ha hr => ?_, fun r hr => ?_, fun a r ha hr => ?_, fun r hr => ?_, fun m r hm hr => ?_, fun l r hl hr => ?_, fun ss r hr => ?_, fun r p hr => ?_⟩
  ·unfold aZ
   have h1 : (if (binds r && decide (r.lN ≤ r.nest)) = true then r.fail 23 else r).ms = ms := by
    split
    ·rw [Rd.fail_ms]; exact hr
    ·exact hr
   dsimp only
   generalize (if (binds r && decide (r.lN ≤ r.nest)) = true then r.fail 23 else r) = r1 at *
   have h2 : (if binds r = true then { r1 with nest := r1.nest + 1 } else r1).adv.ms = ms := by
    split <;> exact h1
   generalize (if binds r = true then { r1 with nest := r1.nest + 1 } else r1).adv = r2 at *
   split
   ·exact cJ Nb_0 h1
   ·split
    ·exact ih.cons _ h1
    ·refine fN (p := Nb) ?_ (fun e q he hq => ⟨he, by dsimp only; split <;> exact hq⟩)
     split
     ·exact fN (ih.parts _ _ h2) (fun l q hl hq => ⟨lG hl, hq⟩)
     ·split
      ·exact ih.branches _ _ h2
      ·exact fN (ih.parts _ _ (by rw [Rd.typ_ms, Rd.name_ms]; exact h2)) (fun l q hl hq => ⟨pO (nK (by rw [h2]; exact hms)) fY hl, hq⟩)
  ·unfold eD
   refine dW (ih.comp r hr) (fun a q ha hq => ?_)
   dsimp only
   split
   ·exact fN (ih.cons _ hq) (fun b q2 hb hq2 => two' ha hb hq2)
   ·exact cJ ha hq
  ·unfold eF
   refine dW (ih.sum r hr) (fun a q ha hq => ?_)
   dsimp only
   split
   ·exact fN (ih.sum _ hq) (fun b q2 hb hq2 => two' ha hb hq2)
   ·exact cJ ha hq
  ·unfold fE
   exact dW (ih.term r hr) (fun a q ha hq => ih.sumL _ _ ha hq)
  ·unfold d9
   split
   ·exact dW (ih.term _ hr) (fun b q hb hq => ih.sumL _ _ (tZ ha hb) hq)
   ·exact cJ ha hr
  ·unfold cI
   exact dW (ih.unit r hr) (fun a q ha hq => ih.termL _ _ ha hq)
  ·unfold dC
   split
   ·exact dW (ih.unit _ hr) (fun b q hb hq => ih.termL _ _ (tZ ha hb) hq)
   ·exact cJ ha hr
  ·unfold cK
   split
   ·exact cJ Nb_0 hr
   ·split
    ·exact cJ (lG hZ) hr
    ·split
     ·exact ih.named _ _ (xY (by rw [hr]; exact hms)) hr
     ·split
      ·exact fN (ih.expr _ hr) (fun e q he hq => ⟨he, by rw [Rd.want_ms]; exact hq⟩)
      ·split
       ·exact cJ Nb_0 (by rw [Rd.fail_ms]; exact hr)
       ·split
        ·exact cJ (lG hZ) (by rw [Rd.typ_ms]; exact hr)
        ·split
         ·exact fN (ih.expr _ (by rw [Rd.want_ms]; exact hr)) (fun e q he hq => ⟨lG (nZ he), by rw [Rd.want_ms]; exact hq⟩)
         ·exact cJ (lG hZ) hr
  ·unfold d8
   split
   ·exact fN (ih.namedL _ _ hZ hr) (fun l q hl hq => ⟨pO hm fY hl, by rw [Rd.want_ms]; exact hq⟩)
   ·exact cJ (pO hm fY hZ) hr
  ·unfold cS
   split
   ·refine dW (ih.expr _ ?_) (fun x q hx hq => ih.namedL _ _ (vT hl (nZ hx)) hq)
    split
    ·exact hr
    ·rw [Rd.want_ms]; exact hr
   ·exact cJ hl hr
  ·cases ss with
   | nil => unfold bE; exact cJ hZ hr
   | cons s ss =>
    unfold bE
    refine dW (ih.expr _ ?_) (fun x q hx hq => fN (ih.parts _ _ hq) (fun l q2 hl hq2 => ⟨?_, hq2⟩))
    ·split
     ·exact hr
     ·rw [Rd.want_ms]; exact hr
    ·dsimp only; unfold Nbs; exact ⟨hx, hl⟩
  ·unfold cG
   refine dW (ih.expr r hr) (fun x q hx hq => dW (ih.expr _ (by rw [Rd.want_ms, Rd.want_ms, Rd.want_ms]; exact hq)) (fun a q2 ha hq2 => ?_))
   dsimp only
   refine fN (ih.expr _ (by rw [Rd.want_ms, Rd.name_ms, Rd.want_ms, Rd.name_ms, Rd.want_ms]; exact hq2)) (fun b q3 hb hq3 => ⟨pO (nK (by rw [Rd.want_ms, hq2]; exact hms)) (nK (by rw [Rd.want_ms, Rd.name_ms, Rd.want_ms, hq2]; exact hms)) ?_, hq3⟩)
   unfold Nbs Nbs
   exact ⟨hx, ha, nZ hb⟩
theorem uG {ms : List Mk} (hms : BMs ms) : ∀ n l r, (∀ p ∈ l, sB p.name) → r.ms = ms → Gr (fun ps => ∀ p ∈ ps, sB p.name) ms (bY n l r)
 | 0, l, r, hl, h => by unfold bY; exact dH
 | n + 1, l, r, hl, h => by
  have hpw : (pf (pw r l) l).ms = ms := by
   unfold pf pw
   repeat' split
   all_goals first | exact h | (simp only [Rd.fail_ms, Rd.want_ms]; exact h)
  unfold bY
  split
  ·refine uG hms n _ _ (fun p hp => ?_) ?_
   ·rw [List.mem_append, List.mem_singleton] at hp
    rcases hp with hp | rfl
    ·exact hl p hp
    ·exact nK (by rw [hpw]; exact hms)
   ·rw [Rd.typ_ms, Rd.name_ms]; exact hpw
  ·exact cJ hl h
structure NbFn (f : Fn) : Prop where
 name : sB f.name
 pars : ∀ p ∈ f.params, sB p.name
 body : Nb f.body
theorem def_b {ms : List Mk} (hms : BMs ms) {n : Nat} {r : Rd} {c : Nat} (h : r.ms = ms) : Gr NbFn ms (i9 n r c) := by
 have hdf : (df r c).ms = ms := by
  unfold df
  split
  ·rw [Rd.fail_ms]; exact h
  ·exact h
 unfold i9
 refine dW (uG hms n _ _ (fun p hp => by simp at hp) (by rw [Rd.want_ms, Rd.name_ms]; exact hdf)) (fun ps q hps hq => fN ((wG hms n).expr _ (by rw [Rd.want_ms, Rd.typ_ms, Rd.want_ms, Rd.want_ms]; exact hq)) (fun b q2 hb hq2 => ⟨⟨nK (by rw [hdf]; exact hms), hps, hb⟩, by rw [Rd.want_ms]; exact hq2⟩))
def NbF (L : List Fn) : Prop := ∀ f ∈ L, NbFn f
theorem yQ {ms : List Mk} (hms : BMs ms) : ∀ n l r, NbF l → r.ms = ms → Gr NbF ms (cV n l r)
 | 0, l, r, hl, h => by unfold cV; exact dH
 | n + 1, l, r, hl, h => by
  unfold cV
  split
  ·refine dW (def_b hms h) (fun f q hf hq => yQ hms n _ _ (fun g hg => ?_) hq)
   rw [List.mem_append, List.mem_singleton] at hg
   rcases hg with hg | rfl
   ·exact hl g hg
   ·exact hf
  ·exact cJ hl h
def Run (t : List UInt8) (L : List Fn) : Prop := L = [] ∨ ∃ n r q, cV n [] r = some (L, q) ∧ r.ms = (cH t).1 ∧ t.length ≤ 32768
theorem A_ (t : List UInt8) (ht : t.length < 2 ^ 48) : ∃ L w p, nA t L w p ∧ Run t L := by
 by_cases h1 : 32768 < t.length
 ·exact ⟨[], 22, 32768, ⟨x8 t ht h1, fun h => absurd h (by decide), fun _ => rfl⟩, .inl rfl⟩
 ·by_cases h2 : (cH t).2 < 0
  ·have hk := sJ (t := t) (lt := 32768) (lF := 32768) (lA := 32768) (lN := 32768) (by omega) h2 (by decide)
   obtain ⟨L, q, hq, kq⟩ := zO hk
   have hc := tC t (by omega) h2 (by decide) hq
   by_cases h3 : q.why = 0
   ·rw [if_pos h3] at hc
    have hrun : Run t L := .inr ⟨_, _, q, hq, rfl, by omega⟩
    obtain ⟨g1, g2, k, g3, g4, g5⟩ := rT _ _ _ L q hq h3
    simp only [List.nil_append] at g3
    subst g3
    refine ⟨L, 0, 0, ⟨hc, fun _ => ⟨(cH t).1, 0, q.at', hk.ms, hk.len, ?_, ?_, g4, g5 rfl⟩, fun h => absurd rfl h⟩, hrun⟩
    ·exact eW _ t 0 [] (by omega) (fun i j _ h => by simp at h) (fun i h => by simp at h) h2
    ·have := kq.lt
     rw [g2] at this; exact this
   ·rw [if_neg h3] at hc
    exact ⟨[], q.why, q.wh, ⟨hc, fun h => absurd h h3, fun _ => rfl⟩, .inl rfl⟩
  ·have hc := zC t (by omega) h2
   refine ⟨[], 20, (cH t).2, ⟨hc, fun h => absurd h (by decide), fun _ => rfl⟩, .inl rfl⟩
theorem Run.nb {t : List UInt8} {L : List Fn} (h : Run t L) : NbF L := by
 rcases h with rfl | ⟨n, r, q, h, hr, ht⟩
 ·exact fun f hf => by simp at hf
 ·exact (yQ (ms := (cH t).1) (lQ _ t 0 [] ht (fun m hm => by simp at hm)) _ _ _ (fun f hf => by simp at hf) hr _ h).1
theorem vP {x : Ex} : ∀ {l : List Ex}, Nbs l → x ∈ l → Nb x
 | [], _, h => by simp at h
 | e :: es, h, hx => by
  unfold Nbs at h
  rcases List.mem_cons.1 hx with rfl | hx
  ·exact h.1
  ·exact vP h.2 hx
open Go Go.Fx Go.Proofs Go.Fx.Flt
mutual
theorem yO : ∀ (e : Ex) (N : List (List UInt8)), Nb e → ∀ x ∈ a_ (cC e N), sB x
 | .mk op n t ty z args p, N, h => by
  unfold Nb at h
  unfold cC
  rw [gF]
  intro x hx
  rcases List.mem_append.1 hx with hx | hx
  ·split at hx
   ·unfold a_ at hx
    split at hx
    ·simp only [a_, List.append_nil, List.mem_singleton, Ex.name] at hx
     rw [hx]; exact h.1.1
    ·simp [a_] at hx
   ·simp [a_] at hx
  ·exact vU op n t 0 args N h.2 x hx
theorem vU (op : Int) (n t : List UInt8) (i : Nat) : ∀ (l : List Ex) (N : List (List UInt8)), Nbs l → ∀ x ∈ a_ (dL op n t i l N), sB x
 | [], N, _ => by intro x hx; simp [dL, a_] at hx
 | e :: es, N, h => by
  unfold Nbs at h
  unfold dL
  rw [gF]
  intro x hx
  rcases List.mem_append.1 hx with hx | hx
  ·exact yO e _ h.1 x hx
  ·exact vU op n t (i + 1) es N h.2 x hx
end
mutual
theorem tR : ∀ (e : Ex), Nb e → ∀ x ∈ aU e, sB x
 | .mk op n t ty z args p, h => by
  unfold Nb at h
  unfold aU
  intro x hx
  rcases List.mem_append.1 hx with hx | hx
  ·rcases List.mem_append.1 hx with hx | hx
   ·split at hx
    ·simp at hx
    ·simp only [List.mem_singleton] at hx; rw [hx]; exact h.1.1
   ·split at hx
    ·simp at hx
    ·simp only [List.mem_singleton] at hx; rw [hx]; exact h.1.2
  ·exact rY args h.2 x hx
theorem rY : ∀ (l : List Ex), Nbs l → ∀ x ∈ a8 l, sB x
 | [], _ => by intro x hx; simp [a8] at hx
 | e :: es, h => by
  unfold Nbs at h
  unfold a8
  intro x hx
  rcases List.mem_append.1 hx with hx | hx
  ·exact tR e h.1 x hx
  ·exact rY es h.2 x hx
end
def pY (e : Ex) : Sm := (b8 gW e [] []).2
theorem tT (e : Ex) (hz : size e ≤ 2 ^ 40) : Cn (pY e) (a_ (cC e [])) := by
 have h := (tM e [] [] [] [] uV Cn.nil (by simp; omega) (by simp; omega)).2
 rw [List.nil_append] at h
 exact h
theorem m_ : ∀ (a b : List (List UInt8)), a.Nodup → (∀ x ∈ a, x ∈ b) → a.length ≤ b.length
 | [], b, _, _ => by simp
 | x :: xs, b, h, hs => by
  obtain ⟨h1, h2⟩ := List.nodup_cons.1 h
  have hx : x ∈ b := hs x (by simp)
  have := m_ xs (b.erase x) h2 (fun y hy => (List.mem_erase_of_ne (fun e : y = x => h1 (e ▸ hy))).2 (hs y (by simp [hy])))
  rw [List.length_erase_of_mem hx] at this
  have : 0 < b.length := List.length_pos_of_mem hx
  simp only [List.length_cons]; omega
theorem Cn.len {c : Sm} {L : List (List UInt8)} (h : Cn c L) : c.length ≤ L.length := by
 have h1 : (c.map Prod.fst).length ≤ L.length := m_ _ _ h.nd (fun x hx => (h.mem x).1 hx)
 simpa using h1
theorem Cn.key {c : Sm} {L : List (List UInt8)} (h : Cn c L) (hb : ∀ x ∈ L, sB x) : ∀ p ∈ c, p.1.length ≤ maxLen := fun p hp => by
 have := hb p.1 ((h.mem p.1).1 (List.mem_map.2 ⟨p, hp, rfl⟩))
 have e : maxLen = 2 ^ 63 - 1 := rfl
 unfold sB at this; omega
theorem zP (e : Ex) (hz : size e ≤ 2 ^ 40) {mem : Mem} {nx : Nat} {K : KD} (hk : ∀ id n', nx ≤ id → id < n' → K (.omap id) ((id, .map (aW (pY e))) :: mem) n') : bM Tryz.prog 39 [.agg (aP e)] mem nx K := by
 refine fi39.ct (by simp) fun hfr => ?_
 have hw := qP DH e
 unfold WC2 at hw
 simp only [aA] at hw ⊢
 have z1 : (nx + 2 + 1 = nx) = False := eq_false (by omega)
 have z2 : (nx + 2 = nx) = False := eq_false (by omega)
 have z3 : (nx + 2 + 3 + 1 = nx) = False := eq_false (by omega)
 have z4 : (nx + 2 + 3 + 1 = nx + 2) = False := eq_false (by omega)
 have z5 : (nx + 2 + 3 + 1 = nx + 2 + 1) = False := eq_false (by omega)
 have z6 : (nx + 2 + 1 = nx + 2) = False := eq_false (by omega)
 have z7 : (nx + 2 = nx + 2 + 1) = False := eq_false (by omega)
 have z8 : (nx = nx + 2) = False := eq_false (by omega)
 have z9 : (nx = nx + 2 + 3 + 1) = False := eq_false (by omega)
 simp -implicitDefEqProofs [ac39, z1, z2, z3]
 refine aD (hw (mid := nx + 2 + 3 + 1) (cid := nx + 2) (b := nx + 2 + 1) (m := []) (c := []) ⟨?_, ?_, ?_, by omega, by omega, by omega, by omega, by omega, by omega⟩ hz (fun n3 hn3 => ?_))
 ·simp [look, aW]
 ·simp [look, aW, z5, z4, z6]
 ·simp [look, z5]
 ·have hup : bN ((nx + 2 + 3 + 1, Blk.map []) :: (nx + 2 + 1, Blk.box [D.omap (nx + 2)]) :: (nx + 2, Blk.map []) :: (nx, Blk.box [I e.op, Tx e.name, Tx e.tail, I e.type, CX e.num.re e.num.im, D.sl (em aP e.args), I e.at']) :: mem) (nx + 2 + 3 + 1) (nx + 2) (b8 gW e [] []).1 (b8 gW e [] []).2 = (nx + 2 + 3 + 1, Blk.map (aW (b8 gW e [] []).1)) :: (nx + 2 + 1, Blk.box [D.omap (nx + 2)]) :: (nx + 2, Blk.map (aW (pY e))) :: (nx, Blk.box [I e.op, Tx e.name, Tx e.tail, I e.type, CX e.num.re e.num.im, D.sl (em aP e.args), I e.at']) :: mem := by
   unfold bN pY
   simp only [upd, z4, z5, z6, if_false, if_true]
  rw [hup]
  simp -implicitDefEqProofs [z1, z2, z3, z4, z5, z6, z7]
  refine ⟨(nx + 2, .map (aW (pY e))) :: mem, fun i b hb => ?_, hk (nx + 2) _ (by omega) (by omega)⟩
  rw [a6] at hb
  split at hb
  ·rename_i g; subst g
   simpa only [a6, z5, z4, z6, if_false, if_true] using hb
  ·rename_i g
   have hi : i < nx := by
    rcases Nat.lt_or_ge i nx with h | h
    ·exact h
    ·rw [hfr i h] at hb; simp at hb
   simp only [a6]
   rw [if_neg (by omega), if_neg (by omega), if_neg (by omega), if_neg (by omega)]
   exact hb
structure NT (l : List (List UInt8)) (mem : Mem) (nx : Nat) (K : KD) : Prop where
 none : l = [] → ∀ n', nx ≤ n' → K (.pl (.slice none 0 0)) mem n'
 some : l ≠ [] → ∀ id n', nx ≤ id → id < n' → K (.osl id 0 0 l.length) ((id, .arr 0 1 (em aN l)) :: mem) n'
theorem zE {mem : Mem} {nx id : Nat} {K : KD} (hk : ∀ kb n', nx ≤ kb → kb < n' → K (.fn 50 [.opt kb 0]) ((kb, .box [.omap id]) :: mem) n') : bM Tryz.prog 30 [.omap id] mem nx K := by
 refine fi30.ct (by simp) fun hfr => ?_
 simp -implicitDefEqProofs [ac30]
 exact ⟨_, aG _, hk nx _ (by omega) (by omega)⟩
theorem D3 {c : Sm} {L : List (List UInt8)} (h : Cn c L) : (cR L []).length = c.length := by
 rw [← rM h, List.length_mergeSort, List.length_map]
theorem yT {c : Sm} {L : List (List UInt8)} (hc : Cn c L) (hb : ∀ x ∈ L, sB x) (hl : L.length ≤ 2 ^ 42) {mem M : Mem} {nx n0 kb id : Nat} {K K' : KD} (hkb : look M kb = some (.box [.omap id])) (hid : look M id = some (.map (aW c))) (hn0 : nx ≤ n0)
  (hK : NT (cR L []) mem nx K) (hlow : ∀ i, i < nx → look M i = look mem i) (hfr : ∀ i, nx ≤ i → look mem i = none) (hMf : ∀ i, n0 ≤ i → look M i = none)
  (hK' : ∀ d m n, (∃ m', cB m m' ∧ K d m' n) → K' d m n) : bM Tryz.prog 29 [.fn 50 [.opt kb 0]] M n0 K' := by
 have hlen := hc.len
 have hsl := D3 hc
 have hnone : ∀ i b, look mem i = some b → i < nx := fun i b h => by
  rcases Nat.lt_or_ge i nx with g | g
  ·exact g
  ·rw [hfr i g] at h; simp at h
 refine CT hkb hid (by omega) (hc.key hb) (fun h0 n' hn' => ?_) (fun h0 n' hn' => ?_)
 ·refine hK' _ _ _ ⟨mem, fun i b h => ?_, hK.none (List.eq_nil_of_length_eq_zero (by rw [hsl, h0]; rfl)) n' (by omega)⟩
  rw [hlow i (hnone i b h)]; exact h
 ·have hne : cR L [] ≠ [] := fun e => h0 (List.eq_nil_of_length_eq_zero (by rw [← hsl, e]; rfl))
  rw [rM hc, ← hsl]
  refine hK' _ _ _ ⟨_, fun i b h => ?_, hK.some hne n0 n' hn0 hn'⟩
  rw [a6] at h ⊢
  split at h
  ·rename_i g; rw [if_pos g]; exact h
  ·rename_i g
   rw [if_neg g, hlow i (hnone i b h)]; exact h
def fJ (e : Ex) : List (List UInt8) := cR (a_ (cC e [])) []
theorem Free_t (e : Ex) (hz : size e ≤ 2 ^ 40) (hb : Nb e) {mem : Mem} {nx : Nat} {K : KD} (hK : NT (fJ e) mem nx K) : bM Tryz.prog 15 [.agg (aP e)] mem nx K := by
 refine fi15.ct (by simp) fun hfr => ?_
 have hf := fun {mem : Mem} {nx : Nat} {K : KD} hk => zP e hz (mem := mem) (nx := nx) (K := K) hk
 simp only [aA] at hf ⊢
 simp -implicitDefEqProofs [ac15]
 refine aD (hf (fun id n1 g1 g2 => ?_))
 simp -implicitDefEqProofs
 refine aD (zE (fun kb n2 g3 g4 => ?_))
 simp -implicitDefEqProofs
 have h1 : (kb = id) = False := eq_false (by omega)
 have hl1 := eM (cC e [])
 have hl2 := fL e []
 refine aD (yT (mem := mem) (nx := nx) (tT e hz) (yO e [] hb) (by omega) (kb := kb) (id := id) (by simp [look]) (by simp [look, h1]) (by omega) hK (fun i hi => ?_) hfr (fun i hi => ?_) (fun d m n h => ?_))
 ·rw [a6, a6, if_neg (by omega), if_neg (by omega)]
 ·rw [a6, a6, if_neg (by omega), if_neg (by omega)]; exact hfr i (by omega)
 ·simp -implicitDefEqProofs
  exact h
theorem yI (e : Ex) (n : List UInt8) (hz : size e ≤ 2 ^ 40) : Pure Tryz.prog 19 [.agg (aP e), Tx n] (I ((a_ (cC e [])).count n)) := by
 refine fi19.pu (by simp) ?_
 have hf := fun {mem : Mem} {nx : Nat} {K : KD} hk => zP e hz (mem := mem) (nx := nx) (K := K) hk
 simp only [aA] at hf ⊢
 simp -implicitDefEqProofs [ac19]
 refine aD (hf (fun id n1 g1 g2 => ?_))
 have := (tT e hz).cnt n
 simp -implicitDefEqProofs [this]
def SzC (e : Ex) : Prop := size e ≤ 2 ^ 40 → Pure Tryz.prog 20 [.agg (aP e)] (I (size e))
theorem Size_s (op : Int) (n t : List UInt8) (ty : Int) (z : Cx) (args : List Ex) (p : Int) (ih : ∀ x ∈ args, SzC x) : SzC (.mk op n t ty z args p) := by
 intro hz
 have hal := gC args
 have hR : ((size (.mk op n t ty z args p) : Nat) : Int) = 1 + (aS args : Int) := by simp only [size]; omega
 rw [hR]
 simp only [size] at hz
 generalize hRR : (1 + (aS args : Int)) = R at *
 simp only [bI]
 refine fi20.pu (by simp) ?_
 simp -implicitDefEqProofs [ac20]
 refine lpG cf20 lb20_0 [3, 5, 9] (α := Nat × Int) (fun s _ => [(3, I s.2), (9, I s.1)]) (fun s _ => []) (fun s k => s.1 ≤ args.length ∧ 1 ≤ s.2 ∧ s.2 + (aS (args.drop s.1) : Int) = R) (fun s => args.length - s.1) (0, 1) ⟨by simp, by simp, by simpa using hRR⟩ (by simp) (by simp) ?_
 rintro ⟨i, v⟩ k ⟨hi, hv1, hr⟩
 simp only at hi hv1 hr
 by_cases hlt : i < args.length
 ·have hlti : (i : Int) < (args.length : Int) := by omega
  have hd : args.drop i = args[i] :: args.drop (i + 1) := List.drop_eq_getElem_cons hlt
  rw [hd] at hr
  simp only [aS] at hr
  obtain ⟨x, hx⟩ : ∃ x, args[i] = x := ⟨_, rfl⟩
  have hxm : x ∈ args := by rw [← hx]; exact List.getElem_mem hlt
  rw [hx] at hr
  have hsx := gD hxm
  have hc := ih x hxm (by omega)
  simp only [aA] at hc
  have w1 := aY (x := (i : Int) + 1) (by omega) (by omega)
  have w2 := aY (x := v + (size x : Int)) (by omega) (by omega)
  simp -implicitDefEqProofs [lb20_0, hlti, hlt, hx]
  refine aH hc (by simp) ?_
  simp -implicitDefEqProofs [w1, w2]
  exact aI (i + 1, v + (size x : Int)) ⟨hlt, by simp only; omega, by simp only; omega⟩ (by simp only; omega) (by simp) (by simp)
 ·have hil : i = args.length := by omega
  subst hil
  rw [List.drop_length] at hr
  simp only [aS] at hr
  have hv : v = R := by simpa using hr
  simp -implicitDefEqProofs [lb20_0, hv]
mutual
theorem uU : ∀ e : Ex, SzC e
 | .mk op n t ty z args p => Size_s op n t ty z args p (vW args)
theorem vW : ∀ l : List Ex, ∀ x ∈ l, SzC x
 | [], x, h => by simp at h
 | y :: ys, x, h => (List.mem_cons.1 h).elim (fun he => he ▸ uU y) (fun h => vW ys x h)
end
abbrev aggFn (f : Fn) : D := .agg [Tx f.name, .sl (em e9 f.params), I f.type, I f.body.op, Tx f.body.name, Tx f.body.tail, I f.body.type, CX f.body.num.re f.body.num.im, .sl (em aP f.body.args), I f.body.at', I f.at']
def fZ (f : Fn) : List (List UInt8) := cR (kS f) []
theorem D4 (f : Fn) (hz : size f.body ≤ 2 ^ 40) (hp : f.params.length ≤ 2 ^ 40) (hb : NbFn f) {mem : Mem} {nx : Nat} {K : KD} (hK : NT (fZ f) mem nx K) : bM Tryz.prog 11 [aggFn f] mem nx K := by
 refine fi11.ct (by simp) fun hfr => ?_
 have hw := qP BK f.body
 unfold WC2 at hw
 simp only [aA] at hw
 have z1 : (nx + 2 = nx) = False := eq_false (by omega)
 simp -implicitDefEqProofs [ac11]
 have hinc0 : dS [] f.name 1 = bW [] f.name := by
  unfold bW; rw [o6]; rfl
 rw [hinc0]
 have hL0 : nx + 2 + 7 + 4 ≤ nx + 2 + 7 + 4 := Nat.le_refl _
 generalize hN0 : nx + 2 + 7 + 4 = n0 at *
 generalize hbe : nx + 2 + 5 = b at *
 generalize hce : nx + 2 = cid at *
 have hbc : (b = cid) = False := eq_false (by omega)
 have hnp : (f.params.map Pm.name).length = f.params.length := by simp
 refine lpG cf11 lb11_0 [5, 13] (α := Nat × Sm) (fun s _ => [(13, I s.1)]) (fun s _ => (b, .box [.omap cid]) :: (cid, .map (aW s.2)) :: mem) (fun s k => n0 ≤ k ∧ s.1 ≤ f.params.length ∧ Cn s.2 (f.name :: (f.params.map Pm.name).take s.1)) (fun s => f.params.length - s.1) (0, bW [] f.name) ⟨by omega, by simp, by simpa using Cn.nil.inc (by simp) f.name⟩ (by simp) (aK _) ?_
 rintro ⟨i, c⟩ k ⟨hk, hi, hc⟩
 simp only at hk hi hc
 by_cases hlt : i < f.params.length
 ·have hlti : (i : Int) < (f.params.length : Int) := by omega
  have w1 := aY (x := (i : Int) + 1) (by omega) (by omega)
  obtain ⟨x, hx⟩ : ∃ x, f.params[i] = x := ⟨_, rfl⟩
  have hnext : (f.name :: (f.params.map Pm.name).take i) ++ [x.name] = f.name :: (f.params.map Pm.name).take (i + 1) := by
   rw [List.take_add_one, List.getElem?_map, List.getElem?_eq_getElem hlt, hx]; rfl
  have hc2 := hc.inc (by simp; omega) x.name
  rw [hnext] at hc2
  have y1 : (k + 1 + 2 = b) = False := eq_false (by omega)
  have y2 : (k + 1 + 2 = cid) = False := eq_false (by omega)
  have y3 : (b = k + 1 + 2) = False := eq_false (by omega)
  have y4 : (cid = k + 1 + 2) = False := eq_false (by omega)
  simp -implicitDefEqProofs [lb11_0, hlti, hlt, hx, w1, y1, y2, y3, y4, hbc]
  refine aI (i + 1, bW c x.name) ⟨by omega, hlt, hc2⟩ (by simp only; omega) (by simp) ?_
  refine aX (aK _) ?_
  rw [a6, a6, if_neg (by omega), if_neg (by omega)]
  exact hfr _ (by omega)
 ·have hil : i = f.params.length := by omega
  subst hil
  rw [List.take_of_length_le (by simp)] at hc
  have y1 : (k + 1 + 2 = b) = False := eq_false (by omega)
  have y2 : (k + 1 + 2 = cid) = False := eq_false (by omega)
  simp -implicitDefEqProofs [lb11_0]
  refine aD (hw (mid := k + 1 + 2) (cid := cid) (b := b) (m := []) (c := c) ⟨?_, ?_, ?_, by omega, by omega, by omega, by omega, by omega, by omega⟩ hz (fun n3 hn3 => ?_))
  ·simp [look, aW]
  ·simp [look, y2, hbc]
  ·simp [look, y1]
  have hwn := eY f.body
  have hC := (tN f.body [] c [] (f.name :: f.params.map Pm.name) uV hc (by simp; omega) (by simp; omega)).2
  have hL : f.name :: f.params.map Pm.name ++ aU f.body = kS f := rfl
  rw [hL] at hC
  have hall : ∀ x ∈ kS f, sB x := fun x hx => by
   rw [← hL] at hx
   rcases List.mem_append.1 hx with h | h
   ·rcases List.mem_cons.1 h with rfl | h
    ·exact hb.name
    ·obtain ⟨p, hp1, rfl⟩ := List.mem_map.1 h
     exact hb.pars p hp1
   ·exact tR _ hb.body x h
  have hlen : (kS f).length ≤ 2 ^ 42 := by rw [← hL, List.length_append]; simp; omega
  have hup : bN ((k + 1 + 2, Blk.map []) :: (b, Blk.box [D.omap cid]) :: (cid, Blk.map (aW c)) :: mem) (k + 1 + 2) cid (b8 eX f.body [] c).1 (b8 eX f.body [] c).2 = (k + 1 + 2, Blk.map (aW (b8 eX f.body [] c).1)) :: (b, Blk.box [D.omap cid]) :: (cid, Blk.map (aW (b8 eX f.body [] c).2)) :: mem := by
   unfold bN
   simp only [upd, y1, y2, hbc, if_false, if_true]
  rw [hup]
  generalize b8 eX f.body [] c = R at *
  simp -implicitDefEqProofs [y1, y2, hbc]
  refine aD (zE (fun kb n2 g3 g4 => ?_))
  simp -implicitDefEqProofs
  have x1 : (kb = k + 1 + 2) = False := eq_false (by omega)
  have x2 : (kb = b) = False := eq_false (by omega)
  have x3 : (kb = cid) = False := eq_false (by omega)
  refine aD (yT (mem := mem) (nx := nx) hC hall hlen (kb := kb) (id := cid) (by simp [look]) (by simp [look, x1, x2, x3, y1, y2, hbc]) (by omega) hK (fun i hi => ?_) hfr (fun i hi => ?_) (fun d m n h => ?_))
  ·rw [a6, a6, a6, a6, if_neg (by omega), if_neg (by omega), if_neg (by omega), if_neg (by omega)]
  ·rw [a6, a6, a6, a6, if_neg (by omega), if_neg (by omega), if_neg (by omega), if_neg (by omega)]; exact hfr i (by omega)
  ·simp -implicitDefEqProofs
   exact h
theorem jW {n : Nat} (h : n < 10) : Lib.decDigits n = [dc n] := by
 rw [Lib.decDigits, dif_pos h]; unfold dc; rw [Nat.mod_eq_of_lt h]
theorem zV {n : Nat} (h : ¬ n < 10) : Lib.decDigits n = Lib.decDigits (n / 10) ++ [dc n] := by
 rw [Lib.decDigits, dif_neg h]; rfl
theorem dd_len : ∀ n : Nat, (Lib.decDigits n).length ≤ n + 1 := by
 intro n
 induction n using Nat.strongRecOn with
 | ind n ih =>
  by_cases h : n < 10
  ·rw [jW h]; simp
  ·rw [zV h, List.length_append]
   have := ih (n / 10) (by omega)
   simp only [List.length_cons, List.length_nil]; omega
def ddV (l : List UInt8) : Nat := l.foldl (fun v b => v * 10 + (b.toNat - 48)) 0
theorem AH : ∀ n : Nat, ddV (Lib.decDigits n) = n := by
 intro n
 induction n using Nat.strongRecOn with
 | ind n ih =>
  by_cases h : n < 10
  ·rw [jW h]
   simp only [ddV, List.foldl_cons, List.foldl_nil]
   rw [dc_n]; omega
  ·rw [zV h]
   have := ih (n / 10) (by omega)
   unfold ddV at this ⊢
   rw [List.foldl_append, this]
   simp only [List.foldl_cons, List.foldl_nil]
   rw [dc_n]; omega
def nm (k : Nat) : List UInt8 := 116 :: Lib.decDigits k
theorem zR {a b : Nat} (h : nm a = nm b) : a = b := by
 unfold nm at h
 simp only [List.cons.injEq, true_and] at h
 have := congrArg ddV h
 rwa [AH, AH] at this
def j5 (taken : List (List UInt8)) (n : Nat) : Nat → Nat → List (List UInt8) → List (List UInt8)
 | 0, _, out => out
 | f + 1, k, out => if out.length < n then j5 taken n f (k + 1) (if bA taken (nm k) = true then out else out ++ [nm k]) else out
def lD (taken : List (List UInt8)) (n : Nat) : List (List UInt8) := j5 taken n (n + taken.length + 1) 1 []
structure Fr6 (taken : List (List UInt8)) (n k : Nat) (out : List (List UInt8)) : Prop where
 hit : ∃ H : List Nat, H.Nodup ∧ (∀ j ∈ H, j < k ∧ nm j ∈ taken) ∧ k = 1 + out.length + H.length
 told : ∀ s ∈ out, ∃ j, j < k ∧ s = nm j
 free : ∀ s ∈ out, s ∉ taken
 nd : out.Nodup
 le : out.length ≤ n
theorem yD {l : List Nat} (h : l.Nodup) : (l.map nm).Nodup := by
 refine List.pairwise_map.2 (h.imp fun hne e => hne (zR e))
theorem Fr6.bound {taken : List (List UInt8)} {n k : Nat} {out : List (List UInt8)} (h : Fr6 taken n k out) : k ≤ 1 + out.length + taken.length := by
 obtain ⟨H, h1, h2, h3⟩ := h.hit
 have := m_ (H.map nm) taken (yD h1) (fun x hx => by
  obtain ⟨j, hj, rfl⟩ := List.mem_map.1 hx
  exact (h2 j hj).2)
 rw [List.length_map] at this
 omega
theorem Fr6.start (taken : List (List UInt8)) (n : Nat) : Fr6 taken n 1 [] := ⟨⟨[], by simp, by simp, by simp⟩, by simp, by simp, by simp, by simp⟩
theorem Fr6.step {taken : List (List UInt8)} {n k : Nat} {out : List (List UInt8)} (h : Fr6 taken n k out) (hl : out.length < n) : Fr6 taken n (k + 1) (if bA taken (nm k) = true then out else out ++ [nm k]) := by
 obtain ⟨H, h1, h2, h3⟩ := h.hit
 by_cases g : bA taken (nm k) = true
 ·rw [if_pos g]
  refine ⟨⟨H ++ [k], ?_, ?_, by simp; omega⟩, fun s hs => ?_, h.free, h.nd, h.le⟩
  ·rw [List.nodup_append]
   refine ⟨h1, by simp, fun a ha b hb e => ?_⟩
   simp at hb; subst hb; subst e
   have := (h2 a ha).1; omega
  ·intro j hj
   rcases List.mem_append.1 hj with hj | hj
   ·exact ⟨by have := (h2 j hj).1; omega, (h2 j hj).2⟩
   ·simp at hj; subst hj; exact ⟨by omega, (g_ _ _).1 g⟩
  ·obtain ⟨j, hj, e⟩ := h.told s hs
   exact ⟨j, by omega, e⟩
 ·rw [if_neg g]
  refine ⟨⟨H, h1, fun j hj => ⟨by have := (h2 j hj).1; omega, (h2 j hj).2⟩, by simp; omega⟩, fun s hs => ?_, fun s hs => ?_, ?_, by simp; omega⟩
  ·rcases List.mem_append.1 hs with hs | hs
   ·obtain ⟨j, hj, e⟩ := h.told s hs
    exact ⟨j, by omega, e⟩
   ·simp at hs; exact ⟨k, by omega, hs⟩
  ·rcases List.mem_append.1 hs with hs | hs
   ·exact h.free s hs
   ·simp at hs; subst hs; exact fun m => g ((g_ _ _).2 m)
  ·rw [List.nodup_append]
   refine ⟨h.nd, by simp, fun a ha b hb e => ?_⟩
   simp at hb; subst hb; subst e
   obtain ⟨j, hj, e⟩ := h.told _ ha
   have := zR e; omega
theorem DV (l : List (List UInt8)) (n : List UInt8) (hl : l.length < 2 ^ 60) : ∃ r : Int, (0 ≤ r ↔ bA l n = true) ∧ Pure Tryz.prog 52 [.sl (em aN l), Tx n] (I r) := by
 have key : ∀ (k : List (List UInt8)) (i : Nat), ∃ r : Int, (0 ≤ r ↔ bA k n = true) ∧ ((bA k n = true → ∃ j : Nat, r = ((i + j : Nat) : Int) ∧ k[j]? = some n ∧ ∀ m, m < j → k[m]? ≠ some n) ∧ (bA k n = false → r = -1)) := by
  intro k
  induction k with
  | nil => intro i; exact ⟨-1, by simp [bA], by simp [bA], fun _ => rfl⟩
  | cons x xs ih =>
   intro i
   by_cases h : x = n
   ·exact ⟨i, by simp [bA, h], fun _ => ⟨0, by simp, by simp [h], fun m hm => by omega⟩, fun g => by simp [bA, h] at g⟩
   ·obtain ⟨r, h1, h2, h3⟩ := ih (i + 1)
    refine ⟨r, by simp [bA, h, h1], fun g => ?_, fun g => h3 (by simpa [bA, h] using g)⟩
    obtain ⟨j, e1, e2, e3⟩ := h2 (by simpa [bA, h] using g)
    refine ⟨j + 1, by rw [e1]; omega, by simpa using e2, fun m hm => ?_⟩
    cases m with
    | zero => simp [h]
    | succ m => simpa using e3 m (by omega)
 obtain ⟨r, hr, h1, h2⟩ := key l 0
 refine ⟨r, hr, ?_⟩
 refine fi52.pu (by simp) ?_
 simp -implicitDefEqProofs [ac52]
 refine lpG cf52 lb52_0 [4, 5, 8] (α := Nat) (fun s _ => [(8, I s)]) (fun s _ => []) (fun s k => s ≤ l.length ∧ ∀ m, m < s → l[m]? ≠ some n) (fun s => l.length - s) 0 ⟨by simp, fun m hm => by omega⟩ (by simp) (by simp) ?_
 rintro i k ⟨hi, hn⟩
 by_cases hlt : i < l.length
 ·have hlti : (i : Int) < (l.length : Int) := by omega
  have w1 := aY (x := (i : Int) + 1) (by omega) (by omega)
  obtain ⟨x, hx⟩ : ∃ x, l[i] = x := ⟨_, rfl⟩
  have hx2 : l[i]? = some x := by rw [List.getElem?_eq_getElem hlt, hx]
  by_cases hg : n = x
  ·have hh : bA l n = true := (g_ l n).2 (List.mem_iff_getElem?.2 ⟨i, by rw [hx2, hg]⟩)
   obtain ⟨j, e1, e2, e3⟩ := h1 hh
   have hij : i = j := by
    rcases Nat.lt_trichotomy i j with h | h | h
    ·exact absurd (by rw [hx2, hg]) (e3 i h)
    ·exact h
    ·exact absurd e2 (hn j h)
   have hri : r = i := by omega
   simp -implicitDefEqProofs [lb52_0, hlti, hlt, hx, hg, hri]
  ·simp -implicitDefEqProofs [lb52_0, hlti, hlt, hx, hg, w1]
   refine aI (i + 1) ⟨hlt, fun m hm => ?_⟩ (by omega) (by simp) (by simp)
   by_cases e : m = i
   ·subst e; rw [hx2]; simp; exact fun e => hg e.symm
   ·exact hn m (by omega)
 ·have hr1 : r = -1 := h2 (by
   cases hh : bA l n with
   | false => rfl
   | true =>
    obtain ⟨j, e1, e2, e3⟩ := h1 hh
    exact absurd e2 (hn j (by have := (List.getElem?_eq_some_iff.1 e2).1; omega)))
  have hlti : ¬ (i : Int) < (l.length : Int) := by omega
  simp -implicitDefEqProofs [lb52_0, hlti, hlt, hr1]
theorem xT (l : List (List UInt8)) (n : List UInt8) (hl : l.length < 2 ^ 60) : Pure Tryz.prog 38 [.sl (em aN l), Tx n] (.pl (.bool (bA l n))) := by
 obtain ⟨r, hr, hc⟩ := DV l n hl
 refine fi38.pu (by simp) ?_
 simp -implicitDefEqProofs [ac38]
 refine aH hc (by simp) ?_
 have e : decide (0 ≤ r) = bA l n := by
  rw [Bool.eq_iff_iff, ← hr]; simp
 simp -implicitDefEqProofs [e]
def wZ (B : Nat) : Prop := ∀ k : Nat, k ≤ B → Pure Tryz.prog 37 [.pl (.int .i64 k)] (Tx (Lib.decDigits k))
theorem u6 : wZ 99 := fun k hk => xI k (by omega)
theorem DD (taken : List (List UInt8)) (n : Int) (ht : taken.length ≤ 2 ^ 43) (hIt : n ≤ 4096 → wZ (n.toNat + taken.length)) {mem : Mem} {nx : Nat} {K : KD}
  (h2 : ¬ (0 ≤ n ∧ n ≤ 4096) → ∀ n', nx ≤ n' → K (.tup [.pl (.slice none 0 0), I 2]) mem n')
  (h1 : 0 ≤ n → n ≤ 4096 → ∀ id v n', nx ≤ id → id < n' → K (.tup [.osl id v 0 (lD taken n.toNat).length, I 0]) ((id, .arr v 1 (em aN (lD taken n.toNat))) :: mem) n') :
  bM Tryz.prog 14 [.sl (em aN taken), I n] mem nx K := by
 refine fi14.ct (by simp) fun hfr => ?_
 by_cases g1 : n < 0
 ·simp -implicitDefEqProofs [ac14, g1]
  exact ⟨_, aG _, h2 (by omega) _ (by omega)⟩
 ·by_cases g2 : 4096 < n
  ·simp -implicitDefEqProofs [ac14, g1, g2]
   exact ⟨_, aG _, h2 (by omega) _ (by omega)⟩
  ·simp -implicitDefEqProofs [ac14, g1, g2]
   have h1 := h1 (by omega) (by omega)
   have hIt := hIt (by omega)
   obtain ⟨N, rfl⟩ : ∃ N : Nat, n = N := ⟨n.toNat, by omega⟩
   simp only [Int.toNat_natCast] at h1 hIt
   unfold lD at h1
   generalize hR : j5 taken N (N + taken.length + 1) 1 [] = R at *
   refine eR (j := 6) (k := 1) rfl (.inl rfl) ?_
   have hid : nx ≤ nx + 2 + 6 + 1 + 1 := by omega
   generalize nx + 2 + 6 + 1 + 1 = id at *
   refine lpG cf14 lb14_0 [6, 7, 8] (α := Nat × Nat × List (List UInt8)) (fun s _ => [(6, .osl id s.2.1 0 s.2.2.length), (7, I s.1)]) (fun s _ => (id, .arr s.2.1 1 (em aN s.2.2)) :: mem) (fun s k => id < k ∧ 1 ≤ s.1 ∧ Fr6 taken N s.1 s.2.2 ∧ j5 taken N (N + taken.length + 2 - s.1) s.1 s.2.2 = R) (fun s => N + taken.length + 2 - s.1) (1, 0, []) ⟨by omega, by simp, Fr6.start taken N, hR⟩ (by simp [upd]) (by simp [em]) ?_
   rintro ⟨i, v, out⟩ k ⟨hk, hi, hfr6, hr⟩
   simp only at hk hi hfr6 hr
   have hbd := hfr6.bound
   have hle := hfr6.le
   by_cases hlt : out.length < N
   ·have hlti : (out.length : Int) < (N : Int) := by omega
    have hst := hfr6.step hlt
    obtain ⟨f, hf⟩ : ∃ f, N + taken.length + 2 - i = f + 1 := ⟨N + taken.length + 1 - i, by omega⟩
    have hf2 : N + taken.length + 2 - (i + 1) = f := by omega
    rw [hf] at hr
    unfold j5 at hr
    rw [if_pos hlt] at hr
    have hc := hIt i (by omega)
    have hdl := dd_len i
    have hadd := eS (P := Tryz.prog) (ty := 9) (l := [116]) (k := Lib.decDigits i) (by simp; omega)
    have hcon := xT taken (nm i) (by omega)
    have w1 := aY (x := (i : Int) + 1) (by omega) (by omega)
    have hnm : ([116] ++ Lib.decDigits i : List UInt8) = nm i := rfl
    rw [hnm] at hadd
    simp -implicitDefEqProofs [lb14_0, hlti]
    refine aH (hc) (by simp) ?_
    simp -implicitDefEqProofs [hadd]
    refine aH hcon (by simp) ?_
    by_cases hh : bA taken (nm i) = true
    ·rw [if_pos hh] at hr hst
     simp -implicitDefEqProofs [hh, w1]
     exact aI (i + 1, v, out) ⟨by omega, by simp only; omega, hst, by rw [hf2]; exact hr⟩ (by simp only; omega) (by simp) (aK _)
    ·rw [if_neg hh] at hr hst
     have hh2 : bA taken (nm i) = false := by simpa using hh
     have b1 : (out.length + 1) * 16 ≤ 3 * 2 ^ 46 := by omega
     have hap : em aN out ++ [[Tx (nm i)]] = em aN (out ++ [nm i]) := iW (enc := aN) (x := nm i)
     simp -implicitDefEqProofs [hh2, w1, b1, hap]
     exact aI (i + 1, v + 1, out ++ [nm i]) ⟨by omega, by simp only; omega, hst, by rw [hf2]; exact hr⟩ (by simp only; omega) (by simp) (aK _)
   ·have hlti : ¬ (out.length : Int) < (N : Int) := by omega
    have hres : out = R := by
     rw [← hr]
     cases N + taken.length + 2 - i with
     | zero => rfl
     | succ f => unfold j5; rw [if_neg hlt]
    subst hres
    simp -implicitDefEqProofs [lb14_0, hlti]
    exact ⟨_, aG _, h1 id v _ (by omega) (by omega)⟩
set_option maxRecDepth 1000000
set_option maxHeartbeats 0
noncomputable def cf21 : Cfg := ⟨Tryz.prog, 27, [0, 1, 2, 3, 5, 7, 8, 9, 19, 20], []⟩
noncomputable def lb21_0 : AC :=
 .seq (.ifr [JO 10 (.bin .lss 3 (.g 9) (.g 8))] (.t 10) .skip (.exit 0)) (.seq (.block 1 (.seq (.reg [JO 11 (.ia 7 (.g 7) (.g 9)), JE 12 7 11, JP 5 (.al [JV, JU, JU, JV, .complex .f64 0 0, JW, JV]), JQ (.st 7 (.g 5) (.t 12))]) (.reg [JA 13 3, JF 14 7 5, JO 15 (.pc (.f 21) [.t 14]), JO 16 (.bi .max [.t 13, .t 15]), JB 3 16]))) (.reg [JO 17 (.bin .add 3 (.g 9) (JT 1)), JB 9 17]))
noncomputable def ac21 : AC :=
 (.seq (.reg [JN 1 0, JI 2 0]) (.seq (.reg [JI 3 0]) (.seq (.seq (.reg [JG 6 5 1, JP 7 (.ld false 1 (.t 6)), JP 8 (.len false (.g 7)), JI 9 0]) (.block 0 (.loop lb21_0))) (.seq (.seq (.reg [JG 18 0 1, JP 19 (.ld false 1 (.t 18))]) (.block 2 (.seq (.ifr [JO 21 (.bin .eql 39 (.g 19) (JT 21)), JB 20 21] (.g 20) .skip (.ifr [JO 22 (.bin .eql 39 (.g 19) (JT 22)), JB 20 22] (.g 20) .skip (.reg [JO 23 (.bin .eql 39 (.g 19) (JT 20)), JB 20 23]))) (.cond (.g 20) (.reg [JA 24 3, JO 25 (.bin .add 3 (.t 24) (JT 1)), JB 3 25]) .skip)))) (.seq (.reg [JA 26 3, JB 2 26]) .ret)))))
theorem fi21 : FI Tryz.prog 21 cf21 ac21 [.t 2] [0, 1, 2, 3, 5, 7, 8, 9, 19, 20] 27 := FI_of (c := Tryz.f21.body.getD .skip) Tryz.func21 (by kernel_rfl) (by rfl) (by rfl) (by kernel_rfl) (by kernel_rfl) rfl rfl rfl
@[simp] theorem cfP21 : cf21.P = Tryz.prog := (rfl)
noncomputable def cf36 : Cfg := ⟨Tryz.prog, 38, [0, 1, 2, 3, 4, 5], []⟩
noncomputable def lb36_0 : AC :=
 .seq (.ifr [JA 6 4, JG 7 5 1, JD 8 1 7, JO 9 (.len false (.t 8)), JO 10 (.bin .lss 3 (.t 6) (.t 9))] (.t 10) .skip (.exit 0)) (.seq (.block 1 (.seq (.reg [JG 13 5 1, JD 14 1 13, JA 15 4, JL 16 7 14 15, JE 17 7 16, JO 18 (.pc (.f 36) [.t 17]), JB 5 18]) (.reg [JA 19 3, JA 20 5, JO 21 (.bi .max [.t 19, .t 20]), JB 3 21]))) (.reg [JA 11 4, JO 12 (.bin .add 3 (.t 11) (JT 1)), JB 4 12]))
noncomputable def ac36 : AC :=
 (.seq (.reg [JN 1 0, JI 2 0]) (.seq (.reg [JI 3 0]) (.seq (.seq (.reg [JI 4 0]) (.block 0 (.loop lb36_0))) (.seq (.ifr [JG 22 0 1, JD 23 1 22, JO 24 (.bin .eql 39 (.t 23) (JT 21)), JC 25 24, JR 26 25 (.fa 0 (.g 1)), JR 27 25 (.ld false 1 (.t 26)), JR 28 25 (.bin .eql 39 (.t 27) (JT 22)), JO 29 (.pick (.t 25) JX (.t 28)), JC 30 29, JR 31 30 (.fa 0 (.g 1)), JR 32 30 (.ld false 1 (.t 31)), JR 33 30 (.bin .eql 39 (.t 32) (JT 20)), JO 34 (.pick (.t 30) JX (.t 33))] (.t 34) (.reg [JA 35 3, JO 36 (.bin .add 3 (.t 35) (JT 1)), JB 3 36]) .skip) (.seq (.reg [JA 37 3, JB 2 37]) .ret)))))
theorem fi36 : FI Tryz.prog 36 cf36 ac36 [.t 2] [0, 1, 2, 3, 4, 5] 38 := FI_of (c := Tryz.f36.body.getD .skip) Tryz.func36 (by kernel_rfl) (by rfl) (by rfl) (by kernel_rfl) (by kernel_rfl) rfl rfl rfl
@[simp] theorem cfP36 : cf36.P = Tryz.prog := (rfl)
set_option maxRecDepth 100000
set_option maxHeartbeats 4000000
mutual
def c_ : Ex → Nat
 | .mk op _ _ _ _ args _ => cO args + (if op = 21 ∨ op = 22 ∨ op = 20 then 1 else 0)
def cO : List Ex → Nat
 | [] => 0
 | x :: xs => max (c_ x) (cO xs)
end
mutual
theorem yJ : ∀ e : Ex, c_ e ≤ size e
 | .mk op n tl ty z args p => by
  have := jK args
  unfold c_ size
  split <;> omega
theorem jK : ∀ l : List Ex, cO l ≤ aS l
 | [] => by simp [cO]
 | x :: xs => by
  have h1 := yJ x
  have h2 := jK xs
  unfold cO aS; omega
end
theorem nN : ∀ {l : List Ex} {x : Ex}, x ∈ l → size x ≤ aS l ∧ c_ x ≤ cO l
 | y :: ys, x, h => by
  unfold aS cO
  rcases List.mem_cons.1 h with rfl | h
  ·omega
  ·have := nN h; omega
theorem uY : ∀ (l : List Ex), l.length ≤ aS l
 | [] => by simp [aS]
 | y :: ys => by
  have := uY ys
  have h : 1 ≤ size y := by cases y; unfold size; omega
  unfold aS; simp only [List.length_cons]; omega
def sV (e : Ex) : Prop := size e ≤ 2 ^ 40 → Pure Tryz.prog 21 [.agg [I e.op, Tx e.name, Tx e.tail, I e.type, CX e.num.re e.num.im, .sl (em aP e.args), I e.at']] (I (c_ e))
theorem xB (op : Int) (n tl : List UInt8) (ty : Int) (z : Cx) (args : List Ex) (p : Int) (ih : ∀ x ∈ args, sV x) : sV (.mk op n tl ty z args p) := by
 intro hz
 have hzs : aS args ≤ 2 ^ 40 := by unfold size at hz; omega
 have hlen := uY args
 have hb := jK args
 have ih1 : ∀ x ∈ args, Pure Tryz.prog 21 [.agg [I x.op, Tx x.name, Tx x.tail, I x.type, CX x.num.re x.num.im, .sl (em aP x.args), I x.at']] (I (c_ x)) := fun x hx => ih x hx (Nat.le_trans (nN hx).1 hzs)
 have hop : op = 21 ∨ op = 22 ∨ op = 20 ∨ (op ≠ 21 ∧ op ≠ 22 ∧ op ≠ 20) := by omega
 have w1 : IntKind.i64.wrap ((cO args : Int) + 1) = cO args + 1 := aY (by omega) (by omega)
 show Pure Tryz.prog 21 [.agg [I op, Tx n, Tx tl, I ty, CX z.re z.im, .sl (em aP args), I p]] (I (c_ (.mk op n tl ty z args p)))
 generalize hR : cO args = R at *
 refine fi21.pu (by simp) ?_
 simp -implicitDefEqProofs [ac21]
 refine lpG cf21 lb21_0 [3, 5, 9] (α := Nat × Nat) (fun s _ => [(3, I s.2), (5, .top), (9, I s.1)]) (fun s _ => []) (fun s k => s.1 ≤ args.length ∧ max s.2 (cO (args.drop s.1)) = R) (fun s => args.length - s.1) (0, 0) ⟨by simp, by simp [hR]⟩ (by simp) (by simp) ?_
 rintro ⟨i, m⟩ k ⟨hi, hr⟩
 simp only at hi hr
 by_cases hlt : i < args.length
 ·have wi := aY (x := (i : Int) + 1) (by omega) (by omega)
  rw [List.drop_eq_getElem_cons hlt] at hr
  unfold cO at hr
  have hx := ih1 args[i] (List.getElem_mem hlt)
  obtain ⟨x, hxe⟩ : ∃ x, args[i] = x := ⟨_, rfl⟩
  rw [hxe] at hx hr
  simp -implicitDefEqProofs [lb21_0, hlt, hxe]
  refine aH hx (by simp) ?_
  have hmx : ((max m (c_ x) : Nat) : Int) = max (m : Int) (c_ x : Int) := by omega
  simp -implicitDefEqProofs [wi]
  exact aI (i + 1, max m (c_ x)) ⟨hlt, by simp only; omega⟩ (by simp only; omega) (by simp [hmx]) (by simp)
 ·have hil : i = args.length := by omega
  subst hil
  rw [List.drop_length] at hr
  simp only [cO, Nat.max_zero] at hr
  subst hr
  unfold c_
  rw [hR]
  rcases hop with rfl | rfl | rfl | ⟨o1, o2, o3⟩
  ·simp -implicitDefEqProofs [lb21_0, w1]
  ·simp -implicitDefEqProofs [lb21_0, w1]
  ·simp -implicitDefEqProofs [lb21_0, w1]
  ·simp -implicitDefEqProofs [lb21_0, o1, o2, o3]
mutual
theorem qY : ∀ e : Ex, sV e
 | .mk op n tl ty z args p => xB op n tl ty z args p (uA args)
theorem uA : ∀ l : List Ex, ∀ x ∈ l, sV x
 | [], x, h => by simp at h
 | y :: ys, x, h => by
  rcases List.mem_cons.1 h with e | h
  ·rw [e]; exact qY y
  ·exact uA ys x h
end
def sX (e : Ex) : Prop := size e ≤ 2 ^ 40 → Pure Tryz.prog 36 [.agg [I e.op, Tx e.name, Tx e.tail, I e.type, CX e.num.re e.num.im, .sl (em aP e.args), I e.at']] (I (c_ e))
theorem wW (op : Int) (n tl : List UInt8) (ty : Int) (z : Cx) (args : List Ex) (p : Int) (ih : ∀ x ∈ args, sX x) : sX (.mk op n tl ty z args p) := by
 intro hz
 have hzs : aS args ≤ 2 ^ 40 := by unfold size at hz; omega
 have hlen := uY args
 have hb := jK args
 have ih1 : ∀ x ∈ args, Pure Tryz.prog 36 [.agg [I x.op, Tx x.name, Tx x.tail, I x.type, CX x.num.re x.num.im, .sl (em aP x.args), I x.at']] (I (c_ x)) := fun x hx => ih x hx (Nat.le_trans (nN hx).1 hzs)
 have hop : op = 21 ∨ op = 22 ∨ op = 20 ∨ (op ≠ 21 ∧ op ≠ 22 ∧ op ≠ 20) := by omega
 have w1 : IntKind.i64.wrap ((cO args : Int) + 1) = cO args + 1 := aY (by omega) (by omega)
 show Pure Tryz.prog 36 [.agg [I op, Tx n, Tx tl, I ty, CX z.re z.im, .sl (em aP args), I p]] (I (c_ (.mk op n tl ty z args p)))
 generalize hR : cO args = R at *
 refine fi36.pu (by simp) ?_
 simp -implicitDefEqProofs [ac36]
 refine lpG cf36 lb36_0 [3, 4, 5] (α := Nat × Nat) (fun s _ => [(3, I s.2), (4, I s.1), (5, .top)]) (fun s _ => []) (fun s k => s.1 ≤ args.length ∧ max s.2 (cO (args.drop s.1)) = R) (fun s => args.length - s.1) (0, 0) ⟨by simp, by simp [hR]⟩ (by simp) (by simp) ?_
 rintro ⟨i, m⟩ k ⟨hi, hr⟩
 simp only at hi hr
 by_cases hlt : i < args.length
 ·have wi := aY (x := (i : Int) + 1) (by omega) (by omega)
  rw [List.drop_eq_getElem_cons hlt] at hr
  unfold cO at hr
  have hx := ih1 args[i] (List.getElem_mem hlt)
  obtain ⟨x, hxe⟩ : ∃ x, args[i] = x := ⟨_, rfl⟩
  rw [hxe] at hx hr
  simp -implicitDefEqProofs [lb36_0, hlt, hxe]
  refine aH hx (by simp) ?_
  have hmx : ((max m (c_ x) : Nat) : Int) = max (m : Int) (c_ x : Int) := by omega
  simp -implicitDefEqProofs [wi]
  exact aI (i + 1, max m (c_ x)) ⟨hlt, by simp only; omega⟩ (by simp only; omega) (by simp [hmx]) (by simp)
 ·have hil : i = args.length := by omega
  subst hil
  rw [List.drop_length] at hr
  simp only [cO, Nat.max_zero] at hr
  subst hr
  unfold c_
  rw [hR]
  rcases hop with rfl | rfl | rfl | ⟨o1, o2, o3⟩
  ·simp -implicitDefEqProofs [lb36_0, w1]
  ·simp -implicitDefEqProofs [lb36_0, w1]
  ·simp -implicitDefEqProofs [lb36_0, w1]
  ·simp -implicitDefEqProofs [lb36_0, o1, o2, o3]
mutual
theorem vV : ∀ e : Ex, sX e
 | .mk op n tl ty z args p => wW op n tl ty z args p (tX args)
theorem tX : ∀ l : List Ex, ∀ x ∈ l, sX x
 | [], x, h => by simp at h
 | y :: ys, x, h => by
  rcases List.mem_cons.1 h with e | h
  ·rw [e]; exact vV y
  ·exact tX ys x h
end
theorem nest_c (e : Ex) (h : size e ≤ 2 ^ 40) : Pure Tryz.prog 21 [.agg [I e.op, Tx e.name, Tx e.tail, I e.type, CX e.num.re e.num.im, .sl (em aP e.args), I e.at']] (I (c_ e)) ∧ Pure Tryz.prog 36 [.agg [I e.op, Tx e.name, Tx e.tail, I e.type, CX e.num.re e.num.im, .sl (em aP e.args), I e.at']] (I (c_ e)) := ⟨qY e h, vV e h⟩
theorem zK (l : List (List UInt8)) (nx : Nat) : NT l [] nx (fun d mem _ => frz mem 100 d = some (.sl (em aN l))) :=
 ⟨fun h n' _ => by subst h; simp [frz, em], fun h id n' _ _ => by simp [frz, look, List.take_of_length_le]⟩
theorem zQ (e : Ex) (hz : size e ≤ 2 ^ 40) (hb : Nb e) : Pure Tryz.prog 15 [.agg (aP e)] (.sl (em aN (fJ e))) :=
 iX (by simp [aA]) (Free_t e hz hb (zK _ _))
theorem tQ (f : Fn) (hz : size f.body ≤ 2 ^ 40) (hp : f.params.length ≤ 2 ^ 40) (hb : NbFn f) : Pure Tryz.prog 11 [aggFn f] (.sl (em aN (fZ f))) :=
 iX (by simp) (D4 f hz hp hb (zK _ _))
theorem DK (taken : List (List UInt8)) (n : Int) (ht : taken.length ≤ 2 ^ 43) (hIt : n ≤ 4096 → wZ (n.toNat + taken.length)) : Pure Tryz.prog 14 [.sl (em aN taken), I n] (if 0 ≤ n ∧ n ≤ 4096 then .tup [.sl (em aN (lD taken n.toNat)), I 0] else .tup [.sl (em aN []), I 2]) := by
 refine iX (by simp) (DD taken n ht hIt (fun h n' _ => ?_) (fun h1 h2 id v n' _ _ => ?_))
 ·rw [if_neg h]; simp [frz, fM, em]
 ·rw [if_pos ⟨h1, h2⟩]; simp [frz, fM, look, List.take_of_length_le]
theorem uM {L L' : List (List UInt8)} (h1 : Srt L') (h2 : L'.Nodup) (h3 : ∀ x, x ∈ L ↔ x ∈ L') : cR L [] = L' := by
 obtain ⟨a, b⟩ := lY L [] (by simp) (by simp)
 exact zS a h1 b h2 fun x => by rw [oZ, ← h3 x]; simp
def s61 : List UInt8 := [102, 40, 120, 32, 78, 44, 120, 32, 76, 41, 58, 78, 61, 122, 43, 103, 40, 41, 59]
def s62 : List UInt8 := [102, 40, 120, 32, 78, 41, 58, 78, 61, 108, 101, 116, 32, 121, 32, 78, 61, 104, 43, 120, 32, 105, 110, 32, 49, 43, 121, 59]
def q61 : List Fn × Rd := (cV 40 [] (rd0 s61 32768 32768 32768 32768)).getD ([], rd0 s61 32768 32768 32768 32768)
def q62 : List Fn × Rd := (cV 40 [] (rd0 s62 32768 32768 32768 32768)).getD ([], rd0 s62 32768 32768 32768 32768)
theorem p61 : cV 40 [] (rd0 s61 32768 32768 32768 32768) = some (q61.1, q61.2) := r7 (d := ([], rd0 s61 32768 32768 32768 32768)) (by decide)
theorem p62 : cV 40 [] (rd0 s62 32768 32768 32768 32768) = some (q62.1, q62.2) := r7 (d := ([], rd0 s62 32768 32768 32768 32768)) (by decide)
theorem read61 : nA s61 q61.1 0 0 := wP s61 (by decide) (by decide) (n := 40) (by decide) p61 (by decide) (by decide)
theorem read62 : nA s62 q62.1 0 0 := wP s62 (by decide) (by decide) (n := 40) (by decide) p62 (by decide) (by decide)
theorem qR {t : List UInt8} {L : List Fn} {w p : Int} (h : nA t L w p) : Pure Tryz.prog 7 [.sl (em cQ t)] (.tup [.agg [.sl (em dG L)], .pl (.bool (decide (w = 0)))]) := by
 refine fi7.pu (by simp) ?_
 simp -implicitDefEqProofs [ac7]
 refine aH (wide_c) (by simp) ?_
 simp -implicitDefEqProofs
 refine aH (h.1) (by simp) ?_
 simp -implicitDefEqProofs
theorem CU : nP q61.1 = (30, 6) := by decide
theorem len61 : q61.1.length = 1 := by decide
theorem len62 : q62.1.length = 1 := by decide
theorem sz61 : ∀ f ∈ q61.1, size f.body ≤ 2 ^ 40 ∧ f.params.length ≤ 2 ^ 40 := by decide
def f62 : Fn := q62.1[0]?.getD default
theorem zG : a_ (cC f62.body []) = [[104], [120]] := by decide
theorem all62 : kS f62 = [[102], [120], [121], [104], [120], [121]] := by decide
theorem AR : size f62.body = 7 := by decide
theorem nest62 : c_ f62.body = 1 := by decide
theorem par62 : f62.params.length = 1 := by decide
set_option maxHeartbeats 8000000
theorem wQ {α : Type} {a b : List α} {i : Nat} (h1 : i < a.length) (h2 : i < b.length) (h : a.take i = b.take i) (he : a[i]? = b[i]?) : a.take (i + 1) = b.take (i + 1) := by
 rw [List.take_add_one, List.take_add_one, h, he]
theorem lB (a b : List (List UInt8)) (ha : a.length < 2 ^ 60) : Pure Tryz.prog 10 [.sl (em aN a), .sl (em aN b)] (.pl (.bool (decide (a = b)))) := by
 refine fi10.pu (by simp) ?_
 by_cases hl : a.length = b.length
 ·have hl2 : (a.length : Int) = (b.length : Int) := by omega
  simp -implicitDefEqProofs [ac10, hl2]
  generalize hR : decide (a = b) = R
  refine lpG cf10 lb10_0 [4, 5] (α := Nat) (fun s _ => [(4, .top), (5, I s)]) (fun s _ => []) (fun s k => s ≤ a.length ∧ a.take s = b.take s) (fun s => a.length - s) 0 ⟨by simp, by simp⟩ (by simp) (by simp) ?_
  rintro i k ⟨hi, hc⟩
  by_cases hlt : i < a.length
  ·have hlt2 : i < b.length := by omega
   have hlti : (i : Int) < (b.length : Int) := by omega
   have w1 := aY (x := (i : Int) + 1) (by omega) (by omega)
   obtain ⟨p, hp⟩ : ∃ p, a[i] = p := ⟨_, rfl⟩
   obtain ⟨q, hq⟩ : ∃ q, b[i] = q := ⟨_, rfl⟩
   by_cases he : p = q
   ·simp -implicitDefEqProofs [lb10_0, hlt, hlt2, hlti, hl2, hp, hq, he, w1]
    exact aI (i + 1) ⟨hlt, wQ hlt hlt2 hc (by rw [List.getElem?_eq_getElem hlt, List.getElem?_eq_getElem hlt2, hp, hq, he])⟩ (by omega) (by simp) (by simp)
   ·have hno : R = false := by
     rw [← hR, decide_eq_false_iff_not]
     rintro rfl
     rw [hp] at hq
     exact he hq
    subst hno
    simp -implicitDefEqProofs [lb10_0, hlt, hlt2, hlti, hl2, hp, hq, he]
  ·have hil : i = a.length := by omega
   subst hil
   rw [List.take_length, hl, List.take_length] at hc
   have hyes : R = true := by rw [← hR, decide_eq_true_eq]; exact hc
   subst hyes
   have hlt2 : ¬ a.length < b.length := by omega
   simp -implicitDefEqProofs [lb10_0, hlt, hlt2, hl2]
 ·have hl2 : ¬ (a.length : Int) = (b.length : Int) := by omega
  have e : decide (a = b) = false := by rw [decide_eq_false_iff_not]; exact fun h => hl (by rw [h])
  rw [e]
  simp -implicitDefEqProofs [ac10, hl2]
theorem CP : fJ f62.body = [[104], [120]] := by
 unfold fJ; rw [zG]
 exact uM (by decide) (by decide) (fun x => Iff.rfl)
theorem D_ : fZ f62 = [[102], [104], [120], [121]] := by
 unfold fZ; rw [all62]
 refine uM (by decide) (by decide) (fun x => ?_)
 simp only [List.mem_cons, List.not_mem_nil, or_false]
 constructor
 ·rintro (h | h | h | h | h | h) <;> simp [h]
 ·rintro (h | h | h | h) <;> simp [h]
theorem EH : lD [[116, 50]] 2 = [[116, 49], [116, 51]] := by
 have d1 : Lib.decDigits 1 = [49] := by rw [jW (by decide)]; decide
 have d2 : Lib.decDigits 2 = [50] := by rw [jW (by decide)]; decide
 have d3 : Lib.decDigits 3 = [51] := by rw [jW (by decide)]; decide
 simp [lD, j5, nm, d1, d2, d3, bA]
theorem lit61 : em cQ s61 = [[By 102], [By 40], [By 120], [By 32], [By 78], [By 44], [By 120], [By 32], [By 76], [By 41], [By 58], [By 78], [By 61], [By 122], [By 43], [By 103], [By 40], [By 41], [By 59]] := rfl
theorem lit62 : em cQ s62 = [[By 102], [By 40], [By 120], [By 32], [By 78], [By 41], [By 58], [By 78], [By 61], [By 108], [By 101], [By 116], [By 32], [By 121], [By 32], [By 78], [By 61], [By 104], [By 43], [By 120], [By 32], [By 105], [By 110], [By 32], [By 49], [By 43], [By 121], [By 59]] := rfl
theorem sz62 : size f62.body ≤ 2 ^ 40 := by rw [AR]; decide
theorem nb62 : NbFn f62 := by
 have h : NbF q62.1 := Run.nb (t := s62) (.inr ⟨40, _, _, p62, rfl, by decide⟩)
 have hl2 : 0 < q62.1.length := by rw [len62]; decide
 refine h f62 ?_
 have e : f62 = q62.1[0] := by unfold f62; rw [List.getElem?_eq_getElem hl2]; rfl
 rw [e]; exact List.getElem_mem hl2
theorem tA : Pure Tryz.prog 6 [] (.pl (.bool true)) := by
 refine fi6.pu (by simp) ?_
 have h1 := qR read61
 have h2 := qR read62
 have hc := D8 q61.1 (by rw [len61]; decide) sz61
 rw [CU] at hc
 have hf := zQ f62.body sz62 nb62.body
 have hu := yI f62.body [120] sz62
 have hn := tQ f62 sz62 (by rw [par62]; decide) nb62
 have hs := uU f62.body sz62
 have hne := qY f62.body sz62
 have hfr := DK [[116, 50]] 2 (by decide) (fun _ k hk => u6 k (Nat.le_trans hk (by decide)))
 have e2 : (2 : Int).toNat = 2 := rfl
 rw [if_pos (by decide), e2, EH] at hfr
 rw [CP] at hf
 rw [zG] at hu
 rw [D_] at hn
 rw [AR] at hs
 rw [nest62] at hne
 have hc1 : (([[104], [120]] : List (List UInt8)).count [120] : Int) = 1 := by decide
 rw [hc1] at hu
 have s1 := lB [[104], [120]] [[104], [120]] (by decide)
 have s2 := lB [[102], [104], [120], [121]] [[102], [104], [120], [121]] (by decide)
 have s3 := lB [[116, 49], [116, 51]] [[116, 49], [116, 51]] (by decide)
 have hl2 : 0 < q62.1.length := by rw [len62]; decide
 have hf1 : (q62.1[0]?.getD default) = f62 := rfl
 have hf2 : q62.1[0] = f62 := by unfold f62; rw [List.getElem?_eq_getElem hl2]; rfl
 simp only [aA] at hf hu hs
 generalize f62 = F at *
 generalize q61.1 = L1 at *
 generalize q62.1 = L2 at *
 rw [lit61] at h1
 rw [lit62] at h2
 have hd0 : decide ((0 : Int) = 0) = true := rfl
 rw [hd0] at h1 h2
 have l1 : em aN [[104], [120]] = [[Tx [104]], [Tx [120]]] := rfl
 have l2 : em aN [[102], [104], [120], [121]] = [[Tx [102]], [Tx [104]], [Tx [120]], [Tx [121]]] := rfl
 have l3 : em aN [[116, 49], [116, 51]] = [[Tx [116, 49]], [Tx [116, 51]]] := rfl
 have l4 : em aN [[116, 50]] = [[Tx [116, 50]]] := rfl
 have dt : ∀ {p : Prop} [Decidable p], p → decide p = true := fun h => decide_eq_true h
 rw [dt rfl, l1] at s1
 rw [dt rfl, l2] at s2
 rw [dt rfl, l3] at s3
 rw [l1] at hf
 rw [l2] at hn
 rw [l3, l4] at hfr
 simp -implicitDefEqProofs [ac6]
 refine aH h1 (by simp) ?_
 simp -implicitDefEqProofs
 refine aH h2 (by simp) ?_
 simp -implicitDefEqProofs [hf1, hf2, hl2]
 refine aH (hfr) (by simp) ?_
 simp -implicitDefEqProofs [hf1, hf2, hl2]
 refine aH (hc) (by simp) ?_
 simp -implicitDefEqProofs [DT, hf1, hf2, hl2]
 refine aH (hf) (by simp) ?_
 simp -implicitDefEqProofs [hf1, hf2, hl2]
 refine aH (s1) (by simp) ?_
 simp -implicitDefEqProofs [hf1, hf2, hl2]
 refine aH (hu) (by simp) ?_
 simp -implicitDefEqProofs [hf1, hf2, hl2]
 refine aH (hn) (by simp) ?_
 simp -implicitDefEqProofs [hf1, hf2, hl2]
 refine aH (s2) (by simp) ?_
 simp -implicitDefEqProofs [hf1, hf2, hl2]
 refine aH (hs) (by simp) ?_
 simp -implicitDefEqProofs [hf1, hf2, hl2]
 refine aH (hne) (by simp) ?_
 simp -implicitDefEqProofs [hf1, hf2, hl2]
 refine aH (s3) (by simp) ?_
 simp -implicitDefEqProofs
set_option maxHeartbeats 4000000
theorem seenN (e : Ex) (hz : size e ≤ 2 ^ 37) : Pure Tryz.prog 42 [.agg (aP e), .pl (.slice none 0 0)] (.sl (em gY (cC e []))) :=
 AJ (sN rLe.refl (sN DE BH)) (y5 e (N := []) (by simp; omega))
theorem qL (T : List Sn) (i : Nat) (h : i < T.length) : a_ (T.take (i + 1)) = a_ (T.take i) ++ (if T[i].2 = true then [T[i].1.name] else []) := by
 rw [List.take_add_one, gF, List.getElem?_eq_getElem h]
 simp [a_]
theorem x5 (e : Ex) (hz : size e ≤ 2 ^ 37) : Pure Tryz.prog 17 [.agg (aP e)] (.sl (em aN (fJ e))) := by
 have hs := seenN e hz
 have hl := fL e []
 unfold fJ
 simp only [aA] at hs ⊢
 refine fi17.pu (by simp) ?_
 simp -implicitDefEqProofs [ac17]
 refine aH hs (by simp) ?_
 simp -implicitDefEqProofs
 generalize cC e [] = T at *
 have hfl := eM T
 have hsorted := uS (a_ T) (by omega)
 generalize hR : a_ T = R at *
 refine eR (j := 3) (k := 1) rfl (.inl rfl) ?_
 refine oL ?_
 refine lpG cf17 lb17_0 [3, 5] (α := Nat × Nat × List (List UInt8)) (fun s _ => [(3, .osl 7 s.2.1 0 s.2.2.length), (5, I s.1)]) (fun s _ => [(7, .arr s.2.1 1 (em aN s.2.2))]) (fun s k => 7 < k ∧ s.1 ≤ T.length ∧ s.2.2 = a_ (T.take s.1)) (fun s => T.length - s.1) (0, 0, []) ⟨by omega, by simp, by simp [a_]⟩ (by simp [upd]) (by simp [em]) ?_
 rintro ⟨i, v, l⟩ k ⟨hk, hi, hr⟩
 simp only at hk hi hr
 have hll : l.length ≤ T.length := by
  rw [hr]; have := eM (T.take i); rw [List.length_take] at this; omega
 by_cases hlt : i < T.length
 ·have hlti : (i : Int) < (T.length : Int) := by omega
  have w1 := aY (x := (i : Int) + 1) (by omega) (by omega)
  have hnx := qL T i hlt
  obtain ⟨y, hy⟩ : ∃ y, T[i] = y := ⟨_, rfl⟩
  rw [hy, ← hr] at hnx
  have b1 : (l.length + 1) * 16 ≤ 3 * 2 ^ 46 := by omega
  have hap : em aN l ++ [[Tx y.1.name]] = em aN (l ++ [y.1.name]) := iW (enc := aN) (x := y.1.name)
  cases hy2 : y.2 with
  | true =>
   rw [hy2, if_pos rfl] at hnx
   simp -implicitDefEqProofs [lb17_0, hlti, hlt, hy, hy2, b1, hap, w1]
   exact aI (i + 1, v + 1, l ++ [y.1.name]) ⟨by omega, hlt, hnx.symm⟩ (by simp only; omega) (by simp) (aK _)
  | false =>
   rw [hy2, if_neg (by simp), List.append_nil] at hnx
   simp -implicitDefEqProofs [lb17_0, hlti, hlt, hy, hy2, w1]
   exact aI (i + 1, v, l) ⟨by omega, hlt, hnx.symm⟩ (by simp only; omega) (by simp) (aK _)
 ·have hlti : ¬ (i : Int) < (T.length : Int) := by omega
  rw [List.take_of_length_le (by omega), hR] at hr
  subst hr
  simp -implicitDefEqProofs [lb17_0, hlti]
  refine sC (j := 3) (d := .osl 7 v 0 l.length) (d' := .sl (em aN l)) rfl (by simp [frz, look, List.take_of_length_le]) ?_
  simp -implicitDefEqProofs [upd]
  refine aH hsorted (by simp) ?_
  simp -implicitDefEqProofs
theorem xJ (e : Ex) (n : List UInt8) (hz : size e ≤ 2 ^ 37) : Pure Tryz.prog 34 [.agg (aP e), Tx n] (I ((a_ (cC e [])).count n)) := by
 have hs := seenN e hz
 have hl := fL e []
 simp only [aA] at hs ⊢
 refine fi34.pu (by simp) ?_
 simp -implicitDefEqProofs [ac34]
 refine aH hs (by simp) ?_
 simp -implicitDefEqProofs
 generalize cC e [] = T at *
 generalize hR : (a_ T).count n = R at *
 refine lpG cf34 lb34_0 [5, 7] (α := Nat × Nat) (fun s _ => [(5, I s.2), (7, I s.1)]) (fun s _ => []) (fun s k => s.1 ≤ T.length ∧ s.2 = (a_ (T.take s.1)).count n) (fun s => T.length - s.1) (0, 0) ⟨by simp, by simp [a_]⟩ (by simp) (by simp) ?_
 rintro ⟨i, c⟩ k ⟨hi, hr⟩
 simp only at hi hr
 have hcl : c ≤ T.length := by
  rw [hr]
  have h1 := List.count_le_length (a := n) (l := a_ (T.take i))
  have h2 := eM (T.take i); rw [List.length_take] at h2; omega
 by_cases hlt : i < T.length
 ·have hlti : (i : Int) < (T.length : Int) := by omega
  have w1 := aY (x := (i : Int) + 1) (by omega) (by omega)
  have w2 := aY (x := (c : Int) + 1) (by omega) (by omega)
  have hnx := congrArg (List.count n) (qL T i hlt)
  obtain ⟨y, hy⟩ : ∃ y, T[i] = y := ⟨_, rfl⟩
  rw [hy, List.count_append, ← hr] at hnx
  cases hy2 : y.2 with
  | true =>
   rw [hy2, if_pos rfl] at hnx
   by_cases he : y.1.name = n
   ·rw [he, List.count_singleton_self] at hnx
    simp -implicitDefEqProofs [lb34_0, hlti, hlt, hy, hy2, he, w1, w2]
    exact aI (i + 1, c + 1) ⟨hlt, hnx.symm⟩ (by simp only; omega) (by simp) (aK _)
   ·rw [List.count_singleton, if_neg (by simpa using he), Nat.add_zero] at hnx
    simp -implicitDefEqProofs [lb34_0, hlti, hlt, hy, hy2, he, w1]
    exact aI (i + 1, c) ⟨hlt, hnx.symm⟩ (by simp only; omega) (by simp) (aK _)
  | false =>
   rw [hy2, if_neg (by simp), List.count_nil, Nat.add_zero] at hnx
   simp -implicitDefEqProofs [lb34_0, hlti, hlt, hy, hy2, w1]
   exact aI (i + 1, c) ⟨hlt, hnx.symm⟩ (by simp only; omega) (by simp) (aK _)
 ·have hlti : ¬ (i : Int) < (T.length : Int) := by omega
  rw [List.take_of_length_le (by omega), hR] at hr
  subst hr
  simp -implicitDefEqProofs [lb34_0, hlti]
def SzR (e : Ex) : Prop := size e ≤ 2 ^ 40 → Pure Tryz.prog 35 [.agg (aP e)] (I (size e))
theorem AU (op : Int) (n t : List UInt8) (ty : Int) (z : Cx) (args : List Ex) (p : Int) (ih : ∀ x ∈ args, SzR x) : SzR (.mk op n t ty z args p) := by
 intro hz
 have hal := gC args
 have hR : ((size (.mk op n t ty z args p) : Nat) : Int) = 1 + (aS args : Int) := by simp only [size]; omega
 rw [hR]
 simp only [size] at hz
 generalize hRR : (1 + (aS args : Int)) = R at *
 simp only [bI]
 refine fi35.pu (by simp) ?_
 simp -implicitDefEqProofs [ac35]
 refine lpG cf35 lb35_0 [3, 4, 5] (α := Nat × Int) (fun s _ => [(3, I s.2), (4, I s.1)]) (fun s _ => []) (fun s k => s.1 ≤ args.length ∧ 1 ≤ s.2 ∧ s.2 + (aS (args.drop s.1) : Int) = R) (fun s => args.length - s.1) (0, 1) ⟨by simp, by simp, by simpa using hRR⟩ (by simp) (by simp) ?_
 rintro ⟨i, v⟩ k ⟨hi, hv1, hr⟩
 simp only at hi hv1 hr
 by_cases hlt : i < args.length
 ·have hlti : (i : Int) < (args.length : Int) := by omega
  have hd : args.drop i = args[i] :: args.drop (i + 1) := List.drop_eq_getElem_cons hlt
  rw [hd] at hr
  simp only [aS] at hr
  obtain ⟨x, hx⟩ : ∃ x, args[i] = x := ⟨_, rfl⟩
  have hxm : x ∈ args := by rw [← hx]; exact List.getElem_mem hlt
  rw [hx] at hr
  have hsx := gD hxm
  have hc := ih x hxm (by omega)
  simp only [aA] at hc
  have w1 := aY (x := (i : Int) + 1) (by omega) (by omega)
  have w2 := aY (x := v + (size x : Int)) (by omega) (by omega)
  simp -implicitDefEqProofs [lb35_0, hlti, hlt, hx]
  refine aH hc (by simp) ?_
  simp -implicitDefEqProofs [w1, w2]
  exact aI (i + 1, v + (size x : Int)) ⟨hlt, by simp only; omega, by simp only; omega⟩ (by simp only; omega) (by simp) (by simp)
 ·have hil : i = args.length := by omega
  subst hil
  rw [List.drop_length] at hr
  simp only [aS] at hr
  have hv : v = R := by simpa using hr
  simp -implicitDefEqProofs [lb35_0, hv]
mutual
theorem rL : ∀ e : Ex, SzR e
 | .mk op n t ty z args p => AU op n t ty z args p (qM args)
theorem qM : ∀ l : List Ex, ∀ x ∈ l, SzR x
 | [], x, h => by simp at h
 | y :: ys, x, h => (List.mem_cons.1 h).elim (fun he => he ▸ rL y) (fun h => qM ys x h)
end
set_option maxHeartbeats 8000000
theorem AY {P : List Fn} (h : yG P) : P.length < 2 ^ 40 ∧ ∀ f ∈ P, size f.body ≤ 2 ^ 37 ∧ f.params.length ≤ 2 ^ 37 := by
 obtain ⟨ms, a, b, _, hl, hr, hb, hF, _⟩ := h
 obtain ⟨k1, k2⟩ := p8 P a b hF
 exact ⟨by omega, fun f hf => by have := k2 f hf; omega⟩
def NdC (e : Ex) : Prop := size e ≤ 2 ^ 37 → Nb e → ∀ (n : List UInt8) (left : Nat), left ≤ 300 → Pure Tryz.prog 13 [.agg (aP e), Tx n, I left] (.pl (.bool true))
theorem ED (op : Int) (nn t : List UInt8) (ty : Int) (z : Cx) (args : List Ex) (p : Int) (ih : ∀ x ∈ args, NdC x) : NdC (.mk op nn t ty z args p) := by
 intro hz hb n left hl
 obtain ⟨e, he⟩ : ∃ e, Ex.mk op nn t ty z args p = e := ⟨_, rfl⟩
 rw [he] at hz hb ⊢
 have hargs : e.args = args := by rw [← he]; rfl
 have c1 := zQ e (by omega) hb
 have c2 := x5 e hz
 have c3 := yI e n (by omega)
 have c4 := xJ e n hz
 have c5 := uU e (by omega)
 have c6 := rL e (by omega)
 obtain ⟨c7, c8⟩ := nest_c e (by omega)
 have hfl : (fJ e).length < 2 ^ 60 := by
  unfold fJ
  have h1 := oV (a_ (cC e [])) []
  have h2 := eM (cC e [])
  have h3 := fL e []
  simp at h1; omega
 have s1 := lB (fJ e) (fJ e) hfl
 rw [decide_eq_true (rfl : fJ e = fJ e)] at s1
 simp only [aA] at c1 c2 c3 c4 c5 c6 ⊢
 refine fi13.pu (by simp) ?_
 simp -implicitDefEqProofs [ac13]
 refine aH (c1) (by simp) ?_
 simp -implicitDefEqProofs
 refine aH (c2) (by simp) ?_
 simp -implicitDefEqProofs
 refine aH (s1) (by simp) ?_
 simp -implicitDefEqProofs
 refine aH (c3) (by simp) ?_
 simp -implicitDefEqProofs
 refine aH (c4) (by simp) ?_
 simp -implicitDefEqProofs
 refine aH (c5) (by simp) ?_
 simp -implicitDefEqProofs
 refine aH (c6) (by simp) ?_
 simp -implicitDefEqProofs
 refine aH (c7) (by simp) ?_
 simp -implicitDefEqProofs
 refine aH (c8) (by simp) ?_
 simp -implicitDefEqProofs
 have hsa : ∀ x ∈ args, size x ≤ 2 ^ 37 := fun x hx => by
  have := gD hx
  rw [← he] at hz; simp only [size] at hz; omega
 have hba : ∀ x ∈ args, Nb x := fun x hx => by
  rw [← he] at hb; unfold Nb at hb; exact vP hb.2 hx
 have hal : args.length ≤ 2 ^ 37 := by
  have := gC args
  rw [← he] at hz; simp only [size] at hz; omega
 rw [hargs]
 refine lpG cf13 lb13_0 [2, 6, 7] (α := Nat × Nat) (fun s _ => [(2, I s.2), (7, I s.1)]) (fun s _ => []) (fun s k => s.1 ≤ args.length ∧ s.2 ≤ 300) (fun s => args.length - s.1) (0, left) ⟨by simp, hl⟩ (by simp) (by simp) ?_
 rintro ⟨i, c⟩ k ⟨hi, hc⟩
 simp only at hi hc
 by_cases hlt : i < args.length
 ·have hlti : (i : Int) < (args.length : Int) := by omega
  by_cases h0 : 0 < c
  ·have h0i : (0 : Int) < (c : Int) := by omega
   have w1 := aY (x := (i : Int) + 1) (by omega) (by omega)
   have w3 : IntKind.i64.wrap ((c : Int) / 2) = (c : Int) / 2 := aY (by omega) (by omega)
   obtain ⟨x, hx⟩ : ∃ x, args[i] = x := ⟨_, rfl⟩
   have hxm : x ∈ args := by rw [← hx]; exact List.getElem_mem hlt
   have hcx := ih x hxm (hsa x hxm) (hba x hxm) n (c / 2) (by omega)
   have e2 : ((c / 2 : Nat) : Int) = (c : Int) / 2 := by omega
   rw [e2] at hcx
   simp only [aA] at hcx
   simp -implicitDefEqProofs [lb13_0, hlti, hlt, hx, h0, h0i, w1, w3]
   refine aH hcx (by simp) ?_
   simp -implicitDefEqProofs [w1]
   exact aI (i + 1, c / 2) ⟨hlt, by simp only; omega⟩ (by simp only; omega) (by simp) (by simp)
  ·have h0i : ¬ (0 : Int) < (c : Int) := by omega
   simp -implicitDefEqProofs [lb13_0, hlti, hlt, h0, h0i]
 ·have hlti : ¬ (i : Int) < (args.length : Int) := by omega
  simp -implicitDefEqProofs [lb13_0, hlti, hlt]
mutual
theorem wI : ∀ e : Ex, NdC e
 | .mk op n t ty z args p => ED op n t ty z args p (tK args)
theorem tK : ∀ l : List Ex, ∀ x ∈ l, NdC x
 | [], x, h => by simp at h
 | y :: ys, x, h => (List.mem_cons.1 h).elim (fun he => he ▸ wI y) (fun h => tK ys x h)
end
theorem A3 {x : D} (h : Arg Tryz.prog 9 x) : ∃ l : List UInt8, x = Tx l := by
 obtain ⟨n, ds, h, k⟩ := h
 simp only [Tryz.underlying9] at k
 cases n with
 | zero => exact h.elim
 | succ n =>
  simp only [Wt, Tryz.underlying9] at h
  obtain ⟨s, rfl, _⟩ := h
  simp only [List.cons.injEq, and_true] at k
  refine ⟨s.data.toList, ?_⟩
  rw [← k]
theorem law_ScopeNames : ∀ xs, Args Tryz.prog Tryz.f4.params.toList xs → Pure Tryz.prog 4 xs (.pl (.bool true)) := by
 intro xs h
 rw [Tryz.params4] at h
 simp only [Args] at h
 obtain ⟨x, r, rfl, hx, y, r2, rfl, hy, rfl⟩ := h
 obtain ⟨t, rfl, ht⟩ := x_ hx
 obtain ⟨n, rfl⟩ := A3 hy
 obtain ⟨L, w, p, hr, hrun⟩ := A_ t ht
 have hc := qR hr
 have hnb := hrun.nb
 refine fi4.pu (by simp) ?_
 by_cases hw : w = 0
 ·have hk := hr.2.1 hw
  obtain ⟨hPl, hsz⟩ := AY hk
  have hd : decide (w = 0) = true := by simp [hw]
  rw [hd] at hc
  simp -implicitDefEqProofs [ac4]
  refine aH (tA) (by simp) ?_
  simp -implicitDefEqProofs
  refine aH (hc) (by simp) ?_
  simp -implicitDefEqProofs
  intro _
  refine lpG cf4 lb4_0 [4, 7] (α := Nat) (fun s _ => [(7, I s)]) (fun s _ => [(8, .box [.sl (em dG L)])]) (fun s k => 8 < k ∧ s ≤ L.length) (fun s => L.length - s) 0 ⟨by omega, by simp⟩ (by simp) (aK _) ?_
  rintro i k ⟨hk8, hi⟩
  by_cases hlt : i < L.length
  ·have hlti : (i : Int) < (L.length : Int) := by omega
   have w1 := aY (x := (i : Int) + 1) (by omega) (by omega)
   obtain ⟨f, hf⟩ : ∃ f, L[i] = f := ⟨_, rfl⟩
   have hfm : f ∈ L := by rw [← hf]; exact List.getElem_mem hlt
   have hfs := hsz f hfm
   have hfb := hnb f hfm
   have c1 := tQ f (by omega) (by omega) hfb
   have c2 := DJ f hfs.1 hfs.2
   have hnl : (fZ f).length < 2 ^ 60 := by
    unfold fZ
    have h1 := oV (kS f) []
    have h2 : (kS f).length ≤ 1 + f.params.length + 2 * size f.body := by
     unfold kS
     have := eY f.body
     rw [List.length_append]; simp; omega
    simp at h1; omega
   have s1 := lB (fZ f) (fZ f) hnl
   rw [decide_eq_true (rfl : fZ f = fZ f)] at s1
   have c3 := wI f.body hfs.1 hfb.body n 300 (by omega)
   simp only [aA] at c3
   simp -implicitDefEqProofs [lb4_0, hlti, hlt, hf]
   refine aH (c1) (by simp) ?_
   simp -implicitDefEqProofs [hlti, hlt, hf]
   refine aH (c2) (by simp) ?_
   simp -implicitDefEqProofs [hlti, hlt, hf]
   refine aH (s1) (by simp) ?_
   simp -implicitDefEqProofs [hlti, hlt, hf]
   refine aH (c3) (by simp) ?_
   simp -implicitDefEqProofs [w1]
   exact aI (i + 1) ⟨by omega, hlt⟩ (by omega) (by simp) (aK _)
  ·have hlti : ¬ (i : Int) < (L.length : Int) := by omega
   simp -implicitDefEqProofs [lb4_0, hlti, hlt]
 ·have hd : decide (w = 0) = false := by simp [hw]
  rw [hd] at hc
  simp -implicitDefEqProofs [ac4]
  refine aH (tA) (by simp) ?_
  simp -implicitDefEqProofs
  refine aH (hc) (by simp) ?_
  simp -implicitDefEqProofs
end Go.Fx.YtackkeoannbnbaaGreatDoor
set_option maxRecDepth 1000000
namespace Go.Proofs.YtackkeoannbnbaaGreatDoor.RowScopeNames
open Go Go.Fx Go.Proofs Go.Proofs.YtackkeoannbnbaaGreatDoor
theorem fnRow : sY Tryz.checked 4 Tryz.f4 Rows.scopeNamesSpec (Tryz.f4.resultTypes.getD 0 0) where
 own := by kernel_rfl
 noInit := by kernel_rfl
 func := Tryz.func4
 laid := by kernel_rfl
 params := by kernel_rfl
 res := by kernel_rfl
 bool := by kernel_rfl
 vars := rfl
 spec := by
  intro H ds h
  have h' : ds.length = 2 := h.trans (by kernel_rfl)
  match ds, h' with
  | [d0, d1], _ => rfl
theorem met (os : Os) (args : Array Value) : laidMetH Tryz.prog Rows.scopeNamesRow.laid ((World.laidAll Tryz.prog os Rows.scopeNamesRow.laid).forCall (fun _ _ => 0) ⟨#[], args, []⟩).memory := by
 rw [MakeChecks.laidMetH_plain _ _ _ (by kernel_rfl)]
 exact laidMet_laidAll args (by kernel_rfl) (by kernel_rfl)
theorem tabs (w : World) (h : laidMetH Tryz.prog Rows.scopeNamesRow.laid w) : TB Tryz.prog (· < w.heap.size) w :=
 Go.Fx.YtackkeoannbnbaaGreatDoor.tb_of_laid (G := 0) (by kernel_rfl) h (by kernel_rfl) (by kernel_rfl) (by kernel_rfl) (by kernel_rfl) (by kernel_rfl)
theorem over : Rows.scopeNamesRow.holds Tryz.pinned (OpenSpec.ofChange Rows.scopeNamesSpec) :=
 OpenClaim.holds_of_wide 4 Tryz.f4 rfl rfl rfl rfl rfl rfl rfl ⟨rfl, rfl, rfl, rfl, rfl⟩ rfl rfl rfl rfl rfl (by kernel_rfl) Tryz.func4 (by kernel_rfl)
  (of_decide_eq_true (by kernel_rfl)) (by unfold Func.isWrapper; first | (rw [if_pos (by decide +kernel)]; kernel_rfl) | (rw [if_neg (by decide +kernel)]; exact ⟨rfl, rfl⟩))
  (fun os started H enc _ => vD (C := Tryz.checked) (conds := []) (X := fun w => laidMetH Tryz.prog Rows.scopeNamesRow.laid w) fnRow started (fun _ _ hh h => h.of_heap hh) tabs
   (ChangeSpec.witness_shaped (enc := enc) (C := Tryz.checked) (os := os) (X := fun w _ => laidMetH Tryz.prog Rows.scopeNamesRow.laid w) false (World.laidAll Tryz.prog os Rows.scopeNamesRow.laid) #[.slice none 0 0, .string (ByteArray.mk #[])] 8 (World.laidAll_os _ _ _) (World.shaped_of_ZipB (by kernel_rfl) (by kernel_rfl)) (by kernel_rfl) (by kernel_rfl) (by kernel_rfl) (met os _)) Go.Fx.YtackkeoannbnbaaGreatDoor.law_ScopeNames)
theorem stands : (Tryz.f4.params.toList.all fun u => !Tryz.prog.wantsStandIn u) = true := by kernel_rfl
theorem carded : Rows.ScopeNamesCardSaid :=
 Claim7.holds_tied_plain_at .later [] [.data, .data, .data] true Rows.scopeNamesCard.stood.harness false
  over (fun _ h => by cases h) (by kernel_rfl) (fun _ h => by cases h) scopeNames_row_tie rfl ⟨rfl, rfl⟩ (by kernel_rfl) rfl
  (fun f fn hf hfn => by
   obtain rfl : f = 4 := Option.some.inj ((show Tryz.prog.funcNamed Rows.scopeNamesRow.func = some 4 by kernel_rfl).symm.trans hf) |>.symm
   obtain rfl : fn = Tryz.f4 := (Option.some.inj (Tryz.func4.symm.trans hfn)).symm
   exact ⟨by kernel_rfl, fun j t ht => by
    have hm : t ∈ Tryz.f4.params.toList := Array.mem_toList_iff.2 (Array.mem_of_getElem? ht)
    have := List.all_eq_true.1 stands t hm
    exact (show Tryz.prog.wantsStandIn t = false by simpa using this)⟩)
  (by kernel_rfl)
end Go.Proofs.YtackkeoannbnbaaGreatDoor.RowScopeNames
namespace Go.Proofs.YtackkeoannbnbaaGreatDoor
theorem scopeNames_holds : Rows.ScopeNamesCardSaid := RowScopeNames.carded
#print axioms scopeNames_holds
end Go.Proofs.YtackkeoannbnbaaGreatDoor

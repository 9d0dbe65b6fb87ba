/- AbsExprs holds: every expression within names has just the point that the document gives. No condition. -/
import Derived.Test.YtlhdpfaohphbaaaGreatMe5
import Derived.Test.YtlhdpfaohphbaaaGreatRows
set_option linter.all false
set_option maxRecDepth 100000
set_option maxHeartbeats 8000000
namespace Go.Fx.YtlhdpfaohphbaaaGreat
open Go Go.Fx Go.Proofs Go.Fx.Flt Rows
def nmB (l : List Pm) : Nls := (l.map fun b => (b.name, b.at')).reverse
def cC (l : List Pm) : List Pm := l.map fun b => ⟨b.name, b.type, 0⟩
theorem D1 {t p : Int} : ck t p = 0 ↔ aZ t ∧ Pin t p := by
 unfold ck Pin aZ
 constructor
 ·intro h
  split at h
  ·omega
  ·split at h
   ·rename_i h1 h2
    refine ⟨?_, h2⟩
    unfold tp at h1
    split at h1
    ·rename_i e; exact .inl e
    ·split at h1
     ·rename_i e; exact .inr (.inl e)
     ·split at h1
      ·rename_i e; exact .inr (.inr e)
      ·omega
   ·omega
 ·rintro ⟨h1, h2⟩
  have := nX h1
  rw [if_neg (by omega), if_pos h2]
theorem EnvR.binds : ∀ (l : List Pm), (∀ b ∈ l, ck b.type b.at' = 0) → EnvR (cC l) (nmB l) := by
 have key : ∀ (l env : List Pm) (N : Nls), (∀ b ∈ l, ck b.type b.at' = 0) → EnvR env N → EnvR (env ++ cC l) (nmB l ++ N) := by
  intro l
  induction l with
  | nil => intro env N _ h; simpa [nmB, cC] using h
  | cons x l ih =>
   intro env N hl h
   have hx := (D1.1 (hl x (by simp))).2
   have h2 := ih (env ++ [⟨x.name, x.type, 0⟩]) ((x.name, x.at') :: N) (fun b hb => hl b (by simp [hb])) (EnvR.one h hx)
   have e1 : env ++ [⟨x.name, x.type, 0⟩] ++ cC l = env ++ cC (x :: l) := by simp [cC]
   have e2 : nmB l ++ (x.name, x.at') :: N = nmB (x :: l) ++ N := by simp [nmB]
   rw [e1, e2] at h2
   exact h2
 intro l h
 have := key l [] [] h EnvR.nil
 simpa using this
theorem IB (l : List Pm) (i : Nat) (h : i < l.length) : nmB (l.take (i + 1)) = (l[i].name, l[i].at') :: nmB (l.take i) := by
 unfold nmB
 rw [List.take_add_one, List.getElem?_eq_getElem h, List.map_append, List.reverse_append]
 rfl
theorem wT (l : List Pm) (i : Nat) (h : i < l.length) : cC (l.take (i + 1)) = cC (l.take i) ++ [⟨l[i].name, l[i].type, 0⟩] := by
 unfold cC
 rw [List.take_add_one, List.getElem?_eq_getElem h, List.map_append]
 rfl
@[simp] theorem pS (l : List Pm) : (cC l).length = l.length := by simp [cC]
open Classical in
noncomputable def gS (P : List Fn) (T : List Tt) (l : List Pm) (e : Ex) : Int × Int := if SeeOk P T ∧ (∀ b ∈ l, ck b.type b.at' = 0) ∧ (ofF P (cC l) e).2 = 0 then (if 6 < bX e then (0, 23) else (ptF (aS P T) e (nmB l), 0)) else (0, 3)
theorem tL {P : List Fn} {T : List Tt} (hk : dC P) (hT : T.length < 2 ^ 44) (hw : TW T) (l : List Pm) (hl : l.length ≤ 2 ^ 42 + 2 ^ 39) (e : Ex) (hs : Sh e) (hz : size e ≤ 2 ^ 38) :
  Pure Tryz.prog 11 [.agg [.sl (em aV P)], .sl (em b8 T), .sl (em a7 l), .agg (aQ e)] (.tup [I (gS P T l e).1, I (gS P T l e).2]) := by
 obtain ⟨hPT, hPl, hsz⟩ := gR hk
 refine fi11.pu (by simp) ?_
 simp only [aA]
 simp -implicitDefEqProofs [ac11]
 have hno : ¬ (SeeOk P T ∧ (∀ b ∈ l, ck b.type b.at' = 0) ∧ (ofF P (cC l) e).2 = 0) → gS P T l e = (0, 3) := fun h => by unfold gS; exact if_neg h
 have hyes : (SeeOk P T ∧ (∀ b ∈ l, ck b.type b.at' = 0) ∧ (ofF P (cC l) e).2 = 0) → gS P T l e = if 6 < bX e then (0, 23) else (ptF (aS P T) e (nmB l), 0) := fun h => by unfold gS; exact if_pos h
 generalize gS P T l e = R at *
 refine aD (see_c hk hT hw (fun h n1 hn1 => ?_) (fun hok hid m n1 h0 hn1 hsg => ?_))
 ·rw [hno (fun g => h g.1)]
  simp -implicitDefEqProofs
 ·simp -implicitDefEqProofs []
  obtain ⟨q, hq⟩ : ∃ q, n1 + 2 + 1 + 1 + 3 = q := ⟨_, rfl⟩
  rw [hq]
  refine cA (j := 13) (k := 3) rfl (.inl rfl) ?_
  refine gP ?_
  have hqh : (q = hid) = False := eq_false (by omega)
  have hhq : (hid = q) = False := eq_false (by omega)
  refine lpG cf11 lb11_0 [8, 9, 12, 13, 15, 30] (α := Nat × Nat × List Pm × Nls) (fun s _ => [(12, cG s.2.2.2), (13, .osl q s.2.1 0 s.2.2.1.length), (30, I s.1)]) (fun s _ => [(q, .arr s.2.1 3 (em a7 s.2.2.1)), (hid, .map (bN m))]) (fun s k => q < k ∧ s.1 ≤ l.length ∧ (∀ j (h : j < l.length), j < s.1 → ck l[j].type l[j].at' = 0) ∧ s.2.2.1 = cC (l.take s.1) ∧ s.2.2.2 = nmB (l.take s.1)) (fun s => l.length - s.1) (0, 0, [], []) ⟨by omega, by simp, fun j _ h => absurd h (by omega), by simp [cC], by simp [nmB]⟩ (by simp [cG, upd]) (by simp) ?_
  rintro ⟨i, v, ev, N⟩ k ⟨hk1, hi, hck, hev, hN⟩
  simp only at hi hck hev hN hk1
  by_cases hlt : i < l.length
  ·have hlti : (i : Int) < (l.length : Int) := by omega
   have w1 := aT (x := (i : Int) + 1) (by omega) (by omega)
   have hnext := IB l i hlt
   rw [← hN] at hnext
   have henv := wT l i hlt
   rw [← hev] at henv
   obtain ⟨x, hx⟩ : ∃ x, l[i] = x := ⟨_, rfl⟩
   have hel : ev.length = i := by rw [hev, pS, List.length_take]; omega
   have b1 : (ev.length + 1) * 32 ≤ 3 * 2 ^ 46 := by omega
   have z1 : (k + 1 + 2 = q) = False := eq_false (by omega)
   have z2 : (q = k + 1 + 2) = False := eq_false (by omega)
   have z3 : (hid = k + 1 + 2) = False := eq_false (by omega)
   rw [hx] at hnext henv
   have hap : em a7 ev ++ [[Tx x.name, I x.type, I 0]] = em a7 (cC (l.take (i + 1))) := by rw [henv]; exact nD _ ⟨x.name, x.type, 0⟩
   by_cases hc : ck x.type x.at' = 0
   ·have hck2 : ∀ j (h : j < l.length), j < i + 1 → ck l[j].type l[j].at' = 0 := fun j h hj => by
     by_cases e : j = i
     ·subst e; rw [hx]; exact hc
     ·exact hck j h (by omega)
    cases N with
    | nil =>
     simp -implicitDefEqProofs [lb11_0, hlt, hlti, hx, w1]
     refine aG (iG x.type x.at') (by simp) ?_
     simp -implicitDefEqProofs
     simp -implicitDefEqProofs [hc, cG, b1, w1, z1, z2, hap]
     exact aI (i + 1, v + 1, cC (l.take (i + 1)), (x.name, x.at') :: []) ⟨by omega, hlt, hck2, rfl, hnext.symm⟩ (by simp only; omega) (by simp [cG, henv]) (aO (aL _) (by simp [look, z2, z3]))
    | cons y r =>
     simp -implicitDefEqProofs [lb11_0, hlt, hlti, hx, w1]
     refine aG (iG x.type x.at') (by simp) ?_
     simp -implicitDefEqProofs
     simp -implicitDefEqProofs [hc, cG, b1, w1, z1, z2, hap]
     exact aI (i + 1, v + 1, cC (l.take (i + 1)), (x.name, x.at') :: y :: r) ⟨by omega, hlt, hck2, rfl, hnext.symm⟩ (by simp only; omega) (by simp [cG, henv]) (aO (aL _) (by simp [look, z2, z3]))
   ·have hn : ¬ (SeeOk P T ∧ (∀ b ∈ l, ck b.type b.at' = 0) ∧ (ofF P (cC l) e).2 = 0) := fun h => hc (by rw [← hx]; exact h.2.1 _ (List.getElem_mem hlt))
    rw [hno hn]
    simp -implicitDefEqProofs [lb11_0, hlt, hlti, hx, w1]
    refine aG (iG x.type x.at') (by simp) ?_
    simp -implicitDefEqProofs
    simp -implicitDefEqProofs [hc]
    refine pW ?_
    simp -implicitDefEqProofs
  ·have hil : i = l.length := by omega
   subst hil
   rw [List.take_length] at hN hev
   subst hN
   subst hev
   have hall : ∀ b ∈ l, ck b.type b.at' = 0 := fun b hb => by
    obtain ⟨j, hj, rfl⟩ := List.mem_iff_getElem.1 hb
    exact hck j hj hj
   simp -implicitDefEqProofs [lb11_0]
   refine jW (j := 13) (d' := .sl (em a7 (cC l))) [(q, .arr v 3 (em a7 (cC l)))] [(hid, .map (bN m))] rfl (by simp [frz, look]; rw [List.take_of_length_le (by simp)]) (fun i b hb => ?_) (fun i b hb => ?_) (fun i => ?_) ?_
   ·rw [a8] at hb ⊢
    split at hb
    ·rename_i e; rw [if_pos e]; exact hb
    ·simp [look] at hb
   ·rw [a8, if_neg (by rintro rfl; simp [look, hhq] at hb)]; exact hb
   ·by_cases e : q = i
    ·subst e; exact .inr (by simp [look, hhq])
    ·left; rw [a8, if_neg e]; rfl
   ·simp -implicitDefEqProofs [upd]
    have hof := Of_c P (cC l) e hPl (by rw [pS]; omega) hs
    simp only [aA] at hof
    refine aG hof (by simp) ?_
    by_cases ho : (ofF P (cC l) e).2 = 0
    ·simp -implicitDefEqProofs [ho]
     have hR := hyes ⟨hok, hall, ho⟩
     refine aG (wJ e (by omega)) (by simp) ?_
     by_cases h6 : 6 < bX e
     ·rw [if_pos h6] at hR
      rw [hR]
      simp -implicitDefEqProofs [h6]
     ·rw [if_neg h6] at hR
      rw [hR]
      simp -implicitDefEqProofs [h6]
      rcases BO P (cC l) e with ⟨_, ht⟩ | h2
      ·have hwl := (F2 (P := P) (env := cC l) hs ht).1 (by rw [← ho])
       refine aD (vX e hsg hPT hs ht hwl (EnvR.binds l hall) (by omega) (fun n2 hn2 => ?_))
       simp -implicitDefEqProofs
      ·rw [h2] at ho; simp at ho
    ·rw [hno (fun g => ho g.2.2)]
     simp -implicitDefEqProofs [ho]
abbrev mP (P : List Fn) (i : Int) : Fn := P[i.toNat]?.getD default
abbrev bU (f : Fn) : List Int := f.params.map Pm.type
def kG (P : List Fn) (T : List Tt) (f : Fn) (tu : List Int) : Int := ptF (aS P T) f.body (nmF f.params tu)
open Classical in
noncomputable def jX (P : List Fn) (T : List Tt) (i : Int) (tu : List Int) : Int × Int :=
 if SeeOk P T then (if i < 0 ∨ (P.length : Int) ≤ i then (0, 2) else if (c9 (bU (mP P i)) tu).2 ≠ 0 then (0, (c9 (bU (mP P i)) tu).2) else if 6 < bX (mP P i).body then (0, 23) else (kG P T (mP P i) tu, 0)) else (0, 3)
theorem see_fn {P : List Fn} {T : List Tt} (hk : dC P) (hok : SeeOk P T) {i : Int} (h0 : 0 ≤ i) (hlt : i < P.length) : ∃ f, P[i.toNat]? = some f ∧ mP P i = f ∧ f ∈ P ∧ bD P f.params f.body f.type = [] ∧ size f.body ≤ 2 ^ 37 ∧ f.params.length ≤ 2 ^ 37 ∧ Sh f.body ∧ aZ f.type ∧ okT (bU f) ∧ (cR (bU f)).2 = 0 := by
 have hl : i.toNat < P.length := by omega
 obtain ⟨hPT, hPl, hsz⟩ := gR hk
 have hm := List.getElem_mem hl
 have hfit := hok.2.2 i.toNat hl
 have he := List.getElem?_eq_getElem hl
 refine ⟨P[i.toNat], he, by unfold mP; rw [he]; rfl, hm, (o7 hok.1).2 _ hm, (hsz _ hm).1, (hsz _ hm).2.1, (hsz _ hm).2.2, (hPT _ hm).1, ?_⟩
 rw [he] at hfit
 obtain ⟨h1, h2, h3⟩ := hfit
 have h4 := h1.1
 rw [h3] at h4
 exact ⟨(gQ h4).1, h4⟩
theorem H0 {P : List Fn} {T : List Tt} (hk : dC P) (hT : T.length < 2 ^ 44) (hw : TW T) (i : Int) (tu : List Int) (hu : tu.length < 2 ^ 48) :
  Pure Tryz.prog 19 [.agg [.sl (em aV P)], .sl (em b8 T), I i, .sl (em a9 tu)] (.tup [I (jX P T i tu).1, I (jX P T i tu).2]) := by
 obtain ⟨hPT, hPl, hsz⟩ := gR hk
 refine fi19.pu (by simp) ?_
 simp -implicitDefEqProofs [ac19]
 have hno : ¬ SeeOk P T → jX P T i tu = (0, 3) := fun h => by unfold jX; exact if_neg h
 have hyes : SeeOk P T → jX P T i tu = (if i < 0 ∨ (P.length : Int) ≤ i then (0, 2) else if (c9 (bU (mP P i)) tu).2 ≠ 0 then (0, (c9 (bU (mP P i)) tu).2) else if 6 < bX (mP P i).body then (0, 23) else (kG P T (mP P i) tu, 0)) := fun h => by unfold jX; exact if_pos h
 generalize jX P T i tu = R at *
 refine aD (see_c hk hT hw (fun h n1 hn1 => ?_) (fun hok hid m n1 h0 hn1 hsg => ?_))
 ·rw [hno h]
  simp -implicitDefEqProofs
 ·have hR := hyes hok
  clear hyes hno
  by_cases hi0 : i < 0
  ·rw [if_pos (.inl hi0)] at hR
   rw [hR]
   simp -implicitDefEqProofs [hi0]
  ·by_cases hil : (P.length : Int) ≤ i
   ·rw [if_pos (.inr hil)] at hR
    rw [hR]
    simp -implicitDefEqProofs [hi0, hil]
   ·rw [if_neg (by omega)] at hR
    have hi1 : 0 ≤ i := by omega
    have hi2 : i < (P.length : Int) := by omega
    have hi3 : i.toNat < P.length := by omega
    have hi4 : i < (T.length : Int) := by rw [hok.2.1]; exact hi2
    have hi5 : i.toNat < T.length := by omega
    obtain ⟨f, hf, hfa, hfm, hwl, hs1, hs2, hs3, hty, hokT, hcnt⟩ := see_fn hk hok hi1 hi2
    have hf2 : P[i.toNat] = f := by rw [List.getElem?_eq_getElem hi3] at hf; simpa using hf
    obtain ⟨x, hx⟩ : ∃ x, T[i.toNat] = x := ⟨_, rfl⟩
    have hfit := hok.2.2 i.toNat hi3
    rw [hf, List.getElem?_eq_getElem hi5, hx] at hfit
    obtain ⟨_, _, hps⟩ := hfit
    simp only [Option.getD_some] at hps
    rw [hfa] at hR
    simp -implicitDefEqProofs [hi0, hil, hi1, hi2, hi3, hi4, hi5, hf2, hx, x3, hps]
    refine aG (AB (bU f) tu (by simp; omega) hu) (by simp) ?_
    by_cases hnum : (c9 (bU f) tu).2 = 0
    ·rw [if_neg (by simpa using hnum)] at hR
     simp -implicitDefEqProofs [hnum, hi1, hi2, hi3, hf2]
     refine aG (wJ f.body (by omega)) (by simp) ?_
     by_cases h6 : 6 < bX f.body
     ·rw [if_pos h6] at hR
      rw [hR]
      simp -implicitDefEqProofs [h6]
     ·rw [if_neg h6] at hR
      rw [hR]
      simp -implicitDefEqProofs [h6]
      have hin : inT (bU f) tu = true := by
       unfold c9 at hnum
       rw [if_neg (by simpa using hcnt)] at hnum
       split at hnum
       ·simp at hnum
       ·split at hnum
        ·assumption
        ·simp at hnum
      refine aD (body_c i f tu hsg hPT hi1 hi3 hf2 hs3 hwl (by omega) (by omega) hin (fun n2 hn2 => ?_))
      simp -implicitDefEqProofs [kG]
    ·rw [if_pos (by simpa using hnum)] at hR
     rw [hR]
     simp -implicitDefEqProofs [hnum]
def qE (P : List Fn) (env : List Pm) (e : Ex) : List Int → Int × Int
 | [] => (0, 34)
 | t :: ts => if d_ P env e t = [] then (t, 0) else qE P env e ts
theorem rof_eq {P : List Fn} {env : List Pm} {e : Ex} (hP : PT P) (hn : NB P e) (hs : Sh e) (he : ∀ x ∈ env, aZ x.type) : qE P env e [1, 2, 3] = ofF P env e := by
 have key : ∀ (l : List Int), (∀ t ∈ l, aZ t) → qE P env e l = ofL P env e l := by
  intro l
  induction l with
  | nil => intro _; rfl
  | cons t ts ih =>
   intro h
   have hp := rE hP env e t hn hs (h t (by simp)) he
   have hiff : d_ P env e t = [] ↔ bD P env e t = [] := ⟨fun g => by rw [g] at hp; exact hp.eq_nil, fun g => by rw [g] at hp; exact hp.symm.eq_nil⟩
   unfold qE ofL
   rw [ih (fun u hu => h u (by simp [hu]))]
   by_cases g : bD P env e t = []
   ·rw [if_pos g, if_pos (hiff.2 g)]
   ·rw [if_neg g, if_neg (fun k => g (hiff.1 k))]
 exact key _ (by intro t ht; unfold aZ; simpa using ht)
theorem rOf_c (P : List Fn) (env : List Pm) (e : Ex) (hP : P.length < 2 ^ 40) (hz : env.length + 2 * size e ≤ 5 * 2 ^ 40 ∧ size e ≤ 2 ^ 38) (hs : Sh e) :
  Pure Tryz.prog 42 [.agg [.sl (em aV P)], .sl (em a7 env), .agg (aQ e)] (.tup [I (qE P env e [1, 2, 3]).1, I (qE P env e [1, 2, 3]).2]) := by
 refine fi42.pu (by simp) ?_
 have hx := fun t => vL P hP e (env := env) (t := t) hs hz
 simp only [aA] at hx ⊢
 simp -implicitDefEqProofs [ac42]
 generalize hR : qE P env e [1, 2, 3] = R
 refine lpG cf42 lb42_0 [6, 7, 8, 9] (α := Nat) (fun s _ => [(8, I (s + 1))]) (fun s _ => []) (fun s k => s ≤ 3 ∧ qE P env e (([1, 2, 3] : List Int).drop s) = R) (fun s => 3 - s) 0 ⟨by omega, hR⟩ (by simp) (by simp) ?_
 rintro i k ⟨hi, hr⟩
 by_cases hlt : i < 3
 ·have w1 := aT (x := (i : Int) + 1 + 1) (by omega) (by omega)
  have hgo : ∃ rest, ([1, 2, 3] : List Int).drop i = ((i : Int) + 1) :: rest ∧ ([1, 2, 3] : List Int).drop (i + 1) = rest := by
   match i, hlt with
   | 0, _ => exact ⟨[2, 3], rfl, rfl⟩
   | 1, _ => exact ⟨[3], rfl, rfl⟩
   | 2, _ => exact ⟨[], rfl, rfl⟩
  obtain ⟨rest, d1, d2⟩ := hgo
  rw [d1] at hr
  unfold qE at hr
  have hlt2 : (i : Int) + 1 ≤ 3 := by omega
  have hlt3 : (i : Int) ≤ 2 := by omega
  simp -implicitDefEqProofs [lb42_0, hlt2, hlt3]
  refine aG (hx ((i : Int) + 1)) (by simp) ?_
  by_cases hn : d_ P env e ((i : Int) + 1) = []
  ·rw [if_pos hn] at hr
   subst hr
   simp -implicitDefEqProofs [hn]
  ·rw [if_neg hn] at hr
   have hn2 : ¬ (d_ P env e ((i : Int) + 1)).length = 0 := fun g => hn (List.length_eq_zero_iff.1 g)
   have hn3 : ¬ ((d_ P env e ((i : Int) + 1)).length : Int) = 0 := by omega
   simp -implicitDefEqProofs [hn, hn2, hn3, w1]
   exact aI (i + 1) ⟨by omega, by rw [d2]; exact hr⟩ (by omega) (by simp) (by simp)
 ·have h3 : i = 3 := by omega
  subst h3
  have : R = (0, 34) := by rw [← hr]; rfl
  rw [this]
  simp -implicitDefEqProofs [lb42_0]
theorem iP {P : List Fn} (h : dC P) : P.length ≤ 2 ^ 21 ∧ ∀ f ∈ P, size f.body ≤ 2 ^ 21 ∧ f.params.length ≤ 2 ^ 21 := by
 obtain ⟨ms, a, b, _, hl, hr, hb, hF, _⟩ := h
 obtain ⟨k1, k2⟩ := mI P a b hF
 exact ⟨by omega, fun f hf => by have := k2 f hf; omega⟩
theorem tys_c {P : List Fn} {f : Fn} (hk : dC P) (hf : f ∈ P) : Pure Tryz.prog 32 [.agg [Tx f.name, .sl (em a7 f.params), I f.type, I f.body.op, Tx f.body.name, Tx f.body.tail, I f.body.type, CX f.body.num.re f.body.num.im, .sl (em aQ f.body.args), I f.body.at', I f.at']] (.sl (em a9 (bU f))) := by
 have h := BB f (by have := ((iP hk).2 f hf).2; omega)
 rw [aR] at h
 exact h
def nmX (l : List Pm) : List (List UInt8 × Int) := l.map fun b => (b.name, b.at')
theorem HN (l : List Pm) (i : Nat) (h : i < l.length) : nmX (l.take (i + 1)) = nmX (l.take i) ++ [(l[i].name, l[i].at')] := by
 unfold nmX
 rw [List.take_add_one, List.getElem?_eq_getElem h, List.map_append]
 rfl
theorem wI {P : List Fn} {T : List Tt} (hk : dC P) (hT : T.length < 2 ^ 44) (hw : TW T) (l : List Pm) (hl : l.length ≤ 2 ^ 42 + 2 ^ 39) (e : Ex) (hs : Sh e) (hz : size e ≤ 2 ^ 38) (hnb : (fK P).1 = 0 → NB P e) :
  Pure Tryz.prog 12 [.agg [.sl (em aV P)], .sl (em b8 T), .sl (em a7 l), .agg (aQ e)] (.tup [I (gS P T l e).1, I (gS P T l e).2]) := by
 obtain ⟨hPT, hPl, hsz⟩ := gR hk
 obtain ⟨hPs, hfs⟩ := iP hk
 refine fi12.pu (by simp) ?_
 simp only [aA]
 simp -implicitDefEqProofs [ac12]
 have hno : ¬ (SeeOk P T ∧ (∀ b ∈ l, ck b.type b.at' = 0) ∧ (ofF P (cC l) e).2 = 0) → gS P T l e = (0, 3) := fun h => by unfold gS; exact if_neg h
 have hyes : (SeeOk P T ∧ (∀ b ∈ l, ck b.type b.at' = 0) ∧ (ofF P (cC l) e).2 = 0) → gS P T l e = if 6 < bX e then (0, 23) else (ptF (aS P T) e (nmB l), 0) := fun h => by unfold gS; exact if_pos h
 generalize gS P T l e = R at *
 have hsee := rsee_c hk hT hw
 by_cases hok : SeeOk P T
 ·have hd : sC P T = .tup [rsD P T, B true] := if_pos hok
  rw [hd] at hsee
  refine aG hsee (by simp) ?_
  simp -implicitDefEqProofs
  refine cA (j := 12) (k := 3) rfl (.inl rfl) ?_
  refine cA (j := 13) (k := 2) rfl (.inl rfl) ?_
  refine gP ?_
  refine gP ?_
  refine lpG cf12 lb12_0 [8, 9, 12, 13, 14, 15] (α := Nat × Nat × List Pm × List (List UInt8 × Int)) (fun s _ => [(12, .osl 17 s.2.1 0 s.2.2.1.length), (13, .osl 18 s.2.1 0 s.2.2.2.length), (14, I s.1)]) (fun s _ => [(18, .arr s.2.1 2 (em fO s.2.2.2)), (17, .arr s.2.1 3 (em a7 s.2.2.1))]) (fun s k => 18 < k ∧ s.1 ≤ l.length ∧ (∀ j (h : j < l.length), j < s.1 → ck l[j].type l[j].at' = 0) ∧ s.2.2.1 = cC (l.take s.1) ∧ s.2.2.2 = nmX (l.take s.1)) (fun s => l.length - s.1) (0, 0, [], []) ⟨by omega, by simp, fun j _ h => absurd h (by omega), by simp [cC], by simp [nmX]⟩ (by simp [upd]) (by simp) ?_
  rintro ⟨i, v, ev, N⟩ k ⟨hk1, hi, hck, hev, hN⟩
  simp only at hi hck hev hN hk1
  by_cases hlt : i < l.length
  ·have hlti : (i : Int) < (l.length : Int) := by omega
   have w1 := aT (x := (i : Int) + 1) (by omega) (by omega)
   have hnext := HN l i hlt
   rw [← hN] at hnext
   have henv := wT l i hlt
   rw [← hev] at henv
   obtain ⟨x, hx⟩ : ∃ x, l[i] = x := ⟨_, rfl⟩
   have hel : ev.length = i := by rw [hev, pS, List.length_take]; omega
   have hnl : N.length = i := by rw [hN]; unfold nmX; rw [List.length_map, List.length_take]; omega
   have b1 : (ev.length + 1) * 32 ≤ 3 * 2 ^ 46 := by omega
   have b2 : (N.length + 1) * 24 ≤ 3 * 2 ^ 46 := by omega
   rw [hx] at hnext henv
   have hap : em a7 ev ++ [[Tx x.name, I x.type, I 0]] = em a7 (cC (l.take (i + 1))) := by rw [henv]; exact nD _ ⟨x.name, x.type, 0⟩
   have hap2 : em fO N ++ [[Tx x.name, I x.at']] = em fO (nmX (l.take (i + 1))) := by rw [hnext]; exact eA (enc := fO) (x := (x.name, x.at'))
   by_cases hc : ck x.type x.at' = 0
   ·have hck2 : ∀ j (h : j < l.length), j < i + 1 → ck l[j].type l[j].at' = 0 := fun j h hj => by
     by_cases e : j = i
     ·subst e; rw [hx]; exact hc
     ·exact hck j h (by omega)
    simp -implicitDefEqProofs [lb12_0, hlt, hlti, hx, w1]
    refine aG (uU x.type x.at') (by simp) ?_
    simp -implicitDefEqProofs
    have k9 : (k = 9) = False := eq_false (by omega)
    have k10 : (k = 10) = False := eq_false (by omega)
    simp -implicitDefEqProofs [hc, b1, b2, w1, hap, hap2, k9, k10]
    exact aI (i + 1, v + 1, cC (l.take (i + 1)), nmX (l.take (i + 1))) ⟨by omega, hlt, hck2, rfl, rfl⟩ (by simp only; omega) (by simp [henv, hnext]) (aO (aL _) (by rw [a8, if_neg (by omega), a8, if_neg (by omega)]; rfl))
   ·have hn : ¬ (SeeOk P T ∧ (∀ b ∈ l, ck b.type b.at' = 0) ∧ (ofF P (cC l) e).2 = 0) := fun h => hc (by rw [← hx]; exact h.2.1 _ (List.getElem_mem hlt))
    rw [hno hn]
    simp -implicitDefEqProofs [lb12_0, hlt, hlti, hx, w1]
    refine aG (uU x.type x.at') (by simp) ?_
    simp -implicitDefEqProofs
    simp -implicitDefEqProofs [hc]
    refine pW (pW ?_)
    simp -implicitDefEqProofs
  ·have hil : i = l.length := by omega
   subst hil
   rw [List.take_length] at hN hev
   subst hN
   subst hev
   have hall : ∀ b ∈ l, ck b.type b.at' = 0 := fun b hb => by
    obtain ⟨j, hj, rfl⟩ := List.mem_iff_getElem.1 hb
    exact hck j hj hj
   simp -implicitDefEqProofs [lb12_0]
   refine jW (j := 13) (d' := .sl (em fO (nmX l))) [(18, .arr v 2 (em fO (nmX l)))] [(17, .arr v 3 (em a7 (cC l)))] rfl (by simp [frz, look]; try rw [List.take_of_length_le (by simp [nmX])]) (fun i b hb => ?_) (fun i b hb => ?_) (fun i => ?_) ?_
   ·rw [a8] at hb ⊢
    split at hb
    ·rename_i e; rw [if_pos e]; exact hb
    ·simp [look] at hb
   ·rw [a8, if_neg (by rintro rfl; simp [look] at hb)]; exact hb
   ·by_cases e : 18 = i
    ·subst e; exact .inr (by simp [look])
    ·left; rw [a8, if_neg e]; rfl
   ·refine jW (j := 12) (d' := .sl (em a7 (cC l))) [(17, .arr v 3 (em a7 (cC l)))] [] (by simp [upd]; rfl) (by simp [frz, look]; rw [List.take_of_length_le (by simp)]) (aE _) (iV _) (fun i => .inr rfl) ?_
    simp -implicitDefEqProofs [upd]
    have hof := rOf_c P (cC l) e hPl (by rw [pS]; omega) hs
    have hno2 := rof_eq (env := cC l) hPT (hnb hok.1) hs (fun x hx => by
     obtain ⟨b, hb, rfl⟩ := List.mem_map.1 hx
     exact (D1.1 (hall b hb)).1)
    rw [hno2] at hof
    simp only [aA] at hof
    refine aG hof (by simp) ?_
    by_cases ho : (ofF P (cC l) e).2 = 0
    ·simp -implicitDefEqProofs [ho]
     have hR := hyes ⟨hok, hall, ho⟩
     refine aG (zW e (by omega)).2 (by simp) ?_
     by_cases h6 : 6 < bX e
     ·have h6i : (6 : Int) < (bX e : Int) := by omega
      rw [if_pos h6] at hR
      rw [hR]
      simp -implicitDefEqProofs [h6i]
     ·have h6i : ¬ (6 : Int) < (bX e : Int) := by omega
      rw [if_neg h6] at hR
      rw [hR]
      simp -implicitDefEqProofs [h6i]
      rcases BO P (cC l) e with ⟨_, ht⟩ | h2
      ·have hwl := (F2 (P := P) (env := cC l) hs ht).1 (by rw [← ho])
       have hN := yW e (hok.tabs hw) (by omega) (fun g hg => by have := hfs g hg; omega) hPT hs ht hwl (EnvR.binds l hall) (by simp [nmB]; omega)
       have hrev : (nmB l).reverse = nmX l := by unfold nmB nmX; rw [List.reverse_reverse]
       rw [nmD, hrev] at hN
       refine aG hN (by simp) ?_
       simp -implicitDefEqProofs
      ·rw [h2] at ho; simp at ho
    ·rw [hno (fun g => ho g.2.2)]
     simp -implicitDefEqProofs [ho]
 ·have hd : sC P T = .tup [.pl (.pointer none), B false] := if_neg hok
  rw [hd] at hsee
  refine aG hsee (by simp) ?_
  rw [hno (fun h => hok h.1)]
  simp -implicitDefEqProofs
set_option maxRecDepth 1000000
set_option maxHeartbeats 0
noncomputable def cf9 : Cfg := ⟨Tryz.prog, 55, [0, 2, 3, 4, 5, 6, 7, 8], []⟩
noncomputable def lb9_0 : AC :=
 .seq (.ifr [JA 30 6, JG 31 0 4, JD 32 1 31, JO 33 (.len false (.t 32)), JO 34 (.bin .lss 3 (.t 30) (.t 33))] (.t 34) .skip (.exit 0)) (.seq (.block 1 (.seq (.reg [JG 38 0 4, JD 39 1 38, JA 40 6, JL 41 11 39 40, JE 42 11 41, JO 43 (.pc (.f 32) [.t 42]), JO 44 (.pc (.f 31) [.t 43]), JC 37 44, JK 45 0 37, JK 46 1 37, JB 7 45, JB 8 46]) (.ifr [JA 47 8, JO 48 (.bin .neq 3 (.t 47) (JT 0)), JC 49 48, JR 50 49 (.mv (.g 7)), JR 51 49 (.bin .gtr 3 (.t 50) (JT 256)), JO 52 (.pick (.t 49) JX (.t 51))] (.t 52) (.seq (.reg [JF 53 1 4, JQ (.st 1 (.g 2) (.t 53)), JP 3 (.mv JY)]) .ret) .skip))) (.reg [JA 35 6, JO 36 (.bin .add 3 (.t 35) (JT 1)), JB 6 36]))
noncomputable def ac9 : AC :=
 (.seq (.reg [JP 2 (.al [JW]), JP 3 (.mv JY)]) (.seq (.reg [JA 10 0, JO 11 (.pc (.f 30) []), JO 12 (.pc (.f 29) [.t 10, .t 11]), JC 9 12, JK 13 0 9, JK 14 1 9, JP 4 (.al [JW]), JP 5 (.al [JV, JV]), JQ (.st 1 (.g 4) (.t 13)), JQ (.st 2 (.g 5) (.t 14))]) (.seq (.ifr [JG 15 0 5, JD 16 1 15, JO 17 (.bin .neq 52 (.t 16) (JT 0)), JC 18 17, JR 19 18 (.fa 0 (.g 4)), JR 20 18 (.ld false 1 (.t 19)), JR 21 18 (.len false (.t 20)), JR 22 18 (.bin .gtr 3 (.t 21) (JT 40)), JO 23 (.pick (.t 18) JX (.t 22)), JC 24 23, JR 25 24 (.mv (.g 0)), JR 26 24 (.len false (.t 25)), JR 27 24 (.bin .gtr 3 (.t 26) (JT 8192)), JO 28 (.pick (.t 24) JX (.t 27))] (.t 28) (.seq (.reg [JF 29 1 4, JQ (.st 1 (.g 2) (.t 29)), JP 3 (.mv JY)]) .ret) .skip) (.seq (.seq (.reg [JI 6 0]) (.block 0 (.loop lb9_0))) (.seq (.reg [JF 54 1 4, JQ (.st 1 (.g 2) (.t 54)), JP 3 (.mv JX)]) .ret)))))
theorem fi9 : FI Tryz.prog 9 cf9 ac9 [.c 2 true 1, .t 3] [0, 2, 3, 4, 5, 6, 7, 8] 55 := FI_of (c := Tryz.f9.body.getD .skip) Tryz.func9 (by kernel_rfl) (by rfl) (by rfl) (by kernel_rfl) (by kernel_rfl) rfl rfl rfl
@[simp] theorem cfP9 : cf9.P = Tryz.prog := (rfl)
noncomputable def cf10 : Cfg := ⟨Tryz.prog, 78, [0, 1, 2, 4, 5, 6, 7, 8, 9, 11, 12], [32, 74, 76]⟩
noncomputable def lb10_0 : AC :=
 .seq (.ifr [JA 33 12, JA 34 9, JO 35 (.bin .lss 3 (.t 33) (.t 34)), JC 36 35, JS 37 36 (.mv (.g 1)), JS 38 36 (.len false (.t 37)), JS 39 36 (.bin .gtr 3 (.t 38) (JT 0)), JO 40 (.pick (.t 36) (.t 39) JY)] (.t 40) .skip (.exit 2)) (.seq (.block 3 (.seq (.reg [JA 43 11, JA 44 12, JA 45 1, JA 46 6, JA 47 1, JO 48 (.len false (.t 47)), JO 49 (.bin .rem 3 (.t 46) (.t 48)), JL 50 1 45 49, JD 51 1 50, JO 52 (.cv 5 3 (.t 51)), JG 53 0 2, JD 54 1 53, JA 55 7, JL 56 11 54 55, JH 57 2 56, JD 58 1 57, JO 59 (.pc (.f 33) [.t 58]), JO 60 (.bin .add 3 (.t 59) (JT 1)), JO 61 (.bin .rem 3 (.t 52) (.t 60)), JL 62 1 43 44, JQ (.st 1 (.t 62) (.t 61))]) (.reg [JA 63 6, JO 64 (.bin .add 3 (.t 63) (JT 1)), JB 6 64]))) (.reg [JA 41 12, JO 42 (.bin .add 3 (.t 41) (JT 1)), JB 12 42]))
noncomputable def lb10_1 : AC :=
 .seq (.ifr [JA 13 7, JG 14 0 2, JD 15 1 14, JO 16 (.len false (.t 15)), JO 17 (.bin .lss 3 (.t 13) (.t 16))] (.t 17) .skip (.exit 0)) (.seq (.block 1 (.seq (.reg [JG 20 0 2, JD 21 1 20, JA 22 7, JL 23 11 21 22, JE 24 11 23, JO 25 (.pc (.f 32) [.t 24]), JB 8 25]) (.seq (.reg [JA 27 8, JO 28 (.pc (.f 31) [.t 27]), JC 26 28, JK 29 0 26, JK 30 1 26, JB 9 29, JC 10 30]) (.seq (.reg [JA 31 9, JO 32 (.mks 1 8 [JV] (.t 31)), JB 11 32]) (.seq (.seq (.reg [JI 12 0]) (.block 2 (.loop lb10_0))) (.reg [JA 65 5, JA 66 8, JG 67 0 2, JD 68 1 67, JA 69 7, JL 70 11 68 69, JH 71 2 70, JD 72 1 71, JA 73 11, JO 74 (.cl (.f 34) [.t 66, .t 72, .t 73]), JO 75 (.bsl 4 1 [JW, JV, JV, JW] [(0, 4, .t 74)]), JO 76 (.app 4 64 [JW, JV, JV, JW] (.t 65) (.t 75)), JB 5 76])))))) (.reg [JA 18 7, JO 19 (.bin .add 3 (.t 18) (JT 1)), JB 7 19]))
noncomputable def ac10 : AC :=
 (.seq (.reg [JN 2 0, JP 4 (.mv (.c (.slice none 0 0)))]) (.seq (.reg [JP 5 (.mv (.c (.slice none 0 0)))]) (.seq (.reg [JI 6 0]) (.seq (.seq (.reg [JI 7 0]) (.block 0 (.loop lb10_1))) (.seq (.reg [JA 77 5, JB 4 77]) .ret)))))
theorem fi10 : FI Tryz.prog 10 cf10 ac10 [.t 4] [0, 1, 2, 4, 5, 6, 7, 8, 9, 11, 12] 78 := FI_of (c := Tryz.f10.body.getD .skip) Tryz.func10 (by kernel_rfl) (by rfl) (by rfl) (by kernel_rfl) (by kernel_rfl) rfl rfl rfl
@[simp] theorem cfP10 : cf10.P = Tryz.prog := (rfl)
noncomputable def cf8 : Cfg := ⟨Tryz.prog, 62, [0, 1, 3, 4, 5, 6, 7, 8, 9], [11, 12]⟩
noncomputable def ac8 : AC :=
 (.seq (.reg [JP 0 (.mv JY)]) (.seq (.reg [JO 11 (.bso 1 60 [.int .u8 0] [(0, 1, .c (.int .u8 103)), (1, 1, .c (.int .u8 40)), (2, 1, .c (.int .u8 108)), (3, 1, .c (.int .u8 32)), (4, 1, .c (.int .u8 76)), (5, 1, .c (.int .u8 41)), (6, 1, .c (.int .u8 58)), (7, 1, .c (.int .u8 76)), (8, 1, .c (.int .u8 61)), (9, 1, .c (.int .u8 108)), (10, 1, .c (.int .u8 59)), (11, 1, .c (.int .u8 102)), (12, 1, .c (.int .u8 40)), (13, 1, .c (.int .u8 108)), (14, 1, .c (.int .u8 32)), (15, 1, .c (.int .u8 76)), (16, 1, .c (.int .u8 41)), (17, 1, .c (.int .u8 58)), (18, 1, .c (.int .u8 78)), (19, 1, .c (.int .u8 61)), (20, 1, .c (.int .u8 99)), (21, 1, .c (.int .u8 97)), (22, 1, .c (.int .u8 115)), (23, 1, .c (.int .u8 101)), (24, 1, .c (.int .u8 32)), (25, 1, .c (.int .u8 108)), (26, 1, .c (.int .u8 32)), (27, 1, .c (.int .u8 111)), (28, 1, .c (.int .u8 102)), (29, 1, .c (.int .u8 32)), (30, 1, .c (.int .u8 110)), (31, 1, .c (.int .u8 105)), (32, 1, .c (.int .u8 108)), (33, 1, .c (.int .u8 45)), (34, 1, .c (.int .u8 62)), (35, 1, .c (.int .u8 49)), (36, 1, .c (.int .u8 124)), (37, 1, .c (.int .u8 104)), (38, 1, .c (.int .u8 58)), (39, 1, .c (.int .u8 116)), (40, 1, .c (.int .u8 45)), (41, 1, .c (.int .u8 62)), (42, 1, .c (.int .u8 104)), (43, 1, .c (.int .u8 59)), (44, 1, .c (.int .u8 107)), (45, 1, .c (.int .u8 40)), (46, 1, .c (.int .u8 108)), (47, 1, .c (.int .u8 32)), (48, 1, .c (.int .u8 76)), (49, 1, .c (.int .u8 41)), (50, 1, .c (.int .u8 58)), (51, 1, .c (.int .u8 76)), (52, 1, .c (.int .u8 61)), (53, 1, .c (.int .u8 103)), (54, 1, .c (.int .u8 40)), (55, 1, .c (.int .u8 49)), (56, 1, .c (.int .u8 58)), (57, 1, .c (.int .u8 108)), (58, 1, .c (.int .u8 41)), (59, 1, .c (.int .u8 59))]), JO 12 (.cvo (.t 11)), JO 13 (.pc (.f 9) [.t 12]), JC 10 13, JK 14 0 10, JK 15 1 10, JP 1 (.al [JW]), JQ (.st 1 (.g 1) (.t 14)), JC 2 15]) (.seq (.reg [JF 16 1 1, JO 17 (.bsl 1 12 [.int .u8 0] [(0, 1, .c (.int .u8 0)), (1, 1, .c (.int .u8 1)), (2, 1, .c (.int .u8 2)), (3, 1, .c (.int .u8 3)), (4, 1, .c (.int .u8 0)), (5, 1, .c (.int .u8 0)), (6, 1, .c (.int .u8 0)), (7, 1, .c (.int .u8 0)), (8, 1, .c (.int .u8 0)), (9, 1, .c (.int .u8 1)), (10, 1, .c (.int .u8 2)), (11, 1, .c (.int .u8 3))]), JO 18 (.pc (.f 10) [.t 16, .t 17]), JB 3 18]) (.seq (.reg [JF 20 1 1, JA 21 3, JO 22 (.bsl 1 1 [JV] [(0, 1, .c (.int .i64 2))]), JO 23 (.pc (.f 19) [.t 20, .t 21, .c (.int .i64 1), .t 22]), JC 19 23, JK 24 0 19, JK 25 1 19, JB 4 24, JB 5 25]) (.seq (.reg [JF 27 1 1, JA 28 3, JO 29 (.bsl 1 1 [JV] [(0, 1, .c (.int .i64 2))]), JO 30 (.pc (.f 19) [.t 27, .t 28, .c (.int .i64 2), .t 29]), JC 26 30, JK 31 0 26, JK 32 1 26, JB 6 31, JB 7 32]) (.seq (.reg [JF 34 1 1, JA 35 3, JO 36 (.bsl 1 1 [JV] [(0, 1, .c (.int .i64 0))]), JO 37 (.pc (.f 19) [.t 34, .t 35, .c (.int .i64 1), .t 36]), JC 33 37, JK 38 0 33, JK 39 1 33, JB 8 38, JB 9 39]) (.seq (.reg [JA 40 4, JO 41 (.bin .eql 49 (.t 40) (JT 1)), JC 42 41, JS 43 42 (.mv (.g 5)), JS 44 42 (.bin .eql 52 (.t 43) (JT 0)), JO 45 (.pick (.t 42) (.t 44) JY), JC 46 45, JS 47 46 (.mv (.g 6)), JS 48 46 (.bin .eql 49 (.t 47) (JT 2)), JO 49 (.pick (.t 46) (.t 48) JY), JC 50 49, JS 51 50 (.mv (.g 7)), JS 52 50 (.bin .eql 52 (.t 51) (JT 0)), JO 53 (.pick (.t 50) (.t 52) JY), JC 54 53, JS 55 54 (.mv (.g 8)), JS 56 54 (.bin .eql 49 (.t 55) (JT 0)), JO 57 (.pick (.t 54) (.t 56) JY), JC 58 57, JS 59 58 (.mv (.g 9)), JS 60 58 (.bin .eql 52 (.t 59) (JT 0)), JO 61 (.pick (.t 58) (.t 60) JY), JB 0 61]) .ret)))))))
theorem fi8 : FI Tryz.prog 8 cf8 ac8 [.t 0] [0, 1, 3, 4, 5, 6, 7, 8, 9] 62 := FI_of (c := Tryz.f8.body.getD .skip) Tryz.func8 (by kernel_rfl) (by rfl) (by rfl) (by kernel_rfl) (by kernel_rfl) rfl rfl rfl
@[simp] theorem cfP8 : cf8.P = Tryz.prog := (rfl)
noncomputable def cf5 : Cfg := ⟨Tryz.prog, 113, [0, 1, 2, 3, 8, 9, 10, 11, 12, 13, 14, 15, 16, 17, 18, 19, 20, 21, 22, 23, 24], []⟩
@[simp] theorem cfP5 : cf5.P = Tryz.prog := (rfl)
set_option maxRecDepth 100000
set_option maxHeartbeats 8000000
def mK (t : List UInt8) (L : List Fn) (w : Int) : Prop := w = 0 ∧ L.length ≤ 40 ∧ t.length ≤ 8192 ∧ ∀ f ∈ L, (cR (bU f)).2 = 0 ∧ (cR (bU f)).1 ≤ 256
open Classical in
noncomputable def i9 (t : List UInt8) (L : List Fn) (w : Int) : Bool := decide (mK t L w)
theorem zP {t : List UInt8} {L : List Fn} {w p : Int} (h : uB t L w p) : Pure Tryz.prog 9 [.sl (em c_ t)] (.tup [.agg [.sl (em aV L)], B (i9 t L w)]) := by
 have hno : ¬ mK t L w → i9 t L w = false := fun h => by simp [i9, h]
 have hyes : mK t L w → i9 t L w = true := fun h => by simp [i9, h]
 obtain ⟨h1, h2, h3⟩ := h
 refine fi9.pu (by simp) ?_
 generalize i9 t L w = R at *
 simp -implicitDefEqProofs [ac9]
 refine aG (wide_c) (by simp) ?_
 simp -implicitDefEqProofs
 refine aG (h1) (by simp) ?_
 simp -implicitDefEqProofs
 by_cases hw : w = 0
 ·have hk := h2 hw
  by_cases hl : L.length ≤ 40
  ·have hli : (L.length : Int) ≤ (40 : Int) := by omega
   by_cases ht : t.length ≤ 8192
   ·have hti : (t.length : Int) ≤ (8192 : Int) := by omega
    simp -implicitDefEqProofs [hw, hli, hti, Int.not_lt.2 hli, Int.not_lt.2 hti]
    refine lpG cf9 lb9_0 [3, 6, 7, 8] (α := Nat) (fun s _ => [(3, .top), (6, I s)]) (fun s _ => [(9, .box [I 0, I p]), (8, .box [.sl (em aV L)]), (0, .box [.pl (.slice none 0 0)])]) (fun s k => s ≤ L.length ∧ ∀ j (h : j < L.length), j < s → (cR (bU L[j])).2 = 0 ∧ (cR (bU L[j])).1 ≤ 256) (fun s => L.length - s) 0 ⟨by omega, fun j _ h => absurd h (by omega)⟩ (by simp) (aL _) ?_
    rintro i k ⟨hi, hall⟩
    by_cases hlt : i < L.length
    ·have hlti : (i : Int) < (L.length : Int) := by omega
     have w1 := aT (x := (i : Int) + 1) (by omega) (by omega)
     obtain ⟨f, hf⟩ : ∃ x, L[i] = x := ⟨_, rfl⟩
     have hfm : f ∈ L := by rw [← hf]; exact List.getElem_mem hlt
     have hs := iP hk
     simp -implicitDefEqProofs [lb9_0, hlt, hlti, hf]
     refine aG (tys_c hk hfm) (by simp) ?_
     simp -implicitDefEqProofs
     refine aG (kC (bU f) (by have := (hs.2 f hfm).2; simp; omega)) (by simp) ?_
     by_cases h1 : (cR (bU f)).2 = 0
     ·by_cases h2 : (cR (bU f)).1 ≤ 256
      ·simp -implicitDefEqProofs [h1, h2, w1, Int.not_lt.2 h2]
       refine aI (i + 1) ⟨hlt, fun j h hj => ?_⟩ (by omega) (by simp) (aL _)
       by_cases e : j = i
       ·subst e; rw [hf]; exact ⟨h1, h2⟩
       ·exact hall j h (by omega)
      ·rw [hno (fun g => h2 (g.2.2.2 f hfm).2)]
       simp -implicitDefEqProofs [h1, h2, Int.not_le.1 h2]
     ·rw [hno (fun g => h1 (g.2.2.2 f hfm).1)]
      simp -implicitDefEqProofs [h1]
    ·have hil : i = L.length := by omega
     subst hil
     rw [hyes ⟨hw, hl, ht, fun f hf => by
      obtain ⟨j, hj, rfl⟩ := List.mem_iff_getElem.1 hf
      exact hall j hj hj⟩]
     simp -implicitDefEqProofs [lb9_0]
   ·have hti : ¬ (t.length : Int) ≤ (8192 : Int) := by omega
    rw [hno (fun g => ht g.2.2.1)]
    simp -implicitDefEqProofs [hw, hli, hti, Int.not_lt.2 hli, Int.not_le.1 hti]
  ·have hli : ¬ (L.length : Int) ≤ (40 : Int) := by omega
   rw [hno (fun g => hl g.2.1)]
   simp -implicitDefEqProofs [hw, hli, Int.not_le.1 hli]
 ·rw [hno (fun g => hw g.1)]
  simp -implicitDefEqProofs [hw]
def fP (s : List UInt8) (t : Int) (k : Nat) : Int := if s = [] then 0 else ((s[k % s.length]?.getD 0).toNat : Int) % (tp t + 1)
def oI (f : Fn) (s : List UInt8) (k : Nat) : Tt := ⟨bU f, f.type, pr (bU f), cS ((List.range (pr (bU f)).toNat).map fun j => fP s f.type (k + j))⟩
def dE : List Fn → List UInt8 → Nat → List Tt
 | [], _, _ => []
 | f :: fs, s, k => oI f s k :: dE fs s (k + (pr (bU f)).toNat)
def pT (P : List Fn) : Prop := P.length ≤ 40 ∧ ∀ f ∈ P, (cR (bU f)).2 = 0 ∧ (cR (bU f)).1 ≤ 256
theorem vG {s : List UInt8} {t : Int} (ht : aZ t) (k : Nat) : 0 ≤ fP s t k ∧ fP s t k ≤ tp t := by
 have := nX ht
 unfold fP
 split
 ·omega
 ·have h1 := Int.emod_nonneg ((s[k % s.length]?.getD 0).toNat : Int) (by omega : tp t + 1 ≠ 0)
  have h2 := Int.emod_lt_of_pos ((s[k % s.length]?.getD 0).toNat : Int) (by omega : 0 < tp t + 1)
  omega
theorem D5 (t : Int) : tp t ≤ 3 := by have := gI t; omega
theorem DV (l : List Tt) (x : Tt) : em b8 l ++ [[.sl (em a9 x.ps), I x.t, I x.n, .sl (em eY x.l)]] = em b8 (l ++ [x]) := eA (enc := b8) (x := x)
theorem zM {P : List Fn} (hk : dC P) (hs : pT P) (s : List UInt8) (hsl : s.length < 2 ^ 48) {mem : Mem} {nx : Nat} {K : KD} (hy : ∀ id ver nx', nx ≤ id → id < nx' → K (.osl id ver 0 P.length) ((id, .arr ver 4 (em b8 (dE P s 0))) :: mem) nx') : bH Tryz.prog 10 [.agg [.sl (em aV P)], .sl (em c_ s)] mem nx K := by
 obtain ⟨hPT, hPl, hsz⟩ := gR hk
 obtain ⟨hPs, hfs⟩ := iP hk
 refine fi10.ct (by simp) fun hfr => ?_
 simp -implicitDefEqProofs [ac10]
 generalize hR : dE P s 0 = R at hy
 obtain ⟨q0, hq0⟩ : ∃ q, nx + 5 = q := ⟨_, rfl⟩
 have hm0 : look mem q0 = none := hfr q0 (by omega)
 rw [hq0]
 refine cA (j := 5) (k := 4) rfl (.inl rfl) ?_
 refine lpG cf10 lb10_1 [5, 6, 7, 8, 9, 11, 12] (α := Nat × Nat × Nat × List Tt) (fun z _ => [(5, .osl q0 z.2.1 0 z.2.2.2.length), (6, I (if s = [] then 0 else (z.2.2.1 : Int))), (7, I z.1)]) (fun z _ => (q0, .arr z.2.1 4 (em b8 z.2.2.2)) :: mem) (fun z k => q0 < k ∧ z.1 ≤ P.length ∧ z.2.2.2.length = z.1 ∧ z.2.2.1 ≤ z.1 * 256 ∧ z.2.2.2 ++ dE (P.drop z.1) s z.2.2.1 = R) (fun z => P.length - z.1) (0, 0, 0, []) ⟨by omega, by omega, rfl, by simp, hR⟩ (by simp [upd]) (by simp) ?_
 rintro ⟨i, v, pos, acc⟩ k ⟨hk1, hi, hal, hpos, hr⟩
 simp only at hi hal hpos hr hk1
 by_cases hlt : i < P.length
 ·have hlti : (i : Int) < (P.length : Int) := by omega
  have w1 := aT (x := (i : Int) + 1) (by omega) (by omega)
  rw [List.drop_eq_getElem_cons hlt] at hr
  obtain ⟨f, hf⟩ : ∃ x, P[i] = x := ⟨_, rfl⟩
  have hfm : f ∈ P := by rw [← hf]; exact List.getElem_mem hlt
  rw [hf] at hr
  unfold dE at hr
  obtain ⟨hc1, hc2⟩ := hs.2 f hfm
  obtain ⟨ho, hp96, hp1⟩ := gQ hc1
  have hprp := nE ho
  have hpl := (hfs f hfm).2
  obtain ⟨n, hn⟩ : ∃ n : Nat, pr (bU f) = n := ⟨(pr (bU f)).toNat, by omega⟩
  simp -implicitDefEqProofs [lb10_1, hlt, hlti, hf]
  refine aG (tys_c hk hfm) (by simp) ?_
  simp -implicitDefEqProofs
  refine aG (kC (bU f) (by simp; omega)) (by simp) ?_
  have hb : (n : Int) * 8 ≤ 140737488355328 := by omega
  simp -implicitDefEqProofs [hp1, hn, hb]
  obtain ⟨q, hq⟩ : ∃ q, k + 5 + 7 + 7 + 1 = q := ⟨_, rfl⟩
  rw [hq]
  have hty := (hPT f hfm).1
  have htp := nX hty
  have ht3 := D5 f.type
  have hqm : look mem q = none := hfr q (by omega)
  have hz1 : (q = q0) = False := eq_false (by omega)
  have hz2 : (q0 = q) = False := eq_false (by omega)
  refine lpG cf10 lb10_0 [6, 12] (α := Nat) (fun j _ => [(6, I (if s = [] then 0 else ((pos + j : Nat) : Int))), (12, I j)]) (fun j _ => (q, .arr 0 1 (em a9 ((List.range j).map (fun j => fP s f.type (pos + j)) ++ List.replicate (n - j) 0))) :: (q0, .arr v 4 (em b8 acc)) :: mem) (fun j k => q < k ∧ j ≤ n ∧ (s = [] → j = 0)) (fun j => n - j) 0 ⟨by omega, by omega, fun _ => rfl⟩ (by simp) (by simp) ?_
  rintro j k2 ⟨hk2, hj, hj0⟩
  by_cases hs0 : s = []
  ·have := hj0 hs0
   subst this
   subst hs0
   have hn0 : 0 < n := by omega
   have hmap : (List.range n).map (fun j => fP [] f.type (pos + j)) = List.replicate n 0 := by
    rw [List.eq_replicate_iff]
    exact ⟨by simp, fun b hb => by
     obtain ⟨j, _, rfl⟩ := List.mem_map.1 hb
     rfl⟩
   simp -implicitDefEqProofs [lb10_0, hn0, hlt, hlti, hf]
   have hcs : ∀ c ∈ (List.range n).map (fun j => fP [] f.type (pos + j)), j6 c := fun c hc => by
    obtain ⟨j, _, rfl⟩ := List.mem_map.1 hc
    have := vG (s := []) hty (pos + j)
    exact ⟨this.1, by omega⟩
   have hcl : ((List.range n).map (fun j => fP [] f.type (pos + j))).length = n := by simp
   have htab : oI f [] pos = ⟨bU f, f.type, n, cS ((List.range n).map (fun j => fP [] f.type (pos + j)))⟩ := by unfold oI; rw [hn]; rfl
   have hOf := ED (bU f) f.type _ hcs (by rw [hcl]; omega) (by simp; omega)
   rw [hcl] at hOf
   have hb64 : (acc.length + 1) * 64 ≤ 3 * 2 ^ 46 := by omega
   have hsn := DV acc (oI f [] pos)
   rw [htab] at hsn hr
   simp only at hsn
   rw [← hmap]
   generalize (List.range n).map (fun j => fP [] f.type (pos + j)) = cs at *
   refine aD (xD (mf := [(q, .arr 0 1 (em a9 cs))]) (mk := (q0, .arr v 4 (em b8 acc)) :: mem) (oE (iV _)) (aF (aE _) (by rw [a8, if_neg (by omega)]; exact hqm)) (fun j => by
    by_cases e : q = j
    ·subst e; right; rw [a8, if_neg (by omega)]; exact hqm
    ·left; rw [a8, if_neg e]; rfl) (args' := [.sl (em a9 (bU f)), I f.type, .sl (em a9 cs)]) (by simp [List.take_of_length_le, hcl]) hOf ?_)
   simp -implicitDefEqProofs [hb64, hsn, w1]
   exact aI (i + 1, v + 1, pos + n, acc ++ [⟨bU f, f.type, n, cS cs⟩]) ⟨by omega, hlt, by simp [hal], by simp only; omega, by rw [List.append_assoc]; rw [hn] at hr; exact hr⟩ (by simp only; omega) (by simp) (aL _)
  ·have hsl0 : 0 < s.length := by cases s with
    | nil => exact absurd rfl hs0
    | cons a b => simp
   have hsli : 0 < (s.length : Int) := by omega
   by_cases hjn : j < n
   ·have hjni : (j : Int) < (n : Int) := by omega
    have w2 := aT (x := (j : Int) + 1) (by omega) (by omega)
    have hPl := hs.1
    have w3 := aT (x := (pos : Int) + (j : Int) + 1) (by omega) (by omega)
    obtain ⟨m, hm⟩ : ∃ m, (pos + j) % s.length = m := ⟨_, rfl⟩
    have hml : m < s.length := by rw [← hm]; exact Nat.mod_lt _ hsl0
    have hmli : (m : Int) < (s.length : Int) := by omega
    have e1 : ((pos : Int) + (j : Int)).tmod (s.length : Int) = (m : Int) := by rw [Int.tmod_eq_emod_of_nonneg (by omega), ← hm]; rfl
    have hsn : ¬ (s.length : Int) = 0 := by omega
    obtain ⟨b, hbb⟩ : ∃ b, s[m] = b := ⟨_, rfl⟩
    have hcel : fP s f.type (pos + j) = (b.toNat : Int) % (tp f.type + 1) := by
     unfold fP
     rw [if_neg hs0, hm, List.getElem?_eq_getElem hml, hbb]; rfl
    have e2 : (b.toNat : Int).tmod (tp f.type + 1) = (b.toNat : Int) % (tp f.type + 1) := Int.tmod_eq_emod_of_nonneg (by omega)
    have htn : ¬ tp f.type + 1 = 0 := by omega
    have w4 := aT (x := tp f.type + 1) (by omega) (by omega)
    have hbl := b.toNat_lt
    have w5 := aT (x := (b.toNat : Int)) (by omega) (by omega)
    have hlen : ((List.range j).map (fun j => fP s f.type (pos + j)) ++ List.replicate (n - j) 0).length = n := by simp; omega
    have hset : ((List.range j).map (fun j => fP s f.type (pos + j)) ++ List.replicate (n - j) 0).set j ((b.toNat : Int) % (tp f.type + 1)) = (List.range (j + 1)).map (fun j => fP s f.type (pos + j)) ++ List.replicate (n - (j + 1)) 0 := by
     rw [List.set_append_right _ _ (by simp), List.range_succ, List.map_append, ← hcel, show n - j = (n - (j + 1)) + 1 by omega, List.replicate_succ]
     simp
    generalize (List.range j).map (fun j => fP s f.type (pos + j)) ++ List.replicate (n - j) 0 = old at *
    simp -implicitDefEqProofs [lb10_0, hs0, hsl0, hsli, hjni, e1, hsn, hml, hmli, hbb, hlti, hlt, hf]
    refine aG (iA f.type) (by simp) ?_
    have hb8 : bt8 s m = (b.toNat : Int) := by unfold bt8; rw [List.getElem?_eq_getElem hml, hbb]; rfl
    simp -implicitDefEqProofs [w2, w3, w4, w5, e2, htn, hlen, hjn, hb8]
    rw [hset]
    exact aI (j + 1) ⟨by omega, hjn⟩ (by omega) (by simp [hs0, Int.add_assoc]) (aL _)
   ·have hjn2 : n = j := by omega
    subst hjn2
    simp -implicitDefEqProofs [lb10_0, hs0, hlt, hlti, hf]
    have hcs : ∀ c ∈ (List.range n).map (fun j => fP s f.type (pos + j)), j6 c := fun c hc => by
     obtain ⟨j, _, rfl⟩ := List.mem_map.1 hc
     have := vG (s := s) hty (pos + j)
     exact ⟨this.1, by omega⟩
    have hcl : ((List.range n).map (fun j => fP s f.type (pos + j))).length = n := by simp
    have htab : oI f s pos = ⟨bU f, f.type, n, cS ((List.range n).map (fun j => fP s f.type (pos + j)))⟩ := by unfold oI; rw [hn]; rfl
    have hOf := ED (bU f) f.type _ hcs (by rw [hcl]; omega) (by simp; omega)
    rw [hcl] at hOf
    have hb64 : (acc.length + 1) * 64 ≤ 3 * 2 ^ 46 := by omega
    have hsn := DV acc (oI f s pos)
    rw [htab] at hsn hr
    simp only at hsn
    generalize (List.range n).map (fun j => fP s f.type (pos + j)) = cs at *
    refine aD (xD (mf := [(q, .arr 0 1 (em a9 cs))]) (mk := (q0, .arr v 4 (em b8 acc)) :: mem) (oE (iV _)) (aF (aE _) (by rw [a8, if_neg (by omega)]; exact hqm)) (fun j => by
     by_cases e : q = j
     ·subst e; right; rw [a8, if_neg (by omega)]; exact hqm
     ·left; rw [a8, if_neg e]; rfl) (args' := [.sl (em a9 (bU f)), I f.type, .sl (em a9 cs)]) (by simp [List.take_of_length_le, hcl]) hOf ?_)
    simp -implicitDefEqProofs [hb64, hsn, w1]
    exact aI (i + 1, v + 1, pos + n, acc ++ [⟨bU f, f.type, n, cS cs⟩]) ⟨by omega, hlt, by simp [hal], by simp only; omega, by rw [List.append_assoc]; rw [hn] at hr; exact hr⟩ (by simp only; omega) (by simp) (aL _)
 ·have hil : i = P.length := by omega
  subst hil
  rw [List.drop_length] at hr
  unfold dE at hr
  rw [List.append_nil] at hr
  subst hr
  simp -implicitDefEqProofs [lb10_1]
  rw [hal]
  exact ⟨_, aE _, hy q0 v _ (by omega) (by omega)⟩
theorem HA {P : List Fn} (hk : dC P) (hs : pT P) (s : List UInt8) (hsl : s.length < 2 ^ 48) : Pure Tryz.prog 10 [.agg [.sl (em aV P)], .sl (em c_ s)] (.sl (em b8 (dE P s 0))) := by
 refine lX (by simp) (zM hk hs s hsl fun id ver nx' _ _ => ?_)
 have hl : (dE P s 0).length = P.length := by
  have : ∀ (P : List Fn) (k : Nat), (dE P s k).length = P.length := by
   intro P
   induction P with
   | nil => intro k; rfl
   | cons f fs ih => intro k; simp [dE, ih]
  exact this P 0
 simp [look, ← hl]
theorem zG (cs : List Int) (h4 : ∀ c ∈ cs, j6 c) (hl : cs.length ≤ 4096) : ∃ l, eK l ∧ cQ cs.length l ∧ cl cs.length l = cs := by
 have key : ∀ k, k ≤ cs.length → ∃ l, eK l ∧ cQ cs.length l ∧ ∀ j, j < cs.length → bI l j = if j < k then cs[j]?.getD 0 else 0 := by
  intro k
  induction k with
  | zero => exact fun _ => ⟨List.replicate (((cs.length : Int) + 31) / 32).toNat 0, zero_W _, F1 (by omega) (by omega), fun j hj => by rw [F7, if_neg (by omega)]⟩
  | succ k ih =>
   intro hk
   obtain ⟨l, hw, hg, hc⟩ := ih (by omega)
   have hkl : k < cs.length := by omega
   have hv := h4 _ (List.getElem_mem hkl)
   have hln : cs.length ≤ 32 * l.length := by have := o_ hg; simpa using this
   unfold j6 at hv
   refine ⟨pU l k cs[k], FS hw, by simpa using EO hw hg hv.1 (by omega) (by simpa using hkl), fun j hj => ?_⟩
   rw [wF hw hv.1 (by omega) (by omega) (by omega), hc j hj]
   by_cases e : j = k
   ·subst e
    rw [if_pos rfl, if_pos (by omega), List.getElem?_eq_getElem hkl]; rfl
   ·rw [if_neg e]
    by_cases e2 : j < k
    ·rw [if_pos e2, if_pos (by omega)]
    ·rw [if_neg e2, if_neg (by omega)]
 obtain ⟨l, hw, hg, hc⟩ := key _ (Nat.le_refl _)
 refine ⟨l, hw, hg, (cl_ext (by simp) fun i hi => ?_).symm⟩
 have hi2 : i < cs.length := by simpa using hi
 rw [hc i hi2, if_pos hi2]
theorem K8 {cs : List Int} (h4 : ∀ c ∈ cs, j6 c) (hl : cs.length ≤ 4096) : eK (cS cs) ∧ cQ cs.length (cS cs) ∧ cl cs.length (cS cs) = cs := by
 obtain ⟨l, hw, hg, hc⟩ := zG cs h4 hl
 have h := KE hg hw
 rw [hc] at h
 rw [h]
 exact ⟨hw, hg, hc⟩
theorem tab_ok {f : Fn} {cs : List Int} (hty : aZ f.type) (hc : (cR (bU f)).2 = 0) (hl : (cs.length : Int) = pr (bU f)) (hin : ∀ c ∈ cs, 0 ≤ c ∧ c ≤ tp f.type) : fitT f ⟨bU f, f.type, pr (bU f), cS cs⟩ ∧ eK (cS cs) ∧ cl (pr (bU f)) (cS cs) = cs := by
 obtain ⟨ho, hp96, hp1⟩ := gQ hc
 have htp := nX hty
 have ht3 := D5 f.type
 obtain ⟨h1, h2, h3⟩ := K8 (cs := cs) (fun c hm => by have := hin c hm; exact ⟨this.1, by omega⟩) (by omega)
 rw [hl] at h2 h3
 refine ⟨⟨⟨hc, (by show 0 ≤ tp f.type; omega), rfl, h2, fun i hi => ?_⟩, rfl, rfl⟩, h1, h3⟩
 have hi2 : i < cs.length := by simp only at hi; omega
 have := B4 (l := cS cs) hi
 simp only at this ⊢
 rw [h3] at this
 rw [← this, List.getElem?_eq_getElem hi2]
 exact (hin _ (List.getElem_mem hi2)).2
theorem KY {f : Fn} (s : List UInt8) (k : Nat) (hty : aZ f.type) (hc : (cR (bU f)).2 = 0) : fitT f (oI f s k) ∧ eK (oI f s k).l := by
 obtain ⟨ho, hp96, hp1⟩ := gQ hc
 have hpos := nE ho
 have h := tab_ok (cs := (List.range (pr (bU f)).toNat).map fun j => fP s f.type (k + j)) hty hc (by simp; omega) (fun c hm => by
  obtain ⟨j, _, rfl⟩ := List.mem_map.1 hm
  exact vG hty _)
 exact ⟨h.1, h.2.1⟩
theorem nH : ∀ (P : List Fn) (s : List UInt8) (k : Nat), (dE P s k).length = P.length
 | [], _, _ => rfl
 | f :: fs, s, k => by simp [dE, nH fs]
theorem zY : ∀ (P : List Fn) (s : List UInt8) (k i : Nat), (h : i < P.length) → ∃ k', (dE P s k)[i]?.getD default = oI (P[i]?.getD default) s k'
 | [], _, _, i, h => by simp at h
 | f :: fs, s, k, 0, _ => ⟨k, rfl⟩
 | f :: fs, s, k, i + 1, h => by
  obtain ⟨k', e⟩ := zY fs s (k + (pr (bU f)).toNat) i (by simpa using h)
  exact ⟨k', by simpa [dE] using e⟩
theorem AD {P : List Fn} (hk : dC P) (hs : pT P) (s : List UInt8) : ∀ i, i < P.length → fitT (P[i]?.getD default) ((dE P s 0)[i]?.getD default) ∧ eK ((dE P s 0)[i]?.getD default).l := by
 intro i hi
 obtain ⟨k', e⟩ := zY P s 0 i hi
 have hm := List.getElem_mem hi
 rw [e, List.getElem?_eq_getElem hi]
 exact KY s k' ((gR hk).1 _ hm).1 (hs.2 _ hm).1
theorem B7 {P : List Fn} (hk : dC P) (hs : pT P) (s : List UInt8) : TW (dE P s 0) := by
 intro x hx
 obtain ⟨i, hi, rfl⟩ := List.mem_iff_getElem.1 hx
 have hi2 : i < P.length := by rw [nH] at hi; exact hi
 obtain ⟨h1, h2⟩ := AD hk hs s i hi2
 rw [List.getElem?_eq_getElem hi, List.getElem?_eq_getElem hi2] at h1
 rw [List.getElem?_eq_getElem hi] at h2
 refine ⟨h2, ?_⟩
 have h3 := h1.2.2
 simp only [Option.getD_some] at h3
 rw [h3]
 have := ((iP hk).2 _ (List.getElem_mem hi2)).2
 simp; omega
theorem IG {P : List Fn} (hk : dC P) (hs : pT P) (s : List UInt8) (h0 : (fK P).1 = 0) : SeeOk P (dE P s 0) :=
 ⟨h0, nH P s 0, fun i hi => (AD hk hs s i hi).1⟩
def t17 : List UInt8 := [103, 40, 108, 32, 76, 41, 58, 76, 61, 108, 59, 102, 40, 108, 32, 76, 41, 58, 78, 61, 99, 97, 115, 101, 32, 108, 32, 111, 102, 32, 110, 105, 108, 45, 62, 49, 124, 104, 58, 116, 45, 62, 104, 59, 107, 40, 108, 32, 76, 41, 58, 76, 61, 103, 40, 49, 58, 108, 41, 59]
def s17 : List UInt8 := [0, 1, 2, 3, 0, 0, 0, 0, 0, 1, 2, 3]
def m17 : List Mk := [⟨0, [103], ⟨0, 0⟩, 0⟩,
 ⟨3, [40], ⟨0, 0⟩, 1⟩,
 ⟨0, [108], ⟨0, 0⟩, 2⟩,
 ⟨1, [76], ⟨0, 0⟩, 4⟩,
 ⟨3, [41], ⟨0, 0⟩, 5⟩,
 ⟨3, [58], ⟨0, 0⟩, 6⟩,
 ⟨1, [76], ⟨0, 0⟩, 7⟩,
 ⟨3, [61], ⟨0, 0⟩, 8⟩,
 ⟨0, [108], ⟨0, 0⟩, 9⟩,
 ⟨3, [59], ⟨0, 0⟩, 10⟩,
 ⟨0, [102], ⟨0, 0⟩, 11⟩,
 ⟨3, [40], ⟨0, 0⟩, 12⟩,
 ⟨0, [108], ⟨0, 0⟩, 13⟩,
 ⟨1, [76], ⟨0, 0⟩, 15⟩,
 ⟨3, [41], ⟨0, 0⟩, 16⟩,
 ⟨3, [58], ⟨0, 0⟩, 17⟩,
 ⟨1, [78], ⟨0, 0⟩, 18⟩,
 ⟨3, [61], ⟨0, 0⟩, 19⟩,
 ⟨1, [99, 97, 115, 101], ⟨0, 0⟩, 20⟩,
 ⟨0, [108], ⟨0, 0⟩, 25⟩,
 ⟨1, [111, 102], ⟨0, 0⟩, 27⟩,
 ⟨1, [110, 105, 108], ⟨0, 0⟩, 30⟩,
 ⟨3, [45, 62], ⟨0, 0⟩, 33⟩,
 ⟨2, [49], ⟨4607182418800017408, 0⟩, 35⟩,
 ⟨3, [124], ⟨0, 0⟩, 36⟩,
 ⟨0, [104], ⟨0, 0⟩, 37⟩,
 ⟨3, [58], ⟨0, 0⟩, 38⟩,
 ⟨0, [116], ⟨0, 0⟩, 39⟩,
 ⟨3, [45, 62], ⟨0, 0⟩, 40⟩,
 ⟨0, [104], ⟨0, 0⟩, 42⟩,
 ⟨3, [59], ⟨0, 0⟩, 43⟩,
 ⟨0, [107], ⟨0, 0⟩, 44⟩,
 ⟨3, [40], ⟨0, 0⟩, 45⟩,
 ⟨0, [108], ⟨0, 0⟩, 46⟩,
 ⟨1, [76], ⟨0, 0⟩, 48⟩,
 ⟨3, [41], ⟨0, 0⟩, 49⟩,
 ⟨3, [58], ⟨0, 0⟩, 50⟩,
 ⟨1, [76], ⟨0, 0⟩, 51⟩,
 ⟨3, [61], ⟨0, 0⟩, 52⟩,
 ⟨0, [103], ⟨0, 0⟩, 53⟩,
 ⟨3, [40], ⟨0, 0⟩, 54⟩,
 ⟨2, [49], ⟨4607182418800017408, 0⟩, 55⟩,
 ⟨3, [58], ⟨0, 0⟩, 56⟩,
 ⟨0, [108], ⟨0, 0⟩, 57⟩,
 ⟨3, [41], ⟨0, 0⟩, 58⟩,
 ⟨3, [59], ⟨0, 0⟩, 59⟩,
 ⟨4, [], ⟨0, 0⟩, 60⟩]
theorem ET : dB t17 = (m17, (dB t17).2) := by rfl
def oF (k : Nat) (nest : Int) : Rd := ⟨m17, k, 0, 0, 32768, 32768, 32768, 32768, nest⟩
def g17 : Fn := ⟨[103], [⟨[108], 3, 2⟩], 3, (.mk 6 [108] [] 0 ⟨0, 0⟩ [] 9), 0⟩
def f17 : Fn := ⟨[102], [⟨[108], 3, 13⟩], 1, (.mk 20 [104] [116] 0 ⟨0, 0⟩ [(.mk 6 [108] [] 0 ⟨0, 0⟩ [] 25), (.mk 1 [] [] 0 ⟨4607182418800017408, 0⟩ [] 35), (.mk 6 [104] [] 0 ⟨0, 0⟩ [] 42)] 20), 11⟩
def k17 : Fn := ⟨[107], [⟨[108], 3, 46⟩], 3, (.mk 7 [103] [] 0 ⟨0, 0⟩ [(.mk 18 [] [] 0 ⟨0, 0⟩ [(.mk 1 [] [] 0 ⟨4607182418800017408, 0⟩ [] 55), (.mk 6 [108] [] 0 ⟨0, 0⟩ [] 57)] 56)] 53), 44⟩
def L17 : List Fn := [g17, f17, k17]
theorem d17a : kB 42 (oF 0 0) 0 = some (g17, oF 10 0) := by rfl
theorem d17b : kB 41 (oF 10 0) 1 = some (f17, oF 31 0) := by rfl
theorem d17c : kB 40 (oF 31 0) 2 = some (k17, oF 46 0) := by rfl
theorem oJ {n : Nat} {l : List Fn} {r q : Rd} {f : Fn} (h : kB n r l.length = some (f, q)) (h1 : r.why = 0) (h2 : l = [] ∨ r.next.kind ≠ 4) : eF (n + 1) l r = eF n (l ++ [f]) q := by
 conv => lhs; unfold eF
 rw [if_pos ⟨h1, h2⟩, h, Option.bind_some]
theorem FJ {n : Nat} {l : List Fn} {r : Rd} (h1 : l ≠ []) (h2 : r.next.kind = 4) : eF (n + 1) l r = some (l, r) := by
 unfold eF
 rw [if_neg (fun h => h.2.elim h1 (fun h => h h2))]
theorem pp17 : eF 43 [] (oF 0 0) = some (L17, oF 46 0) := by
 rw [oJ (n := 42) d17a rfl (.inl rfl), oJ (n := 41) d17b rfl (.inr (by decide)), oJ (n := 40) d17c rfl (.inr (by decide)), FJ (n := 39) (by simp) (by decide)]
 rfl
theorem rd017 : rd0 t17 32768 32768 32768 32768 = oF 0 0 := by unfold rd0 oF; rw [ET]
theorem EU : uB t17 L17 0 0 := LW t17 (by decide) (by decide) (n := 43) (by decide) (by rw [rd017]; exact pp17) (by decide) (by rw [ET]; decide)
theorem ty17 : fK L17 = (0, 0) := by decide
theorem mJ : pT L17 := ⟨by decide, by decide⟩
theorem yK : (c9 (bU f17) [2]).2 = 0 ∧ (c9 (bU k17) [2]).2 = 0 ∧ (c9 (bU f17) [0]).2 = 0 := by decide
theorem AL : bX f17.body ≤ 6 ∧ bX k17.body ≤ 6 := by decide
theorem pt17a : kG L17 (dE L17 s17 0) f17 [2] = 1 := by decide
theorem pt17b : kG L17 (dE L17 s17 0) k17 [2] = 2 := by decide
theorem pt17c : kG L17 (dE L17 s17 0) f17 [0] = 0 := by decide
theorem lit17 : em c_ t17 = [[By 103], [By 40], [By 108], [By 32], [By 76], [By 41], [By 58], [By 76], [By 61], [By 108], [By 59], [By 102], [By 40], [By 108], [By 32], [By 76], [By 41], [By 58], [By 78], [By 61], [By 99], [By 97], [By 115], [By 101], [By 32], [By 108], [By 32], [By 111], [By 102], [By 32], [By 110], [By 105], [By 108], [By 45], [By 62], [By 49], [By 124], [By 104], [By 58], [By 116], [By 45], [By 62], [By 104], [By 59], [By 107], [By 40], [By 108], [By 32], [By 76], [By 41], [By 58], [By 76], [By 61], [By 103], [By 40], [By 49], [By 58], [By 108], [By 41], [By 59]] := rfl
theorem lits17 : em c_ s17 = [[By 0], [By 1], [By 2], [By 3], [By 0], [By 0], [By 0], [By 0], [By 0], [By 1], [By 2], [By 3]] := rfl
theorem HQ {t : List UInt8} {L : List Fn} {w : Int} (h : mK t L w) : pT L := ⟨h.2.1, h.2.2.2⟩
theorem s_ {P : List Fn} {T : List Tt} {i : Int} {tu : List Int} {f : Fn} {v : Int} (hok : SeeOk P T) (h0 : 0 ≤ i) (h1 : i < P.length) (hf : mP P i = f) (hn : (c9 (bU f) tu).2 = 0) (h6 : bX f.body ≤ 6) (hv : kG P T f tu = v) : jX P T i tu = (v, 0) := by
 unfold jX
 rw [if_pos hok, if_neg (by omega), hf, if_neg (by simpa using hn), if_neg (by omega), hv]
theorem v9 : Pure Tryz.prog 8 [] (B true) := by
 have hk : dC L17 := EU.2.1 rfl
 have hr := zP EU
 have hs : mK t17 L17 0 := ⟨rfl, mJ.1, by decide, mJ.2⟩
 rw [show i9 t17 L17 0 = true by simp [i9, hs]] at hr
 have ht := HA hk mJ s17 (by decide)
 have hok := IG hk mJ s17 (by rw [ty17])
 have htw := B7 hk mJ s17
 have htl : (dE L17 s17 0).length < 2 ^ 44 := by rw [nH]; decide
 have hb : ∀ (i : Int) (tu : List Int), tu.length < 2 ^ 48 → _ := fun i tu h => H0 hk htl htw i tu h
 have b1 := hb 1 [2] (by decide)
 have b2 := hb 2 [2] (by decide)
 have b3 := hb 1 [0] (by decide)
 rw [s_ (f := f17) hok (by decide) (by decide) rfl yK.1 AL.1 pt17a] at b1
 rw [s_ (f := k17) hok (by decide) (by decide) rfl yK.2.1 AL.2 pt17b] at b2
 rw [s_ (f := f17) hok (by decide) (by decide) rfl yK.2.2 AL.1 pt17c] at b3
 have e1 : em a9 [2] = [[I 2]] := rfl
 have e0 : em a9 [0] = [[I 0]] := rfl
 rw [e1] at b1 b2
 rw [e0] at b3
 rw [lits17] at ht
 rw [lit17] at hr
 generalize dE L17 s17 0 = T at *
 generalize L17 = L at *
 refine fi8.pu (by simp) ?_
 simp -implicitDefEqProofs [ac8]
 refine aG hr (by simp) ?_
 simp -implicitDefEqProofs
 refine aG ht (by simp) ?_
 simp -implicitDefEqProofs
 refine aG (b1) (by simp) ?_
 simp -implicitDefEqProofs
 refine aG (b2) (by simp) ?_
 simp -implicitDefEqProofs
 refine aG (b3) (by simp) ?_
 simp -implicitDefEqProofs
set_option maxHeartbeats 4000000
theorem CE {n : Nat} {ds : List D} (h : Wt Tryz.prog n 25 ds) : ∃ z, ds = a9 z ∧ True := by
 cases n with
 | zero => exact h.elim
 | succ n =>
  simp only [Wt, Tryz.underlying25] at h
  obtain ⟨z, rfl, _⟩ := h
  exact ⟨z, rfl, trivial⟩
theorem wt_pt {n : Nat} {ds : List D} (h : Wt Tryz.prog n 49 ds) : ∃ z, ds = a9 z ∧ True := by
 cases n with
 | zero => exact h.elim
 | succ n =>
  simp only [Wt, Tryz.underlying49] at h
  obtain ⟨z, rfl, _⟩ := h
  exact ⟨z, rfl, trivial⟩
theorem wt_tys {n : Nat} {ds : List D} (h : Wt Tryz.prog n 24 ds) : ∃ l : List Int, ds = [.sl (em a9 l)] ∧ l.length < 2 ^ 44 := by
 cases n with
 | zero => exact h.elim
 | succ n =>
  simp only [Wt, Tryz.underlying24] at h
  obtain ⟨es, rfl, hl, he⟩ := h
  obtain ⟨l, rfl, _⟩ := oS (enc := a9) (p := fun _ => True) fun c hc => CE (he c hc)
  refine ⟨l, rfl, ?_⟩
  have hb : Tryz.prog.bytesOf 25 = 8 := by kernel_rfl
  rw [hb, u0] at hl
  unfold reachBytes at hl
  omega
theorem wt_row {n : Nat} {ds : List D} (h : Wt Tryz.prog n 28 ds) : ∃ n l, ds = [I n, .sl (em eY l)] ∧ eK l ∧ l.length < 2 ^ 44 := by
 cases n with
 | zero => exact h.elim
 | succ n =>
  simp only [Wt, Tryz.underlying28, WtS, List.map] at h
  obtain ⟨c, r, rfl, h1, c2, r2, rfl, h2, rfl⟩ := h
  obtain ⟨z, rfl, hz⟩ := wt_i64 h1
  obtain ⟨l, rfl, hl, hu⟩ := LR h2
  refine ⟨z, l, by simp, fun u hu2 => wfW (hu u hu2), ?_⟩
  unfold reachBytes at hl
  omega
theorem D7 {x : D} (h : Arg Tryz.prog 30 x) : ∃ ps t n l, x = tb ps t n l ∧ ps.length < 2 ^ 44 ∧ eK l ∧ l.length < 2 ^ 44 := by
 obtain ⟨n, ds, h, k⟩ := h
 cases n with
 | zero => exact h.elim
 | succ n =>
  simp only [Wt, Tryz.underlying30, WtS, List.map] at h k
  obtain ⟨c, r, rfl, h1, c2, r2, rfl, h2, c3, r3, rfl, h3, rfl⟩ := h
  obtain ⟨ps, rfl, hp⟩ := wt_tys h1
  obtain ⟨t, rfl, _⟩ := CE h2
  obtain ⟨m, l, rfl, hw, hl⟩ := wt_row h3
  exact ⟨ps, t, m, l, by simpa [tb, tbC] using k, hp, hw, hl⟩
set_option maxHeartbeats 8000000
theorem LM {n : Nat} {ds : List D} (h : Wt Tryz.prog n 9 ds) : ∃ l : List UInt8, ds = [Tx l] := by
 cases n with
 | zero => exact h.elim
 | succ n =>
  simp only [Wt, Tryz.underlying9] at h
  obtain ⟨s, rfl, _⟩ := h
  obtain ⟨⟨l⟩⟩ := s
  exact ⟨l, rfl⟩
theorem IV {n : Nat} {ds : List D} (h : Wt Tryz.prog n 51 ds) : ∃ x : Pm, ds = a7 x ∧ True := by
 cases n with
 | zero => exact h.elim
 | succ n =>
  simp only [Wt, Tryz.underlying51, WtS, List.map] at h
  obtain ⟨c, r, rfl, h1, c2, r2, rfl, h2, c3, r3, rfl, h3, rfl⟩ := h
  obtain ⟨l, rfl⟩ := LM h1
  obtain ⟨t, rfl, _⟩ := CE h2
  obtain ⟨p, rfl, _⟩ := wt_pt h3
  exact ⟨⟨l, t, p⟩, rfl, trivial⟩
theorem DS {x : D} (h : Arg Tryz.prog 23 x) : ∃ l : List Pm, x = .sl (em a7 l) ∧ l.length ≤ 2 ^ 42 := by
 obtain ⟨n, ds, h, k⟩ := h
 simp only [Tryz.underlying23] at k
 cases n with
 | zero => exact h.elim
 | succ n =>
  simp only [Wt, Tryz.underlying23] at h
  obtain ⟨es, rfl, hl, he⟩ := h
  obtain ⟨l, rfl, _⟩ := oS (enc := a7) (p := fun _ => True) fun c hc => IV (he c hc)
  have hb : Tryz.prog.bytesOf 51 = 32 := by kernel_rfl
  rw [hb, u0] at hl
  unfold reachBytes at hl
  simp only [List.cons.injEq, and_true] at k
  exact ⟨l, k.symm, by omega⟩
set_option maxRecDepth 1000000
set_option maxHeartbeats 0
noncomputable def cf3 : Cfg := ⟨Tryz.prog, 166, [0, 1, 2, 3, 7, 8, 9, 10, 11, 12, 13, 14, 15, 16, 17, 18, 19, 20, 21, 22, 23, 24, 25], [37, 72, 75, 86, 99, 122, 134, 147]⟩
noncomputable def lb3_0 : AC :=
 .seq (.ifr [JA 45 14, JG 46 0 9, JD 47 1 46, JA 48 12, JL 49 11 47 48, JH 50 1 49, JD 51 1 50, JO 52 (.len false (.t 51)), JO 53 (.bin .lss 3 (.t 45) (.t 52))] (.t 53) .skip (.exit 2)) (.seq (.block 3 (.seq (.reg [JG 56 0 9, JD 57 1 56, JA 58 12, JL 59 11 57 58, JH 60 1 59, JD 61 1 60, JA 62 14, JL 63 3 61 62, JE 64 3 63, JP 15 (.al [JU, JV, JV]), JQ (.st 3 (.g 15) (.t 64))]) (.reg [JA 65 13, JG 66 0 15, JD 67 1 66, JG 68 1 15, JD 69 1 68, JO 70 (.bld [JU, JV, JV] [(0, 1, .t 67), (1, 1, .t 69), (2, 1, .c (.int .i64 1))]), JO 71 (.bsl 3 1 [JU, JV, JV] [(0, 3, .t 70)]), JO 72 (.app 3 32 [JU, JV, JV] (.t 65) (.t 71)), JB 13 72]))) (.reg [JA 54 14, JO 55 (.bin .add 3 (.t 54) (JT 1)), JB 14 55]))
noncomputable def lb3_1 : AC :=
 .seq (.ifr [JA 38 12, JG 39 0 9, JD 40 1 39, JO 41 (.len false (.t 40)), JO 42 (.bin .lss 3 (.t 38) (.t 41))] (.t 42) .skip (.exit 0)) (.seq (.block 1 (.seq (.reg [JP 13 (.mv (.c (.slice none 0 0)))]) (.seq (.seq (.reg [JI 14 0]) (.block 2 (.loop lb3_0))) (.seq (.reg [JA 73 13, JA 74 2, JO 75 (.app 3 32 [JU, JV, JV] (.t 73) (.t 74)), JB 13 75]) (.seq (.reg [JF 77 1 9, JA 78 11, JA 79 13, JG 80 0 9, JD 81 1 80, JA 82 12, JL 83 11 81 82, JH 84 3 83, JE 85 7 84, JO 86 (.cl (.f 11) [.t 77, .t 78, .t 79, .t 85]), JC 76 86, JK 87 0 76, JK 88 1 76, JB 16 87, JB 17 88]) (.seq (.reg [JF 90 1 9, JA 91 11, JA 92 13, JG 93 0 9, JD 94 1 93, JA 95 12, JL 96 11 94 95, JH 97 3 96, JE 98 7 97, JO 99 (.cl (.f 12) [.t 90, .t 91, .t 92, .t 98]), JC 89 99, JK 100 0 89, JK 101 1 89, JB 18 100, JB 19 101]) (.ifr [JA 102 16, JA 103 18, JO 104 (.bin .neq 49 (.t 102) (.t 103)), JC 105 104, JR 106 105 (.mv (.g 17)), JR 107 105 (.mv (.g 19)), JR 108 105 (.bin .neq 3 (.t 106) (.t 107)), JO 109 (.pick (.t 105) JX (.t 108))] (.t 109) (.seq (.reg [JP 8 (.mv JY)]) .ret) .skip))))))) (.reg [JA 43 12, JO 44 (.bin .add 3 (.t 43) (JT 1)), JB 12 44]))
noncomputable def ac3 : AC :=
 (.seq (.reg [JN 7 3, JP 8 (.mv JY)]) (.seq (.ifr [JO 26 (.pc (.f 8) []), JO 27 (.un .not (.t 26))] (.t 27) (.seq (.reg [JP 8 (.mv JY)]) .ret) .skip) (.seq (.reg [JA 29 0, JO 30 (.pc (.f 9) [.t 29]), JC 28 30, JK 31 0 28, JK 32 1 28, JP 9 (.al [JW]), JQ (.st 1 (.g 9) (.t 31)), JB 10 32]) (.seq (.ifr [JA 33 10, JO 34 (.un .not (.t 33))] (.t 34) (.seq (.reg [JP 8 (.mv JX)]) .ret) .skip) (.seq (.reg [JF 35 1 9, JA 36 1, JO 37 (.cl (.f 10) [.t 35, .t 36]), JB 11 37]) (.seq (.seq (.reg [JI 12 0]) (.block 0 (.loop lb3_1))) (.seq (.reg [JA 110 11, JF 111 4 7, JO 112 (.ia 4 (.t 110) (JT 0)), JQ (.st 4 (.t 112) (.t 111))]) (.seq (.reg [JF 114 1 9, JA 115 11, JA 116 2, JG 117 0 9, JD 118 1 117, JO 119 (.ia 11 (.t 118) (JT 0)), JH 120 3 119, JE 121 7 120, JO 122 (.cl (.f 11) [.t 114, .t 115, .t 116, .t 121]), JC 113 122, JK 123 0 113, JK 124 1 113, JB 20 123, JB 21 124]) (.seq (.reg [JF 126 1 9, JA 127 11, JA 128 2, JG 129 0 9, JD 130 1 129, JO 131 (.ia 11 (.t 130) (JT 0)), JH 132 3 131, JE 133 7 132, JO 134 (.cl (.f 12) [.t 126, .t 127, .t 128, .t 133]), JC 125 134, JK 135 0 125, JK 136 1 125, JB 22 135, JB 23 136]) (.seq (.reg [JF 138 1 9, JA 139 11, JO 140 (.sls false 4 (.t 139) (some (JT 1)) none), JA 141 2, JG 142 0 9, JD 143 1 142, JO 144 (.ia 11 (.t 143) (JT 0)), JH 145 3 144, JE 146 7 145, JO 147 (.cl (.f 11) [.t 138, .t 140, .t 141, .t 146]), JC 137 147, JK 148 0 137, JK 149 1 137, JB 24 148, JB 25 149]) (.seq (.reg [JA 150 20, JA 151 22, JO 152 (.bin .eql 49 (.t 150) (.t 151)), JC 153 152, JS 154 153 (.mv (.g 21)), JS 155 153 (.mv (.g 23)), JS 156 153 (.bin .eql 3 (.t 154) (.t 155)), JO 157 (.pick (.t 153) (.t 156) JY), JC 158 157, JS 159 158 (.mv (.g 24)), JS 160 158 (.bin .eql 49 (.t 159) (JT 0)), JO 161 (.pick (.t 158) (.t 160) JY), JC 162 161, JS 163 162 (.mv (.g 25)), JS 164 162 (.bin .eql 52 (.t 163) (JT 3)), JO 165 (.pick (.t 162) (.t 164) JY), JB 8 165]) .ret)))))))))))
theorem fi3 : FI Tryz.prog 3 cf3 ac3 [.t 8] [0, 1, 2, 3, 7, 8, 9, 10, 11, 12, 13, 14, 15, 16, 17, 18, 19, 20, 21, 22, 23, 24, 25] 166 := FI_of (c := Tryz.f3.body.getD .skip) Tryz.func3 (by kernel_rfl) (by rfl) (by rfl) (by kernel_rfl) (by kernel_rfl) rfl rfl rfl
@[simp] theorem cfP3 : cf3.P = Tryz.prog := (rfl)
set_option maxRecDepth 100000
set_option maxHeartbeats 8000000
def hZ (l : List Pm) : List Pm := l.map fun x => ⟨x.name, x.type, 1⟩
theorem EQ (l : List Pm) (i : Nat) (h : i < l.length) : hZ (l.take (i + 1)) = hZ (l.take i) ++ [⟨l[i].name, l[i].type, 1⟩] := by
 unfold hZ
 rw [List.take_add_one, List.getElem?_eq_getElem h, List.map_append]
 rfl
theorem law_AbsExprs : ∀ xs, Args Tryz.prog Tryz.f3.params.toList xs → Pure Tryz.prog 3 xs (B true) := by
 intro xs h
 rw [Tryz.params3] at h
 simp only [Args] at h
 obtain ⟨x, r, rfl, hx, y, r2, rfl, hy, z, r3, rfl, hz, u, r4, rfl, hu, rfl⟩ := h
 obtain ⟨t, rfl, ht⟩ := wB hx
 obtain ⟨s, rfl, hs⟩ := wB hy
 obtain ⟨nl, rfl, hnl⟩ := DS hz
 obtain ⟨ps, tt, tn, tl, rfl, hps, htw2, htl2⟩ := D7 hu
 obtain ⟨L, w, p, hr⟩ := KH t ht
 have hc := zP hr
 refine fi3.pu (by simp) ?_
 by_cases hsm : mK t L w
 ·rw [show i9 t L w = true by simp [i9, hsm]] at hc
  have hk := hr.2.1 hsm.1
  have hS := HQ hsm
  have htw := B7 hk hS s
  have hlT := nH L s 0
  have hnb : ∀ f ∈ L, (fK L).1 = 0 → NB L f.body := fun f hf h0 => BS hk (o7 h0).1 f hf
  obtain ⟨hPT, hPl, hsz⟩ := gR hk
  obtain ⟨hPs, hfs⟩ := iP hk
  simp -implicitDefEqProofs [ac3]
  refine aG (v9) (by simp) ?_
  simp -implicitDefEqProofs
  refine aG hc (by simp) ?_
  simp -implicitDefEqProofs
  refine aD (zM hk hS s hs fun id ver nx' h0 h1 => ?_)
  generalize hT0 : dE L s 0 = T at *
  have hL40 := hS.1
  simp -implicitDefEqProofs
  have hTP : T.length = L.length := hlT
  refine lpG cf3 lb3_1 [8, 12, 13, 14, 15, 16, 17, 18, 19] (α := Nat) (fun s _ => [(12, I s)]) (fun s _ => [(id, .arr ver 4 (em b8 T)), (9, .box [.sl (em aV L)])]) (fun s k => id < k ∧ 9 < id ∧ s ≤ L.length) (fun s => L.length - s) 0 ⟨by omega, by omega, by omega⟩ (by simp) (aL _) ?_
  rintro i k ⟨hk1, hid9, hi⟩
  have hz1 : (id = 9) = False := eq_false (by omega)
  have hz2 : (9 = id) = False := eq_false (by omega)
  by_cases hlt : i < L.length
  ·have hlti : (i : Int) < (L.length : Int) := by omega
   have w1 := aT (x := (i : Int) + 1) (by omega) (by omega)
   obtain ⟨f, hf⟩ : ∃ x, L[i] = x := ⟨_, rfl⟩
   have hfm : f ∈ L := by rw [← hf]; exact List.getElem_mem hlt
   obtain ⟨f1, f2⟩ := hfs f hfm
   obtain ⟨g1, g2, g3⟩ := hsz f hfm
   simp -implicitDefEqProofs [lb3_1, hlt, hlti, hf, hz1, hz2]
   obtain ⟨q, hq⟩ : ∃ q, k + 5 + 1 + 1 = q := ⟨_, rfl⟩
   rw [hq]
   refine cA (j := 13) (k := 3) rfl (.inl rfl) ?_
   refine lpG cf3 lb3_0 [13, 14, 15] (α := Nat × Nat × List Pm) (fun s _ => [(13, .osl q s.2.1 0 s.2.2.length), (14, I s.1)]) (fun s _ => [(q, .arr s.2.1 3 (em a7 s.2.2)), (id, .arr ver 4 (em b8 T)), (9, .box [.sl (em aV L)])]) (fun s k => q < k ∧ s.1 ≤ f.params.length ∧ s.2.2 = hZ (f.params.take s.1)) (fun s => f.params.length - s.1) (0, 0, []) ⟨by omega, by omega, by simp [hZ]⟩ (by simp [upd]) (by simp) ?_
   rintro ⟨c, v, ev⟩ k2 ⟨hk2, hc1, hev⟩
   simp only at hk2 hc1 hev
   have hel : ev.length = c := by rw [hev]; unfold hZ; rw [List.length_map, List.length_take]; omega
   have y1 : (q = 9) = False := eq_false (by omega)
   have y2 : (9 = q) = False := eq_false (by omega)
   have y3 : (q = id) = False := eq_false (by omega)
   have y4 : (id = q) = False := eq_false (by omega)
   by_cases hcl : c < f.params.length
   ·have hcli : (c : Int) < (f.params.length : Int) := by omega
    have w2 := aT (x := (c : Int) + 1) (by omega) (by omega)
    have hnext := EQ f.params c hcl
    rw [← hev] at hnext
    obtain ⟨x, hx⟩ : ∃ x, f.params[c] = x := ⟨_, rfl⟩
    rw [hx] at hnext
    have b1 : (ev.length + 1) * 32 ≤ 3 * 2 ^ 46 := by omega
    have hap : em a7 ev ++ [[Tx x.name, I x.type, I 1]] = em a7 (hZ (f.params.take (c + 1))) := by rw [hnext]; exact nD _ ⟨x.name, x.type, 1⟩
    have y5 : (k2 + 9 + 9 = q) = False := eq_false (by omega)
    have y6 : (q = k2 + 9 + 9) = False := eq_false (by omega)
    simp -implicitDefEqProofs [lb3_0, hcl, hcli, hx, hlt, hlti, hf, w2, b1, hap, hz1, hz2, y1, y2, y3, y4, y5, y6]
    exact aI (c + 1, v + 1, hZ (f.params.take (c + 1))) ⟨by omega, hcl, rfl⟩ (by simp only; omega) (by simp [hnext]) (aO (aL _) (by rw [a8, if_neg (by omega), a8, if_neg (by omega), a8, if_neg (by omega)]; rfl))
   ·have hcp : c = f.params.length := by omega
    subst hcp
    rw [List.take_length] at hev
    subst hev
    have b1 : ((hZ f.params).length + nl.length) * 32 ≤ 3 * 2 ^ 46 := by omega
    have hap : em a7 (hZ f.params) ++ em a7 nl = em a7 (hZ f.params ++ nl) := by simp [em]
    simp -implicitDefEqProofs [-els, qU, lb3_0, b1, hlt, hlti, hf, hz1, hz2, y1, y2, y3, y4, hap]
    have hE1 := tL hk (by rw [hTP]; omega) htw (hZ f.params ++ nl) (by rw [List.length_append]; omega) f.body g3 (by omega)
    have hE2 := wI hk (by rw [hTP]; omega) htw (hZ f.params ++ nl) (by rw [List.length_append]; omega) f.body g3 (by omega) (hnb f hfm)
    simp only [aA] at hE1 hE2
    have hfz : ∀ mf : Mem, mf = [(q, .arr (v + 1) 3 (em a7 (hZ f.params ++ nl))), (id, .arr ver 4 (em b8 T)), (9, .box [.sl (em aV L)])] → eG mf 100 [.agg [.sl (em aV L)], .osl id ver 0 L.length, .osl q (v + 1) 0 ((hZ f.params).length + nl.length), .agg [I f.body.op, Tx f.body.name, Tx f.body.tail, I f.body.type, CX f.body.num.re f.body.num.im, .sl (em aQ f.body.args), I f.body.at']] = some [.agg [.sl (em aV L)], .sl (em b8 T), .sl (em a7 (hZ f.params ++ nl)), .agg [I f.body.op, Tx f.body.name, Tx f.body.tail, I f.body.type, CX f.body.num.re f.body.num.im, .sl (em aQ f.body.args), I f.body.at']] := fun mf e => by
     subst e
     simp [eG, frz, look, y1, y2, y3, y4, hz1, hz2, ← hTP, List.take_of_length_le]
    generalize gS L T (hZ f.params ++ nl) f.body = R at *
    refine aD (jJ (d0 := .tup [I R.1, I R.2]) rfl (aE _) (hfz _ rfl) hE1 ?_)
    simp -implicitDefEqProofs [hlt, hlti, hf, hz1, hz2, y1, y2, y3, y4]
    refine aD (jJ (d0 := .tup [I R.1, I R.2]) rfl (aE _) (hfz _ rfl) hE2 ?_)
    simp -implicitDefEqProofs [w1]
    exact aI (i + 1) ⟨by omega, hid9, hlt⟩ (by omega) (by simp) (aO (aL _) (by rw [a8, if_neg (by omega), a8, if_neg (by omega)]; rfl))
  ·have hil : i = L.length := by omega
   subst hil
   simp -implicitDefEqProofs [lb3_1, hz1, hz2]
   have hpos : 0 < L.length := by
    obtain ⟨_, _, _, _, _, _, _, _, hne⟩ := hk
    cases L with
    | nil => exact absurd rfl hne
    | cons a b => simp
   have hposT : 0 < T.length := by rw [hTP]; exact hpos
   obtain ⟨f, hf⟩ : ∃ x, L[0] = x := ⟨_, rfl⟩
   have hfd : L[0]?.getD default = f := by rw [List.getElem?_eq_getElem hpos, hf]; rfl
   have hfm : f ∈ L := by rw [← hf]; exact List.getElem_mem hpos
   obtain ⟨f1, f2⟩ := hfs f hfm
   obtain ⟨g1, g2, g3⟩ := hsz f hfm
   rw [hfd]
   refine ⟨hpos, hposT, by simp [b8], hpos, ?_⟩
   have hset : (em b8 T).set 0 (D.sl (em a9 ps) :: I tt :: I tn :: D.sl (em eY tl) :: List.drop 4 (b8 (T[0]?.getD default))) = em b8 (T.set 0 ⟨ps, tt, tn, tl⟩) := AA (enc := b8) (x := ⟨ps, tt, tn, tl⟩)
   rw [hset]
   obtain ⟨T2, hT2⟩ : ∃ x, T.set 0 ⟨ps, tt, tn, tl⟩ = x := ⟨_, rfl⟩
   have hl2 : T2.length = L.length := by rw [← hT2, List.length_set, hTP]
   have htw3 : TW T2 := by
    intro y hy
    rw [← hT2] at hy
    rcases List.mem_or_eq_of_mem_set hy with hy | rfl
    ·exact htw y hy
    ·exact ⟨htw2, hps⟩
   rw [hT2]
   have hE1 := tL hk (by rw [hl2]; omega) htw3 nl (by omega) f.body g3 (by omega)
   have hE2 := wI hk (by rw [hl2]; omega) htw3 nl (by omega) f.body g3 (by omega) (hnb f hfm)
   have hE3 := tL (T := T2.drop 1) hk (by rw [List.length_drop, hl2]; omega) (fun y hy => htw3 y (List.mem_of_mem_drop hy)) nl (by omega) f.body g3 (by omega)
   rw [show gS L (T2.drop 1) nl f.body = (0, 3) by unfold gS; rw [if_neg (fun g => by have := g.1.2.1; rw [List.length_drop, hl2] at this; omega)]] at hE3
   simp only [aA] at hE1 hE2 hE3
   have hfz : ∀ mf : Mem, mf = [(id, .arr ver 4 (em b8 T2)), (9, .box [.sl (em aV L)])] → eG mf 100 [.agg [.sl (em aV L)], .osl id ver 0 L.length, .sl (em a7 nl), .agg [I f.body.op, Tx f.body.name, Tx f.body.tail, I f.body.type, CX f.body.num.re f.body.num.im, .sl (em aQ f.body.args), I f.body.at']] = some [.agg [.sl (em aV L)], .sl (em b8 T2), .sl (em a7 nl), .agg [I f.body.op, Tx f.body.name, Tx f.body.tail, I f.body.type, CX f.body.num.re f.body.num.im, .sl (em aQ f.body.args), I f.body.at']] := fun mf e => by
    subst e
    simp [eG, frz, look, hz1, hz2, ← hl2, List.take_of_length_le]
   have hdt : (em b8 T2).tail = em b8 T2.tail := by simp [em, List.map_tail]
   have hfz2 : ∀ mf : Mem, mf = [(id, .arr ver 4 (em b8 T2)), (9, .box [.sl (em aV L)])] → eG mf 100 [.agg [.sl (em aV L)], .osl id ver 1 (L.length - 1), .sl (em a7 nl), .agg [I f.body.op, Tx f.body.name, Tx f.body.tail, I f.body.type, CX f.body.num.re f.body.num.im, .sl (em aQ f.body.args), I f.body.at']] = some [.agg [.sl (em aV L)], .sl (em b8 T2.tail), .sl (em a7 nl), .agg [I f.body.op, Tx f.body.name, Tx f.body.tail, I f.body.type, CX f.body.num.re f.body.num.im, .sl (em aQ f.body.args), I f.body.at']] := fun mf e => by
    subst e
    have h1 : 1 + (T2.length - 1) ≤ T2.length := by omega
    simp [eG, frz, look, hz1, hz2, ← hl2, h1, hdt, List.take_of_length_le]
   have hsls : ∀ mf : Mem, mf = [(id, .arr ver 4 (em b8 T2)), (9, .box [.sl (em aV L)])] → fJ mf false 4 (.osl id ver 0 L.length) (some (.pl (.int .i64 1))) none = some (.osl id ver 1 (L.length - 1)) := fun mf e => by
    subst e
    have h1 : (1 : Int) ≤ (L.length : Int) := by omega
    have h2 : ((L.length : Int) - 1).toNat = L.length - 1 := by omega
    simp [fJ, kT, cur, look, c8, h1, h2]
   generalize gS L T2 nl f.body = R at *
   refine aD (jJ (d0 := .tup [I R.1, I R.2]) rfl (aE _) (hfz _ rfl) hE1 ?_)
   simp -implicitDefEqProofs [hpos, hf, hz1, hz2]
   refine aD (jJ (d0 := .tup [I R.1, I R.2]) rfl (aE _) (hfz _ rfl) hE2 ?_)
   simp -implicitDefEqProofs [hpos, hf, hz1, hz2]
   rw [hsls _ rfl]
   simp -implicitDefEqProofs [hpos, hf, hz1, hz2]
   rw [← List.drop_one] at hfz2
   refine aD (jJ (d0 := .tup [I 0, I 3]) rfl (aE _) (hfz2 _ rfl) hE3 ?_)
   simp -implicitDefEqProofs
 ·rw [show i9 t L w = false by simp [i9, hsm]] at hc
  simp -implicitDefEqProofs [ac3]
  refine aG (v9) (by simp) ?_
  simp -implicitDefEqProofs
  refine aG hc (by simp) ?_
  simp -implicitDefEqProofs
end Go.Fx.YtlhdpfaohphbaaaGreat
set_option maxRecDepth 1000000
namespace Go.Proofs.YtlhdpfaohphbaaaGreat.RowAbsExprs
open Go Go.Fx Go.Proofs Go.Proofs.YtlhdpfaohphbaaaGreat
theorem fnRow : RowFn Tryz.checked 3 Tryz.f3 Rows.absExprsSpec (Tryz.f3.resultTypes.getD 0 0) where
 own := by kernel_rfl
 noInit := by kernel_rfl
 func := Tryz.func3
 laid := by kernel_rfl
 params := by kernel_rfl
 res := by kernel_rfl
 bool := by kernel_rfl
 vars := rfl
 spec := by
  intro H ds h
  have h' : ds.length = 4 := h.trans (by kernel_rfl)
  match ds, h' with
  | [d0, d1, d2, d3], _ => rfl
theorem over : Rows.absExprsRow.holds Tryz.pinned (OpenSpec.ofChange Rows.absExprsSpec) :=
 OpenClaim.holds_of_wide 3 Tryz.f3 rfl rfl rfl rfl rfl rfl rfl ⟨rfl, rfl, rfl, rfl, rfl⟩ rfl rfl rfl rfl rfl (by kernel_rfl) Tryz.func3 (by kernel_rfl)
  (of_decide_eq_true (by kernel_rfl)) (by unfold Func.isWrapper; first | (rw [if_pos (by decide +kernel)]; kernel_rfl) | (rw [if_neg (by decide +kernel)]; exact ⟨rfl, rfl⟩))
  (fun os started H enc _ => row_of fnRow started (ChangeSpec.witness6 (enc := enc) (C := Tryz.checked) false ⟨#[], #[.slice none 0 0, .slice none 0 0, .slice none 0 0, .agg #[.slice none 0 0, .int .i64 0, .int .i64 0, .slice none 0 0]], []⟩ 8 (by kernel_rfl) (by kernel_rfl) (by kernel_rfl) (by kernel_rfl)) Go.Fx.YtlhdpfaohphbaaaGreat.law_AbsExprs)
theorem proved : Rows.AbsExprsSaid := over
end Go.Proofs.YtlhdpfaohphbaaaGreat.RowAbsExprs
namespace Go.Proofs.YtlhdpfaohphbaaaGreat
theorem absExprs_holds : Rows.AbsExprsSaid := RowAbsExprs.proved
#print axioms absExprs_holds
end Go.Proofs.YtlhdpfaohphbaaaGreat

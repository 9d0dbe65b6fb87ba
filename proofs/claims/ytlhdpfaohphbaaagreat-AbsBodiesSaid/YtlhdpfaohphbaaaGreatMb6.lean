/- AbsBodies holds: every body and every round has just the point that the document gives. No condition. -/
import Derived.Test.YtlhdpfaohphbaaaGreatMb5
import Derived.Test.YtlhdpfaohphbaaaGreatRows
set_option linter.all false
set_option maxRecDepth 100000
set_option maxHeartbeats 8000000
namespace Go.Fx.YtlhdpfaohphbaaaGreat
open Go Go.Fx Go.Proofs Go.Fx.Flt Rows
theorem imm_X (l : List (List UInt8 × Int)) : D.immss (em gE l) = true := fC fun x => rfl
attribute [simp] imm_X
abbrev nmD (N : Nls) : D := .sl (em gE N.reverse)
def RPtC (e : Ex) : Prop := ∀ ⦃P : List Fn⦄ ⦃T : List Tt⦄ ⦃N : Nls⦄ ⦃env : List Pm⦄ ⦃t : Int⦄, kE P T → P.length < 2 ^ 39 → (∀ f ∈ P, f.params.length < 2 ^ 39) → PT P → Sh e → a_ t → bO P env e t = [] → EnvR env N → (N.length + 2 * size e ≤ 5 * 2 ^ 40 ∧ size e ≤ 2 ^ 38) →
 Pure Tryz.prog 43 [rsD P T, exD e, nmD N] (I (ptF (aS P T) e N))
structure RPts (P : List Fn) (T : List Tt) (env : List Pm) (N0 : Nat) (op : Int) (n tl : List UInt8) (ty t : Int) (args : List Ex) : Prop where
 c : ∀ k (hk : k < args.length) ⦃env' : List Pm⦄ ⦃M : Nls⦄, aN env op n tl ty k = env' → EnvR env' M → M.length ≤ N0 + 2 → a_ (aL P op n ty k t) → Pure Tryz.prog 43 [rsD P T, exD args[k], nmD M] (I (ptI (aS P T) args k M))
 i : ∀ k, k < args.length → ∀ ⦃env' : List Pm⦄ ⦃M : Nls⦄, aN env op n tl ty k = env' → EnvR env' M → a_ (aL P op n ty k t) → Pin (aL P op n ty k t) (ptI (aS P T) args k M)
theorem pE (N : Nls) (n : List UInt8) (p : Int) (hl : N.length ≤ 5 * 2 ^ 40) : Pure Tryz.prog 76 [nmD N, Tx n, I p] (nmD ((n, p) :: N)) := by
 have h := LR N.reverse n p (by simpa using hl)
 rw [← List.reverse_cons] at h
 exact h
theorem KC {P : List Fn} {T : List Tt} {N : Nls} {env : List Pm} {t : Int} (n tl : List UInt8) (ty : Int) (z : Cx) (args : List Ex) (p : Int) (hl : args.length = 3) (ht : a_ t) (he : EnvR env N) (hN : N.length < 5 * 2 ^ 40) (pts : RPts P T env N.length 20 n tl ty t args) :
  Pure Tryz.prog 75 [rsD P T, .agg [I 20, Tx n, Tx tl, I ty, CX z.re z.im, .sl (em aT args), I p], nmD N] (I (ptF (aS P T) (.mk 20 n tl ty z args p) N)) := by
 have w0 : aL P 20 n ty 0 t = 3 := by simp [aL]
 have w1 : aL P 20 n ty 1 t = t := by simp [aL]
 have w2 : aL P 20 n ty 2 t = t := by simp [aL]
 have e0 : aN env 20 n tl ty 0 = env := by simp [aN]
 have e1 : aN env 20 n tl ty 1 = env := by simp [aN]
 have e2 : aN env 20 n tl ty 2 = (env ++ [⟨n, 1, 0⟩]) ++ [⟨tl, 3, 0⟩] := by simp [aN]
 have i0 := pts.i 0 (by omega) e0 he (by rw [w0]; exact .inr (.inr rfl))
 rw [w0] at i0
 have q0 : 0 < args.length := by omega
 have q1 : 1 < args.length := by omega
 have q2 : 2 < args.length := by omega
 have q0i : (0 : Int) < (args.length : Int) := by omega
 have q1i : (1 : Int) < (args.length : Int) := by omega
 have q2i : (2 : Int) < (args.length : Int) := by omega
 have c0 := pts.c 0 q0 e0 he (by omega) (by rw [w0]; exact .inr (.inr rfl))
 have c1 := pts.c 1 q1 e1 he (by omega) (by rw [w1]; exact ht)
 have c2 := pts.c 2 q2
 obtain ⟨a0, ha0⟩ : ∃ a, args[0] = a := ⟨_, rfl⟩
 obtain ⟨a1, ha1⟩ : ∃ a, args[1] = a := ⟨_, rfl⟩
 obtain ⟨a2, ha2⟩ : ∃ a, args[2] = a := ⟨_, rfl⟩
 rw [ha0] at c0
 rw [ha1] at c1
 rw [ha2] at c2
 have hpt : ptF (aS P T) (.mk 20 n tl ty z args p) N = casF (fun b => if b.nl = true then ptI (aS P T) args 1 N else ptI (aS P T) args 2 ((tl, b.tl) :: (n, b.hd) :: N)) (csF (ptI (aS P T) args 0 N)) := by
  conv => lhs; unfold ptF
  simp
 rw [hpt]
 clear hpt
 generalize hv0 : ptI (aS P T) args 0 N = v0 at *
 refine fi75.pu (by simp) ?_
 simp -implicitDefEqProofs [ac75, ha0, q0, q0i]
 refine aG c0 (by simp) ?_
 unfold Pin at i0
 rw [sO] at i0
 simp -implicitDefEqProofs
 refine aG (xJ i0).2 (by simp) ?_
 simp -implicitDefEqProofs
 generalize hL : csF v0 = L
 have hLin : ∀ b ∈ L, b.nl = false → Pin 1 b.hd ∧ Pin 3 b.tl := by rw [← hL]; exact y6
 unfold casF
 generalize hR : L.foldl (fun m b => max m ((fun b : Br => if b.nl = true then ptI (aS P T) args 1 N else ptI (aS P T) args 2 ((tl, b.tl) :: (n, b.hd) :: N)) b)) 0 = R
 refine lpG cf75 lb75_0 [7, 9, 10, 11, 12] (α := Nat × Int) (fun s _ => [(7, I s.2), (9, I s.1), (10, .top), (11, .top), (12, .top)]) (fun s _ => []) (fun s k => s.1 ≤ L.length ∧ (L.drop s.1).foldl (fun m b => max m ((fun b : Br => if b.nl = true then ptI (aS P T) args 1 N else ptI (aS P T) args 2 ((tl, b.tl) :: (n, b.hd) :: N)) b)) s.2 = R) (fun s => L.length - s.1) (0, 0) ⟨by simp, hR⟩ (by simp) (by simp) ?_
 have hLl : L.length ≤ 2 := by
  rw [← hL]; unfold csF
  split
  ·simp
  ·split
   ·simp
   ·split <;> simp
 clear hR
 rintro ⟨i, m⟩ k ⟨hi, hr⟩
 simp only at hi hr
 by_cases hlt : i < L.length
 ·have wi := aQ (x := (i : Int) + 1) (by omega) (by omega)
  rw [List.drop_eq_getElem_cons hlt, List.foldl_cons] at hr
  obtain ⟨b, hb⟩ : ∃ b, L[i] = b := ⟨_, rfl⟩
  have hbL : b ∈ L := by rw [← hb]; exact List.getElem_mem hlt
  rw [hb] at hr
  by_cases hnl : b.nl = true
  ·rw [if_pos hnl] at hr
   simp -implicitDefEqProofs [lb75_0, vB, hlt, hb, hnl, ha1, q1, q1i]
   refine aG c1 (by simp) ?_
   simp -implicitDefEqProofs [wi]
   exact aI (i + 1, max m (ptI (aS P T) args 1 N)) ⟨hlt, hr⟩ (by simp only; omega) (by simp) (by simp)
  ·rw [if_neg hnl] at hr
   have hnl2 : b.nl = false := by simpa using hnl
   obtain ⟨p1, p2⟩ := hLin b hbL hnl2
   have hc2 := c2 (M := (tl, b.tl) :: (n, b.hd) :: N) e2 ((he.one p1).one p2) (by simp) (by rw [w2]; exact ht)
   simp -implicitDefEqProofs [lb75_0, vB, hlt, hb, hnl2, ha2, q2, q2i]
   refine aG (pE N n b.hd (by omega)) (by simp) ?_
   simp -implicitDefEqProofs [ha2, q2, q2i]
   refine aG (pE ((n, b.hd) :: N) tl b.tl (by simp; omega)) (by simp) ?_
   simp -implicitDefEqProofs
   refine aG hc2 (by simp) ?_
   simp -implicitDefEqProofs [wi]
   exact aI (i + 1, max m (ptI (aS P T) args 2 ((tl, b.tl) :: (n, b.hd) :: N))) ⟨hlt, hr⟩ (by simp only; omega) (by simp) (by simp)
 ·have hil : i = L.length := by omega
  subst hil
  rw [List.drop_length] at hr
  simp only [List.foldl_nil] at hr
  subst hr
  simp -implicitDefEqProofs [lb75_0]
def mR : List (List UInt8 × Int) → List UInt8 → Int → Int
 | [], _, d => d
 | x :: xs, n, d => mR xs n (if x.1 = n then x.2 else d)
theorem ia_X {l : List (List UInt8 × Int)} {mem : Mem} {j : IntKind} {i : Int} : iaD mem 2 (.sl (em gE l)) (.pl (.int j i)) = if 0 ≤ i ∧ i < l.length then some (.pt [Tx (l[i.toNat]?.getD default).1, I (l[i.toNat]?.getD default).2]) else none := gP fun x => rfl
theorem xL (n : List UInt8) (x : List UInt8 × Int) : ∀ (l : List (List UInt8 × Int)) (d : Int), mR (l ++ [x]) n d = if x.1 = n then x.2 else mR l n d
 | [], d => rfl
 | y :: ys, d => by simp only [List.cons_append, mR]; exact xL n x ys _
theorem wZ (n : List UInt8) : ∀ N : Nls, mR N.reverse n 0 = lU N n
 | [] => rfl
 | x :: r => by rw [List.reverse_cons, xL, wZ n r]; rfl
theorem MH {P : List Fn} {T : List Tt} {env : List Pm} {N0 : Nat} {op : Int} {n tl : List UInt8} {ty t : Int} {args : List Ex} (hT : kE P T) (hPl : P.length < 2 ^ 39) (hpr : ∀ f ∈ P, f.params.length < 2 ^ 39) (hP : PT P) (hss : Shs args) (hws : cC P env op n tl ty t 0 args = []) (hz : N0 + 2 + 2 * bC args ≤ 5 * 2 ^ 40 ∧ bC args ≤ 2 ^ 38) (ih : ∀ x ∈ args, RPtC x) : RPts P T env N0 op n tl ty t args := by
 have harg : ∀ k x, args[k]? = some x → bO P (aN env op n tl ty k) x (aL P op n ty k t) = [] := fun k x hx => by
  have := p_ args 0 k x hws hx
  rwa [Nat.zero_add] at this
 refine ⟨fun k hk env' M he hM hMl ht => ?_, fun k hk env' M he hM ht => ?_⟩
 ·have hx := List.getElem?_eq_getElem hk
  have hm := List.getElem_mem hk
  rw [gH (N := M) args k _ hx]
  have hsz := jO hm
  exact ih _ hm hT hPl hpr hP (jY hss hm) ht (by rw [← he]; exact harg k _ hx) hM (by omega)
 ·have hx := List.getElem?_eq_getElem hk
  have hm := List.getElem_mem hk
  rw [gH args k _ hx]
  exact yM hP (uG hT) _ (jY hss hm) ht (by rw [← he]; exact harg k _ hx) hM
theorem BA (op : Int) (n tl : List UInt8) (ty : Int) (z : Cx) (args : List Ex) (p : Int) (ih : ∀ x ∈ args, RPtC x) : RPtC (.mk op n tl ty z args p) := by
 intro P T N env t hT hPl hpr hP hsh ht hw he hz
 have hw0 := hw
 have hsh0 := hsh
 unfold Sh at hsh
 obtain ⟨hsp, hss⟩ := hsh
 unfold bO at hw
 rw [List.append_eq_nil_iff] at hw
 obtain ⟨hw, hown⟩ := hw
 have hown' : cZ op ∨ cA P env op n ty args.length = t := by
  apply Classical.byContradiction
  intro g
  rw [if_neg g] at hown; simp at hown
 have hbad : op = 7 → ¬ cH P n args.length := by
  intro h7 hb
  subst h7
  rcases hown' with h | h
  ·unfold cZ at h; omega
  ·unfold cA at h
   rw [if_neg (by omega), if_neg (by omega), if_neg (by omega), if_neg (by omega), if_pos rfl, if_pos hb] at h
   unfold a_ at ht; omega
 have hws : cC P env op n tl ty t 0 args = [] := by
  by_cases h7 : op = 7 ∧ cH P n args.length
  ·exact absurd h7.2 (hbad h7.1)
  ·rw [if_neg h7] at hw; exact hw
 have hz' : N.length + 2 + 2 * bC args ≤ 5 * 2 ^ 40 ∧ bC args ≤ 2 ^ 38 := by unfold size at hz; omega
 have pts := MH (T := T) (N0 := N.length) hT hPl hpr hP hss hws hz' ih
 generalize hR : ptF (aS P T) (.mk op n tl ty z args p) N = R
 have hR0 := hR
 unfold ptF at hR
 unfold dS at hsp
 show Pure Tryz.prog 43 [rsD P T, .agg [I op, Tx n, Tx tl, I ty, CX z.re z.im, .sl (em aT args), I p], nmD N] (I R)
 refine fi43.pu (by simp) ?_
 simp -implicitDefEqProofs [ac43]
 by_cases c1 : op = 1
 ·subst c1
  simp at hR
  subst hR
  simp -implicitDefEqProofs []
 by_cases c2 : op = 2
 ·subst c2
  simp at hR
  subst hR
  simp -implicitDefEqProofs []
 by_cases c3 : op = 3
 ·subst c3
  simp at hR
  subst hR
  simp -implicitDefEqProofs []
 by_cases c4 : op = 4
 ·subst c4
  simp at hR
  subst hR
  simp -implicitDefEqProofs []
 by_cases c5 : op = 5
 ·subst c5
  simp at hR
  subst hR
  simp -implicitDefEqProofs []
 have own_of : ¬ cZ op → cA P env op n ty args.length = t := fun h => hown'.resolve_left h
 by_cases c6 : op = 6
 ·subst c6
  simp at hR
  subst hR
  simp -implicitDefEqProofs []
  generalize hG : lU N n = G
  obtain ⟨M, hM⟩ : ∃ M, N.reverse = M := ⟨_, rfl⟩
  have hMl : M.length = N.length := by rw [← hM]; simp
  have hMg : nmD N = .sl (em gE M) := by rw [← hM]
  rw [hMg]
  have hst : mR M n 0 = G := by rw [← hG, ← hM]; exact wZ n N
  refine lpG cf43 lb43_2 [7, 8] (α := Nat × Int) (fun s _ => [(7, I s.2), (8, I s.1)]) (fun s _ => []) (fun s k => s.1 ≤ M.length ∧ mR (M.drop s.1) n s.2 = G) (fun s => M.length - s.1) (0, 0) ⟨by simp, hst⟩ (by simp) (by simp) ?_
  rintro ⟨i, d⟩ k ⟨hi, hr⟩
  simp only at hi hr
  by_cases hlt : i < M.length
  ·have w1 := aQ (x := (i : Int) + 1) (by omega) (by omega)
   rw [List.drop_eq_getElem_cons hlt] at hr
   unfold mR at hr
   obtain ⟨x, hx⟩ : ∃ x, M[i] = x := ⟨_, rfl⟩
   rw [hx] at hr
   by_cases hn : x.1 = n
   ·rw [if_pos hn] at hr
    simp -implicitDefEqProofs [lb43_2, ia_X, hlt, hx, hn, w1]
    exact aI (i + 1, x.2) ⟨hlt, hr⟩ (by simp only; omega) (by simp) (by simp)
   ·rw [if_neg hn] at hr
    simp -implicitDefEqProofs [lb43_2, ia_X, hlt, hx, hn, w1]
    exact aI (i + 1, d) ⟨hlt, hr⟩ (by simp only; omega) (by simp) (by simp)
  ·have hil : i = M.length := by omega
   subst hil
   rw [List.drop_length] at hr
   simp only [mR] at hr
   subst hr
   simp -implicitDefEqProofs [lb43_2]
 by_cases c19 : op = 19
 ·subst c19
  have hl : args.length = 3 := by omega
  have w0 : aL P 19 n ty 0 t = 2 := by simp [aL]
  have w1 : aL P 19 n ty 1 t = t := by simp [aL]
  have w2 : aL P 19 n ty 2 t = t := by simp [aL]
  have q0 : 0 < args.length := by omega
  have q1 : 1 < args.length := by omega
  have q2 : 2 < args.length := by omega
  have q0i : (0 : Int) < (args.length : Int) := by omega
  have q1i : (1 : Int) < (args.length : Int) := by omega
  have q2i : (2 : Int) < (args.length : Int) := by omega
  have a0 := pts.c 0 q0 (env' := env) (by simp [aN]) he (by omega) (by rw [w0]; exact .inr (.inl rfl))
  have a1 := pts.c 1 q1 (env' := env) (by simp [aN]) he (by omega) (by rw [w1]; exact ht)
  have a2 := pts.c 2 q2 (env' := env) (by simp [aN]) he (by omega) (by rw [w2]; exact ht)
  obtain ⟨x0, hx0⟩ : ∃ a, args[0] = a := ⟨_, rfl⟩
  obtain ⟨x1, hx1⟩ : ∃ a, args[1] = a := ⟨_, rfl⟩
  obtain ⟨x2, hx2⟩ : ∃ a, args[2] = a := ⟨_, rfl⟩
  rw [hx0] at a0
  rw [hx1] at a1
  rw [hx2] at a2
  simp only [Int.reduceEq, if_true, if_false, or_self] at hR
  simp -implicitDefEqProofs [hx0, q0, q0i]
  refine aG a0 (by simp) ?_
  by_cases hv : ptI (aS P T) args 0 N = 0
  ·rw [if_pos hv] at hR
   subst hR
   simp -implicitDefEqProofs [hv]
  ·rw [if_neg hv] at hR
   subst hR
   simp -implicitDefEqProofs [hv, hx1, hx2, q1, q2, q1i, q2i]
   refine aG a1 (by simp) ?_
   simp -implicitDefEqProofs [hx1, hx2, q1, q2, q1i, q2i]
   refine aG a2 (by simp) ?_
   simp -implicitDefEqProofs
 by_cases c20 : op = 20
 ·subst c20
  have hl : args.length = 3 := by omega
  simp -implicitDefEqProofs []
  refine aG (KC n tl ty z args p hl ht he (by omega) pts) (by simp) ?_
  rw [hR0]
  simp -implicitDefEqProofs
 by_cases c21 : op = 21
 ·subst c21
  have hl : args.length = 2 ∧ a_ ty := by unfold a_ at *; omega
  have w0 : aL P 21 n ty 0 t = ty := by simp [aL]
  have w1 : aL P 21 n ty 1 t = t := by simp [aL]
  have e0 : aN env 21 n tl ty 0 = env ++ [⟨n, ty, 0⟩] := by simp [aN]
  have e1 : aN env 21 n tl ty 1 = env ++ [⟨n, ty, 0⟩] := by simp [aN]
  have q0 : 0 < args.length := by omega
  have q1 : 1 < args.length := by omega
  have q0i : (0 : Int) < (args.length : Int) := by omega
  have q1i : (1 : Int) < (args.length : Int) := by omega
  have a0 := pts.c 0 q0
  have a1 := pts.c 1 q1
  have p0 : Pin ty 0 := by have := mS hl.2; unfold Pin; omega
  have i0 : ∀ q, Pin ty q → Pin ty (ptI (aS P T) args 0 ((n, q) :: N)) := fun q hq => by
   have := pts.i 0 q0 (M := (n, q) :: N) e0 (he.one hq) (by rw [w0]; exact hl.2)
   rwa [w0] at this
  obtain ⟨x0, hx0⟩ : ∃ a, args[0] = a := ⟨_, rfl⟩
  obtain ⟨x1, hx1⟩ : ∃ a, args[1] = a := ⟨_, rfl⟩
  rw [hx0] at a0
  rw [hx1] at a1
  simp only [Int.reduceEq, if_true, if_false, or_self] at hR
  generalize hG : jA (fun q => ptI (aS P T) args 0 ((n, q) :: N)) 4 0 = G at hR
  simp -implicitDefEqProofs []
  refine lpG cf43 lb43_1 [6, 11, 12] (α := Nat × Int) (fun s _ => [(6, .top), (11, I s.2), (12, .top)]) (fun s _ => []) (fun s k => jA (fun q => ptI (aS P T) args 0 ((n, q) :: N)) s.1 s.2 = G ∧ Pin ty s.2 ∧ tp ty < s.2 + s.1 + 1) (fun s => s.1) (4, 0) ⟨hG, p0, by have := fY ty; simp only; omega⟩ (by simp) (by simp) ?_
  rintro ⟨j, q⟩ k ⟨hr, hp, hj⟩
  simp only at hr hp hj
  have g1 := i0 q hp
  have hc0 := a0 (M := (n, q) :: N) e0 (he.one hp) (by simp) (by rw [w0]; exact hl.2)
  simp -implicitDefEqProofs [lb43_1, hx0, q0, q0i]
  refine aG (pE N n q (by omega)) (by simp) ?_
  simp -implicitDefEqProofs
  refine aG hc0 (by simp) ?_
  by_cases hgq : ptI (aS P T) args 0 ((n, q) :: N) ≤ q
  ·have hRq : G = q := by
    rw [← hr]
    cases j with
    | zero => rfl
    | succ j => unfold jA; rw [if_pos hgq]
   subst hRq
   have hc1 := a1 (M := (n, G) :: N) e1 (he.one hp) (by simp) (by rw [w1]; exact ht)
   rw [hR] at hc1
   simp -implicitDefEqProofs [hgq, hx1, q1, q1i]
   refine aG (pE N n G (by omega)) (by simp) ?_
   simp -implicitDefEqProofs
   refine aG hc1 (by simp) ?_
   simp -implicitDefEqProofs
  ·have hj1 : ∃ j', j = j' + 1 := by
    cases j with
    | zero => unfold Pin at g1 hp; simp only [Int.natCast_zero] at hj; omega
    | succ j => exact ⟨j, rfl⟩
   obtain ⟨j', rfl⟩ := hj1
   unfold jA at hr
   rw [if_neg hgq] at hr
   simp -implicitDefEqProofs [hgq]
   exact aI (j', ptI (aS P T) args 0 ((n, q) :: N)) ⟨hr, g1, by simp only; push_cast at hj; omega⟩ (by simp) (by simp) (by simp)
 by_cases c22 : op = 22
 ·subst c22
  have hl : args.length = 2 ∧ a_ ty := by unfold a_ at *; omega
  have w0 : aL P 22 n ty 0 t = ty := by simp [aL]
  have w1 : aL P 22 n ty 1 t = t := by simp [aL]
  have e1 : aN env 22 n tl ty 1 = env ++ [⟨n, ty, 0⟩] := by simp [aN]
  have q0 : 0 < args.length := by omega
  have q1 : 1 < args.length := by omega
  have q0i : (0 : Int) < (args.length : Int) := by omega
  have q1i : (1 : Int) < (args.length : Int) := by omega
  have a0 := pts.c 0 q0 (env' := env) (by simp [aN]) he (by omega) (by rw [w0]; exact hl.2)
  have a1 := pts.c 1 q1
  have i0 := pts.i 0 q0 (M := N) (env' := env) (by simp [aN]) he (by rw [w0]; exact hl.2)
  rw [w0] at i0
  obtain ⟨x0, hx0⟩ : ∃ a, args[0] = a := ⟨_, rfl⟩
  obtain ⟨x1, hx1⟩ : ∃ a, args[1] = a := ⟨_, rfl⟩
  rw [hx0] at a0
  rw [hx1] at a1
  simp only [Int.reduceEq, if_true, if_false, or_self] at hR
  simp -implicitDefEqProofs [hx0, q0, q0i]
  refine aG a0 (by simp) ?_
  by_cases hv : ptI (aS P T) args 0 N = 0
  ·rw [if_neg (by omega)] at hR
   subst hR
   simp -implicitDefEqProofs [hv]
  ·rw [if_pos (by unfold Pin at i0; omega)] at hR
   have hc1 := a1 (M := (n, ptI (aS P T) args 0 N) :: N) e1 (he.one i0) (by simp) (by rw [w1]; exact ht)
   rw [hR] at hc1
   simp -implicitDefEqProofs [hv, hx1, q1, q1i]
   refine aG (pE N n _ (by omega)) (by simp) ?_
   simp -implicitDefEqProofs
   refine aG hc1 (by simp) ?_
   simp -implicitDefEqProofs
 have c1' : ¬ (op = 1 ∨ op = 2 ∨ op = 3) := by omega
 rw [if_neg c1', if_neg c4, if_neg c5, if_neg c6, if_neg c19, if_neg c20, if_neg c21, if_neg c22] at hR
 simp -implicitDefEqProofs [c1, c2, c3, c4, c5, c6, c19, c20, c21, c22]
 refine cS (j := 14) (k := 1) rfl (.inl rfl) ?_
 refine lY ?_
 have hll : args.length ≤ 2 ^ 39 := by have := sF args; omega
 have hpar : op = 7 → ∀ k, k < args.length → ∃ x, (hdF P n).params[k]? = some x ∧ a_ x.type := by
  intro c7 k hk
  have hb := hbad c7
  unfold cH at hb
  have hlen : (hdF P n).params.length = args.length := by omega
  have hkp : k < (hdF P n).params.length := by omega
  have hf : hdF P n ∈ P := by
   unfold hdF
   have hlt : (aM P 0 n).toNat < P.length := by have := dE P 0 n; omega
   rw [List.getElem?_eq_getElem hlt]; exact List.getElem_mem hlt
  exact ⟨_, List.getElem?_eq_getElem hkp, (hP _ hf).2 _ (List.getElem_mem hkp)⟩
 have hjn : ∀ k, k < args.length → a_ (aL P op n ty k t) ∧ aN env op n tl ty k = env := by
  intro k hk
  have d1 : ¬ (op = 21 ∨ op = 22 ∧ k = 1) := by omega
  have d2 : ¬ (op = 20 ∧ k = 2) := by omega
  refine ⟨?_, by unfold aN; rw [if_neg d1, if_neg d2]⟩
  by_cases c7 : op = 7
  ·obtain ⟨x, hx, htx⟩ := hpar c7 k hk
   have w : aL P op n ty k t = x.type := by subst c7; simp [aL, hx]
   rw [w]; exact htx
  ·have d3 : ¬ (op = 21 ∨ op = 22) := by omega
   unfold aL a_
   by_cases c14 : op = 14
   ·simp [c14]
   ·by_cases c18 : op = 18
    ·by_cases hk1 : k = 1 <;> simp [c18, hk1]
    ·rw [if_neg c14, if_neg c18, if_neg c7, if_neg c19, if_neg c20, if_neg d3]; simp
 refine lpG cf43 lb43_0 [14, 15, 16] (α := Nat × Nat × List Int) (fun s _ => [(14, .osl 26 s.2.1 0 s.2.2.length), (15, I s.1), (16, .top)]) (fun s _ => [(26, .arr s.2.1 1 (em aU s.2.2))]) (fun s k => 26 < k ∧ s.1 ≤ args.length ∧ s.2.2 = (ptL (aS P T) args N).take s.1) (fun s => args.length - s.1) (0, 0, []) ⟨by omega, by simp, by simp⟩ (by simp [upd]) (by simp) ?_
 rintro ⟨i, v, l⟩ k ⟨hk1, hi, hl⟩
 simp only at hi hl hk1
 have hplen := nB (V := aS P T) (N := N) args
 have hle : l.length = i := by rw [hl, List.length_take]; omega
 by_cases hlt : i < args.length
 ·have w1 := aQ (x := (i : Int) + 1) (by omega) (by omega)
  obtain ⟨ht1, ht2⟩ := hjn i hlt
  have a := pts.c i hlt ht2 he (by omega) ht1
  obtain ⟨x, hx⟩ : ∃ x, args[i] = x := ⟨_, rfl⟩
  rw [hx] at a
  have hnext : l ++ [ptI (aS P T) args i N] = (ptL (aS P T) args N).take (i + 1) := by
   rw [hl, List.take_add_one, l7 args i _ (List.getElem?_eq_getElem hlt), gH args i _ (List.getElem?_eq_getElem hlt)]; rfl
  have b1 : (l.length + 1) * 8 ≤ 3 * 2 ^ 46 := by omega
  have e1 : em aU l ++ [[I (ptI (aS P T) args i N)]] = em aU (l ++ [ptI (aS P T) args i N]) := dX
  simp -implicitDefEqProofs [lb43_0, hlt, hx, w1]
  refine aG a (by simp) ?_
  simp -implicitDefEqProofs [b1, w1, e1]
  exact aI (i + 1, v + 1, l ++ [ptI (aS P T) args i N]) ⟨by omega, hlt, hnext⟩ (by simp only; omega) (by simp) (by simp)
 ·have hil : i = args.length := by omega
  subst hil
  rw [List.take_of_length_le (by omega)] at hl
  subst hl
  simp -implicitDefEqProofs [lb43_0]
  refine FK (j := 14) (d' := .sl (em aU (ptL (aS P T) args N))) rfl (by simp [frz, look]) ?_
  have hpi : ∀ k, k < args.length → (ptL (aS P T) args N)[k]? = some (ptI (aS P T) args k N) ∧ Pin (aL P op n ty k t) (ptI (aS P T) args k N) := fun k hk => by
   have hy := List.getElem?_eq_getElem hk
   obtain ⟨ht1, ht2⟩ := hjn k hk
   exact ⟨by rw [l7 args k _ hy, gH args k _ hy], pts.i k hk ht2 he ht1⟩
  have hparts := LM (P := P) (T := T) op n tl ty z args p (ptL (aS P T) args N) hT (by omega) (by omega) (fun f hf => by have := hpr f hf; omega) (by
    by_cases c18 : op = 18
    ·exact .inl c18
    by_cases c7 : op = 7
    ·exact .inr (.inl c7)
    refine .inr (.inr ⟨by omega, fun x hx => ?_⟩)
    obtain ⟨k, hk⟩ := List.getElem?_of_mem hx
    have hkl : k < args.length := by rw [← hplen]; exact (List.getElem?_eq_some_iff.1 hk).1
    obtain ⟨h1, h2⟩ := hpi k hkl
    rw [h1] at hk
    cases hk
    have d3 : ¬ (op = 21 ∨ op = 22) := by omega
    have hw1 : tp (aL P op n ty k t) = 1 := by
     unfold aL
     by_cases c14 : op = 14
     ·rw [if_pos c14]; rfl
     ·rw [if_neg c14, if_neg c18, if_neg c7, if_neg c19, if_neg c20, if_neg d3]; rfl
    unfold Pin at h2; omega) (fun c18 => by
    have hl2 : args.length = 2 := by omega
    obtain ⟨h1, h2⟩ := hpi 0 (by omega)
    obtain ⟨h3, h4⟩ := hpi 1 (by omega)
    subst c18
    have w0 : aL P 18 n ty 0 t = 1 := by simp [aL]
    have w1 : aL P 18 n ty 1 t = 3 := by simp [aL]
    rw [w0] at h2
    rw [w1] at h4
    rw [h1, h3]
    exact ⟨by omega, h2, h4⟩) (fun c7 => by
    have hb := hbad c7
    have hbb := hb
    unfold cH at hbb
    have hlen : (hdF P n).params.length = args.length := by omega
    refine ⟨by rw [hplen]; exact hb, vH _ _ (by rw [hplen, List.length_map, hlen]) fun k u hu => ?_⟩
    obtain ⟨x, hx, rfl⟩ := uB hu
    have hk : k < args.length := by rw [← hlen]; exact (List.getElem?_eq_some_iff.1 hx).1
    obtain ⟨h1, h2⟩ := hpi k hk
    subst c7
    have w : aL P 7 n ty k t = x.type := by simp [aL, hx]
    rw [w] at h2
    rw [h1]; exact h2)
  rw [hR] at hparts
  simp -implicitDefEqProofs [upd]
  refine aG hparts (by simp) ?_
  simp -implicitDefEqProofs
mutual
theorem y2 : ∀ e : Ex, RPtC e
 | .mk op n tl ty z args p => BA op n tl ty z args p (wP args)
theorem wP : ∀ l : List Ex, ∀ x ∈ l, RPtC x
 | [], x, h => by simp at h
 | y :: ys, x, h => by
  rcases List.mem_cons.1 h with e | h
  ·rw [e]; exact y2 y
  ·exact wP ys x h
end
def nmF (ps : List Pm) (tu : List Int) : Nls := ((ps.map Pm.name).zip tu).reverse
theorem EnvR.pre : ∀ (ps : List Pm) (tu : List Int), inT (ps.map Pm.type) tu = true → EnvR ps (nmF ps tu) := by
 have key : ∀ (ps : List Pm) (tu : List Int) (env : List Pm) (N : Nls), inT (ps.map Pm.type) tu = true → EnvR env N → EnvR (env ++ ps) (nmF ps tu ++ N) := by
  intro ps
  induction ps with
  | nil => intro tu env N _ h; simpa [nmF] using h
  | cons x ps ih =>
   intro tu env N hin h
   cases tu with
   | nil => simp [inT] at hin
   | cons p tu =>
    rw [List.map_cons, lI] at hin
    simp only [Bool.and_eq_true, decide_eq_true_eq] at hin
    have h2 := ih tu (env ++ [x]) ((x.name, p) :: N) hin.2 (EnvR.snoc h hin.1)
    have e1 : env ++ [x] ++ ps = env ++ x :: ps := by simp
    have e2 : nmF ps tu ++ (x.name, p) :: N = nmF (x :: ps) (p :: tu) ++ N := by simp [nmF]
    rw [e1, e2] at h2
    exact h2
 intro ps tu h
 have := key ps tu [] [] h EnvR.nil
 simpa using this
theorem H7 (ps : List Pm) (tu : List Int) (i : Nat) (h : i < ps.length) (h2 : i < tu.length) : (((ps.map Pm.name).zip tu).take (i + 1)).reverse = (ps[i].name, tu[i]) :: (((ps.map Pm.name).zip tu).take i).reverse := by
 have hz : i < ((ps.map Pm.name).zip tu).length := by simp; omega
 rw [List.take_add_one, List.getElem?_eq_getElem hz]
 simp
theorem G6 {mem : Mem} {nx hid : Nat} {P : List Fn} {T : List Tt} {K : KD} (i : Int) (f : Fn) (tu : List Int) (hs : Sg mem P hid T) (hP : PT P) (h0 : 0 ≤ i) (hlt : i.toNat < P.length) (hf : P[i.toNat] = f) (hsh : Sh f.body) (hw : bO P f.params f.body f.type = []) (hz : size f.body ≤ 2 ^ 39) (hpl : f.params.length < 2 ^ 40) (hin : inT (f.params.map Pm.type) tu = true)
  (hk : ∀ n', nx ≤ n' → K (I (ptF (aS P T) f.body (nmF f.params tu))) mem n') :
  bG Tryz.prog 50 [sgD P hid T, I i, .sl (em aU tu)] mem nx K := by
 have hti : i < (P.length : Int) := by omega
 have hln : tu.length = f.params.length := by simpa using nG hin
 have ht : a_ f.type := (hP f (hf ▸ List.getElem_mem hlt)).1
 refine fi50.ct (by simp) fun hfr => ?_
 simp -implicitDefEqProofs [ac50, h0, hti, hlt, hf]
 refine lpG cf50 lb50_0 [7, 8, 9, 20] (α := Nat × Nls) (fun s _ => [(7, c_ s.2), (20, I s.1)]) (fun s _ => mem) (fun s k => nx ≤ k ∧ s.1 ≤ tu.length ∧ s.2 = (((f.params.map Pm.name).zip tu).take s.1).reverse) (fun s => tu.length - s.1) (0, []) ⟨by omega, by simp, by simp⟩ (by simp [c_]) (aK _) ?_
 rintro ⟨j, N⟩ k ⟨hk1, hj, hN⟩
 simp only at hj hN hk1
 by_cases hjl : j < tu.length
 ·have w1 := aQ (x := (j : Int) + 1) (by omega) (by omega)
  have hjp : j < f.params.length := by omega
  have hjpi : (j : Int) < (f.params.length : Int) := by omega
  have hjli : (j : Int) < (tu.length : Int) := by omega
  have hnext := H7 f.params tu j hjp hjl
  rw [← hN] at hnext
  obtain ⟨x, hx⟩ : ∃ x, f.params[j] = x := ⟨_, rfl⟩
  obtain ⟨p, hp⟩ : ∃ x, tu[j] = x := ⟨_, rfl⟩
  rw [hx, hp] at hnext
  cases N with
  | nil =>
   simp -implicitDefEqProofs [lb50_0, hjp, hjpi, hjl, hjli, hx, hp, w1, c_]
   exact aI (j + 1, [(x.name, p)]) ⟨by omega, hjl, hnext.symm⟩ (by simp only; omega) (by simp [c_]) (aO (aK _) (hfr _ (by omega)))
  | cons y r =>
   simp -implicitDefEqProofs [lb50_0, hjp, hjpi, hjl, hjli, hx, hp, w1, c_]
   exact aI (j + 1, (x.name, p) :: y :: r) ⟨by omega, hjl, hnext.symm⟩ (by simp only; omega) (by simp [c_]) (aO (aK _) (hfr _ (by omega)))
 ·have hjt : j = f.params.length := by omega
  subst hjt
  have hN2 : N = nmF f.params tu := by rw [hN, List.take_of_length_le (by simp; omega)]; rfl
  subst hN2
  simp -implicitDefEqProofs [lb50_0, h0, hti, hlt, hf]
  have a := BO f.body
  refine aD (a hs hP hsh ht hw (EnvR.pre _ _ hin) hz (fun n1 hn1 => ?_))
  simp -implicitDefEqProofs
  exact ⟨_, aE _, hk _ (by omega)⟩
set_option maxHeartbeats 4000000
theorem MS (t : List UInt8) (ht : t.length ≤ 32768) (hm : (dF t).2 < 0) {n : Nat} (hN : n ≤ 2 ^ 40) {L : List Fn} {q : Rd} (hp : eH n [] (rd0 t 32768 32768 32768 32768) = some (L, q)) (hw : q.why = 0) (hlt : q.at' < (dF t).1.length) : vW t L 0 0 := by
 have hk := AO (t := t) (lt := 32768) (lF := 32768) (lA := 32768) (lN := 32768) (by omega) hm (by decide)
 have hc := zB t ht hm hN hp
 rw [if_pos hw] at hc
 obtain ⟨g1, g2, k, g3, g4, g5⟩ := x5 _ _ _ L q hp hw
 simp only [List.nil_append] at g3
 subst g3
 refine ⟨hc, fun _ => ⟨(dF t).1, 0, q.at', hk.ms, hk.len, ?_, hlt, g4, g5 rfl⟩, fun h => absurd rfl h⟩
 exact gZ _ t 0 [] (by omega) (fun i j _ h => by simp at h) (fun i h => by simp at h) hm
theorem wt_u8 {n : Nat} {ds : List D} (h : Wt Tryz.prog n 5 ds) : ∃ b : UInt8, ds = dC b ∧ True := by
 cases n with
 | zero => exact h.elim
 | succ n =>
  simp only [Wt, Tryz.underlying5] at h
  obtain ⟨z, rfl, hz⟩ := h
  simp [Lit.wf, IntKind.min, IntKind.max, IntKind.signed, IntKind.bits] at hz
  refine ⟨UInt8.ofNat z.toNat, ?_, trivial⟩
  unfold dC
  have : (((UInt8.ofNat z.toNat).toNat : Nat) : Int) = z := by
   rw [UInt8.toNat_ofNat']
   omega
  rw [this]
theorem HB {n : Nat} {ds : List D} (h : Wt Tryz.prog n 22 ds) : ∃ l : List UInt8, ds = [.sl (em dC l)] ∧ l.length < 2 ^ 48 := by
 cases n with
 | zero => exact h.elim
 | succ n =>
  simp only [Wt, Tryz.underlying22] at h
  obtain ⟨es, rfl, hl, he⟩ := h
  obtain ⟨l, rfl, _⟩ := tA (enc := dC) (p := fun _ => True) fun c hc => wt_u8 (he c hc)
  refine ⟨l, rfl, ?_⟩
  have hb : Tryz.prog.bytesOf 5 = 1 := by kernel_rfl
  rw [hb, u6] at hl
  unfold reachBytes at hl
  omega
theorem xH {x : D} (h : Arg Tryz.prog 22 x) : ∃ l : List UInt8, x = .sl (em dC l) ∧ l.length < 2 ^ 48 := by
 obtain ⟨n, ds, h, k⟩ := h
 simp only [Tryz.underlying22] at k
 obtain ⟨l, rfl, h1⟩ := HB h
 simp only [List.cons.injEq, and_true] at k
 exact ⟨l, k.symm, h1⟩
theorem z7 (P : List Fn) : ∀ (l : List Fn) (s : Ft), (tcF P l s).1 = 0 ↔ s.1 = 0 ∧ ∀ f ∈ l, bO P f.params f.body f.type = []
 | [], s => by simp [tcF]
 | f :: fs, s => by
  unfold tcF
  rw [z7 P fs]
  have hk : ∀ (l : List Int) (s : Ft), (l.foldl dV s).1 = 0 ↔ s.1 = 0 ∧ l = [] := by
   intro l
   induction l with
   | nil => intro s; simp
   | cons x xs ih =>
    intro s
    rw [List.foldl_cons, ih]
    have : (dV s x).1 ≠ 0 := by
     unfold dV cG
     split
     ·show (34 : Int) ≠ 0
      decide
     ·omega
    simp [this]
  rw [hk]
  simp only [List.mem_cons, forall_eq_or_imp]
  exact ⟨fun ⟨⟨a, b⟩, c⟩ => ⟨a, b, c⟩, fun ⟨a, b, c⟩ => ⟨⟨a, b⟩, c⟩⟩
section
variable {P : List Fn} {env : List Pm} {x y z : Ex}
end
set_option maxRecDepth 1000000
set_option maxHeartbeats 0
noncomputable def cf35 : Cfg := ⟨Tryz.prog, 86, [0, 1, 2, 4, 5, 6, 7, 8, 9, 10, 11, 30, 31, 32, 68, 69, 70], []⟩
noncomputable def lb35_0 : AC :=
 .seq (.ifr [JO 71 (.bin .lss 3 (.g 70) (.g 69))] (.t 71) .skip (.exit 2)) (.seq (.block 3 (.seq (.reg [JA 72 70, JO 73 (.ia 3 (.g 68) (.g 70)), JE 74 3 73, JP 11 (.al [JU, JV, JV]), JB 10 72, JQ (.st 3 (.g 11) (.t 74))]) (.ifr [JG 75 0 9, JD 76 1 75, JA 77 10, JL 78 1 76 77, JD 79 1 78, JG 80 1 11, JD 81 1 80, JO 82 (.bin .neq 25 (.t 79) (.t 81))] (.t 82) (.seq (.reg [JP 4 (.mv (.c (.pointer none))), JI 5 3]) .ret) .skip))) (.reg [JO 83 (.bin .add 3 (.g 70) (JT 1)), JB 70 83]))
noncomputable def lb35_1 : AC :=
 .seq (.ifr [JO 33 (.bin .lss 3 (.g 32) (.g 31))] (.t 33) .skip (.exit 0)) (.seq (.block 1 (.seq (.reg [JA 34 32, JO 35 (.ia 11 (.g 30) (.g 32)), JE 36 11 35, JP 8 (.al [JU, JW, JV, JV, JU, JU, JV, .complex .f64 0 0, JW, JV, JV]), JB 7 34, JQ (.st 11 (.g 8) (.t 36))]) (.seq (.reg [JA 37 6, JM 38 37, JH 39 1 38, JD 40 1 39, JG 41 0 8, JD 42 1 41, JA 43 7, JQ (.mup none (.t 40) (.t 42) (.t 43))]) (.seq (.reg [JA 44 1, JA 45 7, JL 46 4 44 45, JE 47 4 46, JP 9 (.al [JW, JV, JV, JW]), JQ (.st 4 (.g 9) (.t 47))]) (.seq (.ifr [JF 48 4 9, JO 49 (.pc (.f 66) [.t 48]), JO 50 (.bin .neq 52 (.t 49) (JT 0)), JC 51 50, JR 52 51 (.fa 1 (.g 9)), JR 53 51 (.ld false 1 (.t 52)), JR 54 51 (.fa 2 (.g 8)), JR 55 51 (.ld false 1 (.t 54)), JR 56 51 (.bin .neq 25 (.t 53) (.t 55)), JO 57 (.pick (.t 51) JX (.t 56)), JC 58 57, JR 59 58 (.fa 0 (.g 9)), JR 60 58 (.ld false 1 (.t 59)), JR 61 58 (.len false (.t 60)), JR 62 58 (.fa 1 (.g 8)), JR 63 58 (.ld false 1 (.t 62)), JR 64 58 (.len false (.t 63)), JR 65 58 (.bin .neq 3 (.t 61) (.t 64)), JO 66 (.pick (.t 58) JX (.t 65))] (.t 66) (.seq (.reg [JP 4 (.mv (.c (.pointer none))), JI 5 3]) .ret) .skip) (.seq (.reg [JG 67 1 8, JP 68 (.ld false 1 (.t 67)), JP 69 (.len false (.g 68)), JI 70 0]) (.block 2 (.loop lb35_0)))))))) (.reg [JO 84 (.bin .add 3 (.g 32) (JT 1)), JB 32 84]))
noncomputable def ac35 : AC :=
 (.seq (.reg [JN 2 0, JP 4 (.mv (.c (.pointer none))), JI 5 0]) (.seq (.ifr [JF 12 1 2, JO 13 (.pc (.f 65) [.t 12]), JO 14 (.fld false 1 0 (.t 13)), JO 15 (.bin .neq 52 (.t 14) (JT 0)), JC 16 15, JR 17 16 (.mv (.g 1)), JR 18 16 (.len false (.t 17)), JR 19 16 (.fa 0 (.g 2)), JR 20 16 (.ld false 1 (.t 19)), JR 21 16 (.len false (.t 20)), JR 22 16 (.bin .neq 3 (.t 18) (.t 21)), JO 23 (.pick (.t 16) JX (.t 22))] (.t 23) (.seq (.reg [JP 4 (.mv (.c (.pointer none))), JI 5 3]) .ret) .skip) (.seq (.reg [JF 24 1 2, .mk (.t 25) none .mkm, JA 26 1, JO 27 (.bld [JW, .map none, JW] [(0, 1, .t 24), (1, 1, .t 25), (2, 1, .t 26)]), JO 28 (.bxi (.t 27)), JB 6 28]) (.seq (.seq (.reg [JG 29 0 2, JP 30 (.ld false 1 (.t 29)), JP 31 (.len false (.g 30)), JI 32 0]) (.block 0 (.loop lb35_1))) (.seq (.reg [JA 85 6, JB 4 85, JI 5 0]) .ret)))))
theorem fi35 : FI Tryz.prog 35 cf35 ac35 [.t 4, .t 5] [0, 1, 2, 4, 5, 6, 7, 8, 9, 10, 11, 30, 31, 32, 68, 69, 70] 86 := FI_of (c := Tryz.f35.body.getD .skip) Tryz.func35 (by kernel_rfl) (by rfl) (by rfl) (by kernel_rfl) (by kernel_rfl) rfl rfl rfl
@[simp] theorem cfP35 : cf35.P = Tryz.prog := (rfl)
noncomputable def cf11 : Cfg := ⟨Tryz.prog, 74, [0, 1, 2, 3, 4, 7, 8, 9, 10, 11, 12, 13, 15, 17, 18, 28, 29, 30], [22, 54, 73]⟩
@[simp] theorem cfP11 : cf11.P = Tryz.prog := (rfl)
noncomputable def cf19 : Cfg := ⟨Tryz.prog, 60, [0, 1, 2, 3, 4, 8, 9, 10, 11, 13, 14], [18, 59]⟩
noncomputable def ac19 : AC :=
 (.seq (.reg [JN 4 0, JI 8 0, JI 9 0]) (.seq (.reg [JF 16 1 4, JA 17 1, JO 18 (.cl (.f 35) [.t 16, .t 17]), JC 15 18, JK 19 0 15, JK 20 1 15, JB 10 19, JB 11 20]) (.seq (.ifr [JA 21 11, JO 22 (.bin .neq 52 (.t 21) (JT 0))] (.t 22) (.seq (.reg [JA 23 11, JI 8 0, JB 9 23]) .ret) .skip) (.seq (.ifr [JA 24 2, JO 25 (.bin .lss 3 (.t 24) (JT 0)), JC 26 25, JR 27 26 (.mv (.g 2)), JR 28 26 (.fa 0 (.g 4)), JR 29 26 (.ld false 1 (.t 28)), JR 30 26 (.len false (.t 29)), JR 31 26 (.bin .geq 3 (.t 27) (.t 30)), JO 32 (.pick (.t 26) JX (.t 31))] (.t 32) (.seq (.reg [JI 8 0, JI 9 2]) .ret) .skip) (.seq (.seq (.reg [JA 34 1, JA 35 2, JL 36 4 34 35, JH 37 0 36, JD 38 1 37, JA 39 3, JO 40 (.pc (.f 49) [.t 38, .t 39]), JC 33 40, JK 41 0 33, JK 42 1 33, JC 12 41, JB 13 42]) (.ifr [JA 43 13, JO 44 (.bin .neq 52 (.t 43) (JT 0))] (.t 44) (.seq (.reg [JA 45 13, JI 8 0, JB 9 45]) .ret) .skip)) (.seq (.seq (.reg [JG 46 0 4, JD 47 1 46, JA 48 2, JL 49 11 47 48, JH 50 3 49, JE 51 7 50, JO 52 (.pc (.f 38) [.t 51]), JB 14 52]) (.ifr [JA 53 14, JO 54 (.bin .neq 52 (.t 53) (JT 0))] (.t 54) (.seq (.reg [JA 55 14, JI 8 0, JB 9 55]) .ret) .skip)) (.seq (.reg [JA 56 10, JA 57 2, JA 58 3, JO 59 (.cl (.f 50) [.t 56, .t 57, .t 58]), JB 8 59, JI 9 0]) .ret)))))))
theorem fi19 : FI Tryz.prog 19 cf19 ac19 [.t 8, .t 9] [0, 1, 2, 3, 4, 8, 9, 10, 11, 13, 14] 60 := FI_of (c := Tryz.f19.body.getD .skip) Tryz.func19 (by kernel_rfl) (by rfl) (by rfl) (by kernel_rfl) (by kernel_rfl) rfl rfl rfl
@[simp] theorem cfP19 : cf19.P = Tryz.prog := (rfl)
noncomputable def cf21 : Cfg := ⟨Tryz.prog, 88, [0, 1, 2, 3, 6, 7, 8, 9, 10, 11, 13, 14, 63, 64], [19, 81, 1000000]⟩
noncomputable def lb21_0 : AC :=
 .seq (.ifr [JO 65 (.bin .lss 3 (.g 64) (.g 63))] (.t 65) .skip (.exit 0)) (.seq (.block 1 (.seq (.reg [JA 66 64, JB 13 66]) (.seq (.reg [JG 68 0 11, JD 69 1 68, JA 70 13, JO 71 (.pc (.f 54) [.t 69, .t 70]), JC 67 71, JK 72 0 67, JK 73 1 67, JB 14 72, JC 15 73]) (.reg [JG 75 2 11, JE 76 2 75, JA 77 13, JA 78 8, JA 79 2, JA 80 14, JO 81 (.cln (.f 50) [.t 78, .t 79, .t 80]), JO 82 (.pc (.f 55) [.t 76, .t 77, .t 81]), JC 74 82, JK 83 0 74, JK 84 1 74, JG 85 2 11, JQ (.st 2 (.t 85) (.t 83))])))) (.reg [JO 86 (.bin .add 3 (.g 64) (JT 1)), JB 64 86]))
noncomputable def ac21 : AC :=
 (.seq (.reg [JN 3 0, JP 6 (.al [JW, JV, JV, JW]), JI 7 0]) (.seq (.reg [JF 17 1 3, JA 18 1, JO 19 (.cl (.f 35) [.t 17, .t 18]), JC 16 19, JK 20 0 16, JK 21 1 16, JB 8 20, JB 9 21]) (.seq (.ifr [JA 22 9, JO 23 (.bin .neq 52 (.t 22) (JT 0))] (.t 23) (.seq (.reg [JO 24 (.bld [JW, JV, JV, JW] []), JA 25 9, JQ (.st 4 (.g 6) (.t 24)), JB 7 25]) .ret) .skip) (.seq (.ifr [JA 26 2, JO 27 (.bin .lss 3 (.t 26) (JT 0)), JC 28 27, JR 29 28 (.mv (.g 2)), JR 30 28 (.fa 0 (.g 3)), JR 31 28 (.ld false 1 (.t 30)), JR 32 28 (.len false (.t 31)), JR 33 28 (.bin .geq 3 (.t 29) (.t 32)), JO 34 (.pick (.t 28) JX (.t 33))] (.t 34) (.seq (.reg [JO 35 (.bld [JW, JV, JV, JW] []), JQ (.st 4 (.g 6) (.t 35)), JI 7 2]) .ret) .skip) (.seq (.seq (.reg [JG 36 0 3, JD 37 1 36, JA 38 2, JL 39 11 37 38, JH 40 3 39, JE 41 7 40, JO 42 (.pc (.f 38) [.t 41]), JB 10 42]) (.ifr [JA 43 10, JO 44 (.bin .neq 52 (.t 43) (JT 0))] (.t 44) (.seq (.reg [JO 45 (.bld [JW, JV, JV, JW] []), JA 46 10, JQ (.st 4 (.g 6) (.t 45)), JB 7 46]) .ret) .skip)) (.seq (.reg [JA 48 1, JA 49 2, JL 50 4 48 49, JH 51 0 50, JD 52 1 51, JA 53 1, JA 54 2, JL 55 4 53 54, JH 56 1 55, JD 57 1 56, JO 58 (.pc (.f 53) [.t 52, .t 57]), JC 47 58, JK 59 0 47, JK 60 1 47, JP 11 (.al [JW, JV, JV, JW]), JQ (.st 4 (.g 11) (.t 59)), JC 12 60]) (.seq (.seq (.reg [JG 61 2 11, JH 62 0 61, JP 63 (.ld false 1 (.t 62)), JI 64 0]) (.block 0 (.loop lb21_0))) (.seq (.reg [JF 87 4 11, JQ (.st 4 (.g 6) (.t 87)), JI 7 0]) .ret))))))))
theorem fi21 : FI Tryz.prog 21 cf21 ac21 [.c 6 true 4, .t 7] [0, 1, 2, 3, 6, 7, 8, 9, 10, 11, 13, 14, 63, 64] 88 := FI_of (c := Tryz.f21.body.getD .skip) Tryz.func21 (by kernel_rfl) (by rfl) (by rfl) (by kernel_rfl) (by kernel_rfl) rfl rfl rfl
@[simp] theorem cfP21 : cf21.P = Tryz.prog := (rfl)
set_option maxRecDepth 100000
set_option maxHeartbeats 8000000
theorem yG {P : List Fn} : ∀ (l : List Fn) (k : Nat), fR P l k = [] → ∀ i, (h : i < l.length) → ¬ aM P 0 l[i].name < ((k + i : Nat) : Int)
 | [], k, _, i, h => by simp at h
 | f :: fs, k, hn, i, h => by
  unfold fR at hn
  rw [List.append_eq_nil_iff] at hn
  cases i with
  | zero =>
   intro g
   have h1 := hn.1
   rw [if_pos (by simpa using g)] at h1
   simp at h1
  | succ i =>
   have := yG fs (k + 1) hn.2 i (by simpa using h)
   rw [show k + (i + 1) = k + 1 + i by omega]
   simpa using this
theorem zT : ∀ (P : List Fn) (k : Nat) (i : Nat) (h : i < P.length), 0 ≤ aM P k P[i].name ∧ aM P k P[i].name ≤ ((k + i : Nat) : Int)
 | [], k, i, h => by simp at h
 | f :: fs, k, i, h => by
  unfold aM
  split
  ·omega
  ·cases i with
   | zero => rename_i g; exact absurd rfl g
   | succ i =>
    have := zT fs (k + 1) i (by simpa using h)
    rw [show k + (i + 1) = k + 1 + i by omega]
    simpa using this
theorem vK : ∀ (P : List Fn) (k : Nat) (n : List UInt8) (i : Nat), aM P k n = ((k + i : Nat) : Int) → ∃ h : i < P.length, P[i].name = n
 | [], k, n, i, h => by unfold aM at h; omega
 | f :: fs, k, n, i, h => by
  unfold aM at h
  split at h
  ·rename_i g
   have : i = 0 := by omega
   subst this
   exact ⟨by simp, g⟩
  ·cases i with
   | zero =>
    have := dE fs (k + 1) n
    omega
   | succ i =>
    obtain ⟨h1, h2⟩ := vK fs (k + 1) n i (by rw [h]; congr 1; omega)
    exact ⟨by simpa using h1, by simpa using h2⟩
theorem DL {P : List Fn} (h : cI P) (h0 : (ckF P).1 = 0) : ∀ i, (hi : i < P.length) → aM P 0 P[i].name = i := by
 obtain ⟨ms, a, b, _, hl, hr, hb, hF, _⟩ := h
 unfold ckF at h0
 rw [vG hr P a b 0 _ hF hb] at h0
 have h1 := vZ h0 (fun x hx => (List.mem_append.1 hx).elim (fun hx => (pY P a b 0 hF hb x hx).1) (sH P a b hF x))
 rw [List.append_eq_nil_iff] at h1
 intro i hi
 have h2 := yG P 0 h1.1 i hi
 have h3 := zT P 0 i hi
 rw [Nat.zero_add] at h2 h3
 omega
theorem qR {P : List Fn} (h0 : (gX P).1 = 0) : (ckF P).1 = 0 ∧ ∀ f ∈ P, bO P f.params f.body f.type = [] := by
 unfold gX at h0
 split at h0
 ·rename_i g; exact absurd h0 g
 ·exact (z7 P P _).1 h0
def fitT (f : Fn) (x : Tt) : Prop := fV x.ps x.t x.n x.l ∧ x.t = f.type ∧ x.ps = f.params.map Pm.type
def SeeOk (P : List Fn) (T : List Tt) : Prop := (gX P).1 = 0 ∧ T.length = P.length ∧ ∀ i, i < P.length → fitT (P[i]?.getD default) (T[i]?.getD default)
def TW (T : List Tt) : Prop := ∀ x ∈ T, fD x.l ∧ x.ps.length < 2 ^ 44
theorem SeeOk.tabs {P : List Fn} {T : List Tt} (h : SeeOk P T) (hw : TW T) : kE P T := by
 obtain ⟨h1, h2, h3⟩ := h
 refine ⟨h2, fun x hx => ?_, fun i hi => ?_⟩
 ·obtain ⟨i, hi, rfl⟩ := List.mem_iff_getElem.1 hx
  have := h3 i (by omega)
  rw [List.getElem?_eq_getElem hi] at this
  exact ⟨this.1, hw _ hx⟩
 ·have := h3 i hi
  rw [List.getElem?_eq_getElem hi] at this
  exact ⟨this.2.2, this.2.1⟩
theorem imm_Tt (l : List Tt) : D.immss (em eO l) = true := fC fun f => by simp [eO]
attribute [simp] imm_Tt
theorem see_c {mem : Mem} {nx : Nat} {P : List Fn} {T : List Tt} {K : KD} (hk : cI P) (hT : T.length < 2 ^ 44) (hw : TW T)
  (hno : ¬ SeeOk P T → ∀ n', nx ≤ n' → K (.tup [.pl (.pointer none), I 3]) mem n')
  (hyes : SeeOk P T → ∀ hid m n', nx ≤ hid → hid < n' → Sg ((hid, .map (bT m)) :: mem) P hid T → K (.tup [sgD P hid T, I 0]) ((hid, .map (bT m)) :: mem) n') :
  bG Tryz.prog 35 [.agg [.sl (em aY P)], .sl (em eO T)] mem nx K := by
 obtain ⟨hPT, hPl, hsz⟩ := f_ hk
 have htc := M_ (y5 hk).1 hPl hsz
 refine fi35.ct (by simp) fun hfr => ?_
 simp -implicitDefEqProofs [ac35]
 refine aG htc (by simp) ?_
 by_cases h0 : (gX P).1 = 0
 ·by_cases hl : T.length = P.length
  ·have hli : (T.length : Int) = (P.length : Int) := by omega
   obtain ⟨hc0, hwl⟩ := qR h0
   have hhd := DL hk hc0
   simp -implicitDefEqProofs [h0, hli]
   obtain ⟨hid, hq⟩ : ∃ q, nx + 3 + 12 + 1 = q := ⟨_, rfl⟩
   have hq0 : look mem hid = none := hfr hid (by omega)
   rw [hq]
   refine lpG cf35 lb35_1 [4, 5, 7, 8, 9, 10, 11, 32, 68, 69, 70] (α := Nat × Sm) (fun s _ => [(32, I s.1)]) (fun s _ => (hid, .map (bT s.2)) :: mem) (fun s k => hid < k ∧ s.1 ≤ P.length ∧ (∀ j, j < s.1 → fitT (P[j]?.getD default) (T[j]?.getD default)) ∧ ∀ n (j : Nat), aM P 0 n = j → j < s.1 → cY s.2 n = j) (fun s => P.length - s.1) (0, []) ⟨by omega, by omega, fun j h => absurd h (by omega), fun n j _ h => absurd h (by omega)⟩ (by simp) (aK _) ?_
   rintro ⟨i, m⟩ k ⟨hk1, hi, hfit, hget⟩
   simp only at hi hfit hget hk1
   by_cases hlt : i < P.length
   ·have hlti : (i : Int) < (P.length : Int) := by omega
    have w1 := aQ (x := (i : Int) + 1) (by omega) (by omega)
    have hT2 : i < T.length := by omega
    have hT2i : (i : Int) < (T.length : Int) := by omega
    obtain ⟨f, hf⟩ : ∃ x, P[i] = x := ⟨_, rfl⟩
    obtain ⟨x, hx⟩ : ∃ x, T[i] = x := ⟨_, rfl⟩
    have hfm : f ∈ P := by rw [← hf]; exact List.getElem_mem hlt
    have hxm : x ∈ T := by rw [← hx]; exact List.getElem_mem hT2
    have hfd : P[i]?.getD default = f := by rw [List.getElem?_eq_getElem hlt, hf]; rfl
    have hxd : T[i]?.getD default = x := by rw [List.getElem?_eq_getElem hT2, hx]; rfl
    obtain ⟨hxw, hxp⟩ := hw x hxm
    have hhi := hhd i hlt
    rw [hf] at hhi
    have z1 : (k + 1 + 3 = hid) = False := eq_false (by omega)
    have z2 : (hid = k + 1 + 3) = False := eq_false (by omega)
    simp -implicitDefEqProofs [lb35_1, hlt, hlti, hf, hx, hT2, hT2i, z1, z2, uW]
    have hv1 : k + 1 + 3 < k + 1 + 6 + 8 + 4 := by omega
    have hv2 : k + 1 + 6 + 8 + 4 < k + 1 + 6 + 8 + 6 + 19 := by omega
    have hv3 : hid < k + 1 + 3 := by omega
    refine aG (HA x.ps x.t x.n x.l hxw hxp) (by simp) ?_
    obtain ⟨b1, hb1⟩ : ∃ q, k + 1 + 3 = q := ⟨_, rfl⟩
    obtain ⟨b2, hb2⟩ : ∃ q, k + 1 + 6 + 8 + 4 = q := ⟨_, rfl⟩
    rw [hb1] at hv1 hv3
    rw [hb2] at hv1 hv2
    rw [hb1, hb2]
    have hm1 : look mem b1 = none := hfr b1 (by omega)
    have hm2 : look mem b2 = none := hfr b2 (by omega)
    have e1 : (b1 = b2) = False := eq_false (by omega)
    have e2 : (b2 = b1) = False := eq_false (by omega)
    by_cases ht0 : fV x.ps x.t x.n x.l
    ·have ht1 : o0 x.ps x.t x.n x.l = 0 := if_pos ht0
     by_cases hty : x.t = f.type
     ·rw [hty] at ht1
      by_cases hpl : x.ps.length = f.params.length
      ·have hpli : (x.ps.length : Int) = (f.params.length : Int) := by omega
       simp -implicitDefEqProofs [ht1, hb1, hb2, e1, e2, hty, hpli]
       obtain ⟨nk, hnk⟩ : ∃ q, k + 1 + 6 + 8 + 6 + 19 = q := ⟨_, rfl⟩
       refine lpG cf35 lb35_0 [4, 5, 10, 11, 70] (α := Nat) (fun s _ => [(70, I s)]) (fun s _ => (b2, .box [.sl (em aU x.ps), I f.type, I x.n, .sl (em eR x.l)]) :: (b1, .box [Tx f.name, .sl (em bX f.params), I f.type, I f.body.op, Tx f.body.name, Tx f.body.tail, I f.body.type, CX f.body.num.re f.body.num.im, .sl (em aT f.body.args), I f.body.at', I f.at']) :: (hid, .map (bT (fH m f.name i))) :: mem) (fun s k => b2 < k ∧ s ≤ f.params.length ∧ ∀ j (h1 : j < x.ps.length) (h2 : j < f.params.length), j < s → x.ps[j] = (f.params[j]).type) (fun s => f.params.length - s) 0 ⟨by omega, by omega, fun j _ _ h => absurd h (by omega)⟩ (by simp) (aK _) ?_
       rintro c k2 ⟨hk2, hc, heq⟩
       by_cases hcl : c < f.params.length
       ·have hcli : (c : Int) < (f.params.length : Int) := by omega
        have hcx : c < x.ps.length := by omega
        have hcxi : (c : Int) < (x.ps.length : Int) := by omega
        have w2 := aQ (x := (c : Int) + 1) (by omega) (by have := (hsz f hfm).2.1; omega)
        obtain ⟨y, hy⟩ : ∃ y, f.params[c] = y := ⟨_, rfl⟩
        obtain ⟨t, ht⟩ : ∃ y, x.ps[c] = y := ⟨_, rfl⟩
        have z3 : (k2 + 1 + 3 = b2) = False := eq_false (by omega)
        have z4 : (b2 = k2 + 1 + 3) = False := eq_false (by omega)
        have z5 : (k2 + 1 + 3 = b1) = False := eq_false (by omega)
        have z6 : (b1 = k2 + 1 + 3) = False := eq_false (by omega)
        by_cases hyt : t = y.type
        ·simp -implicitDefEqProofs [lb35_0, hcl, hcli, hcx, hcxi, hy, ht, w2, z3, z4, z5, z6, e1, e2, hyt]
         refine aI (c + 1) ⟨by omega, hcl, fun j h1 h2 hj => ?_⟩ (by omega) (by simp) (aO (aK _) (by simp only [bF]; rw [if_neg (by omega), if_neg (by omega), if_neg (by omega)]; exact hfr _ (by omega)))
         by_cases e : j = c
         ·subst e; rw [hy, ht]; exact hyt
         ·exact heq j h1 h2 (by omega)
        ·have hn : ¬ SeeOk P T := fun h => by
          have h2 := h.2.2 i hlt
          rw [hfd, hxd] at h2
          refine hyt ?_
          rw [← ht, ← hy]
          have h3 : x.ps[c]? = (f.params.map Pm.type)[c]? := by rw [h2.2.2]
          rw [List.getElem?_eq_getElem hcx, List.getElem?_map, List.getElem?_eq_getElem hcl] at h3
          simpa using h3
         simp -implicitDefEqProofs [lb35_0, hcl, hcli, hcx, hcxi, hy, ht, w2, z3, z4, z5, z6, e1, e2, hyt]
         exact ⟨mem, aF (aF (aF (aF (aE _) hq0) hm1) hm2) (hfr _ (by omega)), hno hn _ (by omega)⟩
       ·have hcp : c = f.params.length := by omega
        subst hcp
        simp -implicitDefEqProofs [lb35_0, w1]
        refine aI (i + 1, fH m f.name i) ⟨by omega, hlt, fun j hj => ?_, fun n j hj hji => ?_⟩ (by simp only; omega) (by simp) (aO (aO (aK _) (by simp only [bF]; rw [if_neg (by omega)]; exact hm1)) (by simp only [bF]; rw [if_neg (by omega)]; exact hm2))
        ·by_cases e : j = i
         ·subst e
          rw [hfd, hxd]
          refine ⟨ht0, hty, List.ext_getElem (by simpa using hpl) fun j h1 h2 => ?_⟩
          rw [List.getElem_map]
          exact heq j h1 (by simpa using h2) (by simpa using h2)
         ·exact hfit j (by simp only at hj; omega)
        ·simp only at hji ⊢
         rw [kW]
         by_cases e : f.name = n
         ·rw [if_pos e]
          rw [e] at hhi
          omega
         ·rw [if_neg e]
          by_cases e2 : j = i
          ·subst e2
           obtain ⟨h1, h2⟩ := vK P 0 n j (by rw [hj]; simp)
           exact absurd (by rw [← hf]; exact h2) e
          ·exact hget n j hj (by omega)
      ·have hpli : ¬ (x.ps.length : Int) = (f.params.length : Int) := by omega
       have hn : ¬ SeeOk P T := fun h => by
        have h2 := h.2.2 i hlt
        rw [hfd, hxd] at h2
        exact hpl (by rw [h2.2.2]; simp)
       simp -implicitDefEqProofs [ht1, hb1, hb2, e1, e2, hty, hpli]
       exact ⟨mem, aF (aF (aF (aE _) hq0) hm1) hm2, hno hn _ (by omega)⟩
     ·have hn : ¬ SeeOk P T := fun h => by
       have h2 := h.2.2 i hlt
       rw [hfd, hxd] at h2
       exact hty h2.2.1
      simp -implicitDefEqProofs [ht1, hb1, hb2, e1, e2, hty]
      exact ⟨mem, aF (aF (aF (aE _) hq0) hm1) hm2, hno hn _ (by omega)⟩
    ·have ht1 : o0 x.ps x.t x.n x.l = 3 := if_neg ht0
     have hn : ¬ SeeOk P T := fun h => by
      have h2 := h.2.2 i hlt
      rw [hfd, hxd] at h2
      exact ht0 h2.1
     simp -implicitDefEqProofs [ht1, hb1, hb2]
     exact ⟨mem, aF (aF (aF (aE _) hq0) hm1) hm2, hno hn _ (by omega)⟩
   ·have hip : i = P.length := by omega
    subst hip
    simp -implicitDefEqProofs [lb35_1]
    have hok : SeeOk P T := ⟨h0, hl, hfit⟩
    exact ⟨_, aE _, hyes hok hid m _ (by omega) (by omega) ⟨⟨m, by rw [bF, if_pos rfl], fun n hn => by
     have hlt := dE P 0 n
     obtain ⟨j, hj⟩ : ∃ j : Nat, aM P 0 n = j := ⟨(aM P 0 n).toNat, by omega⟩
     rw [hj]
     exact hget n j hj (by omega)⟩, hok.tabs hw⟩⟩
  ·have hli : ¬ (T.length : Int) = (P.length : Int) := by omega
   have hn : ¬ SeeOk P T := fun h => hl h.2.1
   simp -implicitDefEqProofs [h0, hli]
   exact ⟨_, aE _, hno hn _ (by omega)⟩
 ·have hn : ¬ SeeOk P T := fun h => h0 h.1
  simp -implicitDefEqProofs [h0]
  exact ⟨_, aE _, hno hn _ (by omega)⟩
theorem snocQ (l : List Tt) (x : Tt) : em mH l ++ [[.sl (em aU (cl x.n x.l))]] = em mH (l ++ [x]) := dX (enc := mH) (x := x)
open Classical in
noncomputable def oT (P : List Fn) (T : List Tt) : D := if SeeOk P T then .tup [rsD P T, B true] else .tup [.pl (.pointer none), B false]
theorem FH {P : List Fn} {T : List Tt} (hk : cI P) (hT : T.length < 2 ^ 44) (hw : TW T) : Pure Tryz.prog 40 [.agg [.sl (em aY P)], .sl (em eO T)] (oT P T) := by
 obtain ⟨hPT, hPl, hsz⟩ := f_ hk
 have htc := H2 (y5 hk).2 hPl hsz
 rw [← I_ hk] at htc
 have hno : ¬ SeeOk P T → oT P T = .tup [.pl (.pointer none), B false] := fun h => if_neg h
 have hyes : SeeOk P T → oT P T = .tup [rsD P T, B true] := fun h => if_pos h
 generalize oT P T = R at *
 refine fi40.pu (by simp) ?_
 simp -implicitDefEqProofs [ac40]
 refine aG htc (by simp) ?_
 by_cases h0 : (gX P).1 = 0
 ·by_cases hl : T.length = P.length
  ·have hli : (T.length : Int) = (P.length : Int) := by omega
   simp -implicitDefEqProofs [h0, hli]
   refine lW (id := 17) (off := 1) (k := 1) (by rw [bF, if_pos rfl]) rfl (.inl rfl) ?_
   refine lpG cf40 lb40_1 [4, 5, 7, 8, 9, 10, 11, 12] (α := Nat × Nat) (fun s _ => [(7, I s.1)]) (fun s _ => [(20, .arr s.2 1 (em mH (T.take s.1))), (17, .box [.sl (em aY P), .osl 20 s.2 0 s.1])]) (fun s k => 20 < k ∧ s.1 ≤ P.length ∧ (∀ j, j < s.1 → fitT (P[j]?.getD default) (T[j]?.getD default))) (fun s => P.length - s.1) (0, 0) ⟨by omega, by omega, fun j h => absurd h (by omega)⟩ (by simp) (by simp [upd]) ?_
   rintro ⟨i, v⟩ k ⟨hk1, hi, hfit⟩
   simp only at hi hfit hk1
   by_cases hlt : i < P.length
   ·have hlti : (i : Int) < (P.length : Int) := by omega
    have w1 := aQ (x := (i : Int) + 1) (by omega) (by omega)
    have hT2 : i < T.length := by omega
    have hT2i : (i : Int) < (T.length : Int) := by omega
    obtain ⟨f, hf⟩ : ∃ x, P[i] = x := ⟨_, rfl⟩
    obtain ⟨x, hx⟩ : ∃ x, T[i] = x := ⟨_, rfl⟩
    have hfm : f ∈ P := by rw [← hf]; exact List.getElem_mem hlt
    have hxm : x ∈ T := by rw [← hx]; exact List.getElem_mem hT2
    have hfd : P[i]?.getD default = f := by rw [List.getElem?_eq_getElem hlt, hf]; rfl
    have hxd : T[i]?.getD default = x := by rw [List.getElem?_eq_getElem hT2, hx]; rfl
    obtain ⟨hxw, hxp⟩ := hw x hxm
    simp -implicitDefEqProofs [lb40_1, hlt, hlti, hf, hx, hT2, hT2i, uW, hl]
    have hv1 : k + 4 + 5 < k + 4 + 7 + 4 := by omega
    have hv2 : k + 4 + 7 + 4 < k + 4 + 7 + 6 + 7 := by omega
    have hv3 : 20 < k + 4 + 5 := by omega
    by_cases ht0 : fV x.ps x.t x.n x.l
    ·refine aG (HC hxw hxp ht0) (by simp) ?_
     obtain ⟨b1, hb1⟩ : ∃ q, k + 4 + 5 = q := ⟨_, rfl⟩
     obtain ⟨b2, hb2⟩ : ∃ q, k + 4 + 7 + 4 = q := ⟨_, rfl⟩
     rw [hb1] at hv1 hv3
     rw [hb2] at hv1 hv2
     rw [hb1, hb2]
     have e1 : (b1 = b2) = False := eq_false (by omega)
     have e2 : (b2 = b1) = False := eq_false (by omega)
     have e3 : (b1 = 17) = False := eq_false (by omega)
     have e4 : (b2 = 17) = False := eq_false (by omega)
     have e5 : (b1 = 20) = False := eq_false (by omega)
     have e6 : (b2 = 20) = False := eq_false (by omega)
     have e7 : (17 = b1) = False := eq_false (by omega)
     have e8 : (17 = b2) = False := eq_false (by omega)
     have e9 : (20 = b1) = False := eq_false (by omega)
     have e10 : (20 = b2) = False := eq_false (by omega)
     by_cases hty : x.t = f.type
     ·by_cases hpl : x.ps.length = f.params.length
      ·have hpli : (x.ps.length : Int) = (f.params.length : Int) := by omega
       simp -implicitDefEqProofs [hb1, hb2, e1, e2, e3, e4, e5, e6, e7, e8, e9, e10, hty, hpli]
       refine lpG cf40 lb40_0 [4, 5, 12] (α := Nat) (fun s _ => [(12, I s)]) (fun s _ => [(b2, .box [.sl (em aU x.ps), I f.type, I x.n, .sl (em eR x.l)]), (b1, .box [Tx f.name, .sl (em bX f.params), I f.type, I f.body.op, Tx f.body.name, Tx f.body.tail, I f.body.type, CX f.body.num.re f.body.num.im, .sl (em aT f.body.args), I f.body.at', I f.at']), (20, .arr v 1 (em mH (T.take i))), (17, .box [.sl (em aY P), .osl 20 v 0 i])]) (fun s k => b2 < k ∧ s ≤ f.params.length ∧ ∀ j (h1 : j < x.ps.length) (h2 : j < f.params.length), j < s → x.ps[j] = (f.params[j]).type) (fun s => f.params.length - s) 0 ⟨by omega, by omega, fun j _ _ h => absurd h (by omega)⟩ (by simp) (aK _) ?_
       rintro c k2 ⟨hk2, hc, heq⟩
       by_cases hcl : c < f.params.length
       ·have hcli : (c : Int) < (f.params.length : Int) := by omega
        have hcx : c < x.ps.length := by omega
        have hcxi : (c : Int) < (x.ps.length : Int) := by omega
        have w2 := aQ (x := (c : Int) + 1) (by omega) (by have := (hsz f hfm).2.1; omega)
        obtain ⟨y, hy⟩ : ∃ y, f.params[c] = y := ⟨_, rfl⟩
        obtain ⟨t, ht⟩ : ∃ y, x.ps[c] = y := ⟨_, rfl⟩
        by_cases hyt : t = y.type
        ·simp -implicitDefEqProofs [lb40_0, hcl, hcli, hcx, hcxi, hy, ht, w2, e1, e2, hyt]
         refine aI (c + 1) ⟨by omega, hcl, fun j h1 h2 hj => ?_⟩ (by omega) (by simp) (aK _)
         by_cases e : j = c
         ·subst e; rw [hy, ht]; exact hyt
         ·exact heq j h1 h2 (by omega)
        ·have hn : ¬ SeeOk P T := fun h => by
          have h2 := h.2.2 i hlt
          rw [hfd, hxd] at h2
          refine hyt ?_
          rw [← ht, ← hy]
          have h3 : x.ps[c]? = (f.params.map Pm.type)[c]? := by rw [h2.2.2]
          rw [List.getElem?_eq_getElem hcx, List.getElem?_map, List.getElem?_eq_getElem hcl] at h3
          simpa using h3
         rw [hno hn]
         simp -implicitDefEqProofs [lb40_0, hcl, hcli, hcx, hcxi, hy, ht, w2, e1, e2, hyt]
       ·have hcp : c = f.params.length := by omega
        subst hcp
        have hsn : em mH (T.take i) ++ [[.sl (em aU (cl x.n x.l))]] = em mH (T.take (i + 1)) := by
         rw [snocQ, List.take_add_one, List.getElem?_eq_getElem hT2, hx]; rfl
        have hng : ¬ f.params.length < x.ps.length := by omega
        have bl : (i + 1) * 24 ≤ 3 * 2 ^ 46 := by omega
        have hi1 : min i T.length = i := by omega
        simp -implicitDefEqProofs [lb40_0, w1, e1, e2, e3, e4, e5, e6, e7, e8, e9, e10, bl, hi1, hsn, hng]
        rw [List.take_take, Nat.min_self, hsn]
        refine aI (i + 1, v + 1) ⟨by omega, hlt, fun j hj => ?_⟩ (by simp only; omega) (by simp) (aO (aO (aK _) (by simp [look, e3, e4, e5, e6, e7, e8, e9, e10])) (by simp [look, e1, e2, e3, e4, e5, e6, e7, e8, e9, e10]))
        by_cases e : j = i
        ·subst e
         rw [hfd, hxd]
         refine ⟨ht0, hty, List.ext_getElem (by simpa using hpl) fun j h1 h2 => ?_⟩
         rw [List.getElem_map]
         exact heq j h1 (by simpa using h2) (by simpa using h2)
        ·exact hfit j (by simp only at hj; omega)
      ·have hpli : ¬ (x.ps.length : Int) = (f.params.length : Int) := by omega
       have hn : ¬ SeeOk P T := fun h => by
        have h2 := h.2.2 i hlt
        rw [hfd, hxd] at h2
        exact hpl (by rw [h2.2.2]; simp)
       rw [hno hn]
       simp -implicitDefEqProofs [hb1, hb2, e1, e2, hty, hpli]
     ·have hn : ¬ SeeOk P T := fun h => by
       have h2 := h.2.2 i hlt
       rw [hfd, hxd] at h2
       exact hty h2.2.1
      rw [hno hn]
      simp -implicitDefEqProofs [hb1, hb2, e1, e2, hty]
    ·have hn : ¬ SeeOk P T := fun h => by
      have h2 := h.2.2 i hlt
      rw [hfd, hxd] at h2
      exact ht0 h2.1
     rw [hno hn]
     refine aG (I0 hxw hxp ht0) (by simp) ?_
     simp -implicitDefEqProofs
   ·have hip : i = P.length := by omega
    subst hip
    have hok : SeeOk P T := ⟨h0, hl, hfit⟩
    rw [hyes hok]
    simp -implicitDefEqProofs [lb40_1, hl, frz, gO, look]
    simp [List.take_take, ← hl]
  ·have hli : ¬ (T.length : Int) = (P.length : Int) := by omega
   have hn : ¬ SeeOk P T := fun h => hl h.2.1
   rw [hno hn]
   simp -implicitDefEqProofs [h0, hli]
 ·have hn : ¬ SeeOk P T := fun h => h0 h.1
  rw [hno hn]
  simp -implicitDefEqProofs [h0]
set_option maxRecDepth 1000000
set_option maxHeartbeats 0
noncomputable def cf71 : Cfg := ⟨Tryz.prog, 27, [0, 1, 2, 3, 5, 7, 8, 9, 19, 20], []⟩
noncomputable def lb71_0 : AC :=
 .seq (.ifr [JO 10 (.bin .lss 3 (.g 9) (.g 8))] (.t 10) .skip (.exit 0)) (.seq (.block 1 (.seq (.reg [JO 11 (.ia 7 (.g 7) (.g 9)), JE 12 7 11, JP 5 (.al [JV, JU, JU, JV, .complex .f64 0 0, JW, JV]), JQ (.st 7 (.g 5) (.t 12))]) (.reg [JA 13 3, JF 14 7 5, JO 15 (.pc (.f 71) [.t 14]), JO 16 (.bi .max [.t 13, .t 15]), JB 3 16]))) (.reg [JO 17 (.bin .add 3 (.g 9) (JT 1)), JB 9 17]))
noncomputable def ac71 : AC :=
 (.seq (.reg [JN 1 0, JI 2 0]) (.seq (.reg [JI 3 0]) (.seq (.seq (.reg [JG 6 5 1, JP 7 (.ld false 1 (.t 6)), JP 8 (.len false (.g 7)), JI 9 0]) (.block 0 (.loop lb71_0))) (.seq (.seq (.reg [JG 18 0 1, JP 19 (.ld false 1 (.t 18))]) (.block 2 (.seq (.ifr [JO 21 (.bin .eql 40 (.g 19) (JT 21)), JB 20 21] (.g 20) .skip (.ifr [JO 22 (.bin .eql 40 (.g 19) (JT 22)), JB 20 22] (.g 20) .skip (.reg [JO 23 (.bin .eql 40 (.g 19) (JT 20)), JB 20 23]))) (.cond (.g 20) (.reg [JA 24 3, JO 25 (.bin .add 3 (.t 24) (JT 1)), JB 3 25]) .skip)))) (.seq (.reg [JA 26 3, JB 2 26]) .ret)))))
theorem fi71 : FI Tryz.prog 71 cf71 ac71 [.t 2] [0, 1, 2, 3, 5, 7, 8, 9, 19, 20] 27 := FI_of (c := Tryz.f71.body.getD .skip) Tryz.func71 (by kernel_rfl) (by rfl) (by rfl) (by kernel_rfl) (by kernel_rfl) rfl rfl rfl
@[simp] theorem cfP71 : cf71.P = Tryz.prog := (rfl)
noncomputable def cf14 : Cfg := ⟨Tryz.prog, 38, [0, 1, 2, 3, 4, 5], []⟩
noncomputable def lb14_0 : AC :=
 .seq (.ifr [JA 6 4, JG 7 5 1, JD 8 1 7, JO 9 (.len false (.t 8)), JO 10 (.bin .lss 3 (.t 6) (.t 9))] (.t 10) .skip (.exit 0)) (.seq (.block 1 (.seq (.reg [JG 13 5 1, JD 14 1 13, JA 15 4, JL 16 7 14 15, JE 17 7 16, JO 18 (.pc (.f 14) [.t 17]), JB 5 18]) (.reg [JA 19 3, JA 20 5, JO 21 (.bi .max [.t 19, .t 20]), JB 3 21]))) (.reg [JA 11 4, JO 12 (.bin .add 3 (.t 11) (JT 1)), JB 4 12]))
noncomputable def ac14 : AC :=
 (.seq (.reg [JN 1 0, JI 2 0]) (.seq (.reg [JI 3 0]) (.seq (.seq (.reg [JI 4 0]) (.block 0 (.loop lb14_0))) (.seq (.ifr [JG 22 0 1, JD 23 1 22, JO 24 (.bin .eql 40 (.t 23) (JT 21)), JC 25 24, JR 26 25 (.fa 0 (.g 1)), JR 27 25 (.ld false 1 (.t 26)), JR 28 25 (.bin .eql 40 (.t 27) (JT 22)), JO 29 (.pick (.t 25) JX (.t 28)), JC 30 29, JR 31 30 (.fa 0 (.g 1)), JR 32 30 (.ld false 1 (.t 31)), JR 33 30 (.bin .eql 40 (.t 32) (JT 20)), JO 34 (.pick (.t 30) JX (.t 33))] (.t 34) (.reg [JA 35 3, JO 36 (.bin .add 3 (.t 35) (JT 1)), JB 3 36]) .skip) (.seq (.reg [JA 37 3, JB 2 37]) .ret)))))
theorem fi14 : FI Tryz.prog 14 cf14 ac14 [.t 2] [0, 1, 2, 3, 4, 5] 38 := FI_of (c := Tryz.f14.body.getD .skip) Tryz.func14 (by kernel_rfl) (by rfl) (by rfl) (by kernel_rfl) (by kernel_rfl) rfl rfl rfl
@[simp] theorem cfP14 : cf14.P = Tryz.prog := (rfl)
noncomputable def cf38 : Cfg := ⟨Tryz.prog, 6, [0, 1, 2], []⟩
noncomputable def ac38 : AC :=
 (.seq (.reg [JN 1 0, JI 2 0]) (.seq (.ifr [JF 3 7 1, JO 4 (.pc (.f 71) [.t 3]), JO 5 (.bin .gtr 3 (.t 4) (JT 6))] (.t 5) (.seq (.reg [JI 2 23]) .ret) .skip) (.seq (.reg [JI 2 0]) .ret)))
theorem fi38 : FI Tryz.prog 38 cf38 ac38 [.t 2] [0, 1, 2] 6 := FI_of (c := Tryz.f38.body.getD .skip) Tryz.func38 (by kernel_rfl) (by rfl) (by rfl) (by kernel_rfl) (by kernel_rfl) rfl rfl rfl
@[simp] theorem cfP38 : cf38.P = Tryz.prog := (rfl)
set_option maxRecDepth 100000
set_option maxHeartbeats 4000000
mutual
def bS : Ex → Nat
 | .mk op _ _ _ _ args _ => eM args + (if op = 21 ∨ op = 22 ∨ op = 20 then 1 else 0)
def eM : List Ex → Nat
 | [] => 0
 | x :: xs => max (bS x) (eM xs)
end
mutual
theorem GO : ∀ e : Ex, bS e ≤ size e
 | .mk op n tl ty z args p => by
  have := qN args
  unfold bS size
  split <;> omega
theorem qN : ∀ l : List Ex, eM l ≤ bC l
 | [] => by simp [eM]
 | x :: xs => by
  have h1 := GO x
  have h2 := qN xs
  unfold eM bC; omega
end
theorem x6 : ∀ {l : List Ex} {x : Ex}, x ∈ l → size x ≤ bC l ∧ bS x ≤ eM l
 | y :: ys, x, h => by
  unfold bC eM
  rcases List.mem_cons.1 h with rfl | h
  ·omega
  ·have := x6 h; omega
theorem F3 : ∀ (l : List Ex), l.length ≤ bC l
 | [] => by simp [bC]
 | y :: ys => by
  have := F3 ys
  have h : 1 ≤ size y := by cases y; unfold size; omega
  unfold bC; simp only [List.length_cons]; omega
def yN (e : Ex) : Prop := size e ≤ 2 ^ 40 → Pure Tryz.prog 71 [.agg [I e.op, Tx e.name, Tx e.tail, I e.type, CX e.num.re e.num.im, .sl (em aT e.args), I e.at']] (I (bS e)) ∧ Pure Tryz.prog 14 [.agg [I e.op, Tx e.name, Tx e.tail, I e.type, CX e.num.re e.num.im, .sl (em aT e.args), I e.at']] (I (bS e))
theorem E1 (op : Int) (n tl : List UInt8) (ty : Int) (z : Cx) (args : List Ex) (p : Int) (ih : ∀ x ∈ args, yN x) : yN (.mk op n tl ty z args p) := by
 intro hz
 have hzs : bC args ≤ 2 ^ 40 := by unfold size at hz; omega
 have hlen := F3 args
 have hb := qN args
 have ih1 : ∀ x ∈ args, Pure Tryz.prog 71 [.agg [I x.op, Tx x.name, Tx x.tail, I x.type, CX x.num.re x.num.im, .sl (em aT x.args), I x.at']] (I (bS x)) ∧ Pure Tryz.prog 14 [.agg [I x.op, Tx x.name, Tx x.tail, I x.type, CX x.num.re x.num.im, .sl (em aT x.args), I x.at']] (I (bS x)) := fun x hx => ih x hx (Nat.le_trans (x6 hx).1 hzs)
 have hop : op = 21 ∨ op = 22 ∨ op = 20 ∨ (op ≠ 21 ∧ op ≠ 22 ∧ op ≠ 20) := by omega
 have w1 : IntKind.i64.wrap ((eM args : Int) + 1) = eM args + 1 := aQ (by omega) (by omega)
 show Pure Tryz.prog 71 [.agg [I op, Tx n, Tx tl, I ty, CX z.re z.im, .sl (em aT args), I p]] (I (bS (.mk op n tl ty z args p))) ∧ Pure Tryz.prog 14 [.agg [I op, Tx n, Tx tl, I ty, CX z.re z.im, .sl (em aT args), I p]] (I (bS (.mk op n tl ty z args p)))
 generalize hR : eM args = R at *
 refine ⟨?_, ?_⟩
 ·refine fi71.pu (by simp) ?_
  simp -implicitDefEqProofs [ac71]
  refine lpG cf71 lb71_0 [3, 5, 9] (α := Nat × Nat) (fun s _ => [(3, I s.2), (5, .top), (9, I s.1)]) (fun s _ => []) (fun s k => s.1 ≤ args.length ∧ max s.2 (eM (args.drop s.1)) = R) (fun s => args.length - s.1) (0, 0) ⟨by simp, by simp [hR]⟩ (by simp) (by simp) ?_
  rintro ⟨i, m⟩ k ⟨hi, hr⟩
  simp only at hi hr
  by_cases hlt : i < args.length
  ·have wi := aQ (x := (i : Int) + 1) (by omega) (by omega)
   rw [List.drop_eq_getElem_cons hlt] at hr
   unfold eM at hr
   have hx := ih1 args[i] (List.getElem_mem hlt)
   obtain ⟨x, hxe⟩ : ∃ x, args[i] = x := ⟨_, rfl⟩
   rw [hxe] at hx hr
   simp -implicitDefEqProofs [lb71_0, hlt, hxe]
   refine aG hx.1 (by simp) ?_
   have hmx : ((max m (bS x) : Nat) : Int) = max (m : Int) (bS x : Int) := by omega
   simp -implicitDefEqProofs [wi]
   exact aI (i + 1, max m (bS x)) ⟨hlt, by simp only; omega⟩ (by simp only; omega) (by simp [hmx]) (by simp)
  ·have hil : i = args.length := by omega
   subst hil
   rw [List.drop_length] at hr
   simp only [eM, Nat.max_zero] at hr
   subst hr
   unfold bS
   rw [hR]
   rcases hop with rfl | rfl | rfl | ⟨o1, o2, o3⟩
   ·simp -implicitDefEqProofs [lb71_0, w1]
   ·simp -implicitDefEqProofs [lb71_0, w1]
   ·simp -implicitDefEqProofs [lb71_0, w1]
   ·simp -implicitDefEqProofs [lb71_0, o1, o2, o3]
 ·refine fi14.pu (by simp) ?_
  simp -implicitDefEqProofs [ac14]
  refine lpG cf14 lb14_0 [3, 4, 5] (α := Nat × Nat) (fun s _ => [(3, I s.2), (4, I s.1), (5, .top)]) (fun s _ => []) (fun s k => s.1 ≤ args.length ∧ max s.2 (eM (args.drop s.1)) = R) (fun s => args.length - s.1) (0, 0) ⟨by simp, by simp [hR]⟩ (by simp) (by simp) ?_
  rintro ⟨i, m⟩ k ⟨hi, hr⟩
  simp only at hi hr
  by_cases hlt : i < args.length
  ·have wi := aQ (x := (i : Int) + 1) (by omega) (by omega)
   rw [List.drop_eq_getElem_cons hlt] at hr
   unfold eM at hr
   have hx := ih1 args[i] (List.getElem_mem hlt)
   obtain ⟨x, hxe⟩ : ∃ x, args[i] = x := ⟨_, rfl⟩
   rw [hxe] at hx hr
   simp -implicitDefEqProofs [lb14_0, hlt, hxe]
   refine aG hx.2 (by simp) ?_
   have hmx : ((max m (bS x) : Nat) : Int) = max (m : Int) (bS x : Int) := by omega
   simp -implicitDefEqProofs [wi]
   exact aI (i + 1, max m (bS x)) ⟨hlt, by simp only; omega⟩ (by simp only; omega) (by simp [hmx]) (by simp)
  ·have hil : i = args.length := by omega
   subst hil
   rw [List.drop_length] at hr
   simp only [eM, Nat.max_zero] at hr
   subst hr
   unfold bS
   rw [hR]
   rcases hop with rfl | rfl | rfl | ⟨o1, o2, o3⟩
   ·simp -implicitDefEqProofs [lb14_0, w1]
   ·simp -implicitDefEqProofs [lb14_0, w1]
   ·simp -implicitDefEqProofs [lb14_0, w1]
   ·simp -implicitDefEqProofs [lb14_0, o1, o2, o3]
mutual
theorem vU : ∀ e : Ex, yN e
 | .mk op n tl ty z args p => E1 op n tl ty z args p (BY args)
theorem BY : ∀ l : List Ex, ∀ x ∈ l, yN x
 | [], x, h => by simp at h
 | y :: ys, x, h => by
  rcases List.mem_cons.1 h with e | h
  ·rw [e]; exact vU y
  ·exact BY ys x h
end
theorem xD (e : Ex) (hz : size e ≤ 2 ^ 40) : Pure Tryz.prog 38 [.agg [I e.op, Tx e.name, Tx e.tail, I e.type, CX e.num.re e.num.im, .sl (em aT e.args), I e.at']] (I (if 6 < bS e then 23 else 0)) := by
 refine fi38.pu (by simp) ?_
 simp -implicitDefEqProofs [ac38]
 refine aG (vU e hz).1 (by simp) ?_
 by_cases h : 6 < bS e
 ·have h2 : (6 : Int) < (bS e : Int) := by omega
  simp -implicitDefEqProofs [h, h2]
 ·have h2 : ¬ (6 : Int) < (bS e : Int) := by omega
  simp -implicitDefEqProofs [h, h2]
set_option maxHeartbeats 8000000
def nmB (l : List Pm) : Nls := (l.map fun b => (b.name, b.at')).reverse
def envB (l : List Pm) : List Pm := l.map fun b => ⟨b.name, b.type, 0⟩
theorem ck_pin {t p : Int} : ck t p = 0 ↔ a_ t ∧ Pin t p := by
 unfold ck Pin a_
 constructor
 ·intro h
  split at h
  ·omega
  ·split at h
   ·rename_i h1 h2
    refine ⟨?_, h2⟩
    unfold tp at h1
    split at h1
    ·rename_i e; exact .inl e
    ·split at h1
     ·rename_i e; exact .inr (.inl e)
     ·split at h1
      ·rename_i e; exact .inr (.inr e)
      ·omega
   ·omega
 ·rintro ⟨h1, h2⟩
  have := mS h1
  rw [if_neg (by omega), if_pos h2]
theorem EnvR.binds : ∀ (l : List Pm), (∀ b ∈ l, ck b.type b.at' = 0) → EnvR (envB l) (nmB l) := by
 have key : ∀ (l env : List Pm) (N : Nls), (∀ b ∈ l, ck b.type b.at' = 0) → EnvR env N → EnvR (env ++ envB l) (nmB l ++ N) := by
  intro l
  induction l with
  | nil => intro env N _ h; simpa [nmB, envB] using h
  | cons x l ih =>
   intro env N hl h
   have hx := (ck_pin.1 (hl x (by simp))).2
   have h2 := ih (env ++ [⟨x.name, x.type, 0⟩]) ((x.name, x.at') :: N) (fun b hb => hl b (by simp [hb])) (EnvR.one h hx)
   have e1 : env ++ [⟨x.name, x.type, 0⟩] ++ envB l = env ++ envB (x :: l) := by simp [envB]
   have e2 : nmB l ++ (x.name, x.at') :: N = nmB (x :: l) ++ N := by simp [nmB]
   rw [e1, e2] at h2
   exact h2
 intro l h
 have := key l [] [] h EnvR.nil
 simpa using this
abbrev dL (P : List Fn) (i : Int) : Fn := P[i.toNat]?.getD default
abbrev aX (f : Fn) : List Int := f.params.map Pm.type
def cB (P : List Fn) (T : List Tt) (f : Fn) (tu : List Int) : Int := ptF (aS P T) f.body (nmF f.params tu)
def jB (P : List Fn) (T : List Tt) (f : Fn) : List Int := (List.range (pr (aX f)).toNat).map fun k => cB P T f (dg (aX f) (k : Nat))
open Classical in
noncomputable def eF (P : List Fn) (T : List Tt) (i : Int) (tu : List Int) : Int × Int :=
 if SeeOk P T then (if i < 0 ∨ (P.length : Int) ≤ i then (0, 2) else if (cW (aX (dL P i)) tu).2 ≠ 0 then (0, (cW (aX (dL P i)) tu).2) else if 6 < bS (dL P i).body then (0, 23) else (cB P T (dL P i) tu, 0)) else (0, 3)
open Classical in
noncomputable def bQ (P : List Fn) (T : List Tt) (i : Int) : Tt × Int :=
 if SeeOk P T then (if i < 0 ∨ (P.length : Int) ≤ i then (⟨[], 0, 0, []⟩, 2) else if 6 < bS (dL P i).body then (⟨[], 0, 0, []⟩, 23) else (⟨aX (dL P i), (dL P i).type, pr (aX (dL P i)), cK (jB P T (dL P i))⟩, 0)) else (⟨[], 0, 0, []⟩, 3)
abbrev ttD (x : Tt) : D := tb x.ps x.t x.n x.l
theorem pL {P : List Fn} {T : List Tt} (hk : cI P) (hok : SeeOk P T) {i : Int} (h0 : 0 ≤ i) (hlt : i < P.length) : ∃ f, P[i.toNat]? = some f ∧ dL P i = f ∧ f ∈ P ∧ bO P f.params f.body f.type = [] ∧ size f.body ≤ 2 ^ 37 ∧ f.params.length ≤ 2 ^ 37 ∧ Sh f.body ∧ a_ f.type ∧ okT (aX f) ∧ (bZ (aX f)).2 = 0 := by
 have hl : i.toNat < P.length := by omega
 obtain ⟨hPT, hPl, hsz⟩ := f_ hk
 have hm := List.getElem_mem hl
 have hfit := hok.2.2 i.toNat hl
 have he := List.getElem?_eq_getElem hl
 refine ⟨P[i.toNat], he, by unfold dL; rw [he]; rfl, hm, (qR hok.1).2 _ hm, (hsz _ hm).1, (hsz _ hm).2.1, (hsz _ hm).2.2, (hPT _ hm).1, ?_⟩
 rw [he] at hfit
 obtain ⟨h1, h2, h3⟩ := hfit
 have h4 := h1.1
 rw [h3] at h4
 exact ⟨(dP h4).1, h4⟩
theorem zP {P : List Fn} {T : List Tt} (hk : cI P) (hT : T.length < 2 ^ 44) (hw : TW T) (i : Int) (tu : List Int) (hu : tu.length < 2 ^ 48) :
  Pure Tryz.prog 19 [.agg [.sl (em aY P)], .sl (em eO T), I i, .sl (em aU tu)] (.tup [I (eF P T i tu).1, I (eF P T i tu).2]) := by
 obtain ⟨hPT, hPl, hsz⟩ := f_ hk
 refine fi19.pu (by simp) ?_
 simp -implicitDefEqProofs [ac19]
 have hno : ¬ SeeOk P T → eF P T i tu = (0, 3) := fun h => by unfold eF; exact if_neg h
 have hyes : SeeOk P T → eF P T i tu = (if i < 0 ∨ (P.length : Int) ≤ i then (0, 2) else if (cW (aX (dL P i)) tu).2 ≠ 0 then (0, (cW (aX (dL P i)) tu).2) else if 6 < bS (dL P i).body then (0, 23) else (cB P T (dL P i) tu, 0)) := fun h => by unfold eF; exact if_pos h
 generalize eF P T i tu = R at *
 refine aD (see_c hk hT hw (fun h n1 hn1 => ?_) (fun hok hid m n1 h0 hn1 hsg => ?_))
 ·rw [hno h]
  simp -implicitDefEqProofs
 ·have hR := hyes hok
  clear hyes hno
  by_cases hi0 : i < 0
  ·rw [if_pos (.inl hi0)] at hR
   rw [hR]
   simp -implicitDefEqProofs [hi0]
  ·by_cases hil : (P.length : Int) ≤ i
   ·rw [if_pos (.inr hil)] at hR
    rw [hR]
    simp -implicitDefEqProofs [hi0, hil]
   ·rw [if_neg (by omega)] at hR
    have hi1 : 0 ≤ i := by omega
    have hi2 : i < (P.length : Int) := by omega
    have hi3 : i.toNat < P.length := by omega
    have hi4 : i < (T.length : Int) := by rw [hok.2.1]; exact hi2
    have hi5 : i.toNat < T.length := by omega
    obtain ⟨f, hf, hfa, hfm, hwl, hs1, hs2, hs3, hty, hokT, hcnt⟩ := pL hk hok hi1 hi2
    have hf2 : P[i.toNat] = f := by rw [List.getElem?_eq_getElem hi3] at hf; simpa using hf
    obtain ⟨x, hx⟩ : ∃ x, T[i.toNat] = x := ⟨_, rfl⟩
    have hfit := hok.2.2 i.toNat hi3
    rw [hf, List.getElem?_eq_getElem hi5, hx] at hfit
    obtain ⟨_, _, hps⟩ := hfit
    simp only [Option.getD_some] at hps
    rw [hfa] at hR
    simp -implicitDefEqProofs [hi0, hil, hi1, hi2, hi3, hi4, hi5, hf2, hx, uW, hps]
    refine aG (zI (aX f) tu (by simp; omega) hu) (by simp) ?_
    by_cases hnum : (cW (aX f) tu).2 = 0
    ·rw [if_neg (by simpa using hnum)] at hR
     simp -implicitDefEqProofs [hnum, hi1, hi2, hi3, hf2]
     refine aG (xD f.body (by omega)) (by simp) ?_
     by_cases h6 : 6 < bS f.body
     ·rw [if_pos h6] at hR
      rw [hR]
      simp -implicitDefEqProofs [h6]
     ·rw [if_neg h6] at hR
      rw [hR]
      simp -implicitDefEqProofs [h6]
      have hin : inT (aX f) tu = true := by
       unfold cW at hnum
       rw [if_neg (by simpa using hcnt)] at hnum
       split at hnum
       ·simp at hnum
       ·split at hnum
        ·assumption
        ·simp at hnum
      refine aD (G6 i f tu hsg hPT hi1 hi3 hf2 hs3 hwl (by omega) (by omega) hin (fun n2 hn2 => ?_))
      simp -implicitDefEqProofs [cB]
    ·rw [if_pos (by simpa using hnum)] at hR
     rw [hR]
     simp -implicitDefEqProofs [hnum]
theorem BP {P : List Fn} {T : List Tt} (hPT : PT P) (hT : kE P T) {f : Fn} (hs : Sh f.body) (ht : a_ f.type) (hw : bO P f.params f.body f.type = []) (ho : okT (aX f)) (k : Nat) : Pin f.type (cB P T f (dg (aX f) k)) :=
 yM hPT (uG hT) _ hs ht hw (EnvR.pre _ _ (yP _ ho (by omega)))
theorem G2 {P : List Fn} {T : List Tt} (hk : cI P) (hT : T.length < 2 ^ 44) (hw : TW T) (i : Int) :
  Pure Tryz.prog 21 [.agg [.sl (em aY P)], .sl (em eO T), I i] (.tup [ttD (bQ P T i).1, I (bQ P T i).2]) := by
 obtain ⟨hPT, hPl, hsz⟩ := f_ hk
 refine fi21.pu (by simp) ?_
 simp -implicitDefEqProofs [ac21]
 have hno : ¬ SeeOk P T → bQ P T i = (⟨[], 0, 0, []⟩, 3) := fun h => by unfold bQ; exact if_neg h
 have hyes : SeeOk P T → bQ P T i = (if i < 0 ∨ (P.length : Int) ≤ i then (⟨[], 0, 0, []⟩, 2) else if 6 < bS (dL P i).body then (⟨[], 0, 0, []⟩, 23) else (⟨aX (dL P i), (dL P i).type, pr (aX (dL P i)), cK (jB P T (dL P i))⟩, 0)) := fun h => by unfold bQ; exact if_pos h
 generalize bQ P T i = R at *
 refine aD (see_c hk hT hw (fun h n1 hn1 => ?_) (fun hok hid m n1 h0 hn1 hsg => ?_))
 ·rw [hno h]
  simp -implicitDefEqProofs
 ·have hz1 : (hid = 1) = False := eq_false (by omega)
  have hz2 : (1 = hid) = False := eq_false (by omega)
  have hR := hyes hok
  clear hyes hno
  by_cases hi0 : i < 0
  ·rw [if_pos (.inl hi0)] at hR
   rw [hR]
   simp -implicitDefEqProofs [hi0, hz1, hz2]
  ·by_cases hil : (P.length : Int) ≤ i
   ·rw [if_pos (.inr hil)] at hR
    rw [hR]
    simp -implicitDefEqProofs [hi0, hil, hz1, hz2]
   ·rw [if_neg (by omega)] at hR
    have hi1 : 0 ≤ i := by omega
    have hi2 : i < (P.length : Int) := by omega
    have hi3 : i.toNat < P.length := by omega
    have hi4 : i < (T.length : Int) := by rw [hok.2.1]; exact hi2
    have hi5 : i.toNat < T.length := by omega
    obtain ⟨f, hf, hfa, hfm, hwl, hs1, hs2, hs3, hty, hokT, hcnt⟩ := pL hk hok hi1 hi2
    have hf2 : P[i.toNat] = f := by rw [List.getElem?_eq_getElem hi3] at hf; simpa using hf
    obtain ⟨x, hx⟩ : ∃ x, T[i.toNat] = x := ⟨_, rfl⟩
    have hfit := hok.2.2 i.toNat hi3
    rw [hf, List.getElem?_eq_getElem hi5, hx] at hfit
    obtain ⟨_, hxt, hps⟩ := hfit
    simp only [Option.getD_some] at hps hxt
    rw [hfa] at hR
    simp -implicitDefEqProofs [hi0, hil, hi1, hi2, hi3, hf2]
    refine aG (xD f.body (by omega)) (by simp) ?_
    by_cases h6 : 6 < bS f.body
    ·rw [if_pos h6] at hR
     rw [hR]
     simp -implicitDefEqProofs [h6, hz1, hz2]
    ·rw [if_neg h6] at hR
     rw [hR]
     simp -implicitDefEqProofs [h6, hi1, hi4, hi5, hx, uW, hps, hxt]
     refine aG (LP (aX f) f.type (by simp; omega)) (by simp) ?_
     have htp := mS hty
     have hnew : newT (aX f) f.type = (tb (aX f) f.type (pr (aX f)) (List.replicate ((pr (aX f) + 31) / 32).toNat 0), 0) := by unfold newT; rw [if_neg (by simpa using hcnt), if_neg (by omega)]
     simp -implicitDefEqProofs [hnew]
     obtain ⟨b, hb⟩ : ∃ q, n1 + 2 + 9 + 8 + 2 + 14 = q := ⟨_, rfl⟩
     rw [hb]
     have hz3 : (b = 1) = False := eq_false (by omega)
     have hz4 : (1 = b) = False := eq_false (by omega)
     have hz5 : (b = hid) = False := eq_false (by omega)
     have hz6 : (hid = b) = False := eq_false (by omega)
     have hpos := gU hokT
     obtain ⟨_, hp96, hp1⟩ := dP hcnt
     obtain ⟨n, hn⟩ : ∃ n : Nat, pr (aX f) = n := ⟨(pr (aX f)).toNat, by omega⟩
     have hrn : jB P T f = (List.range n).map fun k => cB P T f (dg (aX f) (k : Nat)) := by unfold jB; rw [hn]; rfl
     have hrp : ∀ k : Nat, Pin f.type (cB P T f (dg (aX f) k)) := fun k => BP hPT (hok.tabs hw) hs3 hty hwl hokT k
     have htp3 : tp f.type ≤ 3 := by rcases hty with h | h | h <;> rw [h] <;> decide
     generalize jB P T f = r at *
     rw [hn]
     refine lpG cf21 lb21_0 [13, 14, 64] (α := Nat × List Int) (fun s _ => [(64, I s.1)]) (fun s _ => [(b, .box [.sl (em aU (aX f)), I f.type, I n, .sl (em eR s.2)]), (hid, .map (bT m)), (1, .box [.pl (.slice none 0 0), .pl (.int .i64 0), .pl (.int .i64 0), .pl (.slice none 0 0)])]) (fun s k => b < k ∧ s.1 ≤ n ∧ fD s.2 ∧ cN n s.2 ∧ ∀ j, j < n → bH s.2 j = if j < s.1 then cB P T f (dg (aX f) (j : Nat)) else 0) (fun s => n - s.1) (0, List.replicate (((n : Int) + 31) / 32).toNat 0) ⟨by omega, by omega, ET _, xQ (by omega) (by omega), fun j hj => by rw [yD, if_neg (by omega)]⟩ (by simp) (by simp) ?_
     rintro ⟨j, l⟩ k ⟨hk1, hj, hlw, hlg, hlc⟩
     simp only at hj hlw hlg hlc hk1
     by_cases hjn : j < n
     ·have hjni : (j : Int) < (n : Int) := by omega
      have w1 := aQ (x := (j : Int) + 1) (by omega) (by omega)
      simp -implicitDefEqProofs [lb21_0, hjni]
      have htup : fG (aX f) j = (dg (aX f) j, 0) := by unfold fG; rw [if_neg (by simpa using hcnt), if_neg (by omega)]
      refine aG (M8 (aX f) j (by simp; omega)) (by simp) ?_
      simp -implicitDefEqProofs [htup]
      have hsg2 : Sg [(b, .box [.sl (em aU (aX f)), I f.type, I n, .sl (em eR l)]), (hid, .map (bT m)), (1, .box [.pl (.slice none 0 0), .pl (.int .i64 0), .pl (.int .i64 0), .pl (.slice none 0 0)])] P hid T := hsg.skip (by simp [look, hz4, hz6])
      refine aD (G6 i f _ hsg2 hPT hi1 hi3 hf2 hs3 hwl (by omega) (by omega) (yP _ hokT (by omega)) (fun n2 hn2 => ⟨fun _ _ h => h, ?_⟩))
      have hv := hrp j
      unfold cB Pin at hv
      generalize hvv : ptF (aS P T) f.body (nmF f.params (dg (aX f) j)) = vv at *
      have hput : q8 n l j vv = iI n (lE l j vv) 0 := by unfold q8; rw [if_pos hlg, if_pos ⟨by omega, hjni, hv.1, by omega⟩]; simp
      refine aG (Put_c n j vv l) (by simp) ?_
      simp -implicitDefEqProofs [hput, iI, w1, hz1, hz2, hz3, hz4, hz5, hz6]
      have hln : n ≤ 32 * l.length := by have := nN hlg; simpa using this
      refine aI (j + 1, lE l j vv) ⟨by omega, hjn, AQ hlw, by simpa using xZ hlw hlg hv.1 (by omega) (by simpa using hjn), fun c hc => ?_⟩ (by simp only; omega) (by simp) (aK _)
      simp only
      rw [rR hlw hv.1 (by omega) (by omega) (by omega), hlc c hc]
      by_cases e : c = j
      ·subst e
       rw [if_pos rfl, if_pos (by omega)]
       unfold cB
       exact hvv.symm
      ·rw [if_neg e]
       by_cases e2 : c < j
       ·rw [if_pos e2, if_pos (by omega)]
       ·rw [if_neg e2, if_neg (by omega)]
     ·have hjn2 : j = n := by omega
      subst hjn2
      have hcl : r = cl j l := by
       rw [hrn]
       refine F5 (by simp) fun c hc => ?_
       have hc2 : c < j := by simpa using hc
       rw [hlc c hc2, if_pos hc2]
       simp [hc2]
      rw [hcl, BT hlg hlw]
      simp -implicitDefEqProofs [lb21_0, hz1, hz2, hz3, hz4, hz5, hz6]
theorem i_ {P : List Fn} (h : cI P) : P.length ≤ 2 ^ 21 ∧ ∀ f ∈ P, size f.body ≤ 2 ^ 21 ∧ f.params.length ≤ 2 ^ 21 := by
 obtain ⟨ms, a, b, _, hl, hr, hb, hF, _⟩ := h
 obtain ⟨k1, k2⟩ := mZ P a b hF
 exact ⟨by omega, fun f hf => by have := k2 f hf; omega⟩
theorem B5 {P : List Fn} {T : List Tt} (i : Int) (f : Fn) (tu : List Int) (hk : cI P) (hok : SeeOk P T) (hw : TW T) (h0 : 0 ≤ i) (hlt : i.toNat < P.length) (hf : P[i.toNat] = f) (hin : inT (aX f) tu = true) :
  Pure Tryz.prog 52 [rsD P T, I i, .sl (em aU tu)] (I (cB P T f tu)) := by
 obtain ⟨hPT, hPl, hsz⟩ := f_ hk
 have hfm : f ∈ P := hf ▸ List.getElem_mem hlt
 obtain ⟨z1, z2, z3⟩ := hsz f hfm
 have ht := (hPT f hfm).1
 have hwl := (qR hok.1).2 f hfm
 have hti : i < (P.length : Int) := by omega
 have hln : tu.length = f.params.length := by simpa using nG hin
 refine fi52.pu (by simp) ?_
 simp -implicitDefEqProofs [ac52, h0, hti, hlt, hf]
 obtain ⟨hPs, hfs⟩ := i_ hk
 have hfs2 := hfs f hfm
 refine cS (j := 8) (k := 2) rfl (.inl rfl) ?_
 refine lY ?_
 refine lpG cf52 lb52_0 [8, 9] (α := Nat × Nat × List (List UInt8 × Int)) (fun s _ => [(8, .osl 13 s.2.1 0 s.2.2.length), (9, I s.1)]) (fun s _ => [(13, .arr s.2.1 2 (em gE s.2.2)), (9, .box [Tx f.name, .sl (em bX f.params), I f.type, I f.body.op, Tx f.body.name, Tx f.body.tail, I f.body.type, CX f.body.num.re f.body.num.im, .sl (em aT f.body.args), I f.body.at', I f.at'])]) (fun s k => s.1 ≤ tu.length ∧ s.2.2 = ((f.params.map Pm.name).zip tu).take s.1) (fun s => tu.length - s.1) (0, 0, []) ⟨by omega, by simp⟩ (by simp [upd]) (by simp) ?_
 rintro ⟨j, v, l⟩ k ⟨hj, hl⟩
 simp only at hj hl
 by_cases hjl : j < tu.length
 ·have w1 := aQ (x := (j : Int) + 1) (by omega) (by omega)
  have hjp : j < f.params.length := by omega
  have hjpi : (j : Int) < (f.params.length : Int) := by omega
  have hjli : (j : Int) < (tu.length : Int) := by omega
  have hll : l.length = j := by rw [hl, List.length_take]; simp; omega
  have b1 : (l.length + 1) * 24 ≤ 3 * 2 ^ 46 := by omega
  obtain ⟨x, hx⟩ : ∃ x, f.params[j] = x := ⟨_, rfl⟩
  obtain ⟨p, hp⟩ : ∃ x, tu[j] = x := ⟨_, rfl⟩
  have hnext : l ++ [(x.name, p)] = ((f.params.map Pm.name).zip tu).take (j + 1) := by
   have hz : j < ((f.params.map Pm.name).zip tu).length := by simp; omega
   rw [List.take_add_one, List.getElem?_eq_getElem hz, ← hl]
   simp [hx, hp]
  have hap : em gE l ++ [[Tx x.name, I p]] = em gE (l ++ [(x.name, p)]) := dX (enc := gE) (x := (x.name, p))
  simp -implicitDefEqProofs [lb52_0, hjp, hjpi, hjl, hjli, hx, hp, w1, b1, hap]
  exact aI (j + 1, v + 1, l ++ [(x.name, p)]) ⟨hjl, hnext⟩ (by simp only; omega) (by simp) (aK _)
 ·have hjt : j = tu.length := by omega
  subst hjt
  have hl2 : l = (nmF f.params tu).reverse := by rw [hl, List.take_of_length_le (by simp; omega)]; unfold nmF; rw [List.reverse_reverse]
  subst hl2
  simp -implicitDefEqProofs [lb52_0]
  have hN := y2 f.body (hok.tabs hw) (by omega) (fun g hg => by have := hfs g hg; omega) hPT z3 ht hwl (EnvR.pre f.params tu hin) (by simp [nmF]; omega)
  refine qS (j := 8) (d' := nmD (nmF f.params tu)) [(13, .arr v 2 (em gE (nmF f.params tu).reverse))] [(9, .box [Tx f.name, .sl (em bX f.params), I f.type, I f.body.op, Tx f.body.name, Tx f.body.tail, I f.body.type, CX f.body.num.re f.body.num.im, .sl (em aT f.body.args), I f.body.at', I f.at'])] rfl (by simp [frz, look]; rw [List.take_of_length_le (by simp)]) (fun i b hb => ?_) (fun i b hb => ?_) (fun i => ?_) ?_
  ·rw [bF] at hb ⊢
   split at hb
   ·rename_i e; rw [if_pos e]; exact hb
   ·simp [look] at hb
  ·rw [bF, if_neg (by rintro rfl; simp [look] at hb)]; exact hb
  ·by_cases e : 13 = i
   ·subst e; exact .inr (by simp [look])
   ·left; rw [bF, if_neg e]; rfl
  ·simp -implicitDefEqProofs [upd]
   refine aG hN (by simp) ?_
   simp -implicitDefEqProofs [cB]
theorem ia_Q2 {l : List Tt} {mem : Mem} {j : IntKind} {i : Int} : iaD mem 1 (.sl (em mH l)) (.pl (.int j i)) = if 0 ≤ i ∧ i < l.length then some (.pt [.sl (em aU (cl (l[i.toNat]?.getD default).n (l[i.toNat]?.getD default).l))]) else none := ia_Q
theorem vY {P : List Fn} {f : Fn} (hk : cI P) (hf : f ∈ P) : Pure Tryz.prog 32 [.agg [Tx f.name, .sl (em bX f.params), I f.type, I f.body.op, Tx f.body.name, Tx f.body.tail, I f.body.type, CX f.body.num.re f.body.num.im, .sl (em aT f.body.args), I f.body.at', I f.at']] (.sl (em aU (aX f))) := by
 have h := CU f (by have := ((i_ hk).2 f hf).2; omega)
 rw [aR] at h
 exact h
theorem D_ {P : List Fn} {T : List Tt} (i : Int) (f : Fn) (hk : cI P) (hok : SeeOk P T) (hw : TW T) (h0 : 0 ≤ i) (hlt : i.toNat < P.length) (hf : P[i.toNat] = f) :
  Pure Tryz.prog 56 [rsD P T, I i] (.sl (em aU (jB P T f))) := by
 have hti : i < (P.length : Int) := by omega
 obtain ⟨g, hg, hfa, hfm, hwl, hs1, hs2, hs3, hty, hokT, hcnt⟩ := pL hk hok h0 hti
 have hgf : g = f := by rw [List.getElem?_eq_getElem hlt, hf] at hg; simpa using hg.symm
 subst hgf
 have hl5 : i.toNat < T.length := by rw [hok.2.1]; exact hlt
 have hl4 : i < (T.length : Int) := by omega
 obtain ⟨x, hx⟩ : ∃ x, T[i.toNat] = x := ⟨_, rfl⟩
 have hfit := hok.2.2 i.toNat hlt
 rw [hg, List.getElem?_eq_getElem hl5, hx] at hfit
 obtain ⟨⟨_, _, hxn, _, _⟩, hxt, hps⟩ := hfit
 simp only [Option.getD_some] at hps hxt hxn
 rw [hps] at hxn
 have hpos := gU hokT
 obtain ⟨_, hp96, hp1⟩ := dP hcnt
 obtain ⟨n, hn⟩ : ∃ n : Nat, pr (aX g) = n := ⟨(pr (aX g)).toNat, by omega⟩
 have hrn : jB P T g = (List.range n).map fun k => cB P T g (dg (aX g) (k : Nat)) := by unfold jB; rw [hn]; rfl
 have hxn2 : x.n.toNat = n := by rw [hxn]; show (pr (aX g)).toNat = n; omega
 refine fi56.pu (by simp) ?_
 generalize jB P T g = r at *
 simp -implicitDefEqProofs [ac56, h0, hti, hlt, hf]
 refine aG (vY hk hfm) (by simp) ?_
 simp -implicitDefEqProofs
 refine cS (j := 5) (k := 1) rfl (.inl rfl) ?_
 refine lpG cf56 lb56_0 [5, 7, 8, 10] (α := Nat × Nat × List Int) (fun s _ => [(5, .osl 13 s.2.1 0 s.2.2.length), (7, I s.1)]) (fun s _ => [(13, .arr s.2.1 1 (em aU s.2.2))]) (fun s k => s.1 ≤ n ∧ s.2.2 = (List.range s.1).map fun k => cB P T g (dg (aX g) (k : Nat))) (fun s => n - s.1) (0, 0, []) ⟨by omega, by simp⟩ (by simp [upd]) (by simp) ?_
 rintro ⟨j, v, l⟩ k ⟨hj, hl⟩
 simp only at hj hl
 have hll : l.length = j := by rw [hl]; simp
 by_cases hjn : j < n
 ·have w1 := aQ (x := (j : Int) + 1) (by omega) (by omega)
  have b1 : (l.length + 1) * 8 ≤ 3 * 2 ^ 46 := by omega
  have htup : fG (aX g) j = (dg (aX g) j, 0) := by unfold fG; rw [if_neg (by simpa using hcnt), if_neg (by omega)]
  have hnext : l ++ [cB P T g (dg (aX g) j)] = (List.range (j + 1)).map fun k => cB P T g (dg (aX g) (k : Nat)) := by
   rw [List.range_succ, List.map_append, ← hl]; rfl
  have hap : em aU l ++ [[I (cB P T g (dg (aX g) j))]] = em aU (l ++ [cB P T g (dg (aX g) j)]) := dX
  simp -implicitDefEqProofs [lb56_0, h0, hl4, hl5, hx, ia_Q2, hxn2, hjn]
  refine aG (C1 (aX g) j (by simp; omega)) (by simp) ?_
  simp -implicitDefEqProofs [htup]
  refine aG (B5 i g _ hk hok hw h0 hlt hf (yP _ hokT (by omega))) (by simp) ?_
  simp -implicitDefEqProofs [w1, b1, hap]
  exact aI (j + 1, v + 1, l ++ [cB P T g (dg (aX g) j)]) ⟨hjn, hnext⟩ (by simp only; omega) (by simp) (aK _)
 ·have hjn2 : j = n := by omega
  subst hjn2
  have hrl : r = l := by rw [hrn, hl]
  subst hrl
  simp -implicitDefEqProofs [lb56_0, h0, hl4, hl5, hx, ia_Q2, hxn2, frz, gO, look]
theorem KO {P : List Fn} {T : List Tt} {f : Fn} (hPT : PT P) (hT : kE P T) (hs : Sh f.body) (ht : a_ f.type) (hw : bO P f.params f.body f.type = []) (ho : okT (aX f)) : ∀ c ∈ jB P T f, jH c := by
 intro c hc
 unfold jB at hc
 obtain ⟨k, _, rfl⟩ := List.mem_map.1 hc
 have h := BP hPT hT hs ht hw ho k
 have h3 : tp f.type ≤ 3 := by rcases ht with h | h | h <;> rw [h] <;> decide
 unfold Pin at h
 exact ⟨h.1, by omega⟩
theorem DE {P : List Fn} {T : List Tt} (hk : cI P) (hT : T.length < 2 ^ 44) (hw : TW T) (i : Int) :
  Pure Tryz.prog 22 [.agg [.sl (em aY P)], .sl (em eO T), I i] (.tup [ttD (bQ P T i).1, I (bQ P T i).2]) := by
 obtain ⟨hPT, hPl, hsz⟩ := f_ hk
 refine fi22.pu (by simp) ?_
 simp -implicitDefEqProofs [ac22]
 have hno : ¬ SeeOk P T → bQ P T i = (⟨[], 0, 0, []⟩, 3) := fun h => by unfold bQ; exact if_neg h
 have hyes : SeeOk P T → bQ P T i = (if i < 0 ∨ (P.length : Int) ≤ i then (⟨[], 0, 0, []⟩, 2) else if 6 < bS (dL P i).body then (⟨[], 0, 0, []⟩, 23) else (⟨aX (dL P i), (dL P i).type, pr (aX (dL P i)), cK (jB P T (dL P i))⟩, 0)) := fun h => by unfold bQ; exact if_pos h
 generalize bQ P T i = R at *
 have hsee := FH hk hT hw
 by_cases hok : SeeOk P T
 ·have hd : oT P T = .tup [rsD P T, B true] := if_pos hok
  rw [hd] at hsee
  refine aG hsee (by simp) ?_
  have hR := hyes hok
  clear hyes hno
  by_cases hi0 : i < 0
  ·rw [if_pos (.inl hi0)] at hR
   rw [hR]
   simp -implicitDefEqProofs [hi0]
  ·by_cases hil : (P.length : Int) ≤ i
   ·rw [if_pos (.inr hil)] at hR
    rw [hR]
    simp -implicitDefEqProofs [hi0, hil]
   ·rw [if_neg (by omega)] at hR
    have hi1 : 0 ≤ i := by omega
    have hi2 : i < (P.length : Int) := by omega
    have hi3 : i.toNat < P.length := by omega
    obtain ⟨f, hf, hfa, hfm, hwl, hs1, hs2, hs3, hty, hokT, hcnt⟩ := pL hk hok hi1 hi2
    have hf2 : P[i.toNat] = f := by rw [List.getElem?_eq_getElem hi3] at hf; simpa using hf
    rw [hfa] at hR
    simp -implicitDefEqProofs [hi0, hil, hi1, hi2, hi3, hf2]
    refine aG (vU f.body (by omega)).2 (by simp) ?_
    by_cases h6 : 6 < bS f.body
    ·have h6i : (6 : Int) < (bS f.body : Int) := by omega
     rw [if_pos h6] at hR
     rw [hR]
     simp -implicitDefEqProofs [h6i]
    ·have h6i : ¬ (6 : Int) < (bS f.body : Int) := by omega
     rw [if_neg h6] at hR
     rw [hR]
     have hpos := gU hokT
     obtain ⟨_, hp96, hp1⟩ := dP hcnt
     have hlen : (jB P T f).length = (pr (aX f)).toNat := by simp [jB]
     have hof := AF (aX f) f.type (jB P T f) (KO hPT (hok.tabs hw) hs3 hty hwl hokT) (by omega) (by simp; omega)
     rw [hlen, Int.toNat_of_nonneg (by omega)] at hof
     simp -implicitDefEqProofs [h6i, hi1, hi2, hi3, hf2]
     refine aG (vY hk hfm) (by simp) ?_
     simp -implicitDefEqProofs [hi1, hi2, hi3, hf2]
     refine aG (D_ i f hk hok hw hi1 hi3 hf2) (by simp) ?_
     simp -implicitDefEqProofs
     refine aG hof (by simp) ?_
     simp -implicitDefEqProofs
 ·have hd : oT P T = .tup [.pl (.pointer none), B false] := if_neg hok
  rw [hd] at hsee
  refine aG hsee (by simp) ?_
  rw [hno hok]
  simp -implicitDefEqProofs
theorem FD {P : List Fn} {T : List Tt} (hk : cI P) (hT : T.length < 2 ^ 44) (hw : TW T) (i : Int) (tu : List Int) (hu : tu.length < 2 ^ 48) :
  Pure Tryz.prog 20 [.agg [.sl (em aY P)], .sl (em eO T), I i, .sl (em aU tu)] (.tup [I (eF P T i tu).1, I (eF P T i tu).2]) := by
 obtain ⟨hPT, hPl, hsz⟩ := f_ hk
 refine fi20.pu (by simp) ?_
 simp -implicitDefEqProofs [ac20]
 have hno : ¬ SeeOk P T → eF P T i tu = (0, 3) := fun h => by unfold eF; exact if_neg h
 have hyes : SeeOk P T → eF P T i tu = (if i < 0 ∨ (P.length : Int) ≤ i then (0, 2) else if (cW (aX (dL P i)) tu).2 ≠ 0 then (0, (cW (aX (dL P i)) tu).2) else if 6 < bS (dL P i).body then (0, 23) else (cB P T (dL P i) tu, 0)) := fun h => by unfold eF; exact if_pos h
 generalize eF P T i tu = R at *
 have hsee := FH hk hT hw
 by_cases hok : SeeOk P T
 ·have hd : oT P T = .tup [rsD P T, B true] := if_pos hok
  rw [hd] at hsee
  refine aG hsee (by simp) ?_
  have hR := hyes hok
  clear hyes hno
  by_cases hi0 : i < 0
  ·rw [if_pos (.inl hi0)] at hR
   rw [hR]
   simp -implicitDefEqProofs [hi0]
  ·by_cases hil : (P.length : Int) ≤ i
   ·rw [if_pos (.inr hil)] at hR
    rw [hR]
    simp -implicitDefEqProofs [hi0, hil]
   ·rw [if_neg (by omega)] at hR
    have hi1 : 0 ≤ i := by omega
    have hi2 : i < (P.length : Int) := by omega
    have hi3 : i.toNat < P.length := by omega
    obtain ⟨f, hf, hfa, hfm, hwl, hs1, hs2, hs3, hty, hokT, hcnt⟩ := pL hk hok hi1 hi2
    have hf2 : P[i.toNat] = f := by rw [List.getElem?_eq_getElem hi3] at hf; simpa using hf
    rw [hfa] at hR
    simp -implicitDefEqProofs [hi0, hil, hi1, hi2, hi3, hf2]
    refine aG (vY hk hfm) (by simp) ?_
    simp -implicitDefEqProofs
    refine aG (tL (aX f) tu (by simp; omega) hu) (by simp) ?_
    by_cases hnum : (cW (aX f) tu).2 = 0
    ·rw [if_neg (by simpa using hnum)] at hR
     simp -implicitDefEqProofs [hnum, hi1, hi2, hi3, hf2]
     refine aG (vU f.body (by omega)).2 (by simp) ?_
     by_cases h6 : 6 < bS f.body
     ·have h6i : (6 : Int) < (bS f.body : Int) := by omega
      rw [if_pos h6] at hR
      rw [hR]
      simp -implicitDefEqProofs [h6i]
     ·have h6i : ¬ (6 : Int) < (bS f.body : Int) := by omega
      rw [if_neg h6] at hR
      rw [hR]
      simp -implicitDefEqProofs [h6i]
      have hin : inT (aX f) tu = true := by
       unfold cW at hnum
       rw [if_neg (by simpa using hcnt)] at hnum
       split at hnum
       ·simp at hnum
       ·split at hnum
        ·assumption
        ·simp at hnum
      refine aG (B5 i f tu hk hok hw hi1 hi3 hf2 hin) (by simp) ?_
      simp -implicitDefEqProofs
    ·rw [if_pos (by simpa using hnum)] at hR
     rw [hR]
     simp -implicitDefEqProofs [hnum]
 ·have hd : oT P T = .tup [.pl (.pointer none), B false] := if_neg hok
  rw [hd] at hsee
  refine aG hsee (by simp) ?_
  rw [hno hok]
  simp -implicitDefEqProofs
set_option maxRecDepth 1000000
set_option maxHeartbeats 0
noncomputable def cf9 : Cfg := ⟨Tryz.prog, 55, [0, 2, 3, 4, 5, 6, 7, 8], []⟩
noncomputable def lb9_0 : AC :=
 .seq (.ifr [JA 30 6, JG 31 0 4, JD 32 1 31, JO 33 (.len false (.t 32)), JO 34 (.bin .lss 3 (.t 30) (.t 33))] (.t 34) .skip (.exit 0)) (.seq (.block 1 (.seq (.reg [JG 38 0 4, JD 39 1 38, JA 40 6, JL 41 11 39 40, JE 42 11 41, JO 43 (.pc (.f 32) [.t 42]), JO 44 (.pc (.f 31) [.t 43]), JC 37 44, JK 45 0 37, JK 46 1 37, JB 7 45, JB 8 46]) (.ifr [JA 47 8, JO 48 (.bin .neq 3 (.t 47) (JT 0)), JC 49 48, JR 50 49 (.mv (.g 7)), JR 51 49 (.bin .gtr 3 (.t 50) (JT 256)), JO 52 (.pick (.t 49) JX (.t 51))] (.t 52) (.seq (.reg [JF 53 1 4, JQ (.st 1 (.g 2) (.t 53)), JP 3 (.mv JY)]) .ret) .skip))) (.reg [JA 35 6, JO 36 (.bin .add 3 (.t 35) (JT 1)), JB 6 36]))
noncomputable def ac9 : AC :=
 (.seq (.reg [JP 2 (.al [JW]), JP 3 (.mv JY)]) (.seq (.reg [JA 10 0, JO 11 (.pc (.f 30) []), JO 12 (.pc (.f 29) [.t 10, .t 11]), JC 9 12, JK 13 0 9, JK 14 1 9, JP 4 (.al [JW]), JP 5 (.al [JV, JV]), JQ (.st 1 (.g 4) (.t 13)), JQ (.st 2 (.g 5) (.t 14))]) (.seq (.ifr [JG 15 0 5, JD 16 1 15, JO 17 (.bin .neq 52 (.t 16) (JT 0)), JC 18 17, JR 19 18 (.fa 0 (.g 4)), JR 20 18 (.ld false 1 (.t 19)), JR 21 18 (.len false (.t 20)), JR 22 18 (.bin .gtr 3 (.t 21) (JT 40)), JO 23 (.pick (.t 18) JX (.t 22)), JC 24 23, JR 25 24 (.mv (.g 0)), JR 26 24 (.len false (.t 25)), JR 27 24 (.bin .gtr 3 (.t 26) (JT 8192)), JO 28 (.pick (.t 24) JX (.t 27))] (.t 28) (.seq (.reg [JF 29 1 4, JQ (.st 1 (.g 2) (.t 29)), JP 3 (.mv JY)]) .ret) .skip) (.seq (.seq (.reg [JI 6 0]) (.block 0 (.loop lb9_0))) (.seq (.reg [JF 54 1 4, JQ (.st 1 (.g 2) (.t 54)), JP 3 (.mv JX)]) .ret)))))
theorem fi9 : FI Tryz.prog 9 cf9 ac9 [.c 2 true 1, .t 3] [0, 2, 3, 4, 5, 6, 7, 8] 55 := FI_of (c := Tryz.f9.body.getD .skip) Tryz.func9 (by kernel_rfl) (by rfl) (by rfl) (by kernel_rfl) (by kernel_rfl) rfl rfl rfl
@[simp] theorem cfP9 : cf9.P = Tryz.prog := (rfl)
noncomputable def cf10 : Cfg := ⟨Tryz.prog, 78, [0, 1, 2, 4, 5, 6, 7, 8, 9, 11, 12], [32, 74, 76]⟩
noncomputable def lb10_0 : AC :=
 .seq (.ifr [JA 33 12, JA 34 9, JO 35 (.bin .lss 3 (.t 33) (.t 34)), JC 36 35, JS 37 36 (.mv (.g 1)), JS 38 36 (.len false (.t 37)), JS 39 36 (.bin .gtr 3 (.t 38) (JT 0)), JO 40 (.pick (.t 36) (.t 39) JY)] (.t 40) .skip (.exit 2)) (.seq (.block 3 (.seq (.reg [JA 43 11, JA 44 12, JA 45 1, JA 46 6, JA 47 1, JO 48 (.len false (.t 47)), JO 49 (.bin .rem 3 (.t 46) (.t 48)), JL 50 1 45 49, JD 51 1 50, JO 52 (.cv 5 3 (.t 51)), JG 53 0 2, JD 54 1 53, JA 55 7, JL 56 11 54 55, JH 57 2 56, JD 58 1 57, JO 59 (.pc (.f 33) [.t 58]), JO 60 (.bin .add 3 (.t 59) (JT 1)), JO 61 (.bin .rem 3 (.t 52) (.t 60)), JL 62 1 43 44, JQ (.st 1 (.t 62) (.t 61))]) (.reg [JA 63 6, JO 64 (.bin .add 3 (.t 63) (JT 1)), JB 6 64]))) (.reg [JA 41 12, JO 42 (.bin .add 3 (.t 41) (JT 1)), JB 12 42]))
noncomputable def lb10_1 : AC :=
 .seq (.ifr [JA 13 7, JG 14 0 2, JD 15 1 14, JO 16 (.len false (.t 15)), JO 17 (.bin .lss 3 (.t 13) (.t 16))] (.t 17) .skip (.exit 0)) (.seq (.block 1 (.seq (.reg [JG 20 0 2, JD 21 1 20, JA 22 7, JL 23 11 21 22, JE 24 11 23, JO 25 (.pc (.f 32) [.t 24]), JB 8 25]) (.seq (.reg [JA 27 8, JO 28 (.pc (.f 31) [.t 27]), JC 26 28, JK 29 0 26, JK 30 1 26, JB 9 29, JC 10 30]) (.seq (.reg [JA 31 9, JO 32 (.mks 1 8 [JV] (.t 31)), JB 11 32]) (.seq (.seq (.reg [JI 12 0]) (.block 2 (.loop lb10_0))) (.reg [JA 65 5, JA 66 8, JG 67 0 2, JD 68 1 67, JA 69 7, JL 70 11 68 69, JH 71 2 70, JD 72 1 71, JA 73 11, JO 74 (.cl (.f 34) [.t 66, .t 72, .t 73]), JO 75 (.bsl 4 1 [JW, JV, JV, JW] [(0, 4, .t 74)]), JO 76 (.app 4 64 [JW, JV, JV, JW] (.t 65) (.t 75)), JB 5 76])))))) (.reg [JA 18 7, JO 19 (.bin .add 3 (.t 18) (JT 1)), JB 7 19]))
noncomputable def ac10 : AC :=
 (.seq (.reg [JN 2 0, JP 4 (.mv (.c (.slice none 0 0)))]) (.seq (.reg [JP 5 (.mv (.c (.slice none 0 0)))]) (.seq (.reg [JI 6 0]) (.seq (.seq (.reg [JI 7 0]) (.block 0 (.loop lb10_1))) (.seq (.reg [JA 77 5, JB 4 77]) .ret)))))
theorem fi10 : FI Tryz.prog 10 cf10 ac10 [.t 4] [0, 1, 2, 4, 5, 6, 7, 8, 9, 11, 12] 78 := FI_of (c := Tryz.f10.body.getD .skip) Tryz.func10 (by kernel_rfl) (by rfl) (by rfl) (by kernel_rfl) (by kernel_rfl) rfl rfl rfl
@[simp] theorem cfP10 : cf10.P = Tryz.prog := (rfl)
noncomputable def cf8 : Cfg := ⟨Tryz.prog, 62, [0, 1, 3, 4, 5, 6, 7, 8, 9], [11, 12]⟩
noncomputable def ac8 : AC :=
 (.seq (.reg [JP 0 (.mv JY)]) (.seq (.reg [JO 11 (.bso 1 60 [.int .u8 0] [(0, 1, .c (.int .u8 103)), (1, 1, .c (.int .u8 40)), (2, 1, .c (.int .u8 108)), (3, 1, .c (.int .u8 32)), (4, 1, .c (.int .u8 76)), (5, 1, .c (.int .u8 41)), (6, 1, .c (.int .u8 58)), (7, 1, .c (.int .u8 76)), (8, 1, .c (.int .u8 61)), (9, 1, .c (.int .u8 108)), (10, 1, .c (.int .u8 59)), (11, 1, .c (.int .u8 102)), (12, 1, .c (.int .u8 40)), (13, 1, .c (.int .u8 108)), (14, 1, .c (.int .u8 32)), (15, 1, .c (.int .u8 76)), (16, 1, .c (.int .u8 41)), (17, 1, .c (.int .u8 58)), (18, 1, .c (.int .u8 78)), (19, 1, .c (.int .u8 61)), (20, 1, .c (.int .u8 99)), (21, 1, .c (.int .u8 97)), (22, 1, .c (.int .u8 115)), (23, 1, .c (.int .u8 101)), (24, 1, .c (.int .u8 32)), (25, 1, .c (.int .u8 108)), (26, 1, .c (.int .u8 32)), (27, 1, .c (.int .u8 111)), (28, 1, .c (.int .u8 102)), (29, 1, .c (.int .u8 32)), (30, 1, .c (.int .u8 110)), (31, 1, .c (.int .u8 105)), (32, 1, .c (.int .u8 108)), (33, 1, .c (.int .u8 45)), (34, 1, .c (.int .u8 62)), (35, 1, .c (.int .u8 49)), (36, 1, .c (.int .u8 124)), (37, 1, .c (.int .u8 104)), (38, 1, .c (.int .u8 58)), (39, 1, .c (.int .u8 116)), (40, 1, .c (.int .u8 45)), (41, 1, .c (.int .u8 62)), (42, 1, .c (.int .u8 104)), (43, 1, .c (.int .u8 59)), (44, 1, .c (.int .u8 107)), (45, 1, .c (.int .u8 40)), (46, 1, .c (.int .u8 108)), (47, 1, .c (.int .u8 32)), (48, 1, .c (.int .u8 76)), (49, 1, .c (.int .u8 41)), (50, 1, .c (.int .u8 58)), (51, 1, .c (.int .u8 76)), (52, 1, .c (.int .u8 61)), (53, 1, .c (.int .u8 103)), (54, 1, .c (.int .u8 40)), (55, 1, .c (.int .u8 49)), (56, 1, .c (.int .u8 58)), (57, 1, .c (.int .u8 108)), (58, 1, .c (.int .u8 41)), (59, 1, .c (.int .u8 59))]), JO 12 (.cvo (.t 11)), JO 13 (.pc (.f 9) [.t 12]), JC 10 13, JK 14 0 10, JK 15 1 10, JP 1 (.al [JW]), JQ (.st 1 (.g 1) (.t 14)), JC 2 15]) (.seq (.reg [JF 16 1 1, JO 17 (.bsl 1 12 [.int .u8 0] [(0, 1, .c (.int .u8 0)), (1, 1, .c (.int .u8 1)), (2, 1, .c (.int .u8 2)), (3, 1, .c (.int .u8 3)), (4, 1, .c (.int .u8 0)), (5, 1, .c (.int .u8 0)), (6, 1, .c (.int .u8 0)), (7, 1, .c (.int .u8 0)), (8, 1, .c (.int .u8 0)), (9, 1, .c (.int .u8 1)), (10, 1, .c (.int .u8 2)), (11, 1, .c (.int .u8 3))]), JO 18 (.pc (.f 10) [.t 16, .t 17]), JB 3 18]) (.seq (.reg [JF 20 1 1, JA 21 3, JO 22 (.bsl 1 1 [JV] [(0, 1, .c (.int .i64 2))]), JO 23 (.pc (.f 19) [.t 20, .t 21, .c (.int .i64 1), .t 22]), JC 19 23, JK 24 0 19, JK 25 1 19, JB 4 24, JB 5 25]) (.seq (.reg [JF 27 1 1, JA 28 3, JO 29 (.bsl 1 1 [JV] [(0, 1, .c (.int .i64 2))]), JO 30 (.pc (.f 19) [.t 27, .t 28, .c (.int .i64 2), .t 29]), JC 26 30, JK 31 0 26, JK 32 1 26, JB 6 31, JB 7 32]) (.seq (.reg [JF 34 1 1, JA 35 3, JO 36 (.bsl 1 1 [JV] [(0, 1, .c (.int .i64 0))]), JO 37 (.pc (.f 19) [.t 34, .t 35, .c (.int .i64 1), .t 36]), JC 33 37, JK 38 0 33, JK 39 1 33, JB 8 38, JB 9 39]) (.seq (.reg [JA 40 4, JO 41 (.bin .eql 49 (.t 40) (JT 1)), JC 42 41, JS 43 42 (.mv (.g 5)), JS 44 42 (.bin .eql 52 (.t 43) (JT 0)), JO 45 (.pick (.t 42) (.t 44) JY), JC 46 45, JS 47 46 (.mv (.g 6)), JS 48 46 (.bin .eql 49 (.t 47) (JT 2)), JO 49 (.pick (.t 46) (.t 48) JY), JC 50 49, JS 51 50 (.mv (.g 7)), JS 52 50 (.bin .eql 52 (.t 51) (JT 0)), JO 53 (.pick (.t 50) (.t 52) JY), JC 54 53, JS 55 54 (.mv (.g 8)), JS 56 54 (.bin .eql 49 (.t 55) (JT 0)), JO 57 (.pick (.t 54) (.t 56) JY), JC 58 57, JS 59 58 (.mv (.g 9)), JS 60 58 (.bin .eql 52 (.t 59) (JT 0)), JO 61 (.pick (.t 58) (.t 60) JY), JB 0 61]) .ret)))))))
theorem fi8 : FI Tryz.prog 8 cf8 ac8 [.t 0] [0, 1, 3, 4, 5, 6, 7, 8, 9] 62 := FI_of (c := Tryz.f8.body.getD .skip) Tryz.func8 (by kernel_rfl) (by rfl) (by rfl) (by kernel_rfl) (by kernel_rfl) rfl rfl rfl
@[simp] theorem cfP8 : cf8.P = Tryz.prog := (rfl)
noncomputable def cf5 : Cfg := ⟨Tryz.prog, 113, [0, 1, 2, 3, 8, 9, 10, 11, 12, 13, 14, 15, 16, 17, 18, 19, 20, 21, 22, 23, 24], []⟩
noncomputable def lb5_0 : AC :=
 .seq (.ifr [JA 61 16, JG 62 0 9, JD 63 1 62, JO 64 (.len false (.t 63)), JO 65 (.bin .lss 3 (.t 61) (.t 64))] (.t 65) .skip (.exit 0)) (.seq (.block 1 (.seq (.reg [JF 69 1 9, JA 70 11, JA 71 16, JO 72 (.pc (.f 21) [.t 69, .t 70, .t 71]), JC 68 72, JK 73 0 68, JK 74 1 68, JP 17 (.al [JW, JV, JV, JW]), JQ (.st 4 (.g 17) (.t 73)), JB 18 74]) (.seq (.reg [JF 76 1 9, JA 77 11, JA 78 16, JO 79 (.pc (.f 22) [.t 76, .t 77, .t 78]), JC 75 79, JK 80 0 75, JK 81 1 75, JP 19 (.al [JW, JV, JV, JW]), JQ (.st 4 (.g 19) (.t 80)), JB 20 81]) (.ifr [JF 82 4 17, JF 83 4 19, JO 84 (.pc (.f 23) [.t 82, .t 83]), JO 85 (.un .not (.t 84)), JC 86 85, JR 87 86 (.mv (.g 18)), JR 88 86 (.mv (.g 20)), JR 89 86 (.bin .neq 3 (.t 87) (.t 88)), JO 90 (.pick (.t 86) JX (.t 89))] (.t 90) (.seq (.reg [JP 8 (.mv JY)]) .ret) .skip)))) (.reg [JA 66 16, JO 67 (.bin .add 3 (.t 66) (JT 1)), JB 16 67]))
noncomputable def ac5 : AC :=
 (.seq (.reg [JP 8 (.mv JY)]) (.seq (.ifr [JO 25 (.pc (.f 8) []), JO 26 (.un .not (.t 25))] (.t 26) (.seq (.reg [JP 8 (.mv JY)]) .ret) .skip) (.seq (.reg [JA 28 0, JO 29 (.pc (.f 9) [.t 28]), JC 27 29, JK 30 0 27, JK 31 1 27, JP 9 (.al [JW]), JQ (.st 1 (.g 9) (.t 30)), JB 10 31]) (.seq (.ifr [JA 32 10, JO 33 (.un .not (.t 32))] (.t 33) (.seq (.reg [JP 8 (.mv JX)]) .ret) .skip) (.seq (.reg [JF 34 1 9, JA 35 1, JO 36 (.pc (.f 10) [.t 34, .t 35]), JB 11 36]) (.seq (.reg [JF 38 1 9, JA 39 11, JA 40 2, JA 41 3, JO 42 (.pc (.f 19) [.t 38, .t 39, .t 40, .t 41]), JC 37 42, JK 43 0 37, JK 44 1 37, JB 12 43, JB 13 44]) (.seq (.reg [JF 46 1 9, JA 47 11, JA 48 2, JA 49 3, JO 50 (.pc (.f 20) [.t 46, .t 47, .t 48, .t 49]), JC 45 50, JK 51 0 45, JK 52 1 45, JB 14 51, JB 15 52]) (.seq (.ifr [JA 53 12, JA 54 14, JO 55 (.bin .neq 49 (.t 53) (.t 54)), JC 56 55, JR 57 56 (.mv (.g 13)), JR 58 56 (.mv (.g 15)), JR 59 56 (.bin .neq 3 (.t 57) (.t 58)), JO 60 (.pick (.t 56) JX (.t 59))] (.t 60) (.seq (.reg [JP 8 (.mv JY)]) .ret) .skip) (.seq (.seq (.reg [JI 16 0]) (.block 0 (.loop lb5_0))) (.seq (.reg [JF 92 1 9, JA 93 11, JA 94 2, JO 95 (.pc (.f 21) [.t 92, .t 93, .t 94]), JC 91 95, JK 96 0 91, JK 97 1 91, JP 21 (.al [JW, JV, JV, JW]), JQ (.st 4 (.g 21) (.t 96)), JB 22 97]) (.seq (.reg [JF 99 1 9, JA 100 11, JA 101 2, JO 102 (.pc (.f 22) [.t 99, .t 100, .t 101]), JC 98 102, JK 103 0 98, JK 104 1 98, JP 23 (.al [JW, JV, JV, JW]), JQ (.st 4 (.g 23) (.t 103)), JB 24 104]) (.seq (.reg [JF 105 4 21, JF 106 4 23, JO 107 (.pc (.f 23) [.t 105, .t 106]), JC 108 107, JS 109 108 (.mv (.g 22)), JS 110 108 (.mv (.g 24)), JS 111 108 (.bin .eql 3 (.t 109) (.t 110)), JO 112 (.pick (.t 108) (.t 111) JY), JB 8 112]) .ret))))))))))))
theorem fi5 : FI Tryz.prog 5 cf5 ac5 [.t 8] [0, 1, 2, 3, 8, 9, 10, 11, 12, 13, 14, 15, 16, 17, 18, 19, 20, 21, 22, 23, 24] 113 := FI_of (c := Tryz.f5.body.getD .skip) Tryz.func5 (by kernel_rfl) (by rfl) (by rfl) (by kernel_rfl) (by kernel_rfl) rfl rfl rfl
@[simp] theorem cfP5 : cf5.P = Tryz.prog := (rfl)
set_option maxRecDepth 100000
set_option maxHeartbeats 8000000
def nF (t : List UInt8) (L : List Fn) (w : Int) : Prop := w = 0 ∧ L.length ≤ 40 ∧ t.length ≤ 8192 ∧ ∀ f ∈ L, (bZ (aX f)).2 = 0 ∧ (bZ (aX f)).1 ≤ 256
open Classical in
noncomputable def jI (t : List UInt8) (L : List Fn) (w : Int) : Bool := decide (nF t L w)
theorem yY {t : List UInt8} {L : List Fn} {w p : Int} (h : vW t L w p) : Pure Tryz.prog 9 [.sl (em dC t)] (.tup [.agg [.sl (em aY L)], B (jI t L w)]) := by
 have hno : ¬ nF t L w → jI t L w = false := fun h => by simp [jI, h]
 have hyes : nF t L w → jI t L w = true := fun h => by simp [jI, h]
 obtain ⟨h1, h2, h3⟩ := h
 refine fi9.pu (by simp) ?_
 generalize jI t L w = R at *
 simp -implicitDefEqProofs [ac9]
 refine aG (wide_c) (by simp) ?_
 simp -implicitDefEqProofs
 refine aG (h1) (by simp) ?_
 simp -implicitDefEqProofs
 by_cases hw : w = 0
 ·have hk := h2 hw
  by_cases hl : L.length ≤ 40
  ·have hli : (L.length : Int) ≤ (40 : Int) := by omega
   by_cases ht : t.length ≤ 8192
   ·have hti : (t.length : Int) ≤ (8192 : Int) := by omega
    simp -implicitDefEqProofs [hw, hli, hti, Int.not_lt.2 hli, Int.not_lt.2 hti]
    refine lpG cf9 lb9_0 [3, 6, 7, 8] (α := Nat) (fun s _ => [(3, .top), (6, I s)]) (fun s _ => [(9, .box [I 0, I p]), (8, .box [.sl (em aY L)]), (0, .box [.pl (.slice none 0 0)])]) (fun s k => s ≤ L.length ∧ ∀ j (h : j < L.length), j < s → (bZ (aX L[j])).2 = 0 ∧ (bZ (aX L[j])).1 ≤ 256) (fun s => L.length - s) 0 ⟨by omega, fun j _ h => absurd h (by omega)⟩ (by simp) (aK _) ?_
    rintro i k ⟨hi, hall⟩
    by_cases hlt : i < L.length
    ·have hlti : (i : Int) < (L.length : Int) := by omega
     have w1 := aQ (x := (i : Int) + 1) (by omega) (by omega)
     obtain ⟨f, hf⟩ : ∃ x, L[i] = x := ⟨_, rfl⟩
     have hfm : f ∈ L := by rw [← hf]; exact List.getElem_mem hlt
     have hs := i_ hk
     simp -implicitDefEqProofs [lb9_0, hlt, hlti, hf]
     refine aG (vY hk hfm) (by simp) ?_
     simp -implicitDefEqProofs
     refine aG (iN (aX f) (by have := (hs.2 f hfm).2; simp; omega)) (by simp) ?_
     by_cases h1 : (bZ (aX f)).2 = 0
     ·by_cases h2 : (bZ (aX f)).1 ≤ 256
      ·simp -implicitDefEqProofs [h1, h2, w1, Int.not_lt.2 h2]
       refine aI (i + 1) ⟨hlt, fun j h hj => ?_⟩ (by omega) (by simp) (aK _)
       by_cases e : j = i
       ·subst e; rw [hf]; exact ⟨h1, h2⟩
       ·exact hall j h (by omega)
      ·rw [hno (fun g => h2 (g.2.2.2 f hfm).2)]
       simp -implicitDefEqProofs [h1, h2, Int.not_le.1 h2]
     ·rw [hno (fun g => h1 (g.2.2.2 f hfm).1)]
      simp -implicitDefEqProofs [h1]
    ·have hil : i = L.length := by omega
     subst hil
     rw [hyes ⟨hw, hl, ht, fun f hf => by
      obtain ⟨j, hj, rfl⟩ := List.mem_iff_getElem.1 hf
      exact hall j hj hj⟩]
     simp -implicitDefEqProofs [lb9_0]
   ·have hti : ¬ (t.length : Int) ≤ (8192 : Int) := by omega
    rw [hno (fun g => ht g.2.2.1)]
    simp -implicitDefEqProofs [hw, hli, hti, Int.not_lt.2 hli, Int.not_le.1 hti]
  ·have hli : ¬ (L.length : Int) ≤ (40 : Int) := by omega
   rw [hno (fun g => hl g.2.1)]
   simp -implicitDefEqProofs [hw, hli, Int.not_le.1 hli]
 ·rw [hno (fun g => hw g.1)]
  simp -implicitDefEqProofs [hw]
def fS (s : List UInt8) (t : Int) (k : Nat) : Int := if s = [] then 0 else ((s[k % s.length]?.getD 0).toNat : Int) % (tp t + 1)
def oJ (f : Fn) (s : List UInt8) (k : Nat) : Tt := ⟨aX f, f.type, pr (aX f), cK ((List.range (pr (aX f)).toNat).map fun j => fS s f.type (k + j))⟩
def dB : List Fn → List UInt8 → Nat → List Tt
 | [], _, _ => []
 | f :: fs, s, k => oJ f s k :: dB fs s (k + (pr (aX f)).toNat)
def qJ (P : List Fn) : Prop := P.length ≤ 40 ∧ ∀ f ∈ P, (bZ (aX f)).2 = 0 ∧ (bZ (aX f)).1 ≤ 256
theorem wD {s : List UInt8} {t : Int} (ht : a_ t) (k : Nat) : 0 ≤ fS s t k ∧ fS s t k ≤ tp t := by
 have := mS ht
 unfold fS
 split
 ·omega
 ·have h1 := Int.emod_nonneg ((s[k % s.length]?.getD 0).toNat : Int) (by omega : tp t + 1 ≠ 0)
  have h2 := Int.emod_lt_of_pos ((s[k % s.length]?.getD 0).toNat : Int) (by omega : 0 < tp t + 1)
  omega
theorem EV (t : Int) : tp t ≤ 3 := by have := fY t; omega
theorem F0 (l : List Tt) (x : Tt) : em eO l ++ [[.sl (em aU x.ps), I x.t, I x.n, .sl (em eR x.l)]] = em eO (l ++ [x]) := dX (enc := eO) (x := x)
theorem IG {P : List Fn} (hk : cI P) (hs : qJ P) (s : List UInt8) (hsl : s.length < 2 ^ 48) {mem : Mem} {nx : Nat} {K : KD} (hy : ∀ id ver nx', nx ≤ id → id < nx' → K (.osl id ver 0 P.length) ((id, .arr ver 4 (em eO (dB P s 0))) :: mem) nx') : bG Tryz.prog 10 [.agg [.sl (em aY P)], .sl (em dC s)] mem nx K := by
 obtain ⟨hPT, hPl, hsz⟩ := f_ hk
 obtain ⟨hPs, hfs⟩ := i_ hk
 refine fi10.ct (by simp) fun hfr => ?_
 simp -implicitDefEqProofs [ac10]
 generalize hR : dB P s 0 = R at hy
 obtain ⟨q0, hq0⟩ : ∃ q, nx + 5 = q := ⟨_, rfl⟩
 have hm0 : look mem q0 = none := hfr q0 (by omega)
 rw [hq0]
 refine cS (j := 5) (k := 4) rfl (.inl rfl) ?_
 refine lpG cf10 lb10_1 [5, 6, 7, 8, 9, 11, 12] (α := Nat × Nat × Nat × List Tt) (fun z _ => [(5, .osl q0 z.2.1 0 z.2.2.2.length), (6, I (if s = [] then 0 else (z.2.2.1 : Int))), (7, I z.1)]) (fun z _ => (q0, .arr z.2.1 4 (em eO z.2.2.2)) :: mem) (fun z k => q0 < k ∧ z.1 ≤ P.length ∧ z.2.2.2.length = z.1 ∧ z.2.2.1 ≤ z.1 * 256 ∧ z.2.2.2 ++ dB (P.drop z.1) s z.2.2.1 = R) (fun z => P.length - z.1) (0, 0, 0, []) ⟨by omega, by omega, rfl, by simp, hR⟩ (by simp [upd]) (by simp) ?_
 rintro ⟨i, v, pos, acc⟩ k ⟨hk1, hi, hal, hpos, hr⟩
 simp only at hi hal hpos hr hk1
 by_cases hlt : i < P.length
 ·have hlti : (i : Int) < (P.length : Int) := by omega
  have w1 := aQ (x := (i : Int) + 1) (by omega) (by omega)
  rw [List.drop_eq_getElem_cons hlt] at hr
  obtain ⟨f, hf⟩ : ∃ x, P[i] = x := ⟨_, rfl⟩
  have hfm : f ∈ P := by rw [← hf]; exact List.getElem_mem hlt
  rw [hf] at hr
  unfold dB at hr
  obtain ⟨hc1, hc2⟩ := hs.2 f hfm
  obtain ⟨ho, hp96, hp1⟩ := dP hc1
  have hprp := gU ho
  have hpl := (hfs f hfm).2
  obtain ⟨n, hn⟩ : ∃ n : Nat, pr (aX f) = n := ⟨(pr (aX f)).toNat, by omega⟩
  simp -implicitDefEqProofs [lb10_1, hlt, hlti, hf]
  refine aG (vY hk hfm) (by simp) ?_
  simp -implicitDefEqProofs
  refine aG (iN (aX f) (by simp; omega)) (by simp) ?_
  have hb : (n : Int) * 8 ≤ 140737488355328 := by omega
  simp -implicitDefEqProofs [hp1, hn, hb]
  obtain ⟨q, hq⟩ : ∃ q, k + 5 + 7 + 7 + 1 = q := ⟨_, rfl⟩
  rw [hq]
  have hty := (hPT f hfm).1
  have htp := mS hty
  have ht3 := EV f.type
  have hqm : look mem q = none := hfr q (by omega)
  have hz1 : (q = q0) = False := eq_false (by omega)
  have hz2 : (q0 = q) = False := eq_false (by omega)
  refine lpG cf10 lb10_0 [6, 12] (α := Nat) (fun j _ => [(6, I (if s = [] then 0 else ((pos + j : Nat) : Int))), (12, I j)]) (fun j _ => (q, .arr 0 1 (em aU ((List.range j).map (fun j => fS s f.type (pos + j)) ++ List.replicate (n - j) 0))) :: (q0, .arr v 4 (em eO acc)) :: mem) (fun j k => q < k ∧ j ≤ n ∧ (s = [] → j = 0)) (fun j => n - j) 0 ⟨by omega, by omega, fun _ => rfl⟩ (by simp) (by simp) ?_
  rintro j k2 ⟨hk2, hj, hj0⟩
  by_cases hs0 : s = []
  ·have := hj0 hs0
   subst this
   subst hs0
   have hn0 : 0 < n := by omega
   have hmap : (List.range n).map (fun j => fS [] f.type (pos + j)) = List.replicate n 0 := by
    rw [List.eq_replicate_iff]
    exact ⟨by simp, fun b hb => by
     obtain ⟨j, _, rfl⟩ := List.mem_map.1 hb
     rfl⟩
   simp -implicitDefEqProofs [lb10_0, hn0, hlt, hlti, hf]
   have hcs : ∀ c ∈ (List.range n).map (fun j => fS [] f.type (pos + j)), jH c := fun c hc => by
    obtain ⟨j, _, rfl⟩ := List.mem_map.1 hc
    have := wD (s := []) hty (pos + j)
    exact ⟨this.1, by omega⟩
   have hcl : ((List.range n).map (fun j => fS [] f.type (pos + j))).length = n := by simp
   have htab : oJ f [] pos = ⟨aX f, f.type, n, cK ((List.range n).map (fun j => fS [] f.type (pos + j)))⟩ := by unfold oJ; rw [hn]; rfl
   have hOf := AF (aX f) f.type _ hcs (by rw [hcl]; omega) (by simp; omega)
   rw [hcl] at hOf
   have hb64 : (acc.length + 1) * 64 ≤ 3 * 2 ^ 46 := by omega
   have hsn := F0 acc (oJ f [] pos)
   rw [htab] at hsn hr
   simp only at hsn
   rw [← hmap]
   generalize (List.range n).map (fun j => fS [] f.type (pos + j)) = cs at *
   refine aD (wU (mf := [(q, .arr 0 1 (em aU cs))]) (mk := (q0, .arr v 4 (em eO acc)) :: mem) (lR (kL _)) (aF (aE _) (by rw [bF, if_neg (by omega)]; exact hqm)) (fun j => by
    by_cases e : q = j
    ·subst e; right; rw [bF, if_neg (by omega)]; exact hqm
    ·left; rw [bF, if_neg e]; rfl) (args' := [.sl (em aU (aX f)), I f.type, .sl (em aU cs)]) (by simp [List.take_of_length_le, hcl]) hOf ?_)
   simp -implicitDefEqProofs [hb64, hsn, w1]
   exact aI (i + 1, v + 1, pos + n, acc ++ [⟨aX f, f.type, n, cK cs⟩]) ⟨by omega, hlt, by simp [hal], by simp only; omega, by rw [List.append_assoc]; rw [hn] at hr; exact hr⟩ (by simp only; omega) (by simp) (aK _)
  ·have hsl0 : 0 < s.length := by cases s with
    | nil => exact absurd rfl hs0
    | cons a b => simp
   have hsli : 0 < (s.length : Int) := by omega
   by_cases hjn : j < n
   ·have hjni : (j : Int) < (n : Int) := by omega
    have w2 := aQ (x := (j : Int) + 1) (by omega) (by omega)
    have hPl := hs.1
    have w3 := aQ (x := (pos : Int) + (j : Int) + 1) (by omega) (by omega)
    obtain ⟨m, hm⟩ : ∃ m, (pos + j) % s.length = m := ⟨_, rfl⟩
    have hml : m < s.length := by rw [← hm]; exact Nat.mod_lt _ hsl0
    have hmli : (m : Int) < (s.length : Int) := by omega
    have e1 : ((pos : Int) + (j : Int)).tmod (s.length : Int) = (m : Int) := by rw [Int.tmod_eq_emod_of_nonneg (by omega), ← hm]; rfl
    have hsn : ¬ (s.length : Int) = 0 := by omega
    obtain ⟨b, hbb⟩ : ∃ b, s[m] = b := ⟨_, rfl⟩
    have hcel : fS s f.type (pos + j) = (b.toNat : Int) % (tp f.type + 1) := by
     unfold fS
     rw [if_neg hs0, hm, List.getElem?_eq_getElem hml, hbb]; rfl
    have e2 : (b.toNat : Int).tmod (tp f.type + 1) = (b.toNat : Int) % (tp f.type + 1) := Int.tmod_eq_emod_of_nonneg (by omega)
    have htn : ¬ tp f.type + 1 = 0 := by omega
    have w4 := aQ (x := tp f.type + 1) (by omega) (by omega)
    have hbl := b.toNat_lt
    have w5 := aQ (x := (b.toNat : Int)) (by omega) (by omega)
    have hlen : ((List.range j).map (fun j => fS s f.type (pos + j)) ++ List.replicate (n - j) 0).length = n := by simp; omega
    have hset : ((List.range j).map (fun j => fS s f.type (pos + j)) ++ List.replicate (n - j) 0).set j ((b.toNat : Int) % (tp f.type + 1)) = (List.range (j + 1)).map (fun j => fS s f.type (pos + j)) ++ List.replicate (n - (j + 1)) 0 := by
     rw [List.set_append_right _ _ (by simp), List.range_succ, List.map_append, ← hcel, show n - j = (n - (j + 1)) + 1 by omega, List.replicate_succ]
     simp
    generalize (List.range j).map (fun j => fS s f.type (pos + j)) ++ List.replicate (n - j) 0 = old at *
    simp -implicitDefEqProofs [lb10_0, hs0, hsl0, hsli, hjni, e1, hsn, hml, hmli, hbb, hlti, hlt, hf]
    refine aG (iS f.type) (by simp) ?_
    have hb8 : bt8 s m = (b.toNat : Int) := by unfold bt8; rw [List.getElem?_eq_getElem hml, hbb]; rfl
    simp -implicitDefEqProofs [w2, w3, w4, w5, e2, htn, hlen, hjn, hb8]
    rw [hset]
    exact aI (j + 1) ⟨by omega, hjn⟩ (by omega) (by simp [hs0, Int.add_assoc]) (aK _)
   ·have hjn2 : n = j := by omega
    subst hjn2
    simp -implicitDefEqProofs [lb10_0, hs0, hlt, hlti, hf]
    have hcs : ∀ c ∈ (List.range n).map (fun j => fS s f.type (pos + j)), jH c := fun c hc => by
     obtain ⟨j, _, rfl⟩ := List.mem_map.1 hc
     have := wD (s := s) hty (pos + j)
     exact ⟨this.1, by omega⟩
    have hcl : ((List.range n).map (fun j => fS s f.type (pos + j))).length = n := by simp
    have htab : oJ f s pos = ⟨aX f, f.type, n, cK ((List.range n).map (fun j => fS s f.type (pos + j)))⟩ := by unfold oJ; rw [hn]; rfl
    have hOf := AF (aX f) f.type _ hcs (by rw [hcl]; omega) (by simp; omega)
    rw [hcl] at hOf
    have hb64 : (acc.length + 1) * 64 ≤ 3 * 2 ^ 46 := by omega
    have hsn := F0 acc (oJ f s pos)
    rw [htab] at hsn hr
    simp only at hsn
    generalize (List.range n).map (fun j => fS s f.type (pos + j)) = cs at *
    refine aD (wU (mf := [(q, .arr 0 1 (em aU cs))]) (mk := (q0, .arr v 4 (em eO acc)) :: mem) (lR (kL _)) (aF (aE _) (by rw [bF, if_neg (by omega)]; exact hqm)) (fun j => by
     by_cases e : q = j
     ·subst e; right; rw [bF, if_neg (by omega)]; exact hqm
     ·left; rw [bF, if_neg e]; rfl) (args' := [.sl (em aU (aX f)), I f.type, .sl (em aU cs)]) (by simp [List.take_of_length_le, hcl]) hOf ?_)
    simp -implicitDefEqProofs [hb64, hsn, w1]
    exact aI (i + 1, v + 1, pos + n, acc ++ [⟨aX f, f.type, n, cK cs⟩]) ⟨by omega, hlt, by simp [hal], by simp only; omega, by rw [List.append_assoc]; rw [hn] at hr; exact hr⟩ (by simp only; omega) (by simp) (aK _)
 ·have hil : i = P.length := by omega
  subst hil
  rw [List.drop_length] at hr
  unfold dB at hr
  rw [List.append_nil] at hr
  subst hr
  simp -implicitDefEqProofs [lb10_1]
  rw [hal]
  exact ⟨_, aE _, hy q0 v _ (by omega) (by omega)⟩
theorem AE {P : List Fn} (hk : cI P) (hs : qJ P) (s : List UInt8) (hsl : s.length < 2 ^ 48) : Pure Tryz.prog 10 [.agg [.sl (em aY P)], .sl (em dC s)] (.sl (em eO (dB P s 0))) := by
 refine gY (by simp) (IG hk hs s hsl fun id ver nx' _ _ => ?_)
 have hl : (dB P s 0).length = P.length := by
  have : ∀ (P : List Fn) (k : Nat), (dB P s k).length = P.length := by
   intro P
   induction P with
   | nil => intro k; rfl
   | cons f fs ih => intro k; simp [dB, ih]
  exact this P 0
 simp [look, ← hl]
theorem AW (cs : List Int) (h4 : ∀ c ∈ cs, jH c) (hl : cs.length ≤ 4096) : ∃ l, fD l ∧ cN cs.length l ∧ cl cs.length l = cs := by
 have key : ∀ k, k ≤ cs.length → ∃ l, fD l ∧ cN cs.length l ∧ ∀ j, j < cs.length → bH l j = if j < k then cs[j]?.getD 0 else 0 := by
  intro k
  induction k with
  | zero => exact fun _ => ⟨List.replicate (((cs.length : Int) + 31) / 32).toNat 0, ET _, xQ (by omega) (by omega), fun j hj => by rw [yD, if_neg (by omega)]⟩
  | succ k ih =>
   intro hk
   obtain ⟨l, hw, hg, hc⟩ := ih (by omega)
   have hkl : k < cs.length := by omega
   have hv := h4 _ (List.getElem_mem hkl)
   have hln : cs.length ≤ 32 * l.length := by have := nN hg; simpa using this
   unfold jH at hv
   refine ⟨lE l k cs[k], AQ hw, by simpa using xZ hw hg hv.1 (by omega) (by simpa using hkl), fun j hj => ?_⟩
   rw [rR hw hv.1 (by omega) (by omega) (by omega), hc j hj]
   by_cases e : j = k
   ·subst e
    rw [if_pos rfl, if_pos (by omega), List.getElem?_eq_getElem hkl]; rfl
   ·rw [if_neg e]
    by_cases e2 : j < k
    ·rw [if_pos e2, if_pos (by omega)]
    ·rw [if_neg e2, if_neg (by omega)]
 obtain ⟨l, hw, hg, hc⟩ := key _ (Nat.le_refl _)
 refine ⟨l, hw, hg, (F5 (by simp) fun i hi => ?_).symm⟩
 have hi2 : i < cs.length := by simpa using hi
 rw [hc i hi2, if_pos hi2]
theorem LK {cs : List Int} (h4 : ∀ c ∈ cs, jH c) (hl : cs.length ≤ 4096) : fD (cK cs) ∧ cN cs.length (cK cs) ∧ cl cs.length (cK cs) = cs := by
 obtain ⟨l, hw, hg, hc⟩ := AW cs h4 hl
 have h := BT hg hw
 rw [hc] at h
 rw [h]
 exact ⟨hw, hg, hc⟩
theorem tab_ok {f : Fn} {cs : List Int} (hty : a_ f.type) (hc : (bZ (aX f)).2 = 0) (hl : (cs.length : Int) = pr (aX f)) (hin : ∀ c ∈ cs, 0 ≤ c ∧ c ≤ tp f.type) : fitT f ⟨aX f, f.type, pr (aX f), cK cs⟩ ∧ fD (cK cs) ∧ cl (pr (aX f)) (cK cs) = cs := by
 obtain ⟨ho, hp96, hp1⟩ := dP hc
 have htp := mS hty
 have ht3 := EV f.type
 obtain ⟨h1, h2, h3⟩ := LK (cs := cs) (fun c hm => by have := hin c hm; exact ⟨this.1, by omega⟩) (by omega)
 rw [hl] at h2 h3
 refine ⟨⟨⟨hc, (by show 0 ≤ tp f.type; omega), rfl, h2, fun i hi => ?_⟩, rfl, rfl⟩, h1, h3⟩
 have hi2 : i < cs.length := by simp only at hi; omega
 have := CB (l := cK cs) hi
 simp only at this ⊢
 rw [h3] at this
 rw [← this, List.getElem?_eq_getElem hi2]
 exact (hin _ (List.getElem_mem hi2)).2
theorem KQ {f : Fn} (s : List UInt8) (k : Nat) (hty : a_ f.type) (hc : (bZ (aX f)).2 = 0) : fitT f (oJ f s k) ∧ fD (oJ f s k).l := by
 obtain ⟨ho, hp96, hp1⟩ := dP hc
 have hpos := gU ho
 have h := tab_ok (cs := (List.range (pr (aX f)).toNat).map fun j => fS s f.type (k + j)) hty hc (by simp; omega) (fun c hm => by
  obtain ⟨j, _, rfl⟩ := List.mem_map.1 hm
  exact wD hty _)
 exact ⟨h.1, h.2.1⟩
theorem nL : ∀ (P : List Fn) (s : List UInt8) (k : Nat), (dB P s k).length = P.length
 | [], _, _ => rfl
 | f :: fs, s, k => by simp [dB, nL fs]
theorem zJ : ∀ (P : List Fn) (s : List UInt8) (k i : Nat), (h : i < P.length) → ∃ k', (dB P s k)[i]?.getD default = oJ (P[i]?.getD default) s k'
 | [], _, _, i, h => by simp at h
 | f :: fs, s, k, 0, _ => ⟨k, rfl⟩
 | f :: fs, s, k, i + 1, h => by
  obtain ⟨k', e⟩ := zJ fs s (k + (pr (aX f)).toNat) i (by simpa using h)
  exact ⟨k', by simpa [dB] using e⟩
theorem yX {P : List Fn} (hk : cI P) (hs : qJ P) (s : List UInt8) : ∀ i, i < P.length → fitT (P[i]?.getD default) ((dB P s 0)[i]?.getD default) ∧ fD ((dB P s 0)[i]?.getD default).l := by
 intro i hi
 obtain ⟨k', e⟩ := zJ P s 0 i hi
 have hm := List.getElem_mem hi
 rw [e, List.getElem?_eq_getElem hi]
 exact KQ s k' ((f_ hk).1 _ hm).1 (hs.2 _ hm).1
theorem BS {P : List Fn} (hk : cI P) (hs : qJ P) (s : List UInt8) : TW (dB P s 0) := by
 intro x hx
 obtain ⟨i, hi, rfl⟩ := List.mem_iff_getElem.1 hx
 have hi2 : i < P.length := by rw [nL] at hi; exact hi
 obtain ⟨h1, h2⟩ := yX hk hs s i hi2
 rw [List.getElem?_eq_getElem hi, List.getElem?_eq_getElem hi2] at h1
 rw [List.getElem?_eq_getElem hi] at h2
 refine ⟨h2, ?_⟩
 have h3 := h1.2.2
 simp only [Option.getD_some] at h3
 rw [h3]
 have := ((i_ hk).2 _ (List.getElem_mem hi2)).2
 simp; omega
theorem HS {P : List Fn} (hk : cI P) (hs : qJ P) (s : List UInt8) (h0 : (gX P).1 = 0) : SeeOk P (dB P s 0) :=
 ⟨h0, nL P s 0, fun i hi => (yX hk hs s i hi).1⟩
def t17 : List UInt8 := [103, 40, 108, 32, 76, 41, 58, 76, 61, 108, 59, 102, 40, 108, 32, 76, 41, 58, 78, 61, 99, 97, 115, 101, 32, 108, 32, 111, 102, 32, 110, 105, 108, 45, 62, 49, 124, 104, 58, 116, 45, 62, 104, 59, 107, 40, 108, 32, 76, 41, 58, 76, 61, 103, 40, 49, 58, 108, 41, 59]
def s17 : List UInt8 := [0, 1, 2, 3, 0, 0, 0, 0, 0, 1, 2, 3]
def m17 : List Mk := [⟨0, [103], ⟨0, 0⟩, 0⟩,
 ⟨3, [40], ⟨0, 0⟩, 1⟩,
 ⟨0, [108], ⟨0, 0⟩, 2⟩,
 ⟨1, [76], ⟨0, 0⟩, 4⟩,
 ⟨3, [41], ⟨0, 0⟩, 5⟩,
 ⟨3, [58], ⟨0, 0⟩, 6⟩,
 ⟨1, [76], ⟨0, 0⟩, 7⟩,
 ⟨3, [61], ⟨0, 0⟩, 8⟩,
 ⟨0, [108], ⟨0, 0⟩, 9⟩,
 ⟨3, [59], ⟨0, 0⟩, 10⟩,
 ⟨0, [102], ⟨0, 0⟩, 11⟩,
 ⟨3, [40], ⟨0, 0⟩, 12⟩,
 ⟨0, [108], ⟨0, 0⟩, 13⟩,
 ⟨1, [76], ⟨0, 0⟩, 15⟩,
 ⟨3, [41], ⟨0, 0⟩, 16⟩,
 ⟨3, [58], ⟨0, 0⟩, 17⟩,
 ⟨1, [78], ⟨0, 0⟩, 18⟩,
 ⟨3, [61], ⟨0, 0⟩, 19⟩,
 ⟨1, [99, 97, 115, 101], ⟨0, 0⟩, 20⟩,
 ⟨0, [108], ⟨0, 0⟩, 25⟩,
 ⟨1, [111, 102], ⟨0, 0⟩, 27⟩,
 ⟨1, [110, 105, 108], ⟨0, 0⟩, 30⟩,
 ⟨3, [45, 62], ⟨0, 0⟩, 33⟩,
 ⟨2, [49], ⟨4607182418800017408, 0⟩, 35⟩,
 ⟨3, [124], ⟨0, 0⟩, 36⟩,
 ⟨0, [104], ⟨0, 0⟩, 37⟩,
 ⟨3, [58], ⟨0, 0⟩, 38⟩,
 ⟨0, [116], ⟨0, 0⟩, 39⟩,
 ⟨3, [45, 62], ⟨0, 0⟩, 40⟩,
 ⟨0, [104], ⟨0, 0⟩, 42⟩,
 ⟨3, [59], ⟨0, 0⟩, 43⟩,
 ⟨0, [107], ⟨0, 0⟩, 44⟩,
 ⟨3, [40], ⟨0, 0⟩, 45⟩,
 ⟨0, [108], ⟨0, 0⟩, 46⟩,
 ⟨1, [76], ⟨0, 0⟩, 48⟩,
 ⟨3, [41], ⟨0, 0⟩, 49⟩,
 ⟨3, [58], ⟨0, 0⟩, 50⟩,
 ⟨1, [76], ⟨0, 0⟩, 51⟩,
 ⟨3, [61], ⟨0, 0⟩, 52⟩,
 ⟨0, [103], ⟨0, 0⟩, 53⟩,
 ⟨3, [40], ⟨0, 0⟩, 54⟩,
 ⟨2, [49], ⟨4607182418800017408, 0⟩, 55⟩,
 ⟨3, [58], ⟨0, 0⟩, 56⟩,
 ⟨0, [108], ⟨0, 0⟩, 57⟩,
 ⟨3, [41], ⟨0, 0⟩, 58⟩,
 ⟨3, [59], ⟨0, 0⟩, 59⟩,
 ⟨4, [], ⟨0, 0⟩, 60⟩]
theorem FU : dF t17 = (m17, (dF t17).2) := by rfl
def oZ (k : Nat) (nest : Int) : Rd := ⟨m17, k, 0, 0, 32768, 32768, 32768, 32768, nest⟩
def g17 : Fn := ⟨[103], [⟨[108], 3, 2⟩], 3, (.mk 6 [108] [] 0 ⟨0, 0⟩ [] 9), 0⟩
def f17 : Fn := ⟨[102], [⟨[108], 3, 13⟩], 1, (.mk 20 [104] [116] 0 ⟨0, 0⟩ [(.mk 6 [108] [] 0 ⟨0, 0⟩ [] 25), (.mk 1 [] [] 0 ⟨4607182418800017408, 0⟩ [] 35), (.mk 6 [104] [] 0 ⟨0, 0⟩ [] 42)] 20), 11⟩
def k17 : Fn := ⟨[107], [⟨[108], 3, 46⟩], 3, (.mk 7 [103] [] 0 ⟨0, 0⟩ [(.mk 18 [] [] 0 ⟨0, 0⟩ [(.mk 1 [] [] 0 ⟨4607182418800017408, 0⟩ [] 55), (.mk 6 [108] [] 0 ⟨0, 0⟩ [] 57)] 56)] 53), 44⟩
def L17 : List Fn := [g17, f17, k17]
theorem d17a : j5 42 (oZ 0 0) 0 = some (g17, oZ 10 0) := by rfl
theorem d17b : j5 41 (oZ 10 0) 1 = some (f17, oZ 31 0) := by rfl
theorem d17c : j5 40 (oZ 31 0) 2 = some (k17, oZ 46 0) := by rfl
theorem qE {n : Nat} {l : List Fn} {r q : Rd} {f : Fn} (h : j5 n r l.length = some (f, q)) (h1 : r.why = 0) (h2 : l = [] ∨ r.next.kind ≠ 4) : eH (n + 1) l r = eH n (l ++ [f]) q := by
 conv => lhs; unfold eH
 rw [if_pos ⟨h1, h2⟩, h, Option.bind_some]
theorem FP {n : Nat} {l : List Fn} {r : Rd} (h1 : l ≠ []) (h2 : r.next.kind = 4) : eH (n + 1) l r = some (l, r) := by
 unfold eH
 rw [if_neg (fun h => h.2.elim h1 (fun h => h h2))]
theorem pp17 : eH 43 [] (oZ 0 0) = some (L17, oZ 46 0) := by
 rw [qE (n := 42) d17a rfl (.inl rfl), qE (n := 41) d17b rfl (.inr (by decide)), qE (n := 40) d17c rfl (.inr (by decide)), FP (n := 39) (by simp) (by decide)]
 rfl
theorem rd017 : rd0 t17 32768 32768 32768 32768 = oZ 0 0 := by unfold rd0 oZ; rw [FU]
theorem D3 : vW t17 L17 0 0 := MS t17 (by decide) (by decide) (n := 43) (by decide) (by rw [rd017]; exact pp17) (by decide) (by rw [FU]; decide)
theorem ty17 : gX L17 = (0, 0) := by decide
theorem nV : qJ L17 := ⟨by decide, by decide⟩
theorem A3 : (cW (aX f17) [2]).2 = 0 ∧ (cW (aX k17) [2]).2 = 0 ∧ (cW (aX f17) [0]).2 = 0 := by decide
theorem yZ : bS f17.body ≤ 6 ∧ bS k17.body ≤ 6 := by decide
theorem pt17a : cB L17 (dB L17 s17 0) f17 [2] = 1 := by decide
theorem pt17b : cB L17 (dB L17 s17 0) k17 [2] = 2 := by decide
theorem pt17c : cB L17 (dB L17 s17 0) f17 [0] = 0 := by decide
theorem lit17 : em dC t17 = [[By 103], [By 40], [By 108], [By 32], [By 76], [By 41], [By 58], [By 76], [By 61], [By 108], [By 59], [By 102], [By 40], [By 108], [By 32], [By 76], [By 41], [By 58], [By 78], [By 61], [By 99], [By 97], [By 115], [By 101], [By 32], [By 108], [By 32], [By 111], [By 102], [By 32], [By 110], [By 105], [By 108], [By 45], [By 62], [By 49], [By 124], [By 104], [By 58], [By 116], [By 45], [By 62], [By 104], [By 59], [By 107], [By 40], [By 108], [By 32], [By 76], [By 41], [By 58], [By 76], [By 61], [By 103], [By 40], [By 49], [By 58], [By 108], [By 41], [By 59]] := rfl
theorem lits17 : em dC s17 = [[By 0], [By 1], [By 2], [By 3], [By 0], [By 0], [By 0], [By 0], [By 0], [By 1], [By 2], [By 3]] := rfl
theorem IX {t : List UInt8} {L : List Fn} {w : Int} (h : nF t L w) : qJ L := ⟨h.2.1, h.2.2.2⟩
theorem t8 {P : List Fn} {T : List Tt} {i : Int} {tu : List Int} {f : Fn} {v : Int} (hok : SeeOk P T) (h0 : 0 ≤ i) (h1 : i < P.length) (hf : dL P i = f) (hn : (cW (aX f) tu).2 = 0) (h6 : bS f.body ≤ 6) (hv : cB P T f tu = v) : eF P T i tu = (v, 0) := by
 unfold eF
 rw [if_pos hok, if_neg (by omega), hf, if_neg (by simpa using hn), if_neg (by omega), hv]
theorem w_ : Pure Tryz.prog 8 [] (B true) := by
 have hk : cI L17 := D3.2.1 rfl
 have hr := yY D3
 have hs : nF t17 L17 0 := ⟨rfl, nV.1, by decide, nV.2⟩
 rw [show jI t17 L17 0 = true by simp [jI, hs]] at hr
 have ht := AE hk nV s17 (by decide)
 have hok := HS hk nV s17 (by rw [ty17])
 have htw := BS hk nV s17
 have htl : (dB L17 s17 0).length < 2 ^ 44 := by rw [nL]; decide
 have hb : ∀ (i : Int) (tu : List Int), tu.length < 2 ^ 48 → _ := fun i tu h => zP hk htl htw i tu h
 have b1 := hb 1 [2] (by decide)
 have b2 := hb 2 [2] (by decide)
 have b3 := hb 1 [0] (by decide)
 rw [t8 (f := f17) hok (by decide) (by decide) rfl A3.1 yZ.1 pt17a] at b1
 rw [t8 (f := k17) hok (by decide) (by decide) rfl A3.2.1 yZ.2 pt17b] at b2
 rw [t8 (f := f17) hok (by decide) (by decide) rfl A3.2.2 yZ.1 pt17c] at b3
 have e1 : em aU [2] = [[I 2]] := rfl
 have e0 : em aU [0] = [[I 0]] := rfl
 rw [e1] at b1 b2
 rw [e0] at b3
 rw [lits17] at ht
 rw [lit17] at hr
 generalize dB L17 s17 0 = T at *
 generalize L17 = L at *
 refine fi8.pu (by simp) ?_
 simp -implicitDefEqProofs [ac8]
 refine aG hr (by simp) ?_
 simp -implicitDefEqProofs
 refine aG ht (by simp) ?_
 simp -implicitDefEqProofs
 refine aG (b1) (by simp) ?_
 simp -implicitDefEqProofs
 refine aG (b2) (by simp) ?_
 simp -implicitDefEqProofs
 refine aG (b3) (by simp) ?_
 simp -implicitDefEqProofs
set_option maxHeartbeats 4000000
theorem wt_ty {n : Nat} {ds : List D} (h : Wt Tryz.prog n 25 ds) : ∃ z, ds = aU z ∧ True := by
 cases n with
 | zero => exact h.elim
 | succ n =>
  simp only [Wt, Tryz.underlying25] at h
  obtain ⟨z, rfl, _⟩ := h
  exact ⟨z, rfl, trivial⟩
theorem wt_pt {n : Nat} {ds : List D} (h : Wt Tryz.prog n 49 ds) : ∃ z, ds = aU z ∧ True := by
 cases n with
 | zero => exact h.elim
 | succ n =>
  simp only [Wt, Tryz.underlying49] at h
  obtain ⟨z, rfl, _⟩ := h
  exact ⟨z, rfl, trivial⟩
theorem wt_tys {n : Nat} {ds : List D} (h : Wt Tryz.prog n 24 ds) : ∃ l : List Int, ds = [.sl (em aU l)] ∧ l.length < 2 ^ 44 := by
 cases n with
 | zero => exact h.elim
 | succ n =>
  simp only [Wt, Tryz.underlying24] at h
  obtain ⟨es, rfl, hl, he⟩ := h
  obtain ⟨l, rfl, _⟩ := tA (enc := aU) (p := fun _ => True) fun c hc => wt_ty (he c hc)
  refine ⟨l, rfl, ?_⟩
  have hb : Tryz.prog.bytesOf 25 = 8 := by kernel_rfl
  rw [hb, u6] at hl
  unfold reachBytes at hl
  omega
theorem wt_pts {n : Nat} {ds : List D} (h : Wt Tryz.prog n 58 ds) : ∃ l : List Int, ds = [.sl (em aU l)] ∧ l.length < 2 ^ 44 := by
 cases n with
 | zero => exact h.elim
 | succ n =>
  simp only [Wt, Tryz.underlying58] at h
  obtain ⟨es, rfl, hl, he⟩ := h
  obtain ⟨l, rfl, _⟩ := tA (enc := aU) (p := fun _ => True) fun c hc => wt_pt (he c hc)
  refine ⟨l, rfl, ?_⟩
  have hb : Tryz.prog.bytesOf 49 = 8 := by kernel_rfl
  rw [hb, u6] at hl
  unfold reachBytes at hl
  omega
theorem LW {x : D} (h : Arg Tryz.prog 58 x) : ∃ l : List Int, x = .sl (em aU l) ∧ l.length < 2 ^ 44 := by
 obtain ⟨n, ds, h, k⟩ := h
 simp only [Tryz.underlying58] at k
 obtain ⟨l, rfl, h1⟩ := wt_pts h
 simp only [List.cons.injEq, and_true] at k
 exact ⟨l, k.symm, h1⟩
set_option maxHeartbeats 8000000
theorem KS {P : List Fn} (hk : cI P) {f : Fn} (hf : f ∈ P) : (aX f).length < 2 ^ 44 := by
 have := ((i_ hk).2 f hf).2
 simp; omega
theorem G0 {P : List Fn} (T : List Tt) (hk : cI P) (i : Int) : (bQ P T i).1.ps.length < 2 ^ 44 ∧ (bQ P T i).1.l.length < 2 ^ 44 := by
 unfold bQ
 split
 ·rename_i hok
  split
  ·simp
  ·split
   ·simp
   ·rename_i h1 h2
    obtain ⟨f, hf, hfa, hfm, hwl, hs1, hs2, hs3, hty, hokT, hcnt⟩ := pL hk hok (i := i) (by omega) (by omega)
    rw [hfa]
    refine ⟨KS hk hfm, ?_⟩
    obtain ⟨_, hp96, hp1⟩ := dP hcnt
    simp only [dR, jB, List.length_map, List.length_range]
    omega
 ·simp
theorem DG {P : List Fn} (T : List Tt) (hk : cI P) (i : Int) : Pure Tryz.prog 23 [ttD (bQ P T i).1, ttD (bQ P T i).1] (B true) := by
 obtain ⟨h1, h2⟩ := G0 T hk i
 have h := HX (bQ P T i).1.ps (bQ P T i).1.ps (bQ P T i).1.t (bQ P T i).1.t (bQ P T i).1.n (bQ P T i).1.n (bQ P T i).1.l (bQ P T i).1.l (by omega) (by omega)
 rw [decide_eq_true ⟨rfl, rfl, rfl, rfl⟩] at h
 exact h
theorem law_AbsBodies : ∀ xs, Args Tryz.prog Tryz.f5.params.toList xs → Pure Tryz.prog 5 xs (B true) := by
 intro xs h
 rw [Tryz.params5] at h
 simp only [Args] at h
 obtain ⟨x, r, rfl, hx, y, r2, rfl, hy, z, r3, rfl, hz, u, r4, rfl, hu, rfl⟩ := h
 obtain ⟨t, rfl, ht⟩ := xH hx
 obtain ⟨s, rfl, hs⟩ := xH hy
 obtain ⟨i, rfl, _⟩ := ME hz
 obtain ⟨tu, rfl, htu⟩ := LW hu
 obtain ⟨L, w, p, hr⟩ := K9 t ht
 have hc := yY hr
 refine fi5.pu (by simp) ?_
 by_cases hsm : nF t L w
 ·rw [show jI t L w = true by simp [jI, hsm]] at hc
  have hk := hr.2.1 hsm.1
  have hS := IX hsm
  have hTb := AE hk hS s hs
  have htw := BS hk hS s
  have htl : (dB L s 0).length < 2 ^ 44 := by rw [nL]; have := hS.1; omega
  have hb1 := zP hk htl htw i tu (by omega)
  have hb2 := FD hk htl htw i tu (by omega)
  have hr1 := fun i => G2 hk htl htw i
  have hr2 := fun i => DE hk htl htw i
  have hsame := fun i => DG (dB L s 0) hk i
  generalize dB L s 0 = T at *
  generalize eF L T i tu = b at *
  generalize hX : bQ L T = X at *
  have hL40 := hS.1
  simp -implicitDefEqProofs [ac5]
  refine aG (w_) (by simp) ?_
  simp -implicitDefEqProofs
  refine aG hc (by simp) ?_
  simp -implicitDefEqProofs
  refine aG hTb (by simp) ?_
  simp -implicitDefEqProofs
  refine aG hb1 (by simp) ?_
  simp -implicitDefEqProofs
  refine aG hb2 (by simp) ?_
  simp -implicitDefEqProofs
  refine lpG cf5 lb5_0 [8, 16, 17, 18, 19, 20] (α := Nat) (fun s _ => [(16, I s)]) (fun s _ => [(8, .box [.sl (em aY L)])]) (fun s k => 8 < k ∧ s ≤ L.length) (fun s => L.length - s) 0 ⟨by omega, by omega⟩ (by simp) (aK _) ?_
  rintro c k ⟨hk1, hc1⟩
  have h1 := hr1 c
  have h2 := hr2 c
  have h3 := hsame c
  have h1i := hr1 i
  have h2i := hr2 i
  have h3i := hsame i
  generalize X c = Xc at *
  generalize X i = Xi at *
  by_cases hcl : c < L.length
  ·have hcli : (c : Int) < (L.length : Int) := by omega
   have w1 := aQ (x := (c : Int) + 1) (by omega) (by omega)
   simp -implicitDefEqProofs [lb5_0, hcl, hcli]
   refine aG h1 (by simp) ?_
   simp -implicitDefEqProofs
   refine aG h2 (by simp) ?_
   simp -implicitDefEqProofs
   refine aG h3 (by simp) ?_
   simp -implicitDefEqProofs [w1]
   exact aI (c + 1) ⟨by omega, hcl⟩ (by omega) (by simp) (aO (aO (aK _) (by rw [bF, if_neg (by omega)]; rfl)) (by rw [bF, if_neg (by omega)]; rfl))
  ·simp -implicitDefEqProofs [lb5_0, hcl]
   refine aG h1i (by simp) ?_
   simp -implicitDefEqProofs
   refine aG h2i (by simp) ?_
   simp -implicitDefEqProofs
   refine aG h3i (by simp) ?_
   simp -implicitDefEqProofs
 ·rw [show jI t L w = false by simp [jI, hsm]] at hc
  simp -implicitDefEqProofs [ac5]
  refine aG (w_) (by simp) ?_
  simp -implicitDefEqProofs
  refine aG hc (by simp) ?_
  simp -implicitDefEqProofs
end Go.Fx.YtlhdpfaohphbaaaGreat
set_option maxRecDepth 1000000
namespace Go.Proofs.YtlhdpfaohphbaaaGreat.RowAbsBodies
open Go Go.Fx Go.Proofs Go.Proofs.YtlhdpfaohphbaaaGreat
theorem fnRow : RowFn Tryz.checked 5 Tryz.f5 Rows.absBodiesSpec (Tryz.f5.resultTypes.getD 0 0) where
 own := by kernel_rfl
 noInit := by kernel_rfl
 func := Tryz.func5
 laid := by kernel_rfl
 params := by kernel_rfl
 res := by kernel_rfl
 bool := by kernel_rfl
 vars := rfl
 spec := by
  intro H ds h
  have h' : ds.length = 4 := h.trans (by kernel_rfl)
  match ds, h' with
  | [d0, d1, d2, d3], _ => rfl
theorem over : Rows.absBodiesRow.holds Tryz.pinned (OpenSpec.ofChange Rows.absBodiesSpec) :=
 OpenClaim.holds_of_wide 5 Tryz.f5 rfl rfl rfl rfl rfl rfl rfl ⟨rfl, rfl, rfl, rfl, rfl⟩ rfl rfl rfl rfl rfl (by kernel_rfl) Tryz.func5 (by kernel_rfl)
  (of_decide_eq_true (by kernel_rfl)) (by unfold Func.isWrapper; first | (rw [if_pos (by decide +kernel)]; kernel_rfl) | (rw [if_neg (by decide +kernel)]; exact ⟨rfl, rfl⟩))
  (fun os started H enc _ => row_of fnRow started (ChangeSpec.witness6 (enc := enc) (C := Tryz.checked) false ⟨#[], #[.slice none 0 0, .slice none 0 0, .int .i64 0, .slice none 0 0], []⟩ 8 (by kernel_rfl) (by kernel_rfl) (by kernel_rfl) (by kernel_rfl)) Go.Fx.YtlhdpfaohphbaaaGreat.law_AbsBodies)
theorem proved : Rows.AbsBodiesSaid := over
end Go.Proofs.YtlhdpfaohphbaaaGreat.RowAbsBodies
namespace Go.Proofs.YtlhdpfaohphbaaaGreat
theorem absBodies_holds : Rows.AbsBodiesSaid := RowAbsBodies.proved
#print axioms absBodies_holds
end Go.Proofs.YtlhdpfaohphbaaaGreat

/-
  Layer 7: the reference's small functions.
  Layer 7: the reference's own and Wanted.
  Layer 7: the reference's wrong places.
  Layer 7: the reference's Check.
  Layer 7: types' Check and the reference's answer alike. Plain.
-/
import Derived.Test.YthbainhddfajfaaCodeRef7
import Derived.Test.YthbainhddfajfaaTh
set_option linter.all false
set_option maxRecDepth 100000
set_option maxHeartbeats 4000000
namespace Go.Fx.Ythbainhddfajfaa
open Go Go.Fx Go.Proofs Go.Fx.Flt
theorem with7_c (l : List Pm) (n : List UInt8) (t : Int) (hl : l.length < 2 ^ 41) : Pure Try.prog 52 [.sl (em encPm l), Tx n, I t] (.sl (em encPm (l ++ [⟨n, t, 0⟩]))) := by
  refine pu52 (by simp) ?_
  have b1 : l.length * 32 ≤ 3 * 2 ^ 46 := by omega
  have b2 : (l.length + 1) * 32 ≤ 3 * 2 ^ 46 := by omega
  have b3 : em encPm l ++ [[Tx n, I t, I 0]] = em encPm (l ++ [⟨n, t, 0⟩]) := em_app (enc := encPm) (x := ⟨n, t, 0⟩)
  have b4 : ∀ m, els m 3 (.sl [[Tx n, I t, I 0]]) = some [[Tx n, I t, I 0]] := fun m => rfl
  simp -implicitDefEqProofs [-els, els_Pm, ac52, b1, b2, b3, b4]
  rw [List.take_of_length_le (by simp)]
def headD (P : List Fn) (n : List UInt8) : D := if headI P 0 n < 0 then .tup [.agg [Tx [], .sl [], I 0, I 0, Tx [], Tx [], I 0, CX 0 0, .sl [], I 0, I 0], .pl (.bool false)] else .tup [.agg (encFn (hdF P n)), .pl (.bool true)]
theorem headI_at (P : List Fn) (n : List UInt8) : ∀ (i : Nat) (hi : i < P.length), headI (P.drop i) i n = headI P 0 n → P[i].name = n → headI P 0 n = i := fun i hi h hn => by
  rw [← h, List.drop_eq_getElem_cons hi]
  unfold headI
  rw [if_pos hn]
theorem Head_c (P : List Fn) (n : List UInt8) (hl : P.length < 2 ^ 40) : Pure Try.prog 45 [.agg [.sl (em encFn P)], Tx n] (headD P n) := by
  refine pu45 (by simp) ?_
  simp -implicitDefEqProofs [ac45]
  refine lp45_0 (α := Nat) (fun s _ => [(5, .top), (6, I s)]) (fun s _ => [(1, .box [Tx [], .pl (.slice none 0 0), I 0, I 0, Tx [], Tx [], I 0, CX 0 0, .pl (.slice none 0 0), I 0, I 0])]) (fun s k => s ≤ P.length ∧ headI (P.drop s) s n = headI P 0 n) (fun s => P.length - s) 0 ⟨by simp, rfl⟩ (by simp) (memLe_refl _) ?_
  rintro i k ⟨hi, hr⟩
  by_cases hlt : i < P.length
  · have w1 := wr64 (x := (i : Int) + 1) (by omega) (by omega)
    have hat := headI_at P n i hlt hr
    generalize hH : headI P 0 n = H at hr hat ⊢
    rw [List.drop_eq_getElem_cons hlt] at hr
    unfold headI at hr
    have hq : P[i]?.getD default = P[i] := by rw [List.getElem?_eq_getElem hlt]; rfl
    obtain ⟨x, hxe⟩ : ∃ x, P[i] = x := ⟨_, rfl⟩
    rw [hxe] at hr hat hq
    by_cases hg : x.name = n
    · have hI := hat hg
      have hD : headD P n = .tup [.agg (encFn x), .pl (.bool true)] := by
        unfold headD hdF
        rw [hH, hI, if_neg (by omega), Int.toNat_natCast, hq]
      rw [hD, encFn_eq]
      simp -implicitDefEqProofs [lb45_0, hlt, hxe, hg]
    · rw [if_neg hg] at hr
      simp -implicitDefEqProofs [lb45_0, hlt, hxe, hg, w1]
      exact again_of (i + 1) ⟨hlt, hr⟩ (by omega) (by simp) (memLe_refl _)
  · rw [List.drop_eq_nil_of_le (by omega)] at hr
    generalize hH : headI P 0 n = H at hr ⊢
    unfold headI at hr
    have hD : headD P n = .tup [.agg [Tx [], .sl [], I 0, I 0, Tx [], Tx [], I 0, CX 0 0, .sl [], I 0, I 0], .pl (.bool false)] := by
      unfold headD
      rw [hH, ← hr, if_pos (by decide)]
    simp -implicitDefEqProofs [lb45_0, hlt]
    rw [hD]
theorem Within_c (env : List Pm) (op : Int) (n tl : List UInt8) (ty : Int) (z : Cx) (args : List Ex) (p : Int) (i : Nat) (hl : env.length < 2 ^ 40) :
    Pure Try.prog 40 [.sl (em encPm env), .agg (encEx (.mk op n tl ty z args p)), I i] (.sl (em encPm (withinI env op n tl ty i))) := by
  refine pu40 (by simp) ?_
  simp only [encEx_mk]
  unfold withinI
  by_cases e21 : op = 21
  · rw [if_pos (.inl e21)]
    simp -implicitDefEqProofs [ac40, e21]
    refine pcK_of (with7_c env n ty (by omega)) (by simp) ?_
    simp -implicitDefEqProofs
  · by_cases e22 : op = 22
    · by_cases h1 : i = 1
      · rw [if_pos (.inr ⟨e22, h1⟩)]
        simp -implicitDefEqProofs [ac40, e22, h1]
        refine pcK_of (with7_c env n ty (by omega)) (by simp) ?_
        simp -implicitDefEqProofs
      · rw [if_neg (by omega), if_neg (by omega)]
        have h2 : ¬ (i : Int) = 1 := by omega
        simp -implicitDefEqProofs [ac40, e22, h1, h2]
    · by_cases e20 : op = 20
      · by_cases h1 : i = 2
        · rw [if_neg (by omega), if_pos ⟨e20, h1⟩]
          simp -implicitDefEqProofs [ac40, e20, h1]
          refine pcK_of (with7_c env n 1 (by omega)) (by simp) ?_
          simp -implicitDefEqProofs
          refine pcK_of (with7_c (env ++ [⟨n, 1, 0⟩]) tl 3 (by simp only [List.length_append, List.length_cons, List.length_nil]; omega)) (by simp) ?_
          simp -implicitDefEqProofs
        · rw [if_neg (by omega), if_neg (by omega)]
          have h2 : ¬ (i : Int) = 2 := by omega
          simp -implicitDefEqProofs [ac40, e20, h1, h2]
      · rw [if_neg (by omega), if_neg (by omega)]
        simp -implicitDefEqProofs [ac40, e20, e21, e22]
end Go.Fx.Ythbainhddfajfaa
namespace Go.Fx.Ythbainhddfajfaa
open Go Go.Fx Go.Proofs Go.Fx.Flt
def lookR' : List Pm → List UInt8 → Int
  | [], _ => -1
  | x :: xs, n => if x.name = n then x.type else lookR' xs n
def ownR (P : List Fn) (env : List Pm) (op : Int) (n : List UInt8) (ty : Int) (k : Nat) : Int :=
  if ctlI op then 0 else if op = 6 then lookR' env.reverse n else if op = 7 ∧ badH P n k then -1 else ownI P env op n ty k
def wantedR (P : List Fn) (op : Int) (n : List UInt8) (ty : Int) (i : Nat) (t : Int) : Int :=
  if op = 7 ∧ (headI P 0 n < 0 ∨ (hdF P n).params.length ≤ i) then 1 else wantedI P op n ty i t
theorem own_r (P : List Fn) (env : List Pm) (op : Int) (n tl : List UInt8) (ty : Int) (z : Cx) (args : List Ex) (p : Int) (hl : P.length < 2 ^ 40) (he : env.length < 2 ^ 40) (hs : shape op ty args.length) :
    Pure Try.prog 39 [.agg [.sl (em encFn P)], .sl (em encPm env), .agg (encEx (.mk op n tl ty z args p))] (I (ownR P env op n ty args.length)) := by
  refine pu39 (by simp) ?_
  simp only [encEx_mk]
  have hop : op = 1 ∨ op = 2 ∨ op = 3 ∨ op = 4 ∨ op = 5 ∨ op = 6 ∨ op = 7 ∨ op = 8 ∨ op = 9 ∨ op = 10 ∨ op = 11 ∨ op = 12 ∨ op = 13 ∨ op = 14 ∨ op = 15 ∨ op = 16 ∨ op = 17 ∨ op = 18 ∨ op = 19 ∨ op = 20 ∨ op = 21 ∨ op = 22 := by
    unfold shape at hs; omega
  by_cases h6 : op = 6
  · subst h6
    have hR : ownR P env 6 n ty args.length = lookR' env.reverse n := by simp [ownR, ctlI]
    rw [hR]
    have w0 := wr64 (x := (env.length : Int) - 1) (by omega) (by omega)
    simp -implicitDefEqProofs [ac39, w0]
    generalize hR2 : lookR' env.reverse n = R
    refine lp39_0 (α := Nat) (fun s _ => [(6, .top), (7, I ((s : Int) - 1))]) (fun s _ => []) (fun s k => s ≤ env.length ∧ lookR' (env.take s).reverse n = R) (fun s => s) env.length ⟨by simp, by rw [List.take_of_length_le (Nat.le_refl _)]; exact hR2⟩ (by simp) (by simp) ?_
    rintro i k ⟨hi, hr⟩
    cases i with
    | zero =>
      simp only [List.take_zero, List.reverse_nil, lookR'] at hr
      subst hr
      simp -implicitDefEqProofs [lb39_0]
    | succ j =>
      have hj : j < env.length := by omega
      have ht : (env.take (j + 1)).reverse = env[j] :: (env.take j).reverse := by
        rw [List.take_succ_eq_append_getElem hj, List.reverse_append]; rfl
      rw [ht] at hr
      unfold lookR' at hr
      have hji : ((j + 1 : Nat) : Int) - 1 = j := by omega
      have w3 := wr64 (x := (j : Int) - 1) (by omega) (by omega)
      obtain ⟨y, hye⟩ : ∃ y, env[j] = y := ⟨_, rfl⟩
      rw [hye] at hr
      by_cases hy : y.name = n
      · rw [if_pos hy] at hr
        subst hr
        simp -implicitDefEqProofs [lb39_0, hji, hye, hy, hj]
      · rw [if_neg hy] at hr
        simp -implicitDefEqProofs [lb39_0, hji, hye, hy, w3, hj]
        exact again_of j ⟨by omega, hr⟩ (by omega) (by simp) (by simp)
  by_cases h7 : op = 7
  · subst h7
    have hH := Head_c P n hl
    unfold headD at hH
    by_cases hb : headI P 0 n < 0
    · have hR : ownR P env 7 n ty args.length = -1 := by simp [ownR, ctlI, badH, hb]
      rw [if_pos hb] at hH
      simp -implicitDefEqProofs [ac39, hR]
      refine pcK_of (hH) (by simp) ?_
      simp -implicitDefEqProofs
    · rw [if_neg hb, encFn_eq] at hH
      generalize hq : hdF P n = q at *
      by_cases hc : q.params.length = args.length
      · have hR : ownR P env 7 n ty args.length = q.type := by simp [ownR, ownI, ctlI, badH, hb, hq, hc]
        have hc2 : (q.params.length : Int) = (args.length : Int) := by omega
        simp -implicitDefEqProofs [ac39, hR]
        refine pcK_of (hH) (by simp) ?_
        simp -implicitDefEqProofs [hc2]
      · have hR : ownR P env 7 n ty args.length = -1 := by simp [ownR, ownI, ctlI, badH, hb, hq, hc]
        have hc2 : ¬ (q.params.length : Int) = (args.length : Int) := by omega
        simp -implicitDefEqProofs [ac39, hR]
        refine pcK_of (hH) (by simp) ?_
        simp -implicitDefEqProofs [hc2]
  rcases hop with h | h | h | h | h | h | h | h | h | h | h | h | h | h | h | h | h | h | h | h | h | h <;> first | exact absurd h h6 | exact absurd h h7 | (subst h; simp -implicitDefEqProofs [ac39, ownR, ownI, ctlI])
theorem Wanted_c (P : List Fn) (op : Int) (n tl : List UInt8) (ty : Int) (z : Cx) (args : List Ex) (p : Int) (i : Nat) (t : Int) (hl : P.length < 2 ^ 40) :
    Pure Try.prog 27 [.agg [.sl (em encFn P)], .agg (encEx (.mk op n tl ty z args p)), I i, I t] (I (wantedR P op n ty i t)) := by
  refine pu27 (by simp) ?_
  simp only [encEx_mk]
  by_cases h7 : op = 7
  · subst h7
    have hH := Head_c P n hl
    unfold headD at hH
    by_cases hb : headI P 0 n < 0
    · have hR : wantedR P 7 n ty i t = 1 := by simp [wantedR, hb]
      rw [if_pos hb] at hH
      simp -implicitDefEqProofs [ac27, hR]
      refine pcK_of (hH) (by simp) ?_
      simp -implicitDefEqProofs
    · rw [if_neg hb, encFn_eq] at hH
      generalize hq : hdF P n = q at *
      by_cases hc : i < q.params.length
      · have hR : wantedR P 7 n ty i t = (q.params[i]?.getD default).type := by
          have : ¬ q.params.length ≤ i := by omega
          simp [wantedR, wantedI, hb, hq, this]
        have hc2 : (i : Int) < (q.params.length : Int) := by omega
        simp -implicitDefEqProofs [ac27, hR]
        refine pcK_of (hH) (by simp) ?_
        simp -implicitDefEqProofs [hc2, hc]
      · have hR : wantedR P 7 n ty i t = 1 := by
          have : q.params.length ≤ i := by omega
          simp [wantedR, hq, this]
        have hc2 : ¬ (i : Int) < (q.params.length : Int) := by omega
        simp -implicitDefEqProofs [ac27, hR]
        refine pcK_of (hH) (by simp) ?_
        simp -implicitDefEqProofs [hc2, hc]
  unfold wantedR wantedI
  by_cases h14 : op = 14
  · simp -implicitDefEqProofs [ac27, h14]
  by_cases h18 : op = 18
  · by_cases h1 : i = 1
    · simp -implicitDefEqProofs [ac27, h18, h1]
    · have h2 : ¬ (i : Int) = 1 := by omega
      simp -implicitDefEqProofs [ac27, h18, h1, h2]
  by_cases h19 : op = 19
  · by_cases h1 : i = 0
    · simp -implicitDefEqProofs [ac27, h19, h1]
    · have h2 : ¬ (i : Int) = 0 := by omega
      simp -implicitDefEqProofs [ac27, h19, h1, h2]
  by_cases h20 : op = 20
  · by_cases h1 : i = 0
    · simp -implicitDefEqProofs [ac27, h20, h1]
    · have h2 : ¬ (i : Int) = 0 := by omega
      simp -implicitDefEqProofs [ac27, h20, h1, h2]
  by_cases h21 : op = 21
  · by_cases h1 : i = 0
    · simp -implicitDefEqProofs [ac27, h21, h1]
    · have h2 : ¬ (i : Int) = 0 := by omega
      simp -implicitDefEqProofs [ac27, h21, h1, h2]
  by_cases h22 : op = 22
  · by_cases h1 : i = 0
    · simp -implicitDefEqProofs [ac27, h22, h1]
    · have h2 : ¬ (i : Int) = 0 := by omega
      simp -implicitDefEqProofs [ac27, h22, h1, h2]
  simp -implicitDefEqProofs [ac27, h7, h14, h18, h19, h20, h21, h22]
end Go.Fx.Ythbainhddfajfaa

namespace Go.Fx.Ythbainhddfajfaa
open Go Go.Fx Go.Proofs Go.Fx.Flt
def encI1 (x : Int) : List D := [I x]
theorem els_I1 {l : List Int} {mem : Mem} : els mem 1 (.sl (em encI1 l)) = some (em encI1 l) := em_elsS (fun x => rfl) (fun x => rfl)
theorem imm_I1 (l : List Int) : D.immss (em encI1 l) = true := em_imm fun f => by simp [encI1]
theorem cell_I1 (l : List Int) : (em encI1 l).all (fun e => e.all D.cell) = true := em_cell fun f => by simp [encI1]
attribute [simp] imm_I1 cell_I1
theorem ia_I1 {l : List Int} {mem : Mem} {j : IntKind} {i : Int} : iaD mem 1 (.sl (em encI1 l)) (.pl (.int j i)) = if 0 ≤ i ∧ i < l.length then some (.pt [I (l[i.toNat]?.getD default)]) else none := em_ia fun f => rfl
attribute [simp] ia_I1
mutual
def wrongR (P : List Fn) : List Pm → Ex → Int → List Int
  | env, .mk op n tl ty _ args p, t => (if ownR P env op n ty args.length ≠ 0 ∧ ownR P env op n ty args.length ≠ t then [p] else []) ++ wrongsR P env op n tl ty t 0 args
def wrongsR (P : List Fn) (env : List Pm) (op : Int) (n tl : List UInt8) (ty t : Int) (i : Nat) : List Ex → List Int
  | [] => []
  | x :: xs => wrongR P (withinI env op n tl ty i) x (wantedR P op n ty i t) ++ wrongsR P env op n tl ty t (i + 1) xs
end
mutual
theorem wrongR_len (P : List Fn) : ∀ (env : List Pm) (e : Ex) (t : Int), (wrongR P env e t).length ≤ size e
  | env, .mk op n tl ty z args p, t => by
    have := wrongsR_len P env op n tl ty t 0 args
    unfold wrongR size
    rw [List.length_append]
    split <;> simp <;> omega
theorem wrongsR_len (P : List Fn) (env : List Pm) (op : Int) (n tl : List UInt8) (ty t : Int) : ∀ (i : Nat) (l : List Ex), (wrongsR P env op n tl ty t i l).length ≤ sizes l
  | i, [] => by simp [wrongsR, sizes]
  | i, x :: xs => by
    have h1 := wrongR_len P (withinI env op n tl ty i) x (wantedR P op n ty i t)
    have h2 := wrongsR_len P env op n tl ty t (i + 1) xs
    unfold wrongsR sizes
    rw [List.length_append]; omega
end
theorem within_len (env : List Pm) (op : Int) (n tl : List UInt8) (ty : Int) (i : Nat) : (withinI env op n tl ty i).length ≤ env.length + 2 := by
  unfold withinI
  split
  · simp
  · split <;> simp
def WRC (P : List Fn) (e : Ex) : Prop := ∀ ⦃env : List Pm⦄ ⦃t : Int⦄, Sh e → env.length + 2 * size e ≤ 2 ^ 39 → Pure Try.prog 23 [.agg [.sl (em encFn P)], .sl (em encPm env), .agg (encEx e), I t] (.sl (em encI1 (wrongR P env e t)))
theorem wrong_s (P : List Fn) (hP : P.length < 2 ^ 40) (op : Int) (n tl : List UInt8) (ty : Int) (z : Cx) (args : List Ex) (p : Int) (ih : ∀ x ∈ args, WRC P x) : WRC P (.mk op n tl ty z args p) := by
  intro env t hs hN
  have hal := size_len args
  have hlen := wrongR_len P env (.mk op n tl ty z args p) t
  unfold Sh at hs
  have hsh : ∀ x ∈ args, Sh x := fun x hx => Shs_mem hs.2 hx
  have hR : wrongR P env (.mk op n tl ty z args p) t = (if ownR P env op n ty args.length ≠ 0 ∧ ownR P env op n ty args.length ≠ t then [p] else []) ++ wrongsR P env op n tl ty t 0 args := by simp only [wrongR]
  simp only [size] at hN hlen
  have hO := own_r P env op n tl ty z args p hP (by omega) hs.1
  have hWi := fun i => Within_c env op n tl ty z args p i (by omega)
  have hWa := fun i => Wanted_c P op n tl ty z args p i t hP
  generalize hRR : wrongR P env (.mk op n tl ty z args p) t = R at *
  clear hRR
  generalize ownR P env op n ty args.length = o at *
  simp only [encEx_mk] at hO hWi hWa ⊢
  have loop : ∀ (id nx : Nat) (l0 : List Int) (es : List (List D)) (n0 : Nat) (Q : Exit → St → Prop), es = em encI1 l0 → n0 = l0.length → id < nx → l0 ++ wrongsR P env op n tl ty t 0 args = R → (∀ v nx', Q (.exit 0) ⟨[(0, .agg [.sl (em encFn P)]), (1, .sl (em encPm env)), (2, .agg [I op, Tx n, Tx tl, I ty, CX z.re z.im, .sl (em encEx args), I p]), (3, I t), (4, .pt [.sl (em encFn P)]), (6, .pt [I op, Tx n, Tx tl, I ty, CX z.re z.im, .sl (em encEx args), I p]), (8, .pl (.slice none 0 0)), (9, .osl id v 0 R.length), (10, I o), (11, I args.length), (12, .top)], [], [(id, .arr v 1 (em encI1 R))], nx'⟩) →
      A cf23 (.loop lb23_0) Q [(0, .agg [.sl (em encFn P)]), (1, .sl (em encPm env)), (2, .agg [I op, Tx n, Tx tl, I ty, CX z.re z.im, .sl (em encEx args), I p]), (3, I t), (4, .pt [.sl (em encFn P)]), (6, .pt [I op, Tx n, Tx tl, I ty, CX z.re z.im, .sl (em encEx args), I p]), (8, .pl (.slice none 0 0)), (9, .osl id 0 0 n0), (10, I o), (11, I 0), (12, .pl undef)] [(id, .arr 0 1 es)] nx := by
    rintro id nx l0 _ _ Q rfl rfl hid hl0 hq
    refine lp23_0 (α := Nat × Nat × List Int) (fun s _ => [(9, .osl id s.2.1 0 s.2.2.length), (11, I s.1), (12, .top)]) (fun s _ => [(id, .arr s.2.1 1 (em encI1 s.2.2))]) (fun s k => id < k ∧ s.1 ≤ args.length ∧ s.2.2 ++ wrongsR P env op n tl ty t s.1 (args.drop s.1) = R) (fun s => args.length - s.1) (0, 0, l0) ⟨hid, by simp, hl0⟩ (by simp) (by simp) ?_
    rintro ⟨i, v, l⟩ k ⟨hk, hi, hr⟩
    simp only at hi hr
    by_cases hlt : i < args.length
    · have hd : args.drop i = args[i] :: args.drop (i + 1) := List.drop_eq_getElem_cons hlt
      have hmem : args[i] ∈ args := List.getElem_mem hlt
      rw [hd] at hr
      unfold wrongsR at hr
      obtain ⟨x, hxe⟩ : ∃ x, args[i] = x := ⟨_, rfl⟩
      rw [hxe] at hr hmem
      have w1 := wr64 (x := (i : Int) + 1) (by omega) (by omega)
      have hsx := size_mem hmem
      have hbl := within_len env op n tl ty i
      have hWi1 := hWi i
      have hWa1 := hWa i
      have hS := ih x hmem (env := withinI env op n tl ty i) (t := wantedR P op n ty i t) (hsh x hmem) (by omega)
      generalize withinI env op n tl ty i = env2 at *
      generalize wantedR P op n ty i t = t2 at *
      simp only [encEx_eq] at hS
      generalize wrongR P env2 x t2 = T at *
      have hb : (l.length + T.length) * 8 ≤ 3 * 2 ^ 46 := by
        have := congrArg List.length hr
        simp only [List.length_append] at this; omega
      simp -implicitDefEqProofs [-els, lb23_0, hlt, hxe]
      refine pcK_of hWi1 (by simp) ?_
      simp -implicitDefEqProofs [hlt, hxe]
      refine pcK_of hWa1 (by simp) ?_
      simp -implicitDefEqProofs
      refine pcK_of hS (by simp) ?_
      simp -implicitDefEqProofs [-els, els_I1, hb, w1]
      exact again_of (i + 1, v + 1, l ++ T) ⟨by omega, hlt, by rw [List.append_assoc]; exact hr⟩ (by simp only; omega) (by simp) (by simp)
    · rw [List.drop_eq_nil_of_le (by omega)] at hr
      unfold wrongsR at hr
      rw [List.append_nil] at hr
      subst hr
      have hia : i = args.length := by omega
      subst hia
      simp -implicitDefEqProofs [lb23_0]
      exact hq _ _
  refine pu23 (by simp) ?_
  simp -implicitDefEqProofs [ac23]
  refine pcK_of hO (by simp) ?_
  by_cases h0 : o = 0
  · rw [if_neg (fun g => g.1 h0), List.nil_append] at hR
    subst h0
    simp -implicitDefEqProofs
    refine A_loop_own (j := 9) (k := 1) rfl (.inl rfl) ?_
    simp -implicitDefEqProofs
    refine loop _ _ [] _ _ _ ?_ (by rfl) ?_ hR.symm (fun v nx2 => ?_) <;> first | omega | (simp [em, encI1]; done) | skip
    simp -implicitDefEqProofs
  · by_cases ht : o = t
    · rw [if_neg (fun g => g.2 ht), List.nil_append] at hR
      subst ht
      simp -implicitDefEqProofs [h0]
      refine A_loop_own (j := 9) (k := 1) rfl (.inl rfl) ?_
      simp -implicitDefEqProofs
      refine loop _ _ [] _ _ _ ?_ (by rfl) ?_ hR.symm (fun v nx2 => ?_) <;> first | omega | (simp [em, encI1]; done) | skip
      simp -implicitDefEqProofs
    · rw [if_pos ⟨h0, ht⟩] at hR
      simp -implicitDefEqProofs [h0, ht]
      refine loop _ _ [p] _ _ _ ?_ (by rfl) ?_ hR.symm (fun v nx2 => ?_) <;> first | omega | (simp [em, encI1]; done) | skip
      simp -implicitDefEqProofs
mutual
theorem wrong_c (P : List Fn) (hP : P.length < 2 ^ 40) : ∀ (e : Ex), WRC P e
  | .mk op n t ty z args p => wrong_s P hP op n t ty z args p (wrong_cs P hP args)
theorem wrong_cs (P : List Fn) (hP : P.length < 2 ^ 40) : ∀ (l : List Ex), ∀ x ∈ l, WRC P x
  | [], x, h => by simp at h
  | e :: es, x, h => (List.mem_cons.1 h).elim (fun he => he ▸ wrong_c P hP e) (fun h => wrong_cs P hP es x h)
end
end Go.Fx.Ythbainhddfajfaa

namespace Go.Fx.Ythbainhddfajfaa
open Go Go.Fx Go.Proofs Go.Fx.Flt
def rtcF (P : List Fn) : List Fn → Ft → Ft
  | [], s => s
  | f :: fs, s => rtcF P fs ((wrongR P f.params f.body f.type).foldl ckStep s)
def rtypesF (P : List Fn) : Ft := if (ckF P).1 ≠ 0 then ckF P else rtcF P P (ckF P)
theorem rtypes_c {P : List Fn} (hS : Pure Try.prog 12 [.agg [.sl (em encFn P)]] (.agg [I (ckF P).1, I (ckF P).2])) (hP : P.length < 2 ^ 40) (hf : ∀ f ∈ P, size f.body ≤ 2 ^ 37 ∧ f.params.length ≤ 2 ^ 37 ∧ Sh f.body) :
    Pure Try.prog 11 [.agg [.sl (em encFn P)]] (.agg [I (rtypesF P).1, I (rtypesF P).2]) := by
  refine pu11 (by simp) ?_
  unfold rtypesF
  generalize ckF P = s0 at *
  simp -implicitDefEqProofs [ac11]
  refine pcK_of hS (by simp) ?_
  by_cases h0 : s0.1 = 0
  · simp -implicitDefEqProofs [h0]
    generalize hR : rtcF P P s0 = R
    refine lp11_1 (α := Nat × Ft) (fun s _ => [(4, I s.1), (5, .top), (6, .top)]) (fun s _ => [(4, .box [I s.2.1, I s.2.2]), (1, .box [I 0, I 0])]) (fun s k => s.1 ≤ P.length ∧ rtcF P (P.drop s.1) s.2 = R) (fun s => P.length - s.1) (0, s0) ⟨by simp, hR⟩ (by simp) (by rw [← h0]; exact memLe_refl _) ?_
    rintro ⟨i, s⟩ k ⟨hi, hr⟩
    simp only at hi hr
    by_cases hlt : i < P.length
    · have hd1 : P.drop i = P[i] :: P.drop (i + 1) := List.drop_eq_getElem_cons hlt
      have hmem : P[i] ∈ P := List.getElem_mem hlt
      rw [hd1] at hr
      unfold rtcF at hr
      obtain ⟨x, hxe⟩ : ∃ x, P[i] = x := ⟨_, rfl⟩
      rw [hxe] at hr hmem
      obtain ⟨z1, z2, z3⟩ := hf x hmem
      have w1 := wr64 (x := (i : Int) + 1) (by omega) (by omega)
      have hx := wrong_c P hP x.body (env := x.params) (t := x.type) z3 (by omega)
      have hwl := wrongR_len P x.params x.body x.type
      simp only [encEx_eq] at hx
      generalize wrongR P x.params x.body x.type = T at *
      simp -implicitDefEqProofs [lb11_1, hlt, hxe]
      refine pcK_of hx (by simp) ?_
      simp -implicitDefEqProofs
      generalize hR2 : T.foldl ckStep s = R2 at *
      refine lp11_0 (α := Nat × Ft) (fun s _ => [(6, I s.1)]) (fun s _ => [(4, .box [I s.2.1, I s.2.2]), (1, .box [I 0, I 0])]) (fun s k => s.1 ≤ T.length ∧ (T.drop s.1).foldl ckStep s.2 = R2) (fun s => T.length - s.1) (0, s) ⟨by simp, hR2⟩ (by simp) (memLe_refl _) ?_
      rintro ⟨j, s2⟩ k2 ⟨hj, hr2⟩
      simp only at hj hr2
      by_cases hjl : j < T.length
      · have hd2 : T.drop j = T[j] :: T.drop (j + 1) := List.drop_eq_getElem_cons hjl
        rw [hd2, List.foldl_cons] at hr2
        obtain ⟨y, hye⟩ : ∃ y, T[j] = y := ⟨_, rfl⟩
        rw [hye] at hr2
        have w2 := wr64 (x := (j : Int) + 1) (by omega) (by omega)
        unfold ckStep tellF at hr2
        by_cases g0 : s2.1 = 0
        · rw [if_pos (.inl g0)] at hr2
          simp -implicitDefEqProofs [lb11_0, hjl, hye, g0, w2]
          exact again_of (j + 1, (34, y)) ⟨hjl, hr2⟩ (by simp only; omega) (by simp) (by simp)
        · by_cases g1 : y < s2.2
          · rw [if_pos (.inr g1)] at hr2
            simp -implicitDefEqProofs [lb11_0, hjl, hye, g0, g1, w2]
            exact again_of (j + 1, (34, y)) ⟨hjl, hr2⟩ (by simp only; omega) (by simp) (by simp)
          · rw [if_neg (by omega)] at hr2
            simp -implicitDefEqProofs [lb11_0, hjl, hye, g0, g1, w2]
            exact again_of (j + 1, s2) ⟨hjl, hr2⟩ (by simp only; omega) (by simp) (by simp)
      · rw [List.drop_eq_nil_of_le (by omega), List.foldl_nil] at hr2
        subst hr2
        simp -implicitDefEqProofs [lb11_0, hjl, w1]
        exact again_of (i + 1, s2) ⟨hlt, hr⟩ (by simp only; omega) (by simp) (memLe_refl _)
    · rw [List.drop_eq_nil_of_le (by omega)] at hr
      unfold rtcF at hr
      subst hr
      simp -implicitDefEqProofs [lb11_1, hlt]
  · simp -implicitDefEqProofs [h0]
end Go.Fx.Ythbainhddfajfaa

namespace Go.Fx.Ythbainhddfajfaa
open Go Go.Fx Go.Proofs Go.Fx.Flt
mutual
theorem Wf_Sh {ms : List Mk} {a b : Nat} : ∀ (e : Ex), Wf ms a b e → Sh e
  | .mk op n tl ty z args p, h => by
    unfold Wf at h
    unfold Sh
    exact ⟨h.2.1, Wfs_Shs args h.2.2⟩
theorem Wfs_Shs {ms : List Mk} {a b : Nat} : ∀ (l : List Ex), Wfs ms a b l → Shs l
  | [], _ => by unfold Shs; trivial
  | e :: es, h => by
    unfold Wfs at h
    unfold Shs
    exact ⟨Wf_Sh e h.1, Wfs_Shs es h.2⟩
end
mutual
def NB (P : List Fn) : Ex → Prop
  | .mk op n _ _ _ args _ => (op = 7 → ¬ badH P n args.length) ∧ NBs P args
def NBs (P : List Fn) : List Ex → Prop
  | [] => True
  | e :: es => NB P e ∧ NBs P es
end
theorem callF_mk (P : List Fn) (op : Int) (n tl : List UInt8) (ty : Int) (z : Cx) (args : List Ex) (p : Int) : callF P (.mk op n tl ty z args p) = if op ≠ 7 then [] else if headI P 0 n < 0 then [(32, p)] else if (hdF P n).params.length ≠ args.length then [(33, p)] else [] := rfl
mutual
theorem nb_of {P : List Fn} : ∀ (e : Ex) (N : List (List UInt8)), seenFaults P (seenF e N) = [] → NB P e
  | .mk op n tl ty z args p, N, h => by
    unfold seenF at h
    rw [seenFaults_app, List.append_eq_nil_iff] at h
    unfold NB
    refine ⟨fun h7 => ?_, nbs_of op n tl 0 args N h.2⟩
    have h1 := h.1
    rw [if_pos (.inr h7)] at h1
    unfold seenFaults at h1
    rw [List.append_eq_nil_iff, List.append_eq_nil_iff] at h1
    have h2 := h1.1.2
    simp only at h2
    rw [callF_mk, if_neg (fun g => g h7)] at h2
    unfold badH
    by_cases g : headI P 0 n < 0
    · rw [if_pos g] at h2; simp at h2
    · rw [if_neg g] at h2
      by_cases g2 : (hdF P n).params.length = args.length
      · exact fun k => k.elim g (fun k => k g2)
      · rw [if_pos g2] at h2; simp at h2
theorem nbs_of {P : List Fn} (op : Int) (n t : List UInt8) (i : Nat) : ∀ (l : List Ex) (N : List (List UInt8)), seenFaults P (seensF op n t i l N) = [] → NBs P l
  | [], _, _ => by unfold NBs; trivial
  | x :: xs, N, h => by
    unfold seensF at h
    rw [seenFaults_app, List.append_eq_nil_iff] at h
    unfold NBs
    exact ⟨nb_of x _ h.1, nbs_of op n t (i + 1) xs N h.2⟩
end
def PT (P : List Fn) : Prop := ∀ f ∈ P, tyOk f.type ∧ ∀ p ∈ f.params, tyOk p.type
theorem hdF_mem {P : List Fn} {n : List UInt8} (h : ¬ headI P 0 n < 0) : hdF P n ∈ P := by
  have := headI_lt P 0 n
  have hi : (headI P 0 n).toNat < P.length := by omega
  unfold hdF
  rw [List.getElem?_eq_getElem hi]
  exact List.getElem_mem hi
theorem look_two : ∀ (l : List Pm) (n : List UInt8), (∀ x ∈ l, tyOk x.type) → (lookR l n = 0 ∧ lookR' l n = -1) ∨ (lookR l n = lookR' l n ∧ tyOk (lookR l n))
  | [], n, _ => .inl ⟨rfl, rfl⟩
  | x :: xs, n, h => by
    unfold lookR lookR'
    by_cases g : x.name = n
    · rw [if_pos g, if_pos g]; exact .inr ⟨rfl, h x (by simp)⟩
    · rw [if_neg g, if_neg g]; exact look_two xs n (fun y hy => h y (by simp [hy]))
theorem within_ok {env : List Pm} {op : Int} {n tl : List UInt8} {ty : Int} {i : Nat} {k : Nat} (h : ∀ x ∈ env, tyOk x.type) (hs : shape op ty k) : ∀ x ∈ withinI env op n tl ty i, tyOk x.type := by
  unfold withinI
  split
  · rename_i hc
    intro x hx
    rcases List.mem_append.1 hx with hx | hx
    · exact h x hx
    · simp only [List.mem_cons, List.not_mem_nil, or_false] at hx
      subst hx
      unfold shape at hs
      show tyOk ty
      rcases hs with hs | hs | hs | hs | hs | hs | hs <;> first | exact hs.2.2 | omega
  · split
    · intro x hx
      rcases List.mem_append.1 hx with hx | hx
      · exact h x hx
      · simp only [List.mem_cons, List.not_mem_nil, or_false] at hx
        rcases hx with rfl | rfl
        · exact .inl rfl
        · exact .inr (.inr rfl)
    · exact h
theorem wanted_two {P : List Fn} {op : Int} {n : List UInt8} {ty : Int} {i k : Nat} {t : Int} (hP : PT P) (hs : shape op ty k) (ht : tyOk t) (hb : op = 7 → ¬ badH P n k) (hi : i < k) : wantedI P op n ty i t = wantedR P op n ty i t ∧ tyOk (wantedI P op n ty i t) := by
  by_cases h7 : op = 7
  · have h1 := hb h7
    unfold badH at h1
    have h2 : ¬ headI P 0 n < 0 := fun g => h1 (.inl g)
    have h3 : (hdF P n).params.length = k := by
      rcases Nat.lt_or_ge (hdF P n).params.length k with g | g
      · exact absurd (.inr (by omega)) h1
      · rcases Nat.lt_or_ge k (hdF P n).params.length with g2 | g2
        · exact absurd (.inr (by omega)) h1
        · omega
    refine ⟨?_, ?_⟩
    · unfold wantedR
      rw [if_neg (fun g => g.2.elim h2 (fun g => by omega))]
    · subst h7
      have hlt : i < (hdF P n).params.length := by omega
      have := (hP _ (hdF_mem h2)).2 ((hdF P n).params[i]) (List.getElem_mem hlt)
      simp only [wantedI]
      rw [List.getElem?_eq_getElem hlt]
      simpa using this
  · refine ⟨?_, ?_⟩
    · unfold wantedR; rw [if_neg (fun g => h7 g.1)]
    · have hty : op = 21 ∨ op = 22 → tyOk ty := fun h => by
        unfold shape at hs
        rcases hs with hs | hs | hs | hs | hs | hs | hs <;> first | exact hs.2.2 | omega
      unfold wantedI
      have t1 : tyOk 1 := .inl rfl
      have t2 : tyOk 2 := .inr (.inl rfl)
      have t3 : tyOk 3 := .inr (.inr rfl)
      split
      · exact t2
      · split
        · split <;> assumption
        · split
          · split <;> assumption
          · split
            · split <;> assumption
            · split
              · rename_i h; split
                · exact hty h
                · exact ht
              · exact t1
theorem own_two {P : List Fn} {env : List Pm} {op : Int} {n : List UInt8} {ty : Int} {k : Nat} {t : Int} (hP : PT P) (he : ∀ x ∈ env, tyOk x.type) (hs : shape op ty k) (ht : tyOk t) (hb : op = 7 → ¬ badH P n k) : (ctlI op ∨ ownI P env op n ty k = t) ↔ ¬ (ownR P env op n ty k ≠ 0 ∧ ownR P env op n ty k ≠ t) := by
  have ht0 : t ≠ 0 ∧ t ≠ -1 := by unfold tyOk at ht; omega
  by_cases hc : ctlI op
  · have : ownR P env op n ty k = 0 := by unfold ownR; rw [if_pos hc]
    rw [this]; simp [hc]
  · by_cases h6 : op = 6
    · subst h6
      have h1 : ownI P env 6 n ty k = lookR env.reverse n := by simp [ownI, lookE]
      have h2 : ownR P env 6 n ty k = lookR' env.reverse n := by unfold ownR; rw [if_neg hc, if_pos rfl]
      rw [h1, h2]
      rcases look_two env.reverse n (fun x hx => he x (by simpa using hx)) with ⟨g1, g2⟩ | ⟨g1, g2⟩
      · rw [g1, g2]
        constructor
        · intro h; rcases h with h | h
          · exact absurd h hc
          · omega
        · intro h; omega
      · rw [← g1]
        unfold tyOk at g2
        constructor
        · intro h; rcases h with h | h
          · exact absurd h hc
          · omega
        · intro h; right; omega
    · have h1 : ownR P env op n ty k = ownI P env op n ty k := by
        unfold ownR
        rw [if_neg hc, if_neg h6, if_neg (fun g => hb g.1 g.2)]
      have h2 : tyOk (ownI P env op n ty k) := by
        have t1 : tyOk 1 := .inl rfl
        have t2 : tyOk 2 := .inr (.inl rfl)
        have t3 : tyOk 3 := .inr (.inr rfl)
        unfold ownI
        split
        · exact t2
        · split
          · exact t3
          · split
            · rename_i h5
              unfold shape at hs
              rcases hs with hs | hs | hs | hs | hs | hs | hs <;> first | exact hs.2.2 | omega
            · split
              · rename_i h7
                rw [if_neg (hb h7)]
                exact (hP _ (hdF_mem (fun g => hb h7 (.inl g)))).1
              · split
                · exact t2
                · split
                  · exact t3
                  · split
                    · exact t2
                    · exact t1
      rw [h1]
      unfold tyOk at h2
      constructor
      · intro h; rcases h with h | h
        · exact absurd h hc
        · omega
      · intro h; right; omega
mutual
theorem want_perm {P : List Fn} (hP : PT P) : ∀ (env : List Pm) (e : Ex) (t : Int), NB P e → Sh e → tyOk t → (∀ x ∈ env, tyOk x.type) → (wantL P env e t).Perm (wrongR P env e t)
  | env, .mk op n tl ty z args p, t, hn, hs, ht, he => by
    unfold NB at hn
    unfold Sh at hs
    have h1 := wants_perm hP env op n tl ty t args.length 0 args hn.2 hs.2 hs.1 ht he hn.1 (by omega)
    have h2 := own_two (n := n) hP he hs.1 ht hn.1
    unfold wantL wrongR
    rw [if_neg (fun g => hn.1 g.1 g.2)]
    refine List.Perm.trans List.perm_append_comm (List.Perm.append ?_ h1)
    by_cases g : ctlI op ∨ ownI P env op n ty args.length = t
    · rw [if_pos g, if_neg (h2.1 g)]
    · rw [if_neg g, if_pos (Classical.not_not.1 (fun k => g (h2.2 k)))]
theorem wants_perm {P : List Fn} (hP : PT P) (env : List Pm) (op : Int) (n tl : List UInt8) (ty t : Int) (k : Nat) : ∀ (i : Nat) (l : List Ex), NBs P l → Shs l → shape op ty k → tyOk t → (∀ x ∈ env, tyOk x.type) → (op = 7 → ¬ badH P n k) → i + l.length ≤ k → (wantsL P env op n tl ty t i l).Perm (wrongsR P env op n tl ty t i l)
  | i, [], _, _, _, _, _, _, _ => by unfold wantsL wrongsR; exact List.Perm.refl _
  | i, x :: xs, hn, hs, hsh, ht, he, hb, hl => by
    unfold NBs at hn
    unfold Shs at hs
    simp only [List.length_cons] at hl
    obtain ⟨w1, w2⟩ := wanted_two (i := i) hP hsh ht hb (by omega)
    unfold wantsL wrongsR
    refine List.Perm.append ?_ (wants_perm hP env op n tl ty t k (i + 1) xs hn.2 hs.2 hsh ht he hb (by omega))
    rw [← w1]
    exact want_perm hP _ x _ hn.1 hs.1 w2 (within_ok he hsh)
end
theorem ck_comm (s : Ft) (p q : Int) : ckStep (ckStep s p) q = ckStep (ckStep s q) p := by
  by_cases h : p = q
  · subst h; rfl
  · exact tell_comm (x := (34, p)) (y := (34, q)) (by simp) (by simp) h s
theorem fold_perm {l k : List Int} (h : l.Perm k) (s : Ft) : l.foldl ckStep s = k.foldl ckStep s := h.foldl_eq' (fun x _ y _ z => ck_comm z x y) s
theorem least_nz : ∀ (l : List Ft) (s : Ft), s.1 ≠ 0 → (∀ x ∈ l, x.1 ≠ 0) → (leastF l s).1 ≠ 0
  | [], s, h, _ => h
  | x :: xs, s, h, hx => by
    refine least_nz xs _ ?_ (fun y hy => hx y (by simp [hy]))
    unfold tellF
    split
    · exact hx x (by simp)
    · exact h
theorem least_zero {l : List Ft} (h : (leastF l (0, 0)).1 = 0) (hx : ∀ x ∈ l, x.1 ≠ 0) : l = [] := by
  cases l with
  | nil => rfl
  | cons x xs =>
    refine absurd h (least_nz xs _ ?_ (fun y hy => hx y (by simp [hy])))
    unfold tellF
    rw [if_pos (.inl rfl)]
    exact hx x (by simp)
theorem bodies_in {ms : List Mk} {P : List Fn} : ∀ (l : List Fn) (a b : Nat), Fns ms a l b → ∀ x ∈ bodiesF P l, x.1 ≠ 0
  | [], a, b, _, x, hx => by simp [bodiesF] at hx
  | f :: fs, a, b, h, x, hx => by
    unfold Fns at h
    obtain ⟨c, hf, hs⟩ := h
    unfold bodiesF at hx
    rcases List.mem_append.1 hx with hx | hx
    · exact (body_in hf x hx).1
    · exact bodies_in fs c b hs x hx
theorem bodies_nil {P : List Fn} : ∀ {l : List Fn}, bodiesF P l = [] → ∀ f ∈ l, bodyF P f = []
  | f :: fs, h, g, hg => by
    unfold bodiesF at h
    rw [List.append_eq_nil_iff] at h
    rcases List.mem_cons.1 hg with rfl | hg
    · exact h.1
    · exact bodies_nil h.2 g hg
theorem Fns_ok {ms : List Mk} : ∀ {l : List Fn} {a b : Nat}, Fns ms a l b → ∀ f ∈ l, Sh f.body ∧ tyOk f.type ∧ ∀ p ∈ f.params, tyOk p.type
  | f :: fs, a, b, h, g, hg => by
    unfold Fns at h
    obtain ⟨c, hf, hs⟩ := h
    rcases List.mem_cons.1 hg with rfl | hg
    · exact ⟨Wf_Sh _ hf.body, hf.type, fun p hp => (hf.params p hp).2⟩
    · exact Fns_ok hs g hg
theorem prog_nb {P : List Fn} (h : ProgOk P) (h0 : (ckF P).1 = 0) : ∀ f ∈ P, NB P f.body := by
  obtain ⟨ms, a, b, _, hl, hr, hb, hF, _⟩ := h
  unfold ckF at h0
  rw [all_eq hr P a b 0 _ hF hb] at h0
  have h1 := least_zero h0 (fun x hx => (List.mem_append.1 hx).elim (fun hx => (twice_in P a b 0 hF hb x hx).1) (bodies_in P a b hF x))
  rw [List.append_eq_nil_iff] at h1
  intro f hf
  have h2 := bodies_nil h1.2 f hf
  unfold bodyF at h2
  rw [List.append_eq_nil_iff] at h2
  exact nb_of _ _ h2.2
theorem prog_sh {P : List Fn} (h : ProgOk P) : PT P ∧ P.length < 2 ^ 40 ∧ ∀ f ∈ P, size f.body ≤ 2 ^ 37 ∧ f.params.length ≤ 2 ^ 37 ∧ Sh f.body := by
  obtain ⟨ms, a, b, _, hl, hr, hb, hF, _⟩ := h
  obtain ⟨k1, k2⟩ := prog_sizes P a b hF
  exact ⟨fun f hf => (Fns_ok hF f hf).2, by omega, fun f hf => by
    have := k2 f hf
    exact ⟨by omega, by omega, (Fns_ok hF f hf).1⟩⟩
theorem types_eq {P : List Fn} (h : ProgOk P) : typesF P = rtypesF P := by
  unfold typesF rtypesF
  by_cases h0 : (ckF P).1 = 0
  · rw [if_neg (fun g => g h0), if_neg (fun g => g h0)]
    have hn := prog_nb h h0
    obtain ⟨hP, _, hs⟩ := prog_sh h
    have : ∀ (l : List Fn) (s : Ft), (∀ f ∈ l, f ∈ P) → tcF P l s = rtcF P l s := by
      intro l
      induction l with
      | nil => intro s _; rfl
      | cons f fs ih =>
        intro s hl
        have hf := hl f (by simp)
        unfold tcF rtcF
        rw [fold_perm (want_perm hP f.params f.body f.type (hn f hf) (hs f hf).2.2 (hP f hf).1 (hP f hf).2) s]
        exact ih _ (fun g hg => hl g (by simp [hg]))
    exact this P _ (fun f hf => hf)
  · rw [if_pos h0, if_pos h0]
end Go.Fx.Ythbainhddfajfaa

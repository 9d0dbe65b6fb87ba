/-
  Layer 6: the reference's small functions.
  Layer 6: the reference's variables and calls of an expression.
  Layer 6: the reference's faults.
  Layer 6: the reference's Check.
-/
import Derived.Test.YthbainhddfajfaaCodeRef6
import Derived.Test.YthbainhddfajfaaSaB
import Derived.Test.YthbainhddfajfaaXJ
set_option linter.all false
set_option maxRecDepth 100000
set_option maxHeartbeats 4000000
namespace Go.Fx.Ythbainhddfajfaa
open Go Go.Fx Go.Proofs Go.Fx.Flt
theorem em_elsS {α : Type} {enc : α → List D} {l : List α} {mem : Mem} {k : Nat} (h : ∀ x, (enc x).all D.cell = true) (hk : ∀ x, (enc x).length = k) : els mem k (.sl (em enc l)) = some (em enc l) := by
  show (if (em enc l).all (fun e => e.length == k && e.all D.cell) = true then some (em enc l) else none) = _
  rw [if_pos (em_els h hk)]
theorem els_T {l : List (List UInt8)} {mem : Mem} : els mem 1 (.sl (em encT l)) = some (em encT l) := em_elsS (fun x => rfl) (fun x => rfl)
attribute [simp 1200] els_T
theorem imm_T (l : List (List UInt8)) : D.immss (em encT l) = true := em_imm fun f => by simp [encT]
theorem cell_T (l : List (List UInt8)) : (em encT l).all (fun e => e.all D.cell) = true := em_cell fun f => by simp [encT]
attribute [simp] imm_T cell_T
def hasF : List (List UInt8) → List UInt8 → Bool
  | [], _ => false
  | x :: xs, n => if x = n then true else hasF xs n
theorem Has_c (l : List (List UInt8)) (n : List UInt8) (hl : l.length < 2 ^ 40) : Pure Try.prog 42 [.sl (em encT l), Tx n] (.pl (.bool (hasF l n))) := by
  refine pu42 (by simp) ?_
  simp -implicitDefEqProofs [ac42]
  generalize hR : hasF l n = R
  refine lp42_0 (α := Nat) (fun s _ => [(5, I s)]) (fun s _ => []) (fun s k => s ≤ l.length ∧ hasF (l.drop s) n = R) (fun s => l.length - s) 0 ⟨by simp, hR⟩ (by simp) (by simp) ?_
  rintro i k ⟨hi, hr⟩
  by_cases hlt : i < l.length
  · have hd : l.drop i = l[i] :: l.drop (i + 1) := List.drop_eq_getElem_cons hlt
    rw [hd] at hr
    unfold hasF at hr
    have w1 := wr64 (x := (i : Int) + 1) (by omega) (by omega)
    by_cases hg : l[i] = n
    · rw [if_pos hg] at hr
      subst hr
      simp -implicitDefEqProofs [lb42_0, hlt, hg]
    · rw [if_neg hg] at hr
      simp -implicitDefEqProofs [lb42_0, hlt, hg, w1]
      exact again_of (i + 1) ⟨hlt, hr⟩ (by omega) (by simp) (by simp)
  · rw [List.drop_eq_nil_of_le (by omega)] at hr
    unfold hasF at hr
    subst hr
    simp -implicitDefEqProofs [lb42_0, hlt]
theorem Bound_c (e : Ex) (i : Int) : Pure Try.prog 54 [.agg (encEx e), I i] (.sl (em encT (boundF e i))) := by
  refine pu54 (by simp) ?_
  simp only [encEx_eq, boundF]
  generalize e.op = op
  unfold boundO
  by_cases h1 : op = 21
  · simp -implicitDefEqProofs [ac54, h1]; rfl
  · by_cases h2 : op = 22
    · by_cases h3 : i = 1
      · simp -implicitDefEqProofs [ac54, h1, h2, h3]; rfl
      · simp -implicitDefEqProofs [ac54, h1, h2, h3]
    · by_cases h4 : op = 20
      · by_cases h3 : i = 2
        · simp -implicitDefEqProofs [ac54, h1, h2, h3, h4]; rfl
        · simp -implicitDefEqProofs [ac54, h1, h2, h3, h4]
      · simp -implicitDefEqProofs [ac54, h1, h2, h4]
/-- The first definition of a name from the number k on; -1: none. -/
def headI : List Fn → Nat → List UInt8 → Int
  | [], _, _ => -1
  | f :: fs, k, n => if f.name = n then k else headI fs (k + 1) n
theorem heads_c (P : List Fn) (n : List UInt8) (hl : P.length < 2 ^ 40) : Pure Try.prog 41 [.agg [.sl (em encFn P)], Tx n] (I (headI P 0 n)) := by
  refine pu41 (by simp) ?_
  simp -implicitDefEqProofs [ac41]
  generalize hR : headI P 0 n = R
  refine lp41_0 (α := Nat) (fun s _ => [(5, I s)]) (fun s _ => []) (fun s k => s ≤ P.length ∧ headI (P.drop s) s n = R) (fun s => P.length - s) 0 ⟨by simp, hR⟩ (by simp) (by simp) ?_
  rintro i k ⟨hi, hr⟩
  by_cases hlt : i < P.length
  · have hd : P.drop i = P[i] :: P.drop (i + 1) := List.drop_eq_getElem_cons hlt
    rw [hd] at hr
    unfold headI at hr
    obtain ⟨x, hxe⟩ : ∃ x, P[i] = x := ⟨_, rfl⟩
    rw [hxe] at hr
    have w1 := wr64 (x := (i : Int) + 1) (by omega) (by omega)
    by_cases hg : x.name = n
    · rw [if_pos hg] at hr
      subst hr
      simp -implicitDefEqProofs [lb41_0, hlt, hxe, hg]
    · rw [if_neg hg] at hr
      simp -implicitDefEqProofs [lb41_0, hlt, hxe, hg, w1]
      exact again_of (i + 1) ⟨hlt, hr⟩ (by omega) (by simp) (by simp)
  · rw [List.drop_eq_nil_of_le (by omega)] at hr
    unfold headI at hr
    subst hr
    simp -implicitDefEqProofs [lb41_0, hlt]
theorem with_c (l k : List (List UInt8)) (hl : l.length < 2 ^ 40) (hk : k.length < 2 ^ 40) : Pure Try.prog 53 [.sl (em encT l), .sl (em encT k)] (.sl (em encT (l ++ k))) := by
  refine pu53 (by simp) ?_
  have b1 : l.length * 16 ≤ 3 * 2 ^ 46 := by omega
  have b2 : (l.length + k.length) * 16 ≤ 3 * 2 ^ 46 := by omega
  simp -implicitDefEqProofs [-els, ac53, b1, b2]
  rw [List.take_of_length_le (by simp)]
end Go.Fx.Ythbainhddfajfaa
namespace Go.Fx.Ythbainhddfajfaa
open Go Go.Fx Go.Proofs Go.Fx.Flt
abbrev Sn := Ex × Bool
def encSn (s : Sn) : List D := encEx s.1 ++ [.pl (.bool s.2)]
theorem encSn_eq (s : Sn) : encSn s = [I s.1.op, Tx s.1.name, Tx s.1.tail, I s.1.type, CX s.1.num.re s.1.num.im, .sl (em encEx s.1.args), I s.1.at', .pl (.bool s.2)] := by
  unfold encSn; rw [encEx_eq]; rfl
theorem els_Sn {l : List Sn} {mem : Mem} : els mem 8 (.sl (em encSn l)) = some (em encSn l) := em_elsS (fun x => by rw [encSn_eq]; rfl) (fun x => by rw [encSn_eq]; rfl)
attribute [simp 1200] els_Sn
theorem imm_Sn (l : List Sn) : D.immss (em encSn l) = true := em_imm fun f => by rw [encSn_eq]; simp
theorem cell_Sn (l : List Sn) : (em encSn l).all (fun e => e.all D.cell) = true := em_cell fun f => by rw [encSn_eq]; rfl
attribute [simp] imm_Sn cell_Sn
theorem ia_Sn {l : List Sn} {mem : Mem} {j : IntKind} {i : Int} : iaD mem 8 (.sl (em encSn l)) (.pl (.int j i)) = if 0 ≤ i ∧ i < l.length then some (.pt [I (l[i.toNat]?.getD default).1.op, Tx (l[i.toNat]?.getD default).1.name, Tx (l[i.toNat]?.getD default).1.tail, I (l[i.toNat]?.getD default).1.type, CX (l[i.toNat]?.getD default).1.num.re (l[i.toNat]?.getD default).1.num.im, .sl (em encEx (l[i.toNat]?.getD default).1.args), I (l[i.toNat]?.getD default).1.at', .pl (.bool (l[i.toNat]?.getD default).2)]) else none := by
  rw [← encSn_eq]
  exact em_ia fun f => by rw [encSn_eq]; rfl
attribute [simp] ia_Sn
mutual
def seenF : Ex → List (List UInt8) → List Sn
  | .mk op n t ty z args p, N => (if op = 6 ∨ op = 7 then [(.mk op n t ty z args p, op = 6 && !hasF N n)] else []) ++ seensF op n t 0 args N
def seensF (op : Int) (n t : List UInt8) (i : Nat) : List Ex → List (List UInt8) → List Sn
  | [], _ => []
  | x :: xs, N => seenF x (N ++ boundO op n t i) ++ seensF op n t (i + 1) xs N
end
mutual
theorem seenF_len : ∀ (e : Ex) (N : List (List UInt8)), (seenF e N).length ≤ size e
  | .mk op n t ty z args p, N => by
    have := seensF_len op n t 0 args N
    unfold seenF size
    rw [List.length_append]
    split <;> simp <;> omega
theorem seensF_len (op : Int) (n t : List UInt8) (i : Nat) : ∀ (l : List Ex) (N : List (List UInt8)), (seensF op n t i l N).length ≤ sizes l
  | [], N => by simp [seensF, sizes]
  | x :: xs, N => by
    have h1 := seenF_len x (N ++ boundO op n t i)
    have h2 := seensF_len op n t (i + 1) xs N
    unfold seensF sizes
    rw [List.length_append]; omega
end
def SC (e : Ex) : Prop := ∀ ⦃N : List (List UInt8)⦄, N.length + 2 * size e < 2 ^ 39 → Pure Try.prog 43 [.agg (encEx e), .sl (em encT N)] (.sl (em encSn (seenF e N)))
theorem seen_s (op : Int) (n t : List UInt8) (ty : Int) (z : Cx) (args : List Ex) (p : Int) (ih : ∀ x ∈ args, SC x) : SC (.mk op n t ty z args p) := by
  intro N hN
  have hal := size_len args
  have hsl := seensF_len op n t 0 args N
  have hR : seenF (.mk op n t ty z args p) N = (if op = 6 ∨ op = 7 then [(.mk op n t ty z args p, op = 6 && !hasF N n)] else []) ++ seensF op n t 0 args N := by simp only [seenF]
  have hlen : (seenF (.mk op n t ty z args p) N).length ≤ 2 ^ 39 := by have := seenF_len (.mk op n t ty z args p) N; omega
  simp only [size] at hN
  have hH := Has_c N n (by omega)
  have hB := Bound_c (.mk op n t ty z args p)
  have hbF : ∀ i, boundF (.mk op n t ty z args p) i = boundO op n t i := fun i => rfl
  simp only [hbF] at hB
  generalize hRR : seenF (.mk op n t ty z args p) N = R at *
  clear hRR
  simp only [encEx_mk] at hB ⊢
  -- the loop
  have loop : ∀ (id nx : Nat) (l0 : List Sn) (es : List (List D)) (n0 : Nat) (Q : Exit → St → Prop), es = em encSn l0 → n0 = l0.length → id < nx → l0 ++ seensF op n t 0 args N = R → (∀ v nx', Q (.exit 0) ⟨[(0, .agg [I op, Tx n, Tx t, I ty, CX z.re z.im, .sl (em encEx args), I p]), (1, .sl (em encT N)), (2, .pt [I op, Tx n, Tx t, I ty, CX z.re z.im, .sl (em encEx args), I p]), (4, .pl (.slice none 0 0)), (5, .osl id v 0 R.length), (6, I args.length), (7, .top), (8, .top)], [], [(id, .arr v 8 (em encSn R))], nx'⟩) →
      A cf43 (.loop lb43_0) Q [(0, .agg [I op, Tx n, Tx t, I ty, CX z.re z.im, .sl (em encEx args), I p]), (1, .sl (em encT N)), (2, .pt [I op, Tx n, Tx t, I ty, CX z.re z.im, .sl (em encEx args), I p]), (4, .pl (.slice none 0 0)), (5, .osl id 0 0 n0), (6, I 0), (7, .pl undef), (8, .pl undef)] [(id, .arr 0 8 es)] nx := by
    rintro id nx l0 _ _ Q rfl rfl hid hl0 hq
    refine lp43_0 (α := Nat × Nat × List Sn) (fun s _ => [(5, .osl id s.2.1 0 s.2.2.length), (6, I s.1), (7, .top), (8, .top)]) (fun s _ => [(id, .arr s.2.1 8 (em encSn s.2.2))]) (fun s k => id < k ∧ s.1 ≤ args.length ∧ s.2.2 ++ seensF op n t s.1 (args.drop s.1) N = R) (fun s => args.length - s.1) (0, 0, l0) ⟨hid, by simp, hl0⟩ (by simp) (by simp) ?_
    rintro ⟨i, v, l⟩ k ⟨hk, hi, hr⟩
    simp only at hi hr
    by_cases hlt : i < args.length
    · have hd : args.drop i = args[i] :: args.drop (i + 1) := List.drop_eq_getElem_cons hlt
      have hmem : args[i] ∈ args := List.getElem_mem hlt
      rw [hd] at hr
      unfold seensF at hr
      obtain ⟨x, hxe⟩ : ∃ x, args[i] = x := ⟨_, rfl⟩
      rw [hxe] at hr hmem
      have w1 := wr64 (x := (i : Int) + 1) (by omega) (by omega)
      have hbl := bound_len op n t i
      have hBi := hB i
      have hsx := size_mem hmem
      have hs1 : 1 ≤ size x := by cases x; simp only [size]; omega
      have hW := with_c N (boundO op n t i) (by omega) (by omega)
      generalize boundO op n t i = M at *
      have hS := ih x hmem (N := N ++ M) (by rw [List.length_append]; omega)
      simp only [encEx_eq] at hS
      generalize seenF x (N ++ M) = T at *
      have hb : (l.length + T.length) * 104 ≤ 3 * 2 ^ 46 := by
        have := congrArg List.length hr
        simp only [List.length_append] at this; omega
      simp -implicitDefEqProofs [-els, lb43_0, hlt, hxe]
      refine pcK_of (hBi) (by simp) ?_
      simp -implicitDefEqProofs
      refine pcK_of (hW) (by simp) ?_
      simp -implicitDefEqProofs [hlt, hxe]
      refine pcK_of hS (by simp) ?_
      simp -implicitDefEqProofs [-els, els_Sn, hb, w1]
      exact again_of (i + 1, v + 1, l ++ T) ⟨by omega, hlt, by rw [List.append_assoc]; exact hr⟩ (by simp only; omega) (by simp) (by simp)
    · rw [List.drop_eq_nil_of_le (by omega)] at hr
      unfold seensF at hr
      rw [List.append_nil] at hr
      subst hr
      have hia : i = args.length := by omega
      subst hia
      simp -implicitDefEqProofs [lb43_0]
      exact hq _ _
  refine pu43 (by simp) ?_
  by_cases h6 : op = 6
  · subst h6
    rw [if_pos (.inl rfl)] at hR
    simp -implicitDefEqProofs [ac43]
    refine pcK_of (hH) (by simp) ?_
    simp -implicitDefEqProofs
    refine loop _ _ _ _ _ _ ?_ (by rfl) ?_ hR.symm (fun v nx2 => ?_) <;> first | omega | (simp [em, encSn_eq, Ex.op, Ex.name, Ex.tail, Ex.type, Ex.num, Ex.args, Ex.at']; done) | skip
    simp -implicitDefEqProofs
  · by_cases h7 : op = 7
    · subst h7
      rw [if_pos (.inr rfl)] at hR
      simp -implicitDefEqProofs [ac43]
      refine loop _ _ _ _ _ _ ?_ (by rfl) ?_ hR.symm (fun v nx2 => ?_) <;> first | omega | (simp [em, encSn_eq, Ex.op, Ex.name, Ex.tail, Ex.type, Ex.num, Ex.args, Ex.at']; done) | skip
      simp -implicitDefEqProofs
    · rw [if_neg (by omega)] at hR
      simp -implicitDefEqProofs [ac43, h6, h7]
      refine A_loop_own (j := 5) (k := 8) rfl (.inl rfl) ?_
      simp -implicitDefEqProofs
      refine loop _ _ _ _ _ _ ?_ (by rfl) ?_ hR.symm (fun v nx2 => ?_) <;> first | omega | (simp [em, encSn_eq, Ex.op, Ex.name, Ex.tail, Ex.type, Ex.num, Ex.args, Ex.at']; done) | skip
      simp -implicitDefEqProofs
mutual
theorem seen_c : ∀ (e : Ex), SC e
  | .mk op n t ty z args p => seen_s op n t ty z args p (seen_cs args)
theorem seen_cs : ∀ (l : List Ex), ∀ x ∈ l, SC x
  | [], x, h => by simp at h
  | e :: es, x, h => (List.mem_cons.1 h).elim (fun he => he ▸ seen_c e) (fun h => seen_cs es x h)
end
end Go.Fx.Ythbainhddfajfaa

namespace Go.Fx.Ythbainhddfajfaa
open Go Go.Fx Go.Proofs Go.Fx.Flt
abbrev encFt (s : Ft) : List D := [I s.1, I s.2]
def parFaults : List Pm → List (List UInt8) → List Ft
  | [], _ => []
  | x :: xs, N => (if hasF N x.name = true then [(30, x.at')] else []) ++ parFaults xs (N ++ [x.name])
def callF (P : List Fn) (e : Ex) : List Ft := if e.op ≠ 7 then [] else if headI P 0 e.name < 0 then [(32, e.at')] else if (P[(headI P 0 e.name).toNat]?.getD default).params.length ≠ e.args.length then [(33, e.at')] else []
def seenFaults (P : List Fn) : List Sn → List Ft
  | [] => []
  | s :: r => ((if s.2 = true then [(31, s.1.at')] else []) ++ callF P s.1) ++ seenFaults P r
def namesF (f : Fn) : List (List UInt8) := f.params.map Pm.name
def fnF (P : List Fn) (i : Nat) (f : Fn) : List Ft := (if headI P 0 f.name < i then [(30, f.at')] else []) ++ parFaults f.params [] ++ seenFaults P (seenF f.body (namesF f))
def allF (P : List Fn) : List Fn → Nat → List Ft
  | [], _ => []
  | f :: fs, i => fnF P i f ++ allF P fs (i + 1)
theorem snocFt (l : List Ft) (a b : Int) : em encFt l ++ [[.pl (.int .i64 a), .pl (.int .i64 b)]] = em encFt (l ++ [(a, b)]) := em_app (enc := encFt) (x := (a, b))
theorem takeS {α : Type} (l : List α) (a : α) : List.take (l.length + 1) (l ++ [a]) = l ++ [a] := List.take_of_length_le (by simp)
theorem snocT (l : List (List UInt8)) (a : List UInt8) : em encT l ++ [[Tx a]] = em encT (l ++ [a]) := em_app (enc := encT) (x := a)
theorem imm_Ft (l : List Ft) : D.immss (em encFt l) = true := em_imm fun f => by simp [encFt]
theorem cell_Ft (l : List Ft) : (em encFt l).all (fun e => e.all D.cell) = true := em_cell fun f => by simp [encFt]
attribute [simp] imm_Ft cell_Ft
theorem args_size : ∀ (e : Ex), e.args.length ≤ size e
  | .mk op n t ty z args p => by
    have := size_len args
    simp only [size, Ex.args]; omega
theorem headI_lt : ∀ (l : List Fn) (k : Nat) (n : List UInt8), headI l k n = -1 ∨ (k : Int) ≤ headI l k n ∧ headI l k n < k + l.length
  | [], k, n => .inl rfl
  | f :: fs, k, n => by
    unfold headI
    split
    · right; simp only [List.length_cons]; omega
    · have := headI_lt fs (k + 1) n
      simp only [List.length_cons]; omega
abbrev env6 (P : List Fn) (i : Nat) (a b c d e f g h : D) : Env := [(0, .agg [.sl (em encFn P)]), (1, .pt [.sl (em encFn P)]), (2, .pl (.slice none 0 0)), (3, a), (4, I i), (5, b), (6, c), (7, d), (8, e), (9, f), (10, g), (11, h)]
theorem f6_loop1 {P : List Fn} {i id nx b5 v : Nat} {x : Fn} {l : List Ft} {n0 : Nat} {Q : Exit → St → Prop} (h0 : n0 = l.length) (h1 : id < b5) (h2 : b5 < nx) (hx : x.params.length ≤ 2 ^ 40) (hl : (l ++ parFaults x.params []).length * 16 ≤ 3 * 2 ^ 46)
    (hq : ∀ v' nx', nx ≤ nx' → Q (.exit 2) ⟨env6 P i (.osl id v' 0 (l ++ parFaults x.params []).length) (.opt b5 0) (.sl (em encT (namesF x))) (I x.params.length) .top .top .top .top, [], [(b5, .box (encFn x)), (id, .arr v' 2 (em encFt (l ++ parFaults x.params [])))], nx'⟩) :
    A cf24 (.loop lb24_1) Q (env6 P i (.osl id v 0 n0) (.opt b5 0) (.pl (.slice none 0 0)) (I 0) .top .top .top .top) [(b5, .box (encFn x)), (id, .arr v 2 (em encFt l))] nx := by
  subst h0
  refine A_loop_own (j := 6) (k := 1) rfl (.inl rfl) ?_
  refine A_loop_post ?_
  have hbid : (b5 = id) = False := eq_false (by omega)
  generalize hR : l ++ parFaults x.params [] = R at *
  refine lp24_1 (α := Nat × Nat × List Ft × Nat × List (List UInt8)) (fun s _ => [(3, .osl id s.2.1 0 s.2.2.1.length), (6, .osl nx s.2.2.2.1 0 s.2.2.2.2.length), (7, I s.1)]) (fun s _ => [(nx, .arr s.2.2.2.1 1 (em encT s.2.2.2.2)), (b5, .box (encFn x)), (id, .arr s.2.1 2 (em encFt s.2.2.1))]) (fun s k => nx < k ∧ s.1 ≤ x.params.length ∧ s.2.2.2.2 = (namesF x).take s.1 ∧ s.2.2.1 ++ parFaults (x.params.drop s.1) s.2.2.2.2 = R) (fun s => x.params.length - s.1) (0, v, l, 0, []) ⟨by omega, by simp, by simp, hR⟩ (by simp [upd]) (by simp) ?_
  rintro ⟨j, v1, l1, v2, N⟩ k ⟨hk, hj, hN, hr⟩
  simp only at hj hN hr
  have g1 : id < nx := by omega
  have g2 : id < k := by omega
  have g3 : b5 < k := by omega
  have g4 : (nx = id) = False := eq_false (by omega)
  have g5 : (nx = b5) = False := eq_false (by omega)
  have hNl : N.length = j := by rw [hN, List.length_take]; simp [namesF]; omega
  by_cases hlt : j < x.params.length
  · have hd : x.params.drop j = x.params[j] :: x.params.drop (j + 1) := List.drop_eq_getElem_cons hlt
    have hN1 : N ++ [x.params[j].name] = (namesF x).take (j + 1) := by
      rw [hN, List.take_add_one]; simp [namesF, hlt]
    rw [hd] at hr
    unfold parFaults at hr
    obtain ⟨y, hye⟩ : ∃ y, x.params[j] = y := ⟨_, rfl⟩
    rw [hye] at hr hN1
    have w1 := wr64 (x := (j : Int) + 1) (by omega) (by omega)
    have hH := Has_c N y.name (by omega)
    have hb2 : (N.length + 1) * 16 ≤ 3 * 2 ^ 46 := by omega
    by_cases hg : hasF N y.name = true
    · rw [if_pos hg] at hr
      rw [hg] at hH
      have hb : (l1.length + 1) * 16 ≤ 3 * 2 ^ 46 := by
        have := congrArg List.length hr
        simp only [List.length_append, List.length_cons, List.length_nil] at this; omega
      simp -implicitDefEqProofs [lb24_1, encFn_eq, g2, g3, g4, g5, hk, neC g2, neC g3, neC hk, neA, ltA, hbid, hlt, hye]
      refine clK_of (CallT_plain (memSub_refl _) (by simp [frzs, frz, g4, g5, hbid]) hH ?_)
      simp -implicitDefEqProofs [encFn_eq, g2, g3, g4, g5, hk, neC g2, neC g3, neC hk, neA, ltA, hbid, hlt, hye, hb, hb2, w1, snocFt, snocT]
      exact again_of (j + 1, v1 + 1, l1 ++ [(30, y.at')], v2 + 1, N ++ [y.name]) ⟨by omega, hlt, hN1, by rw [List.append_assoc]; exact hr⟩ (by simp only; omega) (by simp) (by simp [encFn_eq])
    · rw [if_neg hg, List.nil_append] at hr
      have hg' : hasF N y.name = false := by simpa using hg
      rw [hg'] at hH
      simp -implicitDefEqProofs [lb24_1, encFn_eq, g2, g3, g4, g5, hk, neC g2, neC g3, neC hk, neA, ltA, hbid, hlt, hye]
      refine clK_of (CallT_plain (memSub_refl _) (by simp [frzs, frz, g4, g5, hbid]) hH ?_)
      simp -implicitDefEqProofs [encFn_eq, g2, g3, g4, g5, hk, neC g2, neC g3, neC hk, neA, ltA, hbid, hlt, hye, hb2, w1, snocFt, snocT]
      exact again_of (j + 1, v1, l1, v2 + 1, N ++ [y.name]) ⟨by omega, hlt, hN1, hr⟩ (by simp only; omega) (by simp) (by simp [encFn_eq])
  · have hje : j = x.params.length := by omega
    subst hje
    rw [List.drop_eq_nil_of_le (Nat.le_refl _)] at hr
    unfold parFaults at hr
    rw [List.append_nil] at hr
    have hNn : N = namesF x := by rw [hN]; exact List.take_of_length_le (by simp [namesF])
    subst hNn
    subst hr
    simp -implicitDefEqProofs [lb24_1, encFn_eq, g2, g3, g4, g5, hk, neC g2, neC g3, neC hk, neA, ltA, hbid]
    refine PostW_frz2 (j := 6) (d' := .sl (em encT (namesF x))) [(nx, .arr v2 1 (em encT (namesF x)))] [(b5, .box (encFn x)), (id, .arr v1 2 (em encFt l1))] rfl (by simp [frz, look]) ?_ ?_ ?_ (by simpa [upd] using hq v1 _ (by omega))
    · exact memSub_cons (memSub_nil _)
    · rw [encFn_eq]; exact memSub_skip (memSub_refl _) (by simp only [look]; rw [if_neg (by omega), if_neg (by omega)])
    · intro m
      by_cases hm : nx = m
      · subst hm; right; simp only [look]; rw [if_neg (by omega), if_neg (by omega)]
      · left; simp [look, hm]
theorem f6_loop0 {P : List Fn} {i id nx b5 v : Nat} {x : Fn} {l : List Ft} {T : List Sn} {c d : D} {n0 : Nat} {Q : Exit → St → Prop} (h0 : n0 = l.length) (hP : P.length < 2 ^ 40) (h1 : id < b5) (h2 : b5 < nx) (hT : T.length ≤ 2 ^ 40) (hTa : ∀ s ∈ T, s.1.args.length ≤ 2 ^ 40) (hl : (l ++ seenFaults P T).length * 16 ≤ 3 * 2 ^ 46)
    (hq : ∀ v' nx', nx ≤ nx' → Q (.exit 4) ⟨env6 P i (.osl id v' 0 (l ++ seenFaults P T).length) (.opt b5 0) c d (.sl (em encSn T)) (I T.length) .top .top, [], [(b5, .box (encFn x)), (id, .arr v' 2 (em encFt (l ++ seenFaults P T)))], nx'⟩) :
    A cf24 (.loop lb24_0) Q (env6 P i (.osl id v 0 n0) (.opt b5 0) c d (.sl (em encSn T)) (I 0) .top .top) [(b5, .box (encFn x)), (id, .arr v 2 (em encFt l))] nx := by
  subst h0
  have hbid : (b5 = id) = False := eq_false (by omega)
  generalize hR : l ++ seenFaults P T = R at *
  refine lp24_0 (α := Nat × Nat × List Ft) (fun s _ => [(3, .osl id s.2.1 0 s.2.2.length), (9, I s.1), (10, .top), (11, .top)]) (fun s _ => [(b5, .box (encFn x)), (id, .arr s.2.1 2 (em encFt s.2.2))]) (fun s k => nx ≤ k ∧ s.1 ≤ T.length ∧ s.2.2 ++ seenFaults P (T.drop s.1) = R) (fun s => T.length - s.1) (0, v, l) ⟨by omega, by simp, hR⟩ (by simp) (by simp) ?_
  rintro ⟨j, v1, l1⟩ k ⟨hk, hj, hr⟩
  simp only at hj hr
  have g2 : id < k := by omega
  have g3 : b5 < k := by omega
  by_cases hlt : j < T.length
  · have hd : T.drop j = T[j] :: T.drop (j + 1) := List.drop_eq_getElem_cons hlt
    have hmem : T[j] ∈ T := List.getElem_mem hlt
    rw [hd] at hr
    unfold seenFaults at hr
    obtain ⟨y, hye⟩ : ∃ y, T[j] = y := ⟨_, rfl⟩
    rw [hye] at hr hmem
    have w1 := wr64 (x := (j : Int) + 1) (by omega) (by omega)
    have hb : ∀ z : List Ft, z.length ≤ ((if y.2 = true then [(31, y.1.at')] else []) ++ callF P y.1).length → (l1.length + z.length) * 16 ≤ 3 * 2 ^ 46 := by
      intro z hz
      have := congrArg List.length hr
      simp only [List.length_append] at this hz; omega
    have hH := heads_c P y.1.name hP
    have hha := hTa y hmem
    have hhl := headI_lt P 0 y.1.name
    unfold callF at hr hb
    generalize headI P 0 y.1.name = at' at *
    cases hy2 : y.2 with
    | true =>
      by_cases h7 : y.1.op = 7
      · by_cases ha : at' < 0
        · simp only [hy2, h7, ha, if_true, if_false, ne_eq, not_true, not_false_eq_true, Bool.false_eq_true, reduceIte, List.nil_append, List.append_nil, List.cons_append] at hr hb
          have b1 := hb [(31, y.1.at')] (by simp)
          have b2 := hb [(31, y.1.at'), (32, y.1.at')] (by simp)
          simp only [List.length_cons, List.length_nil] at b1 b2
          simp -implicitDefEqProofs [lb24_0, encFn_eq, encSn_eq, g2, g3, neC g2, neC g3, neA, ltA, hbid, hlt, hye, hy2, h7, b1, b2, snocFt, takeS, List.append_assoc, w1]
          refine pcK_of hH (by simp) ?_
          simp -implicitDefEqProofs [encFn_eq, encSn_eq, g2, g3, neC g2, neC g3, neA, ltA, hbid, hlt, hye, hy2, h7, ha, b1, b2, snocFt, takeS, List.append_assoc, w1]
          exact again_of (j + 1, v1 + 2, l1 ++ [(31, y.1.at'), (32, y.1.at')]) ⟨by omega, hlt, by rw [List.append_assoc]; exact hr⟩ (by simp only; omega) (by simp) (by simp only [encFn_eq]; exact memLe_skip (memLe_refl _) (by simp only [look]; rw [if_neg (by omega), if_neg (by omega)]))
        · have na : at' < P.length := by omega
          have na0 : 0 ≤ at' := by omega
          have hil : at'.toNat < P.length := by omega
          obtain ⟨q, hq1⟩ : ∃ q, P[at'.toNat] = q := ⟨_, rfl⟩
          have hq2 : P[at'.toNat]?.getD default = q := by rw [List.getElem?_eq_getElem hil]; exact hq1
          simp only [hq2] at hr hb
          by_cases hcn : q.params.length = y.1.args.length
          · have hc : (q.params.length : Int) = (y.1.args.length : Int) := by omega
            simp only [hy2, h7, ha, hcn, if_true, if_false, ne_eq, not_true, not_false_eq_true, Bool.false_eq_true, reduceIte, List.nil_append, List.append_nil, List.cons_append] at hr hb
            have b1 := hb [(31, y.1.at')] (by simp)
            simp only [List.length_cons, List.length_nil] at b1
            simp -implicitDefEqProofs [lb24_0, encFn_eq, encSn_eq, g2, g3, neC g2, neC g3, neA, ltA, hbid, hlt, hye, hy2, h7, b1, snocFt, takeS, List.append_assoc, w1]
            refine pcK_of hH (by simp) ?_
            simp -implicitDefEqProofs [encFn_eq, encSn_eq, g2, g3, neC g2, neC g3, neA, ltA, hbid, hlt, hye, hy2, h7, ha, hc, na, na0, hq1, hq2, b1, snocFt, takeS, List.append_assoc, w1]
            exact again_of (j + 1, v1 + 1, l1 ++ [(31, y.1.at')]) ⟨by omega, hlt, by rw [List.append_assoc]; exact hr⟩ (by simp only; omega) (by simp) (by simp only [encFn_eq]; exact memLe_skip (memLe_refl _) (by simp only [look]; rw [if_neg (by omega), if_neg (by omega)]))
          · have hc : ¬ (q.params.length : Int) = (y.1.args.length : Int) := by omega
            simp only [hy2, h7, ha, hcn, if_true, if_false, ne_eq, not_true, not_false_eq_true, Bool.false_eq_true, reduceIte, List.nil_append, List.append_nil, List.cons_append] at hr hb
            have b1 := hb [(31, y.1.at')] (by simp)
            have b2 := hb [(31, y.1.at'), (33, y.1.at')] (by simp)
            simp only [List.length_cons, List.length_nil] at b1 b2
            simp -implicitDefEqProofs [lb24_0, encFn_eq, encSn_eq, g2, g3, neC g2, neC g3, neA, ltA, hbid, hlt, hye, hy2, h7, b1, b2, snocFt, takeS, List.append_assoc, w1]
            refine pcK_of hH (by simp) ?_
            simp -implicitDefEqProofs [encFn_eq, encSn_eq, g2, g3, neC g2, neC g3, neA, ltA, hbid, hlt, hye, hy2, h7, ha, hc, na, na0, hq1, hq2, b1, b2, snocFt, takeS, List.append_assoc, w1]
            exact again_of (j + 1, v1 + 2, l1 ++ [(31, y.1.at'), (33, y.1.at')]) ⟨by omega, hlt, by rw [List.append_assoc]; exact hr⟩ (by simp only; omega) (by simp) (by simp only [encFn_eq]; exact memLe_skip (memLe_refl _) (by simp only [look]; rw [if_neg (by omega), if_neg (by omega)]))
      · simp only [hy2, h7, if_true, if_false, ne_eq, not_true, not_false_eq_true, Bool.false_eq_true, reduceIte, List.nil_append, List.append_nil, List.cons_append] at hr hb
        have b1 := hb [(31, y.1.at')] (by simp)
        simp only [List.length_cons, List.length_nil] at b1
        simp -implicitDefEqProofs [lb24_0, encFn_eq, encSn_eq, g2, g3, neC g2, neC g3, neA, ltA, hbid, hlt, hye, hy2, h7, b1, snocFt, takeS, List.append_assoc, w1]
        exact again_of (j + 1, v1 + 1, l1 ++ [(31, y.1.at')]) ⟨by omega, hlt, by rw [List.append_assoc]; exact hr⟩ (by simp only; omega) (by simp) (by simp only [encFn_eq]; exact memLe_skip (memLe_refl _) (by simp only [look]; rw [if_neg (by omega), if_neg (by omega)]))
    | false =>
      by_cases h7 : y.1.op = 7
      · by_cases ha : at' < 0
        · simp only [hy2, h7, ha, if_true, if_false, ne_eq, not_true, not_false_eq_true, Bool.false_eq_true, reduceIte, List.nil_append, List.append_nil, List.cons_append] at hr hb
          have b1 := hb [(32, y.1.at')] (by simp)
          simp only [List.length_cons, List.length_nil] at b1
          simp -implicitDefEqProofs [lb24_0, encFn_eq, encSn_eq, g2, g3, neC g2, neC g3, neA, ltA, hbid, hlt, hye, hy2, h7, b1, snocFt, takeS, List.append_assoc, w1]
          refine pcK_of hH (by simp) ?_
          simp -implicitDefEqProofs [encFn_eq, encSn_eq, g2, g3, neC g2, neC g3, neA, ltA, hbid, hlt, hye, hy2, h7, ha, b1, snocFt, takeS, List.append_assoc, w1]
          exact again_of (j + 1, v1 + 1, l1 ++ [(32, y.1.at')]) ⟨by omega, hlt, by rw [List.append_assoc]; exact hr⟩ (by simp only; omega) (by simp) (by simp only [encFn_eq]; exact memLe_skip (memLe_refl _) (by simp only [look]; rw [if_neg (by omega), if_neg (by omega)]))
        · have na : at' < P.length := by omega
          have na0 : 0 ≤ at' := by omega
          have hil : at'.toNat < P.length := by omega
          obtain ⟨q, hq1⟩ : ∃ q, P[at'.toNat] = q := ⟨_, rfl⟩
          have hq2 : P[at'.toNat]?.getD default = q := by rw [List.getElem?_eq_getElem hil]; exact hq1
          simp only [hq2] at hr hb
          by_cases hcn : q.params.length = y.1.args.length
          · have hc : (q.params.length : Int) = (y.1.args.length : Int) := by omega
            simp only [hy2, h7, ha, hcn, if_true, if_false, ne_eq, not_true, not_false_eq_true, Bool.false_eq_true, reduceIte, List.nil_append, List.append_nil, List.cons_append] at hr hb
            simp -implicitDefEqProofs [lb24_0, encFn_eq, encSn_eq, g2, g3, neC g2, neC g3, neA, ltA, hbid, hlt, hye, hy2, h7, snocFt, takeS, List.append_assoc, w1]
            refine pcK_of hH (by simp) ?_
            simp -implicitDefEqProofs [encFn_eq, encSn_eq, g2, g3, neC g2, neC g3, neA, ltA, hbid, hlt, hye, hy2, h7, ha, hc, na, na0, hq1, hq2, snocFt, takeS, List.append_assoc, w1]
            exact again_of (j + 1, v1, l1) ⟨by omega, hlt, by exact hr⟩ (by simp only; omega) (by simp) (by simp only [encFn_eq]; exact memLe_skip (memLe_refl _) (by simp only [look]; rw [if_neg (by omega), if_neg (by omega)]))
          · have hc : ¬ (q.params.length : Int) = (y.1.args.length : Int) := by omega
            simp only [hy2, h7, ha, hcn, if_true, if_false, ne_eq, not_true, not_false_eq_true, Bool.false_eq_true, reduceIte, List.nil_append, List.append_nil, List.cons_append] at hr hb
            have b1 := hb [(33, y.1.at')] (by simp)
            simp only [List.length_cons, List.length_nil] at b1
            simp -implicitDefEqProofs [lb24_0, encFn_eq, encSn_eq, g2, g3, neC g2, neC g3, neA, ltA, hbid, hlt, hye, hy2, h7, b1, snocFt, takeS, List.append_assoc, w1]
            refine pcK_of hH (by simp) ?_
            simp -implicitDefEqProofs [encFn_eq, encSn_eq, g2, g3, neC g2, neC g3, neA, ltA, hbid, hlt, hye, hy2, h7, ha, hc, na, na0, hq1, hq2, b1, snocFt, takeS, List.append_assoc, w1]
            exact again_of (j + 1, v1 + 1, l1 ++ [(33, y.1.at')]) ⟨by omega, hlt, by rw [List.append_assoc]; exact hr⟩ (by simp only; omega) (by simp) (by simp only [encFn_eq]; exact memLe_skip (memLe_refl _) (by simp only [look]; rw [if_neg (by omega), if_neg (by omega)]))
      · simp only [hy2, h7, if_true, if_false, ne_eq, not_true, not_false_eq_true, Bool.false_eq_true, reduceIte, List.nil_append, List.append_nil, List.cons_append] at hr hb
        simp -implicitDefEqProofs [lb24_0, encFn_eq, encSn_eq, g2, g3, neC g2, neC g3, neA, ltA, hbid, hlt, hye, hy2, h7, snocFt, takeS, List.append_assoc, w1]
        exact again_of (j + 1, v1, l1) ⟨by omega, hlt, by exact hr⟩ (by simp only; omega) (by simp) (by simp only [encFn_eq]; exact memLe_skip (memLe_refl _) (by simp only [look]; rw [if_neg (by omega), if_neg (by omega)]))
  · have hje : j = T.length := by omega
    subst hje
    rw [List.drop_eq_nil_of_le (Nat.le_refl _)] at hr
    unfold seenFaults at hr
    rw [List.append_nil] at hr
    subst hr
    simp -implicitDefEqProofs [lb24_0, encFn_eq, g2, g3, neC g2, neC g3, neA, ltA, hbid]
    rw [encFn_eq] at hq
    exact hq _ _ (by omega)
mutual
theorem seen_args : ∀ (e : Ex) (N : List (List UInt8)), ∀ s ∈ seenF e N, size s.1 ≤ size e
  | .mk op n t ty z args p, N, s, h => by
    unfold seenF at h
    rcases List.mem_append.1 h with h | h
    · split at h
      · simp only [List.mem_cons, List.not_mem_nil, or_false] at h
        subst h; exact Nat.le_refl _
      · simp at h
    · have := seens_args op n t 0 args N s h
      simp only [size]; omega
theorem seens_args (op : Int) (n t : List UInt8) (i : Nat) : ∀ (l : List Ex) (N : List (List UInt8)), ∀ s ∈ seensF op n t i l N, size s.1 ≤ sizes l
  | [], N, s, h => by simp [seensF] at h
  | x :: xs, N, s, h => by
    unfold seensF at h
    simp only [sizes]
    rcases List.mem_append.1 h with h | h
    · have := seen_args x _ s h; omega
    · have := seens_args op n t (i + 1) xs N s h; omega
end
theorem faults_c (P : List Fn) (hP : P.length < 2 ^ 40) (hf : ∀ f ∈ P, size f.body ≤ 2 ^ 37 ∧ f.params.length ≤ 2 ^ 37) (hn : (allF P P 0).length * 16 ≤ 3 * 2 ^ 46) : Pure Try.prog 24 [.agg [.sl (em encFn P)]] (.sl (em encFt (allF P P 0))) := by
  refine pu24 (by simp) ?_
  simp -implicitDefEqProofs [ac24]
  refine A_loop_own (j := 3) (k := 2) rfl (.inl rfl) ?_
  generalize hR : allF P P 0 = R at *
  simp -implicitDefEqProofs
  refine lp24_2 (α := Nat × Nat × List Ft) (fun s _ => [(3, .osl 4 s.2.1 0 s.2.2.length), (4, I s.1), (5, .top), (6, .top), (7, .top), (8, .top), (9, .top), (10, .top), (11, .top)]) (fun s _ => [(4, .arr s.2.1 2 (em encFt s.2.2))]) (fun s k => 4 < k ∧ s.1 ≤ P.length ∧ s.2.2 ++ allF P (P.drop s.1) s.1 = R) (fun s => P.length - s.1) (0, 0, []) ⟨by omega, by simp, hR⟩ (by simp) (by simp) ?_
  rintro ⟨i, v, l⟩ k ⟨hk, hi, hr⟩
  simp only at hi hr
  by_cases hlt : i < P.length
  · have hd : P.drop i = P[i] :: P.drop (i + 1) := List.drop_eq_getElem_cons hlt
    have hmem : P[i] ∈ P := List.getElem_mem hlt
    rw [hd] at hr
    unfold allF fnF at hr
    obtain ⟨x, hxe⟩ : ∃ x, P[i] = x := ⟨_, rfl⟩
    rw [hxe] at hr hmem
    have w1 := wr64 (x := (i : Int) + 1) (by omega) (by omega)
    have hH := heads_c P x.name hP
    obtain ⟨hs, hp⟩ := hf x hmem
    have hS := seen_c x.body (N := namesF x) (by simp only [namesF, List.length_map]; omega)
    have hT : (seenF x.body (namesF x)).length ≤ 2 ^ 40 := by have := seenF_len x.body (namesF x); omega
    have hTa : ∀ s ∈ seenF x.body (namesF x), s.1.args.length ≤ 2 ^ 40 := fun s hs' => by
      have h1 := seen_args x.body (namesF x) s hs'
      have h2 := args_size s.1
      omega
    simp only [encEx_eq] at hS
    generalize seenF x.body (namesF x) = T at *
    have hlen := congrArg List.length hr
    simp only [List.length_append] at hlen
    have hk4 : (k + 5 + 5 = 4) = False := eq_false (by omega)
    by_cases hg : headI P 0 x.name < i
    · rw [if_pos hg] at hr hlen
      simp only [List.length_cons, List.length_nil] at hlen
      have hb : (l.length + 1) * 16 ≤ 3 * 2 ^ 46 := by omega
      simp -implicitDefEqProofs [lb24_2, hlt, hxe]
      refine pcK_of hH (by simp) ?_
      simp -implicitDefEqProofs [hg, Int.not_le.2 hg, hb, snocFt, hk4]
      rw [← encFn_eq]
      refine f6_loop1 (by simp) (by omega) (by omega) (by omega) (by simp only [List.length_append, List.length_cons, List.length_nil]; omega) (fun v2 n2 hn2 => ?_)
      simp -implicitDefEqProofs [hk4, encFn_eq]
      refine pcK_of hS (by simp) ?_
      simp -implicitDefEqProofs [hk4]
      rw [← encFn_eq]
      refine f6_loop0 (by simp) hP (by omega) (by omega) hT hTa (by simp only [List.length_append, List.length_cons, List.length_nil]; omega) (fun v3 n3 hn3 => ?_)
      simp -implicitDefEqProofs [hk4, w1]
      exact again_of (i + 1, v3, l ++ [(30, x.at')] ++ parFaults x.params [] ++ seenFaults P T) ⟨by omega, hlt, by simpa using hr⟩ (by simp only; omega) (by simp) (memLe_skip (by simp) (by simp only [look]; rw [if_neg (by omega)]))
    · rw [if_neg hg, List.nil_append] at hr
      rw [if_neg hg] at hlen
      simp only [List.length_nil] at hlen
      simp -implicitDefEqProofs [lb24_2, hlt, hxe]
      refine pcK_of hH (by simp) ?_
      simp -implicitDefEqProofs [hg, Int.not_lt.1 hg, hk4]
      rw [← encFn_eq]
      refine f6_loop1 (by simp) (by omega) (by omega) (by omega) (by simp only [List.length_append, List.length_cons, List.length_nil]; omega) (fun v2 n2 hn2 => ?_)
      simp -implicitDefEqProofs [hk4, encFn_eq]
      refine pcK_of hS (by simp) ?_
      simp -implicitDefEqProofs [hk4]
      rw [← encFn_eq]
      refine f6_loop0 (by simp) hP (by omega) (by omega) hT hTa (by simp only [List.length_append, List.length_cons, List.length_nil]; omega) (fun v3 n3 hn3 => ?_)
      simp -implicitDefEqProofs [hk4, w1]
      exact again_of (i + 1, v3, l ++ parFaults x.params [] ++ seenFaults P T) ⟨by omega, hlt, by simpa using hr⟩ (by simp only; omega) (by simp) (memLe_skip (by simp) (by simp only [look]; rw [if_neg (by omega)]))
  · rw [List.drop_eq_nil_of_le (by omega)] at hr
    unfold allF at hr
    rw [List.append_nil] at hr
    subst hr
    simp -implicitDefEqProofs [lb24_2, hlt]
end Go.Fx.Ythbainhddfajfaa

namespace Go.Fx.Ythbainhddfajfaa
open Go Go.Fx Go.Proofs Go.Fx.Flt
def leastF : List Ft → Ft → Ft
  | [], s => s
  | x :: xs, s => leastF xs (tellF s x.1 x.2)
theorem ia_Ft {l : List Ft} {mem : Mem} {j : IntKind} {i : Int} : iaD mem 2 (.sl (em encFt l)) (.pl (.int j i)) = if 0 ≤ i ∧ i < l.length then some (.pt [I (l[i.toNat]?.getD default).1, I (l[i.toNat]?.getD default).2]) else none := em_ia fun f => rfl
attribute [simp] ia_Ft
theorem ref6_c (P : List Fn) (hP : P.length < 2 ^ 40) (hf : ∀ f ∈ P, size f.body ≤ 2 ^ 37 ∧ f.params.length ≤ 2 ^ 37) (hn : (allF P P 0).length * 16 ≤ 3 * 2 ^ 46) : Pure Try.prog 12 [.agg [.sl (em encFn P)]] (.agg [I (leastF (allF P P 0) (0, 0)).1, I (leastF (allF P P 0) (0, 0)).2]) := by
  refine pu12 (by simp) ?_
  have hF := faults_c P hP hf hn
  have hl : (allF P P 0).length < 2 ^ 62 := by omega
  generalize allF P P 0 = l at *
  simp -implicitDefEqProofs [ac12]
  refine pcK_of hF (by simp) ?_
  simp -implicitDefEqProofs
  generalize hR : leastF l (0, 0) = R
  refine lp12_0 (α := Nat × Ft) (fun s _ => [(5, I s.1)]) (fun s _ => [(5, .box [I s.2.1, I s.2.2]), (1, .box [I 0, I 0])]) (fun s k => s.1 ≤ l.length ∧ leastF (l.drop s.1) s.2 = R) (fun s => l.length - s.1) (0, (0, 0)) ⟨by simp, hR⟩ (by simp) (memLe_refl _) ?_
  rintro ⟨i, s⟩ k ⟨hi, hr⟩
  simp only at hi hr
  by_cases hlt : i < l.length
  · have hd : l.drop i = l[i] :: l.drop (i + 1) := List.drop_eq_getElem_cons hlt
    rw [hd] at hr
    unfold leastF at hr
    obtain ⟨x, hxe⟩ : ∃ x, l[i] = x := ⟨_, rfl⟩
    rw [hxe] at hr
    have w1 := wr64 (x := (i : Int) + 1) (by omega) (by omega)
    unfold tellF at hr
    by_cases h0 : s.1 = 0
    · rw [if_pos (.inl h0)] at hr
      simp -implicitDefEqProofs [lb12_0, hlt, hxe, h0, w1]
      exact again_of (i + 1, x) ⟨hlt, hr⟩ (by simp only; omega) (by simp) (by simp)
    · by_cases h1 : x.2 < s.2
      · rw [if_pos (.inr h1)] at hr
        simp -implicitDefEqProofs [lb12_0, hlt, hxe, h0, h1, w1]
        exact again_of (i + 1, x) ⟨hlt, hr⟩ (by simp only; omega) (by simp) (by simp)
      · rw [if_neg (by omega)] at hr
        simp -implicitDefEqProofs [lb12_0, hlt, hxe, h0, h1, w1]
        exact again_of (i + 1, s) ⟨hlt, hr⟩ (by simp only; omega) (by simp) (by simp)
  · rw [List.drop_eq_nil_of_le (by omega)] at hr
    unfold leastF at hr
    subst hr
    simp -implicitDefEqProofs [lb12_0, hlt]
end Go.Fx.Ythbainhddfajfaa

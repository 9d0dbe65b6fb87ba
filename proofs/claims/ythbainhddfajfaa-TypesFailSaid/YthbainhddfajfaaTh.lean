/-
  Layer 7: types' Of.
-/
import Derived.Test.YthbainhddfajfaaTg
set_option linter.all false
set_option maxRecDepth 100000
set_option maxHeartbeats 4000000
namespace Go.Fx.Ythbainhddfajfaa
open Go Go.Fx Go.Proofs Go.Fx.Flt
def ofL (P : List Fn) (env : List Pm) (e : Ex) : List Int → Int × Int
  | [] => (0, 34)
  | t :: ts => if wantL P env e t = [] then (t, 0) else ofL P env e ts
def ofF (P : List Fn) (env : List Pm) (e : Ex) : Int × Int := ofL P env e [1, 2, 3]
mutual
theorem wantL_len (P : List Fn) : ∀ (env : List Pm) (e : Ex) (t : Int), (wantL P env e t).length ≤ size e
  | env, .mk op n tl ty z args p, t => by
    have := wantsL_len P env op n tl ty t 0 args
    unfold wantL size
    rw [List.length_append]
    split <;> split <;> simp <;> omega
theorem wantsL_len (P : List Fn) (env : List Pm) (op : Int) (n tl : List UInt8) (ty t : Int) : ∀ (i : Nat) (l : List Ex), (wantsL P env op n tl ty t i l).length ≤ sizes l
  | i, [] => by simp [wantsL, sizes]
  | i, x :: xs => by
    have h1 := wantL_len P (withinI env op n tl ty i) x (wantedI P op n ty i t)
    have h2 := wantsL_len P env op n tl ty t (i + 1) xs
    unfold wantsL sizes
    rw [List.length_append]; omega
end
theorem of_fold : ∀ (l : List Int) (k : Int), 0 ≤ k → k + l.length < 2 ^ 62 → (l.foldl ofStep (k, 0)) = (k + l.length, 0)
  | [], k, _, _ => by simp
  | x :: xs, k, h0, h => by
    simp only [List.length_cons] at h
    have w := wr64 (x := k + 1) (by omega) (by omega)
    show xs.foldl ofStep (IntKind.i64.wrap (k + 1), 0) = _
    rw [w, of_fold xs (k + 1) (by omega) (by omega)]
    simp only [List.length_cons]
    congr 1; omega
theorem Of_c (P : List Fn) (env : List Pm) (e : Ex) (hP : P.length < 2 ^ 40) (hz : env.length + 2 * size e ≤ 5 * 2 ^ 40) (hs : Sh e) :
    Pure Try.prog 13 [.agg [.sl (em encFn P)], .sl (em encPm env), .agg (encEx e)] (.tup [I (ofF P env e).1, I (ofF P env e).2]) := by
  refine pu13 (by simp) ?_
  simp only [encEx_eq]
  simp -implicitDefEqProofs [ac13]
  generalize hR : ofF P env e = R
  unfold ofF at hR
  refine lp13_0 (α := Nat) (fun s _ => [(6, .top), (7, .top), (9, .top), (10, .top), (11, .top), (14, I s)]) (fun s _ => []) (fun s k => s ≤ 3 ∧ ofL P env e (([1, 2, 3] : List Int).drop s) = R) (fun s => 3 - s) 0 ⟨by omega, hR⟩ (by simp) (by simp) ?_
  rintro i k ⟨hi, hr⟩
  by_cases hlt : i < 3
  · have hwl := wantL_len P env e
    have w1 := wr64 (x := (i : Int) + 1) (by omega) (by omega)
    have hgo : ∃ T rest, [1, 2, 3].drop i = T :: rest ∧ [1, 2, 3].drop (i + 1) = rest ∧ ∀ m, iaD m 1 (.sl [[I 1], [I 2], [I 3]]) (I i) = some (.pt [I T]) := by
      match i, hlt with
      | 0, _ => exact ⟨1, [2, 3], rfl, rfl, fun m => rfl⟩
      | 1, _ => exact ⟨2, [3], rfl, rfl, fun m => rfl⟩
      | 2, _ => exact ⟨3, [], rfl, rfl, fun m => rfl⟩
    obtain ⟨T, rest, d1, d2, d3⟩ := hgo
    rw [d1] at hr
    unfold ofL at hr
    have hlt2 : (i : Int) < 3 := by omega
    simp -implicitDefEqProofs [lb13_0, hlt2, d3]
    refine clK_of (open_c P hP 25 (k + 4) (fun hd n1 hrp hn1 => ?_))
    have hb : env.length * 32 ≤ 3 * 2 ^ 46 := by omega
    have q1 : k + 4 < k + 1 + 3 + 2 + 4 + 2 := by omega
    have q2 : k + 1 + 3 + 2 + 4 + 2 < k + 1 + 3 + 2 + 4 + 7 := by omega
    have q3 : k + 1 + 3 + 2 + 4 + 7 < n1 := by omega
    have q4 : k ≤ k + 4 := by omega
    generalize k + 1 + 3 + 2 + 4 + 7 = cid at *
    generalize k + 1 + 3 + 2 + 4 + 2 = hid at *
    generalize k + 4 = fid at *
    have r1 : fid < cid := by omega
    have r2 : fid < n1 := by omega
    have r3 : hid < n1 := by omega
    simp -implicitDefEqProofs [-els, els_Pm, hb, neA, ltA, q1, q2, q3, r1, r2, r3, neC q1, neC q2, neC r1]
    have hx := twant_c e
    unfold WT at hx
    simp only [encEx_eq] at hx
    have q5 : cid < n1 + 6 := by omega
    generalize hn6 : n1 + 6 = eid at *
    have r5 : fid < eid := by omega
    have r6 : hid < eid := by omega
    refine clK_of (hx (c := ⟨cid, eid, hid, fid, P, hd, 25, fun s => [I s.1], ofStep⟩) (env := env) (ver := 0) (X := []) (s := (0, 0)) ⟨of_wr _ rfl rfl rfl, hrp, hP⟩ ?_ hz hs (fun v X n hn => ?_))
    · constructor <;> first | (simp only []; omega) | simp -implicitDefEqProofs [q1, q2, q5, r1, r5, r6, neC q1, neC q2, neC r1, neC q5, neC r5, neC r6, C7.box, C7.arr]
    · have hwt := hwl T
      have hsz : size e ≤ 5 * 2 ^ 40 := by omega
      have hfo := of_fold (wantL P env e T) 0 (Int.le_refl 0) (by omega)
      rw [Int.zero_add] at hfo
      simp only [] at *
      rw [hfo]
      simp -implicitDefEqProofs [q1, q2, q5, r1, r5, r6, neC q1, neC q2, neC r1, neC q5, neC r5, neC r6, mem7, C7.box, C7.arr]
      refine ⟨fun hw => ?_, fun hw => ?_⟩
      · rw [if_pos hw] at hr
        subst hr
        simp only [blockQ]
        simp -implicitDefEqProofs
      · rw [if_neg hw] at hr
        simp -implicitDefEqProofs [w1]
        exact again_of (i + 1) ⟨by omega, by rw [d2]; exact hr⟩ (by omega) (by simp) (by simp)
  · rw [List.drop_eq_nil_of_le (by simp; omega)] at hr
    unfold ofL at hr
    subst hr
    have hlt2 : ¬ (i : Int) < 3 := by omega
    simp -implicitDefEqProofs [lb13_0, hlt2]
    simp only [blockQ, if_true, reduceIte]
    simp -implicitDefEqProofs
end Go.Fx.Ythbainhddfajfaa

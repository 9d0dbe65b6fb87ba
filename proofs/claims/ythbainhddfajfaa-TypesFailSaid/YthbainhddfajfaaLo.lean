/-
  Layer 7: a part of an expression exchanged (plain); a program with a part of a body exchanged (plain); the reference's Place and Instead; TypesFail.
-/
import Derived.Test.YthbainhddfajfaaLi
import Derived.Test.YthbainhddfajfaaXK
import Derived.Test.YthbainhddfajfaaSm
import Derived.Test.YthbainhddfajfaaCodeL7d
set_option linter.all false
set_option maxRecDepth 100000
set_option maxHeartbeats 4000000
namespace Go.Fx.Ythbainhddfajfaa
open Go Go.Fx Go.Proofs Go.Fx.Flt
def parF (P : List Fn) : Nat → Ex → Int → Nat → Ex × Int
  | 0, e, t, _ => (e, t)
  | k + 1, e, t, n => if n = 0 ∨ e.args = [] then (e, t) else parF P k (e.args[n % e.args.length]?.getD default) (wantedR P e.op e.name e.type (n % e.args.length : Nat) t) (n / 3)
def insF : Nat → Ex → Nat → Ex → Ex
  | 0, _, _, y => y
  | k + 1, e, n, y => if n = 0 ∨ e.args = [] then y else .mk e.op e.name e.tail e.type e.num (e.args.set (n % e.args.length) (insF k (e.args[n % e.args.length]?.getD default) (n / 3) y)) e.at'
theorem mod_lt' {α : Type} {l : List α} (n : Nat) (h : l ≠ []) : n % l.length < l.length := Nat.mod_lt _ (List.length_pos_iff.2 h)
theorem ins_self (P : List Fn) : ∀ (k : Nat) (e : Ex) (t : Int) (n : Nat), insF k e n (parF P k e t n).1 = e
  | 0, e, t, n => rfl
  | k + 1, e, t, n => by
    unfold insF parF
    by_cases h : n = 0 ∨ e.args = []
    · rw [if_pos h, if_pos h]
    · rw [if_neg h, if_neg h, ins_self P k]
      have hi := mod_lt' n (fun g => h (.inr g))
      rw [List.getElem?_eq_getElem hi]
      cases e with
      | mk op nm tl ty z args p => simp [Ex.op, Ex.name, Ex.tail, Ex.type, Ex.num, Ex.args, Ex.at']
theorem wrongs_set (P : List Fn) (env : List Pm) (op : Int) (n tl : List UInt8) (ty t : Int) (y : Ex) : ∀ (l : List Ex) (i j : Nat) (x : Ex), l[j]? = some x → wrongsR P env op n tl ty t i l = [] →
    wrongR P (withinI env op n tl ty (i + j)) x (wantedR P op n ty (i + j) t) = [] ∧ wrongsR P env op n tl ty t i (l.set j y) = wrongR P (withinI env op n tl ty (i + j)) y (wantedR P op n ty (i + j) t)
  | [], i, j, x, h, _ => by simp at h
  | a :: l, i, 0, x, h, hw => by
    simp only [List.getElem?_cons_zero, Option.some.injEq] at h
    subst h
    unfold wrongsR at hw
    rw [List.append_eq_nil_iff] at hw
    simp only [List.set_cons_zero, Nat.add_zero]
    unfold wrongsR
    exact ⟨hw.1, by rw [hw.2, List.append_nil]⟩
  | a :: l, i, j + 1, x, h, hw => by
    simp only [List.getElem?_cons_succ] at h
    unfold wrongsR at hw
    rw [List.append_eq_nil_iff] at hw
    obtain ⟨h1, h2⟩ := wrongs_set P env op n tl ty t y l (i + 1) j x h hw.2
    have e : i + 1 + j = i + (j + 1) := by omega
    rw [e] at h1 h2
    simp only [List.set_cons_succ]
    unfold wrongsR
    exact ⟨h1, by rw [hw.1, List.nil_append, h2]⟩
theorem wrongR_mk (P : List Fn) (env : List Pm) (op : Int) (n tl : List UInt8) (ty : Int) (z : Cx) (args : List Ex) (p t : Int) : wrongR P env (.mk op n tl ty z args p) t = (if ownR P env op n ty args.length ≠ 0 ∧ ownR P env op n ty args.length ≠ t then [p] else []) ++ wrongsR P env op n tl ty t 0 args := by rw [wrongR]
theorem seenF_mk (op : Int) (n tl : List UInt8) (ty : Int) (z : Cx) (args : List Ex) (p : Int) (N : List (List UInt8)) : seenF (.mk op n tl ty z args p) N = (if op = 6 ∨ op = 7 then [(.mk op n tl ty z args p, op = 6 && !hasF N n)] else []) ++ seensF op n tl 0 args N := by rw [seenF]
theorem ins_wrong (P : List Fn) : ∀ (k : Nat) (env : List Pm) (e : Ex) (t : Int) (n : Nat), wrongR P env e t = [] → ∃ env', wrongR P env' (parF P k e t n).1 (parF P k e t n).2 = [] ∧ ∀ y, wrongR P env (insF k e n y) t = wrongR P env' y (parF P k e t n).2
  | 0, env, e, t, n, h => ⟨env, h, fun y => rfl⟩
  | k + 1, env, e, t, n, h => by
    unfold insF parF
    by_cases hc : n = 0 ∨ e.args = []
    · rw [if_pos hc]
      exact ⟨env, h, fun y => by rw [if_pos hc]⟩
    · rw [if_neg hc]
      have hi := mod_lt' n (fun g => hc (.inr g))
      cases e with
      | mk op nm tl ty z args p =>
        have hc0 := hc
        simp only [Ex.op, Ex.name, Ex.tail, Ex.type, Ex.num, Ex.args, Ex.at'] at hc hi
        unfold wrongR at h
        rw [List.append_eq_nil_iff] at h
        have hg : args[n % args.length]? = some (args[n % args.length]?.getD default) := by rw [List.getElem?_eq_getElem hi]; rfl
        have hs := fun y => wrongs_set P env op nm tl ty t y args 0 (n % args.length) _ hg h.2
        simp only [Nat.zero_add] at hs
        obtain ⟨env', g1, g2⟩ := ins_wrong P k _ _ _ (n / 3) (hs default).1
        refine ⟨env', g1, fun y => ?_⟩
        rw [if_neg hc0]
        show wrongR P env (.mk op nm tl ty z (args.set (n % args.length) (insF k (args[n % args.length]?.getD default) (n / 3) y)) p) t = _
        rw [wrongR_mk, List.length_set, h.1, List.nil_append, (hs _).2, g2]
        rfl
theorem seen_cons (P : List Fn) (s : Sn) (r : List Sn) : seenFaults P (s :: r) = ((if s.2 = true then [(31, s.1.at')] else []) ++ callF P s.1) ++ seenFaults P r := by rw [seenFaults]
theorem seen_app (P : List Fn) : ∀ (a b : List Sn), seenFaults P (a ++ b) = seenFaults P a ++ seenFaults P b
  | [], b => rfl
  | s :: a, b => by
    show seenFaults P (s :: (a ++ b)) = _
    rw [seen_cons, seen_cons, seen_app P a b]
    simp only [List.append_assoc]
theorem seens_set (P : List Fn) (op : Int) (n tl : List UInt8) (y : Ex) (N : List (List UInt8)) : ∀ (l : List Ex) (i j : Nat) (x : Ex), l[j]? = some x → seenFaults P (seensF op n tl i l N) = [] →
    seenFaults P (seenF x (N ++ boundO op n tl (i + j : Nat))) = [] ∧ seenFaults P (seensF op n tl i (l.set j y) N) = seenFaults P (seenF y (N ++ boundO op n tl (i + j : Nat)))
  | [], i, j, x, h, _ => by simp at h
  | a :: l, i, 0, x, h, hw => by
    simp only [List.getElem?_cons_zero, Option.some.injEq] at h
    subst h
    unfold seensF at hw
    rw [seen_app, List.append_eq_nil_iff] at hw
    simp only [List.set_cons_zero, Nat.add_zero]
    unfold seensF
    exact ⟨hw.1, by rw [seen_app, hw.2, List.append_nil]⟩
  | a :: l, i, j + 1, x, h, hw => by
    simp only [List.getElem?_cons_succ] at h
    unfold seensF at hw
    rw [seen_app, List.append_eq_nil_iff] at hw
    obtain ⟨h1, h2⟩ := seens_set P op n tl y N l (i + 1) j x h hw.2
    have e : i + 1 + j = i + (j + 1) := by omega
    rw [e] at h1 h2
    simp only [List.set_cons_succ]
    unfold seensF
    exact ⟨h1, by rw [seen_app, hw.1, List.nil_append, h2]⟩
theorem ins_seen (P Q : List Fn) : ∀ (k : Nat) (e : Ex) (t : Int) (n : Nat) (N : List (List UInt8)), seenFaults P (seenF e N) = [] → ∃ N', seenFaults P (seenF (parF Q k e t n).1 N') = [] ∧ ∀ y, seenFaults P (seenF (insF k e n y) N) = seenFaults P (seenF y N')
  | 0, e, t, n, N, h => ⟨N, h, fun y => rfl⟩
  | k + 1, e, t, n, N, h => by
    unfold insF parF
    by_cases hc : n = 0 ∨ e.args = []
    · rw [if_pos hc]
      exact ⟨N, h, fun y => by rw [if_pos hc]⟩
    · rw [if_neg hc]
      have hi := mod_lt' n (fun g => hc (.inr g))
      cases e with
      | mk op nm tl ty z args p =>
        have hc0 := hc
        simp only [Ex.op, Ex.name, Ex.tail, Ex.type, Ex.num, Ex.args, Ex.at'] at hc hi
        unfold seenF at h
        rw [seen_app, List.append_eq_nil_iff] at h
        have hg : args[n % args.length]? = some (args[n % args.length]?.getD default) := by rw [List.getElem?_eq_getElem hi]; rfl
        have hs := fun y => seens_set P op nm tl y N args 0 (n % args.length) _ hg h.2
        simp only [Nat.zero_add] at hs
        obtain ⟨N', g1, g2⟩ := ins_seen P Q k (args[n % args.length]?.getD default) (wantedR Q op nm ty (n % args.length : Nat) t) (n / 3) _ (hs default).1
        refine ⟨N', g1, fun y => ?_⟩
        rw [if_neg hc0]
        show seenFaults P (seenF (.mk op nm tl ty z (args.set (n % args.length) (insF k (args[n % args.length]?.getD default) (n / 3) y)) p) N) = _
        rw [seenF_mk, seen_app, (hs _).2, g2]
        have he : seenFaults P (if op = 6 ∨ op = 7 then [(Ex.mk op nm tl ty z (args.set (n % args.length) (insF k (args[n % args.length]?.getD default) (n / 3) y)) p, op = 6 && !hasF N nm)] else []) = [] := by
          rw [← h.1]
          split
          · unfold seenFaults callF
            simp only [Ex.op, Ex.name, Ex.args, Ex.at', List.length_set]
            rfl
          · rfl
        rw [he, List.nil_append]
theorem Wfs_mem {ms : List Mk} {a b : Nat} {x : Ex} : ∀ {l : List Ex} {j : Nat}, Wfs ms a b l → l[j]? = some x → Wf ms a b x
  | [], j, _, h => by simp at h
  | e :: es, 0, h, hx => by
    simp only [List.getElem?_cons_zero, Option.some.injEq] at hx
    subst hx
    unfold Wfs at h; exact h.1
  | e :: es, j + 1, h, hx => by
    unfold Wfs at h
    exact Wfs_mem h.2 (by simpa using hx)
theorem Wfs_set {ms : List Mk} {a b : Nat} {y : Ex} : ∀ {l : List Ex} {j : Nat}, Wfs ms a b l → Wf ms a b y → Wfs ms a b (l.set j y)
  | [], j, h, _ => by simpa using h
  | e :: es, 0, h, hy => by
    unfold Wfs at h
    simp only [List.set_cons_zero]
    unfold Wfs; exact ⟨hy, h.2⟩
  | e :: es, j + 1, h, hy => by
    unfold Wfs at h
    simp only [List.set_cons_succ]
    unfold Wfs; exact ⟨h.1, Wfs_set h.2 hy⟩
theorem sizes_set : ∀ {l : List Ex} {j : Nat} {x y : Ex}, l[j]? = some x → size y ≤ size x → sizes (l.set j y) ≤ sizes l
  | [], j, x, y, h, _ => by simp at h
  | e :: es, 0, x, y, h, hy => by
    simp only [List.getElem?_cons_zero, Option.some.injEq] at h
    subst h
    simp only [List.set_cons_zero, sizes]; omega
  | e :: es, j + 1, x, y, h, hy => by
    have := sizes_set (l := es) (by simpa using h) hy
    simp only [List.set_cons_succ, sizes]; omega
theorem ins_wf (Q : List Fn) {ms : List Mk} {a b : Nat} : ∀ (k : Nat) (e : Ex) (t : Int) (n : Nat), Wf ms a b e → Wf ms a b (parF Q k e t n).1 ∧ size (parF Q k e t n).1 ≤ size e ∧ ∀ y, Wf ms a b y → size y ≤ size (parF Q k e t n).1 → Wf ms a b (insF k e n y) ∧ size (insF k e n y) ≤ size e
  | 0, e, t, n, h => ⟨h, Nat.le_refl _, fun y hy hs => ⟨hy, hs⟩⟩
  | k + 1, e, t, n, h => by
    unfold insF parF
    by_cases hc : n = 0 ∨ e.args = []
    · rw [if_pos hc]
      exact ⟨h, Nat.le_refl _, fun y hy hs => by rw [if_pos hc]; exact ⟨hy, hs⟩⟩
    · rw [if_neg hc]
      have hi := mod_lt' n (fun g => hc (.inr g))
      cases e with
      | mk op nm tl ty z args p =>
        have hc0 := hc
        simp only [Ex.op, Ex.name, Ex.tail, Ex.type, Ex.num, Ex.args, Ex.at'] at hc hi
        unfold Wf at h
        obtain ⟨h1, h2, h3⟩ := h
        have hg : args[n % args.length]? = some (args[n % args.length]?.getD default) := by rw [List.getElem?_eq_getElem hi]; rfl
        obtain ⟨g1, g2, g3⟩ := ins_wf Q k (args[n % args.length]?.getD default) (wantedR Q op nm ty (n % args.length : Nat) t) (n / 3) (Wfs_mem h3 hg)
        have hsz : size (args[n % args.length]?.getD default) ≤ sizes args := size_mem (List.mem_of_getElem? hg)
        refine ⟨g1, Nat.le_trans g2 (by simp only [size]; omega), fun y hy hs => ?_⟩
        rw [if_neg hc0]
        show Wf ms a b (.mk op nm tl ty z (args.set (n % args.length) (insF k (args[n % args.length]?.getD default) (n / 3) y)) p) ∧ size (.mk op nm tl ty z (args.set (n % args.length) (insF k (args[n % args.length]?.getD default) (n / 3) y)) p) ≤ _
        obtain ⟨g4, g5⟩ := g3 y hy hs
        have := sizes_set hg g5
        refine ⟨?_, by simp only [size]; omega⟩
        unfold Wf
        exact ⟨h1, by rw [List.length_set]; exact h2, Wfs_set h3 g4⟩
/-! ### Programs with the same heads -/
/-- Same names, parameters, types; bodies may differ. -/
def sameH (P Q : List Fn) : Prop := P.length = Q.length ∧ ∀ (i : Nat) (f g : Fn), P[i]? = some f → Q[i]? = some g → f.name = g.name ∧ f.params = g.params ∧ f.type = g.type
theorem headI_same : ∀ (P Q : List Fn) (k : Nat) (n : List UInt8), sameH P Q → headI P k n = headI Q k n
  | [], [], k, n, _ => rfl
  | [], g :: Q, k, n, h => by have := h.1; simp at this
  | f :: P, [], k, n, h => by have := h.1; simp at this
  | f :: P, g :: Q, k, n, h => by
    have h0 := (h.2 0 f g rfl rfl).1
    unfold headI
    rw [h0, headI_same P Q (k + 1) n ⟨by simpa using h.1, fun i f' g' h1 h2 => h.2 (i + 1) f' g' (by simpa using h1) (by simpa using h2)⟩]
theorem hdF_same {P Q : List Fn} (h : sameH P Q) (n : List UInt8) : (hdF P n).params = (hdF Q n).params ∧ (hdF P n).type = (hdF Q n).type := by
  unfold hdF
  rw [headI_same P Q 0 n h]
  by_cases hi : (headI Q 0 n).toNat < P.length
  · have hi2 : (headI Q 0 n).toNat < Q.length := by rw [← h.1]; exact hi
    have := h.2 _ _ _ (List.getElem?_eq_getElem hi) (List.getElem?_eq_getElem hi2)
    rw [List.getElem?_eq_getElem hi, List.getElem?_eq_getElem hi2]
    exact this.2
  · rw [List.getElem?_eq_none (by omega), List.getElem?_eq_none (by rw [← h.1]; omega)]
    exact ⟨rfl, rfl⟩
theorem callF_same {P Q : List Fn} (h : sameH P Q) (e : Ex) : callF P e = callF Q e := by
  have := (hdF_same h e.name).1
  unfold hdF at this
  unfold callF
  rw [headI_same P Q 0 _ h] at this ⊢
  rw [this]
theorem seenFaults_same {P Q : List Fn} (h : sameH P Q) : ∀ (l : List Sn), seenFaults P l = seenFaults Q l
  | [] => rfl
  | s :: r => by unfold seenFaults; rw [callF_same h, seenFaults_same h r]
theorem badH_same {P Q : List Fn} (h : sameH P Q) (n : List UInt8) (k : Nat) : badH P n k = badH Q n k := by
  unfold badH
  rw [headI_same P Q 0 _ h, (hdF_same h n).1]
theorem ownR_same {P Q : List Fn} (h : sameH P Q) (env : List Pm) (op : Int) (n : List UInt8) (ty : Int) (k : Nat) : ownR P env op n ty k = ownR Q env op n ty k := by
  unfold ownR ownI
  simp only [badH_same h, (hdF_same h n).2]
theorem wantedR_same {P Q : List Fn} (h : sameH P Q) (op : Int) (n : List UInt8) (ty : Int) (i : Nat) (t : Int) : wantedR P op n ty i t = wantedR Q op n ty i t := by
  unfold wantedR wantedI
  rw [headI_same P Q 0 _ h, (hdF_same h n).1]
mutual
theorem wrongR_same {P Q : List Fn} (h : sameH P Q) : ∀ (env : List Pm) (e : Ex) (t : Int), wrongR P env e t = wrongR Q env e t
  | env, .mk op n tl ty z args p, t => by
    unfold wrongR
    rw [ownR_same h, wrongsR_same h env op n tl ty t 0 args]
theorem wrongsR_same {P Q : List Fn} (h : sameH P Q) (env : List Pm) (op : Int) (n tl : List UInt8) (ty t : Int) : ∀ (i : Nat) (l : List Ex), wrongsR P env op n tl ty t i l = wrongsR Q env op n tl ty t i l
  | i, [] => by simp [wrongsR]
  | i, x :: xs => by
    unfold wrongsR
    rw [wantedR_same h, wrongR_same h, wrongsR_same h env op n tl ty t (i + 1) xs]
end
/-- A body exchanged. -/
def swapB (L : List Fn) (i : Nat) (f : Fn) (e : Ex) : List Fn := L.set i ⟨f.name, f.params, f.type, e, f.at'⟩
theorem swap_same {L : List Fn} {i : Nat} {f : Fn} (h : L[i]? = some f) (e : Ex) : sameH (swapB L i f e) L := by
  refine ⟨by simp [swapB], fun j g g' h1 h2 => ?_⟩
  unfold swapB at h1
  by_cases hj : i = j
  · subst hj
    have hi := (List.getElem?_eq_some_iff.1 h).1
    rw [List.getElem?_set_self hi] at h1
    rw [h, Option.some.injEq] at h2
    simp only [Option.some.injEq] at h1
    subst h1 h2
    exact ⟨rfl, rfl, rfl⟩
  · rw [List.getElem?_set_ne hj, h2, Option.some.injEq] at h1
    subst h1
    exact ⟨rfl, rfl, rfl⟩
theorem swap_self {L : List Fn} {i : Nat} {f : Fn} (h : L[i]? = some f) : swapB L i f f.body = L := by
  unfold swapB
  have hi := (List.getElem?_eq_some_iff.1 h)
  rw [show (⟨f.name, f.params, f.type, f.body, f.at'⟩ : Fn) = L[i]'hi.1 from by rw [hi.2]]
  exact List.set_getElem_self _
theorem Fns_swap {ms : List Mk} : ∀ {L : List Fn} {a b i : Nat} {f : Fn} {e : Ex}, Fns ms a L b → L[i]? = some f → (∀ c d, Wf ms c d f.body → Wf ms c d e) → size e ≤ size f.body → Fns ms a (swapB L i f e) b
  | [], a, b, i, f, e, h, hf, _, _ => by simp at hf
  | g :: L, a, b, 0, f, e, h, hf, hw, hs => by
    simp only [List.getElem?_cons_zero, Option.some.injEq] at hf
    subst hf
    unfold Fns at h
    obtain ⟨c, h1, h2⟩ := h
    show Fns ms a (⟨g.name, g.params, g.type, e, g.at'⟩ :: L) b
    unfold Fns
    exact ⟨c, { h1 with body := hw _ _ h1.body, size := Nat.le_trans hs h1.size }, h2⟩
  | g :: L, a, b, i + 1, f, e, h, hf, hw, hs => by
    unfold Fns at h
    obtain ⟨c, h1, h2⟩ := h
    show Fns ms a (g :: swapB L i f e) b
    unfold Fns
    exact ⟨c, h1, Fns_swap h2 (by simpa using hf) hw hs⟩
theorem swap_ok {L : List Fn} {i : Nat} {f : Fn} {e : Ex} (h : ProgOk L) (hf : L[i]? = some f) (hw : ∀ (ms : List Mk) (c d : Nat), Wf ms c d f.body → Wf ms c d e) (hs : size e ≤ size f.body) : ProgOk (swapB L i f e) := by
  obtain ⟨ms, a, b, h1, h2, h3, h4, h5, h6⟩ := h
  refine ⟨ms, a, b, h1, h2, h3, h4, Fns_swap h5 hf (hw ms) hs, fun g => h6 ?_⟩
  have : (swapB L i f e).length = L.length := by simp [swapB]
  rw [g] at this
  exact List.length_eq_zero_iff.1 this.symm
/-! ### Faults of names -/
theorem par_nz : ∀ (ps : List Pm) (N : List (List UInt8)), ∀ x ∈ parFaults ps N, x.1 ≠ 0
  | [], N, x, h => by simp [parFaults] at h
  | p :: ps, N, x, h => by
    unfold parFaults at h
    rcases List.mem_append.1 h with h | h
    · split at h
      · simp only [List.mem_singleton] at h; subst h; simp
      · simp at h
    · exact par_nz ps _ x h
theorem call_nz (P : List Fn) (e : Ex) : ∀ x ∈ callF P e, x.1 ≠ 0 := by
  intro x h
  unfold callF at h
  split at h
  · simp at h
  · split at h
    · simp only [List.mem_singleton] at h; subst h; simp
    · split at h
      · simp only [List.mem_singleton] at h; subst h; simp
      · simp at h
theorem seen_nz (P : List Fn) : ∀ (l : List Sn), ∀ x ∈ seenFaults P l, x.1 ≠ 0
  | [], x, h => by simp [seenFaults] at h
  | s :: r, x, h => by
    rw [seen_cons] at h
    rcases List.mem_append.1 h with h | h
    · rcases List.mem_append.1 h with h | h
      · split at h
        · simp only [List.mem_singleton] at h; subst h; simp
        · simp at h
      · exact call_nz P _ x h
    · exact seen_nz P r x h
theorem all_nz (P : List Fn) : ∀ (l : List Fn) (i : Nat), ∀ x ∈ allF P l i, x.1 ≠ 0
  | [], i, x, h => by simp [allF] at h
  | f :: fs, i, x, h => by
    unfold allF at h
    rcases List.mem_append.1 h with h | h
    · unfold fnF at h
      rcases List.mem_append.1 h with h | h
      · rcases List.mem_append.1 h with h | h
        · split at h
          · simp only [List.mem_singleton] at h; subst h; simp
          · simp at h
        · exact par_nz _ _ x h
      · exact seen_nz P _ x h
    · exact all_nz P fs (i + 1) x h
theorem ck_nil {P : List Fn} (h : (ckF P).1 = 0) : allF P P 0 = [] := least_zero h (all_nz P P 0)
theorem all_nil {P : List Fn} : ∀ {l : List Fn} {i : Nat}, allF P l i = [] ↔ ∀ (j : Nat) (f : Fn), l[j]? = some f → fnF P (i + j) f = []
  | [], i => by simp [allF]
  | f :: fs, i => by
    unfold allF
    rw [List.append_eq_nil_iff, all_nil (l := fs)]
    constructor
    · rintro ⟨h1, h2⟩ j g hg
      cases j with
      | zero => simp only [List.getElem?_cons_zero, Option.some.injEq] at hg; subst hg; exact h1
      | succ j =>
        have := h2 j g (by simpa using hg)
        rwa [show i + 1 + j = i + (j + 1) from by omega] at this
    · intro h
      refine ⟨h 0 f rfl, fun j g hg => ?_⟩
      have := h (j + 1) g (by simpa using hg)
      rwa [show i + (j + 1) = i + 1 + j from by omega] at this
theorem fnF_same {P Q : List Fn} (h : sameH P Q) (i : Nat) (f : Fn) : fnF P i f = fnF Q i f := by
  unfold fnF
  rw [headI_same P Q 0 _ h, seenFaults_same h]
theorem swap_ck {L : List Fn} {i : Nat} {f : Fn} {e : Ex} (h : L[i]? = some f) (h0 : (ckF L).1 = 0) (he : seenFaults L (seenF e (namesF f)) = []) : ckF (swapB L i f e) = (0, 0) := by
  have hs := swap_same h e
  have ha := all_nil.1 (ck_nil h0)
  have : allF (swapB L i f e) (swapB L i f e) 0 = [] := by
    rw [all_nil]
    intro j g hg
    rw [fnF_same hs]
    unfold swapB at hg
    by_cases hj : i = j
    · subst hj
      rw [List.getElem?_set_self (List.getElem?_eq_some_iff.1 h).1] at hg
      simp only [Option.some.injEq] at hg
      subst hg
      have := ha i f h
      unfold fnF at this ⊢
      rw [List.append_eq_nil_iff] at this ⊢
      exact ⟨this.1, he⟩
    · rw [List.getElem?_set_ne hj] at hg
      exact ha j g hg
  unfold ckF
  rw [this]
  rfl
/-! ### Faults of types -/
theorem ck_fold (l : List Int) : ∀ (s : Ft), (l.foldl ckStep s).1 = 0 ↔ s.1 = 0 ∧ l = [] := by
  induction l with
  | nil => intro s; simp
  | cons x xs ih =>
    intro s
    rw [List.foldl_cons, ih]
    have : (ckStep s x).1 ≠ 0 := by
      unfold ckStep tellF
      split
      · show (34 : Int) ≠ 0
        decide
      · omega
    simp [this]
theorem rtc_zero (P : List Fn) : ∀ (l : List Fn) (s : Ft), (rtcF P l s).1 = 0 ↔ s.1 = 0 ∧ ∀ f ∈ l, wrongR P f.params f.body f.type = []
  | [], s => by simp [rtcF]
  | f :: fs, s => by
    unfold rtcF
    rw [rtc_zero P fs, ck_fold]
    simp only [List.mem_cons, forall_eq_or_imp]
    exact ⟨fun ⟨⟨a, b⟩, c⟩ => ⟨a, b, c⟩, fun ⟨a, b, c⟩ => ⟨⟨a, b⟩, c⟩⟩
theorem rtc_nil (P : List Fn) : ∀ (l : List Fn) (s : Ft), (∀ f ∈ l, wrongR P f.params f.body f.type = []) → rtcF P l s = s
  | [], s, _ => rfl
  | f :: fs, s, h => by
    unfold rtcF
    rw [h f (by simp)]
    exact rtc_nil P fs s (fun g hg => h g (by simp [hg]))
theorem rtc_one {P : List Fn} : ∀ {l : List Fn} {i : Nat} {f : Fn} {e : Ex} {w : List Int} (s : Ft), l[i]? = some f → (∀ g ∈ l, wrongR P g.params g.body g.type = []) → wrongR P f.params e f.type = w → rtcF P (swapB l i f e) s = w.foldl ckStep s
  | [], i, f, e, w, s, h, _, _ => by simp at h
  | g :: l, 0, f, e, w, s, h, hn, hw => by
    simp only [List.getElem?_cons_zero, Option.some.injEq] at h
    subst h
    show rtcF P (⟨g.name, g.params, g.type, e, g.at'⟩ :: l) s = _
    unfold rtcF
    rw [hw]
    exact rtc_nil P l _ (fun k hk => hn k (by simp [hk]))
  | g :: l, i + 1, f, e, w, s, h, hn, hw => by
    show rtcF P (g :: swapB l i f e) s = _
    unfold rtcF
    rw [hn g (by simp)]
    exact rtc_one s (by simpa using h) (fun k hk => hn k (by simp [hk])) hw
def failE (u p : Int) : Ex := .mk 5 [] [] u ⟨0, 0⟩ [] p
theorem fail_wf {ms : List Mk} {a b : Nat} {x : Ex} {u : Int} (h : Wf ms a b x) (hu : tyOk u) : Wf ms a b (failE u x.at') := by
  cases x with
  | mk op n t ty z args p =>
    unfold Wf at h
    unfold failE Wf Wfs
    exact ⟨h.1, .inr (.inl ⟨rfl, rfl, hu⟩), trivial⟩
theorem fail_wrong {P : List Fn} {env : List Pm} {u t p : Int} (hu : tyOk u) : wrongR P env (failE u p) t = if u = t then [] else [p] := by
  have h0 : u ≠ 0 := by unfold tyOk at hu; omega
  unfold failE
  rw [wrongR_mk]
  have : ownR P env 5 [] u 0 = u := by simp [ownR, ctlI, ownI]
  simp only [List.length_nil, this]
  unfold wrongsR
  by_cases h : u = t
  · rw [if_neg (by simp [h]), if_pos h]; rfl
  · rw [if_pos ⟨h0, h⟩, if_neg h]; rfl
theorem fail_seen {P : List Fn} {N : List (List UInt8)} {u p : Int} : seenFaults P (seenF (failE u p) N) = [] := by
  unfold failE
  rw [seenF_mk]
  simp [seensF, seenFaults]
/-- What TypesFail asks: of a sound program, a part of a body exchanged for a fail. -/
theorem fail_types {L : List Fn} {i : Nat} {f : Fn} (h : ProgOk L) (hf : L[i]? = some f) (h0 : (typesF L).1 = 0) (k n : Nat) (u : Int) (hu : tyOk u) :
    ProgOk (swapB L i f (insF k f.body n (failE u (parF L k f.body f.type n).1.at'))) ∧
    typesF (swapB L i f (insF k f.body n (failE u (parF L k f.body f.type n).1.at'))) = if u = (parF L k f.body f.type n).2 then (0, 0) else (34, (parF L k f.body f.type n).1.at') := by
  rw [types_eq h] at h0
  unfold rtypesF at h0
  by_cases hck : (ckF L).1 = 0
  · rw [if_neg (fun g => g hck), rtc_zero] at h0
    have hn := h0.2
    have hmem : f ∈ L := List.mem_of_getElem? hf
    generalize hp : parF L k f.body f.type n = R
    have hok : ProgOk (swapB L i f (insF k f.body n (failE u R.1.at'))) := by
      refine swap_ok h hf (fun ms c d hw => ?_) ?_
      · obtain ⟨g1, g2, g3⟩ := ins_wf L k f.body f.type n hw
        rw [hp] at g1 g3
        refine (g3 _ (fail_wf g1 hu) ?_).1
        have : 1 ≤ size R.1 := by cases R.1; simp [size]
        simp [failE, size, sizes]; omega
      · obtain ⟨ms, a, b, _, _, _, _, hF, _⟩ := h
        obtain ⟨c, d, hw⟩ : ∃ c d, Wf ms c d f.body := by
          have : ∀ (l : List Fn) (a b : Nat), Fns ms a l b → f ∈ l → ∃ c d, Wf ms c d f.body := by
            intro l
            induction l with
            | nil => intro a b _ hm; simp at hm
            | cons g gs ih =>
              intro a b hF hm
              unfold Fns at hF
              obtain ⟨c, g1, g2⟩ := hF
              rcases List.mem_cons.1 hm with rfl | hm
              · exact ⟨_, _, g1.body⟩
              · exact ih _ _ g2 hm
          exact this L a b hF hmem
        obtain ⟨g1, g2, g3⟩ := ins_wf L k f.body f.type n hw
        rw [hp] at g1 g3
        refine (g3 _ (fail_wf g1 hu) ?_).2
        have : 1 ≤ size R.1 := by cases R.1; simp [size]
        simp [failE, size, sizes]; omega
    refine ⟨hok, ?_⟩
    rw [types_eq hok]
    have hfn := all_nil.1 (ck_nil hck) i f hf
    unfold fnF at hfn
    rw [List.append_eq_nil_iff] at hfn
    obtain ⟨N', _, s2⟩ := ins_seen L L k f.body f.type n (namesF f) hfn.2
    have hck2 := swap_ck (e := insF k f.body n (failE u R.1.at')) hf hck (by rw [s2]; exact fail_seen)
    unfold rtypesF
    rw [hck2, if_neg (by simp)]
    obtain ⟨env', _, w2⟩ := ins_wrong L k f.params f.body f.type n (hn f hmem)
    rw [hp] at w2
    have hs := swap_same hf (insF k f.body n (failE u R.1.at'))
    have hmain := rtc_one (P := swapB L i f (insF k f.body n (failE u R.1.at'))) (l := L) (0, 0) hf (fun g hg => by rw [wrongR_same hs]; exact hn g hg) (w := if u = R.2 then [] else [R.1.at']) (e := insF k f.body n (failE u R.1.at')) (by rw [wrongR_same hs, w2, fail_wrong hu])
    rw [hmain]
    by_cases hut : u = R.2
    · rw [if_pos hut, if_pos hut]; rfl
    · rw [if_neg hut, if_neg hut]
      simp [ckStep, tellF]
  · rw [if_pos hck] at h0
    exact absurd h0 hck
theorem types_00 {L : List Fn} (h : ProgOk L) (h0 : (typesF L).1 = 0) : typesF L = (0, 0) := by
  rw [types_eq h] at h0 ⊢
  unfold rtypesF at h0 ⊢
  by_cases hck : (ckF L).1 = 0
  · rw [if_neg (fun g => g hck)] at h0 ⊢
    rw [rtc_zero] at h0
    rw [rtc_nil L L _ h0.2]
    unfold ckF
    rw [ck_nil hck]; rfl
  · rw [if_pos hck] at h0; exact absurd h0 hck
theorem Wanted_e (P : List Fn) (e : Ex) (i : Nat) (t : Int) (hl : P.length < 2 ^ 40) : Pure Try.prog 27 [.agg [.sl (em encFn P)], .agg (encEx e), I i, I t] (I (wantedR P e.op e.name e.type i t)) := by
  cases e with
  | mk op n tl ty z args p => exact Wanted_c P op n tl ty z args p i t hl
theorem tmod_nat (n l : Nat) : ((n : Int)).tmod (l : Int) = ((n % l : Nat) : Int) := by
  rw [Int.tmod_eq_emod_of_nonneg (by omega)]; omega
theorem tdiv_3 (n : Nat) : ((n : Int)).tdiv 3 = ((n / 3 : Nat) : Int) := by
  rw [Int.tdiv_eq_ediv_of_nonneg (by omega)]; omega
theorem Place_c (P : List Fn) (hP : P.length < 2 ^ 40) (k0 : Nat) (e : Ex) (t m : Int) (hk : size e ≤ k0) (hk0 : k0 ≤ 2 ^ 40) (hm : m < 2 ^ 63) :
    Pure Try.prog 15 [.agg [.sl (em encFn P)], .agg (encEx e), I t, I m] (.tup [.agg (encEx (parF P k0 e t (max m 0).toNat).1), I (parF P k0 e t (max m 0).toNat).2]) := by
  refine pu15 (by simp) ?_
  generalize hR : parF P k0 e t (max m 0).toNat = R
  have hmx : max m 0 = (((max m 0).toNat : Nat) : Int) := by omega
  have hb : (max m 0).toNat < 2 ^ 63 := by omega
  generalize (max m 0).toNat = n0 at *
  obtain ⟨R1, R2⟩ := R
  simp only [encEx_eq]
  simp -implicitDefEqProofs [ac15, hmx]
  refine lp15_0 (α := Nat × Ex × Int × Nat) (fun s _ => [(2, I s.2.2.1), (10, I s.2.2.2), (11, .top)]) (fun s _ => [(2, .box [I 0, Tx [], Tx [], I 0, CX 0 0, .pl (.slice none 0 0), I 0]), (1, .box (encEx s.2.1))]) (fun s k => size s.2.1 ≤ s.1 ∧ s.1 ≤ 2 ^ 40 ∧ s.2.2.2 < 2 ^ 63 ∧ parF P s.1 s.2.1 s.2.2.1 s.2.2.2 = (R1, R2)) (fun s => s.1) (k0, e, t, n0) ⟨hk, hk0, hb, hR⟩ (by simp) (by simp [encEx_eq]) ?_
  rintro ⟨k, e, t, n⟩ nx ⟨h1, h2, h3, h4⟩
  simp only at h1 h2 h3 h4
  by_cases hc : n = 0 ∨ e.args = []
  · have hp : parF P k e t n = (e, t) := by cases k <;> simp [parF, hc]
    rw [hp, Prod.mk.injEq] at h4
    obtain ⟨rfl, rfl⟩ := h4
    by_cases hn : n = 0
    · subst hn
      simp -implicitDefEqProofs [lb15_0, encEx_eq]
    · have hl : e.args = [] := hc.resolve_left hn
      have hn1 : (0 : Int) < n := by omega
      simp -implicitDefEqProofs [lb15_0, hn1, hl, encEx_eq]
  · have hn : ¬ n = 0 := fun g => hc (.inl g)
    have hl : e.args ≠ [] := fun g => hc (.inr g)
    have hsz := size_eq e
    obtain ⟨k', rfl⟩ : ∃ k', k = k' + 1 := ⟨k - 1, by omega⟩
    unfold parF at h4
    rw [if_neg hc] at h4
    have hlt := mod_lt' n hl
    have e1 := tmod_nat n e.args.length
    obtain ⟨i, hi⟩ : ∃ i, i = n % e.args.length := ⟨_, rfl⟩
    rw [← hi] at h4 hlt e1
    obtain ⟨x, hx⟩ : ∃ x, e.args[i] = x := ⟨_, rfl⟩
    have hx2 : e.args[i]?.getD default = x := by rw [List.getElem?_eq_getElem hlt, hx]; rfl
    have hxs : size x ≤ sizes e.args := size_mem (hx ▸ List.getElem_mem hlt)
    rw [hx2] at h4
    have e2 := tdiv_3 n
    have hn1 : (0 : Int) < n := by omega
    have hn2 : 0 < n := by omega
    have hl0 : 0 < e.args.length := by omega
    have hl1 : (0 : Int) < e.args.length := by omega
    have hl2 : ¬ (e.args.length : Int) = 0 := by omega
    have hl3 : ¬ e.args.length = 0 := by omega
    have hge := sizes_ge e.args
    have w1 := wr64 (x := (n : Int) / 3) (by omega) (by omega)
    have w2 := wr64 (x := (i : Int)) (by omega) (by omega)
    have hW := Wanted_e P e i t hP
    simp only [encEx_eq] at hW
    simp -implicitDefEqProofs [lb15_0, encEx_eq, hn, hn1, hn2, hl, hl0, hl1, hl2, hl3, e1, e2, w2]
    refine pcK_of hW (by simp) ?_
    simp -implicitDefEqProofs [hx, hx2, hlt, w1, e2, hl, hl0, hl1, hl2, hl3]
    refine again_of (k', x, wantedR P e.op e.name e.type i t, n / 3) ⟨by simp only; omega, by simp only; omega, by simp only; omega, h4⟩ (by simp only; omega) (by simp) (by simp [encEx_eq])
theorem em_set16 {l : List Ex} {i : Nat} {x : Ex} : (em encEx l).set i (encEx x) = em encEx (l.set i x) := by
  simp [em, List.map_set]
theorem els_Ex {l : List Ex} {mem : Mem} : els mem 7 (.sl (em encEx l)) = some (em encEx l) := em_elsS (fun x => by rw [encEx_eq]; rfl) (fun x => by rw [encEx_eq]; rfl)
theorem Instead_c : ∀ (k : Nat) (e y : Ex) (m : Int), size e ≤ k → k ≤ 2 ^ 40 → m < 2 ^ 63 → Pure Try.prog 16 [.agg (encEx e), I m, .agg (encEx y)] (.agg (encEx (insF k e (max m 0).toNat y)))
  | 0, e, y, m, h, _, _ => by have := size_eq e; omega
  | k + 1, e, y, m, h, hk, hm => by
    refine pu16 (by simp) ?_
    have hmx : max m 0 = (((max m 0).toNat : Nat) : Int) := by omega
    have hb : (max m 0).toNat < 2 ^ 63 := by omega
    generalize (max m 0).toNat = n at *
    simp only [encEx_eq e, encEx_eq y]
    by_cases hc : n = 0 ∨ e.args = []
    · have hp : insF (k + 1) e n y = y := by simp [insF, hc]
      rw [hp, encEx_eq y]
      by_cases hn : n = 0
      · simp -implicitDefEqProofs [ac16, hmx, hn]
      · have hl : e.args = [] := hc.resolve_left hn
        simp -implicitDefEqProofs [ac16, hmx, hn, hl]
    · have hn : ¬ n = 0 := fun g => hc (.inl g)
      have hl : e.args ≠ [] := fun g => hc (.inr g)
      have hsz := size_eq e
      unfold insF
      rw [if_neg hc]
      have hlt := mod_lt' n hl
      have e1 := tmod_nat n e.args.length
      obtain ⟨i, hi⟩ : ∃ i, i = n % e.args.length := ⟨_, rfl⟩
      rw [← hi] at hlt e1 ⊢
      obtain ⟨x, hx⟩ : ∃ x, e.args[i] = x := ⟨_, rfl⟩
      have hx2 : e.args[i]?.getD default = x := by rw [List.getElem?_eq_getElem hlt, hx]; rfl
      have hxs : size x ≤ sizes e.args := size_mem (hx ▸ List.getElem_mem hlt)
      rw [hx2]
      have e2 := tdiv_3 n
      have hn1 : (0 : Int) < n := by omega
      have hn2 : 0 < n := by omega
      have hl0 : 0 < e.args.length := by omega
      have hl1 : (0 : Int) < e.args.length := by omega
      have hl2 : ¬ (e.args.length : Int) = 0 := by omega
      have hl3 : ¬ e.args.length = 0 := by omega
      have hge := sizes_ge e.args
      have w1 := wr64 (x := (n : Int) / 3) (by omega) (by omega)
      have w2 := wr64 (x := (i : Int)) (by omega) (by omega)
      have b1 : e.args.length * 96 ≤ 3 * 2 ^ 46 := by omega
      have ih := Instead_c k x y ((n / 3 : Nat) : Int) (by omega) (by omega) (by omega)
      have e3 : (max ((n / 3 : Nat) : Int) 0).toNat = n / 3 := by omega
      rw [e3] at ih
      have hset : (em encEx e.args).set i [I (insF k x (n / 3) y).op, Tx (insF k x (n / 3) y).name, Tx (insF k x (n / 3) y).tail, I (insF k x (n / 3) y).type, CX (insF k x (n / 3) y).num.re (insF k x (n / 3) y).num.im, .sl (em encEx (insF k x (n / 3) y).args), I (insF k x (n / 3) y).at'] = em encEx (e.args.set i (insF k x (n / 3) y)) := by
        rw [← encEx_eq, em_set16]
      generalize insF k x (n / 3) y = r at *
      simp only [encEx_eq x, encEx_eq y, encEx_eq r] at ih
      rw [encEx_mk]
      simp -implicitDefEqProofs [-els, els_Ex, ac16, hmx, hn, hn1, hn2, hl, hl0, hl1, hl2, hl3, e1, e2, w1, w2, b1, hx, hx2, hlt]
      refine pcK_of ih (by simp) ?_
      have htake : List.take e.args.length (em encEx (e.args.set i r)) = em encEx (e.args.set i r) := List.take_of_length_le (by simp)
      simp -implicitDefEqProofs [hset, hlt, hx, encEx_eq x, htake]
theorem neFault {a b c d : Int} : binD Try.prog .neq 31 (.agg [I a, I b]) (.agg [I c, I d]) = some (.pl (.bool (!decide (a = c ∧ b = d)))) := by
  refine (bin_eqlS (vs := [.int .i64 a, .int .i64 b]) (us := [.int .i64 c, .int .i64 d]) (r := decide (a = c ∧ b = d)) Try.underlying31 (by kernel_rfl) (by kernel_rfl) rfl rfl ?_).2
  simp [eqFs, scal, Try.underlying29, Try.underlying3]
  rw [Bool.eq_iff_iff]; simp
theorem into_i (n N : Int) (hN : 1 ≤ N) (hle : N ≤ 2 ^ 40) : 0 ≤ (n.tmod N + N).tmod N ∧ (n.tmod N + N).tmod N < N ∧ -2 ^ 50 ≤ n.tmod N + N ∧ n.tmod N + N ≤ 2 ^ 50 ∧ ¬ N = 0 := by
  have h1 := Int.lt_tmod_of_pos n (by omega : 0 < N)
  have h2 := Int.tmod_lt_of_pos n (by omega : 0 < N)
  have h3 : 0 ≤ n.tmod N + N := by omega
  exact ⟨Int.tmod_nonneg _ h3, Int.tmod_lt_of_pos _ (by omega), by omega, by omega, by omega⟩
theorem arg_i7 {x : D} (h : Arg Try.prog 3 x) : ∃ z : Int, x = I z ∧ -2 ^ 63 ≤ z ∧ z < 2 ^ 63 := by
  obtain ⟨n, ds, h, k⟩ := h
  cases n with
  | zero => exact h.elim
  | succ n =>
    simp only [Wt, Try.underlying3] at h k
    obtain ⟨z, rfl, hz⟩ := h
    simp [Lit.wf, IntKind.min, IntKind.max, IntKind.signed, IntKind.bits] at hz
    simp only [List.cons.injEq, and_true] at k
    exact ⟨z, k.symm, by omega, by omega⟩
theorem Inst_fail (k : Nat) (e : Ex) (u p m : Int) (h1 : size e ≤ k) (h2 : k ≤ 2 ^ 40) (h3 : m < 2 ^ 63) :
    Pure Try.prog 16 [.agg (encEx e), I m, .agg [I 5, Tx [], Tx [], I u, CX 0 0, .pl (.slice none 0 0), I p]] (.agg (encEx (insF k e (max m 0).toNat (failE u p)))) := by
  have h := Instead_c k e (failE u p) m h1 h2 h3
  refine Pure_arg ?_ h
  simp only [failE, encEx_mk]
  exact rLes_cons rLe.refl (rLes_cons rLe.refl (rLes_cons (rLe_agg (rLes_cons rLe.refl (rLes_cons rLe.refl (rLes_cons rLe.refl (rLes_cons rLe.refl (rLes_cons rLe.refl (rLes_cons rLe_nil rLes.refl'))))))) rLes_nil))
theorem els_Fn {l : List Fn} {mem : Mem} : els mem 11 (.sl (em encFn l)) = some (em encFn l) := em_elsS (fun x => by rw [encFn_eq]; rfl) (fun x => by rw [encFn_eq]; rfl)
theorem law_TypesFail : ∀ xs, Args Try.prog Try.f7.params.toList xs → Pure Try.prog 7 xs (B true) := by
  intro xs h
  rw [Try.params7] at h
  simp only [Args] at h
  obtain ⟨x, r, rfl, hx, y, r2, rfl, hy, z, r3, rfl, hz, rfl⟩ := h
  obtain ⟨t, rfl, ht⟩ := arg_bytes hx
  obtain ⟨n, rfl, _⟩ := arg_i7 hy
  obtain ⟨m, rfl, _, hm⟩ := arg_i7 hz
  obtain ⟨L, w, p, hr, hnm⟩ := read_nm t ht
  have hc := read_c hr
  refine pu7 (by simp) ?_
  by_cases hw : w = 0
  · have hk := hr.2.1 hw
    obtain ⟨hPT, hPl, hPs⟩ := prog_sh hk
    have k1 := types_c (scope_ok hk).1 hPl hPs
    have k3 := same_c (L := L) (by omega) (fun f hf => ⟨by have := (hPs f hf).1; omega, by have := (hPs f hf).2.1; omega, hnm f hf⟩)
    have hne : 0 < L.length := by
      obtain ⟨_, _, _, _, _, _, _, _, h⟩ := hk
      cases L with
      | nil => exact absurd rfl h
      | cons a l => simp
    have hd : decide (w = 0) = true := by simp [hw]
    rw [hd] at hc
    simp -implicitDefEqProofs [ac7]
    refine pcK_of (awake_c) (by simp) ?_
    simp -implicitDefEqProofs
    refine pcK_of hc (by simp) ?_
    simp -implicitDefEqProofs
    refine clK_of (CallT_flat (mf := []) (args' := [.agg [.sl (em encFn L)]]) (d0 := .agg [I (typesF L).1, I (typesF L).2]) rfl (memSub_nil _) (by simp) k1 ?_)
    by_cases h0 : (typesF L).1 = 0
    · obtain ⟨a1, a2, a3, a4, a5⟩ := into_i n L.length (by omega) (by omega)
      have w1 := wr64 (x := n.tmod L.length + L.length) (by omega) (by omega)
      obtain ⟨j, hj⟩ : ∃ j : Nat, (n.tmod L.length + L.length).tmod L.length = (j : Int) := ⟨((n.tmod L.length + L.length).tmod L.length).toNat, by omega⟩
      have hjl : j < L.length := by omega
      obtain ⟨f, hf⟩ : ∃ f, L[j] = f := ⟨_, rfl⟩
      have hf1 : L[j]? = some f := by rw [List.getElem?_eq_getElem hjl, hf]
      have hf2 : L[j]?.getD default = f := by rw [hf1]; rfl
      have hmem : f ∈ L := hf ▸ List.getElem_mem hjl
      obtain ⟨z1, z2, z3⟩ := hPs f hmem
      have b1 : L.length * 152 ≤ 3 * 2 ^ 46 := by omega
      have hPl := Place_c L hPl (size f.body) f.body f.type m (Nat.le_refl _) (by omega) hm
      have hft := fun u hu => fail_types hk hf1 h0 (size f.body) (max m 0).toNat u hu
      have hback := ins_self L (size f.body) f.body f.type (max m 0).toNat
      have hInF := fun u p => Inst_fail (size f.body) f.body u p m (Nat.le_refl _) (by omega) hm
      have hInX := fun y => Instead_c (size f.body) f.body y m (Nat.le_refl _) (by omega) hm
      generalize parF L (size f.body) f.body f.type (max m 0).toNat = R at *
      simp only [encEx_eq] at hPl
      have hLn : L ≠ [] := List.ne_nil_of_length_pos hne
      simp -implicitDefEqProofs [-els, els_Fn, hLn, h0, b1, a5, w1, hj, hjl, hf, hf2, encFn_eq]
      refine pcK_of hPl (by simp) ?_
      simp -implicitDefEqProofs
      have hsl : ∀ ee, (swapB L j f ee).length = L.length := fun ee => by simp [swapB]
      have hel : ∀ ee, (em encFn (swapB L j f ee)).length = L.length := fun ee => by simp [swapB]
      have hgj : ∀ ee h, (em encFn (swapB L j f ee))[j]'h = encFn ⟨f.name, f.params, f.type, ee, f.at'⟩ := fun ee h => by
        have hjs : j < (swapB L j f ee).length := by rw [hsl]; exact hjl
        simp [em, swapB]
      have hgj2 : ∀ ee, (em encFn (swapB L j f ee))[j]? = some (encFn ⟨f.name, f.params, f.type, ee, f.at'⟩) := fun ee => by
        rw [List.getElem?_eq_getElem (by rw [hel]; exact hjl), hgj]
      have hsj : ∀ ee, (swapB L j f ee)[j]?.getD default = ⟨f.name, f.params, f.type, ee, f.at'⟩ := fun ee => by simp [swapB, hjl]
      have hsj2 : ∀ ee h, (swapB L j f ee)[j]'h = ⟨f.name, f.params, f.type, ee, f.at'⟩ := fun ee h => by simp [swapB]
      have hset : ∀ ee e2, (em encFn (swapB L j f ee)).set j [Tx f.name, .sl (em encPm f.params), I f.type, I e2.op, Tx e2.name, Tx e2.tail, I e2.type, CX e2.num.re e2.num.im, .sl (em encEx e2.args), I e2.at', I f.at'] = em encFn (swapB L j f e2) := fun ee e2 => by
        have : [Tx f.name, .sl (em encPm f.params), I f.type, I e2.op, Tx e2.name, Tx e2.tail, I e2.type, CX e2.num.re e2.num.im, .sl (em encEx e2.args), I e2.at', I f.at'] = encFn ⟨f.name, f.params, f.type, e2, f.at'⟩ := by rw [encFn_eq]
        rw [this, em_set]
        simp [swapB, List.set_set]
      have htake : ∀ ee, List.take L.length (em encFn (swapB L j f ee)) = em encFn (swapB L j f ee) := fun ee => List.take_of_length_le (by rw [hel]; exact Nat.le_refl _)
      refine lp7_0 (α := Nat × Ex) (fun s _ => [(6, .top), (14, I s.1), (15, .top)]) (fun s _ => [(57, .box (encEx R.1)), (45, .box (encFn f)), (24, .box [.osl 22 0 0 L.length]), (22, .arr 0 11 (em encFn (swapB L j f s.2))), (8, .box [.sl (em encFn L)])]) (fun s k => 61 ≤ k ∧ 1 ≤ s.1 ∧ s.1 ≤ 4) (fun s => 5 - s.1) (1, f.body) ⟨by omega, by simp, by simp⟩ (by simp) (by rw [swap_self hf1]; simp [encEx_eq, encFn_eq]) ?_
      rintro ⟨u, ee⟩ k ⟨hk1, hu1, hu2⟩
      simp only at hu1 hu2
      by_cases hle : (u : Int) ≤ 3
      · have hty : tyOk u := by unfold tyOk; omega
        have hI := hInF u R.1.at'
        obtain ⟨ok2, ty2⟩ := hft u hty
        generalize insF (size f.body) f.body (max m 0).toNat (failE u R.1.at') = e2 at *
        simp only [encEx_eq] at hI
        obtain ⟨_, q1, q2⟩ := prog_sh ok2
        have kc := types_c (scope_ok ok2).1 q1 q2
        rw [ty2] at kc
        have k39 : (k = 39) = False := eq_false (by omega)
        have k27 : (k = 27) = False := eq_false (by omega)
        have k6 : (k = 6) = False := eq_false (by omega)
        have k4 : (k = 4) = False := eq_false (by omega)
        have w2 := wr64 (x := (u : Int) + 1) (by omega) (by omega)
        simp -implicitDefEqProofs [lb7_0, hle, encEx_eq, encFn_eq]
        refine pcK_of hI (by simp) ?_
        simp -implicitDefEqProofs [hjl, hsl, hsj, hsj2, encFn_eq, hset]
        by_cases hut : (u : Int) = R.2
        · rw [if_pos hut] at kc
          refine clK_of (CallT_flat (args' := [.agg [.sl (em encFn (swapB L j f e2))]]) (d0 := .agg [I 0, I 0]) rfl (memSub_refl _) (by simp [htake, hsl]) kc ?_)
          have hut2 := eq_true hut
          simp -implicitDefEqProofs [hut2, w2, neFault, k39, k27, k6, k4]
          exact again_of (u + 1, e2) ⟨by omega, by omega, by omega⟩ (by simp only; omega) (by simp) (memLe_skip (memLe_refl _) (by simp [look, k39, k27, k6, k4]))
        · rw [if_neg hut] at kc
          refine clK_of (CallT_flat (args' := [.agg [.sl (em encFn (swapB L j f e2))]]) (d0 := .agg [I 34, I R.1.at']) rfl (memSub_refl _) (by simp [htake, hsl]) kc ?_)
          have hut2 := eq_false hut
          simp -implicitDefEqProofs [hut2, w2, neFault, k39, k27, k6, k4]
          exact again_of (u + 1, e2) ⟨by omega, by omega, by omega⟩ (by simp only; omega) (by simp) (memLe_skip (memLe_refl _) (by simp [look, k39, k27, k6, k4]))
      · have hX := hInX R.1
        rw [hback] at hX
        simp only [encEx_eq] at hX
        have hset2 := hset ee f.body
        rw [swap_self hf1] at hset2
        have htk : List.take L.length (em encFn L) = em encFn L := List.take_of_length_le (by simp)
        simp -implicitDefEqProofs [lb7_0, hle, encEx_eq, encFn_eq]
        refine pcK_of hX (by simp) ?_
        simp -implicitDefEqProofs [hjl, hsl, hsj, hsj2, encFn_eq, hset2]
        rw [types_00 hk h0] at k1
        refine clK_of (CallT_flat (args' := [.agg [.sl (em encFn L)]]) (d0 := .agg [I 0, I 0]) rfl (memSub_refl _) (by simp [htk]) k1 ?_)
        simp -implicitDefEqProofs [eqFault]
        refine clK_of (CallT_flat (args' := [.agg [.sl (em encFn L)], .agg [.sl (em encFn L)], B true]) (d0 := B true) rfl (memSub_refl _) (by simp [htk]) k3 ?_)
        simp -implicitDefEqProofs
    · simp -implicitDefEqProofs [h0]
  · have hd : decide (w = 0) = false := by simp [hw]
    rw [hd] at hc
    simp -implicitDefEqProofs [ac7]
    refine pcK_of (awake_c) (by simp) ?_
    simp -implicitDefEqProofs
    refine pcK_of (hc) (by simp) ?_
    simp -implicitDefEqProofs
end Go.Fx.Ythbainhddfajfaa

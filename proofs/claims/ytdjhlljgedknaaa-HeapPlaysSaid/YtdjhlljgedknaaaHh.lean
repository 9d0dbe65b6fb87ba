/-
  Layer 13: what HeapOnce keeps, step by step. Plain.
-/
import Derived.Test.YtdjhlljgedknaaaHg
import Derived.Test.YtdjhlljgedknaaaMi
set_option linter.all false
set_option maxRecDepth 100000
set_option maxHeartbeats 4000000
namespace Go.Fx.Ytdjhlljgedknaaa
open Go Go.Fx Go.Proofs Go.Fx.Flt
def getI (m : Mi Int) (k : Int) : Int := (lookI m k).getD 0
/-- What is told of one node by the two maps. -/
def NodeOk (n : Option Nd) (en : Int) (dn : Option Ce) : Prop :=
  match n with
  | none => en = 0 ∧ dn = none
  | some n => (n.state = 1 ∧ en = 0 ∧ dn = none) ∨ (n.state = 2 ∧ en = 1 ∧ dn = none) ∨ (n.state = 3 ∧ en = 1 ∧ dn = some n.cell) ∨ (n.state = 4 ∧ en = 0 ∧ dn = none)
def atI (ns : List Nd) (i : Int) : Option Nd := if 0 ≤ i then ns[i.toNat]? else none
structure Once (ns : List Nd) (en : Mi Int) (dn : Mi Ce) (up : Int) : Prop where
  node : ∀ i, NodeOk (atI ns i) (getI en i) (lookI dn i)
  up : up = dn.length
theorem getI_put (m : Mi Int) (k j v : Int) : getI (putI m k v) j = if k = j then v else getI m j := by
  unfold getI
  rw [lookI_put]
  split <;> rfl
theorem atI_app {ns : List Nd} {n : Nd} {i : Int} : atI (ns ++ [n]) i = if i = ns.length then some n else atI ns i := by
  unfold atI
  by_cases h : 0 ≤ i
  · rw [if_pos h, if_pos h]
    by_cases h2 : i = ns.length
    · rw [if_pos h2, show i.toNat = ns.length by omega, List.getElem?_append_right (Nat.le_refl _)]; simp
    · rw [if_neg h2]
      by_cases h3 : i.toNat < ns.length
      · rw [List.getElem?_append_left h3]
      · rw [List.getElem?_eq_none (by simp; omega), List.getElem?_eq_none (by omega)]
  · rw [if_neg h, if_neg h, if_neg (by omega)]
theorem atI_set {ns : List Nd} {n : Nd} {i j : Int} (h0 : 0 ≤ i) (h1 : i < ns.length) : atI (ns.set i.toNat n) j = if j = i then some n else atI ns j := by
  unfold atI
  by_cases h : 0 ≤ j
  · rw [if_pos h, if_pos h]
    by_cases h2 : j = i
    · rw [if_pos h2, h2, List.getElem?_set_self (by omega)]
    · rw [if_neg h2, List.getElem?_set_ne (by omega)]
  · rw [if_neg h, if_neg h, if_neg (by omega)]
theorem once_0 : Once [] [] [] 0 := ⟨fun i => by
  have e : atI [] i = none := by unfold atI; split <;> simp
  rw [e]; exact ⟨rfl, rfl⟩, rfl⟩
/-- A new node: delayed, or poison. -/
theorem once_add {ns : List Nd} {en : Mi Int} {dn : Mi Ce} {up : Int} (h : Once ns en dn up) {n : Nd} (hn : n.state = 1 ∨ n.state = 4) : Once (ns ++ [n]) en dn up := by
  refine ⟨fun i => ?_, h.up⟩
  rw [atI_app]
  have := h.node i
  split
  · rename_i e
    have e2 : atI ns i = none := by unfold atI; rw [e]; simp
    rw [e2] at this
    obtain ⟨a, b⟩ := this
    unfold NodeOk
    rcases hn with hn | hn
    · exact .inl ⟨hn, a, b⟩
    · exact .inr (.inr (.inr ⟨hn, a, b⟩))
  · exact this
/-- A delayed node is entered. -/
theorem once_enter {ns : List Nd} {en : Mi Int} {dn : Mi Ce} {up : Int} (h : Once ns en dn up) {i : Int} {n : Nd} (hi : atI ns i = some n) (hs : n.state = 1) (h0 : 0 ≤ i) (h1 : i < ns.length) : getI en i = 0 ∧ Once (ns.set i.toNat ⟨2, 0, ce0⟩) (putI en i 1) dn up := by
  have hk := h.node i
  rw [hi] at hk
  unfold NodeOk at hk
  have hk2 : getI en i = 0 ∧ lookI dn i = none := by
    rcases hk with ⟨_, a, b⟩ | ⟨g, _⟩ | ⟨g, _⟩ | ⟨g, _⟩
    · exact ⟨a, b⟩
    all_goals omega
  refine ⟨hk2.1, ⟨fun j => ?_, h.up⟩⟩
  rw [atI_set h0 h1, getI_put]
  have hj := h.node j
  by_cases e : j = i
  · subst e
    rw [if_pos rfl, if_pos rfl]
    exact .inr (.inl ⟨rfl, rfl, hk2.2⟩)
  · rw [if_neg e, if_neg (fun g => e g.symm)]; exact hj
/-- A black node is done. -/
theorem once_done {ns : List Nd} {en : Mi Int} {dn : Mi Ce} {up : Int} (h : Once ns en dn up) {i : Int} {n : Nd} (c : Ce) (hi : atI ns i = some n) (hs : n.state = 2) (h0 : 0 ≤ i) (h1 : i < ns.length) : getI en i = 1 ∧ lookI dn i = none ∧ Once (ns.set i.toNat ⟨3, 0, c⟩) en (putI dn i c) (up + 1) := by
  have hk := h.node i
  rw [hi] at hk
  unfold NodeOk at hk
  have hk2 : getI en i = 1 ∧ lookI dn i = none := by
    rcases hk with ⟨g, _⟩ | ⟨_, a, b⟩ | ⟨g, _⟩ | ⟨g, _⟩
    · omega
    · exact ⟨a, b⟩
    all_goals omega
  refine ⟨hk2.1, hk2.2, ⟨fun j => ?_, ?_⟩⟩
  · rw [atI_set h0 h1, lookI_put]
    have hj := h.node j
    by_cases e : j = i
    · subst e
      rw [if_pos rfl, if_pos rfl]
      exact .inr (.inr (.inl ⟨rfl, hk2.1, rfl⟩))
    · rw [if_neg e, if_neg (fun g => e g.symm)]; exact hj
  · rw [putI_len, hk2.2, h.up]; simp
end Go.Fx.Ytdjhlljgedknaaa

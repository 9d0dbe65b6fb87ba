/-
  Deep values that may be seen as others: a nil slice as an empty one, wherever it lies.
-/
import Derived.Test.YtaiklblnfebdfaaX20
set_option linter.all false
namespace Go.Fx
open Go
def rLe (d d' : D) : Prop := ∀ (w : World) (S : Nat → Prop) (φ : Locs) (x : Value), Rep w S φ d x → Rep w S φ d' x
def rLes (ds ds' : List D) : Prop := ∀ (w : World) (S : Nat → Prop) (φ : Locs) (xs : List Value), RepVs w S φ ds xs → RepVs w S φ ds' xs
theorem rLe.refl {d : D} : rLe d d := fun _ _ _ _ h => h
theorem rLe_nil : rLe (.pl (.slice none 0 0)) (.sl []) := fun _ _ _ _ h => Rep_le (.inr (.inr ⟨rfl, .inr rfl⟩)) h
theorem rLe_zs : rLe .zs (.sl []) := fun _ _ _ _ h => Rep_le (.inr (.inr ⟨rfl, .inl rfl⟩)) h
theorem rLes_nil : rLes [] [] := fun _ _ _ _ h => h
theorem rLes_cons {d d' : D} {ds ds' : List D} (h : rLe d d') (k : rLes ds ds') : rLes (d :: ds) (d' :: ds') := fun w S φ xs hx => by
  simp only [RepVs] at hx ⊢
  obtain ⟨x, r, rfl, h1, h2⟩ := hx
  exact ⟨x, r, rfl, h _ _ _ _ h1, k _ _ _ _ h2⟩
theorem rLe_agg {ds ds' : List D} (h : rLes ds ds') : rLe (.agg ds) (.agg ds') := fun w S φ x hx => by
  simp only [Rep] at hx ⊢
  obtain ⟨vs, rfl, h1⟩ := hx
  exact ⟨vs, rfl, h _ _ _ _ h1⟩
theorem rLe_tup {ds ds' : List D} (h : rLes ds ds') : rLe (.tup ds) (.tup ds') := fun w S φ x hx => by
  simp only [Rep] at hx ⊢
  obtain ⟨vs, rfl, h1⟩ := hx
  exact ⟨vs, rfl, h _ _ _ _ h1⟩
theorem Pure_arg {P : Program} {f : FuncId} {xs ys : List D} {r : D} (h : rLes xs ys) (k : Pure P f ys r) : Pure P f xs r :=
  ⟨k.1, fun S w vs hS hv => k.2 S w vs hS (h _ _ _ _ hv)⟩
end Go.Fx

/-
  Layer 13: HeapOnce at its arguments.
-/
import Derived.Test.YtdjhlljgedknaaaHj
set_option linter.all false
set_option maxRecDepth 100000
set_option maxHeartbeats 4000000
namespace Go.Fx.Ytdjhlljgedknaaa
open Go Go.Fx Go.Proofs Go.Fx.Flt
theorem wt_ac {n : Nat} {ds : List D} (h : Wt Try.prog n 33 ds) : ∃ z, ds = encAc z ∧ True := by
  obtain ⟨k, i, a, b, rfl⟩ := wt_act h
  exact ⟨⟨k, i, a, b⟩, rfl, trivial⟩
theorem wt_acs {n : Nat} {ds : List D} (h : Wt Try.prog n 22 ds) : ∃ l : List Ac, ds = [.sl (em encAc l)] ∧ l.length < 2 ^ 41 := by
  cases n with
  | zero => exact h.elim
  | succ n =>
    simp only [Wt, Try.underlying22] at h
    obtain ⟨es, rfl, hb, he⟩ := h
    obtain ⟨l, rfl, _⟩ := lift_em (enc := encAc) (p := fun _ => True) fun c hc => wt_ac (he c hc)
    refine ⟨l, rfl, ?_⟩
    rw [em_len] at hb
    have e : Program.bytesOf Try.prog 33 = 112 := by rfl
    rw [e] at hb
    unfold reachBytes at hb
    omega
theorem arg_acs {x : D} (h : Arg Try.prog 22 x) : ∃ l : List Ac, x = .sl (em encAc l) ∧ l.length < 2 ^ 41 := by
  obtain ⟨n, ds, h, k⟩ := h
  simp only [Try.underlying22] at k
  obtain ⟨l, rfl, h1⟩ := wt_acs h
  simp only [List.cons.injEq, and_true] at k
  exact ⟨l, k.symm, h1⟩
theorem law_HeapOnce : ∀ xs, Args Try.prog Try.f3.params.toList xs → Pure Try.prog 3 xs (B true) := by
  intro xs h
  rw [Try.params3] at h
  simp only [Args] at h
  obtain ⟨x, r, rfl, hx, rfl⟩ := h
  obtain ⟨l, rfl, hl⟩ := arg_acs hx
  exact law_HeapOnce_at l hl
end Go.Fx.Ytdjhlljgedknaaa

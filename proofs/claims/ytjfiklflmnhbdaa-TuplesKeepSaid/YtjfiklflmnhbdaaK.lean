import Derived.Test.YtjfiklflmnhbdaaK0
set_option linter.all false
namespace Go.Fx.Ytjfiklflmnhbdaa
open Go Go.Fx Go.Proofs
abbrev row (n : Int) (l : List Int) : D := .agg [I n, .sl (em encU l)]
theorem wt_u64 {n : Nat} {ds : List D} (h : Wt Try.prog n 68 ds) : ∃ z, ds = encU z ∧ (Lit.int .u64 z).wf = true := by
  cases n with
  | zero => exact h.elim
  | succ n => simpa only [Wt, Try.underlying68, encU] using h
theorem wt_bits {n : Nat} {ds : List D} (h : Wt Try.prog n 39 ds) : ∃ l : List Int, ds = [.sl (em encU l)] ∧ l.length * 8 ≤ reachBytes ∧ ∀ u ∈ l, (Lit.int .u64 u).wf = true := by
  cases n with
  | zero => exact h.elim
  | succ n =>
    simp only [Wt, Try.underlying39] at h
    obtain ⟨es, rfl, hl, he⟩ := h
    obtain ⟨l, rfl, hl2⟩ := lift_em (enc := encU) (p := fun z => (Lit.int .u64 z).wf = true) fun c hc => wt_u64 (he c hc)
    refine ⟨l, rfl, ?_, hl2⟩
    have hb : Try.prog.bytesOf 68 = 8 := by kernel_rfl
    rw [hb] at hl
    simpa using hl

theorem arg_row {x : D} (h : Arg Try.prog 41 x) : ∃ n l, x = row n l ∧ (Lit.int .i64 n).wf = true ∧ (∀ u ∈ l, (Lit.int .u64 u).wf = true) ∧ l.length * 8 ≤ reachBytes := by
  obtain ⟨n, ds, h, k⟩ := h
  cases n with
  | zero => exact h.elim
  | succ n =>
    simp only [Wt, Try.underlying41, WtS, List.map] at h k
    obtain ⟨c, r, rfl, h1, c2, r2, rfl, h2, rfl⟩ := h
    obtain ⟨z, rfl, hz⟩ := wt_i64 h1
    obtain ⟨l, rfl, hl, hu⟩ := wt_bits h2
    exact ⟨z, l, by simpa [row] using k, hz, hu, hl⟩
end Go.Fx.Ytjfiklflmnhbdaa

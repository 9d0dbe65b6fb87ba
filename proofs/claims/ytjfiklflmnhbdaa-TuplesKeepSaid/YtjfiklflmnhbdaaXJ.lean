/-
  Owned blocks are lent to a function that only reads, and whose answer leads nowhere: they stay owned.
-/
import Derived.Test.YtjfiklflmnhbdaaXI
set_option linter.all false
namespace Go.Fx
open Go
section
variable {P : Program} {f : FuncId} {args args' : List D} {mem mf : Mem} {nx : Nat} {K : KD}
theorem CallT_plain {v0 : Value} (h1 : memSub mem mf) (hfr : frzs mf 100 args = some args') (hp : Pure P f args' (.pl v0)) (hk : K (.pl v0) mem nx) : CallT P f args mem nx K := by
  refine ⟨hp.1, fun S φ w xs hm hx => ?_⟩
  have hmf : MSim S φ mf nx w := MSim_le hm (memSub_le h1) (Nat.le_refl _)
  have hargs := frzs_sound hmf 100 args args' xs hfr hx
  have hS2 : ∀ b, SF S φ mf b → b < w.heap.size := by
    rintro b (h | ⟨i, blk, l, _, g2, g3, rfl⟩)
    · exact hm.sub b h
    · exact hm.lt i l g2 g3
  refine (hp.2 (SF S φ mf) w xs hS2 hargs).mono ?_
  rintro e w' ⟨v, S', rfl, hr, hx', hS'⟩
  have hsame : ∀ b, b < w.heap.size → w'.heap[b]? = w.heap[b]? := fun b hb => hx'.keep b hb (by rintro ⟨i, blk, l, h1, _⟩; simp [look] at h1)
  have hst : Stays w S φ w' S φ := Stays.of_heap (fun _ h => h) (fun b hb => hsame b (hm.sub b hb)) (fun _ _ h => h)
  refine ⟨v, .pl v0, mem, nx, S, φ, rfl, hk, Nat.le_refl _, ⟨?_, hm.inj, ?_, hm.fresh, fun b hb => Nat.lt_of_lt_of_le (hm.sub b hb) hx'.size⟩, by simpa [Rep] using hr, hst,
    ⟨fun b hb => hb, fun b hb _ => hsame b hb, hx'.size, fun b _ h => h, fun b hb => .inl hb, hx'.os, hx'.output, hx'.tape⟩, fun _ _ h => h⟩
  · intro i blk hi
    obtain ⟨l, g1, g2, g3⟩ := hm.mem i blk hi
    exact ⟨l, g1, g2, g3.mono hst fun hr => hsame _ (hm.lt i l g1 hr)⟩
  · intro i l g1 g2
    exact Nat.lt_of_lt_of_le (hm.lt i l g1 g2) hx'.size
end
end Go.Fx

import Derived.Test.YtjfiklflmnhbdaaCodeRows
import Derived.Test.YtjfiklflmnhbdaaXD
import Derived.Test.YtjfiklflmnhbdaaXF
import Derived.Test.YtjfiklflmnhbdaaK
set_option linter.all false
namespace Go.Fx.Ytjfiklflmnhbdaa
open Go Go.Fx Go.Proofs
attribute [local simp] lb44_0
theorem take_succ_eq {α : Type} [Inhabited α] {l k : List α} {i : Nat} (hl : i < l.length) (hk : i < k.length) (he : l.take i = k.take i) (h : l[i]?.getD default = k[i]?.getD default) : l.take (i + 1) = k.take (i + 1) := by
  rw [List.take_succ, List.take_succ, he]
  rw [List.getElem?_eq_getElem hl, List.getElem?_eq_getElem hk] at h ⊢
  simp only [Option.getD_some] at h
  rw [h]

theorem Same_c (n m : Int) (l k : List Int) (hl : l.length < 2 ^ 60) : Pure Try.prog 44 [row n l, row m k] (B (decide (n = m ∧ l = k))) := by
  refine pu44 (by simp) ?_
  simp -implicitDefEqProofs [ac44, row]
  refine ⟨fun hn => ⟨fun h1 _ h2 => h1 (by rw [h2]), fun hlen => ?_⟩, fun h1 h2 => absurd h2 h1⟩
  refine A_loop_of (α := Nat) (fun i _ => [(0, D.agg [I n, D.sl (em encU l)]), (1, D.agg [I m, D.sl (em encU k)]), (2, D.pt [I n, D.sl (em encU l)]), (3, D.pt [I m, D.sl (em encU k)]), (4, B false), (5, I i)])
    (fun _ _ => []) (fun i _ => i ≤ l.length ∧ l.take i = k.take i) (fun i => l.length - i) 0 (by simp) (envLe_refl _) (memLe_refl _) ?_
  rintro i nx ⟨hi, he⟩
  simp -implicitDefEqProofs
  refine ⟨fun hlt => ⟨hlt, by omega, fun hne _ h => hne (by rw [h]), fun heq => ?_⟩, fun hge => ⟨hn, ?_⟩⟩
  · rw [wr64 (by omega) (by omega)]
    exact again_of (i + 1) ⟨hlt, take_succ_eq hlt (by omega) he heq⟩ (by omega) (envLe_refl _) (memLe_refl _)
  · rw [List.take_of_length_le hge, List.take_of_length_le (by omega)] at he
    exact he
end Go.Fx.Ytjfiklflmnhbdaa

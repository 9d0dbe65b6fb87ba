import Derived.Test.YtjfiklflmnhbdaaRf
set_option linter.all false
namespace Go.Fx.Ytjfiklflmnhbdaa
open Go Go.Fx Go.Proofs Go.Fx.Rows

theorem W_low : W64 low := by unfold W64 low; decide
theorem bt_low : ∀ j, j < 32 → bt low (2 * j) = true ∧ bt low (2 * j + 1) = false := by decide
def gt (x y : Int) (j : Nat) : Bool := (bt x (2 * j + 1) && !bt y (2 * j + 1)) || ((bt x (2 * j + 1) == bt y (2 * j + 1)) && (bt x (2 * j) && !bt y (2 * j)))

section
variable {x y z : Int} (hx : W64 x) (hy : W64 y)
include hx hy
theorem oneW_W : W64 (oneW x y) := W_and
theorem oneW_even {j : Nat} (hj : j < 32) : bt (oneW x y) (2 * j) = gt x y j := by
  obtain ⟨l1, l2⟩ := bt_low j hj
  have s1 : ∀ a, W64 a → bt (bShr .u64 a 1) (2 * j) = bt a (2 * j + 1) := fun a ha => by
    have := bt_shr (k := 1) ha (by omega) (2 * j)
    rw [Nat.add_comm] at this; exact this
  have w1 : W64 (bShr .u64 (bClr .u64 x y) 1) := W_shr (k := 1) W_clr (by omega)
  have w2 : W64 (bShr .u64 (bNot .u64 (bXor .u64 x y)) 1) := W_shr (k := 1) W_not (by omega)
  unfold oneW gt
  rw [bt_and W_or W_low, bt_or W_and W_and, bt_and w1 W_low, bt_and W_and W_clr, bt_and w2 W_low, s1 _ W_clr, s1 _ W_not, bt_clr hx hy (by omega), bt_not W_xor (by omega), bt_xor hx hy, bt_clr hx hy (by omega), l1]
  cases bt x (2 * j + 1) <;> cases bt y (2 * j + 1) <;> cases bt x (2 * j) <;> cases bt y (2 * j) <;> rfl
theorem oneW_odd {j : Nat} (hj : j < 32) : bt (oneW x y) (2 * j + 1) = false := by
  obtain ⟨l1, l2⟩ := bt_low j hj
  unfold oneW
  rw [bt_and W_or W_low, l2, Bool.and_false]
theorem gW_W : W64 (gW x y) := W_or
theorem gW_even {j : Nat} (hj : j < 32) : bt (gW x y) (2 * j) = gt x y j := by
  have w := oneW_W hx hy
  unfold gW
  have h1 := bt_shl (k := 1) w (by omega) (2 * j)
  have w3 : W64 (bShl .u64 (oneW x y) 1) := W_shl (k := 1) w (by omega)
  rw [bt_or w w3, oneW_even hx hy hj]
  have : bt (bShl .u64 (oneW x y) 1) (2 * j) = false := by
    refine h1.trans ?_
    cases j with
    | zero => simp
    | succ j =>
      rw [show 2 * (j + 1) - 1 = 2 * j + 1 by omega, oneW_odd hx hy (by omega)]
      simp
  rw [this, Bool.or_false]
theorem gW_odd {j : Nat} (hj : j < 32) : bt (gW x y) (2 * j + 1) = gt x y j := by
  have w := oneW_W hx hy
  unfold gW
  have h1 := bt_shl (k := 1) w (by omega) (2 * j + 1)
  have w3 : W64 (bShl .u64 (oneW x y) 1) := W_shl (k := 1) w (by omega)
  rw [bt_or w w3, oneW_odd hx hy hj]
  have : bt (bShl .u64 (oneW x y) 1) (2 * j + 1) = gt x y j := by
    refine h1.trans ?_
    rw [show 2 * j + 1 - 1 = 2 * j by omega, oneW_even hx hy hj]
    have : decide (2 * j + 1 < 64) = true := by simp; omega
    rw [this]
    simp
  rw [this, Bool.false_or]
theorem joinW_W : W64 (joinW x y) := W_or
theorem meetW_W : W64 (meetW x y) := W_or
theorem join_bits {j : Nat} (hj : j < 32) : bt (joinW x y) (2 * j) = ((bt x (2 * j) && gt x y j) || (bt y (2 * j) && !gt x y j)) ∧ bt (joinW x y) (2 * j + 1) = ((bt x (2 * j + 1) && gt x y j) || (bt y (2 * j + 1) && !gt x y j)) := by
  have w := gW_W hx hy
  unfold joinW
  rw [bt_or W_and W_clr, bt_or W_and W_clr, bt_and hx w, bt_and hx w, bt_clr hy w (by omega), bt_clr hy w (by omega), gW_even hx hy hj, gW_odd hx hy hj]
  exact ⟨rfl, rfl⟩
theorem meet_bits {j : Nat} (hj : j < 32) : bt (meetW x y) (2 * j) = ((bt y (2 * j) && gt x y j) || (bt x (2 * j) && !gt x y j)) ∧ bt (meetW x y) (2 * j + 1) = ((bt y (2 * j + 1) && gt x y j) || (bt x (2 * j + 1) && !gt x y j)) := by
  have w := gW_W hx hy
  unfold meetW
  rw [bt_or W_and W_clr, bt_or W_and W_clr, bt_and hy w, bt_and hy w, bt_clr hx w (by omega), bt_clr hx w (by omega), gW_even hx hy hj, gW_odd hx hy hj]
  exact ⟨rfl, rfl⟩
end

theorem W_ext2 {a b : Int} (ha : W64 a) (hb : W64 b) (h : ∀ j, j < 32 → bt a (2 * j) = bt b (2 * j) ∧ bt a (2 * j + 1) = bt b (2 * j + 1)) : a = b := by
  refine W_ext ha hb fun i hi => ?_
  have := h (i / 2) (by omega)
  rcases Nat.mod_two_eq_zero_or_one i with e | e
  · rw [show i = 2 * (i / 2) by omega]; exact this.1
  · rw [show i = 2 * (i / 2) + 1 by omega]; exact this.2
theorem W_zero : W64 0 := by unfold W64; decide
theorem bt_zero (i : Nat) : bt 0 i = false := by simp [bt]
theorem gW_zero {x y : Int} (hx : W64 x) (hy : W64 y) : gW x y = 0 ↔ ∀ j, j < 32 → gt x y j = false := by
  constructor
  · intro h j hj
    rw [← gW_even hx hy hj, h, bt_zero]
  · intro h
    refine W_ext2 (gW_W hx hy) W_zero fun j hj => ?_
    rw [gW_even hx hy hj, gW_odd hx hy hj, h j hj, bt_zero, bt_zero]; exact ⟨rfl, rfl⟩

section
variable {x y z : Int} (hx : W64 x) (hy : W64 y)
include hx hy
theorem join_comm : joinW x y = joinW y x := by
  refine W_ext2 (joinW_W hx hy) (joinW_W hy hx) fun j hj => ?_
  obtain ⟨a1, a2⟩ := join_bits hx hy hj
  obtain ⟨b1, b2⟩ := join_bits hy hx hj
  rw [a1, a2, b1, b2]; unfold gt
  cases bt x (2 * j + 1) <;> cases bt y (2 * j + 1) <;> cases bt x (2 * j) <;> cases bt y (2 * j) <;> exact ⟨rfl, rfl⟩
theorem meet_comm : meetW x y = meetW y x := by
  refine W_ext2 (meetW_W hx hy) (meetW_W hy hx) fun j hj => ?_
  obtain ⟨a1, a2⟩ := meet_bits hx hy hj
  obtain ⟨b1, b2⟩ := meet_bits hy hx hj
  rw [a1, a2, b1, b2]; unfold gt
  cases bt x (2 * j + 1) <;> cases bt y (2 * j + 1) <;> cases bt x (2 * j) <;> cases bt y (2 * j) <;> exact ⟨rfl, rfl⟩
theorem le_join : gW x (joinW x y) = 0 := by
  rw [gW_zero hx (joinW_W hx hy)]
  intro j hj
  obtain ⟨a1, a2⟩ := join_bits hx hy hj
  unfold gt; rw [a1, a2]; unfold gt
  cases bt x (2 * j + 1) <;> cases bt y (2 * j + 1) <;> cases bt x (2 * j) <;> cases bt y (2 * j) <;> rfl
theorem meet_le : gW (meetW x y) x = 0 := by
  rw [gW_zero (meetW_W hx hy) hx]
  intro j hj
  obtain ⟨a1, a2⟩ := meet_bits hx hy hj
  unfold gt; rw [a1, a2]; unfold gt
  cases bt x (2 * j + 1) <;> cases bt y (2 * j + 1) <;> cases bt x (2 * j) <;> cases bt y (2 * j) <;> rfl
theorem meet_join : meetW x (joinW x y) = x := by
  refine W_ext2 (meetW_W hx (joinW_W hx hy)) hx fun j hj => ?_
  obtain ⟨a1, a2⟩ := join_bits hx hy hj
  obtain ⟨b1, b2⟩ := meet_bits hx (joinW_W hx hy) hj
  rw [b1, b2]; unfold gt; rw [a1, a2]; unfold gt
  cases bt x (2 * j + 1) <;> cases bt y (2 * j + 1) <;> cases bt x (2 * j) <;> cases bt y (2 * j) <;> exact ⟨rfl, rfl⟩
theorem join_meet : joinW x (meetW x y) = x := by
  refine W_ext2 (joinW_W hx (meetW_W hx hy)) hx fun j hj => ?_
  obtain ⟨a1, a2⟩ := meet_bits hx hy hj
  obtain ⟨b1, b2⟩ := join_bits hx (meetW_W hx hy) hj
  rw [b1, b2]; unfold gt; rw [a1, a2]; unfold gt
  cases bt x (2 * j + 1) <;> cases bt y (2 * j + 1) <;> cases bt x (2 * j) <;> cases bt y (2 * j) <;> exact ⟨rfl, rfl⟩
theorem join_le (hz : W64 z) : gW (joinW x y) z = 0 ↔ gW x z = 0 ∧ gW y z = 0 := by
  rw [gW_zero (joinW_W hx hy) hz, gW_zero hx hz, gW_zero hy hz]
  have key : ∀ j, j < 32 → (gt (joinW x y) z j = false ↔ gt x z j = false ∧ gt y z j = false) := by
    intro j hj
    obtain ⟨a1, a2⟩ := join_bits hx hy hj
    unfold gt; rw [a1, a2]; unfold gt
    cases bt x (2 * j + 1) <;> cases bt y (2 * j + 1) <;> cases bt x (2 * j) <;> cases bt y (2 * j) <;> cases bt z (2 * j + 1) <;> cases bt z (2 * j) <;> decide
  exact ⟨fun h => ⟨fun j hj => ((key j hj).1 (h j hj)).1, fun j hj => ((key j hj).1 (h j hj)).2⟩, fun h j hj => (key j hj).2 ⟨h.1 j hj, h.2 j hj⟩⟩
theorem le_meet (hz : W64 z) : gW z (meetW x y) = 0 ↔ gW z x = 0 ∧ gW z y = 0 := by
  rw [gW_zero hz (meetW_W hx hy), gW_zero hz hx, gW_zero hz hy]
  have key : ∀ j, j < 32 → (gt z (meetW x y) j = false ↔ gt z x j = false ∧ gt z y j = false) := by
    intro j hj
    obtain ⟨a1, a2⟩ := meet_bits hx hy hj
    unfold gt; rw [a1, a2]; unfold gt
    cases bt x (2 * j + 1) <;> cases bt y (2 * j + 1) <;> cases bt x (2 * j) <;> cases bt y (2 * j) <;> cases bt z (2 * j + 1) <;> cases bt z (2 * j) <;> decide
  exact ⟨fun h => ⟨fun j hj => ((key j hj).1 (h j hj)).1, fun j hj => ((key j hj).1 (h j hj)).2⟩, fun h j hj => (key j hj).2 ⟨h.1 j hj, h.2 j hj⟩⟩
theorem le_antisymm' (h1 : gW x y = 0) (h2 : gW y x = 0) : x = y := by
  rw [gW_zero hx hy] at h1
  rw [gW_zero hy hx] at h2
  refine W_ext2 hx hy fun j hj => ?_
  have a := h1 j hj
  have b := h2 j hj
  unfold gt at a b
  revert a b
  cases bt x (2 * j + 1) <;> cases bt y (2 * j + 1) <;> cases bt x (2 * j) <;> cases bt y (2 * j) <;> decide
theorem le_trans' (hz : W64 z) (h1 : gW x y = 0) (h2 : gW y z = 0) : gW x z = 0 := by
  rw [gW_zero hx hy] at h1
  rw [gW_zero hy hz] at h2
  rw [gW_zero hx hz]
  intro j hj
  have a := h1 j hj
  have b := h2 j hj
  unfold gt at a b ⊢
  revert a b
  cases bt x (2 * j + 1) <;> cases bt y (2 * j + 1) <;> cases bt x (2 * j) <;> cases bt y (2 * j) <;> cases bt z (2 * j + 1) <;> cases bt z (2 * j) <;> decide
end
theorem le_refl' {x : Int} (hx : W64 x) : gW x x = 0 := by
  rw [gW_zero hx hx]
  intro j hj
  unfold gt
  cases bt x (2 * j + 1) <;> cases bt x (2 * j) <;> rfl
end Go.Fx.Ytjfiklflmnhbdaa

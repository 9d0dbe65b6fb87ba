import Derived.Test.YtjfiklflmnhbdaaRj
set_option linter.all false
namespace Go.Fx.Ytjfiklflmnhbdaa
open Go Go.Fx Go.Proofs Go.Fx.Rows
section
variable {n m : Int} {l k : List Int}
def cntTo (l : List Int) (v : Int) (t : Nat) : Nat := (List.range t).countP fun i => decide (cellN l i = v)
theorem cntTo_succ {v : Int} {t : Nat} : cntTo l v (t + 1) = cntTo l v t + (if cellN l t = v then 1 else 0) := by
  unfold cntTo
  rw [List.range_succ, List.countP_append]
  by_cases h : cellN l t = v <;> simp [h]
theorem cntTo_le {v : Int} {t : Nat} : cntTo l v t ≤ t := by
  unfold cntTo
  have := List.countP_le_length (p := fun i => decide (cellN l i = v)) (l := List.range t)
  simpa using this
theorem cntTo_add {v : Int} {a b : Nat} : cntTo l v (a + b) = cntTo l v a + ((List.range b).countP fun j => decide (cellN l (a + j) = v)) := by
  unfold cntTo
  rw [List.range_add, List.countP_append, List.countP_map]
  rfl
def countF (n : Int) (l : List Int) (v : Int) : D := if Good n l then (if 0 ≤ v ∧ v ≤ 3 then .tup [I (cntTo l v n.toNat : Nat), I 0] else .tup [I 0, I 2]) else .tup [I 0, I 3]

theorem pair_sum (f : Nat → Nat) : ∀ k, ((List.range (2 * k)).map f).sum = ((List.range k).map fun j => f (2 * j) + f (2 * j + 1)).sum
  | 0 => rfl
  | k + 1 => by
    rw [show 2 * (k + 1) = 2 * k + 1 + 1 by omega, List.range_succ, List.range_succ, List.range_succ (n := k)]
    simp only [List.map_append, List.sum_append, List.map_cons, List.map_nil, List.sum_cons, List.sum_nil, pair_sum f k]
    omega
theorem countP_sum (p : Nat → Bool) : ∀ k, ((List.range k).map fun j => if p j then 1 else 0).sum = (List.range k).countP p
  | 0 => rfl
  | k + 1 => by
    rw [List.range_succ, List.map_append, List.sum_append, countP_sum p k, List.countP_append]
    by_cases h : p k = true <;> simp [h]

def unl (v : Int) : Int := IntKind.u64.wrap (IntKind.u64.wrap v * 6148914691236517205)
def cntW (x v : Int) : Int := bAnd .u64 (bNot .u64 (bOr .u64 (bXor .u64 x (unl v)) (bShr .u64 (bXor .u64 x (unl v)) 1))) low
theorem unl_bits : ∀ v : Fin 4, (0 ≤ unl (v.val : Int) ∧ unl (v.val : Int) < 18446744073709551616) ∧ ∀ j, j < 32 → bt (unl (v.val : Int)) (2 * j) = bt (v.val : Int) 0 ∧ bt (unl (v.val : Int)) (2 * j + 1) = bt (v.val : Int) 1 := by decide
theorem unl_ok {v : Int} (h0 : 0 ≤ v) (h3 : v ≤ 3) : W64 (unl v) ∧ ∀ j, j < 32 → bt (unl v) (2 * j) = bt v 0 ∧ bt (unl v) (2 * j + 1) = bt v 1 := by
  have := unl_bits ⟨v.toNat, by omega⟩
  rw [show (((⟨v.toNat, by omega⟩ : Fin 4).val : Nat) : Int) = v by simp; omega] at this
  exact this
theorem cntW_bits {x v : Int} (hx : W64 x) (h0 : 0 ≤ v) (h3 : v ≤ 3) {j : Nat} (hj : j < 32) : bt (cntW x v) (2 * j) = decide (x / 4 ^ j % 4 = v) ∧ bt (cntW x v) (2 * j + 1) = false := by
  obtain ⟨u1, u2⟩ := unl_ok h0 h3
  obtain ⟨u3, u4⟩ := u2 j hj
  obtain ⟨l1, l2⟩ := bt_low j hj
  have wd : W64 (bXor .u64 x (unl v)) := W_xor
  have ws : W64 (bShr .u64 (bXor .u64 x (unl v)) ((1 : Nat) : Int)) := W_shr wd (by decide)
  have e1 : (1 : Int) = ((1 : Nat) : Int) := rfl
  have hv : v = (if bt v 1 then 2 else 0) + (if bt v 0 then 1 else 0) := by
    have := cell_bits h0 0
    simp at this
    omega
  unfold cntW
  rw [e1, bt_and W_not W_low, bt_and W_not W_low, l1, l2, bt_not W_or (by omega), bt_or wd ws, bt_shr wd (by decide), bt_xor hx u1, show 1 + 2 * j = 2 * j + 1 by omega, bt_xor hx u1, u3, u4, cell_bits hx.1]
  refine ⟨?_, by simp⟩
  conv => rhs; rw [hv]
  cases bt x (2 * j) <;> cases bt x (2 * j + 1) <;> cases bt v 0 <;> cases bt v 1 <;> decide
theorem cntW_sum {x v : Int} (hx : W64 x) (h0 : 0 ≤ v) (h3 : v ≤ 3) : (bits (cntW x v).toNat 64).sum = (List.range 32).countP fun j => decide (x / 4 ^ j % 4 = v) := by
  have e : ∀ i, (cntW x v).toNat / 2 ^ i % 2 = if bt (cntW x v) i then 1 else 0 := by
    intro i
    unfold bt
    rw [Nat.testBit_eq_decide_div_mod_eq]
    have := Nat.mod_two_eq_zero_or_one ((cntW x v).toNat / 2 ^ i)
    rcases this with h | h <;> simp [h]
  unfold bits
  rw [show (64 : Nat) = 2 * 32 from rfl, pair_sum, ← countP_sum]
  congr 1
  apply List.map_congr_left
  intro j hj
  rw [List.mem_range] at hj
  obtain ⟨b1, b2⟩ := cntW_bits hx h0 h3 hj
  rw [e, e, b1, b2]
  simp

theorem cntTo_word {v : Int} (w : AllW l) (h0 : 0 ≤ v) (h3 : v ≤ 3) {q : Nat} (hq : q < l.length) : cntTo l v (32 * (q + 1)) = cntTo l v (32 * q) + (bits (cntW l[q] v).toNat 64).sum := by
  rw [show 32 * (q + 1) = 32 * q + 32 by omega, cntTo_add, cntW_sum (w _ (List.getElem_mem hq)) h0 h3]
  congr 1
  apply List.countP_congr
  intro j hj
  rw [List.mem_range] at hj
  obtain ⟨a1, a2⟩ := cellN_word (l := l) (i := 32 * q + j) (by omega)
  have b1 : (32 * q + j) / 32 = q := by omega
  have b2 : (32 * q + j) % 32 = j := by omega
  simp only [b1, b2] at a2
  rw [a2]

theorem cntTo_tail {v : Int} (g : Good n l) (w : AllW l) : cntTo l v (32 * l.length) = cntTo l v n.toNat + (if v = 0 then 32 * l.length - n.toNat else 0) := by
  have hp := good_pos g
  have hok := (good_ok w).1 g
  rw [show 32 * l.length = n.toNat + (32 * l.length - n.toNat) by omega, cntTo_add]
  congr 1
  have hz : ∀ j, j < 32 * l.length - n.toNat → cellN l (n.toNat + j) = 0 := fun j hj => hok.2.2.2 _ (by have := g.1; omega) (by omega)
  split
  · rename_i hv
    rw [List.countP_eq_length.2]
    · simp
    · intro j hj
      rw [List.mem_range] at hj
      simp [hz j hj, hv]
  · rename_i hv
    rw [List.countP_eq_zero.2]
    intro j hj
    rw [List.mem_range] at hj
    simp [hz j hj]
    exact fun h => hv h.symm

theorem Count_c (w : AllW l) (v : Int) : Pure Try.prog 43 [row n l, I v] (countF n l v) := by
  refine pu43 (by simp) ?_
  simp -implicitDefEqProofs [ac43, row]
  refine pcK_of (Check_c n l) (by simp) ?_
  simp -implicitDefEqProofs
  by_cases g : Good n l
  · have h0 := g.1
    have h4 := g.2.1
    have h5 := g.2.2.1
    have hlen := good_len g
    by_cases h1 : 0 ≤ v
    · by_cases h2 : v ≤ 3
      · have e : ¬ v < 0 := by omega
        have e2 : ¬ 3 < v := by omega
        simp -implicitDefEqProofs [e, e2, h1, h2, checkF, g]
        rw [show IntKind.u64.wrap (IntKind.u64.wrap v * 6148914691236517205) = unl v from rfl]
        refine lp43_0 (α := Nat) (fun i _ => [(8, I (cntTo l v (32 * i) : Nat)), (29, I i)]) (fun _ _ => []) (fun i _ => i ≤ l.length) (fun i => l.length - i) 0 (by omega) (by simp [cntTo]) (by simp) ?_
        rintro i nx hi
        have hc := cntTo_le (l := l) (v := v) (t := 32 * i)
        simp -implicitDefEqProofs [lb43_0]
        refine ⟨fun hlt => ⟨hlt, ?_⟩, fun hge => ?_⟩
        · have hg : l[i]?.getD 0 = l[i] := by rw [List.getElem?_eq_getElem hlt]; rfl
          rw [hg, show bAnd .u64 (bNot .u64 (bOr .u64 (bXor .u64 l[i] (unl v)) (bShr .u64 (bXor .u64 l[i] (unl v)) 1))) 6148914691236517205 = cntW l[i] v from rfl]
          have hW : W64 (cntW l[i] v) := W_and
          have hn : cntW l[i] v = (((cntW l[i] v).toNat : Nat) : Int) := by have := hW.1; omega
          have hs := cntTo_word w h1 h2 hlt
          have hc2 := cntTo_le (l := l) (v := v) (t := 32 * (i + 1))
          have hb : (cntW l[i] v).toNat < 2 ^ 64 := by have := hW.2; have := hW.1; omega
          have ho := ones_c (cntW l[i] v).toNat hb
          rw [← hn] at ho
          refine pcK_of (ho) (by simp) ?_
          simp -implicitDefEqProofs
          rw [wr64 (x := (i : Int) + 1) (by omega) (by omega), wr64 (by omega) (by omega)]
          exact again_of (i + 1) (by omega) (by omega) (by simp [hs]) (by simp)
        · have e3 : i = l.length := by omega
          subst e3
          have ht := cntTo_tail (v := v) g w
          have hc3 := cntTo_le (l := l) (v := v) (t := n.toNat)
          have hp := good_pos g
          rw [wr64 (x := 32 * (l.length : Int)) (by omega) (by omega), wr64 (x := 32 * (l.length : Int) - n) (by omega) (by omega), wr64 (by omega) (by omega)]
          refine ⟨fun hv => ?_, fun hv => ?_⟩
          · rw [if_pos hv] at ht
            simp only [countF, g, h1, h2, if_true, and_self]
            congr 4
            omega
          · rw [if_neg hv] at ht
            simp only [countF, g, h1, h2, if_true, and_self]
            congr 4
            omega
      · have e : ¬ v < 0 := by omega
        have e2 : 3 < v := by omega
        simp -implicitDefEqProofs [e, e2, checkF, countF, g, h2]
    · have e : v < 0 := by omega
      simp -implicitDefEqProofs [e, checkF, countF, g, h1]
  · simp -implicitDefEqProofs [countF, g, checkF]
end
end Go.Fx.Ytjfiklflmnhbdaa

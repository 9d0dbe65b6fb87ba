/-
  Operations on values: prim.Apply and the reference's.
-/
import Derived.Test.YtaiklblnfebdfaaCodePrim
import Derived.Test.YtaiklblnfebdfaaQu
import Derived.Test.YtaiklblnfebdfaaVb
import Derived.Test.YtaiklblnfebdfaaXE
set_option linter.all false
namespace Go.Fx.Ytaiklblnfebdfaa
open Go Go.Fx Go.Proofs Go.Fx.Flt
def tkN (op : Int) : Int := if 8 ≤ op ∧ op ≤ 13 then 2 else if op = 14 then 1 else if 15 ≤ op ∧ op ≤ 17 then 1 else 0
def tkT (op : Int) : Int := if 8 ≤ op ∧ op ≤ 13 then 1 else if op = 14 then 2 else if 15 ≤ op ∧ op ≤ 17 then 1 else 0
theorem Takes_c (op : Int) : Pure Try.prog 9 [I op] (.tup [I (tkN op), I (tkT op)]) := by
  refine pu9 (by simp) ?_
  unfold tkN tkT
  by_cases h1 : 8 ≤ op ∧ op ≤ 13
  · simp -implicitDefEqProofs [ac9, h1]
  · by_cases h2 : op = 14
    · simp -implicitDefEqProofs [ac9, h2]
    · by_cases h3 : 15 ≤ op ∧ op ≤ 17
      · simp -implicitDefEqProofs [ac9, h1, h2, h3]
        omega
      · simp -implicitDefEqProofs [ac9, h1, h2, h3]
        omega
theorem refTakes_c (op : Int) : Pure Try.prog 10 [I op] (.tup [I (tkN op), I (tkT op)]) := by
  refine pu10 (by simp) ?_
  unfold tkN tkT
  by_cases h1 : 8 ≤ op ∧ op ≤ 13
  · have : op = 8 ∨ op = 9 ∨ op = 10 ∨ op = 11 ∨ op = 12 ∨ op = 13 := by omega
    rcases this with rfl | rfl | rfl | rfl | rfl | rfl <;> simp -implicitDefEqProofs [ac10]
  · by_cases h2 : op = 14
    · subst h2; simp -implicitDefEqProofs [ac10]
    · by_cases h3 : 15 ≤ op ∧ op ≤ 17
      · have : op = 15 ∨ op = 16 ∨ op = 17 := by omega
        rcases this with rfl | rfl | rfl <;> simp -implicitDefEqProofs [ac10]
      · have a1 : ¬ op = 8 := by omega
        have a2 : ¬ op = 9 := by omega
        have a3 : ¬ op = 10 := by omega
        have a4 : ¬ op = 11 := by omega
        have a5 : ¬ op = 12 := by omega
        have a6 : ¬ op = 13 := by omega
        have a7 : ¬ op = 15 := by omega
        have a8 : ¬ op = 16 := by omega
        have a9 : ¬ op = 17 := by omega
        simp -implicitDefEqProofs [ac10, h1, h2, h3, a1, a2, a3, a4, a5, a6, a7, a8, a9]
/-- A value without a list, and an error. -/
abbrev rs (t : Int) (a b : Nat) (o : Bool) (e : Int) : D := .tup [.agg [I t, CX a b, B o, .sl []], I e]
theorem number_ok (a b : Nat) : Pure Try.prog 29 [CX a b, I 0] (rs 1 a b false 0) := by
  refine pu29 (by simp) ?_
  simp -implicitDefEqProofs [ac29]
theorem number_no {a b : Nat} {e : Int} (h : e ≠ 0) : Pure Try.prog 29 [CX a b, I e] (rs 0 0 0 false e) := by
  refine pu29 (by simp) ?_
  simp -implicitDefEqProofs [ac29, h]
/-- A number's answer. -/
def nmR (n m : Int) : D := if (inb n && inb m) = true then rs 1 (Fi n) (Fi m) false 0 else rs 0 0 0 false 50
theorem refnumber_ok {n m : Int} (hn : inb n = true) (hm : inb m = true) : Pure Try.prog 33 [M n m, I 0] (rs 1 (Fi n) (Fi m) false 0) := by
  refine pu33 (by simp) ?_
  simp -implicitDefEqProofs [ac33]
  refine pcK_of (refZ_c hn hm) (by simp) ?_
  simp -implicitDefEqProofs
theorem refnumber_no {n m e : Int} (h : e ≠ 0) : Pure Try.prog 33 [M n m, I e] (rs 0 0 0 false e) := by
  refine pu33 (by simp) ?_
  simp -implicitDefEqProofs [ac33, h]
theorem truth_c (b : Bool) : Pure Try.prog 38 [B b] (rs 2 0 0 b 0) := by
  refine pu38 (by simp) ?_
  simp -implicitDefEqProofs [ac38]

def opD (op x y u v : Int) : D :=
  if op = 8 then nmR (x + u) (y + v) else if op = 9 then nmR (x - u) (y - v) else if op = 10 then nmR (x * u - y * v) (x * v + y * u) else
  if op = 11 then (if quoBad x y u v then rs 0 0 0 false 51 else nmR ((qX x y u v).tdiv (qN u v)) ((qY x y u v).tdiv (qN u v))) else
  if op = 12 then rs 2 0 0 (decide (x = u ∧ y = v)) 0 else rs 2 0 0 (decide (x < u ∨ x = u ∧ y < v)) 0
theorem numD_no {n m : Int} (hk : (inb n && inb m) = false) : numD n m = .tup [CX 0 0, I 50] ∧ nmR n m = rs 0 0 0 false 50 ∧ refD n m = .tup [M 0 0, I 50] := by
  unfold numD nmR refD; rw [hk]; exact ⟨rfl, rfl, rfl⟩
theorem numD_yes {n m : Int} (hk : (inb n && inb m) = true) : numD n m = .tup [G n m, I 0] ∧ nmR n m = rs 1 (Fi n) (Fi m) false 0 ∧ refD n m = .tup [M n m, I 0] := by
  unfold numD nmR refD; rw [hk]; exact ⟨rfl, rfl, rfl⟩
section
variable {x y u v : Int} (hx : inb x = true) (hy : inb y = true) (hu : inb u = true) (hv : inb v = true)
include hx hy hu hv
theorem eqG : (eqF (Fi x) (Fi u) && eqF (Fi y) (Fi v)) = decide (x = u ∧ y = v) := by
  rw [eqF_W (isW_Fi (inb_lt hx)) (isW_Fi (inb_lt hu)), eqF_W (isW_Fi (inb_lt hy)) (isW_Fi (inb_lt hv))]
  by_cases h1 : x = u <;> by_cases h2 : y = v <;> simp [h1, h2]
theorem two_c {op : Int} (h : 8 ≤ op ∧ op ≤ 13) : Pure Try.prog 30 [I op, G x y, G u v] (opD op x y u v) := by
  have : op = 8 ∨ op = 9 ∨ op = 10 ∨ op = 11 ∨ op = 12 ∨ op = 13 := by omega
  refine pu30 (by simp) ?_
  have num : ∀ (n m : Int), (∃ e, numD n m = .tup [CX 0 0, I 50] ∧ nmR n m = rs 0 0 0 false 50 ∧ e = 0) ∨ (∃ e, numD n m = .tup [G n m, I 0] ∧ nmR n m = rs 1 (Fi n) (Fi m) false 0 ∧ e = 0) := fun n m => by
    cases hk : inb n && inb m
    · exact .inl ⟨0, (numD_no hk).1, (numD_no hk).2.1, rfl⟩
    · exact .inr ⟨0, (numD_yes hk).1, (numD_yes hk).2.1, rfl⟩
  rcases this with rfl | rfl | rfl | rfl | rfl | rfl
  · have hc := Add_c hx hy hu hv
    show A _ _ (Kont _ (RetQ _ (nmR (x + u) (y + v))) _) _ _ _
    rcases num (x + u) (y + v) with ⟨_, e1, e2, _⟩ | ⟨_, e1, e2, _⟩
    · rw [e1] at hc
      rw [e2]
      simp -implicitDefEqProofs [ac30]
      refine pcK_of (hc) (by simp) ?_
      simp -implicitDefEqProofs
      refine pcK_of (number_no (by decide)) (by simp) ?_
      simp -implicitDefEqProofs
    · rw [e1] at hc
      rw [e2]
      simp -implicitDefEqProofs [ac30]
      refine pcK_of (hc) (by simp) ?_
      simp -implicitDefEqProofs
      refine pcK_of (number_ok _ _) (by simp) ?_
      simp -implicitDefEqProofs
  · have hc := Sub_c hx hy hu hv
    show A _ _ (Kont _ (RetQ _ (nmR (x - u) (y - v))) _) _ _ _
    rcases num (x - u) (y - v) with ⟨_, e1, e2, _⟩ | ⟨_, e1, e2, _⟩
    · rw [e1] at hc
      rw [e2]
      simp -implicitDefEqProofs [ac30]
      refine pcK_of (hc) (by simp) ?_
      simp -implicitDefEqProofs
      refine pcK_of (number_no (by decide)) (by simp) ?_
      simp -implicitDefEqProofs
    · rw [e1] at hc
      rw [e2]
      simp -implicitDefEqProofs [ac30]
      refine pcK_of (hc) (by simp) ?_
      simp -implicitDefEqProofs
      refine pcK_of (number_ok _ _) (by simp) ?_
      simp -implicitDefEqProofs
  · have hc := Mul_c hx hy hu hv
    show A _ _ (Kont _ (RetQ _ (nmR (x * u - y * v) (x * v + y * u))) _) _ _ _
    rcases num (x * u - y * v) (x * v + y * u) with ⟨_, e1, e2, _⟩ | ⟨_, e1, e2, _⟩
    · rw [e1] at hc
      rw [e2]
      simp -implicitDefEqProofs [ac30]
      refine pcK_of (hc) (by simp) ?_
      simp -implicitDefEqProofs
      refine pcK_of (number_no (by decide)) (by simp) ?_
      simp -implicitDefEqProofs
    · rw [e1] at hc
      rw [e2]
      simp -implicitDefEqProofs [ac30]
      refine pcK_of (hc) (by simp) ?_
      simp -implicitDefEqProofs
      refine pcK_of (number_ok _ _) (by simp) ?_
      simp -implicitDefEqProofs
  · have hc := Quo_c hx hy hu hv
    unfold quoD at hc
    show A _ _ (Kont _ (RetQ _ (if quoBad x y u v then rs 0 0 0 false 51 else nmR ((qX x y u v).tdiv (qN u v)) ((qY x y u v).tdiv (qN u v)))) _) _ _ _
    by_cases hq : quoBad x y u v
    · rw [if_pos hq] at hc ⊢
      simp -implicitDefEqProofs [ac30]
      refine pcK_of (hc) (by simp) ?_
      simp -implicitDefEqProofs
      refine pcK_of (number_no (by decide)) (by simp) ?_
      simp -implicitDefEqProofs
    · rw [if_neg hq] at hc ⊢
      rcases num ((qX x y u v).tdiv (qN u v)) ((qY x y u v).tdiv (qN u v)) with ⟨_, e1, e2, _⟩ | ⟨_, e1, e2, _⟩
      · rw [e1] at hc
        rw [e2]
        simp -implicitDefEqProofs [ac30]
        refine pcK_of (hc) (by simp) ?_
        simp -implicitDefEqProofs
        refine pcK_of (number_no (by decide)) (by simp) ?_
        simp -implicitDefEqProofs
      · rw [e1] at hc
        rw [e2]
        simp -implicitDefEqProofs [ac30]
        refine pcK_of (hc) (by simp) ?_
        simp -implicitDefEqProofs
        refine pcK_of (number_ok _ _) (by simp) ?_
        simp -implicitDefEqProofs
  · show A _ _ (Kont _ (RetQ _ (rs 2 0 0 (decide (x = u ∧ y = v)) 0)) _) _ _ _
    rw [← eqG hx hy hu hv]
    simp -implicitDefEqProofs [ac30]
  · have hc := Less_c hx hy hu hv
    show A _ _ (Kont _ (RetQ _ (rs 2 0 0 (decide (x < u ∨ x = u ∧ y < v)) 0)) _) _ _ _
    generalize decide (x < u ∨ x = u ∧ y < v) = b at hc ⊢
    simp -implicitDefEqProofs [ac30]
    refine pcK_of (hc) (by simp) ?_
    simp -implicitDefEqProofs
end
end Go.Fx.Ytaiklblnfebdfaa

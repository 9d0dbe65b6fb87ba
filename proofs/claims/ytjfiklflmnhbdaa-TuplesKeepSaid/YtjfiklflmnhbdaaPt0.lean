import Derived.Test.YtjfiklflmnhbdaaCodePoints
import Derived.Test.YtjfiklflmnhbdaaXD
import Derived.Test.YtjfiklflmnhbdaaK0
set_option linter.all false
namespace Go.Fx.Ytjfiklflmnhbdaa
open Go Go.Fx Go.Proofs
/-! Points: the contracts. -/
def tp (t : Int) : Int := if t = 1 then 1 else if t = 2 then 1 else if t = 3 then 3 else -1
theorem tp_1 : tp 1 = 1 := rfl
theorem tp_2 : tp 2 = 1 := rfl
theorem tp_3 : tp 3 = 3 := rfl
theorem tp_cases (t : Int) : (t = 1 ∧ tp t = 1) ∨ (t = 2 ∧ tp t = 1) ∨ (t = 3 ∧ tp t = 3) ∨ (t ≠ 1 ∧ t ≠ 2 ∧ t ≠ 3 ∧ tp t = -1) := by
  unfold tp
  by_cases h1 : t = 1
  · simp [h1]
  · by_cases h2 : t = 2
    · simp [h2]
    · by_cases h3 : t = 3
      · simp [h3]
      · simp [h1, h2, h3]
def topF (t : Int) : D := if tp t < 0 then .tup [I 0, I 3] else .tup [I (tp t), I 0]
theorem Top_c (t : Int) : Pure Try.prog 54 [I t] (topF t) := by
  refine pu54 (by simp) ?_
  rcases tp_cases t with ⟨rfl, h⟩ | ⟨rfl, h⟩ | ⟨rfl, h⟩ | ⟨h1, h2, h3, h⟩
  · simp -implicitDefEqProofs [ac54, topF, h]
  · simp -implicitDefEqProofs [ac54, topF, h]
  · simp -implicitDefEqProofs [ac54, topF, h]
  · simp -implicitDefEqProofs [ac54, topF, h, h1, h2, h3]
theorem refTop_c (t : Int) : Pure Try.prog 33 [I t] (I (tp t)) := by
  refine pu33 (by simp) ?_
  rcases tp_cases t with ⟨rfl, h⟩ | ⟨rfl, h⟩ | ⟨rfl, h⟩ | ⟨h1, h2, h3, h⟩
  · simp -implicitDefEqProofs [ac33, h]
  · simp -implicitDefEqProofs [ac33, h]
  · simp -implicitDefEqProofs [ac33, h]
  · simp -implicitDefEqProofs [ac33, h, h1, h2, h3]
def ck (t p : Int) : Int := if tp t < 0 then 3 else if 0 ≤ p ∧ p ≤ tp t then 0 else 2
theorem ck_ok {t p : Int} : ck t p = 0 ↔ 0 ≤ p ∧ p ≤ tp t := by
  unfold ck
  by_cases h : tp t < 0
  · rw [if_pos h]; simp; omega
  · rw [if_neg h]
    by_cases h2 : 0 ≤ p ∧ p ≤ tp t <;> simp [h2]
theorem Check15_c (t p : Int) : Pure Try.prog 34 [I t, I p] (I (ck t p)) := by
  refine pu34 (by simp) ?_
  simp -implicitDefEqProofs [ac34]
  refine pcK_of (Top_c t) (by simp) ?_
  simp -implicitDefEqProofs
  by_cases h : tp t < 0
  · simp -implicitDefEqProofs [topF, h, ck]
  · by_cases h1 : p < 0
    · have : ¬ 0 ≤ p := by omega
      simp -implicitDefEqProofs [topF, h, ck, h1, this]
    · have h0 : 0 ≤ p := by omega
      by_cases h2 : p ≤ tp t
      · have : ¬ tp t < p := by omega
        simp -implicitDefEqProofs [topF, h, ck, h1, h0, h2, this]
      · have : tp t < p := by omega
        simp -implicitDefEqProofs [topF, h, ck, h1, h0, h2, this]
theorem Is_c (t p : Int) : Pure Try.prog 35 [I t, I p] (B (decide (0 ≤ p ∧ p ≤ tp t))) := by
  refine pu35 (by simp) ?_
  by_cases h : 0 ≤ p
  · simp -implicitDefEqProofs [ac35, h]
    refine pcK_of (refTop_c t) (by simp) ?_
    simp -implicitDefEqProofs
  · simp -implicitDefEqProofs [ac35, h]
def consF (h t : Int) : Int := max 1 (min t (2 + h))
structure Br where
  nl : Bool
  hd : Int
  tl : Int
deriving Inhabited, DecidableEq
def encBr (b : Br) : List D := [B b.nl, I b.hd, I b.tl]
def csF (p : Int) : List Br := if p = 0 then [] else if p = 1 then [⟨false, 1, 1⟩] else if p = 2 then [⟨false, 0, 3⟩, ⟨false, 1, 2⟩] else [⟨true, 0, 0⟩, ⟨false, 1, 3⟩]
def wordS (t p : Int) : ByteArray :=
  if t = 3 then (if p = 0 then (ByteArray.mk (Array.mk [110, 101, 118, 101, 114])) else if p = 1 then (ByteArray.mk (Array.mk [112, 97, 114, 116, 105, 97, 108])) else if p = 2 then (ByteArray.mk (Array.mk [104, 111, 108, 101, 100])) else (ByteArray.mk (Array.mk [119, 104, 111, 108, 101])))
  else if p = 0 then (ByteArray.mk (Array.mk [110, 101, 118, 101, 114])) else (ByteArray.mk (Array.mk [118, 97, 108, 117, 101]))
def wordF (t p : Int) : D := if ck t p = 0 then .tup [.pl (.string (wordS t p)), I 0] else .tup [.pl (.string (ByteArray.mk (Array.mk []))), I (ck t p)]
end Go.Fx.Ytjfiklflmnhbdaa

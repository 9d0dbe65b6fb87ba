import Derived.Test.YtalinonmjhdmaaaCodePoints
import Derived.Test.YtalinonmjhdmaaaXD
import Derived.Test.YtalinonmjhdmaaaK0
set_option linter.all false
namespace Go.Fx.Ytalinonmjhdmaaa
open Go Go.Fx Go.Proofs
/-! Points: the contracts. -/
def tp (t : Int) : Int := if t = 1 then 1 else if t = 2 then 1 else if t = 3 then 3 else -1
theorem tp_1 : tp 1 = 1 := rfl
theorem tp_2 : tp 2 = 1 := rfl
theorem tp_3 : tp 3 = 3 := rfl
theorem tp_cases (t : Int) : (t = 1 ∧ tp t = 1) ∨ (t = 2 ∧ tp t = 1) ∨ (t = 3 ∧ tp t = 3) ∨ (t ≠ 1 ∧ t ≠ 2 ∧ t ≠ 3 ∧ tp t = -1) := by
  unfold tp
  by_cases h1 : t = 1
  · simp [h1]
  · by_cases h2 : t = 2
    · simp [h2]
    · by_cases h3 : t = 3
      · simp [h3]
      · simp [h1, h2, h3]
def topF (t : Int) : D := if tp t < 0 then .tup [I 0, I 3] else .tup [I (tp t), I 0]
theorem Top_c (t : Int) : Pure Try.prog 7 [I t] (topF t) := by
  refine pu7 (by simp) ?_
  rcases tp_cases t with ⟨rfl, h⟩ | ⟨rfl, h⟩ | ⟨rfl, h⟩ | ⟨h1, h2, h3, h⟩
  · simp -implicitDefEqProofs [ac7, topF, h]
  · simp -implicitDefEqProofs [ac7, topF, h]
  · simp -implicitDefEqProofs [ac7, topF, h]
  · simp -implicitDefEqProofs [ac7, topF, h, h1, h2, h3]
theorem refTop_c (t : Int) : Pure Try.prog 8 [I t] (I (tp t)) := by
  refine pu8 (by simp) ?_
  rcases tp_cases t with ⟨rfl, h⟩ | ⟨rfl, h⟩ | ⟨rfl, h⟩ | ⟨h1, h2, h3, h⟩
  · simp -implicitDefEqProofs [ac8, h]
  · simp -implicitDefEqProofs [ac8, h]
  · simp -implicitDefEqProofs [ac8, h]
  · simp -implicitDefEqProofs [ac8, h, h1, h2, h3]
def ck (t p : Int) : Int := if tp t < 0 then 3 else if 0 ≤ p ∧ p ≤ tp t then 0 else 2
theorem ck_ok {t p : Int} : ck t p = 0 ↔ 0 ≤ p ∧ p ≤ tp t := by
  unfold ck
  by_cases h : tp t < 0
  · rw [if_pos h]; simp; omega
  · rw [if_neg h]
    by_cases h2 : 0 ≤ p ∧ p ≤ tp t <;> simp [h2]
theorem Check15_c (t p : Int) : Pure Try.prog 9 [I t, I p] (I (ck t p)) := by
  refine pu9 (by simp) ?_
  simp -implicitDefEqProofs [ac9]
  refine pcK_of (Top_c t) (by simp) ?_
  simp -implicitDefEqProofs
  by_cases h : tp t < 0
  · simp -implicitDefEqProofs [topF, h, ck]
  · by_cases h1 : p < 0
    · have : ¬ 0 ≤ p := by omega
      simp -implicitDefEqProofs [topF, h, ck, h1, this]
    · have h0 : 0 ≤ p := by omega
      by_cases h2 : p ≤ tp t
      · have : ¬ tp t < p := by omega
        simp -implicitDefEqProofs [topF, h, ck, h1, h0, h2, this]
      · have : tp t < p := by omega
        simp -implicitDefEqProofs [topF, h, ck, h1, h0, h2, this]
theorem Is_c (t p : Int) : Pure Try.prog 12 [I t, I p] (B (decide (0 ≤ p ∧ p ≤ tp t))) := by
  refine pu12 (by simp) ?_
  by_cases h : 0 ≤ p
  · simp -implicitDefEqProofs [ac12, h]
    refine pcK_of (refTop_c t) (by simp) ?_
    simp -implicitDefEqProofs
  · simp -implicitDefEqProofs [ac12, h]
theorem refCheck_c (t p : Int) : Pure Try.prog 10 [I t, I p] (I (ck t p)) := by
  refine pu10 (by simp) ?_
  simp -implicitDefEqProofs [ac10]
  refine pcK_of (refTop_c t) (by simp) ?_
  simp -implicitDefEqProofs
  by_cases h : tp t < 0
  · have h' : ¬ 0 ≤ tp t := by omega
    simp -implicitDefEqProofs [h, ck, h']
  · have h' : 0 ≤ tp t := by omega
    simp -implicitDefEqProofs [h, h']
    refine pcK_of (Is_c t p) (by simp) ?_
    simp -implicitDefEqProofs
    by_cases h1 : 0 ≤ p ∧ p ≤ tp t
    · simp -implicitDefEqProofs [h1, ck, h]
    · simp -implicitDefEqProofs [h1, ck, h]
      omega
def consF (h t : Int) : Int := max 1 (min t (2 + h))
theorem Cons_yes {h t : Int} (h1 : 0 ≤ h ∧ h ≤ 1) (h2 : 0 ≤ t ∧ t ≤ 3) : Pure Try.prog 11 [I h, I t] (.tup [I (consF h t), I 0]) := by
  have e1 : ck 1 h = 0 := ck_ok.2 h1
  have e2 : ck 3 t = 0 := ck_ok.2 h2
  refine pu11 (by simp) ?_
  simp -implicitDefEqProofs [ac11]
  refine pcK_of (Check15_c 1 h) (by simp) ?_
  simp -implicitDefEqProofs [e1]
  refine pcK_of (Check15_c 3 t) (by simp) ?_
  simp -implicitDefEqProofs [e2, consF]
  rw [wr64 (by omega) (by omega)]
theorem Cons_no {h t : Int} (h1 : ¬ ((0 ≤ h ∧ h ≤ 1) ∧ (0 ≤ t ∧ t ≤ 3))) : Pure Try.prog 11 [I h, I t] (.tup [I 0, I 2]) := by
  refine pu11 (by simp) ?_
  simp -implicitDefEqProofs [ac11]
  refine pcK_of (Check15_c 1 h) (by simp) ?_
  simp -implicitDefEqProofs
  by_cases e1 : ck 1 h = 0
  · simp -implicitDefEqProofs [e1]
    refine pcK_of (Check15_c 3 t) (by simp) ?_
    simp -implicitDefEqProofs
    have : ck 3 t ≠ 0 := fun e2 => h1 ⟨ck_ok.1 e1, ck_ok.1 e2⟩
    simp -implicitDefEqProofs [this]
  · simp -implicitDefEqProofs [e1]
theorem refCons_c {h t : Int} (h1 : 0 ≤ h ∧ h ≤ 1) (h2 : 0 ≤ t ∧ t ≤ 3) : Pure Try.prog 13 [I h, I t] (I (consF h t)) := by
  refine pu13 (by simp) ?_
  have : h = 0 ∨ h = 1 := by omega
  have : t = 0 ∨ t = 1 ∨ t = 2 ∨ t = 3 := by omega
  rcases ‹h = 0 ∨ h = 1› with rfl | rfl <;> rcases ‹t = 0 ∨ t = 1 ∨ t = 2 ∨ t = 3› with rfl | rfl | rfl | rfl <;> simp -implicitDefEqProofs [ac13] <;> rfl

structure Br where
  nl : Bool
  hd : Int
  tl : Int
deriving Inhabited, DecidableEq
def encBr (b : Br) : List D := [B b.nl, I b.hd, I b.tl]
def csF (p : Int) : List Br := if p = 0 then [] else if p = 1 then [⟨false, 1, 1⟩] else if p = 2 then [⟨false, 0, 3⟩, ⟨false, 1, 2⟩] else [⟨true, 0, 0⟩, ⟨false, 1, 3⟩]
theorem Cases_yes {p : Int} (h : 0 ≤ p ∧ p ≤ 3) : Pure Try.prog 14 [I p] (.tup [.sl (em encBr (csF p)), I 0]) ∧ Pure Try.prog 15 [I p] (.sl (em encBr (csF p))) := by
  have e1 : ck 3 p = 0 := ck_ok.2 h
  have hp : p = 0 ∨ p = 1 ∨ p = 2 ∨ p = 3 := by omega
  refine ⟨?_, ?_⟩
  · refine pu14 (by simp) ?_
    simp -implicitDefEqProofs [ac14]
    refine pcK_of (Check15_c 3 p) (by simp) ?_
    simp -implicitDefEqProofs
    rcases hp with rfl | rfl | rfl | rfl <;> simp -implicitDefEqProofs [e1, csF, encBr, em]
  · refine pu15 (by simp) ?_
    rcases hp with rfl | rfl | rfl | rfl <;> simp -implicitDefEqProofs [ac15, csF, encBr, em]
theorem Cases_no {p : Int} (h : ¬ (0 ≤ p ∧ p ≤ 3)) : Pure Try.prog 14 [I p] (.tup [.sl [], I 2]) ∧ Pure Try.prog 15 [I p] (.sl []) := by
  have e1 : ck 3 p ≠ 0 := fun e => h (ck_ok.1 e)
  refine ⟨?_, ?_⟩
  · refine pu14 (by simp) ?_
    simp -implicitDefEqProofs [ac14]
    refine pcK_of (Check15_c 3 p) (by simp) ?_
    simp -implicitDefEqProofs
    simp -implicitDefEqProofs [e1]
  · refine pu15 (by simp) ?_
    have h1 : p ≠ 1 := by omega
    have h2 : p ≠ 2 := by omega
    have h3 : p ≠ 3 := by omega
    simp -implicitDefEqProofs [ac15, h1, h2, h3]
def wordS (t p : Int) : ByteArray :=
  if t = 3 then (if p = 0 then (ByteArray.mk (Array.mk [110, 101, 118, 101, 114])) else if p = 1 then (ByteArray.mk (Array.mk [112, 97, 114, 116, 105, 97, 108])) else if p = 2 then (ByteArray.mk (Array.mk [104, 111, 108, 101, 100])) else (ByteArray.mk (Array.mk [119, 104, 111, 108, 101])))
  else if p = 0 then (ByteArray.mk (Array.mk [110, 101, 118, 101, 114])) else (ByteArray.mk (Array.mk [118, 97, 108, 117, 101]))
def wordF (t p : Int) : D := if ck t p = 0 then .tup [.pl (.string (wordS t p)), I 0] else .tup [.pl (.string (ByteArray.mk (Array.mk []))), I (ck t p)]
theorem Word_both (t p : Int) : Pure Try.prog 16 [I t, I p] (wordF t p) ∧ Pure Try.prog 17 [I t, I p] (wordF t p) := by
  by_cases h : ck t p = 0
  · have h2 := ck_ok.1 h
    have ht : (t = 3 ∧ (p = 0 ∨ p = 1 ∨ p = 2 ∨ p = 3)) ∨ (t ≠ 3 ∧ (p = 0 ∨ p = 1)) := by
      rcases tp_cases t with ⟨rfl, e⟩ | ⟨rfl, e⟩ | ⟨rfl, e⟩ | ⟨h1, _, h3, e⟩ <;> rw [e] at h2 <;> omega
    rcases ht with ⟨rfl, hp⟩ | ⟨ht, hp⟩
    · rcases hp with rfl | rfl | rfl | rfl
      all_goals
        refine ⟨pu16 (by simp) ?_, pu17 (by simp) ?_⟩
        · simp -implicitDefEqProofs [ac16]
          refine pcK_of (Check15_c _ _) (by simp) ?_
          simp -implicitDefEqProofs [h, wordF, wordS, iaD]
        · simp -implicitDefEqProofs [ac17]
          refine pcK_of (refCheck_c _ _) (by simp) ?_
          simp -implicitDefEqProofs [h, wordF, wordS, iaD]
    · rcases hp with rfl | rfl
      all_goals
        refine ⟨pu16 (by simp) ?_, pu17 (by simp) ?_⟩
        · simp -implicitDefEqProofs [ac16]
          refine pcK_of (Check15_c _ _) (by simp) ?_
          simp -implicitDefEqProofs [h, ht, wordF, wordS, iaD]
        · simp -implicitDefEqProofs [ac17]
          refine pcK_of (refCheck_c _ _) (by simp) ?_
          simp -implicitDefEqProofs [h, ht, wordF, wordS, iaD]
  · refine ⟨pu16 (by simp) ?_, pu17 (by simp) ?_⟩
    · simp -implicitDefEqProofs [ac16]
      refine pcK_of (Check15_c t p) (by simp) ?_
      simp -implicitDefEqProofs [h, wordF]
    · simp -implicitDefEqProofs [ac17]
      refine pcK_of (refCheck_c t p) (by simp) ?_
      simp -implicitDefEqProofs [h, wordF]
end Go.Fx.Ytalinonmjhdmaaa

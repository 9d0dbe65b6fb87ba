/-
  Which complex numbers are numbers of the program: the contracts of layer 1's Valid and of the reference's Of.
-/
import Derived.Test.YtaiklblnfebdfaaCodeValid
import Derived.Test.YtaiklblnfebdfaaXE
import Derived.Test.YtaiklblnfebdfaaXF
import Derived.Test.YtaiklblnfebdfaaK0
set_option linter.all false
namespace Go.Fx.Ytaiklblnfebdfaa
open Go Go.Fx Go.Proofs Go.Fx.Flt
theorem bits_e (b : Nat) : Extn Try.prog 51 [FL b] (U b) := by
  refine Extn_of (e := Extern.MathFloatBits.float64bits) Try.func51 (by kernel_rfl) (by rfl) (by kernel_rfl) (by kernel_rfl) ?_
  intro S φ w xs hx
  simp only [RepVs, Rep] at hx
  obtain ⟨x, r, rfl, rfl, rfl⟩ := hx
  exact ⟨.int .u64 b, by simp only [Rep], rfl⟩
theorem trunc_e (b : Nat) (h : ∀ s t, Ieee.double.read b ≠ .nan s t) : Extn Try.prog 52 [FL b] (FL (truncF b)) := by
  refine Extn_of (e := Extern.MathFloor.toIntegral "math.archTrunc" .zero) Try.func52 (by kernel_rfl) (by rfl) (by kernel_rfl) (by kernel_rfl) ?_
  intro S φ w xs hx
  simp only [RepVs, Rep] at hx
  obtain ⟨x, r, rfl, rfl, rfl⟩ := hx
  refine ⟨.float .f64 (truncF b), by simp only [Rep], ?_⟩
  have key : ∀ (d : Ieee.Datum), (∀ s t, d ≠ .nan s t) → ∀ (X : Bool → Nat → Sem Value), (match d with | .nan s t => X s t | d => Pure.pure (.float .f64 (Ieee.double.write (d.integral .zero))) : Sem Value).run Try.prog w = .ok (.float .f64 (Ieee.double.write (d.integral .zero))) w := by
    intro d hd X
    cases d with
    | nan s t => exact absurd rfl (hd s t)
    | _ => rfl
  exact key (Ieee.double.read b) h _
theorem Trunc_c (b : Nat) (h : ∀ s t, Ieee.double.read b ≠ .nan s t) : Pure Try.prog 47 [FL b] (FL (truncF b)) := by
  refine pu47 (by simp) ?_
  simp -implicitDefEqProofs [ac47]
  refine pcE_of (trunc_e b h) (by simp) ?_
  simp -implicitDefEqProofs
theorem Signbit_c (b : Nat) (h : b < 2 ^ 64) : Pure Try.prog 48 [FL b] (B (!decide (b < 2 ^ 63))) := by
  refine pu48 (by simp) ?_
  simp -implicitDefEqProofs [ac48]
  refine pcE_of (bits_e b) (by simp) ?_
  simp -implicitDefEqProofs
  rw [Bool.eq_iff_iff]
  simp only [decide_eq_true_eq, Bool.not_eq_true', decide_eq_false_iff_not]
  by_cases hb : b < 9223372036854775808
  · rw [wr64 (by omega) (by omega)]; omega
  · rw [wr64_hi (by omega) (by omega)]; omega
theorem plain_c (b : Nat) (h : b < 2 ^ 64) : Pure Try.prog 41 [FL b] (B (plainB b)) := by
  refine pu41 (by simp) ?_
  have hn : geF b cm = true → ∀ s t, Ieee.double.read b ≠ .nan s t := by
    intro h s t hd
    unfold geF Ieee.Format.order at h
    rw [hd] at h
    simp [Ieee.Datum.order] at h
  unfold plainB
  cases h1 : geF b cm
  · simp -implicitDefEqProofs [ac41, h1]
  · cases h2 : leF b cM
    · simp -implicitDefEqProofs [ac41, h1, h2]
    · simp -implicitDefEqProofs [ac41, h1, h2]
      refine pcK_of (Trunc_c b (hn h1)) (by simp) ?_
      simp -implicitDefEqProofs
      cases h3 : eqF b (truncF b)
      · simp -implicitDefEqProofs
      · simp -implicitDefEqProofs
        cases h4 : eqF b 0
        · simp -implicitDefEqProofs
        · simp -implicitDefEqProofs
          refine pcK_of (Signbit_c b h) (by simp) ?_
          simp -implicitDefEqProofs

theorem Valid_c {a b : Nat} (ha : a < 2 ^ 64) (hb : b < 2 ^ 64) : Pure Try.prog 21 [CX a b] (B (plainB a && plainB b)) := by
  refine pu21 (by simp) ?_
  simp -implicitDefEqProofs [ac21]
  refine pcK_of (plain_c a ha) (by simp) ?_
  simp -implicitDefEqProofs
  cases h : plainB a
  · simp -implicitDefEqProofs
  · simp -implicitDefEqProofs
    refine pcK_of (plain_c b hb) (by simp) ?_
    simp -implicitDefEqProofs
@[simp] theorem cvIF {n : Int} : cvD Try.prog 3 62 (.pl (.int .i64 n)) = some (FL (FloatKind.f64.nearest n)) := cv_intF Try.underlying3 Try.underlying62
theorem cvFI {b : Nat} {n : Int} (h : (Ieee.double.read b).toInt .zero = some n) (hn : n.natAbs < 2 ^ 53) : cvD Try.prog 62 3 (FL b) = some (I n) :=
  cv_Fint Try.underlying62 Try.underlying3 h (by show -9223372036854775808 ≤ n; omega) (by show n ≤ 9223372036854775807; omega)

theorem part_yes {b : Nat} (h : plainB b = true) (hb : b < 2 ^ 64) : Pure Try.prog 44 [FL b] (.tup [I (nv b), B true]) := by
  have hp := plain_Pl hb h
  have hn : (nv b).natAbs < 2 ^ 53 := by have := hp.2; omega
  have ht : (Ieee.double.read b).toInt .zero = some (nv b) := by
    have e := toInt_F (s := decide (nv b < 0)) hn
    rw [sg_Fi] at e
    have e2 : Fz (decide (nv b < 0)) (nv b).natAbs = b := hp.1.symm
    rw [e2] at e; exact e
  have hf : FloatKind.f64.nearest (nv b) = b := by rw [ofInt_Fi hn]; exact hp.1.symm
  unfold plainB at h
  simp only [Bool.and_eq_true, Bool.or_eq_true, Bool.not_eq_true', decide_eq_true_eq] at h
  obtain ⟨h1, h2, h3, h4⟩ := h
  have he : eqF b b = true := by
    have e := eqF_Fi hn hn
    rw [← hp.1] at e; rw [e]; simp
  refine pu44 (by simp) ?_
  simp -implicitDefEqProofs [ac44, h1, h2]
  cases h5 : eqF b 0
  · simp -implicitDefEqProofs [cvFI ht hn, hf, he]
  · simp -implicitDefEqProofs
    refine pcE_of (bits_e b) (by simp) ?_
    simp -implicitDefEqProofs
    have hz : b = 0 := by
      have e0 := eqF_Fi (a := nv b) (b := 0) hn (by decide)
      rw [← hp.1, Fi_0, h5] at e0
      have : nv b = 0 := by simpa using e0.symm
      rw [hp.1, this]; rfl
    subst hz
    simp -implicitDefEqProofs [cvFI ht hn, hf, he]
theorem part_not {b : Nat} (h : plainB b = false) (hb : b < 2 ^ 64) : ∃ n, Pure Try.prog 44 [FL b] (.tup [I n, B false]) := by
  cases h1 : geF b cm
  · refine ⟨0, pu44 (by simp) ?_⟩
    simp -implicitDefEqProofs [ac44, h1]
  · cases h2 : leF b cM
    · refine ⟨0, pu44 (by simp) ?_⟩
      simp -implicitDefEqProofs [ac44, h1, h2]
    · by_cases h4 : eqF b 0 = true → b = 0
      · obtain ⟨n, g1, g2, g3⟩ := part_no hb h h1 h2 h4
        refine ⟨n, pu44 (by simp) ?_⟩
        have hf : FloatKind.f64.nearest n = Fi n := ofInt_Fi g1
        simp -implicitDefEqProofs [ac44, h1, h2]
        cases h5 : eqF b 0
        · simp -implicitDefEqProofs [cvFI g2 g1, hf, g3]
        · simp -implicitDefEqProofs
          refine pcE_of (bits_e b) (by simp) ?_
          simp -implicitDefEqProofs
          have hz := h4 h5
          subst hz
          simp -implicitDefEqProofs [cvFI g2 g1, hf, g3]
      · have h5 : eqF b 0 = true := by
          cases h5 : eqF b 0
          · rw [h5] at h4; simp at h4
          · rfl
        have hz : b ≠ 0 := fun hz => h4 fun _ => hz
        refine ⟨0, pu44 (by simp) ?_⟩
        simp -implicitDefEqProofs [ac44, h1, h2, h5]
        refine pcE_of (bits_e b) (by simp) ?_
        simp -implicitDefEqProofs
        simp -implicitDefEqProofs [hz]
theorem Of_yes {a b : Nat} (h1 : plainB a = true) (h2 : plainB b = true) (ha : a < 2 ^ 64) (hb : b < 2 ^ 64) : Pure Try.prog 32 [CX a b] (.tup [.agg [I (nv a), I (nv b)], B true]) := by
  refine pu32 (by simp) ?_
  simp -implicitDefEqProofs [ac32]
  refine pcK_of (part_yes h1 ha) (by simp) ?_
  simp -implicitDefEqProofs
  refine pcK_of (part_yes h2 hb) (by simp) ?_
  simp -implicitDefEqProofs
theorem Of_no {a b : Nat} (h : (plainB a && plainB b) = false) (ha : a < 2 ^ 64) (hb : b < 2 ^ 64) : Pure Try.prog 32 [CX a b] (.tup [.agg [I 0, I 0], B false]) := by
  refine pu32 (by simp) ?_
  simp -implicitDefEqProofs [ac32]
  cases h1 : plainB a
  · obtain ⟨n, hn⟩ := part_not h1 ha
    refine pcK_of (hn) (by simp) ?_
    simp -implicitDefEqProofs
    cases h2 : plainB b
    · obtain ⟨m, hm⟩ := part_not h2 hb
      refine pcK_of (hm) (by simp) ?_
      simp -implicitDefEqProofs
    · refine pcK_of (part_yes h2 hb) (by simp) ?_
      simp -implicitDefEqProofs
  · refine pcK_of (part_yes h1 ha) (by simp) ?_
    simp -implicitDefEqProofs
    rw [h1, Bool.true_and] at h
    obtain ⟨m, hm⟩ := part_not h hb
    refine pcK_of (hm) (by simp) ?_
    simp -implicitDefEqProofs

/-! #### Numbers as they are handed in -/
structure Nm where
  re : Int
  im : Int
  raw : Bool
deriving Inhabited
def encN (n : Nm) : List D := [I n.re, I n.im, B n.raw]
def zb (raw : Bool) (n : Int) : Nat := if raw then (IntKind.u64.wrap n).toNat else FloatKind.f64.nearest n
theorem near64 (n : Int) : FloatKind.f64.nearest n < 2 ^ 64 := by
  have h := Ieee.Format.nearest_lt (FloatKind.f64.format) (decide (n < 0)) n.natAbs 0
  have hw : FloatKind.f64.format.width = 64 := by rfl
  rw [hw] at h
  unfold FloatKind.nearest FloatKind.encode Ieee.Format.write
  exact h
theorem zb_lt (raw : Bool) (n : Int) : zb raw n < 2 ^ 64 := by
  unfold zb
  split
  case isFalse => exact near64 n
  case isTrue =>
    have h : IntKind.u64.wrap n = n % 18446744073709551616 := by
      unfold IntKind.wrap
      simp [IntKind.bits, IntKind.signed]
    rw [h]; omega
theorem frombits_e (n : Int) : Extn Try.prog 40 [U n] (FL n.toNat) := by
  refine Extn_of (e := Extern.MathFloatBits.float64frombits) Try.func40 (by kernel_rfl) (by rfl) (by kernel_rfl) (by kernel_rfl) ?_
  intro S φ w xs hx
  simp only [RepVs, Rep] at hx
  obtain ⟨x, r, rfl, rfl, rfl⟩ := hx
  exact ⟨.float .f64 n.toNat, by simp only [Rep], rfl⟩
theorem Z_c (n : Nm) : Pure Try.prog 15 [.agg (encN n)] (CX (zb n.raw n.re) (zb n.raw n.im)) := by
  refine pu15 (by simp) ?_
  unfold encN zb
  cases h : n.raw
  · simp -implicitDefEqProofs [ac15]
  · simp -implicitDefEqProofs [ac15]
    refine pcE_of (frombits_e _) (by simp) ?_
    simp -implicitDefEqProofs
    refine pcE_of (frombits_e _) (by simp) ?_
    simp -implicitDefEqProofs
end Go.Fx.Ytaiklblnfebdfaa

/-
  Numbers' texts: fathomref01.Parse.
-/
import Derived.Test.YthbainhddfajfaaCodeNum
import Derived.Test.YthbainhddfajfaaCodeNumz
import Derived.Test.YthbainhddfajfaaK0
import Derived.Test.YthbainhddfajfaaXG
set_option linter.all false
set_option maxRecDepth 100000
namespace Go.Fx.Ythbainhddfajfaa
open Go Go.Fx Go.Proofs Go.Fx.Flt
theorem cvBT {l : List UInt8} : cvD Try.prog 22 9 (.sl (em encB l)) = some (Tx l) := cv_BT (by kernel_rfl) (by kernel_rfl)
theorem cvB1 {c : UInt8} : cvD Try.prog 22 9 (.sl [[By c.toNat]]) = some (Tx [c]) := cv_B1 (by kernel_rfl) (by kernel_rfl) c
attribute [simp] cvBT cvB1
def isDg (c : UInt8) : Bool := decide (48 ≤ c.toNat) && decide (c.toNat ≤ 57)
/-- The whole number at the front of a text, and how many bytes it has. -/
def scan : List UInt8 → Int → Nat → Int × Nat
  | [], n, k => (n, k)
  | c :: r, n, k => if isDg c then scan r (min (10 * n + ((c.toNat : Int) - 48)) 16777217) (k + 1) else (n, k)
def signed (s : List UInt8) : Bool := s.head? == some 45
def wholeI (s : List UInt8) : Nat := if signed s then 1 else 0
def wholeS (s : List UInt8) : Int × Nat := scan (s.drop (wholeI s)) 0 (wholeI s)
def wholeL (s : List UInt8) : Int × Nat := if (wholeS s).2 = wholeI s then (0, 0) else (if signed s then -(wholeS s).1 else (wholeS s).1, (wholeS s).2)
theorem scan_b : ∀ (l : List UInt8) (n : Int) (k : Nat), 0 ≤ n → n ≤ 16777217 → 0 ≤ (scan l n k).1 ∧ (scan l n k).1 ≤ 16777217 ∧ k ≤ (scan l n k).2 ∧ (scan l n k).2 ≤ k + l.length
  | [], n, k, h1, h2 => ⟨h1, h2, Nat.le_refl _, Nat.le_refl _⟩
  | c :: r, n, k, h1, h2 => by
    unfold scan
    cases hc : isDg c
    · simp; omega
    · simp only [isDg, Bool.and_eq_true, decide_eq_true_eq] at hc
      have := scan_b r (min (10 * n + ((c.toNat : Int) - 48)) 16777217) (k + 1) (by omega) (by omega)
      simp only [if_true, List.length_cons]
      omega
theorem head_45 {s : List UInt8} : signed s = true ↔ 0 < s.length ∧ bt8 s 0 = 45 := by
  unfold signed bt8
  cases s with
  | nil => simp
  | cons c r =>
    have : ((c.toNat : Int) = 45) ↔ c = 45 := ⟨fun h => UInt8.toNat.inj (by show c.toNat = 45; omega), fun h => by rw [h]; rfl⟩
    simp [this]
theorem drop_at {s : List UInt8} {k : Nat} (h : k < s.length) : ∃ c, s.drop k = c :: s.drop (k + 1) ∧ (c.toNat : Int) = bt8 s k := by
  refine ⟨s[k], List.drop_eq_getElem_cons h, ?_⟩
  unfold bt8
  rw [List.getElem?_eq_getElem h]; rfl
theorem whole_loop (s : List UInt8) (hl : s.length < 2 ^ 46) (i : Int) (hi : i = (wholeI s : Int)) (hle : wholeI s ≤ s.length) {nx : Nat} (Q : Exit → St → Prop)
    (hq : ∀ m, Q (.exit 0) ⟨[(0, Tx s), (2, I 0), (3, I 0), (4, I i), (5, I (wholeS s).1), (6, I (wholeS s).2)], [], [], m⟩) :
    A cf68 (.loop lb68_0) Q [(0, Tx s), (2, I 0), (3, I 0), (4, I i), (5, I 0), (6, I i)] [] nx := by
  refine lp68_0 (α := Nat × Int) (fun p _ => [(5, I p.2), (6, I p.1)]) (fun _ _ => []) (fun p _ => p.1 ≤ s.length ∧ 0 ≤ p.2 ∧ p.2 ≤ 16777217 ∧ scan (s.drop p.1) p.2 p.1 = wholeS s) (fun p => s.length - p.1) (wholeI s, 0) ⟨hle, by simp, by simp, rfl⟩ (by simp [hi]) (by simp) ?_
  rintro ⟨k, n⟩ m ⟨hk, h0, h1, hs⟩
  simp only at hk h0 h1 hs
  have out : (k < s.length → ¬ (48 ≤ bt8 s k ∧ bt8 s k ≤ 57)) → wholeS s = (n, k) := fun h => by
    rw [← hs]
    by_cases hlt : k < s.length
    · obtain ⟨c, hc, hv⟩ := drop_at hlt
      rw [hc]
      unfold scan
      have : isDg c = false := by
        unfold isDg
        have := h hlt
        rw [Bool.and_eq_false_iff, decide_eq_false_iff_not, decide_eq_false_iff_not]
        omega
      rw [this]; rfl
    · rw [List.drop_eq_nil_of_le (by omega)]; rfl
  by_cases hlt : k < s.length
  · have hb := bt8_b s k
    by_cases hd : 48 ≤ bt8 s k ∧ bt8 s k ≤ 57
    · have w1 := wr64 (x := 10 * n) (by omega) (by omega)
      have w2 := wru8 (x := bt8 s k - 48) (by omega) (by omega)
      have w3 := wr64 (x := bt8 s k - 48) (by omega) (by omega)
      have w4 := wr64 (x := 10 * n + (bt8 s k - 48)) (by omega) (by omega)
      have w5 := wr64 (x := (k : Int) + 1) (by omega) (by omega)
      simp -implicitDefEqProofs [lb68_0, hlt, hd.1, hd.2, w1, w2, w3, w4, w5]
      refine again_of (k + 1, min (10 * n + (bt8 s k - 48)) 16777217) ⟨hlt, by omega, by omega, ?_⟩ (by simp; omega) (by simp) (by simp)
      rw [← hs]
      obtain ⟨c, hc, hv⟩ := drop_at hlt
      rw [hc, scan, if_pos, hv]
      simp [isDg]; omega
    · have hq := hq
      rw [out (fun _ => hd)] at hq
      by_cases g1 : 48 ≤ bt8 s k
      · have g2 : ¬ bt8 s k ≤ 57 := fun h => hd ⟨g1, h⟩
        simp -implicitDefEqProofs [lb68_0, hlt, g1, g2]
        exact hq _
      · simp -implicitDefEqProofs [lb68_0, hlt, g1]
        exact hq _
  · rw [out (fun h => absurd h hlt)] at hq
    simp -implicitDefEqProofs [lb68_0, hlt]
    exact hq _
theorem whole_c (s : List UInt8) (hl : s.length < 2 ^ 46) : Pure Try.prog 68 [Tx s] (.tup [I (wholeL s).1, I (wholeL s).2]) := by
  have hb := scan_b (s.drop (wholeI s)) 0 (wholeI s) (by decide) (by decide)
  rw [show scan (s.drop (wholeI s)) 0 (wholeI s) = wholeS s from rfl] at hb
  refine pu68 (by simp) ?_
  cases hs : signed s
  · have hn : ¬ (0 < s.length ∧ bt8 s 0 = 45) := fun h => by rw [head_45.2 h] at hs; simp at hs
    have hi : wholeI s = 0 := by unfold wholeI; rw [hs]; rfl
    rw [hi] at hb
    by_cases h0 : 0 < s.length
    · have h2 : ¬ bt8 s 0 = 45 := fun h => hn ⟨h0, by omega⟩
      simp -implicitDefEqProofs [ac68, h0, h2]
      refine whole_loop s hl 0 (by rw [hi]; rfl) (by omega) _ (fun m => ?_)
      by_cases h3 : (wholeS s).2 = 0
      · simp -implicitDefEqProofs [h3, wholeL, hi]
      · simp -implicitDefEqProofs [h3, wholeL, hi, hs]
    · simp -implicitDefEqProofs [ac68, h0]
      refine whole_loop s hl 0 (by rw [hi]; rfl) (by omega) _ (fun m => ?_)
      by_cases h3 : (wholeS s).2 = 0
      · simp -implicitDefEqProofs [h3, wholeL, hi]
      · simp -implicitDefEqProofs [h3, wholeL, hi, hs]
  · obtain ⟨h0, h2⟩ := head_45.1 hs
    have hi : wholeI s = 1 := by unfold wholeI; rw [hs]; rfl
    rw [hi] at hb
    simp -implicitDefEqProofs [ac68, h0, h2]
    refine whole_loop s hl 1 (by rw [hi]; rfl) (by omega) _ (fun m => ?_)
    by_cases h3 : (wholeS s).2 = 1
    · simp -implicitDefEqProofs [h3, wholeL, hi]
    · have h4 : ¬ ((wholeS s).2 : Int) = 1 := by omega
      have w := wr64 (x := -(wholeS s).1) (by omega) (by omega)
      simp -implicitDefEqProofs [h3, h4, wholeL, hi, hs, w]
/-! #### A number's text -/
def dc (n : Nat) : UInt8 := UInt8.ofNat (48 + n % 10)
theorem dc_n (n : Nat) : (dc n).toNat = 48 + n % 10 := by
  unfold dc
  rw [UInt8.toNat_ofNat']
  exact Nat.mod_eq_of_lt (by show 48 + n % 10 < 256; omega)
def digN : Nat → Nat → List UInt8
  | 0, n => [dc n]
  | f + 1, n => if 10 ≤ n then digN f (n / 10) ++ [dc n] else [dc n]
def digI (n : Int) : List UInt8 := if n < 0 then 45 :: digN 8 n.natAbs else digN 8 n.natAbs
theorem digN_len : ∀ (f n : Nat), (digN f n).length ≤ f + 1
  | 0, n => by simp [digN]
  | f + 1, n => by
    have := digN_len f (n / 10)
    unfold digN
    split
    · simp; omega
    · simp
theorem digI_len (n : Int) : (digI n).length ≤ 10 := by
  have := digN_len 8 n.natAbs
  unfold digI
  split
  · simp; omega
  · omega
theorem digits_nat : ∀ (f n : Nat), n < 10 ^ (f + 1) → f ≤ 8 → Pure Try.prog 76 [I n] (Tx (digN f n)) := by
  intro f
  induction f with
  | zero =>
    intro n hn _
    have hn : n < 10 := by simpa using hn
    refine pu76 (by simp) ?_
    have h0 : ¬ (n : Int) < 0 := by omega
    have h1 : ¬ (10 : Int) ≤ (n : Int) := by omega
    have w0 : ((n : Int).tmod 10) = (n : Int) % 10 := Int.tmod_eq_emod_of_nonneg (by omega)
    have w1 : IntKind.i64.wrap (48 + (n : Int) % 10) = (dc n).toNat := by rw [dc_n, wr64 (by omega) (by omega)]; omega
    have w2 : IntKind.u8.wrap ((dc n).toNat : Int) = (dc n).toNat := by
      have := (dc n).toNat_lt
      exact wru8 (by omega) (by omega)
    simp -implicitDefEqProofs [ac76, h0, h1, w0, w1, w2, digN]
  | succ f ih =>
    intro n hn hf
    have hp : 10 ^ (f + 1 + 1) = 10 * 10 ^ (f + 1) := by rw [Nat.pow_succ, Nat.mul_comm]
    have hd : n / 10 < 10 ^ (f + 1) := by omega
    have hc := ih (n / 10) hd (by omega)
    have hl := digN_len f (n / 10)
    have hadd := bin_addT (P := Try.prog) (ty := 9) (l := digN f (n / 10)) (k := [dc n]) (by simp; omega)
    refine pu76 (by simp) ?_
    have h0 : ¬ (n : Int) < 0 := by omega
    have w0 : ((n : Int).tmod 10) = (n : Int) % 10 := Int.tmod_eq_emod_of_nonneg (by omega)
    have w1 : IntKind.i64.wrap (48 + (n : Int) % 10) = (dc n).toNat := by rw [dc_n, wr64 (by omega) (by omega)]; omega
    have w2 : IntKind.u8.wrap ((dc n).toNat : Int) = (dc n).toNat := by
      have := (dc n).toNat_lt
      exact wru8 (by omega) (by omega)
    have p9 : 10 ^ (f + 1) ≤ 10 ^ 9 := Nat.pow_le_pow_right (by decide) (by omega)
    by_cases h1 : 10 ≤ n
    · have h1' : (10 : Int) ≤ (n : Int) := by omega
      have w3 : IntKind.i64.wrap ((n : Int) / 10) = (n : Int) / 10 := wr64 (by omega) (by omega)
      have e : ((n / 10 : Nat) : Int) = (n : Int) / 10 := by omega
      rw [e] at hc
      simp -implicitDefEqProofs [ac76, h0, h1', w0, w1, w2, w3]
      refine pcK_of (hc) (by simp) ?_
      simp -implicitDefEqProofs [hadd]
      simp -implicitDefEqProofs [digN, h1]
    · have h1' : ¬ (10 : Int) ≤ (n : Int) := by omega
      simp -implicitDefEqProofs [ac76, h0, h1', w0, w1, w2, digN, h1]
theorem digits_c (n : Int) (hn : n.natAbs < 10 ^ 9) : Pure Try.prog 76 [I n] (Tx (digI n)) := by
  have hc := digits_nat 8 n.natAbs hn (by decide)
  unfold digI
  by_cases h : n < 0
  · rw [if_pos h]
    have e : ((n.natAbs : Nat) : Int) = -n := by omega
    rw [e] at hc
    have w := wr64 (x := -n) (by omega) (by omega)
    have hl := digN_len 8 n.natAbs
    have hadd := bin_addT (P := Try.prog) (ty := 9) (l := [45]) (k := digN 8 n.natAbs) (by simp; omega)
    refine pu76 (by simp) ?_
    simp -implicitDefEqProofs [ac76, h, w]
    refine pcK_of (hc) (by simp) ?_
    simp -implicitDefEqProofs [hadd]
  · rw [if_neg h]
    have e : ((n.natAbs : Nat) : Int) = n := by omega
    rw [e] at hc
    exact hc
def textL (re im : Int) : List UInt8 := if im = 0 then digI re else if re = 0 then digI im ++ [105] else if 0 < im then ((digI re ++ [43]) ++ digI im) ++ [105] else (digI re ++ digI im) ++ [105]
theorem text_c (re im : Int) (h1 : re.natAbs < 10 ^ 9) (h2 : im.natAbs < 10 ^ 9) : Pure Try.prog 70 [.agg [I re, I im]] (Tx (textL re im)) := by
  have c1 := digits_c re h1
  have c2 := digits_c im h2
  have l1 := digI_len re
  have l2 := digI_len im
  refine pu70 (by simp) ?_
  unfold textL
  by_cases a : im = 0
  · simp -implicitDefEqProofs [ac70, a]
    refine pcK_of (c1) (by simp) ?_
    simp -implicitDefEqProofs
  · by_cases b : re = 0
    · have hadd := bin_addT (P := Try.prog) (ty := 9) (l := digI im) (k := [105]) (by simp; omega)
      simp -implicitDefEqProofs [ac70, a, b]
      refine pcK_of (c2) (by simp) ?_
      simp -implicitDefEqProofs [hadd]
    · by_cases c : 0 < im
      · have a1 := bin_addT (P := Try.prog) (ty := 9) (l := digI re) (k := [43]) (by simp; omega)
        have a2 := bin_addT (P := Try.prog) (ty := 9) (l := digI re ++ [43]) (k := digI im) (by simp; omega)
        have a3 := bin_addT (P := Try.prog) (ty := 9) (l := digI re ++ 43 :: digI im) (k := [105]) (by simp; omega)
        rw [if_neg a, if_neg b, if_pos c]
        simp -implicitDefEqProofs [ac70, a, b, c]
        refine pcK_of (c1) (by simp) ?_
        simp -implicitDefEqProofs [a1]
        refine pcK_of (c2) (by simp) ?_
        simp -implicitDefEqProofs [a2, a3]
      · have a2 := bin_addT (P := Try.prog) (ty := 9) (l := digI re) (k := digI im) (by simp; omega)
        have a3 := bin_addT (P := Try.prog) (ty := 9) (l := (digI re) ++ digI im) (k := [105]) (by simp; omega)
        rw [if_neg a, if_neg b, if_neg c]
        simp -implicitDefEqProofs [ac70, a, b, c]
        refine pcK_of (c1) (by simp) ?_
        simp -implicitDefEqProofs
        refine pcK_of (c2) (by simp) ?_
        simp -implicitDefEqProofs [a2, a3]
def inB (n m : Int) : Bool := (decide (-16777216 ≤ n) && decide (n ≤ 16777216)) && (decide (-16777216 ≤ m) && decide (m ≤ 16777216))
theorem inN_c (n m : Int) : Pure Try.prog 69 [.agg [I n, I m]] (if inB n m = true then .tup [.agg [I n, I m], I 0] else .tup [.agg [I 0, I 0], I 50]) := by
  refine pu69 (by simp) ?_
  unfold inB
  by_cases a : -16777216 ≤ n <;> by_cases b : n ≤ 16777216 <;> by_cases c : -16777216 ≤ m <;> by_cases d : m ≤ 16777216 <;> simp -implicitDefEqProofs [ac69, a, b, c, d] <;> (first | omega | skip)
def numRest (s : List UInt8) : List UInt8 := s.drop (wholeL s).2
def numN (s : List UInt8) : Int × Int :=
  if numRest s = [105] then (0, (wholeL s).1) else if numRest s = [] then ((wholeL s).1, 0) else
  if bt8 (numRest s) 0 = 43 then ((wholeL s).1, (wholeL ((numRest s).tail)).1) else ((wholeL s).1, (wholeL (numRest s)).1)
def numOk (s : List UInt8) : Bool := decide (¬ (wholeL s).2 = 0) && (inB (numN s).1 (numN s).2 && decide (textL (numN s).1 (numN s).2 = s))
def parseN (s : List UInt8) : Int × Int := if numOk s then numN s else (0, 0)
theorem wholeL_b (s : List UInt8) : -16777217 ≤ (wholeL s).1 ∧ (wholeL s).1 ≤ 16777217 ∧ (wholeL s).2 ≤ wholeI s + (s.drop (wholeI s)).length := by
  have hb := scan_b (s.drop (wholeI s)) 0 (wholeI s) (by decide) (by decide)
  rw [show scan (s.drop (wholeI s)) 0 (wholeI s) = wholeS s from rfl] at hb
  unfold wholeL
  split
  · simp
  · split
    · simp only; omega
    · simp only; omega
theorem wholeL_le (s : List UInt8) : (wholeL s).2 ≤ s.length := by
  have h := (wholeL_b s).2.2
  have hi : wholeI s ≤ s.length ∨ wholeI s = 1 ∧ s = [] := by
    unfold wholeI
    split
    · cases s with
      | nil => exact .inr ⟨rfl, rfl⟩
      | cons c r => left; simp
    · left; omega
  rcases hi with hi | ⟨hi, rfl⟩
  · simp only [List.length_drop] at h; omega
  · simp [wholeI, signed] at hi
theorem Parse_c (s : List UInt8) (hl : s.length < 2 ^ 46) : Pure Try.prog 57 [Tx s] (.tup [.agg [I (parseN s).1, I (parseN s).2], I (if numOk s then 0 else 10)]) := by
  have c1 := whole_c s hl
  have hle := wholeL_le s
  have hb1 := wholeL_b s
  refine pu57 (by simp) ?_
  by_cases h0 : (wholeL s).2 = 0
  · have hk : numOk s = false := by simp [numOk, h0]
    rw [h0] at c1
    unfold parseN
    rw [hk]
    simp -implicitDefEqProofs [ac57]
    refine pcK_of (c1) (by simp) ?_
    simp -implicitDefEqProofs
  · have h0' : ¬ ((wholeL s).2 : Int) = 0 := by omega
    have hk : numOk s = (inB (numN s).1 (numN s).2 && decide (textL (numN s).1 (numN s).2 = s)) := by simp [numOk, h0]
    have fin : ∀ n : Int × Int, numN s = n → (n.1.natAbs ≤ 16777217 ∧ n.2.natAbs ≤ 16777217) → ∃ q : Bool, numOk s = (inB n.1 n.2 && q) ∧ parseN s = (if inB n.1 n.2 && q then n else (0, 0)) ∧ decide (textL n.1 n.2 = s) = q := fun n hn _ => by
      refine ⟨_, ?_, ?_, rfl⟩
      · rw [hk, hn]
      · unfold parseN; rw [hk, hn]
    have hrl : (numRest s).length < 2 ^ 46 := by unfold numRest; simp only [List.length_drop]; omega
    have hrest : s.drop (wholeL s).2 = numRest s := rfl
    have hW1 := hb1.1
    have hW2 := hb1.2.1
    have hle' : ((wholeL s).2 : Int) ≤ s.length := by omega
    simp -implicitDefEqProofs [ac57]
    refine pcK_of (c1) (by simp) ?_
    simp -implicitDefEqProofs [h0, h0', hle', hrest]
    by_cases r1 : numRest s = [105]
    · have hn : numN s = (0, (wholeL s).1) := by unfold numN; rw [if_pos r1]
      simp -implicitDefEqProofs [r1]
      obtain ⟨q, e1, e2, e3⟩ := fin (0, (wholeL s).1) hn ⟨by simp only; omega, by simp only; omega⟩
      simp only at e1 e2 e3
      have t1 := inN_c (0) ((wholeL s).1)
      have t2 := text_c (0) ((wholeL s).1) (by omega) (by omega)
      rw [e2, e1]
      cases hB : inB (0) ((wholeL s).1)
      · rw [hB] at t1
        refine pcK_of (t1) (by simp) ?_
        simp -implicitDefEqProofs
      · rw [hB] at t1
        refine pcK_of (t1) (by simp) ?_
        simp -implicitDefEqProofs
        refine pcK_of (t2) (by simp) ?_
        simp -implicitDefEqProofs [e3]
        cases q <;> simp -implicitDefEqProofs
    · by_cases r2 : numRest s = []
      · have hn : numN s = ((wholeL s).1, 0) := by unfold numN; rw [if_neg r1, if_pos r2]
        simp -implicitDefEqProofs [r2]
        obtain ⟨q, e1, e2, e3⟩ := fin ((wholeL s).1, 0) hn ⟨by simp only; omega, by simp only; omega⟩
        simp only at e1 e2 e3
        have t1 := inN_c ((wholeL s).1) (0)
        have t2 := text_c ((wholeL s).1) (0) (by omega) (by omega)
        rw [e2, e1]
        cases hB : inB ((wholeL s).1) (0)
        · rw [hB] at t1
          refine pcK_of (t1) (by simp) ?_
          simp -implicitDefEqProofs
        · rw [hB] at t1
          refine pcK_of (t1) (by simp) ?_
          simp -implicitDefEqProofs
          refine pcK_of (t2) (by simp) ?_
          simp -implicitDefEqProofs [e3]
          cases q <;> simp -implicitDefEqProofs
      · have hpos : 0 < (numRest s).length := List.length_pos_iff.2 r2
        by_cases r3 : bt8 (numRest s) 0 = 43
        · have hn : numN s = ((wholeL s).1, (wholeL ((numRest s).tail)).1) := by unfold numN; rw [if_neg r1, if_neg r2, if_pos r3]
          have c2 := whole_c ((numRest s).tail) (by simp only [List.length_tail]; omega)
          have hb2 := wholeL_b ((numRest s).tail)
          have hge : (1 : Int) ≤ (numRest s).length := by omega
          simp -implicitDefEqProofs [r1, r2, hpos, r3, hge]
          refine pcK_of (c2) (by simp) ?_
          simp -implicitDefEqProofs
          obtain ⟨q, e1, e2, e3⟩ := fin ((wholeL s).1, (wholeL ((numRest s).tail)).1) hn ⟨by simp only; omega, by simp only; omega⟩
          simp only at e1 e2 e3
          have t1 := inN_c ((wholeL s).1) ((wholeL ((numRest s).tail)).1)
          have t2 := text_c ((wholeL s).1) ((wholeL ((numRest s).tail)).1) (by omega) (by omega)
          rw [e2, e1]
          cases hB : inB ((wholeL s).1) ((wholeL ((numRest s).tail)).1)
          · rw [hB] at t1
            refine pcK_of (t1) (by simp) ?_
            simp -implicitDefEqProofs
          · rw [hB] at t1
            refine pcK_of (t1) (by simp) ?_
            simp -implicitDefEqProofs
            refine pcK_of (t2) (by simp) ?_
            simp -implicitDefEqProofs [e3]
            cases q <;> simp -implicitDefEqProofs
        · have hn : numN s = ((wholeL s).1, (wholeL (numRest s)).1) := by unfold numN; rw [if_neg r1, if_neg r2, if_neg r3]
          have c2 := whole_c (numRest s) hrl
          have hb2 := wholeL_b (numRest s)
          simp -implicitDefEqProofs [r1, r2, hpos, r3]
          refine pcK_of (c2) (by simp) ?_
          simp -implicitDefEqProofs
          obtain ⟨q, e1, e2, e3⟩ := fin ((wholeL s).1, (wholeL (numRest s)).1) hn ⟨by simp only; omega, by simp only; omega⟩
          simp only at e1 e2 e3
          have t1 := inN_c ((wholeL s).1) ((wholeL (numRest s)).1)
          have t2 := text_c ((wholeL s).1) ((wholeL (numRest s)).1) (by omega) (by omega)
          rw [e2, e1]
          cases hB : inB ((wholeL s).1) ((wholeL (numRest s)).1)
          · rw [hB] at t1
            refine pcK_of (t1) (by simp) ?_
            simp -implicitDefEqProofs
          · rw [hB] at t1
            refine pcK_of (t1) (by simp) ?_
            simp -implicitDefEqProofs
            refine pcK_of (t2) (by simp) ?_
            simp -implicitDefEqProofs [e3]
            cases q <;> simp -implicitDefEqProofs
end Go.Fx.Ythbainhddfajfaa

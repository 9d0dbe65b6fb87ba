/-
  Marks: fathomref03.Marks.
-/
import Derived.Test.YthbainhddfajfaaMb
set_option linter.all false
set_option maxRecDepth 100000
namespace Go.Fx.Ythbainhddfajfaa
open Go Go.Fx Go.Proofs Go.Fx.Flt
def commF : Nat → List UInt8 → Nat → Nat
  | 0, _, p => p
  | f + 1, t, p => if decide (p < t.length) && !decide (bt8 t p = 10) then commF f t (p + 1) else p
def endMk (t : List UInt8) : Mk := ⟨4, [], ⟨0, 0⟩, t.length⟩
def marksF : Nat → List UInt8 → Nat → List Mk → List Mk × Int
  | 0, _, _, _ => ([], 0)
  | f + 1, t, p, out => if p < t.length then
      (if blankI (bt8 t p) then marksF f t (p + 1) out else
      if bt8 t p = 35 then marksF f t (commF t.length t p) out else
      if (oneF t p).2 then marksF f t (p + (oneF t p).1.text.length) (out ++ [(oneF t p).1]) else ([], p))
    else (out ++ [endMk t], -1)
def marksL (t : List UInt8) : List Mk × Int := marksF (t.length + 1) t 0 []
theorem commF_le : ∀ (f : Nat) (t : List UInt8) (p : Nat), p ≤ t.length → p ≤ commF f t p ∧ commF f t p ≤ t.length
  | 0, t, p, h => ⟨Nat.le_refl _, h⟩
  | f + 1, t, p, h => by
    unfold commF
    split
    · rename_i hc
      simp only [Bool.and_eq_true, decide_eq_true_eq] at hc
      have := commF_le f t (p + 1) (by omega)
      omega
    · exact ⟨Nat.le_refl _, h⟩
theorem commF_lt {t : List UInt8} {p : Nat} (h : p < t.length) (hc : bt8 t p = 35) : p < commF t.length t p := by
  obtain ⟨f, hf⟩ : ∃ f, t.length = f + 1 := ⟨t.length - 1, by omega⟩
  have key : ∀ n, n = f + 1 → p < commF n t p := fun n hn => by
    rw [hn]
    unfold commF
    rw [if_pos (by simp [h, hc])]
    have := (commF_le f t (p + 1) (by omega)).1
    omega
  exact key _ hf
theorem one_len {t : List UInt8} {p : Nat} (h : p < t.length) (ho : (oneF t p).2 = true) : 0 < (oneF t p).1.text.length ∧ p + (oneF t p).1.text.length ≤ t.length := by
  have hr := runL_le (Nat.le_of_lt h)
  have hs := signL_le h
  have h1 := seg_len hr
  have h2 := seg_len hs
  unfold oneF at ho ⊢
  by_cases c1 : (decide (0 < runL t p) && dgI (bt8 t p)) = true
  · rw [if_pos c1] at ho ⊢
    simp only [Bool.and_eq_true, decide_eq_true_eq] at c1
    simp only [h1]; omega
  · rw [if_neg c1] at ho ⊢
    by_cases c2 : (decide (0 < runL t p) && decide (bt8 t p = 95)) = true
    · rw [if_pos c2] at ho; simp at ho
    · rw [if_neg c2] at ho ⊢
      by_cases c3 : decide (0 < runL t p) = true
      · rw [if_pos c3]
        simp only [decide_eq_true_eq] at c3
        simp only [h1]; omega
      · rw [if_neg c3] at ho ⊢
        simp only [decide_eq_true_eq] at ho
        simp only [h2]; omega
theorem comm_loop (t : List UInt8) (p : Nat) (hl : t.length ≤ 2 ^ 20) (hp : p ≤ t.length) {mem : Mem} {nx : Nat} {d2 d3 d4 d6 d7 : D} (Q : Exit → St → Prop)
    (hq : ∀ m, nx ≤ m → Q (.exit 2) ⟨[(0, .sl (em encB t)), (2, d2), (3, d3), (4, d4), (5, I (commF (t.length - p) t p)), (6, d6), (7, d7)], [], mem, m⟩) :
    A cf28 (.loop lb28_0) Q [(0, .sl (em encB t)), (2, d2), (3, d3), (4, d4), (5, I p), (6, d6), (7, d7)] mem nx := by
  generalize hG : commF (t.length - p) t p = G at hq
  refine lp28_0 (α := Nat) (fun k _ => [(5, I k)]) (fun _ _ => mem) (fun k m => nx ≤ m ∧ p ≤ k ∧ k ≤ t.length ∧ commF (t.length - k) t k = G) (fun k => t.length - k) p ⟨Nat.le_refl _, Nat.le_refl _, hp, hG⟩ (by simp) (by simp) ?_
  rintro k m ⟨hm, hk0, hk, he⟩
  have w1 := wr64 (x := (k : Int) + 1) (by omega) (by omega)
  by_cases h : k < t.length
  · obtain ⟨f, hf⟩ : ∃ f, t.length - k = f + 1 := ⟨t.length - k - 1, by omega⟩
    have hf2 : t.length - (k + 1) = f := by omega
    rw [hf] at he
    unfold commF at he
    by_cases hc : bt8 t k = 10
    · rw [if_neg (by simp [hc])] at he
      rw [← he] at hq
      simp -implicitDefEqProofs [lb28_0, h, hc]
      exact hq _ (by omega)
    · rw [if_pos (by simp [h, hc])] at he
      simp -implicitDefEqProofs [lb28_0, h, hc, w1]
      refine again_of (k + 1) ⟨by omega, by omega, h, by rw [hf2]; exact he⟩ (by omega) (by simp) (by simp)
  · have hf : t.length - k = 0 := by omega
    rw [hf] at he
    have he : k = G := he
    subst he
    simp -implicitDefEqProofs [lb28_0, h]
    exact hq _ (by omega)
theorem commF_fuel : ∀ (f g : Nat) (t : List UInt8) (p : Nat), t.length - p ≤ f → t.length - p ≤ g → commF f t p = commF g t p
  | 0, g, t, p, hf, hg => by
    cases g with
    | zero => rfl
    | succ g =>
      unfold commF
      rw [if_neg (by simp; omega)]
  | f + 1, 0, t, p, hf, hg => by
    unfold commF
    rw [if_neg (by simp; omega)]
  | f + 1, g + 1, t, p, hf, hg => by
    unfold commF
    split
    · rename_i hc
      simp only [Bool.and_eq_true, decide_eq_true_eq] at hc
      exact commF_fuel f g t (p + 1) (by omega) (by omega)
    · rfl
theorem Marks_c (t : List UInt8) (hl : t.length ≤ 2 ^ 20) : Pure Try.prog 28 [.sl (em encB t)] (.tup [.sl (em encMk (marksL t).1), I (marksL t).2]) := by
  refine pu28 (by simp) ?_
  generalize hR : marksL t = R
  simp -implicitDefEqProofs [ac28]
  refine A_loop_own (j := 4) (k := 4) rfl (.inl rfl) ?_
  refine lp28_1 (α := Nat × List Mk) (fun s _ => [(4, .osl 4 s.2.length 0 s.2.length), (5, I s.1)]) (fun s _ => [(4, .arr s.2.length 4 (em encMk s.2))]) (fun s m => 4 < m ∧ s.1 ≤ t.length ∧ s.2.length ≤ s.1 ∧ ∃ f, t.length - s.1 < f ∧ marksF f t s.1 s.2 = R) (fun s => t.length - s.1) (0, []) ⟨by omega, by simp, by simp, t.length + 1, by simp, hR⟩ (by simp) (by simp) ?_
  rintro ⟨p, out⟩ m ⟨hm, hp, ho, f, hf, hR⟩
  simp only at hp ho hf hR
  have hz : ∀ {f : Nat}, t.length - p < f → ∃ g, f = g + 1 := fun {f} h => ⟨f - 1, by omega⟩
  obtain ⟨g, rfl⟩ := hz hf
  unfold marksF at hR
  have w1 := wr64 (x := (p : Int) + 1) (by omega) (by omega)
  by_cases hlt : p < t.length
  · rw [if_pos hlt] at hR
    have hbl := blank_c (bt8 t p)
    cases hb : blankI (bt8 t p) <;> rw [hb] at hbl hR
    · rw [if_neg (by decide)] at hR
      by_cases hc : bt8 t p = 35
      · rw [if_pos hc] at hR
        have h1 := commF_lt hlt hc
        have h2 := (commF_le t.length t p hp).2
        have e := commF_fuel t.length (t.length - p) t p (by omega) (Nat.le_refl _)
        simp -implicitDefEqProofs [lb28_1, hlt]
        refine pcK_of (hbl) (by simp) ?_
        simp -implicitDefEqProofs [hlt, hc]
        refine comm_loop t p hl hp _ (fun m2 hm2 => ?_)
        rw [← e]
        simp -implicitDefEqProofs
        refine again_of (commF t.length t p, out) ⟨by omega, h2, by simp only; omega, g, by simp only; omega, hR⟩ (by simp only; omega) (by simp) (by simp)
      · rw [if_neg hc] at hR
        have h1 := one_c t p (by omega) hlt
        cases hok : (oneF t p).2 <;> rw [hok] at h1 hR
        · rw [if_neg (by decide)] at hR
          subst hR
          generalize (oneF t p).1 = k at *
          simp only [encMk] at h1
          simp -implicitDefEqProofs [lb28_1, hlt]
          refine pcK_of (hbl) (by simp) ?_
          simp -implicitDefEqProofs [hlt, hc]
          refine pcK_of (h1) (by simp) ?_
          simp -implicitDefEqProofs
        · rw [if_pos rfl] at hR
          obtain ⟨h2, h3⟩ := one_len hlt hok
          have w2 := wr64 (x := (p : Int) + ((oneF t p).1.text.length : Int)) (by omega) (by omega)
          generalize (oneF t p).1 = k at *
          simp only [encMk] at h1
          simp -implicitDefEqProofs [lb28_1, hlt]
          refine pcK_of (hbl) (by simp) ?_
          simp -implicitDefEqProofs [hlt, hc]
          refine pcK_of (h1) (by simp) ?_
          simp -implicitDefEqProofs [w2]
          refine ⟨by omega, again_of (p + k.text.length, out ++ [k]) ⟨by omega, h3, by simp; omega, g, by simp only; omega, hR⟩ (by simp only; omega) (by simp) ?_⟩
          rw [app_Mk]
          refine memLe_skip ?_ (by simp [look])
          simp
    · rw [if_pos rfl] at hR
      simp -implicitDefEqProofs [lb28_1, hlt]
      refine pcK_of (hbl) (by simp) ?_
      simp -implicitDefEqProofs [w1]
      refine again_of (p + 1, out) ⟨by omega, hlt, by simp only; omega, g, by simp only; omega, hR⟩ (by simp only; omega) (by simp) (by simp)
  · rw [if_neg hlt] at hR
    subst hR
    have ha : em encMk out ++ [[I 4, .pl (.string (ByteArray.mk (Array.mk []))), CX 0 0, I t.length]] = em encMk (out ++ [endMk t]) := app_Mk out (endMk t)
    have hl2 : out.length + 1 = (out ++ [endMk t]).length := by simp
    simp -implicitDefEqProofs [lb28_1, hlt, ha]
    exact ⟨by omega, by rw [hl2, List.take_length]⟩
/-- The last mark is the end's. -/
def MOk (l : List Mk) : Prop := 0 < l.length ∧ ∀ i, i < l.length → (l[i]?.getD default).kind ≠ 4 → i + 1 < l.length
theorem marksF_ok : ∀ (f : Nat) (t : List UInt8) (p : Nat) (out : List Mk), (marksF f t p out).2 < 0 → MOk (marksF f t p out).1
  | 0, t, p, out, h => by simp [marksF] at h
  | f + 1, t, p, out, h => by
    unfold marksF at h ⊢
    by_cases c1 : p < t.length
    · rw [if_pos c1] at h ⊢
      by_cases c2 : blankI (bt8 t p) = true
      · rw [if_pos c2] at h ⊢; exact marksF_ok f _ _ _ h
      · rw [if_neg c2] at h ⊢
        by_cases c3 : bt8 t p = 35
        · rw [if_pos c3] at h ⊢; exact marksF_ok f _ _ _ h
        · rw [if_neg c3] at h ⊢
          by_cases c4 : (oneF t p).2 = true
          · rw [if_pos c4] at h ⊢; exact marksF_ok f _ _ _ h
          · rw [if_neg c4] at h; simp only at h; omega
    · rw [if_neg c1] at h ⊢
      refine ⟨by simp, fun i hi hk => ?_⟩
      simp only [List.length_append, List.length_cons, List.length_nil] at hi ⊢
      by_cases e : i = out.length
      · subst e
        simp [endMk] at hk
      · omega
theorem marksF_len : ∀ (f : Nat) (t : List UInt8) (p : Nat) (out : List Mk), p ≤ t.length → out.length ≤ p → (marksF f t p out).1.length ≤ t.length + 1
  | 0, t, p, out, _, _ => by simp [marksF]
  | f + 1, t, p, out, hp, ho => by
    unfold marksF
    by_cases c1 : p < t.length
    · rw [if_pos c1]
      by_cases c2 : blankI (bt8 t p) = true
      · rw [if_pos c2]; exact marksF_len f _ _ _ (by omega) (by omega)
      · rw [if_neg c2]
        by_cases c3 : bt8 t p = 35
        · rw [if_pos c3]
          have := commF_le t.length t p hp
          exact marksF_len f _ _ _ (by omega) (by omega)
        · rw [if_neg c3]
          by_cases c4 : (oneF t p).2 = true
          · rw [if_pos c4]
            have := one_len c1 c4
            exact marksF_len f _ _ _ (by omega) (by simp; omega)
          · rw [if_neg c4]; simp
    · rw [if_neg c1]; simp; omega
end Go.Fx.Ythbainhddfajfaa

/-
  Marks: fathomref03.Marks.
-/
import Derived.Test.YthbainhddfajfaaCodeMarks
import Derived.Test.YthbainhddfajfaaNp
import Derived.Test.YthbainhddfajfaaK2
set_option linter.all false
set_option maxRecDepth 100000
namespace Go.Fx.Ythbainhddfajfaa
open Go Go.Fx Go.Proofs Go.Fx.Flt
structure Mk where
  kind : Int
  text : List UInt8
  num : Cx
  at' : Int
instance : Inhabited Mk := ⟨⟨0, [], ⟨0, 0⟩, 0⟩⟩
def encMk (m : Mk) : List D := [I m.kind, Tx m.text, CX m.num.re m.num.im, I m.at']
theorem ia_Mk {l : List Mk} {mem : Mem} {j : IntKind} {i : Int} : iaD mem 4 (.sl (em encMk l)) (.pl (.int j i)) = if 0 ≤ i ∧ i < l.length then some (.pt [I (l[i.toNat]?.getD default).kind, Tx (l[i.toNat]?.getD default).text, CX (l[i.toNat]?.getD default).num.re (l[i.toNat]?.getD default).num.im, I (l[i.toNat]?.getD default).at']) else none := em_ia fun _ => rfl
theorem imm_Mk (l : List Mk) : D.immss (em encMk l) = true := em_imm fun _ => rfl
theorem app_Mk (l : List Mk) (m : Mk) : em encMk l ++ [[I m.kind, Tx m.text, CX m.num.re m.num.im, I m.at']] = em encMk (l ++ [m]) := em_app
theorem cell_Mk (l : List Mk) : (em encMk l).all (fun e => e.all D.cell) = true := em_cell fun _ => rfl
attribute [simp] ia_Mk imm_Mk cell_Mk
def ltrI (v : Int) : Bool := (decide (65 ≤ v) && decide (v ≤ 90)) || (decide (97 ≤ v) && decide (v ≤ 122))
def dgI (v : Int) : Bool := decide (48 ≤ v) && decide (v ≤ 57)
def idI (v : Int) : Bool := ltrI v || (dgI v || decide (v = 95))
def blankI (v : Int) : Bool := decide (v = 9) || (decide (v = 10) || (decide (v = 13) || decide (v = 32)))
theorem letter_c (v : Int) : Pure Try.prog 67 [By v] (B (ltrI v)) := by
  refine pu67 (by simp) ?_
  unfold ltrI
  by_cases a : 65 ≤ v <;> by_cases b : v ≤ 90 <;> by_cases c : 97 ≤ v <;> by_cases d : v ≤ 122 <;> simp -implicitDefEqProofs [ac67, a, b, c, d]
theorem digit_c (v : Int) : Pure Try.prog 56 [By v] (B (dgI v)) := by
  refine pu56 (by simp) ?_
  unfold dgI
  by_cases a : 48 ≤ v <;> by_cases b : v ≤ 57 <;> simp -implicitDefEqProofs [ac56, a, b]
theorem blank_c (v : Int) : Pure Try.prog 46 [By v] (B (blankI v)) := by
  refine pu46 (by simp) ?_
  unfold blankI
  by_cases a : v = 9 <;> by_cases b : v = 10 <;> by_cases c : v = 13 <;> by_cases d : v = 32 <;> simp -implicitDefEqProofs [ac46, a, b, c, d]
def wordsL : List (List UInt8) := [[66], [76], [78], [99, 97, 115, 101], [99, 111, 110, 106], [101, 108, 115, 101], [102, 97, 105, 108], [102, 97, 108, 115, 101], [105, 102], [105, 109], [105, 110], [108, 101, 116], [110, 105, 108], [110, 111, 116], [111, 102], [114, 101], [115, 116, 114, 105, 99, 116], [116, 104, 101, 110], [116, 114, 117, 101]]
theorem words_c : Pure Try.prog 71 [] (.sl (em encT wordsL)) := by
  refine pu71 (by simp) ?_
  simp -implicitDefEqProofs [ac71]
  rfl
def resv (s : List UInt8) : Bool := wordsL.any fun w => decide (w = s)
theorem reserved_c (s : List UInt8) : Pure Try.prog 59 [Tx s] (B (resv s)) := by
  refine pu59 (by simp) ?_
  unfold resv
  generalize hW : wordsL = W
  generalize hr : (W.any fun w => decide (w = s)) = r
  have hl : W.length = 19 := by rw [← hW]; rfl
  have hc := words_c
  rw [hW] at hc
  simp -implicitDefEqProofs [ac59]
  refine pcK_of (hc) (by simp) ?_
  simp -implicitDefEqProofs
  refine lp59_0 (α := Nat) (fun i _ => [(4, I i)]) (fun _ _ => []) (fun i _ => i ≤ W.length ∧ r = (W.drop i).any (fun w => decide (w = s))) (fun i => W.length - i) 0 ⟨by omega, by rw [← hr]; rfl⟩ (by simp) (by simp) ?_
  rintro i m ⟨hi, he⟩
  simp -implicitDefEqProofs [lb59_0]
  refine ⟨fun hlt => ⟨hlt, ?_⟩, fun hge => ?_⟩
  · have hg : W[i]?.getD default = W[i] := by rw [List.getElem?_eq_getElem hlt]; rfl
    have hd : W.drop i = W[i] :: W.drop (i + 1) := List.drop_eq_getElem_cons hlt
    rw [hd] at he
    have w1 := wr64 (x := (i : Int) + 1) (by omega) (by omega)
    by_cases h : W[i] = s
    · have : r = true := by rw [he]; simp [h]
      subst this
      simp -implicitDefEqProofs [hg, h]
    · simp -implicitDefEqProofs [hg, h, w1]
      exact again_of (i + 1) ⟨hlt, by rw [he, List.any_cons, decide_eq_false h]; rfl⟩ (by omega) (by simp) (by simp)
  · rw [List.drop_eq_nil_of_le hge] at he
    subst he
    simp -implicitDefEqProofs
/-- How many bytes of a run stand at a place. -/
def runF : Nat → List UInt8 → Nat → Nat → Nat
  | 0, _, _, n => n
  | f + 1, t, p, n => if decide (p + n < t.length) && idI (bt8 t (p + n)) then runF f t p (n + 1) else n
def runL (t : List UInt8) (p : Nat) : Nat := runF (t.length - p) t p 0
theorem runF_le : ∀ (f : Nat) (t : List UInt8) (p n : Nat), p + n ≤ t.length → n ≤ runF f t p n ∧ p + runF f t p n ≤ t.length
  | 0, t, p, n, h => ⟨Nat.le_refl _, h⟩
  | f + 1, t, p, n, h => by
    unfold runF
    split
    · rename_i hc
      simp only [Bool.and_eq_true, decide_eq_true_eq] at hc
      have := runF_le f t p (n + 1) (by omega)
      omega
    · exact ⟨Nat.le_refl _, h⟩
theorem run_c (t : List UInt8) (p : Nat) (hl : t.length < 2 ^ 46) (hp : p ≤ t.length) : Pure Try.prog 55 [.sl (em encB t), I p] (I (runL t p)) := by
  refine pu55 (by simp) ?_
  simp -implicitDefEqProofs [ac55]
  refine lp55_0 (α := Nat) (fun n _ => [(5, I n)]) (fun _ _ => []) (fun n _ => p + n ≤ t.length ∧ runF (t.length - p - n) t p n = runL t p) (fun n => t.length - p - n) 0 ⟨by omega, by simp [runL]⟩ (by simp) (by simp) ?_
  rintro n m ⟨hn, he⟩
  have w1 := wr64 (x := (p : Int) + (n : Int)) (by omega) (by omega)
  have w2 := wr64 (x := (n : Int) + 1) (by omega) (by omega)
  have tn : ((p : Int) + (n : Int)).toNat = p + n := by omega
  have c1 := letter_c (bt8 t (p + n))
  have c2 := digit_c (bt8 t (p + n))
  by_cases h : p + n < t.length
  · have h' : (p : Int) + (n : Int) < t.length := by omega
    have h0 : (0 : Int) ≤ (p : Int) + (n : Int) := by omega
    obtain ⟨f, hf⟩ : ∃ f, t.length - p - n = f + 1 := ⟨t.length - p - n - 1, by omega⟩
    have hf2 : t.length - p - (n + 1) = f := by omega
    rw [hf] at he
    unfold runF at he
    rw [decide_eq_true h, Bool.true_and] at he
    unfold idI at he
    cases a : ltrI (bt8 t (p + n)) <;> rw [a] at c1 he
    · cases b : dgI (bt8 t (p + n)) <;> rw [b] at c2 he
      · by_cases c : bt8 t (p + n) = 95
        · simp -implicitDefEqProofs [lb55_0, w1, h', h0, tn]
          refine pcK_of (c1) (by simp) ?_
          simp -implicitDefEqProofs [w1, h', h0, tn]
          refine pcK_of (c2) (by simp) ?_
          simp -implicitDefEqProofs [w1, h', h0, tn, c, w2]
          refine again_of (n + 1) ⟨by omega, ?_⟩ (by omega) (by simp) (by simp)
          rw [hf2]; simpa [c] using he
        · have : n = runL t p := by simpa [c] using he
          rw [← this]
          simp -implicitDefEqProofs [lb55_0, w1, h', h0, tn]
          refine pcK_of (c1) (by simp) ?_
          simp -implicitDefEqProofs [w1, h', h0, tn]
          refine pcK_of (c2) (by simp) ?_
          simp -implicitDefEqProofs [w1, h', h0, tn, c, w2]
      · simp -implicitDefEqProofs [lb55_0, w1, h', h0, tn]
        refine pcK_of (c1) (by simp) ?_
        simp -implicitDefEqProofs [w1, h', h0, tn]
        refine pcK_of (c2) (by simp) ?_
        simp -implicitDefEqProofs [w2]
        refine again_of (n + 1) ⟨by omega, ?_⟩ (by omega) (by simp) (by simp)
        rw [hf2]; simpa using he
    · simp -implicitDefEqProofs [lb55_0, w1, h', h0, tn]
      refine pcK_of (c1) (by simp) ?_
      simp -implicitDefEqProofs [w2]
      refine again_of (n + 1) ⟨by omega, ?_⟩ (by omega) (by simp) (by simp)
      rw [hf2]; simpa using he
  · have h' : ¬ (p : Int) + (n : Int) < t.length := by omega
    have e0 : t.length - p - n = 0 := by omega
    rw [e0] at he
    have : n = runL t p := he
    rw [← this]
    simp -implicitDefEqProofs [lb55_0, w1, h']
def sgn1 (v : Int) : Nat := if (decide (v = 40) || decide (v = 41) || decide (v = 44) || decide (v = 58) || decide (v = 59) || decide (v = 61) || decide (v = 43) || decide (v = 45) || decide (v = 42) || decide (v = 47) || decide (v = 60) || decide (v = 124)) then 1 else 0
def signL (t : List UInt8) (p : Nat) : Nat :=
  if decide (p + 1 < t.length) && ((decide (bt8 t p = 45) && decide (bt8 t (p + 1) = 62)) || (decide (bt8 t p = 61) && decide (bt8 t (p + 1) = 61))) then 2 else sgn1 (bt8 t p)
theorem sign_c (t : List UInt8) (p : Nat) (hl : t.length < 2 ^ 46) (hp : p < t.length) : Pure Try.prog 60 [.sl (em encB t), I p] (I (signL t p)) := by
  refine pu60 (by simp) ?_
  have w1 := wr64 (x := (p : Int) + 1) (by omega) (by omega)
  have tn : ((p : Int) + 1).toNat = p + 1 := by omega
  have h0 : (0 : Int) ≤ (p : Int) + 1 := by omega
  have hpi : (p : Int) < t.length := by omega
  unfold signL
  generalize hu : bt8 t (p + 1) = u at *
  generalize hv : bt8 t p = v at *
  by_cases hp1 : p + 1 < t.length
  · have hp2 : (p : Int) + 1 < t.length := by omega
    by_cases a : v = 45
    · by_cases b : u = 62
      · rw [if_pos (by simp [hp1, a, b])]
        simp -implicitDefEqProofs [ac60, w1, tn, h0, hp, hp2, hu, hv, a, b]
      · rw [if_neg (by simp [hp1, a, b])]
        have e : sgn1 v = 1 := by unfold sgn1; rw [a]; rfl
        rw [e]
        simp -implicitDefEqProofs [ac60, w1, tn, h0, hp, hp2, hu, hv, a, b]
    · by_cases c : v = 61
      · by_cases b : u = 61
        · rw [if_pos (by simp [hp1, c, b])]
          simp -implicitDefEqProofs [ac60, w1, tn, h0, hp, hp2, hu, hv, a, c, b]
        · rw [if_neg (by simp [hp1, c, b])]
          have e : sgn1 v = 1 := by unfold sgn1; rw [c]; rfl
          rw [e]
          simp -implicitDefEqProofs [ac60, w1, tn, h0, hp, hp2, hu, hv, a, c, b]
      · rw [if_neg (by simp [a, c])]
        by_cases h40 : v = 40
        · have e : sgn1 v = 1 := by unfold sgn1; rw [h40]; rfl
          rw [e]
          simp -implicitDefEqProofs [ac60, w1, tn, h0, hp, hp2, hu, hv, a, c, h40]
        ·
          by_cases h41 : v = 41
          · have e : sgn1 v = 1 := by unfold sgn1; rw [h41]; rfl
            rw [e]
            simp -implicitDefEqProofs [ac60, w1, tn, h0, hp, hp2, hu, hv, a, c, h40, h41]
          ·
            by_cases h44 : v = 44
            · have e : sgn1 v = 1 := by unfold sgn1; rw [h44]; rfl
              rw [e]
              simp -implicitDefEqProofs [ac60, w1, tn, h0, hp, hp2, hu, hv, a, c, h40, h41, h44]
            ·
              by_cases h58 : v = 58
              · have e : sgn1 v = 1 := by unfold sgn1; rw [h58]; rfl
                rw [e]
                simp -implicitDefEqProofs [ac60, w1, tn, h0, hp, hp2, hu, hv, a, c, h40, h41, h44, h58]
              ·
                by_cases h59 : v = 59
                · have e : sgn1 v = 1 := by unfold sgn1; rw [h59]; rfl
                  rw [e]
                  simp -implicitDefEqProofs [ac60, w1, tn, h0, hp, hp2, hu, hv, a, c, h40, h41, h44, h58, h59]
                ·
                  have h61 : ¬ v = 61 := c
                  by_cases h43 : v = 43
                  · have e : sgn1 v = 1 := by unfold sgn1; rw [h43]; rfl
                    rw [e]
                    simp -implicitDefEqProofs [ac60, w1, tn, h0, hp, hp2, hu, hv, a, c, h40, h41, h44, h58, h59, h61, h43]
                  ·
                    have h45 : ¬ v = 45 := a
                    by_cases h42 : v = 42
                    · have e : sgn1 v = 1 := by unfold sgn1; rw [h42]; rfl
                      rw [e]
                      simp -implicitDefEqProofs [ac60, w1, tn, h0, hp, hp2, hu, hv, a, c, h40, h41, h44, h58, h59, h61, h43, h45, h42]
                    ·
                      by_cases h47 : v = 47
                      · have e : sgn1 v = 1 := by unfold sgn1; rw [h47]; rfl
                        rw [e]
                        simp -implicitDefEqProofs [ac60, w1, tn, h0, hp, hp2, hu, hv, a, c, h40, h41, h44, h58, h59, h61, h43, h45, h42, h47]
                      ·
                        by_cases h60 : v = 60
                        · have e : sgn1 v = 1 := by unfold sgn1; rw [h60]; rfl
                          rw [e]
                          simp -implicitDefEqProofs [ac60, w1, tn, h0, hp, hp2, hu, hv, a, c, h40, h41, h44, h58, h59, h61, h43, h45, h42, h47, h60]
                        ·
                          by_cases h124 : v = 124
                          · have e : sgn1 v = 1 := by unfold sgn1; rw [h124]; rfl
                            rw [e]
                            simp -implicitDefEqProofs [ac60, w1, tn, h0, hp, hp2, hu, hv, a, c, h40, h41, h44, h58, h59, h61, h43, h45, h42, h47, h60, h124]
                          ·
                            have e : sgn1 v = 0 := by unfold sgn1; simp only [h40, decide_false, Bool.or_self, h41, decide_false, Bool.or_self, h44, decide_false, Bool.or_self, h58, decide_false, Bool.or_self, h59, decide_false, Bool.or_self, h61, decide_false, Bool.or_self, h43, decide_false, Bool.or_self, h45, decide_false, Bool.or_self, h42, decide_false, Bool.or_self, h47, decide_false, Bool.or_self, h60, decide_false, Bool.or_self, h124, decide_false, Bool.or_self]; rfl
                            rw [e]
                            simp -implicitDefEqProofs [ac60, w1, tn, h0, hp, hp2, hu, hv, a, c, h40, h41, h44, h58, h59, h61, h43, h45, h42, h47, h60, h124]
  · have hp2 : ¬ (p : Int) + 1 < t.length := by omega
    rw [if_neg (by simp [hp1])]
    by_cases h40 : v = 40
    · have e : sgn1 v = 1 := by unfold sgn1; rw [h40]; rfl
      rw [e]
      simp -implicitDefEqProofs [ac60, w1, tn, h0, hp, hp2, hu, hv, h40]
    ·
      by_cases h41 : v = 41
      · have e : sgn1 v = 1 := by unfold sgn1; rw [h41]; rfl
        rw [e]
        simp -implicitDefEqProofs [ac60, w1, tn, h0, hp, hp2, hu, hv, h40, h41]
      ·
        by_cases h44 : v = 44
        · have e : sgn1 v = 1 := by unfold sgn1; rw [h44]; rfl
          rw [e]
          simp -implicitDefEqProofs [ac60, w1, tn, h0, hp, hp2, hu, hv, h40, h41, h44]
        ·
          by_cases h58 : v = 58
          · have e : sgn1 v = 1 := by unfold sgn1; rw [h58]; rfl
            rw [e]
            simp -implicitDefEqProofs [ac60, w1, tn, h0, hp, hp2, hu, hv, h40, h41, h44, h58]
          ·
            by_cases h59 : v = 59
            · have e : sgn1 v = 1 := by unfold sgn1; rw [h59]; rfl
              rw [e]
              simp -implicitDefEqProofs [ac60, w1, tn, h0, hp, hp2, hu, hv, h40, h41, h44, h58, h59]
            ·
              by_cases h61 : v = 61
              · have e : sgn1 v = 1 := by unfold sgn1; rw [h61]; rfl
                rw [e]
                simp -implicitDefEqProofs [ac60, w1, tn, h0, hp, hp2, hu, hv, h40, h41, h44, h58, h59, h61]
              ·
                by_cases h43 : v = 43
                · have e : sgn1 v = 1 := by unfold sgn1; rw [h43]; rfl
                  rw [e]
                  simp -implicitDefEqProofs [ac60, w1, tn, h0, hp, hp2, hu, hv, h40, h41, h44, h58, h59, h61, h43]
                ·
                  by_cases h45 : v = 45
                  · have e : sgn1 v = 1 := by unfold sgn1; rw [h45]; rfl
                    rw [e]
                    simp -implicitDefEqProofs [ac60, w1, tn, h0, hp, hp2, hu, hv, h40, h41, h44, h58, h59, h61, h43, h45]
                  ·
                    by_cases h42 : v = 42
                    · have e : sgn1 v = 1 := by unfold sgn1; rw [h42]; rfl
                      rw [e]
                      simp -implicitDefEqProofs [ac60, w1, tn, h0, hp, hp2, hu, hv, h40, h41, h44, h58, h59, h61, h43, h45, h42]
                    ·
                      by_cases h47 : v = 47
                      · have e : sgn1 v = 1 := by unfold sgn1; rw [h47]; rfl
                        rw [e]
                        simp -implicitDefEqProofs [ac60, w1, tn, h0, hp, hp2, hu, hv, h40, h41, h44, h58, h59, h61, h43, h45, h42, h47]
                      ·
                        by_cases h60 : v = 60
                        · have e : sgn1 v = 1 := by unfold sgn1; rw [h60]; rfl
                          rw [e]
                          simp -implicitDefEqProofs [ac60, w1, tn, h0, hp, hp2, hu, hv, h40, h41, h44, h58, h59, h61, h43, h45, h42, h47, h60]
                        ·
                          by_cases h124 : v = 124
                          · have e : sgn1 v = 1 := by unfold sgn1; rw [h124]; rfl
                            rw [e]
                            simp -implicitDefEqProofs [ac60, w1, tn, h0, hp, hp2, hu, hv, h40, h41, h44, h58, h59, h61, h43, h45, h42, h47, h60, h124]
                          ·
                            have e : sgn1 v = 0 := by unfold sgn1; simp only [h40, decide_false, Bool.or_self, h41, decide_false, Bool.or_self, h44, decide_false, Bool.or_self, h58, decide_false, Bool.or_self, h59, decide_false, Bool.or_self, h61, decide_false, Bool.or_self, h43, decide_false, Bool.or_self, h45, decide_false, Bool.or_self, h42, decide_false, Bool.or_self, h47, decide_false, Bool.or_self, h60, decide_false, Bool.or_self, h124, decide_false, Bool.or_self]; rfl
                            rw [e]
                            simp -implicitDefEqProofs [ac60, w1, tn, h0, hp, hp2, hu, hv, h40, h41, h44, h58, h59, h61, h43, h45, h42, h47, h60, h124]
end Go.Fx.Ythbainhddfajfaa

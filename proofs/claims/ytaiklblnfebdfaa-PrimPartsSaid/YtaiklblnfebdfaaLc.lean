/-
  PrimOrder, PrimParts, PrimGauss.
-/
import Derived.Test.YtaiklblnfebdfaaLb
set_option linter.all false
namespace Go.Fx.Ytaiklblnfebdfaa
open Go Go.Fx Go.Proofs Go.Fx.Flt
theorem arg_Num {x : D} (h : Arg Try.prog 34 x) : ∃ z : Nm, x = .agg (encN z) := by
  obtain ⟨n, ds, h, k⟩ := h
  simp only [Try.underlying34] at k
  obtain ⟨z, rfl, _⟩ := wt_Num h
  exact ⟨z, k⟩
theorem two_yes {op x y u v : Int} (h : 8 ≤ op ∧ op ≤ 13) (hx : inb x = true) (hy : inb y = true) (hu : inb u = true) (hv : inb v = true) : Pure Try.prog 16 [I op, G x y, G u v] (opD op x y u v) := by
  have := two10_c op (Fi_lt (inb_lt hx)) (Fi_lt (inb_lt hy)) (Fi_lt (inb_lt hu)) (Fi_lt (inb_lt hv))
  rwa [ap_two h hx hy hu hv] at this
theorem tkT_two {op : Int} (h : 8 ≤ op ∧ op ≤ 13) : tkT op = 1 := by unfold tkT; rw [if_pos h]
theorem two_no {op : Int} {p q r s : Nat} (h : 8 ≤ op ∧ op ≤ 13) (hp : p < 2 ^ 64) (hq : q < 2 ^ 64) (hr : r < 2 ^ 64) (hs : s < 2 ^ 64) (hb : ((plainB p && plainB q) && (plainB r && plainB s)) = false) :
    Pure Try.prog 16 [I op, CX p q, CX r s] (rs 0 0 0 false 3) := by
  have := two10_c op hp hq hr hs
  rw [Bool.and_eq_false_iff] at hb
  rcases hb with hb | hb
  · rwa [ap_no (v := rv 1 p q false) (by simp) (by rw [tkT_two h, one_num hp hq, hb])] at this
  · rwa [ap_no (v := rv 1 r s false) (by simp) (by rw [tkT_two h, one_num hr hs, hb])] at this
/-- Both are right, or not. -/
theorem both_cases (p q r s : Nat) (hp : p < 2 ^ 64) (hq : q < 2 ^ 64) (hr : r < 2 ^ 64) (hs : s < 2 ^ 64) :
    (∃ x y u v, p = Fi x ∧ q = Fi y ∧ r = Fi u ∧ s = Fi v ∧ inb x = true ∧ inb y = true ∧ inb u = true ∧ inb v = true) ∨ ((plainB p && plainB q) && (plainB r && plainB s)) = false := by
  cases hb : ((plainB p && plainB q) && (plainB r && plainB s))
  · exact .inr rfl
  · left
    simp only [Bool.and_eq_true] at hb
    obtain ⟨⟨h1, h2⟩, h3, h4⟩ := hb
    obtain ⟨a1, a2⟩ := plain_Pl hp h1
    obtain ⟨b1, b2⟩ := plain_Pl hq h2
    obtain ⟨c1, c2⟩ := plain_Pl hr h3
    obtain ⟨d1, d2⟩ := plain_Pl hs h4
    exact ⟨_, _, _, _, a1, b1, c1, d1, inb_abs.2 a2, inb_abs.2 b2, inb_abs.2 c2, inb_abs.2 d2⟩
theorem opD_sym {op x y u v : Int} (h : op = 8 ∨ op = 10 ∨ op = 12) : opD op u v x y = opD op x y u v := by
  rcases h with rfl | rfl | rfl
  · show nmR (u + x) (v + y) = nmR (x + u) (y + v)
    rw [Int.add_comm u x, Int.add_comm v y]
  · show nmR (u * x - v * y) (u * y + v * x) = nmR (x * u - y * v) (x * v + y * u)
    rw [Int.mul_comm u x, Int.mul_comm v y, Int.mul_comm u y, Int.mul_comm v x, Int.add_comm (y * u) (x * v)]
  · show rs 2 0 0 (decide (u = x ∧ v = y)) 0 = rs 2 0 0 (decide (x = u ∧ y = v)) 0
    have : decide (u = x ∧ v = y) = decide (x = u ∧ y = v) := by
      rw [Bool.eq_iff_iff]; simp only [decide_eq_true_eq]; omega
    rw [this]
theorem one_bool (b : Bool) : Pure Try.prog 17 [I 14, .agg (encV (rv 2 0 0 b))] (rs 2 0 0 (!b) 0) := by
  have h := (out_bool b).2
  have := one10_c 14 _ h.1 h.2.1
  have hok : (rv 2 0 0 b).ok = true := by
    rcases h.2.2 with h | h
    · exact h
    · simp [rv] at h
  have hf : fit 14 [rv 2 0 0 b] := by
    refine ⟨by decide, rfl, fun w hw => ?_⟩
    simp only [List.mem_singleton] at hw; subst hw
    simp only [one, hok, Bool.true_and, decide_eq_true_eq]; rfl
  unfold applyD at this
  rw [if_pos hf] at this
  exact this
theorem wi1 : IntKind.i64.wrap 1 = 1 := by decide
theorem wi2 : IntKind.i64.wrap 2 = 2 := by decide
theorem wi3 : IntKind.i64.wrap 3 = 3 := by decide
/-- Of three just one holds. -/
def cnt (a b c : Bool) (i : Nat) : Int := (if 0 < i ∧ a = true then 1 else 0) + (if 1 < i ∧ b = true then 1 else 0) + (if 2 < i ∧ c = true then 1 else 0)
theorem law_PrimOrder : ∀ xs, Args Try.prog Try.f4.params.toList xs → Pure Try.prog 4 xs (B true) := by
  intro xs h
  rw [Try.params4] at h
  simp only [Args] at h
  obtain ⟨x, r, rfl, hx, y, r2, rfl, hy, rfl⟩ := h
  obtain ⟨z, rfl⟩ := arg_Num hx
  obtain ⟨w, rfl⟩ := arg_Num hy
  have hz := ZC z
  have hw := ZC w
  obtain ⟨zl1, zl2⟩ := Nm.z_lt z
  obtain ⟨wl1, wl2⟩ := Nm.z_lt w
  have hall : (∃ (d : Int → D), (∀ op, op = 8 ∨ op = 10 ∨ op = 12 → ∃ v e, Out (d op) v e) ∧ (∀ op, 8 ≤ op ∧ op ≤ 13 → Pure Try.prog 16 [I op, CX z.z.re z.z.im, CX w.z.re w.z.im] (d op)) ∧
      (∀ op, op = 8 ∨ op = 10 ∨ op = 12 → Pure Try.prog 16 [I op, CX w.z.re w.z.im, CX z.z.re z.z.im] (d op)) ∧
      ((d 12 = rs 0 0 0 false 3 ∧ d 13 = rs 0 0 0 false 3 ∧ Pure Try.prog 16 [I 13, CX w.z.re w.z.im, CX z.z.re z.z.im] (rs 0 0 0 false 3)) ∨
        ∃ a b c, d 12 = rs 2 0 0 a 0 ∧ d 13 = rs 2 0 0 b 0 ∧ Pure Try.prog 16 [I 13, CX w.z.re w.z.im, CX z.z.re z.z.im] (rs 2 0 0 c 0) ∧ cnt a b c 3 = 1)) := by
    rcases both_cases z.z.re z.z.im w.z.re w.z.im zl1 zl2 wl1 wl2 with ⟨X, Y, U, V, e1, e2, e3, e4, i1, i2, i3, i4⟩ | hb
    · rw [e1, e2, e3, e4]
      refine ⟨fun op => opD op X Y U V, fun op _ => out_op .., fun op h => two_yes h i1 i2 i3 i4, fun op h => ?_, .inr ⟨_, _, _, rfl, rfl, two_yes (by decide) i3 i4 i1 i2, ?_⟩⟩
      · simp only
        rw [← opD_sym h]
        exact two_yes (by omega) i3 i4 i1 i2
      · unfold cnt
        have : (X = U ∧ Y = V) ∨ (X < U ∨ X = U ∧ Y < V) ∨ (U < X ∨ U = X ∧ V < Y) := by omega
        rcases this with h | h | h
        · have h2 : ¬ (X < U ∨ X = U ∧ Y < V) := by omega
          have h3 : ¬ (U < X ∨ U = X ∧ V < Y) := by omega
          simp only [decide_eq_true h, decide_eq_false h2, decide_eq_false h3]; decide
        · have h2 : ¬ (X = U ∧ Y = V) := by omega
          have h3 : ¬ (U < X ∨ U = X ∧ V < Y) := by omega
          simp only [decide_eq_true h, decide_eq_false h2, decide_eq_false h3]; decide
        · have h2 : ¬ (X < U ∨ X = U ∧ Y < V) := by omega
          have h3 : ¬ (X = U ∧ Y = V) := by omega
          simp only [decide_eq_true h, decide_eq_false h2, decide_eq_false h3]; decide
    · have hb2 : ((plainB w.z.re && plainB w.z.im) && (plainB z.z.re && plainB z.z.im)) = false := by rw [Bool.and_comm]; exact hb
      exact ⟨fun _ => rs 0 0 0 false 3, fun op _ => ⟨_, _, out_no 3⟩, fun op h => two_no h zl1 zl2 wl1 wl2 hb, fun op h => two_no (by omega) wl1 wl2 zl1 zl2 hb2, .inl ⟨rfl, rfl, two_no (by decide) wl1 wl2 zl1 zl2 hb2⟩⟩
  obtain ⟨d, hd1, hd2, hd3, hd4⟩ := hall
  clear hx hy
  simp only [encN] at hz hw ⊢
  generalize z.z.re = p at *
  generalize z.z.im = q at *
  generalize w.z.re = r at *
  generalize w.z.im = s at *
  refine pu4 (by simp) ?_
  simp -implicitDefEqProofs [ac4]
  refine pcK_of (awake10_c) (by simp) ?_
  simp -implicitDefEqProofs
  refine pcK_of (hz) (by simp) ?_
  simp -implicitDefEqProofs
  refine pcK_of (hw) (by simp) ?_
  simp -implicitDefEqProofs
  refine lp4_1 (α := Nat) (fun i _ => [(34, I i)]) (fun _ _ => []) (fun i m => i ≤ 3) (fun i => 3 - i) 0 (by omega) (by simp) (by simp) ?_
  intro i m hi
  have : i = 0 ∨ i = 1 ∨ i = 2 ∨ i = 3 := by omega
  have round : ∀ op, op = 8 ∨ op = 10 ∨ op = 12 → ∃ v e, Pure Try.prog 16 [I op, CX p q, CX r s] (.tup [.agg (encV v), I e]) ∧ Pure Try.prog 16 [I op, CX r s, CX p q] (.tup [.agg (encV v), I e]) ∧ Pure Try.prog 14 [.agg (encV v), .agg (encV v)] (B true) := fun op h => by
    obtain ⟨v, e, ho⟩ := hd1 op h
    have h1 := hd2 op (by omega)
    have h2 := hd3 op h
    rw [ho.1] at h1 h2
    exact ⟨v, e, h1, h2, ho.whole⟩
  rcases this with rfl | rfl | rfl | rfl
  · obtain ⟨v, e, h1, h2, h3⟩ := round 8 (by omega)
    simp only [encV] at h1 h2 h3
    simp -implicitDefEqProofs [lb4_1]
    refine pcK_of (h1) (by simp) ?_
    simp -implicitDefEqProofs
    refine pcK_of (h2) (by simp) ?_
    simp -implicitDefEqProofs
    refine pcK_of (h3) (by simp) ?_
    simp -implicitDefEqProofs
    exact again_of 1 (by omega) (by omega) (by simp [wi1]) (by simp)
  · obtain ⟨v, e, h1, h2, h3⟩ := round 10 (by omega)
    simp only [encV] at h1 h2 h3
    simp -implicitDefEqProofs [lb4_1]
    refine pcK_of (h1) (by simp) ?_
    simp -implicitDefEqProofs
    refine pcK_of (h2) (by simp) ?_
    simp -implicitDefEqProofs
    refine pcK_of (h3) (by simp) ?_
    simp -implicitDefEqProofs
    exact again_of 2 (by omega) (by omega) (by simp [wi2]) (by simp)
  · obtain ⟨v, e, h1, h2, h3⟩ := round 12 (by omega)
    simp only [encV] at h1 h2 h3
    simp -implicitDefEqProofs [lb4_1]
    refine pcK_of (h1) (by simp) ?_
    simp -implicitDefEqProofs
    refine pcK_of (h2) (by simp) ?_
    simp -implicitDefEqProofs
    refine pcK_of (h3) (by simp) ?_
    simp -implicitDefEqProofs
    exact again_of 3 (by omega) (by omega) (by simp [wi3]) (by simp)
  · clear round
    have t1 := hd2 12 (by omega)
    have t2 := hd2 13 (by omega)
    rcases hd4 with ⟨g1, g2, t3⟩ | ⟨a, b, c, g1, g2, t3, hc⟩
    · rw [g1] at t1
      rw [g2] at t2
      simp -implicitDefEqProofs [lb4_1]
      refine pcK_of (t1) (by simp) ?_
      simp -implicitDefEqProofs
      refine pcK_of (t2) (by simp) ?_
      simp -implicitDefEqProofs
      refine pcK_of (t3) (by simp) ?_
      simp -implicitDefEqProofs
    · rw [g1] at t1
      rw [g2] at t2
      have o1 := one_bool a
      have o2 := one_bool (!a)
      simp only [encV, rv] at o1 o2
      simp -implicitDefEqProofs [lb4_1]
      refine pcK_of (t1) (by simp) ?_
      simp -implicitDefEqProofs
      refine pcK_of (t2) (by simp) ?_
      simp -implicitDefEqProofs
      refine pcK_of (t3) (by simp) ?_
      simp -implicitDefEqProofs
      cases a <;> cases b <;> cases c <;> first | exact absurd hc (by decide) | skip
      all_goals
        simp only [Bool.not_true, Bool.not_false] at o1 o2
        clear hc
      · refine lp4_0 (α := Nat) (fun i _ => [(19, I (cnt false false true i)), (97, I i)]) (fun _ _ => [(m + 1 + 6, .box [I 2, CX 0 0, B false, .sl []])]) (fun i n => m + 1 + 9 < n ∧ i ≤ 3) (fun i => 3 - i) 0 ⟨by omega, by omega⟩ (by simp [cnt]) (memLe_skip (memLe_skip (memLe_refl _) (by simp [look])) (by simp [look])) ?_
        rintro i n ⟨hn, hi⟩
        have : i = 0 ∨ i = 1 ∨ i = 2 ∨ i = 3 := by omega
        rcases this with rfl | rfl | rfl | rfl
        · simp -implicitDefEqProofs [lb4_0, cnt, wi1, wi2, wi3, iaD]
          exact again_of 1 ⟨by omega, by omega⟩ (by omega) (by simp [cnt]) (memLe_skip (memLe_refl _) (by simp [look]; omega))
        · simp -implicitDefEqProofs [lb4_0, cnt, wi1, wi2, wi3, iaD]
          exact again_of 2 ⟨by omega, by omega⟩ (by omega) (by simp [cnt]) (memLe_skip (memLe_refl _) (by simp [look]; omega))
        · simp -implicitDefEqProofs [lb4_0, cnt, wi1, wi2, wi3, iaD]
          exact again_of 3 ⟨by omega, by omega⟩ (by omega) (by simp [cnt]) (memLe_skip (memLe_refl _) (by simp [look]; omega))
        · simp -implicitDefEqProofs [lb4_0, cnt, wi1, wi2, wi3]
          have e1 : ¬ n + 7 = m := by omega
          have e2 : ¬ n = m + 1 := by omega
          refine pcK_of (o1) (by simp) ?_
          simp -implicitDefEqProofs
          refine pcK_of (o2) (by simp) ?_
          simp -implicitDefEqProofs [e1, e2]
      · refine lp4_0 (α := Nat) (fun i _ => [(19, I (cnt false true false i)), (97, I i)]) (fun _ _ => [(m + 1 + 6, .box [I 2, CX 0 0, B false, .sl []])]) (fun i n => m + 1 + 9 < n ∧ i ≤ 3) (fun i => 3 - i) 0 ⟨by omega, by omega⟩ (by simp [cnt]) (memLe_skip (memLe_skip (memLe_refl _) (by simp [look])) (by simp [look])) ?_
        rintro i n ⟨hn, hi⟩
        have : i = 0 ∨ i = 1 ∨ i = 2 ∨ i = 3 := by omega
        rcases this with rfl | rfl | rfl | rfl
        · simp -implicitDefEqProofs [lb4_0, cnt, wi1, wi2, wi3, iaD]
          exact again_of 1 ⟨by omega, by omega⟩ (by omega) (by simp [cnt]) (memLe_skip (memLe_refl _) (by simp [look]; omega))
        · simp -implicitDefEqProofs [lb4_0, cnt, wi1, wi2, wi3, iaD]
          exact again_of 2 ⟨by omega, by omega⟩ (by omega) (by simp [cnt]) (memLe_skip (memLe_refl _) (by simp [look]; omega))
        · simp -implicitDefEqProofs [lb4_0, cnt, wi1, wi2, wi3, iaD]
          exact again_of 3 ⟨by omega, by omega⟩ (by omega) (by simp [cnt]) (memLe_skip (memLe_refl _) (by simp [look]; omega))
        · simp -implicitDefEqProofs [lb4_0, cnt, wi1, wi2, wi3]
          have e1 : ¬ n + 7 = m := by omega
          have e2 : ¬ n = m + 1 := by omega
          refine pcK_of (o1) (by simp) ?_
          simp -implicitDefEqProofs
          refine pcK_of (o2) (by simp) ?_
          simp -implicitDefEqProofs [e1, e2]
      · refine lp4_0 (α := Nat) (fun i _ => [(19, I (cnt true false false i)), (97, I i)]) (fun _ _ => [(m + 1 + 6, .box [I 2, CX 0 0, B true, .sl []])]) (fun i n => m + 1 + 9 < n ∧ i ≤ 3) (fun i => 3 - i) 0 ⟨by omega, by omega⟩ (by simp [cnt]) (memLe_skip (memLe_skip (memLe_refl _) (by simp [look])) (by simp [look])) ?_
        rintro i n ⟨hn, hi⟩
        have : i = 0 ∨ i = 1 ∨ i = 2 ∨ i = 3 := by omega
        rcases this with rfl | rfl | rfl | rfl
        · simp -implicitDefEqProofs [lb4_0, cnt, wi1, wi2, wi3, iaD]
          exact again_of 1 ⟨by omega, by omega⟩ (by omega) (by simp [cnt]) (memLe_skip (memLe_refl _) (by simp [look]; omega))
        · simp -implicitDefEqProofs [lb4_0, cnt, wi1, wi2, wi3, iaD]
          exact again_of 2 ⟨by omega, by omega⟩ (by omega) (by simp [cnt]) (memLe_skip (memLe_refl _) (by simp [look]; omega))
        · simp -implicitDefEqProofs [lb4_0, cnt, wi1, wi2, wi3, iaD]
          exact again_of 3 ⟨by omega, by omega⟩ (by omega) (by simp [cnt]) (memLe_skip (memLe_refl _) (by simp [look]; omega))
        · simp -implicitDefEqProofs [lb4_0, cnt, wi1, wi2, wi3]
          have e1 : ¬ n + 7 = m := by omega
          have e2 : ¬ n = m + 1 := by omega
          refine pcK_of (o1) (by simp) ?_
          simp -implicitDefEqProofs
          refine pcK_of (o2) (by simp) ?_
          simp -implicitDefEqProofs [e1, e2]
end Go.Fx.Ytaiklblnfebdfaa

/-
  Layer 10: the statements' own helpers; PrimApplies.
-/
import Derived.Test.YtaiklblnfebdfaaCodeL10
import Derived.Test.YtaiklblnfebdfaaPs
import Derived.Test.YtaiklblnfebdfaaXE
set_option linter.all false
namespace Go.Fx.Ytaiklblnfebdfaa
open Go Go.Fx Go.Proofs Go.Fx.Flt
theorem number10_c (a b : Nat) : Pure Try.prog 18 [CX a b] (.agg (encV (rv 1 a b false))) := by
  refine pu18 (by simp) ?_
  simp -implicitDefEqProofs [ac18, encV, rv]
theorem rv_lt {t : Int} {a b : Nat} {o : Bool} (ha : a < 2 ^ 64) (hb : b < 2 ^ 64) : (rv t a b o).lt := ⟨⟨ha, hb⟩, fun z hz => by simp [rv] at hz, by simp [rv]⟩
theorem two10_c (op : Int) {a b c d : Nat} (ha : a < 2 ^ 64) (hb : b < 2 ^ 64) (hc : c < 2 ^ 64) (hd : d < 2 ^ 64) : Pure Try.prog 16 [I op, CX a b, CX c d] (applyD op [rv 1 a b false, rv 1 c d false]) := by
  have hl : ∀ v ∈ [rv 1 a b false, rv 1 c d false], v.lt := fun v hv => by
    simp only [List.mem_cons, List.not_mem_nil, or_false] at hv
    rcases hv with rfl | rfl
    · exact rv_lt ha hb
    · exact rv_lt hc hd
  have hap := Apply_c op [rv 1 a b false, rv 1 c d false] hl (by simp)
  obtain ⟨v, e, ho, _, hv0, _⟩ := out_apply op _ hl
  rw [ho] at hap ⊢
  have n1 := number10_c a b
  have n2 := number10_c c d
  simp only [em, List.map, encV, rv, hv0] at hap n1 n2 ⊢
  refine pu16 (by simp) ?_
  simp -implicitDefEqProofs [ac16]
  refine pcK_of (n1) (by simp) ?_
  simp -implicitDefEqProofs
  refine pcK_of (n2) (by simp) ?_
  simp -implicitDefEqProofs
  refine pcK_of (hap) (by simp) ?_
  simp -implicitDefEqProofs
theorem one10_c (op : Int) (v : Vl) (hv : v.lt) (h0 : v.list = []) : Pure Try.prog 17 [I op, .agg (encV v)] (applyD op [v]) := by
  have hl : ∀ w ∈ [v], w.lt := fun w hw => by simp only [List.mem_singleton] at hw; subst hw; exact hv
  have hap := Apply_c op [v] hl (by simp)
  obtain ⟨r, e, ho, _, hv0, _⟩ := out_apply op _ hl
  rw [ho] at hap ⊢
  simp only [em, List.map, encV, hv0, h0] at hap ⊢
  refine pu17 (by simp) ?_
  simp -implicitDefEqProofs [ac17]
  refine pcK_of (hap) (by simp) ?_
  simp -implicitDefEqProofs
theorem Fi_2 : Fi 2 = 4611686018427387904 := by decide
theorem Fi_1 : Fi 1 = 4607182418800017408 := by decide
theorem Fi_3 : Fi 3 = 4613937818241073152 := by decide
theorem Fi_7 : Fi 7 = 4619567317775286272 := by decide
theorem Fi_m2 : Fi (-2) = 13835058055282163712 := by decide
theorem awake10_c : Pure Try.prog 8 [] (B true) := by
  have hl : ∀ a b c d : Int, inb a = true → inb b = true → inb c = true → inb d = true → ∀ v ∈ [rv 1 (Fi a) (Fi b) false, rv 1 (Fi c) (Fi d) false], v.lt := fun a b c d ha hb hc hd v hv => by
    simp only [List.mem_cons, List.not_mem_nil, or_false] at hv
    rcases hv with rfl | rfl
    · exact rv_lt (Fi_lt (inb_lt ha)) (Fi_lt (inb_lt hb))
    · exact rv_lt (Fi_lt (inb_lt hc)) (Fi_lt (inb_lt hd))
  have a1 := Apply_c 9 _ (hl 2 1 0 3 (by decide) (by decide) (by decide) (by decide)) (by decide)
  have a2 := Apply_c 11 _ (hl 7 0 2 0 (by decide) (by decide) (by decide) (by decide)) (by decide)
  rw [ap_two (by decide) (by decide) (by decide) (by decide) (by decide)] at a1 a2
  have e1 : opD 9 2 1 0 3 = rs 1 (Fi 2) (Fi (-2)) false 0 := by
    show nmR (2 - 0) (1 - 3) = _
    rw [(numD_yes (by decide)).2.1]; rfl
  have e2 : opD 11 7 0 2 0 = rs 0 0 0 false 51 := by
    show (if quoBad 7 0 2 0 then rs 0 0 0 false 51 else nmR ((qX 7 0 2 0).tdiv (qN 2 0)) ((qY 7 0 2 0).tdiv (qN 2 0))) = _
    rw [if_pos]
    right; left; decide
  rw [e1] at a1
  rw [e2] at a2
  have n1 := number10_c (Fi 2) (Fi 1)
  have n2 := number10_c 0 (Fi 3)
  have n3 := number10_c (Fi 7) 0
  have n4 := number10_c (Fi 2) 0
  have q1 : eqF 4611686018427387904 4611686018427387904 = true := by rw [← Fi_2, eqF_Fi (by decide) (by decide)]; rfl
  have q2 : eqF 13835058055282163712 13835058055282163712 = true := by rw [← Fi_m2, eqF_Fi (by decide) (by decide)]; rfl
  have t9 := Takes_c 14
  have k1 : tkN 14 = 1 := by decide
  have k2 : tkT 14 = 2 := by decide
  rw [k1, k2] at t9
  simp only [em, List.map, encV, rv, Fi_0, Fi_1, Fi_2, Fi_3, Fi_7, Fi_m2] at a1 a2 n1 n2 n3 n4
  refine pu8 (by simp) ?_
  simp -implicitDefEqProofs [ac8]
  refine pcK_of (n1) (by simp) ?_
  simp -implicitDefEqProofs
  refine pcK_of (n2) (by simp) ?_
  simp -implicitDefEqProofs
  refine pcK_of (a1) (by simp) ?_
  simp -implicitDefEqProofs
  refine pcK_of (n3) (by simp) ?_
  simp -implicitDefEqProofs
  refine pcK_of (n4) (by simp) ?_
  simp -implicitDefEqProofs
  refine pcK_of (a2) (by simp) ?_
  simp -implicitDefEqProofs
  refine pcK_of (t9) (by simp) ?_
  simp -implicitDefEqProofs [q1, q2]
theorem wt_Vals {n : Nat} {ds : List D} (h : Wt Try.prog n 22 ds) : ∃ l : List Vi, ds = [.sl (em encVi l)] ∧ l.length * 64 ≤ 2 ^ 47 ∧ ∀ v ∈ l, v.lt := by
  cases n with
  | zero => exact h.elim
  | succ n =>
    simp only [Wt, Try.underlying22] at h
    obtain ⟨es, rfl, hl, he⟩ := h
    obtain ⟨l, rfl, hp⟩ := lift_em (enc := encVi) (p := fun v => v.lt) fun c hc => by
      obtain ⟨v, h1, h2, _⟩ := wt_Val (he c hc)
      exact ⟨v, h1, h2⟩
    refine ⟨l, rfl, ?_, hp⟩
    have hb : Try.prog.bytesOf 37 = 64 := by kernel_rfl
    rw [hb, em_len] at hl
    unfold reachBytes at hl
    omega
theorem arg_Vals {x : D} (h : Arg Try.prog 22 x) : ∃ l : List Vi, x = .sl (em encVi l) ∧ l.length * 64 ≤ 2 ^ 47 ∧ ∀ v ∈ l, v.lt := by
  obtain ⟨n, ds, h, k⟩ := h
  simp only [Try.underlying22] at k
  obtain ⟨l, rfl, h1, h2⟩ := wt_Vals h
  simp only [List.cons.injEq, and_true] at k
  exact ⟨l, k.symm, h1, h2⟩
instance : Inhabited Nm := ⟨⟨0, 0, false⟩⟩
theorem ia_Vi {l : List Vi} {mem : Mem} {j : IntKind} {i : Int} : iaD mem 6 (.sl (em encVi l)) (.pl (.int j i)) = if 0 ≤ i ∧ i < l.length then some (.pt [I (l[i.toNat]?.getD default).ty, I (l[i.toNat]?.getD default).num.re, I (l[i.toNat]?.getD default).num.im, B (l[i.toNat]?.getD default).num.raw, B (l[i.toNat]?.getD default).bool, .sl (em encN (l[i.toNat]?.getD default).list)]) else none := em_ia fun _ => rfl
theorem imm_Vi (l : List Vi) : D.immss (em encVi l) = true := em_imm fun v => by unfold encVi; simp
theorem app_V (l : List Vl) (v : Vl) : em encV l ++ [encV v] = em encV (l ++ [v]) := em_app
attribute [simp] ia_Vi imm_Vi
end Go.Fx.Ytaiklblnfebdfaa

/-
  Values: the values that the statements hand in.
-/
import Derived.Test.YtaiklblnfebdfaaVa
set_option linter.all false
namespace Go.Fx.Ytaiklblnfebdfaa
open Go Go.Fx Go.Proofs Go.Fx.Flt
structure Vi where
  ty : Int
  num : Nm
  bool : Bool
  list : List Nm
deriving Inhabited
def encVi (v : Vi) : List D := [I v.ty, I v.num.re, I v.num.im, B v.num.raw, B v.bool, .sl (em encN v.list)]
def Nm.z (n : Nm) : Cx := ⟨zb n.raw n.re, zb n.raw n.im⟩
def Vi.v (v : Vi) : Vl := ⟨v.ty, v.num.z, v.bool, v.list.map Nm.z⟩
def Vi.lt (v : Vi) : Prop := v.list.length * 24 ≤ 2 ^ 47
theorem Nm.z_lt (n : Nm) : n.z.lt := ⟨zb_lt _ _, zb_lt _ _⟩
theorem Vi.v_lt {v : Vi} (h : v.lt) : v.v.lt := by
  refine ⟨Nm.z_lt _, fun z hz => ?_, ?_⟩
  · obtain ⟨n, _, rfl⟩ := List.mem_map.1 hz
    exact Nm.z_lt n
  · unfold Vi.lt at h
    simp only [Vi.v, List.length_map]; omega
theorem ia_N {l : List Nm} {mem : Mem} {j : IntKind} {i : Int} : iaD mem 3 (.sl (em encN l)) (.pl (.int j i)) = if 0 ≤ i ∧ i < l.length then some (.pt [I (l[i.toNat]?.getD default).re, I (l[i.toNat]?.getD default).im, B (l[i.toNat]?.getD default).raw]) else none := em_ia fun _ => rfl
theorem imm_N (l : List Nm) : D.immss (em encN l) = true := em_imm fun _ => rfl
attribute [simp] ia_N imm_N
theorem ZC (n : Nm) : Pure Try.prog 15 [.agg [I n.re, I n.im, B n.raw]] (CX n.z.re n.z.im) := Z_c n

theorem V_c (v : Vi) (hv : v.lt) : Pure Try.prog 11 [.agg (encVi v)] (.agg (encV v.v)) := by
  unfold Vi.lt at hv
  refine pu11 (by simp) ?_
  simp -implicitDefEqProofs [ac11, encVi]
  refine pcK_of (ZC v.num) (by simp) ?_
  simp -implicitDefEqProofs
  refine A_loop_ownM (id := 10) (off := 3) (k := 1) rfl rfl (.inl rfl) ?_
  refine lp11_0 (α := Nat) (fun i _ => [(4, I i)])
    (fun i _ => [(13, .arr i 1 (em encC ((v.list.take i).map Nm.z))), (10, .box [I v.ty, CX v.num.z.re v.num.z.im, B v.bool, .osl 13 i 0 i]), (1, .box [I 0, CX 0 0, B false, .pl (.slice none 0 0)])])
    (fun i m => 13 < m ∧ i ≤ v.list.length) (fun i => v.list.length - i) 0 ⟨by omega, by omega⟩ (by simp) (by simp) ?_
  rintro i m ⟨hm, hi⟩
  simp -implicitDefEqProofs [lb11_0]
  refine ⟨fun hlt => ?_, fun hge => ?_⟩
  · refine ⟨hlt, ?_⟩
    refine pcK_of (ZC _) (by simp) ?_
    simp -implicitDefEqProofs
    rw [wr64 (by omega) (by omega)]
    have hem : min i v.list.length = i := by omega
    have hg : v.list[i]?.getD default = v.list[i] := by rw [List.getElem?_eq_getElem hlt]; rfl
    have hlt2 : i < (v.list.map Nm.z).length := by simpa using hlt
    have ht : (v.list.map Nm.z).take (i + 1) = (v.list.map Nm.z).take i ++ [v.list[i].z] := by
      rw [List.take_succ_eq_append_getElem hlt2, List.getElem_map]
    refine ⟨by omega, ?_⟩
    refine again_of (i + 1) ⟨by omega, by omega⟩ (by omega) (by simp) ?_
    rw [hg, List.take_take, Nat.min_self, ht]
    simp
  · have hie : i = v.list.length := by omega
    have ht : List.take i (v.list.map Nm.z) = v.list.map Nm.z := List.take_of_length_le (by simp; omega)
    rw [ht, List.take_of_length_le (by simp; omega), hie, Nat.min_self, if_pos (Nat.le_refl _)]
    rfl

/-! #### As arguments -/
theorem wt_bool {n : Nat} {ds : List D} (h : Wt Try.prog n 4 ds) : ∃ b, ds = [B b] := by
  cases n with
  | zero => exact h.elim
  | succ n => simpa only [Wt, Try.underlying4] using h
theorem wt_Num {n : Nat} {ds : List D} (h : Wt Try.prog n 34 ds) : ∃ z : Nm, ds = encN z ∧ True := by
  cases n with
  | zero => exact h.elim
  | succ n =>
    simp only [Wt, Try.underlying34, WtS, List.map] at h
    obtain ⟨c, r, rfl, h1, c2, r2, rfl, h2, c3, r3, rfl, h3, rfl⟩ := h
    obtain ⟨a, rfl, _⟩ := wt_i64 h1
    obtain ⟨b, rfl, _⟩ := wt_i64 h2
    obtain ⟨w, rfl⟩ := wt_bool h3
    exact ⟨⟨a, b, w⟩, rfl, trivial⟩
theorem wt_Nums {n : Nat} {ds : List D} (h : Wt Try.prog n 35 ds) : ∃ l : List Nm, ds = [.sl (em encN l)] ∧ l.length * 24 ≤ 2 ^ 47 := by
  cases n with
  | zero => exact h.elim
  | succ n =>
    simp only [Wt, Try.underlying35] at h
    obtain ⟨es, rfl, hl, he⟩ := h
    obtain ⟨l, rfl, _⟩ := lift_em (enc := encN) (p := fun _ => True) fun c hc => wt_Num (he c hc)
    refine ⟨l, rfl, ?_⟩
    have hb : Try.prog.bytesOf 34 = 24 := by kernel_rfl
    rw [hb, em_len] at hl
    unfold reachBytes at hl
    omega
theorem wt_Val {n : Nat} {ds : List D} (h : Wt Try.prog n 37 ds) : ∃ v : Vi, ds = encVi v ∧ v.lt ∧ (Lit.int .i64 v.ty).wf = true := by
  cases n with
  | zero => exact h.elim
  | succ n =>
    simp only [Wt, Try.underlying37, WtS, List.map] at h
    obtain ⟨c, r, rfl, h1, c2, r2, rfl, h2, c3, r3, rfl, h3, c4, r4, rfl, h4, rfl⟩ := h
    obtain ⟨a, rfl, ha⟩ := wt_i64 h1
    obtain ⟨z, rfl, _⟩ := wt_Num h2
    obtain ⟨w, rfl⟩ := wt_bool h3
    obtain ⟨l, rfl, hl⟩ := wt_Nums h4
    exact ⟨⟨a, z, w, l⟩, rfl, hl, ha⟩
end Go.Fx.Ytaiklblnfebdfaa

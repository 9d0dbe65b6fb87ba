/-
  Same and Whole of a value with itself; what operations come to.
-/
import Derived.Test.YtaiklblnfebdfaaPb
set_option linter.all false
namespace Go.Fx.Ytaiklblnfebdfaa
open Go Go.Fx Go.Proofs Go.Fx.Flt
def rv (t : Int) (a b : Nat) (o : Bool) : Vl := ⟨t, ⟨a, b⟩, o, []⟩
theorem Vl.plain {v : Vl} (h : v.ok = true) : v.num.ok = true := by
  unfold Vl.ok at h
  split at h
  · simp only [Bool.and_eq_true] at h; exact h.1
  · split at h
    · simp only [Bool.and_eq_true] at h; exact h.1
    · split at h
      · simp only [Bool.and_eq_true] at h; exact h.1
      · simp at h
theorem eqF_self {b : Nat} (hb : b < 2 ^ 64) (h : plainB b = true) : eqF b b = true := by
  have p := plain_Pl hb h
  have w := isW_Pl p
  rw [eqF_W w w]; simp
theorem Same_r (v : Vl) (hv : v.lt) (h1 : v.list = []) (hok : v.ok = true) : Pure Try.prog 19 [.agg (encV v), .agg (encV v)] (B true) := by
  have hval := RefValid_c v hv
  rw [hok] at hval
  have hp := Vl.plain hok
  simp only [Cx.ok, Bool.and_eq_true] at hp
  have e1 := eqF_self hv.1.1 hp.1
  have e2 := eqF_self hv.1.2 hp.2
  unfold encV at hval ⊢
  rw [h1] at hval ⊢
  refine pu19 (by simp) ?_
  simp -implicitDefEqProofs [ac19]
  refine pcK_of (hval) (by simp) ?_
  simp -implicitDefEqProofs
  refine pcK_of (hval) (by simp) ?_
  simp -implicitDefEqProofs [e1, e2]
  refine lp19_0 (α := Unit) (fun _ _ => [(5, I 0)]) (fun _ _ => []) (fun _ _ => True) (fun _ => 0) () trivial (by simp) (by simp) ?_
  rintro _ nx _
  simp -implicitDefEqProofs [lb19_0]
theorem Whole_r (v : Vl) (hv : v.lt) (h1 : v.list = []) (hok : v.ok = true) : Pure Try.prog 14 [.agg (encV v), .agg (encV v)] (B true) := by
  have hs := Same_r v hv h1 hok
  have ht : ¬ v.ty = 0 := by
    intro h
    unfold Vl.ok at hok
    rw [h] at hok
    simp at hok
  unfold encV at hs ⊢
  rw [h1] at hs ⊢
  refine pu14 (by simp) ?_
  simp -implicitDefEqProofs [ac14, ht]
  refine pcK_of (hs) (by simp) ?_
  simp -implicitDefEqProofs
theorem Whole_z : Pure Try.prog 14 [.agg (encV (rv 0 0 0 false)), .agg (encV (rv 0 0 0 false))] (B true) := by
  have h00 : eqF 0 0 = true := by decide
  refine pu14 (by simp) ?_
  simp -implicitDefEqProofs [ac14, encV, rv, h00]
/-- What an operation may come to: a right value, or none. -/
def Out (d : D) (v : Vl) (e : Int) : Prop := d = .tup [.agg (encV v), I e] ∧ v.lt ∧ v.list = [] ∧ (v.ok = true ∨ v = rv 0 0 0 false)
theorem Out.whole {d : D} {v : Vl} {e : Int} (h : Out d v e) : Pure Try.prog 14 [.agg (encV v), .agg (encV v)] (B true) := by
  obtain ⟨_, h1, h2, h3 | rfl⟩ := h
  · exact Whole_r v h1 h2 h3
  · exact Whole_z
theorem rs_V (t : Int) (a b : Nat) (o : Bool) (e : Int) : rs t a b o e = .tup [.agg (encV (rv t a b o)), I e] := rfl
theorem out_no (e : Int) : Out (rs 0 0 0 false e) (rv 0 0 0 false) e := ⟨rfl, ⟨⟨by decide, by decide⟩, fun z hz => by simp [rv] at hz, by decide⟩, rfl, .inr rfl⟩
theorem inb_nat {n : Int} (h : inb n = true) : n.natAbs < 2 ^ 53 := inb_lt h
theorem out_num {n m : Int} (hn : inb n = true) (hm : inb m = true) : Out (rs 1 (Fi n) (Fi m) false 0) (rv 1 (Fi n) (Fi m) false) 0 := by
  refine ⟨rfl, ⟨⟨Fi_lt (inb_lt hn), Fi_lt (inb_lt hm)⟩, fun z hz => by simp [rv] at hz, by simp [rv]⟩, rfl, .inl ?_⟩
  simp [Vl.ok, rv, Cx.ok, plain_Fi (inb_lt hn), plain_Fi (inb_lt hm), hn, hm]
theorem out_bool (b : Bool) : Out (rs 2 0 0 b 0) (rv 2 0 0 b) 0 := by
  refine ⟨rfl, ⟨⟨by simp [rv], by simp [rv]⟩, fun z hz => by simp [rv] at hz, by simp [rv]⟩, rfl, .inl ?_⟩
  have h0 : plainB 0 = true := by have := plain_Fi (n := 0) (by decide); rw [Fi_0] at this; rw [this]; decide
  have h00 : eqF 0 0 = true := by decide
  simp [Vl.ok, rv, Cx.ok, Cx.nought, h0, h00]
theorem out_nm (n m : Int) : ∃ v e, Out (nmR n m) v e := by
  cases hk : inb n && inb m
  · rw [(numD_no hk).2.1]; exact ⟨_, _, out_no 50⟩
  · rw [(numD_yes hk).2.1]
    simp only [Bool.and_eq_true] at hk
    exact ⟨_, _, out_num hk.1 hk.2⟩
theorem out_op (op x y u v : Int) : ∃ w e, Out (opD op x y u v) w e := by
  unfold opD
  repeat' split
  all_goals first | exact out_nm _ _ | exact ⟨_, _, out_no _⟩ | exact ⟨_, _, out_bool _⟩
theorem out_apply (op : Int) (l : List Vl) (hl : ∀ v ∈ l, v.lt) : ∃ v e, Out (applyD op l) v e := by
  unfold applyD
  by_cases hf : fit op l
  · rw [if_pos hf]
    unfold fnD
    by_cases c1 : 8 ≤ op ∧ op ≤ 13
    · rw [if_pos c1]; exact out_op ..
    · rw [if_neg c1]
      by_cases c2 : op = 14
      · rw [if_pos c2]; exact ⟨_, _, out_bool _⟩
      · rw [if_neg c2]
        obtain ⟨h0, h1, h2⟩ := hf
        have c3 : 15 ≤ op ∧ op ≤ 17 := by
          unfold tkN at h0
          rw [if_neg c1, if_neg c2] at h0
          by_cases c3 : 15 ≤ op ∧ op ≤ 17
          · exact c3
          · rw [if_neg c3] at h0; exact absurd rfl h0
        have hN : tkN op = 1 := by unfold tkN; rw [if_neg c1, if_neg c2, if_pos c3]
        have hT : tkT op = 1 := by unfold tkT; rw [if_neg c1, if_neg c2, if_pos c3]
        have hpos : 0 < l.length := by omega
        have hm : l[0]?.getD default ∈ l := by
          rw [List.getElem?_eq_getElem hpos]; exact List.getElem_mem hpos
        have a1 := h2 _ hm
        rw [hT] at a1
        obtain ⟨e1, e2, i1, i2⟩ := num_of (hl _ hm) a1
        have i0 : inb 0 = true := by decide
        by_cases c4 : op = 15
        · rw [if_pos c4, ← Fi_0]; exact ⟨_, _, out_num i1 i0⟩
        · rw [if_neg c4]
          by_cases c5 : op = 16
          · rw [if_pos c5, ← Fi_0]; exact ⟨_, _, out_num i2 i0⟩
          · rw [if_neg c5]; exact ⟨_, _, out_num i1 (neg_in i2)⟩
  · rw [if_neg hf]; exact ⟨_, _, out_no 3⟩
/-- Numbers as operands. -/
theorem one_num {a b : Nat} (ha : a < 2 ^ 64) (hb : b < 2 ^ 64) : one 1 (rv 1 a b false) = (plainB a && plainB b) := by
  simp [one, rv, Vl.ok, Cx.ok]
theorem nx_Fi {x : Int} (h : inb x = true) {t : Int} {b : Nat} {o : Bool} : nx (rv t (Fi x) b o) = x := nv_Fi (inb_lt h)
theorem ny_Fi {x : Int} (h : inb x = true) {t : Int} {a : Nat} {o : Bool} : ny (rv t a (Fi x) o) = x := nv_Fi (inb_lt h)
theorem ap_two {op x y u v : Int} (h : 8 ≤ op ∧ op ≤ 13) (hx : inb x = true) (hy : inb y = true) (hu : inb u = true) (hv : inb v = true) : applyD op [rv 1 (Fi x) (Fi y) false, rv 1 (Fi u) (Fi v) false] = opD op x y u v := by
  have hN : tkN op = 2 := by unfold tkN; rw [if_pos h]
  have hT : tkT op = 1 := by unfold tkT; rw [if_pos h]
  have hf : fit op [rv 1 (Fi x) (Fi y) false, rv 1 (Fi u) (Fi v) false] := by
    refine ⟨by omega, by rw [hN]; rfl, fun w hw => ?_⟩
    rw [hT]
    simp only [List.mem_cons, List.not_mem_nil, or_false] at hw
    rcases hw with rfl | rfl
    · rw [one_num (Fi_lt (inb_lt hx)) (Fi_lt (inb_lt hy)), plain_Fi (inb_lt hx), plain_Fi (inb_lt hy), hx, hy]; rfl
    · rw [one_num (Fi_lt (inb_lt hu)) (Fi_lt (inb_lt hv)), plain_Fi (inb_lt hu), plain_Fi (inb_lt hv), hu, hv]; rfl
  unfold applyD
  rw [if_pos hf]
  unfold fnD
  rw [if_pos h]
  show opD op (nx (rv 1 (Fi x) (Fi y) false)) (ny (rv 1 (Fi x) (Fi y) false)) (nx (rv 1 (Fi u) (Fi v) false)) (ny (rv 1 (Fi u) (Fi v) false)) = _
  rw [nx_Fi hx, ny_Fi hy, nx_Fi hu, ny_Fi hv]
theorem ap_no {op : Int} {l : List Vl} {v : Vl} (hv : v ∈ l) (h : one (tkT op) v = false) : applyD op l = rs 0 0 0 false 3 := by
  unfold applyD
  rw [if_neg]
  intro hf
  have := hf.2.2 v hv
  rw [h] at this; simp at this
end Go.Fx.Ytaiklblnfebdfaa

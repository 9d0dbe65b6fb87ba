/-
  Layer 7: read, awake, and TypesChecks.
-/
import Derived.Test.YthbainhddfajfaaCodeL7
import Derived.Test.YthbainhddfajfaaRfA
import Derived.Test.YthbainhddfajfaaK0
set_option linter.all false
set_option maxRecDepth 100000
set_option maxHeartbeats 4000000
namespace Go.Fx.Ythbainhddfajfaa
open Go Go.Fx Go.Proofs Go.Fx.Flt
theorem read_at (t : List UInt8) (ht : t.length ≤ 32768) (hm : (marksL t).2 < 0) {n : Nat} (hN : n ≤ 2 ^ 40) {L : List Fn} {q : Rd} (hp : progF n [] (rd0 t 32768 32768 32768 32768) = some (L, q)) (hw : q.why = 0) (hlt : q.at' < (marksL t).1.length) : ReadAs t L 0 0 := by
  have hk := rd0_ok (t := t) (lt := 32768) (lF := 32768) (lA := 32768) (lN := 32768) (by omega) hm (by decide)
  have hc := Parse_ok t ht hm hN hp
  rw [if_pos hw] at hc
  obtain ⟨g1, g2, k, g3, g4, g5⟩ := made_prog _ _ _ L q hp hw
  simp only [List.nil_append] at g3
  subst g3
  refine ⟨hc, fun _ => ⟨(marksL t).1, 0, q.at', hk.ms, hk.len, ?_, hlt, g4, g5 rfl⟩, fun h => absurd rfl h⟩
  exact marksF_rising _ t 0 [] (by omega) (fun i j _ h => by simp at h) (fun i h => by simp at h) hm
def t1 : List UInt8 := [102, 40, 120, 32, 78, 41, 58, 66, 61, 120, 61, 61, 49, 59]
def t2 : List UInt8 := [102, 40, 120, 32, 66, 41, 58, 78, 61, 120, 43, 49, 59]
theorem tt1 : (marksL t1).2 < 0 := by decide
def r1 : List Fn × Rd := (progF 40 [] (rd0 t1 32768 32768 32768 32768)).getD ([], rd0 t1 32768 32768 32768 32768)
def r2 : List Fn × Rd := (progF 40 [] (rd0 t2 32768 32768 32768 32768)).getD ([], rd0 t2 32768 32768 32768 32768)
theorem some_getD {α : Type} {o : Option α} {d : α} (h : o.isSome = true) : o = some (o.getD d) := by
  cases o with
  | none => simp at h
  | some x => rfl
theorem pp1 : progF 40 [] (rd0 t1 32768 32768 32768 32768) = some (r1.1, r1.2) := some_getD (d := ([], rd0 t1 32768 32768 32768 32768)) (by decide)
theorem pp2 : progF 40 [] (rd0 t2 32768 32768 32768 32768) = some (r2.1, r2.2) := some_getD (d := ([], rd0 t2 32768 32768 32768 32768)) (by decide)
theorem read1 : ReadAs t1 r1.1 0 0 := read_at t1 (by decide) (by decide) (n := 40) (by decide) pp1 (by decide) (by decide)
theorem read2 : ReadAs t2 r2.1 0 0 := read_at t2 (by decide) (by decide) (n := 40) (by decide) pp2 (by decide) (by decide)
theorem ty1 : typesF r1.1 = (0, 0) := by decide
theorem ty2 : typesF r2.1 = (34, 9) := by decide
theorem len1 : r1.1.length = 1 := by decide
theorem of1 : ofF r1.1 (r1.1[0]?.getD default).params (r1.1[0]?.getD default).body = (2, 0) := by decide
theorem read_c {t : List UInt8} {L : List Fn} {w p : Int} (h : ReadAs t L w p) : Pure Try.prog 9 [.sl (em encB t)] (.tup [.agg [.sl (em encFn L)], .pl (.bool (decide (w = 0)))]) := by
  refine pu9 (by simp) ?_
  simp -implicitDefEqProofs [ac9]
  refine pcK_of (wide_c) (by simp) ?_
  simp -implicitDefEqProofs
  refine pcK_of (h.1) (by simp) ?_
  simp -implicitDefEqProofs
theorem lit1 : em encB t1 = [[By 102], [By 40], [By 120], [By 32], [By 78], [By 41], [By 58], [By 66], [By 61], [By 120], [By 61], [By 61], [By 49], [By 59]] := rfl
theorem lit2 : em encB t2 = [[By 102], [By 40], [By 120], [By 32], [By 66], [By 41], [By 58], [By 78], [By 61], [By 120], [By 43], [By 49], [By 59]] := rfl
theorem eqFault {a b c d : Int} : binD Try.prog .eql 31 (.agg [I a, I b]) (.agg [I c, I d]) = some (.pl (.bool (decide (a = c ∧ b = d)))) := by
  refine (bin_eqlS (vs := [.int .i64 a, .int .i64 b]) (us := [.int .i64 c, .int .i64 d]) Try.underlying31 (by kernel_rfl) (by kernel_rfl) rfl rfl ?_).1
  simp [eqFs, scal, Try.underlying29, Try.underlying3]
  rw [Bool.eq_iff_iff]; simp
theorem awake_c : Pure Try.prog 8 [] (.pl (.bool true)) := by
  refine pu8 (by simp) ?_
  have h1 := read_c read1
  have h2 := read_c read2
  have k1 := read1.2.1 rfl
  have k2 := read2.2.1 rfl
  have c1 := types_c (scope_ok k1).1 (prog_sh k1).2.1 (prog_sh k1).2.2
  have c2 := types_c (scope_ok k2).1 (prog_sh k2).2.1 (prog_sh k2).2.2
  rw [ty1] at c1
  rw [ty2] at c2
  have hl1 : 0 < r1.1.length := by rw [len1]; decide
  have hmem : (r1.1[0]?.getD default) ∈ r1.1 := by rw [List.getElem?_eq_getElem hl1]; exact List.getElem_mem hl1
  have hz := (prog_sh k1).2.2 _ hmem
  have o1 := Of_c r1.1 (r1.1[0]?.getD default).params (r1.1[0]?.getD default).body (prog_sh k1).2.1 (by omega) hz.2.2
  rw [of1] at o1
  simp only [encEx_eq] at o1
  have hf2 : r1.1[0] = (r1.1[0]?.getD default) := by rw [List.getElem?_eq_getElem hl1]; rfl
  generalize hf1 : (r1.1[0]?.getD default) = f1 at *
  generalize r1.1 = L1 at *
  generalize r2.1 = L2 at *
  rw [lit1] at h1
  rw [lit2] at h2
  have hd0 : decide ((0 : Int) = 0) = true := rfl
  rw [hd0] at h1 h2
  simp -implicitDefEqProofs [ac8]
  refine pcK_of h1 (by simp) ?_
  simp -implicitDefEqProofs
  refine pcK_of h2 (by simp) ?_
  simp -implicitDefEqProofs [hf1, hf2, hl1]
  refine pcK_of (o1) (by simp) ?_
  simp -implicitDefEqProofs
  refine pcK_of (c1) (by simp) ?_
  simp -implicitDefEqProofs [eqFault]
  refine pcK_of (c2) (by simp) ?_
  simp -implicitDefEqProofs [eqFault]
theorem wt_u8 {n : Nat} {ds : List D} (h : Wt Try.prog n 5 ds) : ∃ b : UInt8, ds = encB b ∧ True := by
  cases n with
  | zero => exact h.elim
  | succ n =>
    simp only [Wt, Try.underlying5] at h
    obtain ⟨z, rfl, hz⟩ := h
    simp [Lit.wf, IntKind.min, IntKind.max, IntKind.signed, IntKind.bits] at hz
    refine ⟨UInt8.ofNat z.toNat, ?_, trivial⟩
    unfold encB
    have : (((UInt8.ofNat z.toNat).toNat : Nat) : Int) = z := by
      rw [UInt8.toNat_ofNat']
      omega
    rw [this]
theorem wt_bytes {n : Nat} {ds : List D} (h : Wt Try.prog n 22 ds) : ∃ l : List UInt8, ds = [.sl (em encB l)] ∧ l.length < 2 ^ 48 := by
  cases n with
  | zero => exact h.elim
  | succ n =>
    simp only [Wt, Try.underlying22] at h
    obtain ⟨es, rfl, hl, he⟩ := h
    obtain ⟨l, rfl, _⟩ := lift_em (enc := encB) (p := fun _ => True) fun c hc => wt_u8 (he c hc)
    refine ⟨l, rfl, ?_⟩
    have hb : Try.prog.bytesOf 5 = 1 := by kernel_rfl
    rw [hb, em_len] at hl
    unfold reachBytes at hl
    omega
theorem arg_bytes {x : D} (h : Arg Try.prog 22 x) : ∃ l : List UInt8, x = .sl (em encB l) ∧ l.length < 2 ^ 48 := by
  obtain ⟨n, ds, h, k⟩ := h
  simp only [Try.underlying22] at k
  obtain ⟨l, rfl, h1⟩ := wt_bytes h
  simp only [List.cons.injEq, and_true] at k
  exact ⟨l, k.symm, h1⟩
theorem law_TypesChecks : ∀ xs, Args Try.prog Try.f3.params.toList xs → Pure Try.prog 3 xs (B true) := by
  intro xs h
  rw [Try.params3] at h
  simp only [Args] at h
  obtain ⟨x, r, rfl, hx, rfl⟩ := h
  obtain ⟨t, rfl, ht⟩ := arg_bytes hx
  obtain ⟨L, w, p, hr⟩ := read_as t ht
  have hc := read_c hr
  refine pu3 (by simp) ?_
  by_cases hw : w = 0
  · have hk := hr.2.1 hw
    have k1 := types_c (scope_ok hk).1 (prog_sh hk).2.1 (prog_sh hk).2.2
    have k2 := rtypes_c (scope_ok hk).2 (prog_sh hk).2.1 (prog_sh hk).2.2
    rw [← types_eq hk] at k2
    generalize typesF L = R at *
    have hd : decide (w = 0) = true := by simp [hw]
    rw [hd] at hc
    simp -implicitDefEqProofs [ac3]
    refine pcK_of (awake_c) (by simp) ?_
    simp -implicitDefEqProofs
    refine pcK_of (hc) (by simp) ?_
    simp -implicitDefEqProofs
    refine pcK_of (k1) (by simp) ?_
    simp -implicitDefEqProofs
    refine pcK_of (k2) (by simp) ?_
    simp -implicitDefEqProofs [eqFault]
  · have hd : decide (w = 0) = false := by simp [hw]
    rw [hd] at hc
    simp -implicitDefEqProofs [ac3]
    refine pcK_of (awake_c) (by simp) ?_
    simp -implicitDefEqProofs
    refine pcK_of (hc) (by simp) ?_
    simp -implicitDefEqProofs
end Go.Fx.Ythbainhddfajfaa

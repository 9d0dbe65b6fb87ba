/-
  The library, XE: X24, X25, X26, X27.
-/
import Derived.Test.YtjfiklflmnhbdaaXD
import Derived.Test.YtjfiklflmnhbdaaXF
/-
  Floats and complex numbers of 64 bits: operations on values; functions without a text.
-/


set_option linter.all false
namespace Go.Fx
open Go Go.Fx.Flt
section
variable {P : Program} {ty : TypeId} {a b c d : Nat}
abbrev FL (b : Nat) : D := .pl (.float .f64 b)
abbrev CX (a b : Nat) : D := .pl (.complex .f64 a b)
@[simp] theorem bin_eqlF : binD P .eql ty (FL a) (FL b) = some (.pl (.bool (eqF a b))) := by simp [eqF, binD, lit, binOp, Op.floatCmp, Sem.look, Pure.pure, FloatKind.format]
@[simp] theorem bin_neqF : binD P .neq ty (FL a) (FL b) = some (.pl (.bool (!eqF a b))) := by simp [eqF, binD, lit, binOp, Op.floatCmp, Sem.look, Pure.pure, FloatKind.format, bne]
@[simp] theorem bin_lssF : binD P .lss ty (FL a) (FL b) = some (.pl (.bool (ltF a b))) := by simp [ltF, binD, lit, binOp, Op.floatCmp, Sem.look, Pure.pure, FloatKind.format]
@[simp] theorem bin_leqF : binD P .leq ty (FL a) (FL b) = some (.pl (.bool (leF a b))) := by simp [leF, binD, lit, binOp, Op.floatCmp, Sem.look, Pure.pure, FloatKind.format]
@[simp] theorem bin_gtrF : binD P .gtr ty (FL a) (FL b) = some (.pl (.bool (gtF a b))) := by simp [gtF, binD, lit, binOp, Op.floatCmp, Sem.look, Pure.pure, FloatKind.format]
@[simp] theorem bin_geqF : binD P .geq ty (FL a) (FL b) = some (.pl (.bool (geF a b))) := by simp [geF, binD, lit, binOp, Op.floatCmp, Sem.look, Pure.pure, FloatKind.format]
@[simp] theorem bin_eqlC : binD P .eql ty (CX a b) (CX c d) = some (.pl (.bool (eqF a c && eqF b d))) := by
  have : ∀ x y, Sem.look P (Op.Complex.cmp .eql .f64 x y) = some (eqF x y) := fun x y => by
    simp [eqF, Op.Complex.cmp, Op.floatCmp, look_bind, Sem.look, Pure.pure, FloatKind.format, asBool]
  simp [binD, lit, binOp, Op.complexOp, look_bind, this, Sem.look]
  rfl
@[simp] theorem bin_neqC : binD P .neq ty (CX a b) (CX c d) = some (.pl (.bool (!(eqF a c && eqF b d)))) := by
  have : ∀ x y, Sem.look P (Op.Complex.cmp .eql .f64 x y) = some (eqF x y) := fun x y => by
    simp [eqF, Op.Complex.cmp, Op.floatCmp, look_bind, Sem.look, Pure.pure, FloatKind.format, asBool]
  simp [binD, lit, binOp, Op.complexOp, look_bind, this, Sem.look]
  rfl
@[simp] theorem bi_real : biD P .real [CX a b] = some (FL a) := (rfl)
@[simp] theorem bi_imag : biD P .imag [CX a b] = some (FL b) := (rfl)
@[simp] theorem bi_complex : biD P .complex [FL a, FL b] = some (CX a b) := (rfl)
theorem cv_intF {s t : TypeId} {k : IntKind} {n : Int} (hs : P.underlying s = some (.int k)) (ht : P.underlying t = some (.float .f64)) : cvD P s t (.pl (.int k n)) = some (FL (FloatKind.f64.nearest n)) := by
  simp [cvD, lit, convert, underlying, program, Bind.bind, Sem.bind, Sem.look, hs, ht, Pure.pure, Conv.intToFloat]
theorem cv_Fint {s t : TypeId} {k : IntKind} {n : Int} (hs : P.underlying s = some (.float .f64)) (ht : P.underlying t = some (.int k)) (h : (FloatKind.f64.decode b).toInt .zero = some n) (h1 : k.min ≤ n) (h2 : n ≤ k.max) : cvD P s t (FL b) = some (.pl (.int k n)) := by
  simp [cvD, lit, convert, underlying, program, Bind.bind, Sem.bind, Sem.look, hs, ht, Pure.pure, Conv.floatToInt, h, h1, h2]

/-- A function without a text, by its name. -/
theorem Extn_of {f : FuncId} {fn : Func} {e : Array Value → Sem Value} {args : List D} {res : D} (hf : P.funcs[f]? = some fn) (hn : (fn.name == "runtime.NumGoroutine") = false) (hb : fn.body.isNone = true) (h1 : Extern.findNext fn = none) (h2 : Extern.find fn = some e)
    (h : ∀ (S : Nat → Prop) (φ : Locs) (w : World) (xs : List Value), RepVs w S φ args xs → ∃ v, Rep w S φ res v ∧ (e xs.toArray).run P w = .ok v w) : Extn P f args res := by
  intro S φ w xs hx
  obtain ⟨v, hv, hr⟩ := h S φ w xs hx
  refine ⟨v, hv, ?_⟩
  unfold callFunc
  simp only [Sem.run_bind, run_program, Result.andThen_ok, hf, hn, hb, h1, h2, if_true, Bool.false_eq_true, if_false]
  simp [Sem.run_bind, hr]
end
end Go.Fx

/-
  Deep values that may be seen as others: a nil slice as an empty one, wherever it lies.
-/

set_option linter.all false
namespace Go.Fx
open Go
def rLe (d d' : D) : Prop := ∀ (w : World) (S : Nat → Prop) (φ : Locs) (x : Value), Rep w S φ d x → Rep w S φ d' x
def rLes (ds ds' : List D) : Prop := ∀ (w : World) (S : Nat → Prop) (φ : Locs) (xs : List Value), RepVs w S φ ds xs → RepVs w S φ ds' xs
theorem rLe.refl {d : D} : rLe d d := fun _ _ _ _ h => h
theorem rLe_nil : rLe (.pl (.slice none 0 0)) (.sl []) := fun _ _ _ _ h => Rep_le (.inr (.inr ⟨rfl, .inr rfl⟩)) h
theorem rLe_zs : rLe .zs (.sl []) := fun _ _ _ _ h => Rep_le (.inr (.inr ⟨rfl, .inl rfl⟩)) h
theorem rLes_nil : rLes [] [] := fun _ _ _ _ h => h
theorem rLes_cons {d d' : D} {ds ds' : List D} (h : rLe d d') (k : rLes ds ds') : rLes (d :: ds) (d' :: ds') := fun w S φ xs hx => by
  simp only [RepVs] at hx ⊢
  obtain ⟨x, r, rfl, h1, h2⟩ := hx
  exact ⟨x, r, rfl, h _ _ _ _ h1, k _ _ _ _ h2⟩
theorem rLe_agg {ds ds' : List D} (h : rLes ds ds') : rLe (.agg ds) (.agg ds') := fun w S φ x hx => by
  simp only [Rep] at hx ⊢
  obtain ⟨vs, rfl, h1⟩ := hx
  exact ⟨vs, rfl, h _ _ _ _ h1⟩
theorem rLe_tup {ds ds' : List D} (h : rLes ds ds') : rLe (.tup ds) (.tup ds') := fun w S φ x hx => by
  simp only [Rep] at hx ⊢
  obtain ⟨vs, rfl, h1⟩ := hx
  exact ⟨vs, rfl, h _ _ _ _ h1⟩
theorem Pure_arg {P : Program} {f : FuncId} {xs ys : List D} {r : D} (h : rLes xs ys) (k : Pure P f ys r) : Pure P f xs r :=
  ⟨k.1, fun S w vs hS hv => k.2 S w vs hS (h _ _ _ _ hv)⟩
end Go.Fx

/-
  Arithmetic of floats and complex numbers of 64 bits.
-/


set_option linter.all false
namespace Go.Fx.Flt
open Go Ieee
theorem xor_lo {r : Nat} (h : r < 2 ^ 63) : r ^^^ 2 ^ 63 = 2 ^ 63 + r := by
  have e : 2 ^ 63 + r = 2 ^ 63 ||| r := by
    have := Nat.two_pow_add_eq_or_of_lt h 1
    simpa using this
  rw [e]
  apply Nat.eq_of_testBit_eq
  intro i
  rw [Nat.testBit_xor, Nat.testBit_or, Nat.testBit_two_pow]
  by_cases hi : 63 = i
  · subst hi
    rw [Nat.testBit_lt_two_pow h]; simp
  · simp [hi]
theorem xor_hi {r : Nat} (h : r < 2 ^ 63) : (2 ^ 63 + r) ^^^ 2 ^ 63 = r := by
  rw [← xor_lo h, Nat.xor_assoc, Nat.xor_self, Nat.xor_zero]
theorem neg_Fz {s : Bool} {N : Nat} (h : N < 2 ^ 53) : Fz s N ^^^ 2 ^ 63 = Fz (!s) N := by
  have hr : (if N = 0 then 0 else (N.log2 + 1022) * 2 ^ 52 + N * 2 ^ (52 - N.log2)) < 2 ^ 63 := by
    split
    · decide
    · rename_i h0
      have := log_lt h0 h
      obtain ⟨m1, m2⟩ := mant h0 h
      have : (N.log2 + 1022) * 2 ^ 52 ≤ 1074 * 2 ^ 52 := Nat.mul_le_mul_right _ (by omega)
      omega
  unfold Fz Format.word
  rw [fsw]
  generalize (if N = 0 then 0 else (N.log2 + 1022) * 2 ^ 52 + N * 2 ^ (52 - N.log2)) = r at *
  cases s
  · simpa using xor_lo hr
  · simpa using xor_hi hr
def ngF (b : Nat) : Nat := b ^^^ 2 ^ 63
theorem neg_W {b : Nat} {n : Int} (h : isW b n) : isW (ngF b) (-n) := by
  obtain ⟨s, N, hN, rfl, rfl⟩ := h
  exact ⟨!s, N, hN, neg_Fz hN, sg_not⟩
end Go.Fx.Flt
namespace Go.Fx
open Go Go.Fx.Flt
section
variable {P : Program} {ty : TypeId} {a b c d r s : Nat}
theorem bin_addF (h : Ieee.double.add a b = some r) : binD P .add ty (FL a) (FL b) = some (FL r) := by simp [binD, lit, binOp, Op.floatArith, Sem.look, Pure.pure, Bind.bind, Sem.bind, FloatKind.format, h]
theorem bin_subF (h : Ieee.double.sub a b = some r) : binD P .sub ty (FL a) (FL b) = some (FL r) := by simp [binD, lit, binOp, Op.floatArith, Sem.look, Pure.pure, Bind.bind, Sem.bind, FloatKind.format, h]
theorem bin_mulF (h : Ieee.double.mul a b = some r) : binD P .mul ty (FL a) (FL b) = some (FL r) := by simp [binD, lit, binOp, Op.floatArith, Sem.look, Pure.pure, Bind.bind, Sem.bind, FloatKind.format, h]
theorem bin_quoF (h : Ieee.double.div a b = some r) : binD P .quo ty (FL a) (FL b) = some (FL r) := by simp [binD, lit, binOp, Op.floatArith, Sem.look, Pure.pure, Bind.bind, Sem.bind, FloatKind.format, h]
@[simp] theorem un_negF : unD P .neg (FL a) = some (FL (ngF a)) := (rfl)
theorem lookA {op : BinOp} {x y z : Nat} (h : Sem.look P (Op.floatArith op .f64 x y) = some (.float .f64 z)) : Sem.look P (Op.Complex.arith op .f64 x y) = some z := by
  unfold Op.Complex.arith
  rw [look_bind, h]; rfl
theorem look_add (h : Ieee.double.add a b = some r) : Sem.look P (Op.Complex.arith .add .f64 a b) = some r := lookA (by simp [Op.floatArith, Sem.look, Pure.pure, Bind.bind, Sem.bind, FloatKind.format, h])
theorem look_sub (h : Ieee.double.sub a b = some r) : Sem.look P (Op.Complex.arith .sub .f64 a b) = some r := lookA (by simp [Op.floatArith, Sem.look, Pure.pure, Bind.bind, Sem.bind, FloatKind.format, h])
theorem look_mul (h : Ieee.double.mul a b = some r) : Sem.look P (Op.Complex.arith .mul .f64 a b) = some r := lookA (by simp [Op.floatArith, Sem.look, Pure.pure, Bind.bind, Sem.bind, FloatKind.format, h])
theorem bin_addC (h1 : Ieee.double.add a c = some r) (h2 : Ieee.double.add b d = some s) : binD P .add ty (CX a b) (CX c d) = some (CX r s) := by
  simp [-bind_pure_comp, binD, lit, binOp, Op.complexOp, look_bind, look_add h1, look_add h2]; rfl
theorem bin_subC (h1 : Ieee.double.sub a c = some r) (h2 : Ieee.double.sub b d = some s) : binD P .sub ty (CX a b) (CX c d) = some (CX r s) := by
  simp [-bind_pure_comp, binD, lit, binOp, Op.complexOp, look_bind, look_sub h1, look_sub h2]; rfl
theorem look_prod {p1 p2 p3 p4 : Nat} (h1 : Ieee.double.mul a c = some p1) (h2 : Ieee.double.mul b d = some p2) (h3 : Ieee.double.mul a d = some p3) (h4 : Ieee.double.mul b c = some p4) (h5 : Ieee.double.sub p1 p2 = some r) (h6 : Ieee.double.add p3 p4 = some s) : Sem.look P (Op.Complex.product a b c d) = some (r, s) := by
  unfold Op.Complex.product Op.Complex.mul Op.Complex.sub Op.Complex.add
  simp only [look_bind, look_mul h1, look_mul h2, look_mul h3, look_mul h4, look_sub h5, look_add h6, Option.bind]; rfl
theorem bin_mulC {p1 p2 p3 p4 : Nat} (h1 : Ieee.double.mul a c = some p1) (h2 : Ieee.double.mul b d = some p2) (h3 : Ieee.double.mul a d = some p3) (h4 : Ieee.double.mul b c = some p4) (h5 : Ieee.double.sub p1 p2 = some r) (h6 : Ieee.double.add p3 p4 = some s) : binD P .mul ty (CX a b) (CX c d) = some (CX r s) := by
  have hc : ∀ x, Sem.look P (Op.Complex.conv .f64 x .f64) = some x := fun x => rfl
  simp [binD, lit, binOp, Op.complexOp, look_bind, hc, look_prod h1 h2 h3 h4 h5 h6]; rfl
end
end Go.Fx

/-
  Owned blocks are only read from some point on: ahead of a loop, or behind it.
-/


set_option linter.all false
namespace Go.Fx
open Go
section
variable {C : Cfg} {Q : Exit → St → Prop} {env env' tl : Env} {mem mf mk : Mem} {nx : Nat}
/-- Slots that are told as they were, or read from the blocks mf. -/
def frzEnv (mf : Mem) (env env' : Env) : Prop := ∀ j d', look env' j = some d' → ∃ d, look env j = some d ∧ (d' = d ∨ frz mf 100 d = some d')
theorem frzEnv_nil : frzEnv mf [] [] := fun j d' h => by simp [look] at h
theorem frzEnv_cons {k : Nat} {d d' : D} {e e' : Env} (h : d' = d ∨ frz mf 100 d = some d') (t : frzEnv mf e e') : frzEnv mf ((k, d) :: e) ((k, d') :: e') := fun j x hx => by
  by_cases hj : k = j
  · subst hj
    simp only [look, if_pos] at hx ⊢
    simp only [Option.some.injEq] at hx
    subst hx
    exact ⟨d, rfl, h⟩
  · simp only [look, if_neg hj] at hx ⊢
    exact t j x hx
theorem Wk_frz (h1 : memSub mem mf) (h2 : memSub mem mk) (hd : ∀ i, look mf i = none ∨ look mk i = none) (he : frzEnv mf env env') : Wk C ⟨env, tl, mem, nx⟩ ⟨env', [], mk, nx⟩ := by
  intro B N S φ a w hn hs
  have hm := hs.m
  have hmf : MSim S φ mf nx w := MSim_le hm (memSub_le h1) (Nat.le_refl _)
  have hmk0 : MSim S φ mk nx w := MSim_le hm (memSub_le h2) (Nat.le_refl _)
  have hS2 : ∀ b, SF S φ mf b → b < w.heap.size := by
    rintro b (h | ⟨i, blk, l, _, g2, g3, rfl⟩)
    · exact hm.sub b h
    · exact hm.lt i l g2 g3
  have hmk : MSim (SF S φ mf) φ mk nx w := ⟨fun i blk hi => by
      obtain ⟨l, g1, g2, g3⟩ := hmk0.mem i blk hi
      refine ⟨l, g1, fun hr hs => ?_, BRep.mono stays_SF (fun _ => rfl) blk g3⟩
      rcases hs with hs | ⟨j, blk', l', k1, k2, k3, k4⟩
      · exact g2 hr hs
      · have := hm.inj j i l' l k2 g1 k3 hr k4
        subst this
        rcases hd j with e | e
        · rw [e] at k1; simp at k1
        · rw [e] at hi; simp at hi, hm.inj, hm.lt, hm.fresh, hS2⟩
  refine ⟨SF S φ mf, φ, ⟨hs.size, hs.defers.ext hs.m (S' := SF S φ mf) (φ' := φ) (mem' := mem) ⟨fun b hb => .inl hb, fun _ _ _ => rfl, Nat.le_refl _, fun b _ h => h, fun b hb => hb.elim .inl fun ⟨i, blk, l, g1, g2⟩ => .inr (.inr ⟨i, blk, l, h1 i blk g1, g2⟩), rfl, rfl, rfl⟩, fun j d' hj hl => ?_, fun j d _ hl => by simp [look] at hl, hmk⟩,
    ⟨fun b hb => .inl hb, fun _ _ _ => rfl, Nat.le_refl _, fun b _ ⟨i, blk, l, g1, g2, g3, g4⟩ => ⟨i, blk, l, h2 i blk g1, g2, g3, g4⟩, fun b hb => ?_, rfl, rfl, rfl⟩, Grow.refl hn⟩
  · obtain ⟨d, h3, h4⟩ := he j d' hl
    have hr := hs.env j d hj h3
    rcases h4 with rfl | h4
    · exact Rep.mono stays_SF _ _ hr
    · exact Rep.mono (φ' := φ) ⟨fun _ h => h, fun _ _ _ => rfl, fun _ _ h => by simp [noLocs] at h⟩ _ _ (frz_sound hmf 100 d d' _ h4 hr)
  · rcases hb with h | ⟨i, blk, l, g1, g2, g3, g4⟩
    · exact .inl h
    · exact .inr (.inr ⟨i, blk, l, h1 i blk g1, g2, g3, g4⟩)
theorem T_postW {c : Code} {s : St} (h : T C c (fun e s => ∃ s', Wk C s s' ∧ Q e s') s) : T C c Q s := by
  intro x N S φ a w hn hB hs
  refine wpIn_mono (h x N S φ a w hn hB hs) ?_
  rintro e a' w' ⟨s', S', φ', ⟨s2, hw, hq⟩, hs', hx, hg⟩
  obtain ⟨S2, φ2, k1, k2, k3⟩ := hw x N S' φ' a' w' hg.le hs'
  exact ⟨s2, S2, φ2, hq, k1, hx.trans k2, hg.trans k3⟩
/-- Some state that this one may be seen as. -/
def PostW (C : Cfg) (Q : Exit → St → Prop) (e : Exit) (s : St) : Prop := ∃ s', Wk C s s' ∧ Q e s'
/-- Behind a loop the state may be seen as a weaker one. -/
theorem A_loop_post {x : AC} (h : A C (.loop x) (PostW C Q) env mem nx) : A C (.loop x) Q env mem nx := by
  rw [A_loop] at h ⊢
  exact fun c hc => T_postW (h c hc)
theorem PostW_same {e : Exit} (h : Q e ⟨env, [], mem, nx⟩) : PostW C Q e ⟨env, [], mem, nx⟩ := ⟨_, Wk.refl, h⟩
theorem frzEnv_upd {j : Nat} {d d' : D} (h : look env j = some d) (hf : frz mf 100 d = some d') : frzEnv mf env (upd env j d') := fun i x hx => by
  rcases look_upd j d' env i x hx with ⟨rfl, rfl⟩ | ⟨_, hx⟩
  · exact ⟨d, h, .inr hf⟩
  · exact ⟨x, hx, .inl rfl⟩
/-- A slot's block is only read from now on: all blocks are, and the others are let go. -/
theorem PostW_frz {e : Exit} {j : Nat} {d d' : D} (hl : look env j = some d) (hf : frz mem 100 d = some d') (hq : Q e ⟨upd env j d', [], [], nx⟩) : PostW C Q e ⟨env, tl, mem, nx⟩ :=
  ⟨_, Wk_frz (memSub_refl mem) (memSub_nil mem) (fun i => .inr rfl) (frzEnv_upd hl hf), hq⟩
theorem PostW_frz2 {e : Exit} {j : Nat} {d d' : D} (mf mk : Mem) (hl : look env j = some d) (hf : frz mf 100 d = some d') (h1 : memSub mem mf) (h2 : memSub mem mk) (hd : ∀ i, look mf i = none ∨ look mk i = none) (hq : Q e ⟨upd env j d', [], mk, nx⟩) : PostW C Q e ⟨env, tl, mem, nx⟩ :=
  ⟨_, Wk_frz h1 h2 hd (frzEnv_upd hl hf), hq⟩
/-- The same ahead of a loop. -/
theorem A_loop_frz {x : AC} {j : Nat} {d d' : D} (mf mk : Mem) (hl : look env j = some d) (hf : frz mf 100 d = some d') (h1 : memSub mem mf) (h2 : memSub mem mk) (hd : ∀ i, look mf i = none ∨ look mk i = none) (h : A C (.loop x) Q (upd env j d') mk nx) : A C (.loop x) Q env mem nx := by
  rw [A_loop] at h ⊢
  exact TA_weaken (Wk_frz h1 h2 hd (frzEnv_upd hl hf)) h
end
end Go.Fx

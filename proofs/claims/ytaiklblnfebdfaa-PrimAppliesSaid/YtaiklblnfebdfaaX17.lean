/-
  Rewrite rules: a run, one operation at a time; values.
-/
import Derived.Test.YtaiklblnfebdfaaX16
import Derived.KernelRfl
import Derived.Laws.Strings
set_option linter.all false
namespace Go.Fx
open Go
attribute [simp] A_seq A_block A_skip A_ret A_exit A_label A_goto A_reg A_ifr A_cond Kont_nil Kont_seq Kont_seq_ret Kont_seq_exit Kont_seq_goto Kont_block Kont_block_ret Kont_block_goto Kont_block_exit ifK_at regK_at nextK_no nextK_t nextK_g
  run_nil run_cons run_guard look_cons look_nil upd_cons ro_t ro_g ro_c ro_f setT_t setT_g setE_t setE_g k0_some k0_if k1_some k2_some kl_some km_some km_if
attribute [simp 1100] gd_undef gd_yes gd_tf gd_ft ifb_true ifb_false
attribute [simp 900] gd_any ifb_any

section
variable {C : Cfg} {id : Nat} {env tl : Env} {mem : Mem} {nx : Nat} {K : KD} {P : Program}
@[simp] theorem sI_mv {x : Opd} : stepI C id (.mv x) env tl mem nx K = k0 (ro tl env x) mem nx K := (rfl)
@[simp] theorem sI_pick {c a b : Opd} : stepI C id (.pick c a b) env tl mem nx K = k1 (ro tl env c) (pickD (ro tl env a) (ro tl env b)) mem nx K := (rfl)
@[simp] theorem sI_bld {z : List Value} {ps : List (Nat × Nat × Opd)} : stepI C id (.bld z ps) env tl mem nx K = kl (rps tl env ps) (bldD z) mem nx K := (rfl)
@[simp] theorem sI_bsl {k len : Nat} {z : List Value} {ps : List (Nat × Nat × Opd)} : stepI C id (.bsl k len z ps) env tl mem nx K = kl (rps tl env ps) (bslI k len z) mem nx K := (rfl)
@[simp] theorem sI_z0 : stepI C id .z0 env tl mem nx K = K .zs mem nx := (rfl)
@[simp] theorem sI_ld {g : Bool} {n : Nat} {x : Opd} : stepI C id (.ld g n x) env tl mem nx K = k1 (ro tl env x) (ldD mem g n) mem nx K := (rfl)
@[simp] theorem sI_chk {x : Opd} : stepI C id (.chk x) env tl mem nx K = k1 (ro tl env x) chkD mem nx K := (rfl)
@[simp] theorem sI_bin {op : BinOp} {ty : TypeId} {x y : Opd} : stepI C id (.bin op ty x y) env tl mem nx K = k2 (ro tl env x) (ro tl env y) (binD C.P op ty) mem nx K := (rfl)
@[simp] theorem sI_un {op : UnOp} {x : Opd} : stepI C id (.un op x) env tl mem nx K = k1 (ro tl env x) (unD C.P op) mem nx K := (rfl)
@[simp] theorem sI_cv {s d : TypeId} {x : Opd} : stepI C id (.cv s d x) env tl mem nx K = k1 (ro tl env x) (cvD C.P s d) mem nx K := (rfl)
@[simp] theorem sI_fa {off : Nat} {x : Opd} : stepI C id (.fa off x) env tl mem nx K = k1 (ro tl env x) (faD mem off) mem nx K := (rfl)
@[simp] theorem sI_fld {g : Bool} {n off : Nat} {x : Opd} : stepI C id (.fld g n off x) env tl mem nx K = k1 (ro tl env x) (fldD g n off) mem nx K := (rfl)
@[simp] theorem sI_ia {k : Nat} {x i : Opd} : stepI C id (.ia k x i) env tl mem nx K = k2 (ro tl env x) (ro tl env i) (iaD mem k) mem nx K := (rfl)
@[simp] theorem sI_ext {i : Nat} {x : Opd} : stepI C id (.ext i x) env tl mem nx K = k1 (ro tl env x) (extD i) mem nx K := (rfl)
@[simp] theorem sI_len {s : Bool} {x : Opd} : stepI C id (.len s x) env tl mem nx K = k1 (ro tl env x) (lenD mem s) mem nx K := (rfl)
@[simp] theorem sI_bi {b : Builtin} {xs : List Opd} : stepI C id (.bi b xs) env tl mem nx K = kl (ros tl env xs) (biD C.P b) mem nx K := (rfl)
@[simp] theorem sI_sls {s : Bool} {k : Nat} {x : Opd} {lo hi : Option Opd} : stepI C id (.sls s k x lo hi) env tl mem nx K = k0 (slsO mem s k (ro tl env x) (roo tl env lo) (roo tl env hi)) mem nx K := (rfl)
@[simp] theorem sI_mkf {f : FuncId} {cs : List Opd} : stepI C id (.mkf f cs) env tl mem nx K = kl (ros tl env cs) (mkfD f) mem nx K := (rfl)
@[simp] theorem sI_bxi {x : Opd} : stepI C id (.bxi x) env tl mem nx K = k1 (ro tl env x) bxiD mem nx K := (rfl)
@[simp] theorem sI_mki {k bytes : Nat} {z : List Value} {n : Opd} : stepI C id (.mki k bytes z n) env tl mem nx K = k1 (ro tl env n) (mkiD bytes z) mem nx K := (rfl)
@[simp] theorem sI_pc {f : Opd} {xs : List Opd} : stepI C id (.pc f xs) env tl mem nx K = pcK C.P (ro tl env f) (ros tl env xs) mem nx K := (rfl)
@[simp] theorem sI_al {z : List Value} : stepI C id (.al z) env tl mem nx K = K (.opt id 0) ((id, .box (z.map .pl)) :: mem) nx := (rfl)
@[simp] theorem sI_bx {x : Opd} : stepI C id (.bx x) env tl mem nx K = km (bxM id mem (ro tl env x)) nx K := (rfl)
@[simp] theorem sI_bso {k len : Nat} {z : List Value} {ps : List (Nat × Nat × Opd)} : stepI C id (.bso k len z ps) env tl mem nx K = km (bsoM id mem k len z (rps tl env ps)) nx K := (rfl)
@[simp] theorem sI_mks {k bytes : Nat} {z : List Value} {n : Opd} : stepI C id (.mks k bytes z n) env tl mem nx K = km (mksM id mem k bytes z (ro tl env n)) nx K := (rfl)
@[simp] theorem sI_apn {k bytes : Nat} {z : List Value} {x y : Opd} : stepI C id (.apn k bytes z x y) env tl mem nx K = km (apnM id mem k bytes (ro tl env x) (ro tl env y)) nx K := (rfl)
@[simp] theorem sI_st {n : Nat} {x y : Opd} : stepI C id (.st n x y) env tl mem nx K = km (stM mem n (ro tl env x) (ro tl env y)) nx K := (rfl)
@[simp] theorem sI_sta {n : Nat} {x y : Opd} {ps : List Opd} : stepI C id (.sta n x y ps) env tl mem nx K = km (staM mem n (ro tl env x) (ro tl env y) (ros tl env ps)) nx K := (rfl)
@[simp] theorem sI_app {k bytes : Nat} {z : List Value} {x y : Opd} : stepI C id (.app k bytes z x y) env tl mem nx K = km (appM id mem k bytes (ro tl env x) (ro tl env y)) nx K := (rfl)
@[simp] theorem sI_iaa {len k : Nat} {x i : Opd} : stepI C id (.iaa len k x i) env tl mem nx K = k2 (ro tl env x) (ro tl env i) (iaaD mem len k) mem nx K := (rfl)
@[simp] theorem sI_ixs {x i : Opd} : stepI C id (.ixs x i) env tl mem nx K = k2 (ro tl env x) (ro tl env i) ixsD mem nx K := (rfl)
@[simp] theorem sI_lk {kd : Option IntKind} {z : Value} {two : Bool} {m k : Opd} : stepI C id (.lk kd z two m k) env tl mem nx K = k2 (ro tl env m) (ro tl env k) (lkD mem kd z two) mem nx K := (rfl)
@[simp] theorem sI_lnm {x : Opd} : stepI C id (.lnm x) env tl mem nx K = k1 (ro tl env x) (lnmD mem) mem nx K := (rfl)
@[simp] theorem sI_mkm : stepI C id .mkm env tl mem nx K = K (.omap id) ((id, .map []) :: mem) nx := (rfl)
@[simp] theorem sI_mup {kd : Option IntKind} {m k v : Opd} : stepI C id (.mup kd m k v) env tl mem nx K = km (mupM mem kd (ro tl env m) (ro tl env k) (ro tl env v)) nx K := (rfl)
@[simp] theorem sI_cl {f : Opd} {xs : List Opd} : stepI C id (.cl f xs) env tl mem nx K = clK C.P (ro tl env f) (ros tl env xs) mem nx K := (rfl)

/-! Operations on bits, under names: so that rewriting leaves them be. -/
def bAnd (k : IntKind) (a b : Int) : Int := k.wrap (BitVec.ofInt k.bits a &&& BitVec.ofInt k.bits b).toNat
def bOr (k : IntKind) (a b : Int) : Int := k.wrap (BitVec.ofInt k.bits a ||| BitVec.ofInt k.bits b).toNat
def bXor (k : IntKind) (a b : Int) : Int := k.wrap (BitVec.ofInt k.bits a ^^^ BitVec.ofInt k.bits b).toNat
def bClr (k : IntKind) (a b : Int) : Int := k.wrap (BitVec.ofInt k.bits a &&& ~~~(BitVec.ofInt k.bits b)).toNat
def bNot (k : IntKind) (n : Int) : Int := k.wrap (BitVec.ofInt k.bits (if k.signed then -1 else k.max) ^^^ BitVec.ofInt k.bits n).toNat
def bShl (k : IntKind) (a b : Int) : Int := k.wrap (a * 2 ^ min b.toNat k.bits)
def bShr (k : IntKind) (a b : Int) : Int := a.fdiv (2 ^ min b.toNat k.bits)

/-! #### Values -/
@[simp] theorem bin_add {ty : TypeId} {k : IntKind} {a b : Int} : binD P .add ty (.pl (.int k a)) (.pl (.int k b)) = some (.pl (.int k (k.wrap (a + b)))) := by simp [binD, lit, binOp, Op.intArith, Sem.look, Pure.pure]
@[simp] theorem bin_sub {ty : TypeId} {k : IntKind} {a b : Int} : binD P .sub ty (.pl (.int k a)) (.pl (.int k b)) = some (.pl (.int k (k.wrap (a - b)))) := by simp [binD, lit, binOp, Op.intArith, Sem.look, Pure.pure]
@[simp] theorem bin_mul {ty : TypeId} {k : IntKind} {a b : Int} : binD P .mul ty (.pl (.int k a)) (.pl (.int k b)) = some (.pl (.int k (k.wrap (a * b)))) := by simp [binD, lit, binOp, Op.intArith, Sem.look, Pure.pure]
theorem look_panic {α : Type} {m : String} : Sem.look P (runtimePanic (α := α) (.error m)) = none := by simp [runtimePanic, program, Sem.look, Bind.bind, Sem.bind, goPanic]
@[simp] theorem bin_quo {ty : TypeId} {k : IntKind} {a b : Int} : binD P .quo ty (.pl (.int k a)) (.pl (.int k b)) = if b ≠ 0 then some (.pl (.int k (k.wrap (a.tdiv b)))) else none := by
  by_cases h : b = 0
  · simp [binD, lit, binOp, Op.intDiv, h, look_panic]
  · simp [binD, lit, binOp, Op.intDiv, h, Sem.look, Pure.pure]
@[simp] theorem bin_rem {ty : TypeId} {k : IntKind} {a b : Int} : binD P .rem ty (.pl (.int k a)) (.pl (.int k b)) = if b ≠ 0 then some (.pl (.int k (a.tmod b))) else none := by
  by_cases h : b = 0
  · simp [binD, lit, binOp, Op.intDiv, h, look_panic]
  · simp [binD, lit, binOp, Op.intDiv, h, Sem.look, Pure.pure]
@[simp] theorem bin_and {ty : TypeId} {k : IntKind} {a b : Int} : binD P .and ty (.pl (.int k a)) (.pl (.int k b)) = some (.pl (.int k (bAnd k a b))) := by simp [bAnd, binD, lit, binOp, Op.intBits, Sem.look, Pure.pure]
@[simp] theorem bin_or {ty : TypeId} {k : IntKind} {a b : Int} : binD P .or ty (.pl (.int k a)) (.pl (.int k b)) = some (.pl (.int k (bOr k a b))) := by simp [bOr, binD, lit, binOp, Op.intBits, Sem.look, Pure.pure]
@[simp] theorem bin_xor {ty : TypeId} {k : IntKind} {a b : Int} : binD P .xor ty (.pl (.int k a)) (.pl (.int k b)) = some (.pl (.int k (bXor k a b))) := by simp [bXor, binD, lit, binOp, Op.intBits, Sem.look, Pure.pure]
@[simp] theorem bin_andNot {ty : TypeId} {k : IntKind} {a b : Int} : binD P .andNot ty (.pl (.int k a)) (.pl (.int k b)) = some (.pl (.int k (bClr k a b))) := by simp [bClr, binD, lit, binOp, Op.intBits, Sem.look, Pure.pure]
@[simp] theorem bin_shl {ty : TypeId} {k j : IntKind} {a b : Int} : binD P .shl ty (.pl (.int k a)) (.pl (.int j b)) = if 0 ≤ b then some (.pl (.int k (bShl k a b))) else none := by
  by_cases h : b < 0
  · rw [if_neg (by omega)]; simp [binD, lit, binOp, Op.shift, h, look_panic]
  · rw [if_pos (by omega)]; simp [bShl, bShr, binD, lit, binOp, Op.shift, h, Sem.look, Pure.pure]
@[simp] theorem bin_shr {ty : TypeId} {k j : IntKind} {a b : Int} : binD P .shr ty (.pl (.int k a)) (.pl (.int j b)) = if 0 ≤ b then some (.pl (.int k (bShr k a b))) else none := by
  by_cases h : b < 0
  · rw [if_neg (by omega)]; simp [binD, lit, binOp, Op.shift, h, look_panic]
  · rw [if_pos (by omega)]; simp [bShl, bShr, binD, lit, binOp, Op.shift, h, Sem.look, Pure.pure]
@[simp] theorem bin_eql {ty : TypeId} {k : IntKind} {a b : Int} : binD P .eql ty (.pl (.int k a)) (.pl (.int k b)) = some (.pl (.bool (decide (a = b)))) := by simp [binD, lit, binOp, Op.intCmp, Sem.look, Pure.pure]; rfl
@[simp] theorem bin_neq {ty : TypeId} {k : IntKind} {a b : Int} : binD P .neq ty (.pl (.int k a)) (.pl (.int k b)) = some (.pl (.bool (!decide (a = b)))) := by simp [binD, lit, binOp, Op.intCmp, Sem.look, Pure.pure]; rfl
@[simp] theorem bin_lss {ty : TypeId} {k : IntKind} {a b : Int} : binD P .lss ty (.pl (.int k a)) (.pl (.int k b)) = some (.pl (.bool (decide (a < b)))) := by simp [binD, lit, binOp, Op.intCmp, Sem.look, Pure.pure]
@[simp] theorem bin_leq {ty : TypeId} {k : IntKind} {a b : Int} : binD P .leq ty (.pl (.int k a)) (.pl (.int k b)) = some (.pl (.bool (decide (a ≤ b)))) := by simp [binD, lit, binOp, Op.intCmp, Sem.look, Pure.pure]
@[simp] theorem bin_gtr {ty : TypeId} {k : IntKind} {a b : Int} : binD P .gtr ty (.pl (.int k a)) (.pl (.int k b)) = some (.pl (.bool (decide (b < a)))) := by simp [binD, lit, binOp, Op.intCmp, Sem.look, Pure.pure]
@[simp] theorem bin_geq {ty : TypeId} {k : IntKind} {a b : Int} : binD P .geq ty (.pl (.int k a)) (.pl (.int k b)) = some (.pl (.bool (decide (b ≤ a)))) := by simp [binD, lit, binOp, Op.intCmp, Sem.look, Pure.pure]
theorem look_equalB {ty : TypeId} {a b : Bool} (h : P.underlying ty = some .bool) : Sem.look P (Op.equal ty (.bool a) (.bool b)) = some (a == b) := by
  show Sem.look P (Op.equalIn (9999 + 1) ty (.bool a) (.bool b)) = _
  unfold Op.equalIn
  simp [Sem.look, underlying, program, h, Pure.pure, Bind.bind, Sem.bind]
theorem look_bind {α β : Type} (k : α → Sem β) : ∀ (m : Sem α), Sem.look P (m >>= k) = (Sem.look P m).bind fun x => Sem.look P (k x) := by
  intro m
  show Sem.look P (Sem.bind m k) = _
  induction m with
  | pure a => rfl
  | program f ih => exact ih P
  | _ => first | rfl | simp [Sem.bind, Sem.look]
theorem bin_eqlB {ty : TypeId} {a b : Bool} (h : P.underlying ty = some .bool) : binD P .eql ty (.pl (.bool a)) (.pl (.bool b)) = some (.pl (.bool (decide (a = b)))) := by
  simp only [binD, lit, binOp, Bool.and_self, if_true, look_bind, look_equalB h, Option.bind_some]
  simp only [Pure.pure, Sem.look, Option.map_some]
  cases a <;> cases b <;> rfl
theorem bin_neqB {ty : TypeId} {a b : Bool} (h : P.underlying ty = some .bool) : binD P .neq ty (.pl (.bool a)) (.pl (.bool b)) = some (.pl (.bool (!decide (a = b)))) := by
  simp only [binD, lit, binOp, Bool.and_self, if_true, look_bind, look_equalB h, Option.bind_some]
  simp only [Pure.pure, Sem.look, Option.map_some]
  cases a <;> cases b <;> rfl
theorem beq_bytes (a b : ByteArray) : (a == b) = decide (a = b) := by
  rw [Bool.eq_iff_iff, decide_eq_true_eq]
  cases a with | mk x => cases b with | mk y =>
  show (x == y) = true ↔ _
  rw [beq_iff_eq]
  exact ⟨fun h => by rw [h], fun h => by injection h⟩
theorem bytes_eq (a b : ByteArray) : (a.toList == b.toList) = decide (a = b) := by
  rw [Bool.eq_iff_iff, decide_eq_true_eq, beq_iff_eq, Go.ByteArray.toList_eq, Go.ByteArray.toList_eq]
  refine ⟨fun h => ?_, fun h => by rw [h]⟩
  cases a with | mk x => cases b with | mk y =>
  simp only [ByteArray.mk.injEq]
  exact Array.ext' h
theorem look_equalT {ty : TypeId} {a b : ByteArray} (h : P.underlying ty = some .string) : Sem.look P (Op.equal ty (.string a) (.string b)) = some (decide (a = b)) := by
  rw [← beq_bytes]
  show Sem.look P (Op.equalIn (9999 + 1) ty (.string a) (.string b)) = _
  unfold Op.equalIn
  simp [Sem.look, underlying, program, h, Pure.pure, Bind.bind, Sem.bind]
theorem bin_eqlT {ty : TypeId} {a b : ByteArray} (h : P.underlying ty = some .string) : binD P .eql ty (.pl (.string a)) (.pl (.string b)) = some (.pl (.bool (decide (a = b)))) := by
  have : Sem.look P (binOp .eql ty (.string a) (.string b)) = some (.bool (decide (a = b))) := by
    first
    | (simp only [binOp, look_bind, look_equalT h, Option.bind_some]; rfl)
    | (simp [binOp, Op.stringOp, Sem.look, Pure.pure, bytes_eq])
  simp only [binD, lit, Bool.and_self, if_true, this, Option.map_some]
theorem bin_neqT {ty : TypeId} {a b : ByteArray} (h : P.underlying ty = some .string) : binD P .neq ty (.pl (.string a)) (.pl (.string b)) = some (.pl (.bool (!decide (a = b)))) := by
  have : Sem.look P (binOp .neq ty (.string a) (.string b)) = some (.bool (!decide (a = b))) := by
    first
    | (simp only [binOp, look_bind, look_equalT h, Option.bind_some]; rfl)
    | (simp [binOp, Op.stringOp, Sem.look, Pure.pure, bytes_eq, bne])
  simp only [binD, lit, Bool.and_self, if_true, this, Option.map_some]
@[simp] theorem un_not {b : Bool} : unD P .not (.pl (.bool b)) = some (.pl (.bool (!b))) := by simp [unD, lit, Op.unary, Sem.look, Pure.pure]
@[simp] theorem un_neg {k : IntKind} {n : Int} : unD P .neg (.pl (.int k n)) = some (.pl (.int k (k.wrap (0 - n)))) := by simp [unD, lit, Op.unary, Op.intArith, Sem.look, Pure.pure]
@[simp] theorem un_xor {k : IntKind} {n : Int} : unD P .xor (.pl (.int k n)) = some (.pl (.int k (bNot k n))) := by simp [bNot, unD, lit, Op.unary, Op.intBits, Sem.look, Pure.pure]
@[simp] theorem bi_max {k : IntKind} {a b : Int} : biD P .max [.pl (.int k a), .pl (.int k b)] = some (.pl (.int k (max a b))) := by
  have : (if a < b then b else a) = max a b := by rw [Int.max_def]; split <;> split <;> omega
  simp [biD, D.vals, D.val, lit, Builtin.max_, Builtin.max2, Sem.look, Pure.pure, this, Bind.bind, Sem.bind]
@[simp] theorem bi_min {k : IntKind} {a b : Int} : biD P .min [.pl (.int k a), .pl (.int k b)] = some (.pl (.int k (min a b))) := by
  have : (if b < a then b else a) = min a b := by rw [Int.min_def]; split <;> split <;> omega
  simp [biD, D.vals, D.val, lit, Builtin.min_, Builtin.min2, Sem.look, Pure.pure, this, Bind.bind, Sem.bind]
@[simp] theorem pick_t {a b : Option D} : pickD a b (.pl (.bool true)) = a := (rfl)
@[simp] theorem pick_f {a b : Option D} : pickD a b (.pl (.bool false)) = b := (rfl)

attribute [simp] iaaD zD kOk staM apartD D.hd mkv faD D.cells D.cell D.solid bxiD lenD fldD extD chkD ros rps roo slsO mkfD bldD fillD place bslI bslD chunks bxM bsoM mksM mkiD apnM appM D.roomless els cur curv upd_nil bound
  D.imm D.imms D.immss resL resV fin tupOf frz frzs RetQ env0 D.vals D.val

section
variable {n off i id ver lo : Nat} {cs new : List D} {g : Bool} {x : D}
@[simp] theorem bind_ite {α β : Type} {p : Prop} [Decidable p] {o : Option α} {f : α → Option β} : (if p then o else none).bind f = if p then o.bind f else none := by by_cases h : p <;> simp [h]
@[simp 900] theorem k0_ite {p : Prop} [Decidable p] {o : Option D} : k0 (if p then o else none) mem nx K = (p ∧ k0 o mem nx K) := by by_cases h : p <;> simp [h, k0]
@[simp 900] theorem km_ite {p : Prop} [Decidable p] {o : Option (D × Mem)} : km (if p then o else none) nx K = (p ∧ km o nx K) := by by_cases h : p <;> simp [h, km]
@[simp] theorem rdc_pt : rdc mem n (.pt cs) = if n ≤ cs.length then some (cs.take n) else none := (rfl)
def boxOf : Blk → Option (List D)
  | .box cs => some cs
  | _ => none
def arrOf (ver : Nat) : Blk → Option (Nat × List (List D))
  | .arr v k es => if v = ver then some (k, es) else none
  | _ => none
@[simp] theorem boxOf_box : boxOf (.box cs) = some cs := (rfl)
@[simp] theorem arrOf_arr {v k : Nat} {es : List (List D)} : arrOf ver (.arr v k es) = if v = ver then some (k, es) else none := (rfl)
@[simp] theorem rdc_opt : rdc mem n (.opt id off) = (look mem id).bind fun b => (boxOf b).bind fun cs => if off + n ≤ cs.length then some ((cs.drop off).take n) else none := by
  simp only [rdc]
  cases look mem id with
  | none => rfl
  | some b => cases b <;> rfl
@[simp] theorem rdc_oel : rdc mem n (.oel id ver i off) = (look mem id).bind fun b => (arrOf ver b).bind fun p => p.2[i]?.bind fun e => if off + n ≤ e.length then some ((e.drop off).take n) else none := by
  simp only [rdc]
  cases look mem id with
  | none => rfl
  | some b =>
    cases b with
    | arr v k es =>
      simp only [Option.bind_some, arrOf_arr, bind_ite]
      split
      · cases es[i]? <;> rfl
      · rfl
    | _ => rfl
@[simp] theorem ld_eq : ldD mem g n x = (rdc mem n x).bind (mkv g) := by unfold ldD; cases rdc mem n x <;> rfl
@[simp] theorem wrc_opt : wrc mem n (.opt id off) new = if new.length = n ∧ new.all D.cell = true then (look mem id).bind fun b => (boxOf b).bind fun cs => if off + n ≤ cs.length then some (upd mem id (.box (place off cs new))) else none else none := by
  simp only [wrc]
  split
  · cases look mem id with
    | none => rfl
    | some b => cases b <;> rfl
  · rfl
@[simp] theorem wrc_oel : wrc mem n (.oel id ver i off) new = if new.length = n ∧ new.all D.cell = true then (look mem id).bind fun b => (arrOf ver b).bind fun p => p.2[i]?.bind fun e => if off + n ≤ e.length then some (upd mem id (.arr ver p.1 (p.2.set i (place off e new)))) else none else none := by
  simp only [wrc]
  split
  · cases look mem id with
    | none => rfl
    | some b =>
      cases b with
      | arr v k es =>
        simp only [Option.bind_some, arrOf_arr, bind_ite]
        split
        · rename_i h; subst h; cases es[i]? <;> rfl
        · rfl
      | _ => rfl
  · rfl
@[simp] theorem stM_some {a : D} : stM mem n (some a) (some x) = (wrc mem n a x.cells).bind fun m => some (.top, m) := by simp only [stM]; cases wrc mem n a x.cells <;> rfl
@[simp] theorem ia_osl {k : Nat} {j : IntKind} {i : Int} : iaD mem k (.osl id ver lo n) (.pl (.int j i)) = if cur mem id ver k = true then (if 0 ≤ i ∧ i < n then some (.oel id ver (lo + i.toNat) 0) else none) else none := (rfl)
end

theorem cv_int {s d : TypeId} {k j : IntKind} {n : Int} (hs : P.underlying s = some (.int k)) (hd : P.underlying d = some (.int j)) : cvD P s d (.pl (.int k n)) = some (.pl (.int j (j.wrap n))) := by
  simp [cvD, lit, convert, underlying, program, Bind.bind, Sem.bind, Sem.look, hs, hd, Pure.pure, Conv.intToInt]

theorem get_map {α : Type} [Inhabited α] (f : α → List D) (l : List α) (i : Nat) : (l.map f)[i]? = if i < l.length then some (f (l[i]?.getD default)) else none := by
  by_cases h : i < l.length
  · simp [h]
  · rw [if_neg h]; simp; omega

/-- An element of a slice that is read as a list. -/
theorem ia_map {α : Type} [Inhabited α] {f : α → List D} {l : List α} {k : Nat} {j : IntKind} {i : Int} (hk : ∀ x, (f x).length = k) :
    iaD mem k (.sl (l.map f)) (.pl (.int j i)) = if 0 ≤ i ∧ i < l.length then some (.pt (f (l.getD i.toNat default))) else none := by
  simp only [iaD, List.length_map]
  by_cases h : 0 ≤ i ∧ i < l.length
  · have hi : i.toNat < l.length := by omega
    rw [if_pos h, if_pos h]
    simp [List.getElem?_map, List.getElem?_eq_getElem hi, hk, List.getD_eq_getElem?_getD]
  · rw [if_neg h, if_neg h]
end
end Go.Fx

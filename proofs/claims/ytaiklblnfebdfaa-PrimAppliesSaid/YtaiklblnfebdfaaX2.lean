/-
  A program's code, resolved: each operation with its sizes and places, its operands told apart (made in this region, or a variable).
-/
import Derived.Test.YtaiklblnfebdfaaX1
set_option linter.all false
namespace Go.Fx
open Go

inductive Opd where
  | t (j : Nat)
  | g (j : Nat)
  | c (v : Value)
  | f (i : FuncId)

inductive Dst where
  | no
  | t (j : Nat)
  | g (j : Nat)

/-- What an operation does. Up to 'pc' (a call by a contract) it changes nothing that is owned; 'al' to 'apn' make an owned block; the others write. -/
inductive I where
  | mv (x : Opd)
  | pick (c a b : Opd)
  | bld (zero : List Value) (parts : List (Nat × Nat × Opd))
  | bsl (k len : Nat) (zero : List Value) (parts : List (Nat × Nat × Opd))
  | z0
  | ld (agg : Bool) (n : Nat) (x : Opd)
  | chk (x : Opd)
  | bin (op : BinOp) (ty : TypeId) (x y : Opd)
  | un (op : UnOp) (x : Opd)
  | cv (src dst : TypeId) (x : Opd)
  | fa (off : Nat) (x : Opd)
  | fld (agg : Bool) (n off : Nat) (x : Opd)
  | ia (k : Nat) (x i : Opd)
  | iaa (len k : Nat) (x i : Opd)
  | ixs (x i : Opd)
  | ext (i : Nat) (x : Opd)
  | len (s : Bool) (x : Opd)
  | bi (b : Builtin) (args : List Opd)
  | sls (s : Bool) (k : Nat) (x : Opd) (lo hi : Option Opd)
  | mkf (i : FuncId) (caps : List Opd)
  | bxi (x : Opd)
  | mki (k bytes : Nat) (zero : List Value) (n : Opd)
  | lk (kd : Option IntKind) (z : Value) (two : Bool) (m k : Opd)
  | lnm (x : Opd)
  | mkm
  | pc (fn : Opd) (args : List Opd)
  | al (zero : List Value)
  | bx (x : Opd)
  | bso (k len : Nat) (zero : List Value) (parts : List (Nat × Nat × Opd))
  | mks (k bytes : Nat) (zero : List Value) (n : Opd)
  | apn (k bytes : Nat) (zero : List Value) (x y : Opd)
  | st (n : Nat) (a x : Opd)
  | sta (n : Nat) (a x : Opd) (ps : List Opd)
  | app (k bytes : Nat) (zero : List Value) (x y : Opd)
  | mup (kd : Option IntKind) (m k v : Opd)
  | cl (fn : Opd) (args : List Opd)

/-- Operations that change nothing that is owned, or make a block of their own. -/
def I.free : I → Bool
  | .st .. | .sta .. | .app .. | .mup .. | .cl .. => false
  | _ => true

structure Ins where
  dst : Dst
  guard : Option (Opd × Bool)
  i : I

inductive AC where
  | skip
  | reg (ins : List Ins)
  | ifr (ins : List Ins) (c : Opd) (x y : AC)
  | seq (x y : AC)
  | cond (c : Opd) (x y : AC)
  | block (id : Nat) (x : AC)
  | loop (x : AC)
  | exit (id : Nat)
  | scope (x : AC)
  | label (l : Nat)
  | goto (l : Nat)
  | ret

def Program.tsz (P : Program) (t : TypeId) : Option (Bool × Nat) :=
  match P.underlying t, P.info? t with
  | some d, some i => some (d.isRow, i.size)
  | _, _ => none

def Program.zeroOf (P : Program) (t : TypeId) : Option (List Value) :=
  match P.info? t with
  | some i => match i.zero with
    | some v => some v.cells.toList
    | none => none
  | none => none

namespace Cfg
variable (C : Cfg)

def opd : Operand → Option Opd
  | .tmp t => some (if C.gs.contains t then .g t else .t t)
  | .const v => some (.c v)
  | .func f => some (.f f)
  | .global _ => none

def opdo : Option Operand → Option (Option Opd)
  | none => some none
  | some x => match C.opd x with
    | some y => some (some y)
    | none => none

def opds (l : List Operand) : Option (List Opd) := l.mapM C.opd

def dst : Option Tmp → Option Dst
  | none => some .no
  | some t => if t < C.n then some (if C.gs.contains t then .g t else .t t) else none

def owned : Option Tmp → Bool
  | none => false
  | some t => C.own.contains t

def parts (place : Nat → Option (Nat × Nat)) (l : List (Nat × Operand)) : Option (List (Nat × Nat × Opd)) :=
  l.mapM fun (i, x) => match place i, C.opd x with
    | some (o, n), some x => some (o, n, x)
    | _, _ => none

def fieldPlaces (fs : Array Field) (i : Nat) : Option (Nat × Nat) :=
  match fs[i]? with
  | some f => match Program.tsz C.P f.type with
    | some (_, n) => some (f.offset, n)
    | none => none
  | none => none

def call (own : Bool) (callee : Callee) (args : List Operand) (argTypes : List TypeId) : Option I := do
  let xs ← C.opds args
  match callee with
  | .value f =>
    let f ← C.opd f
    some (if own then .cl f xs else .pc f xs)
  | .invoke .. => none
  | .builtin b =>
    match b, xs, argTypes with
    | .len, [x], t :: _ => match C.P.underlying t with
      | some .string => some (.len true x)
      | some (.slice _) => some (.len false x)
      | some (.map _ _) => some (.lnm x)
      | _ => none
    | .append, [x, y], t :: u :: _ =>
      match C.P.underlying t, C.P.underlying u with
      | some (.slice e), some (.slice _) =>
        match Program.tsz C.P e, C.P.info? e, Program.zeroOf C.P e with
        | some (_, k), some inf, some z => if 0 < k ∧ z.length = k ∧ 0 < inf.bytes ∧ inf.bytes ≤ 2 ^ 20 then some (if own then .app k inf.bytes z x y else .apn k inf.bytes z x y) else none
        | _, _, _ => none
      | _, _ => none
    | .max, _, _ => some (.bi b xs)
    | .min, _, _ => some (.bi b xs)
    | .real, _, _ => some (.bi b xs)
    | .imag, _, _ => some (.bi b xs)
    | .complex, _, _ => some (.bi b xs)
    | _, _, _ => none

/-- Keys that are whole numbers of one kind, or texts. -/
def keyKind (t : TypeId) : Option (Option IntKind) :=
  match C.P.underlying t with
  | some (.int k) => some (some k)
  | some .string => some none
  | _ => none

def op (own : Bool) : Op → Option I
  | .move x | .assign x => (C.opd x).map .mv
  | .pick c a b => do some (.pick (← C.opd c) (← C.opd a) (← C.opd b))
  | .alloc e => (Program.zeroOf C.P e).map .al
  | .box _ x => (C.opd x).map fun x => if own then .bx x else .bxi x
  | .build t ps =>
    match Program.zeroOf C.P t, C.P.underlying t with
    | some z, some (.struct fs) => if fs.toList.all (fun f => (C.P.info? f.type).isSome) then (C.parts (C.fieldPlaces fs) ps.toList).map (.bld z) else none
    | some z, some (.array _ e) => match Program.tsz C.P e with
      | some (_, k) => (C.parts (fun i => some (i * k, k)) ps.toList).map (.bld z)
      | none => none
    | _, _ => none
  | .buildSlice t len ps =>
    match C.P.underlying t with
    | some (.slice e) => match Program.tsz C.P e, Program.zeroOf C.P e with
      | some (_, k), some z =>
        if len = 0 then (if ps.toList.isEmpty then some .z0 else none) else
        if len * k ≤ 2 ^ 24 ∧ 0 < k ∧ z.length = k then (C.parts (fun i => some (i * k, k)) ps.toList).map fun q => if own then .bso k len z q else .bsl k len z q else none
      | _, _ => none
    | _ => none
  | .load t a => match Program.tsz C.P t with
    | some (g, n) => (C.opd a).map (.ld g n)
    | none => none
  | .store t a x => match Program.tsz C.P t with
    | some (_, n) => do some (.st n (← C.opd a) (← C.opd x))
    | none => none
  | .nilCheck x => (C.opd x).map .chk
  | .binOp b t x y _ => do some (.bin b t (← C.opd x) (← C.opd y))
  | .unOp u _ x => (C.opd x).map (.un u)
  | .convert s d x => (C.opd x).map (.cv s d)
  | .makeFunc (.func f) first caps => if first.toList.isEmpty then (C.opds caps.toList).map (.mkf f) else none
  | .makeSlice t l c =>
    match C.P.underlying t with
    | some (.slice e) => match Program.tsz C.P e, C.P.info? e, Program.zeroOf C.P e, l, c with
      | some (_, k), some inf, some z, .tmp i, .tmp j => if i = j ∧ 0 < k ∧ z.length = k ∧ 0 < inf.bytes then (C.opd l).map fun x => if own then .mks k inf.bytes z x else .mki k inf.bytes z x else none
      | some (_, k), some inf, some z, .const (.int .i64 a), .const (.int .i64 b) => if a = b ∧ 0 < k ∧ z.length = k ∧ 0 < inf.bytes then (C.opd l).map fun x => if own then .mks k inf.bytes z x else .mki k inf.bytes z x else none
      | _, _, _, _, _ => none
    | _ => none
  | .slice t x lo hi none =>
    match C.P.underlying t with
    | some .string => do some (.sls true 0 (← C.opd x) (← C.opdo lo) (← C.opdo hi))
    | some (.slice e) => match Program.tsz C.P e with
      | some (_, k) => do some (.sls false k (← C.opd x) (← C.opdo lo) (← C.opdo hi))
      | none => none
    | _ => none
  | .fieldAddr s x f =>
    match C.P.underlying s with
    | some (.struct fs) => match fs[f]? with
      | some fd => match Program.tsz C.P fd.type with
        | some (_, n) => if n = 0 then none else (C.opd x).map (.fa fd.offset)
        | none => none
      | none => none
    | _ => none
  | .field s x f =>
    match C.P.underlying s with
    | some (.struct fs) => match fs[f]? with
      | some fd => match Program.tsz C.P fd.type with
        | some (g, n) => (C.opd x).map (.fld g n fd.offset)
        | none => none
      | none => none
    | _ => none
  | .indexAddr t x i =>
    match C.P.underlying t with
    | some (.slice e) => match Program.tsz C.P e with
      | some (_, k) => do some (.ia k (← C.opd x) (← C.opd i))
      | none => none
    | some (.array len e) => match Program.tsz C.P e with
      | some (_, k) => do some (.iaa len k (← C.opd x) (← C.opd i))
      | none => none
    | _ => none
  | .index t x i =>
    match C.P.underlying t with
    | some .string => do some (.ixs (← C.opd x) (← C.opd i))
    | _ => none
  | .extract x i => (C.opd x).map (.ext i)
  | .makeMap t none => match C.P.underlying t with
    | some (.map _ _) => some .mkm
    | _ => none
  | .lookup t x i two => match C.P.underlying t with
    | some (.map kt et) => match C.keyKind kt, C.P.info? et with
      | some kd, some inf => match inf.zero with
        | some z => do some (.lk kd z two (← C.opd x) (← C.opd i))
        | none => none
      | _, _ => none
    | _ => none
  | .mapUpdate t m i x => match C.P.underlying t with
    | some (.map kt _) => match C.keyKind kt with
      | some kd => do some (.mup kd (← C.opd m) (← C.opd i) (← C.opd x))
      | none => none
    | _ => none
  | .call c => C.call own c.callee c.args.toList c.argTypes.toList
  | _ => none

def guardO (ops : Array Oper) : Option (Nat × Bool) → Option (Option (Opd × Bool))
  | none => some none
  | some (j, want) => match (ops[j]?).bind (·.dst) with
    | some t => some (some (if C.gs.contains t then Opd.g t else Opd.t t, want))
    | none => none

def ins (ops : Array Oper) (o : Oper) : Option Ins :=
  match C.dst o.dst, C.guardO ops o.guard, C.op (C.owned o.dst) o.op with
  | some d, some g, some i => some ⟨d, g, i⟩
  | _, _, _ => none

/-- The slots that an operation reads. -/
def seesO : Opd → List Nat
  | .t j => [j]
  | .g j => [j]
  | _ => []

def dstO : Dst → List Nat
  | .no => []
  | .t j => [j]
  | .g j => [j]

def seesI : I → List Nat
  | .mv x | .ld _ _ x | .chk x | .un _ x | .cv _ _ x | .fa _ x | .fld _ _ _ x | .ext _ x | .len _ x | .bxi x | .bx x => seesO x
  | .mki _ _ _ x | .mks _ _ _ x => seesO x
  | .pick c a b => seesO c ++ seesO a ++ seesO b
  | .bld _ ps => ps.flatMap fun p => seesO p.2.2
  | .bsl _ _ _ ps | .bso _ _ _ ps => ps.flatMap fun p => seesO p.2.2
  | .z0 | .al _ | .mkm => []
  | .lnm x => seesO x
  | .lk _ _ _ x y => seesO x ++ seesO y
  | .mup _ m k v => seesO m ++ seesO k ++ seesO v
  | .bin _ _ x y | .ia _ x y | .iaa _ _ x y | .ixs x y => seesO x ++ seesO y
  | .bi _ xs | .mkf _ xs => xs.flatMap seesO
  | .sls _ _ x lo hi => seesO x ++ (match lo with | some l => seesO l | none => []) ++ (match hi with | some l => seesO l | none => [])
  | .pc f xs | .cl f xs => seesO f ++ xs.flatMap seesO
  | .apn _ _ _ x y | .app _ _ _ x y => seesO x ++ seesO y
  | .st _ a x => seesO a ++ seesO x
  | .sta _ a x ps => seesO a ++ seesO x ++ ps.flatMap seesO

def sees (x : Ins) : List Nat := (match x.guard with | some (g, _) => seesO g | none => []) ++ seesI x.i

/-- Does it look at owned blocks? -/
def looksI : I → Bool
  | .ld .. | .ia .. | .iaa .. | .len .. | .sls .. | .fa .. | .apn .. | .lk .. | .lnm .. => true
  | _ => false
/-- Does it make an owned block? -/
def makesI : I → Bool
  | .al _ | .bx _ | .bso .. | .mks .. | .apn .. | .mkm => true
  | _ => false

/-- It neither looks at owned blocks nor makes nor writes any. -/
def quietI (i : I) : Bool := i.free && (!looksI i && !makesI i)

def callI : I → Bool
  | .cl .. => true
  | _ => false

/-- Neither writes what the other one writes or reads. -/
def slotsApart (x y : Ins) : Bool := ((dstO x.dst).all fun d => !(dstO y.dst).contains d && !(sees y).contains d) && (dstO y.dst).all fun d => !(sees x).contains d

/-- The operands whose owned blocks an operation looks at. -/
def lookO : I → List Opd
  | .ld _ _ x | .fa _ x | .ia _ x _ | .iaa _ _ x _ | .len _ x | .sls _ _ x _ _ => [x]
  | .apn _ _ _ _ y => [y]
  | .lk _ _ _ x _ | .lnm x => [x]
  | _ => []

/-- The same slot. -/
def sameO : Opd → Opd → Bool
  | .t j, .t k => j == k
  | .g j, .g k => j == k
  | _, _ => false

/-- Of which operand's block a value tells a part. -/
def partO : I → Option Opd
  | .mv p | .fa _ p | .chk p | .ia _ p _ | .iaa _ _ p _ => some p
  | _ => none

def rootOf (rm : List (Nat × Opd)) : Opd → Opd
  | .t k => match rm.find? (fun e => e.1 == k) with
    | some e => e.2
    | none => .t k
  | p => p

def rootFold (rm : List (Nat × Opd)) : List Ins → List (Nat × Opd)
  | [] => rm
  | x :: is => rootFold (match x.dst, partO x.i with
    | .t j, some p => if sameO (rootOf rm p) (rootOf rm p) then (j, rootOf rm p) :: rm else rm
    | _, _ => rm) is

/-- Is it written? -/
def writes (d : Dst) : Opd → Bool
  | .t j => match d with | .t k => j == k | _ => false
  | .g j => match d with | .g k => j == k | _ => false
  | _ => false

/-- Where the parts of blocks that a region makes come from: variables that it does not write. -/
def roots (is : List Ins) : List (Nat × Opd) := (rootFold [] is).filter fun e => is.all fun x => !writes x.dst e.2

/-- What an operation lays down fits what is told of the roots. -/
def rootFits (rm : List (Nat × Opd)) (x : Ins) : Bool :=
  (rm.all fun e => !writes x.dst e.2) && (match x.dst with
  | .t j => rm.all fun e => e.1 != j || (match partO x.i with
    | some p => sameO (rootOf rm p) e.2
    | none => false)
  | _ => true)

/-- The younger one writes into a block; the blocks that the elder one looks at or writes into are told to be others. -/
def staI (rm : List (Nat × Opd)) (x y : I) : Bool :=
  match x, y with
  | .st _ a _, .sta _ _ _ ps | .sta _ a _ _, .sta _ _ _ ps => ps.any (sameO (rootOf rm a))
  | x, .sta _ _ _ ps => x.free && (!makesI x && (lookO x).all fun p => ps.any (sameO (rootOf rm p)))
  | _, _ => false

/-- Of two operations, the elder one first: they may change places. -/
def swapI (rm : List (Nat × Opd)) (x y : Ins) : Bool := slotsApart x y && ((quietI y.i && !callI x.i) || quietI x.i || (x.i.free && y.i.free) || staI rm x.i y.i)

/-- Slots are what they are told to be. -/
def fitO (gs : List Nat) : Opd → Bool
  | .t j => !gs.contains j
  | .g j => gs.contains j
  | _ => true

/-- A region that draws its order: two operations whose order is open may change places. -/
def drawOk (gs : List Nat) (ops : Array Oper) (is : List Ins) : Bool :=
  let b := Region.before ops
  (ops.toList.zipIdx.all fun (o, i) => o.after.toList.all fun e => !Region.binds .any e || e.on < i) &&
  (is.all (fun x => (lookO x.i).all (fitO gs) && rootFits (roots is) x) &&
  is.zipIdx.all fun (y, j) => is.zipIdx.all fun (x, i) => if i < j then (b.getD j 0).testBit i || swapI (roots is) x y else true)

/-- A store whose order with elder looks and stores is open: their blocks are to be others than its own. -/
def tellI (b : Nat) (is : List Ins) (y : Ins) (j : Nat) : Ins :=
  match y.i with
  | .st n a x => match (is.take j).zipIdx.flatMap fun (z, i) => if b.testBit i then [] else (match z.i with | .st _ a _ => [rootOf (roots is) a] | i => (lookO i).map (rootOf (roots is))) with
    | [] => y
    | ps => ⟨y.dst, y.guard, .sta n a x ps⟩
  | _ => y

def tell (ops : Array Oper) (is : List Ins) : List Ins :=
  let b := Region.before ops
  is.zipIdx.map fun (y, j) => tellI (b.getD j 0) is y j

def comp : Code → Option AC
  | .skip => some .skip
  | .region _ ops draw => do
    let is ← ops.toList.mapM (C.ins ops)
    if draw then (if drawOk C.gs ops (tell ops is) && C.P.follows .mixedOrders then some (.reg (tell ops is)) else none) else some (.reg is)
  | .seq x y => do
    let a ← comp x
    let b ← comp y
    match a, b with
    | .reg is, .cond c x y => some (.ifr is c x y)
    | .reg is, .seq (.cond c x y) z => some (.seq (.ifr is c x y) z)
    | _, _ => some (.seq a b)
  | .cond c x y => do some (.cond (← C.opd c) (← comp x) (← comp y))
  | .block id x => do some (.block id (← comp x))
  | .loop x => do some (.loop (← comp x))
  | .exit id => some (.exit id)
  | .scope x => do some (.scope (← comp x))
  | .label l => some (.label l)
  | .goto l => some (.goto l)
  | .ret => some .ret
  | .rangeFunc .. | .refuse _ => none
end Cfg
end Go.Fx

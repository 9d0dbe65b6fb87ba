/-
  The run of resolved code on deep values, as a condition on the state that it begins in.
-/
import Derived.Test.YtaiklblnfebdfaaX2
set_option linter.all false
namespace Go.Fx
open Go

/-- What the model's own operation tells of plain values, where it looks at the program alone. -/
def Sem.look (P : Program) {α : Type} : Sem α → Option α
  | .pure a => some a
  | .program k => Sem.look P (k P)
  | _ => none

def D.cells : D → List D
  | .agg cs => cs
  | d => [d]

/-- A cell's value (no struct, no tuple). -/
def D.cell : D → Bool
  | .pl (.agg _) => false
  | .pl (.tuple _) => false
  | .agg _ => false
  | .tup _ => false
  | .top => false
  | _ => true

/-- A struct, or a cell. -/
def D.solid : D → Bool
  | .agg _ => true
  | d => d.cell

def mkv (g : Bool) (cs : List D) : Option D :=
  if g then some (.agg cs) else match cs with
    | [d] => some d
    | _ => none

def rdc (mem : Mem) (n : Nat) : D → Option (List D)
  | .pt cs => if n ≤ cs.length then some (cs.take n) else none
  | .opt id off => match look mem id with
    | some (.box cs) => if off + n ≤ cs.length then some ((cs.drop off).take n) else none
    | _ => none
  | .oel id ver i off => match look mem id with
    | some (.arr v _ es) => if v = ver then (match es[i]? with
      | some e => if off + n ≤ e.length then some ((e.drop off).take n) else none
      | none => none) else none
    | _ => none
  | _ => none

def place (off : Nat) (cs new : List D) : List D := cs.take off ++ new ++ cs.drop (off + new.length)

def fillD (cells : List D) : List (Nat × Nat × D) → Option (List D)
  | [] => some cells
  | (off, n, d) :: r => if d.solid = true ∧ d.cells.length = n ∧ off + n ≤ cells.length then fillD (place off cells d.cells) r else none

/-- A plain value, whole. -/
def D.val : D → Option Value
  | .pl v => some v
  | .fn f [] => some (.func (.func f) #[] #[])
  | _ => none

def D.vals : List D → Option (List Value)
  | [] => some []
  | d :: ds => match D.val d, D.vals ds with
    | some v, some vs => some (v :: vs)
    | _, _ => none

def lit : Value → Bool
  | .nilIface => false
  | .iface _ _ => false
  | .agg _ => false
  | .tuple _ => false
  | .map _ => false
  | .chan _ => false
  | .func _ _ _ => false
  | .pointer (some _) => false
  | .slice (some _) _ _ => false
  | _ => true

/-- '==' and '!=' of a pointer with nil, of structs of plain values; else what the model tells of plain values. -/
def binD (P : Program) (op : BinOp) (ty : TypeId) (x y : D) : Option D :=
  match x, y with
  | .pl a, .pl b => if lit a && lit b then (Sem.look P (binOp op ty a b)).map .pl else none
  | .agg xs, .agg ys => match D.vals xs, D.vals ys with
    | some a, some b => (Sem.look P (do eqGuard op ty (.tmp 0) (.tmp 0) (.agg a.toArray) (.agg b.toArray); binOp op ty (.agg a.toArray) (.agg b.toArray))).map .pl
    | _, _ => none
  | .pt _, .pl (.pointer none) | .opt _ _, .pl (.pointer none) =>
    match op, P.underlying ty with
    | .eql, some (.pointer _) => some (.pl (.bool false))
    | .neq, some (.pointer _) => some (.pl (.bool true))
    | _, _ => none
  | _, _ => none

def unD (P : Program) (op : UnOp) : D → Option D
  | .pl a => if lit a then (Sem.look P (Op.unary op a)).map .pl else none
  | _ => none

def cvD (P : Program) (s d : TypeId) : D → Option D
  | .pl a => if lit a then (Sem.look P (convert s d a)).map .pl else none
  | _ => none

def biD (P : Program) (b : Builtin) (xs : List D) : Option D :=
  match D.vals xs with
  | some vs => if vs.all lit then (match b with
    | .max => (Sem.look P (Builtin.max_ #[] 0 vs.toArray)).map .pl
    | .min => (Sem.look P (Builtin.min_ #[] 0 vs.toArray)).map .pl
    | .real => (Sem.look P (Builtin.real_ #[] 0 vs.toArray)).map .pl
    | .imag => (Sem.look P (Builtin.imag_ #[] 0 vs.toArray)).map .pl
    | .complex => (Sem.look P (Builtin.complex_ #[] 0 vs.toArray)).map .pl
    | _ => none) else none
  | none => none

/-- Is it the row's own version? -/
def cur (mem : Mem) (id ver k : Nat) : Bool :=
  match look mem id with
  | some (.arr v k' _) => v == ver && k' == k
  | _ => false
def curv (mem : Mem) (id ver : Nat) : Bool :=
  match look mem id with
  | some (.arr v _ _) => v == ver
  | _ => false

def lenD (mem : Mem) (s : Bool) : D → Option D
  | .sl es => if s then none else some (.pl (.int .i64 es.length))
  | .osl id ver _ n => if s || !curv mem id ver then none else some (.pl (.int .i64 n))
  | .pl (.slice none 0 0) => if s then none else some (.pl (.int .i64 0))
  | .zs => if s then none else some (.pl (.int .i64 0))
  | .pl (.string b) => if s then some (.pl (.int .i64 b.size)) else none
  | _ => none

def iaD (mem : Mem) (k : Nat) (x i : D) : Option D :=
  match x, i with
  | .sl es, .pl (.int _ i) => if 0 ≤ i ∧ i < es.length then (match es[i.toNat]? with
    | some e => if e.length = k then some (.pt e) else none
    | none => none) else none
  | .osl id ver lo n, .pl (.int _ i) => if cur mem id ver k then (if 0 ≤ i ∧ i < n then some (.oel id ver (lo + i.toNat) 0) else none) else none
  | _, _ => none

def faD (mem : Mem) (off : Nat) : D → Option D
  | .pt cs => if off ≤ cs.length then some (.pt (cs.drop off)) else none
  | .opt id o => some (.opt id (o + off))
  | .oel id ver i o => if curv mem id ver then some (.oel id ver i (o + off)) else none
  | _ => none

/-- An element of an array behind an address. -/
def iaaD (mem : Mem) (len k : Nat) (x i : D) : Option D :=
  match i with
  | .pl (.int _ i) => if 0 ≤ i ∧ i < len then faD mem (i.toNat * k) x else none
  | _ => none

/-- A byte of a text. -/
def ixsD (x i : D) : Option D :=
  match x, i with
  | .pl (.string s), .pl (.int _ i) => match (if 0 ≤ i then s[i.toNat]? else none) with
    | some b => some (.pl (.int .u8 b.toNat))
    | none => none
  | _, _ => none

def kOk : Option IntKind → Value → Bool
  | some k, .int j _ => decide (j = k)
  | none, .string _ => true
  | _, _ => false
def keyEq : Value → Value → Bool
  | .int _ a, .int _ b => a == b
  | .string a, .string b => decide (a = b)
  | _, _ => false
def mfind (k : Value) : List (Value × D) → Option D
  | [] => none
  | e :: es => if keyEq e.1 k then some e.2 else mfind k es
def mput (k : Value) (v : D) : List (Value × D) → List (Value × D)
  | [] => [(k, v)]
  | e :: es => if keyEq e.1 k then (k, v) :: es else e :: mput k v es
/-- A value without anything, as a deep one. -/
def zD : Value → D
  | .agg cs => .agg (cs.toList.map .pl)
  | v => .pl v
/-- The entries of a map that is looked into: a nil one has none. -/
def mapOf (mem : Mem) (kd : Option IntKind) : D → Option (List (Value × D))
  | .omap id => match look mem id with
    | some (.map es) => if es.all (fun e => kOk kd e.1) then some es else none
    | _ => none
  | .pl (.map none) => some []
  | _ => none
def lkD (mem : Mem) (kd : Option IntKind) (z : Value) (two : Bool) (m k : D) : Option D :=
  match k, mapOf mem kd m with
  | .pl k, some es => if kOk kd k then some (match mfind k es with
    | some v => if two then .tup [v, .pl (.bool true)] else v
    | none => if two then .tup [zD z, .pl (.bool false)] else zD z) else none
  | _, _ => none
def lnmD (mem : Mem) : D → Option D
  | .omap id => match look mem id with
    | some (.map es) => some (.pl (.int .i64 es.length))
    | _ => none
  | .pl (.map none) => some (.pl (.int .i64 0))
  | _ => none
def mupM (mem : Mem) (kd : Option IntKind) (m k v : Option D) : Option (D × Mem) :=
  match m, k, v with
  | some (.omap id), some (.pl k), some v => match look mem id with
    | some (.map es) => if kOk kd k ∧ es.all (fun e => kOk kd e.1) then some (.top, upd mem id (.map (mput k v es))) else none
    | _ => none
  | _, _, _ => none

def bound (x : Option D) (d : Nat) : Option Int :=
  match x with
  | none => some d
  | some (.pl (.int _ i)) => some i
  | _ => none

def slsD (mem : Mem) (s : Bool) (k : Nat) (x : D) (lo hi : Option D) : Option D :=
  match x with
  | .sl es => if s then none else match bound lo 0, bound hi es.length with
    | some l, some h => if (0 ≤ l ∧ l ≤ h ∧ h ≤ es.length) ∧ (l = 0 ∨ es.all (fun e => e.length == k) = true) then some (.sl ((es.take h.toNat).drop l.toNat)) else none
    | _, _ => none
  | .osl id ver o n => if s || !curv mem id ver then none else match bound lo 0, bound hi n with
    | some l, some h => if l = 0 ∧ 0 ≤ h ∧ h ≤ n then some (.osl id ver o h.toNat) else none
    | _, _ => none
  | .pl (.string b) => if s then (match bound lo 0, bound hi b.size with
    | some l, some h => if 0 ≤ l ∧ l ≤ h ∧ h ≤ b.size then some (.pl (.string (b.extract l.toNat h.toNat))) else none
    | _, _ => none) else none
  | .pl (.slice none 0 0) => if s then none else match bound lo 0, bound hi 0 with
    | some l, some h => if l = 0 ∧ h = 0 then some (.pl (.slice none 0 0)) else none
    | _, _ => none
  | .zs => if s then none else match bound lo 0, bound hi 0 with
    | some l, some h => if l = 0 ∧ h = 0 then some .zs else none
    | _, _ => none
  | _ => none

def ro (tl env : Env) : Opd → Option D
  | .t j => look tl j
  | .g j => look env j
  | .c v => some (.pl v)
  | .f i => some (.fn i [])

def ros (tl env : Env) : List Opd → Option (List D)
  | [] => some []
  | x :: xs => match ro tl env x, ros tl env xs with
    | some d, some ds => some (d :: ds)
    | _, _ => none

def rps (tl env : Env) : List (Nat × Nat × Opd) → Option (List (Nat × Nat × D))
  | [] => some []
  | (o, n, x) :: xs => match ro tl env x, rps tl env xs with
    | some d, some ds => some ((o, n, d) :: ds)
    | _, _ => none

def chunks (k : Nat) : Nat → List D → List (List D)
  | 0, _ => []
  | n + 1, cs => cs.take k :: chunks k n (cs.drop k)

def bslD (k len : Nat) (zero : List Value) (ps : List (Nat × Nat × D)) : Option (List (List D)) :=
  (fillD ((List.replicate len (zero.map D.pl)).flatten) ps).map (chunks k len)

def ob {α : Type} (o : Option α) (K : α → Prop) : Prop :=
  match o with
  | some d => K d
  | none => False

def extD (i : Nat) : D → Option D
  | .tup ds => ds[i]?
  | _ => none

def chkD : D → Option D
  | .pt cs => some (.pt cs)
  | .opt id o => some (.opt id o)
  | .fn f c => some (.fn f c)
  | _ => none

def fldD (g : Bool) (n off : Nat) : D → Option D
  | .agg cs => if off + n ≤ cs.length then mkv g ((cs.drop off).take n) else none
  | _ => none

/-- A function that has a text. -/
def Enter (P : Program) (f : FuncId) : Prop := ∃ fn, P.funcs[f]? = some fn ∧ (fn.name == "runtime.NumGoroutine") = false ∧ fn.body.isNone = false

def noLocs : Locs := fun _ => none

/-- A function's contract: what is handed in and what comes back are deep values; nothing that is owned is seen. -/
def Pure (P : Program) (f : FuncId) (args : List D) (res : D) : Prop :=
  Enter P f ∧ ∀ (S : Nat → Prop) (w : World) (xs : List Value), (∀ b, S b → b < w.heap.size) → RepVs w S noLocs args xs →
    Calls P f xs.toArray w fun e w' => ∃ v S', e = .returned v ∧ Rep w' S' noLocs res v ∧ Ext S noLocs [] w S' noLocs [] w' ∧ ∀ b, S' b → b < w'.heap.size

/-- A function without a text that comes to a value at once. -/
def Extn (P : Program) (f : FuncId) (args : List D) (res : D) : Prop :=
  ∀ (S : Nat → Prop) (φ : Locs) (w : World) (xs : List Value), RepVs w S φ args xs → ∃ v, Rep w S φ res v ∧ (callFunc f xs.toArray).run P w = .ok (.value v) w

mutual
/-- Nothing owned in it. -/
def D.imm : D → Bool
  | .top => true
  | .zs => true
  | .pl _ => true
  | .sl es => D.immss es
  | .pt cs => D.imms cs
  | .opt _ _ | .osl _ _ _ _ | .oel _ _ _ _ | .omap _ => false
  | .fn _ caps => D.imms caps
  | .agg cs => D.imms cs
  | .tup ds => D.imms ds
def D.imms : List D → Bool
  | [] => true
  | d :: ds => D.imm d && D.imms ds
def D.immss : List (List D) → Bool
  | [] => true
  | e :: es => D.imms e && D.immss es
end

/-- What a call of f with these values comes to. -/
def CallT (P : Program) (f : FuncId) (args : List D) (mem : Mem) (nx : Nat) (K : D → Mem → Nat → Prop) : Prop :=
  Enter P f ∧ ∀ (S : Nat → Prop) (φ : Locs) (w : World) (xs : List Value), MSim S φ mem nx w → RepVs w S φ args xs →
    Calls P f xs.toArray w fun e w' => ∃ v d mem' nx' S' φ', e = .returned v ∧ K d mem' nx' ∧ nx ≤ nx' ∧ MSim S' φ' mem' nx' w' ∧ Rep w' S' φ' d v ∧ Stays w S φ w' S' φ' ∧ Ext S φ mem w S' φ' mem' w' ∧
      ∀ i, i < nx → φ i = none → φ' i = none

def put (d : Dst) (v : D) (env tl : Env) (K : Env → Env → Prop) : Prop :=
  match d with
  | .no => K env tl
  | .t j => K env ((j, v) :: tl)
  | .g j => K (upd env j v) tl

def wrc (mem : Mem) (n : Nat) (a : D) (new : List D) : Option Mem :=
  if new.length = n ∧ new.all D.cell then
    match a with
    | .opt id off => match look mem id with
      | some (.box cs) => if off + n ≤ cs.length then some (upd mem id (.box (place off cs new))) else none
      | _ => none
    | .oel id ver i off => match look mem id with
      | some (.arr v k es) => if v = ver then (match es[i]? with
        | some e => if off + n ≤ e.length then some (upd mem id (.arr v k (es.set i (place off e new)))) else none
        | none => none) else none
      | _ => none
    | _ => none
  else none

/-- The elements that an append adds, each of k cells. -/
def els (mem : Mem) (k : Nat) : D → Option (List (List D))
  | .sl es => if es.all (fun e => e.length == k && e.all D.cell) then some es else none
  | .pl (.slice none 0 0) => some []
  | .zs => some []
  | .osl id ver lo n => match look mem id with
    | some (.arr v k' es) => if v = ver ∧ k' = k ∧ lo + n ≤ es.length ∧ es.all (fun e => e.all D.cell) then some ((es.drop lo).take n) else none
    | _ => none
  | _ => none

/-! What follows an operation ('K') stands nowhere behind a bound variable: so rewriting takes one operation at a time. -/
abbrev KD := D → Mem → Nat → Prop

def k0 (o : Option D) (mem : Mem) (nx : Nat) (K : KD) : Prop :=
  match o with
  | some d => K d mem nx
  | none => False
def k1 (o : Option D) (g : D → Option D) (mem : Mem) (nx : Nat) (K : KD) : Prop :=
  match o with
  | some x => k0 (g x) mem nx K
  | none => False
def k2 (o p : Option D) (g : D → D → Option D) (mem : Mem) (nx : Nat) (K : KD) : Prop :=
  match o, p with
  | some x, some y => k0 (g x y) mem nx K
  | _, _ => False
def kl {α : Type} (o : Option α) (g : α → Option D) (mem : Mem) (nx : Nat) (K : KD) : Prop :=
  match o with
  | some x => k0 (g x) mem nx K
  | none => False
/-- Behind an operation that changes the owned blocks: its value and the blocks. -/
def km (o : Option (D × Mem)) (nx : Nat) (K : KD) : Prop :=
  match o with
  | some x => K x.1 x.2 nx
  | none => False

def bldD (z : List Value) (ps : List (Nat × Nat × D)) : Option D := (fillD (z.map .pl) ps).map .agg
def bslI (k len : Nat) (z : List Value) (ps : List (Nat × Nat × D)) : Option D := (bslD k len z ps).map .sl
def ldD (mem : Mem) (g : Bool) (n : Nat) (x : D) : Option D :=
  match rdc mem n x with
  | some cs => mkv g cs
  | none => none
def bxiD (x : D) : Option D := if x.cells.all D.cell then some (.pt x.cells) else none
def mkiD (bytes : Nat) (z : List Value) : D → Option D
  | .pl (.int .i64 n) => if 0 ≤ n ∧ n * bytes ≤ 2 ^ 47 then some (.sl (List.replicate n.toNat (z.map .pl))) else none
  | _ => none
def pickD (a b : Option D) : D → Option D
  | .pl (.bool c) => match c with | true => a | false => b
  | _ => none
def mkfD (f : FuncId) (cs : List D) : Option D := some (.fn f cs)
def roo (tl env : Env) : Option Opd → Option (Option D)
  | none => some none
  | some x => match ro tl env x with
    | some d => some (some d)
    | none => none
def slsO (mem : Mem) (s : Bool) (k : Nat) (x : Option D) (lo hi : Option (Option D)) : Option D :=
  match x, lo, hi with
  | some x, some lo, some hi => slsD mem s k x lo hi
  | _, _, _ => none

/-- A call by contract. -/
def pcK (P : Program) (f : Option D) (xs : Option (List D)) (mem : Mem) (nx : Nat) (K : KD) : Prop :=
  match f, xs with
  | some (.fn f caps), some xs => ∃ r, (Pure P f (xs ++ caps) r ∨ Extn P f (xs ++ caps) r) ∧ D.imms (xs ++ caps) = true ∧ K r mem nx
  | _, _ => False
def clK (P : Program) (f : Option D) (xs : Option (List D)) (mem : Mem) (nx : Nat) (K : KD) : Prop :=
  match f, xs with
  | some (.fn f caps), some xs => CallT P f (xs ++ caps) mem nx K
  | _, _ => False

def bxM (id : Nat) (mem : Mem) : Option D → Option (D × Mem)
  | some x => if x.cells.all D.cell then some (.opt id 0, (id, .box x.cells) :: mem) else none
  | none => none
def bsoM (id : Nat) (mem : Mem) (k len : Nat) (z : List Value) : Option (List (Nat × Nat × D)) → Option (D × Mem)
  | some ps => match bslD k len z ps with
    | some es => some (.osl id 0 0 len, (id, .arr 0 k es) :: mem)
    | none => none
  | none => none
def mksM (id : Nat) (mem : Mem) (k bytes : Nat) (z : List Value) : Option D → Option (D × Mem)
  | some (.pl (.int .i64 n)) => if 0 ≤ n ∧ n * bytes ≤ 2 ^ 47 then some (.osl id 0 0 n.toNat, (id, .arr 0 k (List.replicate n.toNat (z.map .pl))) :: mem) else none
  | _ => none
/-- Is it a slice without room? -/
def D.roomless : D → Bool
  | .pl (.slice none 0 0) => true
  | .zs => true
  | _ => false
def apnM (id : Nat) (mem : Mem) (k bytes : Nat) (x y : Option D) : Option (D × Mem) :=
  match x, y with
  | some x, some y => if x.roomless then (match els mem k y with
    | some es => if es.length * bytes ≤ 3 * 2 ^ 46 then some (.osl id 0 0 es.length, (id, .arr 0 k es) :: mem) else none
    | none => none) else none
  | _, _ => none
def appM (id : Nat) (mem : Mem) (k bytes : Nat) (x y : Option D) : Option (D × Mem) :=
  match x, y with
  | some (.osl i ver lo n), some y => match look mem i, els mem k y with
    | some (.arr v k' es), some new => if v = ver ∧ k' = k ∧ lo + n ≤ es.length ∧ (n + new.length) * bytes ≤ 3 * 2 ^ 46 then some (.osl i (v + 1) 0 (n + new.length), upd mem i (.arr (v + 1) k ((es.drop lo).take n ++ new))) else none
    | _, _ => none
  | x, y => apnM id mem k bytes x y
def stM (mem : Mem) (n : Nat) (a x : Option D) : Option (D × Mem) :=
  match a, x with
  | some a, some x => match wrc mem n a x.cells with
    | some m => some (.top, m)
    | none => none
  | _, _ => none

/-- The owned block that a value leads into. -/
def D.hd : D → Option Nat
  | .opt id _ | .osl id _ _ _ | .oel id _ _ _ | .omap id => some id
  | _ => none
def apartD (a : Option D) (ps : Option (List D)) : Bool :=
  match a, ps with
  | some a, some ps => ps.all fun p => p.hd.isNone || p.hd != a.hd
  | _, _ => false
def staM (mem : Mem) (n : Nat) (a x : Option D) (ps : Option (List D)) : Option (D × Mem) := if apartD a ps = true then stM mem n a x else none

/-- One operation, as a condition: K: what is asked behind it. 'id': the block's number, if it makes one. -/
def stepI (C : Cfg) (id : Nat) (i : I) (env tl : Env) (mem : Mem) (nx : Nat) (K : KD) : Prop :=
  match i with
  | .mv x => k0 (ro tl env x) mem nx K
  | .pick c a b => k1 (ro tl env c) (pickD (ro tl env a) (ro tl env b)) mem nx K
  | .bld z ps => kl (rps tl env ps) (bldD z) mem nx K
  | .bsl k len z ps => kl (rps tl env ps) (bslI k len z) mem nx K
  | .z0 => K .zs mem nx
  | .ld g n x => k1 (ro tl env x) (ldD mem g n) mem nx K
  | .chk x => k1 (ro tl env x) chkD mem nx K
  | .bin op ty x y => k2 (ro tl env x) (ro tl env y) (binD C.P op ty) mem nx K
  | .un op x => k1 (ro tl env x) (unD C.P op) mem nx K
  | .cv s d x => k1 (ro tl env x) (cvD C.P s d) mem nx K
  | .fa off x => k1 (ro tl env x) (faD mem off) mem nx K
  | .fld g n off x => k1 (ro tl env x) (fldD g n off) mem nx K
  | .ia k x i => k2 (ro tl env x) (ro tl env i) (iaD mem k) mem nx K
  | .ext i x => k1 (ro tl env x) (extD i) mem nx K
  | .iaa len k x i => k2 (ro tl env x) (ro tl env i) (iaaD mem len k) mem nx K
  | .ixs x i => k2 (ro tl env x) (ro tl env i) ixsD mem nx K
  | .lk kd z two m k => k2 (ro tl env m) (ro tl env k) (lkD mem kd z two) mem nx K
  | .lnm x => k1 (ro tl env x) (lnmD mem) mem nx K
  | .mkm => K (.omap id) ((id, .map []) :: mem) nx
  | .mup kd m k v => km (mupM mem kd (ro tl env m) (ro tl env k) (ro tl env v)) nx K
  | .len s x => k1 (ro tl env x) (lenD mem s) mem nx K
  | .bi b xs => kl (ros tl env xs) (biD C.P b) mem nx K
  | .sls s k x lo hi => k0 (slsO mem s k (ro tl env x) (roo tl env lo) (roo tl env hi)) mem nx K
  | .mkf f caps => kl (ros tl env caps) (mkfD f) mem nx K
  | .bxi x => k1 (ro tl env x) bxiD mem nx K
  | .mki _ bytes z n => k1 (ro tl env n) (mkiD bytes z) mem nx K
  | .pc f xs => pcK C.P (ro tl env f) (ros tl env xs) mem nx K
  | .al z => K (.opt id 0) ((id, .box (z.map .pl)) :: mem) nx
  | .bx x => km (bxM id mem (ro tl env x)) nx K
  | .bso k len z ps => km (bsoM id mem k len z (rps tl env ps)) nx K
  | .mks k bytes z n => km (mksM id mem k bytes z (ro tl env n)) nx K
  | .apn k bytes _ x y => km (apnM id mem k bytes (ro tl env x) (ro tl env y)) nx K
  | .st n a x => km (stM mem n (ro tl env a) (ro tl env x)) nx K
  | .sta n a x ps => km (staM mem n (ro tl env a) (ro tl env x) (ros tl env ps)) nx K
  | .app k bytes _ x y => km (appM id mem k bytes (ro tl env x) (ro tl env y)) nx K
  | .cl f xs => clK C.P (ro tl env f) (ros tl env xs) mem nx K

/-- What follows an operation: its result is laid down, the next ones are run. -/
def nextK (d : Dst) (env tl : Env) (go : Env → Env → Mem → Nat → Prop) : KD :=
  fun v mem nx => put d v env tl fun env tl => go env tl mem nx

def setT (b : Bool) (tl : Env) : Opd → Env
  | .t j => upd tl j (.pl (.bool b))
  | _ => tl
def setE (b : Bool) (env : Env) : Opd → Env
  | .g j => upd env j (.pl (.bool b))
  | _ => env

/-- A guarded operation: by cases of its guard, which is known from then on. -/
def gd (C : Cfg) (o : Option D) (g : Opd) (want : Bool) (d : Dst) (id : Nat) (i : I) (env tl : Env) (mem : Mem) (nx : Nat) (go : Env → Env → Mem → Nat → Prop) : Prop :=
  match o with
  | some (.pl (.bool b)) =>
    (b = want → stepI C id i (setE want env g) (setT want tl g) mem nx (nextK d (setE want env g) (setT want tl g) go)) ∧
    (b = (!want) → nextK d (setE (!want) env g) (setT (!want) tl g) go (.pl undef) mem nx)
  | some (.pl (.tuple _)) => nextK d env tl go (.pl undef) mem nx
  | _ => False

def run (C : Cfg) (base : Nat) (K : Env → Env → Mem → Nat → Prop) : List Ins → Nat → Env → Env → Mem → Nat → Prop
  | [], _, env, tl, mem, nx => K env tl mem nx
  | ⟨d, none, i⟩ :: r, j, env, tl, mem, nx => stepI C (base + j) i env tl mem nx (nextK d env tl (run C base K r (j + 1)))
  | ⟨d, some (g, want), i⟩ :: r, j, env, tl, mem, nx => gd C (ro tl env g) g want d (base + j) i env tl mem nx (run C base K r (j + 1))

def TA (C : Cfg) (c : AC) (Q : Exit → St → Prop) (s : St) : Prop := ∀ code, C.comp code = some c → T C code Q s

def regK (Q : Exit → St → Prop) : Env → Env → Mem → Nat → Prop := fun env _ mem nx => Q .normal ⟨env, [], mem, nx⟩

def ifb (o : Option D) (p q : Env → Mem → Nat → Prop) (env : Env) (mem : Mem) (nx : Nat) : Prop :=
  match o with
  | some (.pl (.bool b)) => (b = true → p env mem nx) ∧ (b = false → q env mem nx)
  | _ => False

def ifK (c : Opd) (x y : Env → Mem → Nat → Prop) : Env → Env → Mem → Nat → Prop := fun env tl mem nx => ifb (ro tl env c) x y env mem nx

def A (C : Cfg) : AC → (Exit → St → Prop) → Env → Mem → Nat → Prop
  | .skip, Q, env, mem, nx => Q .normal ⟨env, [], mem, nx⟩
  | .reg is, Q, env, mem, nx => run C nx (regK Q) is 0 env [] mem (nx + is.length)
  | .ifr is c x y, Q, env, mem, nx => run C nx (ifK c (A C x Q) (A C y Q)) is 0 env [] mem (nx + is.length)
  | .seq x y, Q, env, mem, nx => A C x (thenQ (fun s => A C y Q s.env s.mem s.nx) Q) env mem nx
  | .cond c x y, Q, env, mem, nx => ifK c (A C x Q) (A C y Q) env [] mem nx
  | .block id x, Q, env, mem, nx => A C x (blockQ id Q) env mem nx
  | .loop x, Q, env, mem, nx => TA C (.loop x) Q ⟨env, [], mem, nx⟩
  | .scope x, Q, env, mem, nx => TA C (.scope x) Q ⟨env, [], mem, nx⟩
  | .exit id, Q, env, mem, nx => Q (.exit id) ⟨env, [], mem, nx⟩
  | .label _, Q, env, mem, nx => Q .normal ⟨env, [], mem, nx⟩
  | .goto l, Q, env, mem, nx => Q (.goto l) ⟨env, [], mem, nx⟩
  | .ret, Q, env, mem, nx => Q .ret ⟨env, [], mem, nx⟩

/-! ### The same as rewrite rules: what follows is kept on a list, so that nothing is run before its turn -/
inductive Fr where
  | seq (y : AC)
  | block (id : Nat)

def Kont (C : Cfg) (Q : Exit → St → Prop) : List Fr → Exit → St → Prop
  | [], e, s => Q e s
  | .seq y :: k, e, s => thenQ (fun s => A C y (Kont C Q k) s.env s.mem s.nx) (Kont C Q k) e s
  | .block id :: k, e, s => blockQ id (Kont C Q k) e s

section
variable {C : Cfg} {Q : Exit → St → Prop} {k : List Fr} {x y : AC} {env tl : Env} {mem : Mem} {nx : Nat}
theorem A_seq : A C (.seq x y) (Kont C Q k) env mem nx = A C x (Kont C Q (.seq y :: k)) env mem nx := (rfl)
theorem A_block {id : Nat} : A C (.block id x) (Kont C Q k) env mem nx = A C x (Kont C Q (.block id :: k)) env mem nx := (rfl)
theorem A_skip {Q : Exit → St → Prop} : A C .skip Q env mem nx = Q .normal ⟨env, [], mem, nx⟩ := (rfl)
theorem A_ret {Q : Exit → St → Prop} : A C .ret Q env mem nx = Q .ret ⟨env, [], mem, nx⟩ := (rfl)
theorem A_exit {Q : Exit → St → Prop} {id : Nat} : A C (.exit id) Q env mem nx = Q (.exit id) ⟨env, [], mem, nx⟩ := (rfl)
theorem A_label {Q : Exit → St → Prop} {id : Nat} : A C (.label id) Q env mem nx = Q .normal ⟨env, [], mem, nx⟩ := (rfl)
theorem A_goto {Q : Exit → St → Prop} {id : Nat} : A C (.goto id) Q env mem nx = Q (.goto id) ⟨env, [], mem, nx⟩ := (rfl)
theorem A_loop {Q : Exit → St → Prop} : A C (.loop x) Q env mem nx = TA C (.loop x) Q ⟨env, [], mem, nx⟩ := (rfl)
theorem A_scope {Q : Exit → St → Prop} : A C (.scope x) Q env mem nx = TA C (.scope x) Q ⟨env, [], mem, nx⟩ := (rfl)
theorem A_reg {Q : Exit → St → Prop} {is : List Ins} : A C (.reg is) Q env mem nx = run C nx (regK Q) is 0 env [] mem (nx + is.length) := (rfl)
theorem A_ifr {Q : Exit → St → Prop} {is : List Ins} {c : Opd} : A C (.ifr is c x y) Q env mem nx = run C nx (ifK c (A C x Q) (A C y Q)) is 0 env [] mem (nx + is.length) := (rfl)
theorem A_cond {Q : Exit → St → Prop} {c : Opd} : A C (.cond c x y) Q env mem nx = ifK c (A C x Q) (A C y Q) env [] mem nx := (rfl)
theorem Kont_nil {e : Exit} {s : St} : Kont C Q [] e s = Q e s := (rfl)
theorem Kont_seq {s : St} : Kont C Q (.seq y :: k) .normal s = A C y (Kont C Q k) s.env s.mem s.nx := (rfl)
theorem Kont_seq_ret {s : St} : Kont C Q (.seq y :: k) .ret s = Kont C Q k .ret s := (rfl)
theorem Kont_seq_exit {s : St} {id : Nat} : Kont C Q (.seq y :: k) (.exit id) s = Kont C Q k (.exit id) s := (rfl)
theorem Kont_seq_goto {s : St} {id : Nat} : Kont C Q (.seq y :: k) (.goto id) s = Kont C Q k (.goto id) s := (rfl)
theorem Kont_block {s : St} {id : Nat} : Kont C Q (.block id :: k) .normal s = Kont C Q k .normal s := (rfl)
theorem Kont_block_ret {s : St} {id : Nat} : Kont C Q (.block id :: k) .ret s = Kont C Q k .ret s := (rfl)
theorem Kont_block_goto {s : St} {id l : Nat} : Kont C Q (.block id :: k) (.goto l) s = Kont C Q k (.goto l) s := (rfl)
theorem Kont_block_exit {s : St} {id j : Nat} : Kont C Q (.block id :: k) (.exit j) s = if j = id then Kont C Q k .normal s else Kont C Q k (.exit j) s := (rfl)
theorem ifK_at {c : Opd} {p q : Env → Mem → Nat → Prop} : ifK c p q env tl mem nx = ifb (ro tl env c) p q env mem nx := (rfl)
theorem ifb_true {p q : Env → Mem → Nat → Prop} : ifb (some (.pl (.bool true))) p q env mem nx = p env mem nx := by simp [ifb]
theorem ifb_false {p q : Env → Mem → Nat → Prop} : ifb (some (.pl (.bool false))) p q env mem nx = q env mem nx := by simp [ifb]
theorem ifb_any {b : Bool} {p q : Env → Mem → Nat → Prop} : ifb (some (.pl (.bool b))) p q env mem nx = ((b = true → p env mem nx) ∧ (b = false → q env mem nx)) := (rfl)
theorem regK_at {Q : Exit → St → Prop} : regK Q env tl mem nx = Q .normal ⟨env, [], mem, nx⟩ := (rfl)
theorem nextK_no {go : Env → Env → Mem → Nat → Prop} {v : D} : nextK .no env tl go v mem nx = go env tl mem nx := (rfl)
theorem nextK_t {go : Env → Env → Mem → Nat → Prop} {v : D} {j : Nat} : nextK (.t j) env tl go v mem nx = go env ((j, v) :: tl) mem nx := (rfl)
theorem nextK_g {go : Env → Env → Mem → Nat → Prop} {v : D} {j : Nat} : nextK (.g j) env tl go v mem nx = go (upd env j v) tl mem nx := (rfl)
theorem run_nil {base j : Nat} {K : Env → Env → Mem → Nat → Prop} : run C base K [] j env tl mem nx = K env tl mem nx := (rfl)
theorem run_cons {base j : Nat} {K : Env → Env → Mem → Nat → Prop} {d : Dst} {i : I} {r : List Ins} : run C base K (⟨d, none, i⟩ :: r) j env tl mem nx =
  stepI C (base + j) i env tl mem nx (nextK d env tl (run C base K r (j + 1))) := (rfl)
theorem run_guard {base j : Nat} {K : Env → Env → Mem → Nat → Prop} {d : Dst} {i : I} {r : List Ins} {g : Opd} {want : Bool} : run C base K (⟨d, some (g, want), i⟩ :: r) j env tl mem nx =
  gd C (ro tl env g) g want d (base + j) i env tl mem nx (run C base K r (j + 1)) := (rfl)
theorem gd_yes {g : Opd} {want : Bool} {d : Dst} {id : Nat} {i : I} {go : Env → Env → Mem → Nat → Prop} : gd C (some (.pl (.bool want))) g want d id i env tl mem nx go =
    stepI C id i (setE want env g) (setT want tl g) mem nx (nextK d (setE want env g) (setT want tl g) go) := by simp [gd]
theorem gd_undef {g : Opd} {want : Bool} {d : Dst} {id : Nat} {i : I} {go : Env → Env → Mem → Nat → Prop} : gd C (some (.pl undef)) g want d id i env tl mem nx go =
    nextK d env tl go (.pl undef) mem nx := (rfl)
theorem gd_tf {g : Opd} {d : Dst} {id : Nat} {i : I} {go : Env → Env → Mem → Nat → Prop} : gd C (some (.pl (.bool true))) g false d id i env tl mem nx go =
    nextK d (setE true env g) (setT true tl g) go (.pl undef) mem nx := by simp [gd]
theorem gd_ft {g : Opd} {d : Dst} {id : Nat} {i : I} {go : Env → Env → Mem → Nat → Prop} : gd C (some (.pl (.bool false))) g true d id i env tl mem nx go =
    nextK d (setE false env g) (setT false tl g) go (.pl undef) mem nx := by simp [gd]
theorem gd_any {g : Opd} {b want : Bool} {d : Dst} {id : Nat} {i : I} {go : Env → Env → Mem → Nat → Prop} : gd C (some (.pl (.bool b))) g want d id i env tl mem nx go =
    ((b = want → stepI C id i (setE want env g) (setT want tl g) mem nx (nextK d (setE want env g) (setT want tl g) go)) ∧
    (b = (!want) → nextK d (setE (!want) env g) (setT (!want) tl g) go (.pl undef) mem nx)) := (rfl)
theorem setT_t {b : Bool} {j : Nat} : setT b tl (.t j) = upd tl j (.pl (.bool b)) := (rfl)
theorem setT_g {b : Bool} {j : Nat} : setT b tl (.g j) = tl := (rfl)
theorem setE_t {b : Bool} {j : Nat} : setE b env (.t j) = env := (rfl)
theorem setE_g {b : Bool} {j : Nat} : setE b env (.g j) = upd env j (.pl (.bool b)) := (rfl)
theorem k0_some {K : KD} (d : D) : k0 (some d) mem nx K = K d mem nx := (rfl)
theorem k0_if {K : KD} (p : Prop) [Decidable p] (d : D) : k0 (if p then some d else none) mem nx K = (p ∧ K d mem nx) := by by_cases h : p <;> simp [h, k0]
theorem k1_some {K : KD} {g : D → Option D} (d : D) : k1 (some d) g mem nx K = k0 (g d) mem nx K := (rfl)
theorem k2_some {K : KD} {g : D → D → Option D} (d e : D) : k2 (some d) (some e) g mem nx K = k0 (g d e) mem nx K := (rfl)
theorem kl_some {α : Type} {K : KD} {g : α → Option D} (d : α) : kl (some d) g mem nx K = k0 (g d) mem nx K := (rfl)
theorem km_some {K : KD} (d : D) (m : Mem) : km (some (d, m)) nx K = K d m nx := (rfl)
theorem km_if {K : KD} (p : Prop) [Decidable p] (d : D) (m : Mem) : km (if p then some (d, m) else none) nx K = (p ∧ K d m nx) := by by_cases h : p <;> simp [h, km]
theorem pcK_some {P : Program} {K : KD} (f : FuncId) (caps xs : List D) : pcK P (some (.fn f caps)) (some xs) mem nx K = pcK P (some (.fn f [])) (some (xs ++ caps)) mem nx K := by simp [pcK]
theorem look_cons {α : Type} (i j : Nat) (d : α) (e : List (Nat × α)) : look ((i, d) :: e) j = if i = j then some d else look e j := (rfl)
theorem look_nil {α : Type} (j : Nat) : look ([] : List (Nat × α)) j = none := (rfl)
theorem upd_cons {α : Type} (i j : Nat) (d x : α) (e : List (Nat × α)) : upd ((i, x) :: e) j d = if i = j then (i, d) :: e else (i, x) :: upd e j d := (rfl)
theorem ro_t {j : Nat} : ro tl env (.t j) = look tl j := (rfl)
theorem ro_g {j : Nat} : ro tl env (.g j) = look env j := (rfl)
theorem ro_c {v : Value} : ro tl env (.c v) = some (.pl v) := (rfl)
theorem ro_f {v : Nat} : ro tl env (.f v) = some (.fn v []) := (rfl)
end
end Go.Fx

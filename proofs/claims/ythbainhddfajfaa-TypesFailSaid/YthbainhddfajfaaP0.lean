/-
  The document's parser as a function: marks to a program; every run of it takes fuel.
-/
import Derived.Test.YthbainhddfajfaaMc
import Derived.Test.YthbainhddfajfaaXH
set_option linter.all false
set_option maxRecDepth 100000
namespace Go.Fx.Ythbainhddfajfaa
open Go Go.Fx Go.Proofs Go.Fx.Flt
inductive Ex where
  | mk (op : Int) (name tail : List UInt8) (type : Int) (num : Cx) (args : List Ex) (at' : Int)
namespace Ex
def op : Ex → Int | mk o _ _ _ _ _ _ => o
def name : Ex → List UInt8 | mk _ n _ _ _ _ _ => n
def tail : Ex → List UInt8 | mk _ _ t _ _ _ _ => t
def type : Ex → Int | mk _ _ _ t _ _ _ => t
def num : Ex → Cx | mk _ _ _ _ z _ _ => z
def args : Ex → List Ex | mk _ _ _ _ _ a _ => a
def at' : Ex → Int | mk _ _ _ _ _ _ p => p
end Ex
def ex0 : Ex := .mk 0 [] [] 0 ⟨0, 0⟩ [] 0
instance : Inhabited Ex := ⟨ex0⟩
mutual
def encEx : Ex → List D
  | .mk o n t ty z ar p => [I o, Tx n, Tx t, I ty, CX z.re z.im, .sl (encExs ar), I p]
def encExs : List Ex → List (List D)
  | [] => []
  | e :: es => encEx e :: encExs es
end
theorem encExs_em : ∀ (l : List Ex), encExs l = em encEx l
  | [] => rfl
  | e :: es => by unfold encExs em; rw [encExs_em es]; rfl
theorem encEx_eq : ∀ (e : Ex), encEx e = [I e.op, Tx e.name, Tx e.tail, I e.type, CX e.num.re e.num.im, .sl (em encEx e.args), I e.at']
  | .mk o n t ty z ar p => by unfold encEx; rw [encExs_em]; rfl
theorem encEx_mk (o : Int) (n t : List UInt8) (ty : Int) (z : Cx) (ar : List Ex) (p : Int) : encEx (.mk o n t ty z ar p) = [I o, Tx n, Tx t, I ty, CX z.re z.im, .sl (em encEx ar), I p] := encEx_eq _
mutual
theorem imm_Ex : ∀ (e : Ex), D.imms (encEx e) = true
  | .mk o n t ty z ar p => by
    unfold encEx
    have := imm_Exs ar
    simp [D.imms, D.imm, this]
theorem imm_Exs : ∀ (l : List Ex), D.immss (encExs l) = true
  | [] => rfl
  | e :: es => by
    unfold encExs
    simp [D.immss, imm_Ex e, imm_Exs es]
end
theorem imm_Exl (l : List Ex) : D.immss (em encEx l) = true := by rw [← encExs_em]; exact imm_Exs l
theorem cell_Ex (e : Ex) : (encEx e).all D.cell = true := by rw [encEx_eq]; rfl
theorem cell_Exl (l : List Ex) : (em encEx l).all (fun e => e.all D.cell) = true := em_cell cell_Ex
theorem ia_Ex {l : List Ex} {mem : Mem} {j : IntKind} {i : Int} : iaD mem 7 (.sl (em encEx l)) (.pl (.int j i)) = if 0 ≤ i ∧ i < l.length then some (.pt [I (l[i.toNat]?.getD default).op, Tx (l[i.toNat]?.getD default).name, Tx (l[i.toNat]?.getD default).tail, I (l[i.toNat]?.getD default).type, CX (l[i.toNat]?.getD default).num.re (l[i.toNat]?.getD default).num.im, .sl (em encEx (l[i.toNat]?.getD default).args), I (l[i.toNat]?.getD default).at']) else none := by
  rw [← encEx_eq]
  exact em_ia fun e => by rw [encEx_eq]; rfl
theorem app_Ex (l : List Ex) (e : Ex) : em encEx l ++ [encEx e] = em encEx (l ++ [e]) := em_app
attribute [simp] ia_Ex imm_Exl cell_Exl
structure Pm where
  name : List UInt8
  type : Int
  at' : Int
instance : Inhabited Pm := ⟨⟨[], 0, 0⟩⟩
def encPm (p : Pm) : List D := [Tx p.name, I p.type, I p.at']
theorem imm_Pm (l : List Pm) : D.immss (em encPm l) = true := em_imm fun _ => rfl
theorem cell_Pm (l : List Pm) : (em encPm l).all (fun e => e.all D.cell) = true := em_cell fun _ => rfl
theorem ia_Pm {l : List Pm} {mem : Mem} {j : IntKind} {i : Int} : iaD mem 3 (.sl (em encPm l)) (.pl (.int j i)) = if 0 ≤ i ∧ i < l.length then some (.pt [Tx (l[i.toNat]?.getD default).name, I (l[i.toNat]?.getD default).type, I (l[i.toNat]?.getD default).at']) else none := em_ia fun _ => rfl
theorem app_Pm (l : List Pm) (p : Pm) : em encPm l ++ [[Tx p.name, I p.type, I p.at']] = em encPm (l ++ [p]) := em_app
attribute [simp] imm_Pm cell_Pm ia_Pm
structure Fn where
  name : List UInt8
  params : List Pm
  type : Int
  body : Ex
  at' : Int
instance : Inhabited Fn := ⟨⟨[], [], 0, default, 0⟩⟩
/-- A definition's cells: the body's seven among them. -/
def encFn (f : Fn) : List D := [Tx f.name, .sl (em encPm f.params), I f.type] ++ encEx f.body ++ [I f.at']
def encFs (l : List Fn) : D := .sl (em encFn l)
/-! #### The reader -/
structure Rd where
  ms : List Mk
  at' : Nat
  why : Int
  wh : Int
  lT : Int
  lF : Int
  lA : Int
  lN : Int
  nest : Int
def encRd (r : Rd) : List D := [.sl (em encMk r.ms), I r.at', I r.why, I r.wh, I r.lT, I r.lF, I r.lA, I r.lN, I r.nest]
namespace Rd
def next (r : Rd) : Mk := r.ms[r.at']?.getD default
def fail (r : Rd) (w : Int) : Rd := if r.why = 0 then { r with why := w, wh := r.next.at' } else r
def is (r : Rd) (s : List UInt8) : Bool := decide (r.why = 0) && ((decide (r.next.kind = 1) || decide (r.next.kind = 3)) && decide (r.next.text = s))
def adv (r : Rd) : Rd := { r with at' := r.at' + 1 }
def want (r : Rd) (s : List UInt8) : Rd := if r.is s then r.adv else r.fail 21
def bad (r : Rd) : Bool := !decide (r.why = 0) || !decide (r.next.kind = 0)
def name (r : Rd) : Mk × Rd := if r.bad then (default, r.fail 21) else (r.next, r.adv)
def typ (r : Rd) : Int × Rd := if r.is [78] then (1, r.adv) else if r.is [66] then (2, r.adv) else if r.is [76] then (3, r.adv) else (0, r.fail 21)
/-- A reader that may be run. -/
structure ok (r : Rd) : Prop where
  ms : MOk r.ms
  lt : r.at' < r.ms.length
  len : r.ms.length ≤ 2 ^ 21
  n0 : 0 ≤ r.nest
  n1 : r.nest ≤ 2 ^ 40
  l1 : r.lN ≤ 2 ^ 40
end Rd
def two (op : Int) (a b : Ex) (m : Mk) : Ex := .mk op [] [] 0 ⟨0, 0⟩ [a, b] m.at'
/-- What a reserved word alone is; 0: nothing. -/
def wordF (s : List UInt8) : Int :=
  if s = [116, 114, 117, 101] then 2 else if s = [102, 97, 108, 115, 101] then 3 else if s = [110, 105, 108] then 4 else if s = [102, 97, 105, 108] then 5 else
  if s = [110, 111, 116] then 14 else if s = [114, 101] then 15 else if s = [105, 109] then 16 else if s = [99, 111, 110, 106] then 17 else 0
def binds (r : Rd) : Bool := r.is [108, 101, 116] || (r.is [115, 116, 114, 105, 99, 116] || r.is [99, 97, 115, 101])
abbrev PR := Option (Ex × Rd)
mutual
def exprF : Nat → Rd → PR
  | 0, _ => none
  | n + 1, r =>
    let b := binds r
    let r1 := if b && decide (r.lN ≤ r.nest) then r.fail 23 else r
    if r1.why ≠ 0 then some (ex0, r1) else
    if b = false ∧ r1.is [105, 102] = false then consF n r1 else
    let r2 := (if b then { r1 with nest := r1.nest + 1 } else r1).adv
    let res : PR := if r.next.text = [105, 102] then (partsF n [[], [116, 104, 101, 110], [101, 108, 115, 101]] r2).map fun (l, q) => (.mk 19 [] [] 0 ⟨0, 0⟩ l r.next.at', q)
      else if r.next.text = [99, 97, 115, 101] then branchesF n r2 r.next.at'
      else (partsF n [[61], [105, 110]] r2.name.2.typ.2).map fun (l, q) => (.mk (if r.next.text = [115, 116, 114, 105, 99, 116] then 22 else 21) r2.name.1.text [] r2.name.2.typ.1 ⟨0, 0⟩ l r.next.at', q)
    res.map fun (e, q) => (e, if b then { q with nest := q.nest - 1 } else q)
def consF : Nat → Rd → PR
  | 0, _ => none
  | n + 1, r => (compF n r).bind fun (a, r1) => if r1.is [58] then (consF n r1.adv).map fun (b, r2) => (two 18 a b r1.next, r2) else some (a, r1)
def compF : Nat → Rd → PR
  | 0, _ => none
  | n + 1, r => (sumF n r).bind fun (a, r1) => if r1.is [61, 61] || r1.is [60] then (sumF n r1.adv).map fun (b, r2) => (two (if r1.is [60] then 13 else 12) a b r1.next, r2) else some (a, r1)
def sumF : Nat → Rd → PR
  | 0, _ => none
  | n + 1, r => (termF n r).bind fun (a, r1) => sumLF n a r1
def sumLF : Nat → Ex → Rd → PR
  | 0, _, _ => none
  | n + 1, a, r => if r.is [43] || r.is [45] then (termF n r.adv).bind fun (b, r2) => sumLF n (two (if r.next.text = [45] then 9 else 8) a b r.next) r2 else some (a, r)
def termF : Nat → Rd → PR
  | 0, _ => none
  | n + 1, r => (unitF n r).bind fun (a, r1) => termLF n a r1
def termLF : Nat → Ex → Rd → PR
  | 0, _, _ => none
  | n + 1, a, r => if r.is [42] || r.is [47] then (unitF n r.adv).bind fun (b, r2) => termLF n (two (if r.next.text = [47] then 11 else 10) a b r.next) r2 else some (a, r)
def unitF : Nat → Rd → PR
  | 0, _ => none
  | n + 1, r =>
    if r.why ≠ 0 then some (ex0, r) else
    if r.next.kind = 2 then some (.mk 1 [] [] 0 r.next.num [] r.next.at', r.adv) else
    if r.next.kind = 0 then namedF n r.next r.adv else
    if r.is [40] then (exprF n r.adv).map fun (e, q) => (e, q.want [41]) else
    if ¬ r.next.kind = 1 ∨ wordF r.next.text = 0 then some (ex0, r.fail 21) else
    if wordF r.next.text = 5 then some (.mk 5 [] [] r.adv.typ.1 ⟨0, 0⟩ [] r.next.at', r.adv.typ.2) else
    if 14 ≤ wordF r.next.text then (exprF n (r.adv.want [40])).map fun (x, q) => (.mk (wordF r.next.text) [] [] 0 ⟨0, 0⟩ [x] r.next.at', q.want [41]) else
    some (.mk (wordF r.next.text) [] [] 0 ⟨0, 0⟩ [] r.next.at', r.adv)
def namedF : Nat → Mk → Rd → PR
  | 0, _, _ => none
  | n + 1, m, r => if r.is [40] then (namedLF n [] r.adv).map fun (l, q) => (.mk 7 m.text [] 0 ⟨0, 0⟩ l m.at', q.want [41]) else some (.mk 6 m.text [] 0 ⟨0, 0⟩ [] m.at', r)
def namedLF : Nat → List Ex → Rd → Option (List Ex × Rd)
  | 0, _, _ => none
  | n + 1, l, r => if r.why = 0 ∧ r.is [41] = false then (exprF n (if l = [] then r else r.want [44])).bind fun (x, q) => namedLF n (l ++ [x]) q else some (l, r)
def partsF : Nat → List (List UInt8) → Rd → Option (List Ex × Rd)
  | 0, _, _ => none
  | n + 1, [], r => some ([], r)
  | n + 1, s :: ss, r => (exprF n (if s = [] then r else r.want s)).bind fun (x, q) => (partsF n ss q).map fun (l, q2) => (x :: l, q2)
def branchesF : Nat → Rd → Int → PR
  | 0, _, _ => none
  | n + 1, r, p => (exprF n r).bind fun (x, r1) => (exprF n (((r1.want [111, 102]).want [110, 105, 108]).want [45, 62])).bind fun (a, r2) =>
      let h := (r2.want [124]).name
      let t := (h.2.want [58]).name
      (exprF n (t.2.want [45, 62])).map fun (b, r3) => (.mk 20 h.1.text t.1.text 0 ⟨0, 0⟩ [x, a, b] p, r3)
end
end Go.Fx.Ythbainhddfajfaa

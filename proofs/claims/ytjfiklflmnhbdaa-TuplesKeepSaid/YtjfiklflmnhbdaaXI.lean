/-
  Maps from texts to whole numbers, as lists.
-/
import Derived.Test.YtjfiklflmnhbdaaXH
set_option linter.all false
set_option maxRecDepth 100000
namespace Go.Fx
open Go
abbrev Sm := List (List UInt8 × Int)
def encSm (m : Sm) : List (Value × D) := m.map fun p => (.string (ByteArray.mk (Array.mk p.1)), .pl (.int .i64 p.2))
def lookS : Sm → List UInt8 → Option Int
  | [], _ => none
  | p :: m, k => if p.1 = k then some p.2 else lookS m k
def putS : Sm → List UInt8 → Int → Sm
  | [], k, v => [(k, v)]
  | p :: m, k, v => if p.1 = k then (k, v) :: m else p :: putS m k v
def getS (m : Sm) (k : List UInt8) : Int := (lookS m k).getD 0
theorem lookS_put (m : Sm) (k j : List UInt8) (v : Int) : lookS (putS m k v) j = if k = j then some v else lookS m j := by
  induction m with
  | nil => simp [putS, lookS]
  | cons p m ih =>
    by_cases h : p.1 = k
    · by_cases h2 : k = j
      · simp [putS, lookS, h, h2]
      · simp [putS, lookS, h, h2]
    · by_cases h2 : k = j
      · subst h2
        simp only [putS, h, if_false, lookS, ih, if_true]
      · by_cases h3 : p.1 = j
        · rw [putS, if_neg h, lookS, if_pos h3, lookS, if_pos h3, if_neg h2]
        · simp only [putS, h, if_false, lookS, h3, ih, h2]
theorem getS_put (m : Sm) (k j : List UInt8) (v : Int) : getS (putS m k v) j = if k = j then v else getS m j := by
  unfold getS
  rw [lookS_put]
  split <;> rfl
theorem sm_ok (m : Sm) : (encSm m).all (fun e => kOk none e.1) = true := by
  unfold encSm; simp [kOk]
theorem sm_find (m : Sm) (k : List UInt8) : mfind (.string (ByteArray.mk (Array.mk k))) (encSm m) = (lookS m k).map fun v => .pl (.int .i64 v) := by
  induction m with
  | nil => rfl
  | cons p m ih =>
    unfold encSm at ih ⊢
    simp only [List.map_cons, mfind, keyEq, lookS, ba_eq, decide_eq_true_eq]
    split
    · rfl
    · exact ih
theorem sm_put (m : Sm) (k : List UInt8) (v : Int) : mput (.string (ByteArray.mk (Array.mk k))) (.pl (.int .i64 v)) (encSm m) = encSm (putS m k v) := by
  induction m with
  | nil => rfl
  | cons p m ih =>
    unfold encSm at ih ⊢
    simp only [List.map_cons, mput, keyEq, putS, ba_eq, decide_eq_true_eq]
    split
    · rfl
    · rw [ih]; rfl
def mapE (kd : Option IntKind) : Option Blk → Option (List (Value × D))
  | some (.map es) => if es.all (fun e => kOk kd e.1) then some es else none
  | _ => none
def lkE (o : Option (List (Value × D))) (kd : Option IntKind) (z : Value) (two : Bool) (k : D) : Option D :=
  match k, o with
  | .pl k, some es => if kOk kd k then some (match mfind k es with
    | some v => if two then .tup [v, .pl (.bool true)] else v
    | none => if two then .tup [zD z, .pl (.bool false)] else zD z) else none
  | _, _ => none
def mupE (o : Option Blk) (mem : Mem) (id : Nat) (kd : Option IntKind) (k : Value) (v : D) : Option (D × Mem) :=
  match o with
  | some (.map es) => if kOk kd k ∧ es.all (fun e => kOk kd e.1) then some (.top, upd mem id (.map (mput k v es))) else none
  | _ => none
section
variable {mem : Mem} {id : Nat} {kd : Option IntKind} {z : Value} {two : Bool} {m k : D}
@[simp] theorem lkD_E : lkD mem kd z two m k = lkE (mapOf mem kd m) kd z two k := (rfl)
@[simp] theorem mapOf_E : mapOf mem kd (.omap id) = mapE kd (look mem id) := (rfl)
@[simp] theorem mupM_E {k : Value} {v : D} : mupM mem kd (some (.omap id)) (some (.pl k)) (some v) = mupE (look mem id) mem id kd k v := (rfl)
@[simp] theorem mapE_S {m : Sm} : mapE none (some (.map (encSm m))) = some (encSm m) := by
  show (if (encSm m).all (fun e => kOk none e.1) = true then some (encSm m) else none) = _
  rw [if_pos (sm_ok m)]
@[simp] theorem mapE_0 : mapE none (some (.map [])) = some (encSm []) := (rfl)
@[simp] theorem lkE_S {m : Sm} {k : List UInt8} : lkE (some (encSm m)) none (.int .i64 0) false (Tx k) = some (.pl (.int .i64 (getS m k))) := by
  unfold lkE getS
  simp only [kOk, if_true, sm_find]
  cases lookS m k with
  | none => rfl
  | some v => rfl
@[simp] theorem mupE_S {m : Sm} {k : List UInt8} {v : Int} : mupE (some (.map (encSm m))) mem id none (.string (ByteArray.mk (Array.mk k))) (.pl (.int .i64 v)) = some (.top, upd mem id (.map (encSm (putS m k v)))) := by
  show (if kOk none (.string (ByteArray.mk (Array.mk k))) = true ∧ (encSm m).all (fun e => kOk none e.1) = true then some (D.top, upd mem id (.map (mput (.string (ByteArray.mk (Array.mk k))) (.pl (.int .i64 v)) (encSm m)))) else none) = _
  rw [if_pos ⟨rfl, sm_ok m⟩, sm_put]
@[simp] theorem mupE_0 {k : List UInt8} {v : Int} : mupE (some (.map [])) mem id none (.string (ByteArray.mk (Array.mk k))) (.pl (.int .i64 v)) = some (.top, upd mem id (.map (encSm (putS [] k v)))) := (rfl)
end
end Go.Fx

/-
  Maps from whole numbers, as lists.
-/
import Derived.Test.YtdjhlljgedknaaaXI
import Derived.Test.YtdjhlljgedknaaaK0
set_option linter.all false
set_option maxRecDepth 100000
namespace Go.Fx.Ytdjhlljgedknaaa
open Go Go.Fx Go.Proofs
section
variable {α : Type} {e : α → D}
abbrev Mi (α : Type) := List (Int × α)
def encMi (e : α → D) (m : Mi α) : List (Value × D) := m.map fun p => (.int .i64 p.1, e p.2)
def lookI : Mi α → Int → Option α
  | [], _ => none
  | p :: m, k => if p.1 = k then some p.2 else lookI m k
def putI : Mi α → Int → α → Mi α
  | [], k, v => [(k, v)]
  | p :: m, k, v => if p.1 = k then (k, v) :: m else p :: putI m k v
theorem lookI_put (m : Mi α) (k j : Int) (v : α) : lookI (putI m k v) j = if k = j then some v else lookI m j := by
  induction m with
  | nil => simp [putI, lookI]
  | cons p m ih =>
    by_cases h : p.1 = k
    · by_cases h2 : k = j
      · simp [putI, lookI, h, h2]
      · simp [putI, lookI, h, h2]
    · by_cases h2 : k = j
      · subst h2
        simp only [putI, h, if_false, lookI, ih, if_true]
      · by_cases h3 : p.1 = j
        · rw [putI, if_neg h, lookI, if_pos h3, lookI, if_pos h3, if_neg h2]
        · simp only [putI, h, if_false, lookI, h3, ih, h2]
theorem putI_len (m : Mi α) (k : Int) (v : α) : (putI m k v).length = if (lookI m k).isSome then m.length else m.length + 1 := by
  induction m with
  | nil => rfl
  | cons p m ih =>
    by_cases h : p.1 = k
    · simp [putI, lookI, h]
    · simp only [putI, lookI, h, if_false, List.length_cons, ih]
      split <;> rfl
theorem mi_ok (m : Mi α) : (encMi e m).all (fun x => kOk (some .i64) x.1) = true := by
  unfold encMi; simp [kOk]
theorem mi_find (m : Mi α) (k : Int) : mfind (.int .i64 k) (encMi e m) = (lookI m k).map e := by
  induction m with
  | nil => rfl
  | cons p m ih =>
    unfold encMi at ih ⊢
    simp only [List.map_cons, mfind, keyEq, lookI, decide_eq_true_eq]
    by_cases h : p.1 = k
    · simp [h]
    · simp [h]; exact ih
theorem mi_put (m : Mi α) (k : Int) (v : α) : mput (.int .i64 k) (e v) (encMi e m) = encMi e (putI m k v) := by
  induction m with
  | nil => rfl
  | cons p m ih =>
    unfold encMi at ih ⊢
    simp only [List.map_cons, mput, keyEq, putI, decide_eq_true_eq]
    by_cases h : p.1 = k
    · simp [h]
    · simp [h]; exact ih
theorem mapE_I {m : Mi α} : mapE (some .i64) (some (.map (encMi e m))) = some (encMi e m) := by
  show (if (encMi e m).all (fun x => kOk (some .i64) x.1) = true then some (encMi e m) else none) = _
  rw [if_pos (mi_ok m)]
theorem lkE_I1 {m : Mi α} {z : Value} {k : Int} : lkE (some (encMi e m)) (some .i64) z false (I k) = some (match lookI m k with | some v => e v | none => zD z) := by
  unfold lkE
  simp only [kOk, mi_find]
  cases lookI m k <;> simp
theorem lkE_I2 {m : Mi α} {z : Value} {k : Int} : lkE (some (encMi e m)) (some .i64) z true (I k) = some (match lookI m k with | some v => .tup [e v, .pl (.bool true)] | none => .tup [zD z, .pl (.bool false)]) := by
  unfold lkE
  simp only [kOk, mi_find]
  cases lookI m k <;> simp
theorem mupE_I {m : Mi α} {mem : Mem} {id : Nat} {k : Int} {v : α} : mupE (some (.map (encMi e m))) mem id (some .i64) (.int .i64 k) (e v) = some (.top, upd mem id (.map (encMi e (putI m k v)))) := by
  unfold mupE
  simp only [mi_put]
  rw [if_pos ⟨rfl, mi_ok m⟩]
theorem encMi_len {m : Mi α} : (encMi e m).length = m.length := by simp [encMi]
end
end Go.Fx.Ytdjhlljgedknaaa

/-
  Texts and bytes as lists of bytes.
-/
import Derived.Test.YtjfiklflmnhbdaaXE
import Derived.Test.YtjfiklflmnhbdaaXF
set_option linter.all false
set_option maxRecDepth 100000
namespace Go.Fx
open Go
/-- A text. -/
abbrev Tx (l : List UInt8) : D := .pl (.string (ByteArray.mk (Array.mk l)))
/-- A byte. -/
abbrev By (n : Int) : D := .pl (.int .u8 n)
def encB (b : UInt8) : List D := [By b.toNat]
def encT (l : List UInt8) : List D := [Tx l]
theorem ba_eq {a b : List UInt8} : (ByteArray.mk (Array.mk a) = ByteArray.mk (Array.mk b)) = (a = b) := by simp
theorem ba_size {l : List UInt8} : (ByteArray.mk (Array.mk l)).size = l.length := by simp [ByteArray.size]
attribute [simp] ba_eq ba_size
theorem ba_get {l : List UInt8} {i : Nat} : (ByteArray.mk (Array.mk l))[i]? = l[i]? := by
  by_cases h : i < l.length
  · have h2 : i < (ByteArray.mk (Array.mk l)).size := by rw [ba_size]; exact h
    rw [getElem?_pos (ByteArray.mk (Array.mk l)) i h2, List.getElem?_eq_getElem h]; rfl
  · have h2 : ¬ i < (ByteArray.mk (Array.mk l)).size := by rw [ba_size]; exact h
    rw [getElem?_neg (ByteArray.mk (Array.mk l)) i h2, List.getElem?_eq_none (by omega)]
/-- The byte at a place, as a number. -/
def bt8 (l : List UInt8) (i : Nat) : Int := ((l[i]?.getD 0).toNat : Int)
theorem bt8_b (l : List UInt8) (i : Nat) : 0 ≤ bt8 l i ∧ bt8 l i ≤ 255 := by
  unfold bt8
  have := (l[i]?.getD 0).toNat_lt
  omega
section
variable {l k : List UInt8} {mem : Mem} {P : Program} {ty : TypeId} {lo hi : Int} {j j2 : IntKind}
@[simp] theorem ixs_T {i : Int} : ixsD (Tx l) (.pl (.int j i)) = if 0 ≤ i ∧ i < l.length then some (By (bt8 l i.toNat)) else none := by
  unfold ixsD bt8
  by_cases h : 0 ≤ i
  · simp only [h, if_true, ba_get, true_and]
    by_cases h2 : i < l.length
    · have h3 : i.toNat < l.length := by omega
      rw [List.getElem?_eq_getElem h3]
      simp [h2]
    · rw [List.getElem?_eq_none (by omega)]
      simp [h2]
  · simp [h]
theorem ba_ext {l : List UInt8} {a b : Nat} (h : b ≤ l.length) : (ByteArray.mk (Array.mk l)).extract a b = ByteArray.mk (Array.mk ((l.take b).drop a)) := by
  have : ((ByteArray.mk (Array.mk l)).extract a b).data = (Array.mk l).extract a b := by simp
  cases hx : (ByteArray.mk (Array.mk l)).extract a b with
  | mk d =>
    rw [hx] at this
    simp only at this
    rw [this]
    congr 1
    apply Array.ext'
    simp [List.extract_eq_take_drop, List.drop_take]
@[simp] theorem sls_T2 {kk : Nat} : slsD mem true kk (Tx l) (some (.pl (.int j lo))) (some (.pl (.int j2 hi))) = if 0 ≤ lo ∧ lo ≤ hi ∧ hi ≤ l.length then some (Tx ((l.take hi.toNat).drop lo.toNat)) else none := by
  simp only [slsD, bound, if_true, ba_size]
  by_cases h : 0 ≤ lo ∧ lo ≤ hi ∧ hi ≤ l.length
  · rw [if_pos h, if_pos h, ba_ext (by omega)]
  · rw [if_neg h, if_neg h]
@[simp] theorem sls_Tl {kk : Nat} : slsD mem true kk (Tx l) (some (.pl (.int j lo))) none = if 0 ≤ lo ∧ lo ≤ l.length then some (Tx (l.drop lo.toNat)) else none := by
  simp only [slsD, bound, if_true, ba_size]
  by_cases h : 0 ≤ lo ∧ lo ≤ l.length
  · rw [if_pos ⟨h.1, h.2, Int.le_refl _⟩, if_pos h, ba_ext (by omega), List.take_of_length_le (by omega)]
  · rw [if_neg (fun g => h ⟨g.1, g.2.1⟩), if_neg h]
@[simp] theorem sls_Th {kk : Nat} : slsD mem true kk (Tx l) none (some (.pl (.int j2 hi))) = if 0 ≤ hi ∧ hi ≤ l.length then some (Tx (l.take hi.toNat)) else none := by
  simp only [slsD, bound, if_true, ba_size]
  by_cases h : 0 ≤ hi ∧ hi ≤ l.length
  · rw [if_pos ⟨by decide, by simpa using h.1, by simpa using h.2⟩, if_pos h, ba_ext (by omega)]; simp
  · rw [if_neg (fun g => h ⟨by simpa using g.2.1, g.2.2⟩), if_neg h]
theorem ba_app : ByteArray.mk (Array.mk l) ++ ByteArray.mk (Array.mk k) = ByteArray.mk (Array.mk (l ++ k)) := by
  cases h : ByteArray.mk (Array.mk l) ++ ByteArray.mk (Array.mk k) with
  | mk d =>
    have : (ByteArray.mk (Array.mk l) ++ ByteArray.mk (Array.mk k)).data = (Array.mk l) ++ (Array.mk k) := by simp [ByteArray.data_append]
    rw [h] at this
    simp only at this
    rw [this]; simp
theorem bin_addT (hlt : l.length + k.length < 2 ^ 63) : binD P .add ty (Tx l) (Tx k) = some (Tx (l ++ k)) := by
  have h : Sem.look P (binOp .add ty (.string (ByteArray.mk (Array.mk l))) (.string (ByteArray.mk (Array.mk k)))) = some (.string (ByteArray.mk (Array.mk l) ++ ByteArray.mk (Array.mk k))) := by
    have h2 : ¬ (9223372036854775807 : Int) < (l.length : Int) + (k.length : Int) := by omega
    simp [binOp, Op.stringOp, Sem.look, Pure.pure, h2]
  rw [ba_app] at h
  simp only [binD, lit, Bool.and_self, if_true, h, Option.map_some]
theorem cellBytes_B : ∀ (l : List UInt8), cellBytes (em encB l) = some l
  | [] => rfl
  | b :: l => by
    have h := cellBytes_B l
    unfold em at h ⊢
    have hb : b.toNat < 256 := b.toNat_lt
    have : cellByte (encB b) = some b := by
      unfold cellByte encB
      simp only
      rw [if_pos ⟨by omega, by omega⟩]
      simp
    simp only [List.map_cons, cellBytes, this, h]
theorem cv_BT {s d : TypeId} (hs : isBytes P s = true) (hd : isStr P d = true) : cvD P s d (.sl (em encB l)) = some (Tx l) := by
  unfold cvD
  simp [hs, hd, cellBytes_B]
theorem cv_TB {s d : TypeId} (hs : isStr P s = true) (hd : isBytes P d = true) : cvD P s d (Tx l) = some (.sl (em encB l)) := by
  unfold cvD
  simp only [hs, hd, Bool.and_self, if_true]
  rfl
theorem ia_B {i : Int} : iaD mem 1 (.sl (em encB l)) (.pl (.int j i)) = if 0 ≤ i ∧ i < l.length then some (.pt [By (bt8 l i.toNat)]) else none := em_ia fun _ => rfl
theorem imm_B (l : List UInt8) : D.immss (em encB l) = true := em_imm fun _ => rfl
theorem ia_T {l : List (List UInt8)} {i : Int} : iaD mem 1 (.sl (em encT l)) (.pl (.int j i)) = if 0 ≤ i ∧ i < l.length then some (.pt [Tx (l[i.toNat]?.getD default)]) else none := em_ia fun _ => rfl
theorem imm_T (l : List (List UInt8)) : D.immss (em encT l) = true := em_imm fun _ => rfl
theorem app_T (l : List (List UInt8)) (t : List UInt8) : em encT l ++ [[Tx t]] = em encT (l ++ [t]) := em_app
attribute [simp] ia_B imm_B ia_T imm_T app_T
theorem cv_B1 {s d : TypeId} (hs : isBytes P s = true) (hd : isStr P d = true) (c : UInt8) : cvD P s d (.sl [[By c.toNat]]) = some (Tx [c]) := cv_BT (l := [c]) hs hd
theorem wru8 {x : Int} (h1 : 0 ≤ x) (h2 : x ≤ 255) : IntKind.u8.wrap x = x := by
  simp [IntKind.wrap, IntKind.signed, IntKind.bits]; omega
end
section
variable {α : Type} {enc : α → List D} {l : List α} {mem : Mem} {kk : Nat} {lo hi : Int} {j j2 : IntKind}
theorem sls_em2 (h : (em enc l).all (fun e => e.length == kk) = true) : slsD mem false kk (.sl (em enc l)) (some (.pl (.int j lo))) (some (.pl (.int j2 hi))) = if 0 ≤ lo ∧ lo ≤ hi ∧ hi ≤ l.length then some (.sl (em enc ((l.take hi.toNat).drop lo.toNat))) else none := by
  simp only [slsD, bound, Bool.false_eq_true, if_false, em_len, em_take, em_drop, h, or_true, and_true]
theorem sls_eml (h : (em enc l).all (fun e => e.length == kk) = true) : slsD mem false kk (.sl (em enc l)) (some (.pl (.int j lo))) none = if 0 ≤ lo ∧ lo ≤ l.length then some (.sl (em enc (l.drop lo.toNat))) else none := by
  simp only [slsD, bound, Bool.false_eq_true, if_false, em_len, em_take, em_drop, h, or_true, and_true, Int.le_refl, Int.toNat_natCast, List.take_length]
theorem sls_emh : slsD mem false kk (.sl (em enc l)) none (some (.pl (.int j2 hi))) = if 0 ≤ hi ∧ hi ≤ l.length then some (.sl (em enc (l.take hi.toNat))) else none := by
  simp only [slsD, bound, Bool.false_eq_true, if_false, em_len, em_take, em_drop]
  by_cases h : 0 ≤ hi ∧ hi ≤ l.length
  · rw [if_pos h, if_pos ⟨⟨by decide, by simpa using h.1, h.2⟩, .inl rfl⟩]; simp
  · rw [if_neg h, if_neg (fun g => h ⟨by simpa using g.1.2.1, g.1.2.2⟩)]
theorem len_B {l : List UInt8} : (em encB l).all (fun e => e.length == 1) = true := by unfold em encB; simp
@[simp] theorem sls_B2 {l : List UInt8} : slsD mem false 1 (.sl (em encB l)) (some (.pl (.int j lo))) (some (.pl (.int j2 hi))) = if 0 ≤ lo ∧ lo ≤ hi ∧ hi ≤ l.length then some (.sl (em encB ((l.take hi.toNat).drop lo.toNat))) else none := sls_em2 len_B
@[simp] theorem sls_Bl {l : List UInt8} : slsD mem false 1 (.sl (em encB l)) (some (.pl (.int j lo))) none = if 0 ≤ lo ∧ lo ≤ l.length then some (.sl (em encB (l.drop lo.toNat))) else none := sls_eml len_B
@[simp] theorem sls_Bh {l : List UInt8} : slsD mem false 1 (.sl (em encB l)) none (some (.pl (.int j2 hi))) = if 0 ≤ hi ∧ hi ≤ l.length then some (.sl (em encB (l.take hi.toNat))) else none := sls_emh
end
end Go.Fx

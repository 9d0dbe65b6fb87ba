/-
  Slices that are read as lists: 'em enc l', element for element.
-/
import Derived.Test.YtaiklblnfebdfaaX20
set_option linter.all false
namespace Go.Fx
open Go
def em {α : Type} (enc : α → List D) (l : List α) : List (List D) := l.map enc
section
variable {α : Type} {enc : α → List D} {l : List α}
@[simp] theorem em_nil : em enc [] = [] := (rfl)
@[simp] theorem em_len : (em enc l).length = l.length := by simp [em]
@[simp] theorem em_take {i : Nat} : (em enc l).take i = em enc (l.take i) := by simp [em, List.map_take]
@[simp] theorem em_drop {i : Nat} : (em enc l).drop i = em enc (l.drop i) := by simp [em, List.map_drop]
@[simp 1100] theorem em_get [Inhabited α] {i : Nat} : (em enc l)[i]? = if i < l.length then some (enc (l[i]?.getD default)) else none := get_map enc l i
theorem em_set {i : Nat} {x : α} : (em enc l).set i (enc x) = em enc (l.set i x) := by simp [em, List.map_set]
theorem em_app {x : α} : em enc l ++ [enc x] = em enc (l ++ [x]) := by simp [em]
@[simp] theorem em_app2 {k : List α} : em enc l ++ em enc k = em enc (l ++ k) := by simp [em]
theorem em_one {x : α} : [enc x] = em enc [x] := (rfl)
theorem em_rep {k : Nat} {x : α} : List.replicate k (enc x) = em enc (List.replicate k x) := by simp [em]
theorem em_imm (h : ∀ x, D.imms (enc x) = true) : D.immss (em enc l) = true := by
  induction l with
  | nil => rfl
  | cons a l ih => simp only [em, List.map_cons, D.immss] at ih ⊢; rw [h, ih]; rfl
theorem em_cell (h : ∀ x, (enc x).all D.cell = true) : (em enc l).all (fun e => e.all D.cell) = true := by
  simp only [em, List.all_map, List.all_eq_true, Function.comp_apply]
  intro x _; exact List.all_eq_true.1 (h x)
theorem em_els {k : Nat} (h : ∀ x, (enc x).all D.cell = true) (hk : ∀ x, (enc x).length = k) : (em enc l).all (fun e => e.length == k && e.all D.cell) = true := by
  simp only [em, List.all_map, List.all_eq_true, Function.comp_apply, Bool.and_eq_true, beq_iff_eq]
  intro x _; exact ⟨hk x, List.all_eq_true.1 (h x)⟩
theorem em_ia [Inhabited α] {mem : Mem} {k : Nat} {j : IntKind} {i : Int} (hk : ∀ x, (enc x).length = k) :
    iaD mem k (.sl (em enc l)) (.pl (.int j i)) = if 0 ≤ i ∧ i < l.length then some (.pt (enc (l[i.toNat]?.getD default))) else none := by
  have := ia_map (f := enc) (l := l) (mem := mem) (j := j) (i := i) hk
  simpa [em] using this
theorem lift_em {p : α → Prop} : ∀ {es : List (List D)}, (∀ c ∈ es, ∃ x, c = enc x ∧ p x) → ∃ l : List α, es = em enc l ∧ ∀ x ∈ l, p x
  | [], _ => ⟨[], rfl, by simp⟩
  | c :: es, h => by
    obtain ⟨x, rfl, hx⟩ := h c (by simp)
    obtain ⟨l, rfl, hl⟩ := lift_em (es := es) fun d hd => h d (by simp [hd])
    exact ⟨x :: l, rfl, by simpa using ⟨hx, hl⟩⟩
end
end Go.Fx

/-
  Calls that write into a block of their caller: blocks told under a place that is known.
-/
import Derived.Test.YtjfiklflmnhbdaaXG
set_option linter.all false
namespace Go.Fx
open Go
section
variable {α : Type}
@[simp] theorem look_updI {i : Nat} {b : α} : ∀ {m : List (Nat × α)}, look (upd m i b) i = (look m i).map fun _ => b
  | [] => rfl
  | (k, x) :: m => by
    by_cases h : k = i
    · simp [upd, look, h]
    · simp only [upd, look, h, if_false]; exact look_updI
@[simp] theorem upd_upd {i : Nat} {a b : α} : ∀ {m : List (Nat × α)}, upd (upd m i a) i b = upd m i b
  | [] => rfl
  | (k, x) :: m => by
    by_cases h : k = i
    · simp [upd, h]
    · simp only [upd, h, if_false]; rw [upd_upd]
theorem look_updN {i j : Nat} {b : α} (h : j ≠ i) {m : List (Nat × α)} : look (upd m i b) j = look m j := look_upd_ne b h m
theorem look_upd_none {i j : Nat} {b : α} : ∀ {m : List (Nat × α)}, look m j = none → look (upd m i b) j = none
  | [], _ => rfl
  | (k, x) :: m, h => by
    simp only [look] at h
    by_cases hk : k = j
    · simp [hk] at h
    · simp only [hk, if_false] at h
      by_cases hi : k = i
      · simp only [upd, hi, if_true, look]
        subst hi
        simp [hk, h]
      · simp only [upd, hi, if_false, look, hk]
        exact look_upd_none h
theorem upd_self {i : Nat} {b : α} : ∀ {m : List (Nat × α)}, look m i = some b → upd m i b = m
  | [], h => rfl
  | (k, x) :: m, h => by
    simp only [look] at h
    by_cases hk : k = i
    · simp only [hk, if_true, Option.some.injEq] at h; simp [upd, hk, h]
    · simp only [hk, if_false] at h
      simp only [upd, hk, if_false]; rw [upd_self h]
end
theorem neA {i a c : Nat} (h : i < a) : (a + c = i) = False := eq_false (by omega)
theorem neB {i a c : Nat} (h : i < a) : (i = a + c) = False := eq_false (by omega)
theorem neC {i a : Nat} (h : i < a) : (a = i) = False := eq_false (by omega)
theorem neD {a b : Nat} (h : b < a) : (a = b) = False := eq_false (by omega)
theorem neE {L m b : Nat} (hm : L ≤ m) (h : b < L) : (m = b) = False := eq_false (by omega)
theorem ltE {L m b c : Nat} (hm : L ≤ m) (h : b < L) : (b < m + c) = True := eq_true (by omega)
theorem ltF {L m b : Nat} (hm : L ≤ m) (h : b < L) : (b < m) = True := eq_true (by omega)
theorem ltA {i a c : Nat} (h : i < a) : (i < a + c) = True := eq_true (by omega)

section
variable {P : Program} {f : FuncId} {args : List D} {mem : Mem} {nx : Nat} {K K' : KD}
/-- What a call hands back is only read from then on: its blocks are mf; mk stays. -/
def KFrz (K : KD) : KD := fun d m n => ∃ mf mk d', memSub m mf ∧ memSub m mk ∧ (∀ i, look mf i = none ∨ look mk i = none) ∧ frz mf 100 d = some d' ∧ K d' mk n
theorem CallT_frzR (h : CallT P f args mem nx (KFrz K)) : CallT P f args mem nx K := by
  refine ⟨h.1, fun S φ w xs hm hx => (h.2 S φ w xs hm hx).mono ?_⟩
  rintro e w' ⟨v, d, mem', nx', S', φ', he, ⟨mf, mk, d', g1, g2, gd, gf, gk⟩, hn, hm', hr, hst, hx', hlow⟩
  have hmf : MSim S' φ' mf nx' w' := MSim_le hm' (memSub_le g1) (Nat.le_refl _)
  have hmk0 : MSim S' φ' mk nx' w' := MSim_le hm' (memSub_le g2) (Nat.le_refl _)
  have hS2 : ∀ b, SF S' φ' mf b → b < w'.heap.size := by
    rintro b (h | ⟨i, blk, l, _, k2, k3, rfl⟩)
    · exact hm'.sub b h
    · exact hm'.lt i l k2 k3
  have hmk : MSim (SF S' φ' mf) φ' mk nx' w' := ⟨fun i blk hi => by
      obtain ⟨l, k1, k2, k3⟩ := hmk0.mem i blk hi
      refine ⟨l, k1, fun hr hs => ?_, BRep.mono stays_SF (fun _ => rfl) blk k3⟩
      rcases hs with hs | ⟨j, blk', l', j1, j2, j3, j4⟩
      · exact k2 hr hs
      · have := hm'.inj j i l' l j2 k1 j3 hr j4
        subst this
        rcases gd j with e | e
        · rw [e] at j1; simp at j1
        · rw [e] at hi; simp at hi, hm'.inj, hm'.lt, hm'.fresh, hS2⟩
  have hst2 : Stays w' S' φ' w' (SF S' φ' mf) φ' := stays_SF
  refine ⟨v, d', mk, nx', SF S' φ' mf, φ', he, gk, hn, hmk, Rep.mono (φ' := φ') ⟨fun _ h => h, fun _ _ _ => rfl, fun _ _ h => by simp [noLocs] at h⟩ _ _ (frz_sound hmf 100 d d' _ gf hr),
    ⟨fun b hb => .inl (hst.sub b hb), hst.cell, hst.loc⟩, ⟨fun b hb => .inl (hx'.sub b hb), fun b hb ho => hx'.keep b hb ho, hx'.size, fun b hb ho => hx'.own b hb ?_, fun b hb => ?_, hx'.os, hx'.output, hx'.tape⟩, hlow⟩
  · obtain ⟨i, blk, l, k1, k2, k3, k4⟩ := ho
    exact ⟨i, blk, l, g2 i blk k1, k2, k3, k4⟩
  · rcases hb with h | ⟨i, blk, l, k1, k2, k3, k4⟩
    · exact hx'.news b h
    · by_cases hlt : b < w.heap.size
      · exact .inr (.inr (hx'.own b hlt ⟨i, blk, l, g1 i blk k1, k2, k3, k4⟩))
      · exact .inr (.inl (by omega))
theorem memSub_one {m : Mem} {L : Nat} {b : Blk} (h : look m L = some b) : memSub m [(L, b)] := fun i x hx => by
  simp only [look] at hx
  split at hx
  · rename_i e
    simp only [Option.some.injEq] at hx
    rw [← e, ← hx]; exact h
  · simp at hx
/-- Nothing owned comes back. -/
theorem kfrz0 {m m0 : Mem} {d d' : D} {n : Nat} (h1 : memSub m m0) (h2 : frz [] 100 d = some d') (h3 : K d' m0 n) : ∃ mem', memSub m mem' ∧ KFrz K d mem' n :=
  ⟨m0, h1, [], m0, d', memSub_nil _, memSub_refl _, fun _ => .inl rfl, h2, h3⟩
/-- One owned block comes back. -/
theorem kfrz1 {m mk : Mem} {d d' : D} {n : Nat} (L : Nat) (b : Blk) (hL : look m L = some b) (h1 : memSub m mk) (hn : look mk L = none) (h2 : frz [(L, b)] 100 d = some d') (h3 : K d' mk n) : ∃ mem', memSub m mem' ∧ KFrz K d mem' n :=
  ⟨m, memSub_refl _, [(L, b)], mk, d', memSub_one hL, h1, fun i => by
    by_cases e : L = i
    · subst e; exact .inr hn
    · left; simp [look, e], h2, h3⟩
end
end Go.Fx

/-
  A region that draws its order (second part): its states, by the operations that are done.
-/
import Derived.Test.YtaghjpoijodgfaaX14
set_option linter.all false
namespace Go.Fx
open Go
section
variable {C : Cfg} {w w' : World} {S S' : Nat → Prop} {φ φ' : Locs} {a : Act} {env tl : Env} {mem : Mem} {nx id base : Nat} {is : List Ins} {oc oc' : Nat → Oc}

def dG (is : List Ins) (j t : Nat) : Prop := ∃ x, is[j]? = some x ∧ x.dst = .g t
def dT (is : List Ins) (j t : Nat) : Prop := ∃ x, is[j]? = some x ∧ x.dst = .t t

theorem fE_append (e : Env) (l l' : List Nat) : fE is oc e (l ++ l') = fE is oc (fE is oc e l) l' := by
  induction l generalizing e with
  | nil => rfl
  | cons j l ih => simp only [List.cons_append, fE]; exact ih _
theorem fT_append (e : Env) (l l' : List Nat) : fT is oc e (l ++ l') = fT is oc (fT is oc e l) l' := by
  induction l generalizing e with
  | nil => rfl
  | cons j l ih => simp only [List.cons_append, fT]; exact ih _
theorem fM_append (m : Mem) (l l' : List Nat) : fM oc m (l ++ l') = fM oc (fM oc m l) l' := by
  induction l generalizing m with
  | nil => rfl
  | cons j l ih => simp only [List.cons_append, fM]; exact ih _

theorem fE_congr : ∀ (l : List Nat) (e : Env), (∀ j ∈ l, oc j = oc' j) → fE is oc e l = fE is oc' e l
  | [], _, _ => rfl
  | j :: l, e, h => by
    simp only [fE]; rw [h j (by simp)]; exact fE_congr l _ fun i hi => h i (by simp [hi])
theorem fT_congr : ∀ (l : List Nat) (e : Env), (∀ j ∈ l, oc j = oc' j) → fT is oc e l = fT is oc' e l
  | [], _, _ => rfl
  | j :: l, e, h => by
    simp only [fT]; rw [h j (by simp)]; exact fT_congr l _ fun i hi => h i (by simp [hi])
theorem fM_congr : ∀ (l : List Nat) (m : Mem), (∀ j ∈ l, oc j = oc' j) → fM oc m l = fM oc' m l
  | [], _, _ => rfl
  | j :: l, m, h => by
    simp only [fM]; rw [h j (by simp)]; exact fM_congr l _ fun i hi => h i (by simp [hi])

theorem putE_other {d : Dst} {v : D} {e : Env} {t : Nat} (h : d ≠ .g t) : look (putE d v e) t = look e t := by
  cases d with
  | g j => exact look_upd_ne v (by rintro rfl; exact h rfl) e
  | _ => rfl
theorem putT_other {d : Dst} {v : D} {e : Env} {t : Nat} (h : d ≠ .t t) : look (putT d v e) t = look e t := by
  cases d with
  | t j => simp only [putT, look]; rw [if_neg (by rintro rfl; exact h rfl)]
  | _ => rfl

theorem look_upd_map (j : Nat) (v : D) : ∀ (e : Env), look (upd e j v) j = (look e j).map fun _ => v
  | [] => rfl
  | (k, x) :: e => by
    by_cases hk : k = j
    · simp [upd, look, hk]
    · simp only [upd, hk, if_false, look]; exact look_upd_map j v e

theorem fE_none : ∀ (l : List Nat) (e : Env) (t : Nat), (∀ j ∈ l, ¬ dG is j t) → look (fE is oc e l) t = look e t
  | [], _, _, _ => rfl
  | j :: l, e, t, h => by
    simp only [fE]
    rw [fE_none l _ t fun i hi => h i (by simp [hi])]
    split
    · rename_i x hx
      exact putE_other fun hd => h j (by simp) ⟨x, hx, hd⟩
    · rfl
theorem fT_none : ∀ (l : List Nat) (e : Env) (t : Nat), (∀ j ∈ l, ¬ dT is j t) → look (fT is oc e l) t = look e t
  | [], _, _, _ => rfl
  | j :: l, e, t, h => by
    simp only [fT]
    rw [fT_none l _ t fun i hi => h i (by simp [hi])]
    split
    · rename_i x hx
      exact putT_other fun hd => h j (by simp) ⟨x, hx, hd⟩
    · rfl

theorem fE_some : ∀ (l : List Nat) (e : Env) (t j : Nat), j ∈ l → dG is j t → (∀ i ∈ l, i ≠ j → ¬ dG is i t) → look (fE is oc e l) t = (look e t).map fun _ => (oc j).d
  | [], _, _, _, h, _, _ => by simp at h
  | i :: l, e, t, j, hj, hd, hu => by
    simp only [fE]
    by_cases hij : i = j
    · subst hij
      obtain ⟨x, hx, hxd⟩ := hd
      rw [hx]
      have e1 : look (putE x.dst (oc i).d e) t = (look e t).map fun _ => (oc i).d := by rw [hxd]; exact look_upd_map t _ e
      by_cases hm : i ∈ l
      · rw [fE_some l _ t i hm ⟨x, hx, hxd⟩ fun i' h => hu i' (by simp [h]), e1]
        cases look e t <;> rfl
      · rw [fE_none l _ t fun i' h => hu i' (by simp [h]) (by rintro rfl; exact hm h), e1]
    · have hm : j ∈ l := by rcases List.mem_cons.1 hj with h | h; exact absurd h.symm hij; exact h
      rw [fE_some l _ t j hm hd fun i' h => hu i' (by simp [h])]
      congr 1
      split
      · rename_i x hx
        exact putE_other fun h => hu i (by simp) hij ⟨x, hx, h⟩
      · rfl

theorem fT_some : ∀ (l : List Nat) (e : Env) (t j : Nat), j ∈ l → dT is j t → (∀ i ∈ l, i ≠ j → ¬ dT is i t) → look (fT is oc e l) t = some (oc j).d
  | [], _, _, _, h, _, _ => by simp at h
  | i :: l, e, t, j, hj, hd, hu => by
    simp only [fT]
    by_cases hij : i = j
    · subst hij
      obtain ⟨x, hx, hxd⟩ := hd
      rw [hx]
      have e1 : look (putT x.dst (oc i).d e) t = some (oc i).d := by rw [hxd]; simp [putT, look]
      by_cases hm : i ∈ l
      · exact fT_some l _ t i hm ⟨x, hx, hxd⟩ fun i' h => hu i' (by simp [h])
      · rw [fT_none l _ t fun i' h => hu i' (by simp [h]) (by rintro rfl; exact hm h)]; exact e1
    · have hm : j ∈ l := by rcases List.mem_cons.1 hj with h | h; exact absurd h.symm hij; exact h
      exact fT_some l _ t j hm hd fun i' h => hu i' (by simp [h])

/-- An outcome makes no block but its own. -/
def Exts (base : Nat) (oc : Nat → Oc) (j : Nat) : Prop := (oc j).ext = [] ∨ ∃ b, (oc j).ext = [(base + j, b)]

theorem fM_none : ∀ (l : List Nat) (m : Mem) (i : Nat), (∀ j ∈ l, Exts base oc j) → (∀ j ∈ l, (oc j).ext ≠ [] → i ≠ base + j) → look (fM oc m l) i = look m i
  | [], _, _, _, _ => rfl
  | j :: l, m, i, hx, h => by
    simp only [fM]
    rw [fM_none l _ i (fun j hj => hx j (by simp [hj])) fun j hj => h j (by simp [hj])]
    rcases hx j (by simp) with he | ⟨b, he⟩
    · rw [he]; rfl
    · have hne := h j (by simp) (by rw [he]; simp)
      rw [he]
      simp only [List.cons_append, List.nil_append, look]
      rw [if_neg (Ne.symm hne)]
theorem fM_some : ∀ (l : List Nat) (m : Mem) (j : Nat) (b : Blk), (∀ j ∈ l, Exts base oc j) → j ∈ l → (oc j).ext = [(base + j, b)] → look (fM oc m l) (base + j) = some b
  | [], _, _, _, _, h, _ => by simp at h
  | i :: l, m, j, b, hx, hj, he => by
    simp only [fM]
    by_cases hm : j ∈ l
    · exact fM_some l _ j b (fun j hj => hx j (by simp [hj])) hm he
    · have hij : i = j := by rcases List.mem_cons.1 hj with h | h; exact h.symm; exact absurd h hm
      subst hij
      have hne : ∀ j ∈ l, (oc j).ext ≠ [] → base + i ≠ base + j := fun j hj _ e => by
        have hji : j = i := by omega
        exact hm (hji ▸ hj)
      rw [fM_none l _ _ (fun j hj => hx j (by simp [hj])) hne]
      rw [he]; simp [look]

/-- Of two operations each writes its own slot. -/
def Uniq (is : List Ins) (k : Nat) : Prop := ∀ i j, i < k → j < k → i ≠ j → ∀ t, (dG is i t → ¬ dG is j t) ∧ (dT is i t → ¬ dT is j t)

theorem same_E {k : Nat} {l l' : List Nat} (hu : Uniq is k) (hl : ∀ j ∈ l, j < k) (hll : ∀ j, j ∈ l ↔ j ∈ l') (t : Nat) : look (fE is oc env l) t = look (fE is oc env l') t := by
  by_cases h : ∃ j ∈ l, dG is j t
  · obtain ⟨j, hj, hd⟩ := h
    rw [fE_some l env t j hj hd fun i hi hne hd' => (hu j i (hl j hj) (hl i hi) (Ne.symm hne) t).1 hd hd',
      fE_some l' env t j ((hll j).1 hj) hd fun i hi hne hd' => (hu j i (hl j hj) (hl i ((hll i).2 hi)) (Ne.symm hne) t).1 hd hd']
  · rw [fE_none l env t fun j hj hd => h ⟨j, hj, hd⟩, fE_none l' env t fun j hj hd => h ⟨j, (hll j).2 hj, hd⟩]

theorem same_T {k : Nat} {l l' : List Nat} (hu : Uniq is k) (hl : ∀ j ∈ l, j < k) (hll : ∀ j, j ∈ l ↔ j ∈ l') (t : Nat) : look (fT is oc tl l) t = look (fT is oc tl l') t := by
  by_cases h : ∃ j ∈ l, dT is j t
  · obtain ⟨j, hj, hd⟩ := h
    rw [fT_some l tl t j hj hd fun i hi hne hd' => (hu j i (hl j hj) (hl i hi) (Ne.symm hne) t).2 hd hd',
      fT_some l' tl t j ((hll j).1 hj) hd fun i hi hne hd' => (hu j i (hl j hj) (hl i ((hll i).2 hi)) (Ne.symm hne) t).2 hd hd']
  · rw [fT_none l tl t fun j hj hd => h ⟨j, hj, hd⟩, fT_none l' tl t fun j hj hd => h ⟨j, (hll j).2 hj, hd⟩]

theorem same_M {l l' : List Nat} (hx : ∀ j ∈ l, Exts base oc j) (hll : ∀ j, j ∈ l ↔ j ∈ l') (i : Nat) : look (fM oc mem l) i = look (fM oc mem l') i := by
  have hx' : ∀ j ∈ l', Exts base oc j := fun j hj => hx j ((hll j).2 hj)
  by_cases h : ∃ j ∈ l, (oc j).ext ≠ [] ∧ i = base + j
  · obtain ⟨j, hj, he, rfl⟩ := h
    rcases hx j hj with h0 | ⟨b, h0⟩
    · exact absurd h0 he
    · rw [fM_some l mem j b hx hj h0, fM_some l' mem j b hx' ((hll j).1 hj) h0]
  · rw [fM_none l mem i hx fun j hj he hi => h ⟨j, hj, he, hi⟩, fM_none l' mem i hx' fun j hj he hi => h ⟨j, (hll j).2 hj, he, hi⟩]

theorem Here_congr {env2 tl2 : Env} {mem2 : Mem} (h1 : ∀ t, look env t = look env2 t) (h2 : ∀ t, look tl t = look tl2 t) (h3 : ∀ t, look mem t = look mem2 t) (h : Here C S φ env tl mem nx a w) : Here C S φ env2 tl2 mem2 nx a w :=
  ⟨⟨fun j d hj hl => h.known.env j d hj (by rw [h1]; exact hl), fun j d hj hl => h.known.tl j d hj (by rw [h2]; exact hl)⟩, h.size, h.defers,
    ⟨fun i b hi => h.m.mem i b (by rw [h3]; exact hi), h.m.inj, h.m.lt, h.m.fresh, h.m.sub⟩⟩

theorem Ext_congr {mem2 : Mem} {mem0 : Mem} {φ0 : Locs} {S0 : Nat → Prop} {w0 : World} (h3 : ∀ t, look mem t = look mem2 t) (h : Ext S0 φ0 mem0 w0 S φ mem w) : Ext S0 φ0 mem0 w0 S φ mem2 w :=
  ⟨h.sub, h.keep, h.size, fun b hb ⟨i, blk, l, g1, g2⟩ => h.own b hb ⟨i, blk, l, by rw [h3]; exact g1, g2⟩, h.news, h.os, h.output, h.tape⟩

/-- What is known of each free operation, by the text's order. -/
def Told (C : Cfg) (base nx : Nat) (is : List Ins) (oc : Nat → Oc) (env tl : Env) (mem : Mem) (j : Nat) (x : Ins) : Prop :=
  ((oc j).ext = [] ∨ (∃ b, (oc j).ext = [(base + j, b)]) ∧ Cfg.makesI x.i = true) ∧
  ∀ env2 tl2 mem2 nx2 (go2 : Env → Env → Mem → Nat → Prop), (∀ s ∈ Cfg.sees x, look (fE is oc env (List.range j)) s = look env2 s ∧ look (fT is oc tl (List.range j)) s = look tl2 s) →
    (Cfg.looksI x.i = true → Sub (fM oc mem (List.range j)) mem2) → go2 (putE x.dst (oc j).d env2) (putT x.dst (oc j).d tl2) ((oc j).ext ++ mem2) nx2 → One C base x j env2 tl2 mem2 nx2 go2

theorem trace {K : Env → Env → Mem → Nat → Prop} (h : run C base K is 0 env tl mem nx) (k : Nat) (hk : ∀ j x, j < k → is[j]? = some x → x.i.free = true) (hkl : k ≤ is.length) : ∀ m, m ≤ k → ∃ oc : Nat → Oc,
    (∀ j x, j < m → is[j]? = some x → Told C base nx is oc env tl mem j x) ∧ run C base K (is.drop m) m (fE is oc env (List.range m)) (fT is oc tl (List.range m)) (fM oc mem (List.range m)) nx
  | 0, _ => ⟨fun _ => default, fun j x hj => by omega, by simpa [fE, fT, fM] using h⟩
  | m + 1, hm => by
    obtain ⟨oc, h1, h2⟩ := trace h k hk hkl m (by omega)
    have hlt : m < is.length := by omega
    obtain ⟨x, hx⟩ : ∃ x, is[m]? = some x := ⟨_, List.getElem?_eq_getElem hlt⟩
    have hdrop : is.drop m = x :: is.drop (m + 1) := by
      rw [List.drop_eq_getElem_cons hlt]
      congr 1
      have := List.getElem?_eq_getElem hlt
      rw [hx] at this; exact (Option.some.inj this).symm
    rw [hdrop, run_one] at h2
    obtain ⟨o, g1, g2, g3⟩ := one_free (hk m x (by omega) hx) h2
    have hcE : ∀ i, i ≤ m → fE is (fun j => if j = m then o else oc j) env (List.range i) = fE is oc env (List.range i) := fun i hi => fE_congr _ _ fun j hj => by
      have : j < i := by simpa using hj
      rw [if_neg (by omega)]
    have hcT : ∀ i, i ≤ m → fT is (fun j => if j = m then o else oc j) tl (List.range i) = fT is oc tl (List.range i) := fun i hi => fT_congr _ _ fun j hj => by
      have : j < i := by simpa using hj
      rw [if_neg (by omega)]
    have hcM : ∀ i, i ≤ m → fM (fun j => if j = m then o else oc j) mem (List.range i) = fM oc mem (List.range i) := fun i hi => fM_congr _ _ fun j hj => by
      have : j < i := by simpa using hj
      rw [if_neg (by omega)]
    refine ⟨fun j => if j = m then o else oc j, fun j y hj hy => ?_, ?_⟩
    · by_cases hjm : j = m
      · subst hjm
        rw [hx] at hy; simp only [Option.some.injEq] at hy; subst hy
        unfold Told
        rw [hcE j (Nat.le_refl _), hcT j (Nat.le_refl _), hcM j (Nat.le_refl _)]
        simp only [if_true]
        exact ⟨g2, g3⟩
      · have hlt : j < m := by omega
        have := h1 j y hlt hy
        unfold Told at this ⊢
        rw [hcE j (by omega), hcT j (by omega), hcM j (by omega)]
        simp only [hjm, if_false]
        exact this
    · rw [List.range_succ, fE_append, fT_append, fM_append, hcE m (Nat.le_refl _), hcT m (Nat.le_refl _), hcM m (Nat.le_refl _)]
      simp only [fE, fT, fM, hx, if_true]
      exact g1
end
end Go.Fx

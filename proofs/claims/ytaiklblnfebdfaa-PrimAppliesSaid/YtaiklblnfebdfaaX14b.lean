/-
  A region that draws its order: two operations that have nothing to do with one another may change places.
-/
import Derived.Test.YtaiklblnfebdfaaX14
set_option linter.all false
namespace Go.Fx
open Go
section
variable {C : Cfg} {w w' : World} {S S' : Nat → Prop} {φ φ' : Locs} {a : Act} {env tl env2 tl2 : Env} {mem mem2 : Mem} {nx nx2 id base : Nat}

theorem putE_other {d : Dst} {v : D} {e : Env} {t : Nat} (h : d ≠ .g t) : look (putE d v e) t = look e t := by
  cases d with
  | g j => simp only [putE]; exact look_upd_ne _ (fun e => h (by rw [e])) _
  | _ => rfl
theorem putT_other {d : Dst} {v : D} {e : Env} {t : Nat} (h : d ≠ .t t) : look (putT d v e) t = look e t := by
  cases d with
  | t j => simp only [putT, look]; rw [if_neg (fun e => h (by rw [e]))]
  | _ => rfl
theorem look_upd_map {α : Type} (j : Nat) (v : α) : ∀ (e : List (Nat × α)), look (upd e j v) j = (look e j).map fun _ => v
  | [] => rfl
  | (k, x) :: e => by
    by_cases hk : k = j
    · simp [upd, look, hk]
    · simp [upd, look, hk, look_upd_map j v e]

/-- Alike for whoever looks. -/
def Lk {α : Type} (e e2 : List (Nat × α)) : Prop := ∀ t, look e t = look e2 t
theorem Lk.refl {α : Type} (e : List (Nat × α)) : Lk e e := fun _ => rfl
theorem Lk.symm {α : Type} {e e2 : List (Nat × α)} (h : Lk e e2) : Lk e2 e := fun t => (h t).symm
theorem Lk.trans {α : Type} {e e2 e3 : List (Nat × α)} (h : Lk e e2) (k : Lk e2 e3) : Lk e e3 := fun t => (h t).trans (k t)
theorem Lk.upd {α : Type} {e e2 : List (Nat × α)} (h : Lk e e2) (j : Nat) (v : α) : Lk (upd e j v) (upd e2 j v) := fun t => by
  by_cases ht : t = j
  · subst ht; rw [look_upd_map, look_upd_map, h]
  · rw [look_upd_ne _ ht, look_upd_ne _ ht, h]
theorem Lk.cons {α : Type} {e e2 : List (Nat × α)} (h : Lk e e2) (x : Nat × α) : Lk (x :: e) (x :: e2) := fun t => by
  obtain ⟨k, v⟩ := x
  simp only [look]; rw [h]
theorem Lk.app {α : Type} {e e2 : List (Nat × α)} (h : Lk e e2) : ∀ (x : List (Nat × α)), Lk (x ++ e) (x ++ e2)
  | [] => h
  | y :: x => (Lk.app h x).cons y
theorem Lk.putE {e e2 : Env} (h : Lk e e2) (d : Dst) (v : D) : Lk (putE d v e) (putE d v e2) := by
  cases d with
  | g j => exact h.upd j v
  | _ => exact h
theorem Lk.putT {e e2 : Env} (h : Lk e e2) (d : Dst) (v : D) : Lk (putT d v e) (putT d v e2) := by
  cases d with
  | t j => exact h.cons _
  | _ => exact h
theorem Lk.sub {m m2 : Mem} (h : Lk m m2) : Sub m m2 := fun i b hb => by rw [← h]; exact hb

theorem putE_comm {d d2 : Dst} {v v2 : D} {e : Env} (h : ∀ t ∈ Cfg.dstO d, t ∉ Cfg.dstO d2) : Lk (putE d v (putE d2 v2 e)) (putE d2 v2 (putE d v e)) := by
  cases d with
  | g j =>
    cases d2 with
    | g k =>
      have hne : j ≠ k := fun e => h j (by simp [Cfg.dstO]) (by simp [Cfg.dstO, e])
      intro t
      simp only [Go.Fx.putE]
      by_cases h1 : t = j
      · subst h1; rw [look_upd_map, look_upd_ne _ hne, look_upd_ne _ hne, look_upd_map]
      · rw [look_upd_ne _ h1]
        by_cases h2 : t = k
        · subst h2; rw [look_upd_map, look_upd_map, look_upd_ne _ h1]
        · rw [look_upd_ne _ h2, look_upd_ne _ h2, look_upd_ne _ h1]
    | _ => exact Lk.refl _
  | _ => exact Lk.refl _
theorem putT_comm {d d2 : Dst} {v v2 : D} {e : Env} (h : ∀ t ∈ Cfg.dstO d, t ∉ Cfg.dstO d2) : Lk (putT d v (putT d2 v2 e)) (putT d2 v2 (putT d v e)) := by
  cases d with
  | t j =>
    cases d2 with
    | t k =>
      have hne : j ≠ k := fun e => h j (by simp [Cfg.dstO]) (by simp [Cfg.dstO, e])
      intro t
      simp only [Go.Fx.putT, look]
      by_cases h1 : j = t
      · subst h1; rw [if_pos rfl, if_neg (fun e => hne e.symm), if_pos rfl]
      · rw [if_neg h1, if_neg h1]
    | _ => exact Lk.refl _
  | _ => exact Lk.refl _

abbrev Go4 := Env → Env → Mem → Nat → Prop
/-- It hangs on what is looked up alone. -/
def Inv (go : Go4) : Prop := ∀ e t m n e2 t2 m2, Lk e e2 → Lk t t2 → Lk m m2 → go e t m n → go e2 t2 m2 n

/-! #### Operations that write: one outcome but for calls -/
abbrev I.call : I → Bool := Cfg.callI

theorem wrc_lk {n : Nat} {x : D} {new : List D} {m : Mem} (h : wrc mem n x new = some m) (hm : Lk mem mem2) : ∃ m2, wrc mem2 n x new = some m2 ∧ Lk m m2 := by
  cases x with
  | opt id off =>
    simp only [wrc] at h ⊢
    split at h
    · rename_i hc
      rw [if_pos hc, ← hm]
      split at h
      · split at h
        · rename_i h2
          rw [if_pos h2]
          simp only [Option.some.injEq] at h; subst h
          exact ⟨_, rfl, hm.upd _ _⟩
        · simp at h
      · simp at h
    · simp at h
  | oel id ver i off =>
    simp only [wrc] at h ⊢
    split at h
    · rename_i hc
      rw [if_pos hc, ← hm]
      split at h
      · split at h
        · rename_i h2
          rw [if_pos h2]
          split at h
          · split at h
            · rename_i h3
              rw [if_pos h3]
              simp only [Option.some.injEq] at h; subst h
              exact ⟨_, rfl, hm.upd _ _⟩
            · simp at h
          · simp at h
        · simp at h
      · simp at h
    · simp at h
  | _ => simp [wrc] at h

theorem apnM_lk {k b : Nat} {x y : Option D} {d : D} {m : Mem} (h : apnM id mem k b x y = some (d, m)) (hm : Lk mem mem2) : ∃ m2, apnM id mem2 k b x y = some (d, m2) ∧ Lk m m2 := by
  unfold apnM at h ⊢
  split at h
  · split at h
    · rename_i hr
      rw [if_pos hr]
      split at h
      · rename_i he
        rw [els_sub (hm.sub.at _) he]
        simp only at h ⊢
        split at h
        · rename_i hb
          rw [if_pos hb]
          simp only [Option.some.injEq, Prod.mk.injEq] at h
          obtain ⟨rfl, rfl⟩ := h
          exact ⟨_, rfl, hm.cons _⟩
        · simp at h
      · simp at h
    · simp at h
  · simp at h

theorem appM_lk {k b : Nat} {x y : Option D} {d : D} {m : Mem} (h : appM id mem k b x y = some (d, m)) (hm : Lk mem mem2) : ∃ m2, appM id mem2 k b x y = some (d, m2) ∧ Lk m m2 := by
  unfold appM at h ⊢
  split at h
  · rename_i i ver lo n y
    split at h
    · rename_i h1 h2
      rw [← hm, h1, els_sub (hm.sub.at _) h2]
      simp only
      split at h
      · rename_i h3
        rw [if_pos h3]
        simp only [Option.some.injEq, Prod.mk.injEq] at h
        obtain ⟨rfl, rfl⟩ := h
        exact ⟨_, rfl, hm.upd _ _⟩
      · simp at h
    · simp at h
  · exact apnM_lk h hm

theorem stM_lk {n : Nat} {x y : Option D} {d : D} {m : Mem} (h : stM mem n x y = some (d, m)) (hm : Lk mem mem2) : ∃ m2, stM mem2 n x y = some (d, m2) ∧ Lk m m2 := by
  unfold stM at h ⊢
  split at h
  · split at h
    · rename_i hw
      simp only [Option.some.injEq, Prod.mk.injEq] at h
      obtain ⟨rfl, rfl⟩ := h
      obtain ⟨m2, h1, h2⟩ := wrc_lk hw hm
      rw [h1]; exact ⟨m2, rfl, h2⟩
    · simp at h
  · simp at h

theorem mupM_lk {kd : Option IntKind} {x y v : Option D} {d : D} {m : Mem} (h : mupM mem kd x y v = some (d, m)) (hm : Lk mem mem2) : ∃ m2, mupM mem2 kd x y v = some (d, m2) ∧ Lk m m2 := by
  unfold mupM at h ⊢
  split at h
  · split at h
    · rename_i hl
      rw [← hm, hl]
      simp only at h ⊢
      split at h
      · rename_i hc
        rw [if_pos hc]
        simp only [Option.some.injEq, Prod.mk.injEq] at h
        obtain ⟨rfl, rfl⟩ := h
        exact ⟨_, rfl, hm.upd _ _⟩
      · simp at h
    · simp at h
  · simp at h

/-- A write: one block, to which the address leads. -/
theorem wrc_form {n : Nat} {x : D} {new : List D} {m : Mem} (h : wrc mem n x new = some m) : ∃ i b b', x.hd = some i ∧ look mem i = some b ∧ m = upd mem i b' ∧ ∀ mem2, look mem2 i = some b → wrc mem2 n x new = some (upd mem2 i b') := by
  cases x with
  | opt id off =>
    simp only [wrc] at h ⊢
    split at h
    · rename_i hc
      split at h
      · rename_i cs hl
        split at h
        · rename_i h2
          simp only [Option.some.injEq] at h; subst h
          exact ⟨id, _, _, rfl, hl, rfl, fun mem2 hl2 => by rw [if_pos hc, hl2]; simp only; rw [if_pos h2]⟩
        · simp at h
      · simp at h
    · simp at h
  | oel id ver i off =>
    simp only [wrc] at h ⊢
    split at h
    · rename_i hc
      split at h
      · rename_i v k es hl
        split at h
        · rename_i h2
          split at h
          · rename_i e he
            split at h
            · rename_i h3
              simp only [Option.some.injEq] at h; subst h
              exact ⟨id, _, _, rfl, hl, rfl, fun mem2 hl2 => by rw [if_pos hc, hl2]; simp only; rw [if_pos h2, he]; simp only; rw [if_pos h3]⟩
            · simp at h
          · simp at h
        · simp at h
      · simp at h
    · simp at h
  | _ => simp [wrc] at h

theorem stM_form {n : Nat} {a y : Option D} {d : D} {m : Mem} (h : stM mem n a y = some (d, m)) : ∃ x i b b', a = some x ∧ x.hd = some i ∧ look mem i = some b ∧ m = upd mem i b' ∧ ∀ mem2, look mem2 i = some b → stM mem2 n a y = some (d, upd mem2 i b') := by
  unfold stM at h ⊢
  split at h
  · rename_i a0 y0
    split at h
    · rename_i m0 hw
      simp only [Option.some.injEq, Prod.mk.injEq] at h
      obtain ⟨rfl, rfl⟩ := h
      obtain ⟨i, b, b', h1, h2, h3, h4⟩ := wrc_form hw
      exact ⟨_, i, b, b', rfl, h1, h2, h3, fun mem2 h => by rw [h4 mem2 h]⟩
    · simp at h
  · simp at h

theorem upd_comm {α : Type} {i j : Nat} {x y : α} (h : i ≠ j) (m : List (Nat × α)) : Lk (upd (upd m i x) j y) (upd (upd m j y) i x) := fun t => by
  by_cases h1 : t = i
  · subst h1; rw [look_upd_ne _ h, look_upd_map, look_upd_map, look_upd_ne _ h]
  · by_cases h2 : t = j
    · subst h2; rw [look_upd_map, look_upd_ne _ h1, look_upd_ne _ h1, look_upd_map]
    · rw [look_upd_ne _ h2, look_upd_ne _ h1, look_upd_ne _ h1, look_upd_ne _ h2]

/-- A store or an append has one outcome, which hangs on what it reads and on what is looked up. -/
theorem write_one {i : I} {K : KD} (hf : i.free = false) (hc : i.call = false) (h : stepI C id i env tl mem nx K) : ∃ d m, K d m nx ∧
    ∀ env2 tl2 mem2 nx2, (∀ s ∈ Cfg.seesI i, look env s = look env2 s ∧ look tl s = look tl2 s) → Lk mem mem2 → ∃ m2, Lk m m2 ∧ stepI C id i env2 tl2 mem2 nx2 (Sg d m2 nx2) := by
  cases i with
  | st n x y =>
    obtain ⟨d, m, h1, h2⟩ := km_out h
    refine ⟨d, m, h2, fun e t m2 n2 hs hm => ?_⟩
    rw [ro_congr (x := x) fun s h => hs s (by simp [Cfg.seesI, h]), ro_congr (x := y) fun s h => hs s (by simp [Cfg.seesI, h])] at h1
    obtain ⟨m', g1, g2⟩ := stM_lk h1 hm
    exact ⟨m', g2, km_mk g1 ⟨rfl, rfl, rfl⟩⟩
  | sta n x y ps =>
    obtain ⟨d, m, h1, h2⟩ := km_out h
    refine ⟨d, m, h2, fun e t m2 n2 hs hm => ?_⟩
    rw [ro_congr (x := x) fun s h => hs s (by simp [Cfg.seesI, h]), ro_congr (x := y) fun s h => hs s (by simp [Cfg.seesI, h]), ros_congr (xs := ps) fun s h => hs s (by simp only [Cfg.seesI, List.mem_append]; exact .inr h)] at h1
    unfold staM at h1
    split at h1
    · rename_i hap
      obtain ⟨m', g1, g2⟩ := stM_lk h1 hm
      exact ⟨m', g2, km_mk (by unfold staM; rw [if_pos hap]; exact g1) ⟨rfl, rfl, rfl⟩⟩
    · simp at h1
  | app k b z x y =>
    obtain ⟨d, m, h1, h2⟩ := km_out h
    refine ⟨d, m, h2, fun e t m2 n2 hs hm => ?_⟩
    rw [ro_congr (x := x) fun s h => hs s (by simp [Cfg.seesI, h]), ro_congr (x := y) fun s h => hs s (by simp [Cfg.seesI, h])] at h1
    obtain ⟨m', g1, g2⟩ := appM_lk h1 hm
    exact ⟨m', g2, km_mk g1 ⟨rfl, rfl, rfl⟩⟩
  | mup kd x y v =>
    obtain ⟨d, m, h1, h2⟩ := km_out h
    refine ⟨d, m, h2, fun e t m2 n2 hs hm => ?_⟩
    rw [ro_congr (x := x) fun s h => hs s (by simp [Cfg.seesI, h]), ro_congr (x := y) fun s h => hs s (by simp [Cfg.seesI, h]), ro_congr (x := v) fun s h => hs s (by simp [Cfg.seesI, h])] at h1
    obtain ⟨m', g1, g2⟩ := mupM_lk h1 hm
    exact ⟨m', g2, km_mk g1 ⟨rfl, rfl, rfl⟩⟩
  | cl _ _ => simp [I.call, Cfg.callI] at hc
  | _ => simp [I.free] at hf

theorem MSim_lk (hm : Lk mem mem2) (h : MSim S φ mem nx w) : MSim S φ mem2 nx w := ⟨fun i b hi => h.mem i b (by rw [hm]; exact hi), h.inj, h.lt, h.fresh, h.sub⟩

theorem CallT_lk {P : Program} {f : FuncId} {xs : List D} {K : KD} (hm : Lk mem mem2) (h : CallT P f xs mem nx K) : CallT P f xs mem2 nx K :=
  ⟨h.1, fun S φ w ys h1 h2 => (h.2 S φ w ys (MSim_lk hm.symm h1) h2).mono fun e w' ⟨v, d, m', n', S', φ', g1, g2, g3, g4, g5, g6, g7, g8⟩ =>
    ⟨v, d, m', n', S', φ', g1, g2, g3, g4, g5, g6, ⟨g7.sub, fun b hb ho => g7.keep b hb fun ⟨i, blk, l, k1, k2⟩ => ho ⟨i, blk, l, by rw [← hm]; exact k1, k2⟩, g7.size,
      fun b hb ho => let ⟨i, blk, l, k1, k2⟩ := g7.own b hb ho; ⟨i, blk, l, by rw [← hm]; exact k1, k2⟩,
      fun b hb => (g7.news b hb).imp id fun h => h.imp id fun ⟨i, blk, l, k1, k2⟩ => ⟨i, blk, l, by rw [← hm]; exact k1, k2⟩, g7.os, g7.output, g7.tape⟩, g8⟩⟩

/-- A step hangs on what it reads and on what is looked up; what follows it likewise. -/
theorem stepI_lk {i : I} {K K2 : KD} (hs : ∀ s ∈ Cfg.seesI i, look env s = look env2 s ∧ look tl s = look tl2 s) (hm : Lk mem mem2) (hk : ∀ d m m2 n, Lk m m2 → K d m n → K2 d m2 n)
    (h : stepI C id i env tl mem nx K) : stepI C id i env2 tl2 mem2 nx K2 := by
  cases hf : i.free with
  | true =>
    obtain ⟨d, ext, h1, h2, h3⟩ := free_one hf h
    refine stepI_mono (h3 env2 tl2 mem2 nx hs fun _ _ _ _ => hm.sub.at _) ?_
    rintro d' m' n' ⟨rfl, rfl, rfl⟩
    exact hk _ _ _ _ (hm.app ext) h1
  | false =>
    cases hc : i.call with
    | false =>
      obtain ⟨d, m, h1, h2⟩ := write_one hf hc h
      obtain ⟨m2, h3, h4⟩ := h2 env2 tl2 mem2 nx hs hm
      refine stepI_mono h4 ?_
      rintro d' m' n' ⟨rfl, rfl, rfl⟩
      exact hk _ _ _ _ h3 h1
    | true =>
      cases i with
      | cl f xs =>
        obtain ⟨g, caps, ys, h1, h2, h3⟩ := clK_out h
        show clK C.P _ _ _ _ _
        rw [ro_congr (x := f) fun s h => hs s (by simp [Cfg.seesI, h])] at h1
        rw [ros_congr (xs := xs) fun s h => hs s (by simp only [Cfg.seesI, List.mem_append]; exact .inr h)] at h2
        rw [h1, h2]
        exact CallT_mono (CallT_lk hm h3) fun d m n hd => hk _ _ _ _ (Lk.refl m) hd
      | _ => simp [I.call, Cfg.callI] at hc

theorem One_lk {x : Ins} {j : Nat} {go go2 : Go4} (hs : ∀ s ∈ Cfg.sees x, look env s = look env2 s ∧ look tl s = look tl2 s) (hm : Lk mem mem2)
    (hgo : ∀ d m m2 n, Lk m m2 → go (putE x.dst d env) (putT x.dst d tl) m n → go2 (putE x.dst d env2) (putT x.dst d tl2) m2 n) (h : One C base x j env tl mem nx go) : One C base x j env2 tl2 mem2 nx go2 := by
  obtain ⟨d, g, i⟩ := x
  cases g with
  | none =>
    exact stepI_lk (fun s h => hs s (by simp [Cfg.sees, h])) hm (fun v m m2 n h1 h2 => by rw [nextK_put] at h2 ⊢; exact hgo _ _ _ _ h1 h2) h
  | some p =>
    obtain ⟨g, want⟩ := p
    have hro : ro tl env g = ro tl2 env2 g := ro_congr fun s h => hs s (by simp [Cfg.sees, h])
    simp only [One, gd] at h ⊢
    rw [← hro]
    split at h
    · rename_i b hb
      obtain ⟨s1, s2⟩ := set_same hb
      have hb2 := hb
      rw [hro] at hb2
      obtain ⟨s3, s4⟩ := set_same hb2
      refine ⟨fun e => ?_, fun e => ?_⟩
      · have h1 := h.1 e
        subst e
        rw [s1, s2] at h1; rw [s3, s4]
        exact stepI_lk (fun s h => hs s (by simp [Cfg.sees, h])) hm (fun v m m2 n h1 h2 => by rw [nextK_put] at h2 ⊢; exact hgo _ _ _ _ h1 h2) h1
      · have h1 := h.2 e
        rw [← e, s1, s2, nextK_put] at h1
        rw [← e, s3, s4, nextK_put]
        exact hgo _ _ _ _ hm h1
    · rename_i vs hb
      rw [nextK_put] at h ⊢
      exact hgo _ _ _ _ hm h
    · exact h.elim

theorem One_mono {x : Ins} {j : Nat} {go go2 : Go4} (hgo : ∀ e t m n, go e t m n → go2 e t m n) (h : One C base x j env tl mem nx go) : One C base x j env tl mem nx go2 := by
  obtain ⟨d, g, i⟩ := x
  cases g with
  | none => exact stepI_mono h fun v m n h => by rw [nextK_put] at h ⊢; exact hgo _ _ _ _ h
  | some p =>
    obtain ⟨g, want⟩ := p
    simp only [One, gd] at h ⊢
    split at h
    · exact ⟨fun e => stepI_mono (h.1 e) fun v m n h => by rw [nextK_put] at h ⊢; exact hgo _ _ _ _ h, fun e => by have := h.2 e; rw [nextK_put] at this ⊢; exact hgo _ _ _ _ this⟩
    · rw [nextK_put] at h ⊢; exact hgo _ _ _ _ h
    · exact h.elim

theorem Inv_One {x : Ins} {j : Nat} {go : Go4} (hg : Inv go) : Inv (fun e t m n => One C base x j e t m n go) := fun e t m n e2 t2 m2 he ht hm h =>
  One_lk (fun s _ => ⟨he s, ht s⟩) hm (fun d m m2 n h1 h2 => hg _ _ _ _ _ _ _ (he.putE _ _) (ht.putT _ _) h1 h2) h

theorem write_one' {x : Ins} {j : Nat} {go : Go4} (hf : x.i.free = false) (hc : x.i.call = false) (h : One C base x j env tl mem nx go) : ∃ d m, go (putE x.dst d env) (putT x.dst d tl) m nx ∧
    ∀ env2 tl2 nx2 (go2 : Go4), (∀ s ∈ Cfg.sees x, look env s = look env2 s ∧ look tl s = look tl2 s) → (∀ m2, Lk m m2 → go2 (putE x.dst d env2) (putT x.dst d tl2) m2 nx2) → One C base x j env2 tl2 mem nx2 go2 := by
  obtain ⟨d, g, i⟩ := x
  cases g with
  | none =>
    obtain ⟨v, m, h1, h2⟩ := write_one hf hc h
    rw [nextK_put] at h1
    refine ⟨v, m, h1, fun e t n go2 hs hg => ?_⟩
    obtain ⟨m2, h3, h4⟩ := h2 e t mem n (fun s h => hs s (by simp [Cfg.sees, h])) (Lk.refl _)
    refine stepI_mono h4 ?_
    rintro d' m' n' ⟨rfl, rfl, rfl⟩
    rw [nextK_put]; exact hg _ h3
  | some p =>
    obtain ⟨g, want⟩ := p
    simp only [One, gd] at h
    split at h
    · rename_i b hb
      obtain ⟨s1, s2⟩ := set_same hb
      by_cases hbw : b = want
      · have h1 := h.1 hbw
        subst hbw
        rw [s1, s2] at h1
        obtain ⟨v, m, h1, h2⟩ := write_one hf hc h1
        rw [nextK_put] at h1
        refine ⟨v, m, h1, fun e t n go2 hs hg => ?_⟩
        have hro2 : ro t e g = some (.pl (.bool b)) := by rw [← ro_congr (x := g) fun s h => hs s (by simp [Cfg.sees, h])]; exact hb
        obtain ⟨s3, s4⟩ := set_same hro2
        simp only [One, gd, hro2]
        refine ⟨fun _ => ?_, fun hn => by cases b <;> simp at hn⟩
        rw [s3, s4]
        obtain ⟨m2, h3, h4⟩ := h2 e t mem n (fun s h => hs s (by simp [Cfg.sees, h])) (Lk.refl _)
        refine stepI_mono h4 ?_
        rintro d' m' n' ⟨rfl, rfl, rfl⟩
        rw [nextK_put]; exact hg _ h3
      · have hbn : b = !want := by cases b <;> cases want <;> simp_all
        have h1 := h.2 hbn
        rw [← hbn, s1, s2, nextK_put] at h1
        refine ⟨_, _, h1, fun e t n go2 hs hg => ?_⟩
        have hro2 : ro t e g = some (.pl (.bool b)) := by rw [← ro_congr (x := g) fun s h => hs s (by simp [Cfg.sees, h])]; exact hb
        obtain ⟨s3, s4⟩ := set_same hro2
        simp only [One, gd, hro2]
        refine ⟨fun h => absurd h hbw, fun _ => ?_⟩
        rw [← hbn, s3, s4, nextK_put]; exact hg _ (Lk.refl _)
    · rename_i vs hb
      rw [nextK_put] at h
      refine ⟨_, _, h, fun e t n go2 hs hg => ?_⟩
      have hro2 : ro t e g = some (.pl (.tuple vs)) := by rw [← ro_congr (x := g) fun s h => hs s (by simp [Cfg.sees, h])]; exact hb
      simp only [One, gd, hro2]
      rw [nextK_put]; exact hg _ (Lk.refl _)
    · exact h.elim

def I.adr : I → Option Opd
  | .st _ a _ | .sta _ a _ _ => some a
  | _ => none
def I.tol : I → List Opd
  | .sta _ _ _ ps => ps
  | _ => []

/-- A store, as one outcome: what it writes, and where. -/
theorem store_one {i : I} {p : Opd} {K : KD} (hp : i.adr = some p) (h : stepI C id i env tl mem nx K) : ∃ d x k b b', ro tl env p = some x ∧ x.hd = some k ∧ look mem k = some b ∧ K d (upd mem k b') nx ∧
    (∀ q ∈ i.tol, ∃ y, ro tl env q = some y ∧ y.hd ≠ some k) ∧
    ∀ env2 tl2 mem2 nx2, (∀ s ∈ Cfg.seesI i, look env s = look env2 s ∧ look tl s = look tl2 s) → look mem2 k = some b → stepI C id i env2 tl2 mem2 nx2 (Sg d (upd mem2 k b') nx2) := by
  cases i with
  | st n a v =>
    simp only [I.adr, Option.some.injEq] at hp; subst hp
    obtain ⟨d, m, h1, h2⟩ := km_out h
    obtain ⟨x, k, b, b', g1, g2, g3, rfl, g5⟩ := stM_form h1
    refine ⟨d, x, k, b, b', g1, g2, g3, h2, by simp [I.tol], fun e t m2 n2 hs hm => ?_⟩
    rw [ro_congr (x := a) fun s h => hs s (by simp [Cfg.seesI, h]), ro_congr (x := v) fun s h => hs s (by simp [Cfg.seesI, h])] at g5
    exact km_mk (g5 m2 hm) ⟨rfl, rfl, rfl⟩
  | sta n a v ps =>
    simp only [I.adr, Option.some.injEq] at hp; subst hp
    obtain ⟨d, m, h1, h2⟩ := km_out h
    unfold staM at h1
    split at h1
    · rename_i hap
      obtain ⟨x, k, b, b', g1, g2, g3, rfl, g5⟩ := stM_form h1
      refine ⟨d, x, k, b, b', g1, g2, g3, h2, fun q hq => ?_, fun e t m2 n2 hs hm => ?_⟩
      · rw [g1] at hap
        simp only [I.tol] at hq
        unfold apartD at hap
        split at hap
        · rename_i a0 ps0 e1 e2
          simp only [Option.some.injEq] at e1; subst e1
          clear h1 h h2
          induction ps generalizing ps0 with
          | nil => simp at hq
          | cons r ps ih =>
            simp only [ros] at e2
            split at e2
            · rename_i dr dps hr hps
              simp only [Option.some.injEq] at e2; subst e2
              simp only [List.all_cons, Bool.and_eq_true] at hap
              rcases List.mem_cons.1 hq with rfl | hq
              · refine ⟨dr, hr, fun e => ?_⟩
                have := hap.1
                rw [e, g2] at this; simp at this
              · exact ih hq _ hps hap.2
            · simp at e2
        · simp at hap
      · rw [ro_congr (x := a) fun s h => hs s (by simp [Cfg.seesI, h]), ro_congr (x := v) fun s h => hs s (by simp [Cfg.seesI, h])] at g5
        rw [ro_congr (x := a) fun s h => hs s (by simp [Cfg.seesI, h]), ros_congr (xs := ps) fun s h => hs s (by simp only [Cfg.seesI, List.mem_append]; exact .inr h)] at hap
        exact km_mk (by unfold staM; rw [if_pos hap]; exact g5 m2 hm) ⟨rfl, rfl, rfl⟩
    · simp at h1
  | _ => simp [I.adr] at hp

theorem store_One {x : Ins} {p : Opd} {j : Nat} {go : Go4} (hp : x.i.adr = some p) (h : One C base x j env tl mem nx go) : ∃ d,
    (go (putE x.dst d env) (putT x.dst d tl) mem nx ∧ ∀ env2 tl2 mem2 nx2 (go2 : Go4), (∀ s ∈ Cfg.sees x, look env s = look env2 s ∧ look tl s = look tl2 s) → go2 (putE x.dst d env2) (putT x.dst d tl2) mem2 nx2 → One C base x j env2 tl2 mem2 nx2 go2) ∨
    ∃ a k b b', go (putE x.dst d env) (putT x.dst d tl) (upd mem k b') nx ∧ ro tl env p = some a ∧ a.hd = some k ∧ look mem k = some b ∧ (∀ q ∈ x.i.tol, ∃ y, ro tl env q = some y ∧ y.hd ≠ some k) ∧
      ∀ env2 tl2 mem2 nx2 (go2 : Go4), (∀ s ∈ Cfg.sees x, look env s = look env2 s ∧ look tl s = look tl2 s) → look mem2 k = some b → go2 (putE x.dst d env2) (putT x.dst d tl2) (upd mem2 k b') nx2 → One C base x j env2 tl2 mem2 nx2 go2 := by
  obtain ⟨d, g, i⟩ := x
  cases g with
  | none =>
    obtain ⟨v, a, k, b, b', h1, h2, h3, h4, h5, h6⟩ := store_one hp h
    rw [nextK_put] at h4
    refine ⟨v, .inr ⟨a, k, b, b', h4, h1, h2, h3, h5, fun e t m n go2 hs hm hg => ?_⟩⟩
    refine stepI_mono (h6 e t m n (fun s h => hs s (by simp [Cfg.sees, h])) hm) ?_
    rintro d' m' n' ⟨rfl, rfl, rfl⟩
    rw [nextK_put]; exact hg
  | some q =>
    obtain ⟨g, want⟩ := q
    simp only [One, gd] at h
    split at h
    · rename_i b0 hb
      obtain ⟨s1, s2⟩ := set_same hb
      by_cases hbw : b0 = want
      · have h1 := h.1 hbw
        subst hbw
        rw [s1, s2] at h1
        obtain ⟨v, a, k, b, b', g1, g2, g3, g4, g5, g6⟩ := store_one hp h1
        rw [nextK_put] at g4
        refine ⟨v, .inr ⟨a, k, b, b', g4, g1, g2, g3, g5, fun e t m n go2 hs hm hg => ?_⟩⟩
        have hro2 : ro t e g = some (.pl (.bool b0)) := by rw [← ro_congr (x := g) fun s h => hs s (by simp [Cfg.sees, h])]; exact hb
        obtain ⟨s3, s4⟩ := set_same hro2
        simp only [One, gd, hro2]
        refine ⟨fun _ => ?_, fun hn => by cases b0 <;> simp at hn⟩
        rw [s3, s4]
        refine stepI_mono (g6 e t m n (fun s h => hs s (by simp [Cfg.sees, h])) hm) ?_
        rintro d' m' n' ⟨rfl, rfl, rfl⟩
        rw [nextK_put]; exact hg
      · have hbn : b0 = !want := by cases b0 <;> cases want <;> simp_all
        have h1 := h.2 hbn
        rw [← hbn, s1, s2, nextK_put] at h1
        refine ⟨_, .inl ⟨h1, fun e t m n go2 hs hg => ?_⟩⟩
        have hro2 : ro t e g = some (.pl (.bool b0)) := by rw [← ro_congr (x := g) fun s h => hs s (by simp [Cfg.sees, h])]; exact hb
        obtain ⟨s3, s4⟩ := set_same hro2
        simp only [One, gd, hro2]
        refine ⟨fun h => absurd h hbw, fun _ => ?_⟩
        rw [← hbn, s3, s4, nextK_put]; exact hg
    · rename_i vs hb
      rw [nextK_put] at h
      refine ⟨_, .inl ⟨h, fun e t m n go2 hs hg => ?_⟩⟩
      have hro2 : ro t e g = some (.pl (.tuple vs)) := by rw [← ro_congr (x := g) fun s h => hs s (by simp [Cfg.sees, h])]; exact hb
      simp only [One, gd, hro2]
      rw [nextK_put]; exact hg
    · exact h.elim

theorem sameO_eq {p q : Opd} (h : Cfg.sameO p q = true) : p = q := by
  cases p <;> cases q <;> simp_all [Cfg.sameO]

theorem ro_put {x y : Ins} {d : D} {p : Opd} (h : ∀ t ∈ Cfg.dstO x.dst, t ∉ Cfg.sees y) (hp : ∀ s ∈ Cfg.seesO p, s ∈ Cfg.sees y) : ro (putT x.dst d tl) (putE x.dst d env) p = ro tl env p :=
  ro_congr fun s hs => ⟨putE_other fun e => h s (by simp [e, Cfg.dstO]) (hp s hs), putT_other fun e => h s (by simp [e, Cfg.dstO]) (hp s hs)⟩

theorem lookO_sees {i : I} {p : Opd} (h : p ∈ Cfg.lookO i) : ∀ s ∈ Cfg.seesO p, s ∈ Cfg.seesI i := by
  intro s hs
  cases i <;> simp_all [Cfg.lookO, Cfg.seesI]
theorem tol_sees {i : I} {p : Opd} (h : p ∈ i.tol) : ∀ s ∈ Cfg.seesO p, s ∈ Cfg.seesI i := by
  intro s hs
  cases i <;> simp only [I.tol] at h <;> try simp at h
  simp only [Cfg.seesI, List.mem_append, List.mem_flatMap]
  exact .inr ⟨p, h, hs⟩
theorem adr_sees {i : I} {p : Opd} (h : i.adr = some p) : ∀ s ∈ Cfg.seesO p, s ∈ Cfg.seesI i := by
  intro s hs
  cases i <;> simp only [I.adr, Option.some.injEq] at h <;> try simp at h
  all_goals subst h; simp [Cfg.seesI, hs]

theorem sta_out {rm : List (Nat × Opd)} {x y : I} (h : Cfg.staI rm x y = true) : (∃ q, y.adr = some q) ∧ ((x.free = true ∧ Cfg.makesI x = false ∧ ∀ p ∈ Cfg.lookO x, Cfg.rootOf rm p ∈ y.tol) ∨ ∃ p, x.adr = some p ∧ Cfg.rootOf rm p ∈ y.tol) := by
  have key : ∀ {p : Opd} {ps : List Opd}, ps.any (Cfg.sameO p) = true → p ∈ ps := fun h => by
    obtain ⟨q, h1, h2⟩ := List.any_eq_true.1 h
    rw [sameO_eq h2]; exact h1
  cases y with
  | sta n a v ps =>
    refine ⟨⟨a, rfl⟩, ?_⟩
    cases x with
    | st _ b _ => exact .inr ⟨b, rfl, key h⟩
    | sta _ b _ _ => exact .inr ⟨b, rfl, key h⟩
    | _ =>
      left
      simp only [Cfg.staI, Bool.and_eq_true, Bool.not_eq_true', List.all_eq_true] at h
      exact ⟨h.1, h.2.1, fun p hp => key (h.2.2 p hp)⟩
  | _ => cases x <;> simp [Cfg.staI] at h

/-- A part of a block leads where its root leads. -/
def Rooted (rm : List (Nat × Opd)) (env tl : Env) : Prop := ∀ e ∈ rm, ∀ d, look tl e.1 = some d → d.hd = none ∨ ∃ dr, ro tl env e.2 = some dr ∧ d.hd = dr.hd

theorem Rooted_nil {rm : List (Nat × Opd)} : Rooted rm env [] := fun e _ d h => by simp [look] at h

theorem rooted_at {rm : List (Nat × Opd)} (h : Rooted rm env tl) {p : Opd} {d : D} (hd : ro tl env p = some d) : d.hd = none ∨ ∃ dr, ro tl env (Cfg.rootOf rm p) = some dr ∧ d.hd = dr.hd := by
  cases p with
  | t k =>
    simp only [Cfg.rootOf]
    split
    · rename_i e he
      have h1 := List.mem_of_find?_eq_some he
      have h2 := List.find?_some he
      simp only [beq_iff_eq] at h2
      exact h e h1 d (by rw [h2]; exact hd)
    · exact .inr ⟨d, hd, rfl⟩
  | _ => exact .inr ⟨d, hd, rfl⟩

theorem part_hd {i : I} {p : Opd} {K : KD} (hp : Cfg.partO i = some p) (h : stepI C id i env tl mem nx K) {K2 : KD} (hk : ∀ d m n, (∃ dp, ro tl env p = some dp ∧ d.hd = dp.hd) → K d m n → K2 d m n) : stepI C id i env tl mem nx K2 := by
  cases i <;> simp only [Cfg.partO, Option.some.injEq] at hp <;> try simp at hp
  case mv x =>
    subst hp
    obtain ⟨d, h1, h2⟩ := k0_out h
    exact k0_mk h1 (hk _ _ _ ⟨d, h1, rfl⟩ h2)
  case chk x =>
    subst hp
    obtain ⟨d, r, h1, h2, h3⟩ := k1_out h
    refine k1_mk h1 h2 (hk _ _ _ ⟨d, h1, ?_⟩ h3)
    cases d <;> simp only [chkD, Option.some.injEq] at h2 <;> try simp at h2
    all_goals subst h2; rfl
  case fa off x =>
    subst hp
    obtain ⟨d, r, h1, h2, h3⟩ := k1_out h
    refine k1_mk h1 h2 (hk _ _ _ ⟨d, h1, ?_⟩ h3)
    cases d <;> simp only [faD, Option.some.injEq, Option.ite_none_right_eq_some] at h2 <;> try simp at h2
    · obtain ⟨_, rfl⟩ := h2; rfl
    · subst h2; rfl
    · obtain ⟨_, rfl⟩ := h2; rfl
  case ia k x y =>
    subst hp
    obtain ⟨d, d2, r, h1, h2, h3, h4⟩ := k2_out h
    refine k2_mk h1 h2 h3 (hk _ _ _ ⟨d, h1, ?_⟩ h4)
    unfold iaD at h3
    split at h3
    · split at h3
      · split at h3
        · split at h3
          · simp only [Option.some.injEq] at h3; subst h3; rfl
          · simp at h3
        · simp at h3
      · simp at h3
    · split at h3
      · split at h3
        · simp only [Option.some.injEq] at h3; subst h3; rfl
        · simp at h3
      · simp at h3
    · simp at h3
  case iaa len k x y =>
    subst hp
    obtain ⟨d, d2, r, h1, h2, h3, h4⟩ := k2_out h
    refine k2_mk h1 h2 h3 (hk _ _ _ ⟨d, h1, ?_⟩ h4)
    unfold iaaD at h3
    split at h3
    · simp only [Option.ite_none_right_eq_some] at h3
      obtain ⟨_, h3⟩ := h3
      cases d <;> simp only [faD, Option.some.injEq, Option.ite_none_right_eq_some] at h3 <;> try simp at h3
      · obtain ⟨_, rfl⟩ := h3; rfl
      · subst h3; rfl
      · obtain ⟨_, rfl⟩ := h3; rfl
    · simp at h3

theorem ro_same {x : Ins} {d : D} {r : Opd} (h : Cfg.writes x.dst r = false) : ro (putT x.dst d tl) (putE x.dst d env) r = ro tl env r := by
  obtain ⟨dst, g, i⟩ := x
  cases r with
  | t j => exact putT_other fun e => by simp only at e h; rw [e] at h; simp [Cfg.writes] at h
  | g j => exact putE_other fun e => by simp only at e h; rw [e] at h; simp [Cfg.writes] at h
  | _ => rfl

theorem Rooted_put {rm : List (Nat × Opd)} {x : Ins} {d : D} (hf : Cfg.rootFits rm x = true) (hr : Rooted rm env tl) (hd : d.hd = none ∨ Cfg.partO x.i = none ∨ ∃ p dp, Cfg.partO x.i = some p ∧ ro tl env p = some dp ∧ d.hd = dp.hd) :
    Rooted rm (putE x.dst d env) (putT x.dst d tl) := by
  simp only [Cfg.rootFits, Bool.and_eq_true, List.all_eq_true, Bool.not_eq_true'] at hf
  obtain ⟨hf1, hf2⟩ := hf
  intro e he d' hl
  have hw := hf1 e he
  rw [ro_same hw]
  by_cases hx : x.dst = .t e.1
  · rw [hx] at hf2 hl
    simp only [putT, look, if_true, Option.some.injEq] at hl
    subst hl
    simp only [List.all_eq_true, Bool.or_eq_true, bne_iff_ne] at hf2
    have h2 := (hf2 e he).resolve_left (by simp)
    rcases hd with hd | hd | ⟨p, dp, h3, h4, h5⟩
    · exact .inl hd
    · rw [hd] at h2; simp at h2
    · rw [h3] at h2
      simp only at h2
      have h6 := sameO_eq h2
      rcases rooted_at hr h4 with h7 | ⟨dr, h7, h8⟩
      · exact .inl (by rw [h5, h7])
      · exact .inr ⟨dr, by rw [← h6]; exact h7, by rw [h5, h8]⟩
  · rw [putT_other hx] at hl
    exact hr e he d' hl

theorem One_rooted {rm : List (Nat × Opd)} {x : Ins} {j : Nat} {go : Go4} (hf : Cfg.rootFits rm x = true) (hr : Rooted rm env tl) (h : One C base x j env tl mem nx go) :
    One C base x j env tl mem nx (fun e t m n => Rooted rm e t ∧ go e t m n) := by
  cases hp : Cfg.partO x.i with
  | none =>
    obtain ⟨d, g, i⟩ := x
    cases g with
    | none => exact stepI_mono h fun v m n h => by rw [nextK_put] at h ⊢; exact ⟨Rooted_put hf hr (.inr (.inl hp)), h⟩
    | some q =>
      obtain ⟨g, want⟩ := q
      simp only [One, gd] at h ⊢
      split at h
      · rename_i b hb
        obtain ⟨s1, s2⟩ := set_same hb
        refine ⟨fun e => ?_, fun e => ?_⟩
        · have := h.1 e
          subst e
          rw [s1, s2] at this ⊢
          exact stepI_mono this fun v m n (h : nextK _ _ _ _ v m n) => by rw [nextK_put] at h ⊢; exact ⟨Rooted_put hf hr (.inr (.inl hp)), h⟩
        · have := h.2 e
          rw [← e, s1, s2, nextK_put] at this
          rw [← e, s1, s2, nextK_put]
          exact ⟨Rooted_put hf hr (.inl rfl), this⟩
      · rw [nextK_put] at h ⊢; exact ⟨Rooted_put hf hr (.inl rfl), h⟩
      · exact h.elim
  | some p =>
    obtain ⟨d, g, i⟩ := x
    cases g with
    | none => exact part_hd hp h fun v m n ⟨dp, h1, h2⟩ (h : nextK _ _ _ _ v m n) => by rw [nextK_put] at h ⊢; exact ⟨Rooted_put hf hr (.inr (.inr ⟨p, dp, hp, h1, h2⟩)), h⟩
    | some q =>
      obtain ⟨g, want⟩ := q
      simp only [One, gd] at h ⊢
      split at h
      · rename_i b hb
        obtain ⟨s1, s2⟩ := set_same hb
        refine ⟨fun e => ?_, fun e => ?_⟩
        · have := h.1 e
          subst e
          rw [s1, s2] at this ⊢
          exact part_hd hp this fun v m n ⟨dp, h1, h2⟩ (h : nextK _ _ _ _ v m n) => by rw [nextK_put] at h ⊢; exact ⟨Rooted_put hf hr (.inr (.inr ⟨p, dp, hp, h1, h2⟩)), h⟩
        · have := h.2 e
          rw [← e, s1, s2, nextK_put] at this
          rw [← e, s1, s2, nextK_put]
          exact ⟨Rooted_put hf hr (.inl rfl), this⟩
      · rw [nextK_put] at h ⊢; exact ⟨Rooted_put hf hr (.inl rfl), h⟩
      · exact h.elim
end
end Go.Fx

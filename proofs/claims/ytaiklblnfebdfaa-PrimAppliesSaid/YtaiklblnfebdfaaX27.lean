/-
  Owned blocks are only read from some point on: ahead of a loop, or behind it.
-/
import Derived.Test.YtaiklblnfebdfaaX22
import Derived.Test.YtaiklblnfebdfaaX25
set_option linter.all false
namespace Go.Fx
open Go
section
variable {C : Cfg} {Q : Exit → St → Prop} {env env' tl : Env} {mem mf mk : Mem} {nx : Nat}
/-- Slots that are told as they were, or read from the blocks mf. -/
def frzEnv (mf : Mem) (env env' : Env) : Prop := ∀ j d', look env' j = some d' → ∃ d, look env j = some d ∧ (d' = d ∨ frz mf 100 d = some d')
theorem frzEnv_nil : frzEnv mf [] [] := fun j d' h => by simp [look] at h
theorem frzEnv_cons {k : Nat} {d d' : D} {e e' : Env} (h : d' = d ∨ frz mf 100 d = some d') (t : frzEnv mf e e') : frzEnv mf ((k, d) :: e) ((k, d') :: e') := fun j x hx => by
  by_cases hj : k = j
  · subst hj
    simp only [look, if_pos] at hx ⊢
    simp only [Option.some.injEq] at hx
    subst hx
    exact ⟨d, rfl, h⟩
  · simp only [look, if_neg hj] at hx ⊢
    exact t j x hx
theorem Wk_frz (h1 : memSub mem mf) (h2 : memSub mem mk) (hd : ∀ i, look mf i = none ∨ look mk i = none) (he : frzEnv mf env env') : Wk C ⟨env, tl, mem, nx⟩ ⟨env', [], mk, nx⟩ := by
  intro N S φ a w hn hs
  have hm := hs.m
  have hmf : MSim S φ mf nx w := MSim_le hm (memSub_le h1) (Nat.le_refl _)
  have hmk0 : MSim S φ mk nx w := MSim_le hm (memSub_le h2) (Nat.le_refl _)
  have hS2 : ∀ b, SF S φ mf b → b < w.heap.size := by
    rintro b (h | ⟨i, blk, l, _, g2, g3, rfl⟩)
    · exact hm.sub b h
    · exact hm.lt i l g2 g3
  have hmk : MSim (SF S φ mf) φ mk nx w := ⟨fun i blk hi => by
      obtain ⟨l, g1, g2, g3⟩ := hmk0.mem i blk hi
      refine ⟨l, g1, fun hr hs => ?_, BRep.mono stays_SF (fun _ => rfl) blk g3⟩
      rcases hs with hs | ⟨j, blk', l', k1, k2, k3, k4⟩
      · exact g2 hr hs
      · have := hm.inj j i l' l k2 g1 k3 hr k4
        subst this
        rcases hd j with e | e
        · rw [e] at k1; simp at k1
        · rw [e] at hi; simp at hi, hm.inj, hm.lt, hm.fresh, hS2⟩
  refine ⟨SF S φ mf, φ, ⟨hs.size, hs.defers, fun j d' hj hl => ?_, fun j d _ hl => by simp [look] at hl, hmk⟩,
    ⟨fun b hb => .inl hb, fun _ _ _ => rfl, Nat.le_refl _, fun b _ ⟨i, blk, l, g1, g2, g3, g4⟩ => ⟨i, blk, l, h2 i blk g1, g2, g3, g4⟩, fun b hb => ?_, rfl, rfl, rfl⟩, Grow.refl hn⟩
  · obtain ⟨d, h3, h4⟩ := he j d' hl
    have hr := hs.env j d hj h3
    rcases h4 with rfl | h4
    · exact Rep.mono stays_SF _ _ hr
    · exact Rep.mono (φ' := φ) ⟨fun _ h => h, fun _ _ _ => rfl, fun _ _ h => by simp [noLocs] at h⟩ _ _ (frz_sound hmf 100 d d' _ h4 hr)
  · rcases hb with h | ⟨i, blk, l, g1, g2, g3, g4⟩
    · exact .inl h
    · exact .inr (.inr ⟨i, blk, l, h1 i blk g1, g2, g3, g4⟩)
theorem T_postW {c : Code} {s : St} (h : T C c (fun e s => ∃ s', Wk C s s' ∧ Q e s') s) : T C c Q s := by
  intro N S φ a w hn hs
  refine wp_mono (h N S φ a w hn hs) ?_
  rintro e a' w' ⟨s', S', φ', ⟨s2, hw, hq⟩, hs', hx, hg⟩
  obtain ⟨S2, φ2, k1, k2, k3⟩ := hw N S' φ' a' w' hg.le hs'
  exact ⟨s2, S2, φ2, hq, k1, hx.trans k2, hg.trans k3⟩
/-- Some state that this one may be seen as. -/
def PostW (C : Cfg) (Q : Exit → St → Prop) (e : Exit) (s : St) : Prop := ∃ s', Wk C s s' ∧ Q e s'
/-- Behind a loop the state may be seen as a weaker one. -/
theorem A_loop_post {x : AC} (h : A C (.loop x) (PostW C Q) env mem nx) : A C (.loop x) Q env mem nx := by
  rw [A_loop] at h ⊢
  exact fun c hc => T_postW (h c hc)
theorem PostW_same {e : Exit} (h : Q e ⟨env, [], mem, nx⟩) : PostW C Q e ⟨env, [], mem, nx⟩ := ⟨_, Wk.refl, h⟩
theorem frzEnv_upd {j : Nat} {d d' : D} (h : look env j = some d) (hf : frz mf 100 d = some d') : frzEnv mf env (upd env j d') := fun i x hx => by
  rcases look_upd j d' env i x hx with ⟨rfl, rfl⟩ | ⟨_, hx⟩
  · exact ⟨d, h, .inr hf⟩
  · exact ⟨x, hx, .inl rfl⟩
/-- A slot's block is only read from now on: all blocks are, and the others are let go. -/
theorem PostW_frz {e : Exit} {j : Nat} {d d' : D} (hl : look env j = some d) (hf : frz mem 100 d = some d') (hq : Q e ⟨upd env j d', [], [], nx⟩) : PostW C Q e ⟨env, tl, mem, nx⟩ :=
  ⟨_, Wk_frz (memSub_refl mem) (memSub_nil mem) (fun i => .inr rfl) (frzEnv_upd hl hf), hq⟩
theorem PostW_frz2 {e : Exit} {j : Nat} {d d' : D} (mf mk : Mem) (hl : look env j = some d) (hf : frz mf 100 d = some d') (h1 : memSub mem mf) (h2 : memSub mem mk) (hd : ∀ i, look mf i = none ∨ look mk i = none) (hq : Q e ⟨upd env j d', [], mk, nx⟩) : PostW C Q e ⟨env, tl, mem, nx⟩ :=
  ⟨_, Wk_frz h1 h2 hd (frzEnv_upd hl hf), hq⟩
/-- The same ahead of a loop. -/
theorem A_loop_frz {x : AC} {j : Nat} {d d' : D} (mf mk : Mem) (hl : look env j = some d) (hf : frz mf 100 d = some d') (h1 : memSub mem mf) (h2 : memSub mem mk) (hd : ∀ i, look mf i = none ∨ look mk i = none) (h : A C (.loop x) Q (upd env j d') mk nx) : A C (.loop x) Q env mem nx := by
  rw [A_loop] at h ⊢
  exact TA_weaken (Wk_frz h1 h2 hd (frzEnv_upd hl hf)) h
end
end Go.Fx

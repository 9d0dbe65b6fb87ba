/-
  A range over a function: the rounds, each in a frame of its own; the contract of the function that is ranged over.
-/
import Derived.Test.YtjfiklflmnhbdaaXK
set_option linter.all false
set_option maxRecDepth 100000
namespace Go.Fx
open Go
section
variable {C : Cfg} {w w' W W' : World} {S S' : Nat → Prop} {φ φ' : Locs} {a : Act} {env tl : Env} {mem mem' : Mem} {nx nx' : Nat} {x : Rx} {s : St}
/-- Blocks that are read or owned lie as they lay. -/
theorem msim_same (hb : ∀ b, S b ∨ Own φ mem b → w'.heap[b]? = w.heap[b]?) (hn : w.heap.size ≤ w'.heap.size) (hm : MSim S φ mem nx w) : MSim S φ mem nx w' ∧ Stays w S φ w' S φ := by
  have hst : Stays w S φ w' S φ := Stays.of_heap (fun _ h => h) (fun b h => hb b (.inl h)) (fun _ _ h => h)
  refine ⟨⟨fun i blk hi => ?_, hm.inj, fun i l h1 h2 => Nat.lt_of_lt_of_le (hm.lt i l h1 h2) hn, hm.fresh, fun b h => Nat.lt_of_lt_of_le (hm.sub b h) hn⟩, hst⟩
  obtain ⟨l, g1, g2, g3⟩ := hm.mem i blk hi
  exact ⟨l, g1, g2, g3.mono hst fun hr => hb _ (.inr ⟨i, blk, l, hi, g1, hr, rfl⟩)⟩
theorem own_notS (hm : MSim S φ mem nx w) {b : Nat} (hs : S b) : ¬ Own φ mem b := by
  rintro ⟨i, blk, l, h1, h2, h3, rfl⟩
  obtain ⟨l', g1, g2, _⟩ := hm.mem i blk h1
  rw [h2] at g1; simp only [Option.some.injEq] at g1; subst g1
  exact g2 h3 hs
theorem stays_ext {N : Nat} (hm : MSim S φ mem nx w) (hx : Ext S φ mem w S' φ' mem' w') (hg : Grow N φ φ' nx') : Stays w S φ w' S' φ' :=
  ⟨hx.sub, fun b hb o => cell_of_heap (hx.keep b (hm.sub b hb) (own_notS hm hb)) o, hg.loc⟩
/-- New blocks, and nothing else. -/
structure Grown (w w' : World) : Prop where
  size : w.heap.size ≤ w'.heap.size
  same : ∀ b, b < w.heap.size → w'.heap[b]? = w.heap[b]?
  os : w'.os = w.os
  output : w'.output = w.output
  tape : w'.tape = w.tape
theorem own_lt (hm : MSim S φ mem nx w) {b : Nat} (h : S b ∨ Own φ mem b) : b < w.heap.size := by
  rcases h with h | ⟨i, blk, l, _, h2, h3, rfl⟩
  · exact hm.sub b h
  · exact hm.lt i l h2 h3
theorem Grown.ext (h : Grown w w') : Ext S φ mem w S φ mem w' := ⟨fun _ h => h, fun b hb _ => h.same b hb, h.size, fun _ _ h => h, fun _ h => .inl h, h.os, h.output, h.tape⟩
theorem sim_grown (h : Grown w w') (hs : Sim C x S φ s a w) : Sim C x S φ s a w' := by
  obtain ⟨h1, h2⟩ := msim_same (fun b hb => h.same b (own_lt hs.m hb)) h.size hs.m
  exact ⟨hs.size, hs.defers.ext hs.m h.ext, fun j d hj hl => Rep.mono h2 _ _ (hs.env j d hj hl), fun j d hj hl => Rep.mono h2 _ _ (hs.tl j d hj hl), h1⟩
theorem put_same {l : Nat} {o : Obj} {b : Nat} (h : b ≠ l) : (w.putObj l o).heap[b]? = w.heap[b]? := World.putObj_heap_other h
/-- A loop's record is written. -/
theorem msim_put {l : Nat} {r : Loop} {o : Obj} (hm : MSim S φ mem nx w) (hl : w.heap[l]? = some (.loop r)) (hS : ¬ S l) : MSim S φ mem nx (w.putObj l o) ∧ Stays w S φ (w.putObj l o) S φ :=
  msim_same (fun b hb => put_same (by
    rintro rfl
    rcases hb with h | h
    · exact hS h
    · exact not_own_loop hm hl h)) (by simp) hm
theorem dfr_put {l : Nat} {r r' : Loop} {ds : List Deferred} (h : Dfr x S w ds) (hl : w.heap[l]? = some (.loop r)) : Dfr x S (w.putObj l (.loop r')) ds :=
  ⟨h.nd, fun d hd => by
    obtain ⟨D, h1, h2, h3, h4⟩ := h.marks d hd
    exact ⟨D, h1, h2, (put_same (by rintro rfl; rw [hl] at h3; simp at h3)).trans h3, h4⟩, fun j hj => by
    obtain ⟨q, hq⟩ := h.rd j hj
    by_cases e : j = l
    · subst e; exact ⟨r', World.putObj_heap_same (Array.getElem?_eq_some_iff.1 hl).1⟩
    · exact ⟨q, (put_same e).trans hq⟩⟩
theorem ext_put {l : Nat} {o : Obj} (hx : Ext S φ mem w S' φ' mem' w') (hl : w.heap.size ≤ l) : Ext S φ mem w S' φ' mem' (w'.putObj l o) :=
  ⟨hx.sub, fun b hb ho => (put_same (by omega)).trans (hx.keep b hb ho), by simpa using hx.size, hx.own, hx.news, hx.os, hx.output, hx.tape⟩
theorem alloc_low (w : World) (o : Obj) {k : Nat} (h : k < w.heap.size) : (w.alloc o).heap[k]? = w.heap[k]? := by
  show (w.heap.push o)[k]? = w.heap[k]?
  rw [Array.getElem?_push, if_neg (by omega)]
theorem Grow.weaken {N M : Nat} (h : Grow M φ φ' nx') (hn : N ≤ M) : Grow N φ φ' nx' := ⟨Nat.le_trans hn h.le, fun i hi => h.low i (Nat.lt_of_lt_of_le hi hn), h.loc⟩
theorem ext_le {mem2 : Mem} (hm : memLe mem' mem2) (hx : Ext S φ mem w S' φ' mem' w') : Ext S φ mem w S' φ' mem2 w' :=
  ⟨hx.sub, hx.keep, hx.size, fun b hb ⟨i, blk, l, h1, h2⟩ => by
    obtain ⟨b1, g1, _⟩ := hm i blk h1
    exact hx.own b hb ⟨i, b1, l, g1, h2⟩, hx.news, hx.os, hx.output, hx.tape⟩
end
/-- A function that hands xs over, one by one, to the function that it is handed; it makes new blocks at most. J i Z: i elements were handed over; Z: the blocks that the rounds may write. -/
def Iter (P : Program) (f : FuncId) (caps : List D) (xs : List (List D)) : Prop :=
  Enter P f ∧ ∀ (w : World) (S : Nat → Prop) (φ : Locs) (vs : List Value), RepVs w S φ caps vs → (∀ b, S b → b < w.heap.size) →
    ∃ vals : List (List Value), vals.length = xs.length ∧ (∀ (i : Nat) (y : List D) (v : List Value), xs[i]? = some y → vals[i]? = some v → RepVs w S φ y v) ∧
    ∀ (l : Nat) (J : Nat → (Nat → Prop) → World → Prop) (Jx : World → Prop),
      (∀ i Z W W', J i Z W → Grown W W' → J i Z W') → (∀ W W', Jx W → Grown W W' → Jx W') →
      (∀ i Z W, J i Z W → ∀ b, Z b → b < W.heap.size ∧ ¬ S b) →
      (∀ (i : Nat) (v : List Value) (Z : Nat → Prop) (W : World), vals[i]? = some v → J i Z W → YieldAt Fence.wide 0 P l v.toArray W (fun e W' =>
        (e = .returned (.bool true) ∧ W.heap.size ≤ W'.heap.size ∧ (∀ b, b < W.heap.size → ¬ Z b → W'.heap[b]? = W.heap[b]?) ∧ ∃ Z', J (i + 1) Z' W' ∧ ∀ b, Z' b → Z b ∨ W.heap.size ≤ b) ∨ (e = .returned (.bool false) ∧ Jx W'))) →
      ∀ Z W, J 0 Z W → w.heap.size ≤ W.heap.size → (∀ b, S b → W.heap[b]? = w.heap[b]?) → CallsIn Fence.wide 0 P f (#[.func (.yield l) #[] #[]] ++ vs.toArray) W fun e W' => (∃ v, e = .returned v) ∧ ((∃ Z', J xs.length Z' W') ∨ Jx W')
/-- What is asked behind the assignments to a range's left sides. -/
def asgQ (next : Env → Mem → Nat → Prop) : Exit → St → Prop := fun e s => e = .normal ∧ next s.env s.mem s.nx
/-- What is asked behind a round. -/
def rndQ (next : Mem → Nat → Prop) (Q : Exit → St → Prop) (env : Env) : Exit → St → Prop
  | .normal, s => next s.mem s.nx
  | .exit id, s => Q (.exit id) ⟨env, [], s.mem, s.nx⟩
  | .goto l, s => Q (.goto l) ⟨env, [], s.mem, s.nx⟩
  | .ret, s => Q .ret ⟨env, [], s.mem, s.nx⟩
  | _, _ => False
def putEs : Env → List Nat → List D → Env
  | e, p :: ps, d :: ds => putEs (upd e p d) ps ds
  | e, _, _ => e
theorem putEs_sim {C : Cfg} {w : World} {S : Nat → Prop} {φ : Locs} : ∀ (ps : List Nat) (ds : List D) (vs : List Value) (env : Env) (tm : Array Value), tm.size = C.n → (∀ p ∈ ps, p ∈ C.gs ∧ p < C.n) → RepVs w S φ ds vs → ds.length = ps.length → (∀ j d, j ∈ C.gs → look env j = some d → Rep w S φ d (tm.getD j undef)) →
    ((ps.zip vs).foldl (fun t (p, v) => t.setIfInBounds p v) tm).size = C.n ∧ ∀ j d, j ∈ C.gs → look (putEs env ps ds) j = some d → Rep w S φ d (((ps.zip vs).foldl (fun t (p, v) => t.setIfInBounds p v) tm).getD j undef)
  | [], ds, vs, env, tm, hs, hp, hr, hl, he => by
    have : ds = [] := List.eq_nil_of_length_eq_zero (by simpa using hl)
    subst this
    exact ⟨hs, he⟩
  | p :: ps, ds, vs, env, tm, hs, hp, hr, hl, he => by
    cases ds with
    | nil => simp at hl
    | cons d ds =>
      simp only [RepVs] at hr
      obtain ⟨v, vs', rfl, h1, h2⟩ := hr
      simp only [List.length_cons, Nat.add_right_cancel_iff] at hl
      obtain ⟨hp1, hp2⟩ := hp p (by simp)
      simp only [List.zip_cons_cons, List.foldl_cons, putEs]
      refine putEs_sim ps ds vs' (upd env p d) _ (by simpa using hs) (fun q hq => hp q (by simp [hq])) h2 hl (fun j e hj hl2 => ?_)
      rcases look_upd p d env j e hl2 with ⟨rfl, rfl⟩ | ⟨hne, hl3⟩
      · rw [getD_set_eq (a := ⟨tm, []⟩) v (by simp only; omega)]; exact h1
      · rw [getD_set_ne (a := ⟨tm, []⟩) v hne]; exact he j e hj hl3
theorem foldl_arr (ps : Array Nat) (vs : List Value) (tm : Array Value) : (ps.zip vs.toArray).foldl (fun t (p, v) => t.setIfInBounds p v) tm = (ps.toList.zip vs).foldl (fun t (p, v) => t.setIfInBounds p v) tm := by
  rw [← Array.foldl_toList, Array.toList_zip]
section
variable {C : Cfg} {Q : Exit → St → Prop} {env : Env} {mem : Mem} {nx : Nat}
/-- Behind a jump out of a round. -/
def contQ (Q : Exit → St → Prop) : Code → St → Prop
  | .ret, s => Q .ret s
  | .exit id, s => Q (.exit id) s
  | .goto l, s => Q (.goto l) s
  | _, _ => False
theorem T_rfn {g : Operand} {gs : Opd} {ps : Array Nat} {asg body : Code} {ca cb : AC} {f : FuncId} {caps : List D} {xs : List (List D)} (inv : Nat → Mem → Nat → Prop) (hgo : C.opd g = some gs) (hg : ro [] env gs = some (.fn f caps)) (hit : Iter C.P f caps xs)
    (hps : ∀ p ∈ ps.toList, p ∈ C.gs ∧ p < C.n) (hxs : ∀ y ∈ xs, y.length = ps.toList.length) (hca : C.comp asg = some ca) (hcb : C.comp body = some cb) (h0 : inv 0 mem nx)
    (hround : ∀ (i : Nat) (y : List D) mem' nx', xs[i]? = some y → inv i mem' nx' → nx ≤ nx' → A C ca (asgQ fun env2 mem2 nx2 => A C cb (rndQ (fun mem3 nx3 => ∃ mem4 nx4, memLe mem3 mem4 ∧ nx3 ≤ nx4 ∧ inv (i + 1) mem4 nx4) Q env) env2 mem2 nx2) (putEs env ps.toList y) mem' nx')
    (hend : ∀ mem' nx', inv xs.length mem' nx' → nx ≤ nx' → Q .normal ⟨env, [], mem', nx'⟩) :
    T C (.rangeFunc g ps asg body) Q ⟨env, [], mem, nx⟩ := by
  intro x N S φ a w hn hB hs
  have hrep := ro_sound ⟨hs.env, hs.tl⟩ hgo hg
  simp only [Rep] at hrep
  obtain ⟨cv, hev, hcv⟩ := hrep
  obtain ⟨⟨fn0, e1, e2, e3⟩, hit⟩ := hit
  obtain ⟨vals, hv1, hv2, hit⟩ := hit w S φ cv.toList hcv hs.m.sub
  refine wpIn_rangeFunc (fun fn _ => ?_)
  obtain ⟨rec, hrec⟩ : ∃ rec : Nat → LoopState → Option Code → Loop, rec = fun D st pe => { state := st, pending := pe, fn, tmps := a.tmps, params := ps, assign := asg, body, defers := D } := ⟨_, rfl⟩
  have enter : ∃ l mark W1 D, (Instr.enterLoop fn a.tmps ps asg body x.rd).run C.P w = .ok (l, mark) W1 ∧ W1.heap[l]? = some (.loop (rec D .ready none)) ∧ w.heap.size ≤ l ∧ Grown w W1 ∧ Dfr x S W1 (mark ++ a.defers) := by
    have grown1 : ∀ (w : World) (o : Obj), Grown w (w.alloc o) := fun w o => ⟨by simp, fun b hb => alloc_low _ _ hb, rfl, rfl, rfl⟩
    cases hrd : x.rd with
    | none =>
      have hsz : ∀ (w : World) (o : Obj), (w.alloc o).heap.size = w.heap.size + 1 := fun w o => by simp
      refine ⟨w.heap.size + 1, _, _, w.heap.size, run_enterLoop_outer _ _ _ _ _, ?_, by omega, ?_, ?_⟩
      · have := World.alloc_heap_new (w.alloc (.deferred (some []))) (.loop { state := .ready, pending := none, fn, tmps := a.tmps, params := ps, assign := asg, body, defers := w.heap.size })
        rw [hsz] at this
        rw [this, hrec]
      · have g1 := grown1 w (.deferred (some []))
        have g2 := grown1 (w.alloc (.deferred (some []))) (.loop { state := .ready, pending := none, fn, tmps := a.tmps, params := ps, assign := asg, body, defers := w.heap.size })
        exact ⟨Nat.le_trans g1.size g2.size, fun b hb => (g2.same b (Nat.lt_of_lt_of_le hb g1.size)).trans (g1.same b hb), rfl, rfl, rfl⟩
      · have hD : ((w.alloc (.deferred (some []))).alloc (.loop { state := .ready, pending := none, fn, tmps := a.tmps, params := ps, assign := asg, body, defers := w.heap.size })).heap[w.heap.size]? = some (.deferred (some [])) :=
          (alloc_low _ _ (by rw [hsz]; omega)).trans (World.alloc_heap_new w _)
        have hlow : ∀ b, b < w.heap.size → ((w.alloc (.deferred (some []))).alloc (.loop { state := .ready, pending := none, fn, tmps := a.tmps, params := ps, assign := asg, body, defers := w.heap.size })).heap[b]? = w.heap[b]? := fun b hb =>
          (alloc_low _ _ (by rw [hsz]; omega)).trans (alloc_low _ _ hb)
        refine ⟨?_, fun d hd => ?_, fun l hl => ?_⟩
        · simp only [List.cons_append, List.nil_append, List.map_cons, List.nodup_cons]
          refine ⟨fun hm => ?_, hs.defers.nd⟩
          obtain ⟨d, hd, ht⟩ := List.mem_map.1 hm
          obtain ⟨D, _, g2, g3, _⟩ := hs.defers.marks d hd
          rw [g2] at ht
          simp only [Target.collected.injEq] at ht
          subst ht
          have := (Array.getElem?_eq_some_iff.1 g3).1
          omega
        · simp only [List.cons_append, List.nil_append, List.mem_cons] at hd
          rcases hd with rfl | hd
          · exact ⟨w.heap.size, hB, rfl, hD, fun h => by have := hs.m.sub _ h; omega⟩
          · obtain ⟨D, g1, g2, g3, g4⟩ := hs.defers.marks d hd
            exact ⟨D, g1, g2, (hlow D (Array.getElem?_eq_some_iff.1 g3).1).trans g3, g4⟩
        · rw [hrd] at hl; simp at hl
    | some l0 =>
      obtain ⟨r0, hr0⟩ := hs.defers.rd l0 hrd
      refine ⟨w.heap.size, _, _, r0.defers, run_enterLoop_inner hr0 _ _ _ _ _, ?_, Nat.le_refl _, grown1 _ _, ?_⟩
      · rw [World.alloc_heap_new, hrec]
      · exact hs.defers.ext hs.m (grown1 _ _).ext
  obtain ⟨l, mark, W1, D, hen, hl1, hlw, hgr1, hdf1⟩ := enter
  have hF : (FrR x.rd).round = x.rd := rfl
  refine ⟨l, mark, W1, { target := .fn (.func f) cv, args := #[.func (.yield l) #[] #[]] }, W1, f, #[.func (.yield l) #[] #[]] ++ cv, W1, hen, ?_, fun _ _ => trivial, ?_, fun h => by simp [FrR] at h, ?_⟩
  · simp only [resolve, hev]
    simp [go_sem]
  · simp only [invoke, callFunc, Sem.run_bind, run_program, Result.andThen_ok, e1, e2, e3, Bool.false_eq_true, if_false]
    simp [go_sem]
  -- between two rounds
  obtain ⟨a', ha'⟩ : ∃ a' : Act, a' = { a with defers := mark ++ a.defers } := ⟨_, rfl⟩
  rw [← ha']
  have hs1 : Sim C x S φ ⟨env, [], mem, nx⟩ a' W1 := by
    have := sim_grown hgr1 hs
    exact ⟨by rw [ha']; exact this.size, by rw [ha']; exact hdf1, by rw [ha']; exact this.env, by rw [ha']; exact this.tl, this.m⟩
  let J : Nat → (Nat → Prop) → World → Prop := fun i Z W => ∃ mem' nx' S' φ', (∀ b, Z b ↔ Own φ' mem' b ∨ b = l) ∧ inv i mem' nx' ∧ nx ≤ nx' ∧ Sim C x S' φ' ⟨env, [], mem', nx'⟩ a' W ∧ Ext S φ mem w S' φ' mem' W ∧ Grow N φ φ' nx' ∧ W.heap[l]? = some (.loop (rec D .ready none)) ∧ ¬ S' l
  let Jx : World → Prop := fun W => ∃ c s' S' φ', contQ Q c s' ∧ Sim C x S' φ' s' a' W ∧ Ext S φ mem w S' φ' s'.mem W ∧ Grow N φ φ' s'.nx ∧ W.heap[l]? = some (.loop (rec D .done (some c))) ∧ ¬ S' l
  have hnl : ¬ S l := fun h => by have := hs.m.sub l h; omega
  have hlt : ∀ {W : World} {r : Loop}, W.heap[l]? = some (.loop r) → l < W.heap.size := fun h => (Array.getElem?_eq_some_iff.1 h).1
  have key := hit l J Jx ?_ ?_ ?_ ?_ (fun b => Own φ mem b ∨ b = l) W1 ⟨mem, nx, S, φ, fun _ => Iff.rfl, h0, Nat.le_refl _, hs1, hgr1.ext, Grow.refl hn, hl1, hnl⟩ hgr1.size (fun b hb => hgr1.same b (hs.m.sub b hb))
  · -- behind the rounds
    have hFeq : ∀ {R R' : Ending → World → Prop}, CallsIn Fence.wide 0 C.P f (#[.func (.yield l) #[] #[]] ++ cv) W1 R → (∀ e W, R e W → R' e W) → CallsIn (FrR x.rd) (0 - 1) C.P f (#[.func (.yield l) #[] #[]] ++ cv) W1 R' := fun h hr =>
      ⟨trivial, fun cs _ => by
        obtain ⟨e, w', fr, k1, k2, k3⟩ := h.2 cs (room_wide _)
        exact ⟨e, w', fr, hr _ _ k1, k2, k3⟩⟩
    refine hFeq (by simpa using key) ?_
    have hend1 : ∀ (st : LoopState) (pe : Option Code) (W : World), st ≠ .busy → W.heap[l]? = some (.loop (rec D st pe)) → (Instr.endLoop l).run C.P W = .ok pe (W.putObj l (.loop (rec D .exhausted pe))) := fun st pe W hst h => by
      have := run_endLoop (P := C.P) h (by simpa [hrec] using hst)
      simpa [hrec] using this
    rintro e W3 ⟨⟨v, rfl⟩, hJ⟩
    rcases hJ with ⟨_, mem', nx', S', φ', _, hi, hnn, hsm, hx, hg, hl3, hS3⟩ | ⟨c, s', S', φ', hc, hsm, hx, hg, hl3, hS3⟩
    · refine ⟨none, _, hend1 _ _ _ (by simp) hl3, ?_⟩
      obtain ⟨p1, p2⟩ := msim_put (o := .loop (rec D .exhausted none)) hsm.m hl3 hS3
      exact ⟨_, S', φ', hend mem' nx' hi hnn, ⟨hsm.size, dfr_put hsm.defers hl3, fun j d hj hl => Rep.mono p2 _ _ (hsm.env j d hj hl), fun j d hj hl => Rep.mono p2 _ _ (hsm.tl j d hj hl), p1⟩, ext_put hx hlw, hg⟩
    · refine ⟨some c, _, hend1 _ _ _ (by simp) hl3, ?_⟩
      obtain ⟨p1, p2⟩ := msim_put (o := .loop (rec D .exhausted (some c))) hsm.m hl3 hS3
      have hpost : ∀ e, Q e s' → Post C x N S φ mem w Q e a' (W3.putObj l (.loop (rec D .exhausted (some c)))) := fun e he =>
        ⟨s', S', φ', he, ⟨hsm.size, dfr_put hsm.defers hl3, fun j d hj hl => Rep.mono p2 _ _ (hsm.env j d hj hl), fun j d hj hl => Rep.mono p2 _ _ (hsm.tl j d hj hl), p1⟩, ext_put hx hlw, hg⟩
      cases c with
      | ret => exact wpIn_ret (hpost _ hc)
      | exit id => exact wpIn_exit (hpost _ hc)
      | goto t => exact wpIn_goto (hpost _ hc)
      | _ => exact hc.elim
  · rintro i Z W W' ⟨mem', nx', S', φ', hZ, hi, hnn, hsm, hx, hg, hl3, hS3⟩ hgw
    exact ⟨mem', nx', S', φ', hZ, hi, hnn, sim_grown hgw hsm, hx.trans hgw.ext, hg, (hgw.same l (hlt hl3)).trans hl3, hS3⟩
  · rintro W W' ⟨c, s', S', φ', hc, hsm, hx, hg, hl3, hS3⟩ hgw
    exact ⟨c, s', S', φ', hc, sim_grown hgw hsm, hx.trans hgw.ext, hg, (hgw.same l (hlt hl3)).trans hl3, hS3⟩
  · rintro i Z W ⟨mem', nx', S', φ', hZ, hi, hnn, hsm, hx, hg, hl3, hS3⟩ b hb
    rcases (hZ b).1 hb with h | rfl
    · exact ⟨own_lt hsm.m (.inr h), fun hS => own_notS hsm.m (hx.sub b hS) h⟩
    · exact ⟨hlt hl3, hnl⟩
  · -- one round
    rintro i v Z W hv ⟨mem', nx', S', φ', hZ, hi, hnn, hsm, hx, hg, hl3, hS3⟩
    have hil : i < xs.length := by
      rw [← hv1]
      exact (List.getElem?_eq_some_iff.1 hv).1
    have hy : xs[i]? = some xs[i] := List.getElem?_eq_getElem hil
    generalize xs[i] = y at hy
    have hylen : y.length = ps.toList.length := hxs y (List.mem_of_getElem? hy)
    have hrv := RepVs.mono (stays_ext hs.m hx hg) y v (hv2 i y v hy hv)
    have hvlen : v.length = ps.size := by
      have := RepVs_length _ _ hrv
      have e : ps.toList.length = ps.size := by simp
      omega
    have hyield := run_yield (P := C.P) (args := v.toArray) hl3 (by simp [hrec]; omega)
    have hA := hround i y mem' nx' hy hi hnn
    obtain ⟨tm, htm⟩ : ∃ tm, tm = (ps.zip v.toArray).foldl (fun t (p, v) => t.setIfInBounds p v) a.tmps := ⟨_, rfl⟩
    have hput := putEs_sim (C := C) ps.toList y v env a.tmps hs.size hps hrv hylen (fun j d hj hl => by
      have := hsm.env j d hj hl
      rw [ha'] at this; exact this)
    rw [← foldl_arr, ← htm] at hput
    simp only [hrec] at hyield
    rw [← htm] at hyield
    refine ⟨fn, tm, asg, body, hyield, roundIn_of_wpIn trivial ?_⟩
    have hT := A_sound hca hA ⟨some l, x.B⟩ nx' S' φ' { tmps := tm, defers := [] } W (Nat.le_refl _) (Nat.le_trans hB hx.size) ⟨hput.1, ⟨by simp, fun d hd => by simp at hd, fun j hj => by simp only [Option.some.injEq] at hj; subst hj; exact ⟨_, hl3⟩⟩, hput.2, fun j d _ hl => by simp [look] at hl, hsm.m⟩
    refine wpIn_mono hT ?_
    rintro e a1 W2 ⟨s1, S1, φ1, ⟨rfl, hA2⟩, hs2, hx2, hg2⟩
    have hl4 : W2.heap[l]? = some (.loop (rec D .ready none)) := (hx2.keep l (hlt hl3) (not_own_loop hsm.m hl3)).trans hl3
    have hS4 : ¬ S1 l := fun h => by
      rcases hx2.news l h with g | g | g
      · exact hS3 g
      · have := hlt hl3; omega
      · exact not_own_loop hsm.m hl3 g
    refine ⟨_, run_beginRound hl4 (by simp [hrec]), ?_⟩
    obtain ⟨p1, p2⟩ := msim_put (o := .loop { rec D .ready none with state := .busy }) hs2.m hl4 hS4
    have hl5 : (W2.putObj l (.loop { rec D .ready none with state := .busy })).heap[l]? = some (.loop { rec D .ready none with state := .busy }) := World.putObj_heap_same (hlt hl4)
    have hst2 := stays_ext hsm.m hx2 hg2
    have hso : Sim C x S1 φ1 ⟨env, [], s1.mem, s1.nx⟩ a' (W2.putObj l (.loop { rec D .ready none with state := .busy })) :=
      ⟨hsm.size, dfr_put (hsm.defers.ext hsm.m hx2) hl4, fun j d hj hl => Rep.mono p2 _ _ (Rep.mono hst2 _ _ (hsm.env j d hj hl)), fun j d hj hl => by simp [look] at hl, p1⟩
    have hsi : Sim C ⟨some l, x.B⟩ S1 φ1 ⟨s1.env, [], s1.mem, s1.nx⟩ a1 (W2.putObj l (.loop { rec D .ready none with state := .busy })) :=
      ⟨hs2.size, dfr_put hs2.defers hl4, fun j d hj hl => Rep.mono p2 _ _ (hs2.env j d hj hl), fun j d hj hl => by simp [look] at hl, p1⟩
    have hx3 : Ext S φ mem w S1 φ1 s1.mem (W2.putObj l (.loop { rec D .ready none with state := .busy })) := ext_put (hx.trans hx2) hlw
    have hg3 := hg.trans (hg2.weaken (Nat.le_trans hn hnn))
    have hn1 : nx ≤ s1.nx := Nat.le_trans hnn hg2.le
    have hk3 : ∀ b, b < W.heap.size → ¬ Z b → (W2.putObj l (.loop { rec D .ready none with state := .busy })).heap[b]? = W.heap[b]? := fun b hb hz => by
      have hz' := fun h => hz ((hZ b).2 h)
      exact (put_same fun e => hz' (.inr e)).trans (hx2.keep b hb fun e => hz' (.inl e))
    have ho3 : ∀ b, b < W.heap.size → Own φ1 s1.mem b → Own φ' mem' b := fun b hb h => hx2.own b hb h
    have hz3 : W.heap.size ≤ (W2.putObj l (.loop { rec D .ready none with state := .busy })).heap.size := by simpa using hx2.size
    generalize W2.putObj l (.loop { rec D .ready none with state := .busy }) = W3 at *
    refine wpIn_mono (A_sound hcb hA2 ⟨some l, x.B⟩ s1.nx S1 φ1 a1 W3 (Nat.le_refl _) (Nat.le_trans hB hx3.size) hsi) ?_
    rintro e a3 W4 ⟨s3, S3, φ3, hq, hs3, hx4, hg4⟩
    have hl6 : W4.heap[l]? = some (.loop { rec D .ready none with state := .busy }) := (hx4.keep l (hlt hl5) (not_own_loop hsi.m hl5)).trans hl5
    have hS6 : ¬ S3 l := fun h => by
      rcases hx4.news l h with g | g | g
      · exact hS4 g
      · have := hlt hl5; omega
      · exact not_own_loop hsi.m hl5 g
    have hst4 := stays_ext hso.m hx4 hg4
    have hn3 : nx ≤ s3.nx := Nat.le_trans hn1 hg4.le
    have hg4' := hg4.weaken (Nat.le_trans hn hn1)
    have hfin : ∀ (j : Option Code) (st : LoopState), st = (if j.isNone then .ready else .done) → ∀ mem4 nx4, memLe s3.mem mem4 → s3.nx ≤ nx4 →
        Sim C x S3 φ3 ⟨env, [], mem4, nx4⟩ a' (W4.putObj l (.loop { ({ rec D .ready none with state := .busy } : Loop) with state := if j.isNone then .ready else .done, pending := j })) ∧ Ext S φ mem w S3 φ3 mem4 (W4.putObj l (.loop { ({ rec D .ready none with state := .busy } : Loop) with state := if j.isNone then .ready else .done, pending := j })) ∧ Grow N φ φ3 nx4 ∧
        (W4.putObj l (.loop { ({ rec D .ready none with state := .busy } : Loop) with state := if j.isNone then .ready else .done, pending := j })).heap[l]? = some (.loop (rec D st j)) := by
      intro j st hst mem4 nx4 hle hnx
      obtain ⟨q1, q2⟩ := msim_put (o := .loop { ({ rec D .ready none with state := .busy } : Loop) with state := if j.isNone then .ready else .done, pending := j }) hs3.m hl6 hS6
      refine ⟨⟨hso.size, dfr_put (hso.defers.ext hso.m hx4) hl6, fun k d hj hl => Rep.mono q2 _ _ (Rep.mono hst4 _ _ (hso.env k d hj hl)), fun k d hj hl => by simp [look] at hl, MSim_le q1 hle hnx⟩, ext_le hle (ext_put (hx3.trans hx4) hlw), ⟨Nat.le_trans (hg3.trans hg4').le hnx, (hg3.trans hg4').low, (hg3.trans hg4').loc⟩, ?_⟩
      rw [World.putObj_heap_same (hlt hl6), hst]
      simp [hrec]
    cases e with
    | normal =>
      obtain ⟨mem4, nx4, hle, hnx, hinv⟩ := hq
      refine ⟨_, _, run_endRound none hl6, .inl ⟨rfl, by simpa using Nat.le_trans hz3 hx4.size, fun b hb hz => ?_, fun b => Own φ3 mem4 b ∨ b = l, ⟨mem4, nx4, S3, φ3, fun _ => Iff.rfl, hinv, ?_, ?_⟩, fun b hb => ?_⟩⟩
      · have hz' := fun h => hz ((hZ b).2 h)
        exact (put_same fun e => hz' (.inr e)).trans ((hx4.keep b (Nat.lt_of_lt_of_le hb hz3) fun e => hz' (.inl (ho3 b hb e))).trans (hk3 b hb hz))
      · exact Nat.le_trans hn3 hnx
      rotate_left
      · by_cases hlw2 : b < W.heap.size
        · left
          rw [hZ b]
          rcases hb with ⟨j, blk, lc, h1, h2⟩ | h
          · obtain ⟨b1, g1, _⟩ := hle j blk h1
            exact .inl (ho3 b hlw2 (hx4.own b (Nat.lt_of_lt_of_le hlw2 hz3) ⟨j, b1, lc, g1, h2⟩))
          · exact .inr h
        · right; omega
      · obtain ⟨g1, g2, g3, g4⟩ := hfin none .ready rfl mem4 nx4 hle hnx
        exact ⟨g1, g2, g3, g4, hS6⟩
    | ret =>
      refine ⟨_, _, run_endRound (some .ret) hl6, .inr ⟨rfl, .ret, ⟨env, [], s3.mem, s3.nx⟩, S3, φ3, hq, ?_⟩⟩
      obtain ⟨g1, g2, g3, g4⟩ := hfin (some .ret) .done rfl s3.mem s3.nx (memLe_refl _) (Nat.le_refl _)
      exact ⟨g1, g2, g3, g4, hS6⟩
    | exit id =>
      refine ⟨_, _, run_endRound (some (.exit id)) hl6, .inr ⟨rfl, .exit id, ⟨env, [], s3.mem, s3.nx⟩, S3, φ3, hq, ?_⟩⟩
      obtain ⟨g1, g2, g3, g4⟩ := hfin (some (.exit id)) .done rfl s3.mem s3.nx (memLe_refl _) (Nat.le_refl _)
      exact ⟨g1, g2, g3, g4, hS6⟩
    | goto t =>
      refine ⟨_, _, run_endRound (some (.goto t)) hl6, .inr ⟨rfl, .goto t, ⟨env, [], s3.mem, s3.nx⟩, S3, φ3, hq, ?_⟩⟩
      obtain ⟨g1, g2, g3, g4⟩ := hfin (some (.goto t)) .done rfl s3.mem s3.nx (memLe_refl _) (Nat.le_refl _)
      exact ⟨g1, g2, g3, g4, hS6⟩
    | panic ch => exact hq.elim
    | outgrown => exact hq.elim
theorem A_rfn_of {g : Opd} {ps : List Nat} {ca cb : AC} {f : FuncId} {caps : List D} {xs : List (List D)} (inv : Nat → Mem → Nat → Prop) (hg : ro [] env g = some (.fn f caps)) (hit : Iter C.P f caps xs) (hall : ps.all (fun p => C.gs.contains p && decide (p < C.n)) = true)
    (hxs : ∀ y ∈ xs, y.length = ps.length) (h0 : inv 0 mem nx)
    (hround : ∀ (i : Nat) (y : List D) mem' nx', xs[i]? = some y → inv i mem' nx' → nx ≤ nx' → A C ca (Kont C (asgQ fun env2 mem2 nx2 => A C cb (Kont C (rndQ (fun mem3 nx3 => ∃ mem4 nx4, memLe mem3 mem4 ∧ nx3 ≤ nx4 ∧ inv (i + 1) mem4 nx4) Q env) []) env2 mem2 nx2) []) (putEs env ps y) mem' nx')
    (hend : ∀ mem' nx', inv xs.length mem' nx' → nx ≤ nx' → Q .normal ⟨env, [], mem', nx'⟩) :
    A C (.rfn g ps ca cb) Q env mem nx := by
  rw [A_rfn]
  intro c hc
  cases c with
  | rangeFunc g0 ps0 x y =>
    simp only [Cfg.comp, Option.bind_eq_bind, Option.bind_eq_some_iff] at hc
    obtain ⟨g1, hg1, a1, h1, a2, h2, hc⟩ := hc
    simp only [Option.some.injEq, AC.rfn.injEq] at hc
    obtain ⟨rfl, rfl, rfl, rfl⟩ := hc
    simp only [List.all_eq_true, Bool.and_eq_true, decide_eq_true_eq, List.contains_iff_mem] at hall
    exact T_rfn inv hg1 hg hit (fun p hp => by simpa using hall p hp) hxs h1 h2 h0 hround hend
  | seq p q =>
    obtain ⟨a, b, _, _, h | h | h⟩ := seq_out hc
    · obtain ⟨is, c, p, q, _, _, e⟩ := h; simp at e
    · obtain ⟨is, c, p, q, z, _, _, e⟩ := h; simp at e
    · simp at h
  | region id ops draw =>
    simp only [Cfg.comp, Option.bind_eq_bind, Option.bind_eq_some_iff] at hc
    obtain ⟨is, _, h⟩ := hc
    split at h
    · split at h <;> simp at h
    · simp at h
  | _ => simp [Cfg.comp, Option.bind_eq_some_iff] at hc
end
/-! ### A region's first operations -/
section
variable {C : Cfg} {w : World} {S : Nat → Prop} {φ : Locs} {a : Act} {env tl : Env} {mem : Mem} {nx : Nat}
theorem run_prefix {x : Rx} {rd : Option Nat} {ops : Array Oper} {base : Nat} {K : Env → Env → Mem → Nat → Prop} {Q : Exit → Act → World → Prop} {rest : List Nat} (hd : NoDef ops) (hq : ∀ a w, ¬ Q .outgrown a w) :
    ∀ (is : List Ins) (j : Nat) (env tl : Env) (mem : Mem) (nx : Nat) (S : Nat → Prop) (φ : Locs) (a : Act) (w : World),
    (∀ i y, is[i]? = some y → ∃ o, ops[j + i]? = some o ∧ C.ins ops o = some y) → run C base K is j env tl mem nx → Here C x S φ env tl mem nx a w → (∀ i, j ≤ i → i < j + is.length → φ (base + i) = none) → base + j + is.length ≤ nx →
    (∀ env' tl' mem' nx' S' φ' a' w', K env' tl' mem' nx' → Here C x S' φ' env' tl' mem' nx' a' w' → Ext S φ mem w S' φ' mem' w' → a'.defers = a.defers → wpOpsIn (FrR rd) 0 C.P ops Q rest a' w') →
    wpOpsIn (FrR rd) 0 C.P ops Q (List.range' j is.length ++ rest) a w
  | [], j, env, tl, mem, nx, S, φ, a, w, hm, hr, hh, hf, hn, hk => hk env tl mem nx S φ a w hr hh (Ext.refl ..) rfl
  | y :: is, j, env, tl, mem, nx, S, φ, a, w, hm, hr, hh, hf, hn, hk => by
    obtain ⟨o, ho, hi⟩ := hm 0 y rfl
    rw [run_one] at hr
    simp only [List.length_cons] at hf hn ⊢
    rw [List.range'_succ, List.cons_append, wpOpsIn_cons]
    refine wpOps_in hd hq ?_ (one_sound (k := j) ho hi hr hh (hf j (Nat.le_refl _) (by omega)) (by omega))
    rintro a' w' ⟨S', φ', env', tl', mem', nx', h1, h2, h3, h4, h5, h6, h7⟩
    refine run_prefix hd hq is (j + 1) env' tl' mem' nx' S' φ' a' w' (fun i z hz => ?_) h1 h2 (fun i hi hi2 => h6 _ (by omega) (by omega) (hf i (by omega) (by omega))) (by omega) (fun e t m n S2 φ2 a2 w2 k1 k2 k3 k4 => hk e t m n S2 φ2 a2 w2 k1 k2 (h4.trans k3) (k4.trans h7))
    obtain ⟨o2, g1, g2⟩ := hm (i + 1) z hz
    exact ⟨o2, by rw [show j + 1 + i = j + (i + 1) by omega]; exact g1, g2⟩
/-- A whole region. -/
theorem region_in {x : Rx} {rd : Option Nat} {id : Nat} {ops : Array Oper} {is : List Ins} {K : Env → Env → Mem → Nat → Prop} {Q : Exit → Act → World → Prop} (hq : ∀ a w, ¬ Q .outgrown a w) (hc : C.comp (.region id ops false) = some (.reg is)) (hs : Sim C x S φ ⟨env, tl, mem, nx⟩ a w)
    (hr : run C nx K is 0 env [] mem (nx + is.length))
    (hk : ∀ env' tl' mem' nx' S' φ' a' w', K env' tl' mem' nx' → Here C x S' φ' env' tl' mem' nx' a' w' → Ext S φ mem w S' φ' mem' w' → a'.defers = a.defers → Q .normal a' w') : (Code.region id ops false).wpIn (FrR rd) 0 C.P Q a w := by
  simp only [Cfg.comp, Option.bind_eq_bind, Option.bind_eq_some_iff, Bool.false_eq_true, if_false, Option.some.injEq, AC.reg.injEq] at hc
  obtain ⟨is', his, rfl⟩ := hc
  have hlen : is'.length = ops.size := by rw [← mapM_length his]; simp
  refine wpIn_region ?_
  have e : List.range ops.size = List.range' 0 is'.length ++ [] := by rw [hlen, List.append_nil, List.range_eq_range']
  rw [e]
  refine run_prefix (x := x) (base := nx) (no_defer his) hq is' 0 env [] mem (nx + is'.length) S φ a w (fun i y hy => ?_) hr ⟨⟨hs.env, fun j d _ h => by simp [look] at h⟩, hs.size, hs.defers, ⟨hs.m.mem, hs.m.inj, hs.m.lt, fun i hi => hs.m.fresh i (Nat.le_trans (Nat.le_add_right _ _) hi), hs.m.sub⟩⟩ (fun i _ _ => hs.m.fresh _ (Nat.le_add_right _ _)) (by omega) hk
  obtain ⟨o, ho, hi⟩ := mapM_get his i y hy
  exact ⟨o, by simpa using ho, hi⟩
/-- A call of the function that a range hands to its iterator. -/
theorem yield_op {rd : Option Nat} {P : Program} {ops : Array Oper} {Q : Exit → Act → World → Prop} {i : Nat} {o : Oper} {c : Call} {X : Operand} {l : Nat} {K : Act → World → Prop} {R : Ending → World → Prop} (ho : ops[i]? = some o) (hg : o.guard = none) (hop : o.op = .call c) (hc : c.callee = .value X) (hX : a.eval X = .func (.yield l) #[] #[])
    (hy : YieldAt Fence.wide 0 P l (c.args.map a.eval) w R) (hR : ∀ e w', R e w' → ∃ v, e = .returned v ∧ K (a.put o.dst v) w') : wpOpIn (FrR rd) 0 P ops Q i K a w := by
  unfold wpOpIn
  simp only [ho]
  have hw : Region.wanted o (yielded ops a.tmps) = true := by simp [Region.wanted, hg]
  rw [if_pos hw]
  refine ⟨fun _ _ => trivial, ?_⟩
  rw [Oper.semAt_eq _ _ _ (fun d hd => by rw [hop] at hd; simp at hd)]
  obtain ⟨fn, tm, asg, body, h1, h2⟩ := hy
  have he : (execOp a.eval o).run P w = .ok (.round l fn tm asg body) w := by
    unfold execOp
    rw [hop]
    simp only [resolve, hc, Sem.run_bind, hX, Deferred.ofValue, Sem.run_pure, Result.andThen_ok, invoke]
    simpa using h1
  rw [he]
  refine ⟨fun h => by simp [FrR] at h, trivial, fun c cs _ => ?_⟩
  obtain ⟨e, w', k1, k2⟩ := h2.2 c cs (room_wide _)
  obtain ⟨v, rfl, hk⟩ := hR e w' k1
  exact ⟨.returned v, w', hk, k2⟩
/-- The state in which a function begins. -/
theorem start_sim {B n : Nat} {args : List D} {xs : List Value} (hn : n = C.n) (hl : args.length ≤ C.n) (hx : RepVs w S φ args xs) (hm : MSim S φ mem nx w) : Sim C ⟨none, B⟩ S φ ⟨env0 C.gs args, [], mem, nx⟩ { tmps := xs.toArray ++ Array.replicate (n - xs.toArray.size) undef, defers := [] } w := by
  have hlen := RepVs_length _ _ hx
  exact ⟨by simp; omega, Dfr.nil, fun j d _ hd => by
      have := env0_look args _ _ _ hd
      subst this
      cases ha : args[j]? with
      | none =>
        have hj : args.length ≤ j := List.getElem?_eq_none_iff.1 ha
        simp only [Option.getD_none, Rep]
        rw [Array.getD_eq_getD_getElem?, Array.getElem?_append_right (by simp; omega)]
        simp only [Array.getElem?_replicate]
        split <;> rfl
      | some d =>
        obtain ⟨x, hx1, hr⟩ := RepVs_get _ _ _ _ hx ha
        have hj : j < xs.length := (List.getElem?_eq_some_iff.1 hx1).1
        simp only [Option.getD_some]
        rw [Array.getD_eq_getD_getElem?, Array.getElem?_append_left (by simpa using hj)]
        simpa [hx1] using hr, fun j d _ h => by simp [look] at h, hm⟩
end
/-! ### Slices held against nil -/
section
variable {P : Program} {ty e : TypeId} {f : FuncId} {r : D} {es : List (List D)}
theorem bin_slN (hu : P.underlying ty = some (.slice e)) (h : es ≠ []) : binD P .eql ty (.sl es) (.pl (.slice none 0 0)) = some (.pl (.bool false)) := by
  cases es with
  | nil => exact absurd rfl h
  | cons a l => simp [binD, nilS, hu]
theorem bin_slM (hu : P.underlying ty = some (.slice e)) (h : es ≠ []) : binD P .neq ty (.sl es) (.pl (.slice none 0 0)) = some (.pl (.bool true)) := by
  cases es with
  | nil => exact absurd rfl h
  | cons a l => simp [binD, nilS, hu]
theorem bin_slP (hu : P.underlying ty = some (.slice e)) {p : Addr} {n c : Nat} : binD P .eql ty (.pl (.slice (some p) n c)) (.pl (.slice none 0 0)) = some (.pl (.bool false)) := by
  simp [binD, nilS, hu, lit]
theorem bin_slPM (hu : P.underlying ty = some (.slice e)) {p : Addr} {n c : Nat} : binD P .neq ty (.pl (.slice (some p) n c)) (.pl (.slice none 0 0)) = some (.pl (.bool true)) := by
  simp [binD, nilS, hu, lit]
theorem look_sln (hu : P.underlying ty = some (.slice e)) : Sem.look P (Op.equal ty (.slice none 0 0) (.slice none 0 0)) = some true := by
  unfold Op.equal Op.maxDepth Op.equalIn
  simp [look_bind, underlying, program, Bind.bind, Sem.bind, Sem.look, hu, Pure.pure]
theorem bin_slZ (hu : P.underlying ty = some (.slice e)) : binD P .eql ty (.pl (.slice none 0 0)) (.pl (.slice none 0 0)) = some (.pl (.bool true)) := by
  simp only [binD, lit, Bool.and_self, if_true]
  rw [show binOp .eql ty (.slice none 0 0) (.slice none 0 0) = (Op.equal ty (.slice none 0 0) (.slice none 0 0) >>= fun b => pure (.bool b)) from rfl, look_bind, look_sln hu]
  rfl
/-- A slice that is only read is nil, or empty and not nil, or not empty. -/
theorem Pure_slice (h1 : Pure P f [.pl (.slice none 0 0)] r) (h2 : ∀ p c, Pure P f [.pl (.slice (some p) 0 c)] r) (h3 : es ≠ [] → Pure P f [.sl es] r) : Pure P f [.sl es] r := by
  by_cases he : es = []
  · subst he
    refine ⟨h1.1, fun S w xs hS hx => ?_⟩
    simp only [RepVs] at hx
    obtain ⟨x, rest, rfl, hx, rfl⟩ := hx
    simp only [Rep] at hx
    have hz : x = .slice none 0 0 ∨ ∃ p c, x = .slice (some p) 0 c := by
      rcases hx with ⟨_, hz | ⟨p, hz⟩⟩ | ⟨b, o, cap, k, hz, _⟩
      · exact .inl hz
      · exact .inr ⟨p, 0, hz⟩
      · exact .inr ⟨_, cap, hz⟩
    rcases hz with rfl | ⟨p, c, rfl⟩
    · exact h1.2 S w _ hS (by simp [RepVs, Rep])
    · exact (h2 p c).2 S w _ hS (by simp [RepVs, Rep])
  · exact h3 he
end
end Go.Fx

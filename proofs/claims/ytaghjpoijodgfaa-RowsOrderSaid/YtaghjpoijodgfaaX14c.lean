/-
  A region that draws its order (third part).
-/
import Derived.Test.YtaghjpoijodgfaaX14b
set_option linter.all false
namespace Go.Fx
open Go
section
variable {C : Cfg} {w w' : World} {S S' : Nat → Prop} {φ φ' : Locs} {a : Act} {env tl : Env} {mem : Mem} {nx id base : Nat} {is : List Ins} {oc oc' : Nat → Oc}

/-! #### What stands behind what -/
theorem foldl_push {α β : Type} (h : Array β → α → β) : ∀ (l : List α) (acc : Array β), (l.foldl (fun acc o => acc.push (h acc o)) acc).size = acc.size + l.length ∧
    (∀ j, j < acc.size → (l.foldl (fun acc o => acc.push (h acc o)) acc)[j]? = acc[j]?) ∧
    ∀ i x, l[i]? = some x → (l.foldl (fun acc o => acc.push (h acc o)) acc)[acc.size + i]? = some (h ((l.take i).foldl (fun acc o => acc.push (h acc o)) acc) x)
  | [], acc => ⟨by simp, fun _ _ => rfl, fun i x h => by simp at h⟩
  | y :: l, acc => by
    obtain ⟨h1, h2, h3⟩ := foldl_push h l (acc.push (h acc y))
    simp only [List.foldl_cons]
    refine ⟨by rw [h1]; simp; omega, fun j hj => ?_, fun i x hx => ?_⟩
    · rw [h2 j (by simp; omega), Array.getElem?_push, if_neg (by omega)]
    · cases i with
      | zero =>
        simp only [List.getElem?_cons_zero, Option.some.injEq] at hx; subst hx
        simp only [Nat.add_zero, List.take_zero, List.foldl_nil]
        rw [h2 acc.size (by simp)]
        simp
      | succ i =>
        simp only [List.getElem?_cons_succ] at hx
        have := h3 i x hx
        simp only [Array.size_push] at this
        rw [show acc.size + (i + 1) = acc.size + 1 + i by omega]
        simpa using this

def beforeH (acc : Array Nat) (o : Oper) : Nat := o.after.foldl (fun s e => if Region.binds .any e then s ||| 2 ^ e.on ||| acc.getD e.on 0 else s) 0

theorem before_eq (ops : Array Oper) : Region.before ops = ops.toList.foldl (fun acc o => acc.push (beforeH acc o)) #[] := by
  unfold Region.before
  rw [← Array.foldl_toList]; rfl

theorem testBit_fold (acc : Array Nat) (j : Nat) : ∀ (l : List Edge) (s : Nat), (l.foldl (fun s e => if Region.binds .any e then s ||| 2 ^ e.on ||| acc.getD e.on 0 else s) s).testBit j = true →
    s.testBit j = true ∨ ∃ e ∈ l, Region.binds .any e = true ∧ (e.on = j ∨ (acc.getD e.on 0).testBit j = true)
  | [], s, h => .inl h
  | e :: l, s, h => by
    simp only [List.foldl_cons] at h
    rcases testBit_fold acc j l _ h with h1 | ⟨e', h1, h2⟩
    · split at h1
      · rename_i hb
        simp only [Nat.testBit_or, Bool.or_eq_true] at h1
        rcases h1 with (h1 | h1) | h1
        · exact .inl h1
        · rw [Nat.testBit_two_pow] at h1
          exact .inr ⟨e, by simp, hb, .inl (by simpa using h1)⟩
        · exact .inr ⟨e, by simp, hb, .inr h1⟩
      · exact .inl h1
    · exact .inr ⟨e', by simp [h1], h2⟩

theorem beforeH_spec {acc : Array Nat} {o : Oper} {j : Nat} (h : (beforeH acc o).testBit j = true) : ∃ e ∈ o.after.toList, Region.binds .any e = true ∧ (e.on = j ∨ (acc.getD e.on 0).testBit j = true) := by
  unfold beforeH at h
  rw [← Array.foldl_toList] at h
  rcases testBit_fold _ j _ _ h with h1 | h1
  · simp at h1
  · exact h1

/-- What stands before an operation: what its edges name, and what stands before that. -/
theorem before_spec {ops : Array Oper} {i j : Nat} {o : Oper} (ho : ops[i]? = some o) (h : ((Region.before ops).getD i 0).testBit j = true) :
    ∃ e ∈ o.after.toList, Region.binds .any e = true ∧ (e.on = j ∨ (e.on < i ∧ ((Region.before ops).getD e.on 0).testBit j = true)) := by
  have ho' : ops.toList[i]? = some o := by simpa using ho
  obtain ⟨f1, f2, f3⟩ := foldl_push beforeH ops.toList #[]
  have hi := f3 i o ho'
  simp only [Array.size_empty, Nat.zero_add] at hi
  rw [before_eq, Array.getD_eq_getD_getElem?, hi] at h
  simp only [Option.getD_some] at h
  obtain ⟨e, h1, h2, h3⟩ := beforeH_spec h
  refine ⟨e, h1, h2, ?_⟩
  rcases h3 with h3 | h3
  · exact .inl h3
  · right
    have hlen : i ≤ ops.toList.length := Nat.le_of_lt (List.getElem?_eq_some_iff.1 ho').1
    obtain ⟨k1, k2, k3⟩ := foldl_push beforeH (ops.toList.take i) #[]
    have hsz : ((ops.toList.take i).foldl (fun acc o => acc.push (beforeH acc o)) #[]).size = i := by
      rw [k1, List.length_take]; simp only [Array.size_empty]; omega
    by_cases hlt : e.on < i
    · refine ⟨hlt, ?_⟩
      have hsplit : ops.toList.foldl (fun acc o => acc.push (beforeH acc o)) #[] = (ops.toList.drop i).foldl (fun acc o => acc.push (beforeH acc o)) ((ops.toList.take i).foldl (fun acc o => acc.push (beforeH acc o)) #[]) := by
        rw [← List.foldl_append, List.take_append_drop]
      obtain ⟨_, m2, _⟩ := foldl_push beforeH (ops.toList.drop i) ((ops.toList.take i).foldl (fun acc o => acc.push (beforeH acc o)) #[])
      rw [before_eq, Array.getD_eq_getD_getElem?, hsplit, m2 e.on (by rw [hsz]; exact hlt), ← Array.getD_eq_getD_getElem?]
      exact h3
    · exfalso
      rw [Array.getD_eq_getD_getElem?, Array.getElem?_eq_none (by rw [hsz]; omega)] at h3
      simp at h3

/-- All that stands before what is listed is listed. -/
def Closed (ops : Array Oper) (listed : Array Bool) : Prop := ∀ i o, ops[i]? = some o → listed.getD i false = true → ∀ j, ((Region.before ops).getD i 0).testBit j = true → listed.getD j false = true

theorem ready_before {ops : Array Oper} {listed : Array Bool} {i j : Nat} {o : Oper} (ho : ops[i]? = some o) (hc : Closed ops listed) (hr : o.after.all (fun e => !Region.binds .any e || listed.getD e.on false) = true) (h : ((Region.before ops).getD i 0).testBit j = true) : listed.getD j false = true := by
  obtain ⟨e, he, hb, hj⟩ := before_spec ho h
  have h1 := Array.all_eq_true_iff_forall_mem.1 hr e (by simpa using he)
  simp only [hb, Bool.not_true, Bool.false_or] at h1
  rcases hj with rfl | ⟨hlt, hj⟩
  · exact h1
  · have : e.on < ops.size := by have := (Array.getElem?_eq_some_iff.1 ho).1; omega
    exact hc e.on _ (Array.getElem?_eq_getElem this) h1 j hj

def unl (n : Nat) (listed : Array Bool) : Nat := ((List.range n).filter fun i => !listed.getD i true).length

theorem getD_set {listed : Array Bool} {i j : Nat} (hi : i < listed.size) (d : Bool) : (listed.setIfInBounds i true).getD j d = if i = j then true else listed.getD j d := by
  simp only [Array.getD_eq_getD_getElem?, Array.getElem?_setIfInBounds]
  by_cases h : i = j
  · subst h; simp [hi]
  · simp [h]

theorem filter_lt {p q : Nat → Bool} : ∀ (l : List Nat) (i : Nat), i ∈ l → p i = true → q i = false → (∀ j, q j = true → p j = true) → (l.filter q).length < (l.filter p).length
  | [], i, h, _, _, _ => by simp at h
  | x :: l, i, h, hp, hq, hqp => by
    have hle : ∀ l : List Nat, (l.filter q).length ≤ (l.filter p).length := by
      intro l
      induction l with
      | nil => simp
      | cons y l ih =>
        simp only [List.filter_cons]
        by_cases h1 : q y = true
        · simp [h1, hqp y h1]; exact ih
        · by_cases h2 : p y = true <;> simp [h1, h2] <;> omega
    simp only [List.filter_cons]
    rcases List.mem_cons.1 h with rfl | h
    · simp only [hp, hq, if_true, Bool.false_eq_true, if_false, List.length_cons]
      have := hle l; omega
    · have ih := filter_lt l i h hp hq hqp
      by_cases h1 : q x = true
      · simp [h1, hqp x h1]; exact ih
      · by_cases h2 : p x = true <;> simp [h1, h2] <;> omega

theorem ready_mem {ops : Array Oper} {listed : Array Bool} {i : Nat} (h : i ∈ Region.ready .any ops listed) : ∃ o, ops[i]? = some o ∧ i < ops.size ∧ listed.getD i true = false ∧ o.after.all (fun e => !Region.binds .any e || listed.getD e.on false) = true := by
  simp only [Region.ready, List.mem_filter, List.mem_range, Bool.and_eq_true, Bool.not_eq_true'] at h
  obtain ⟨h1, h2, h3⟩ := h
  refine ⟨ops[i], Array.getElem?_eq_getElem h1, h1, h2, ?_⟩
  simpa [Array.getElem?_eq_getElem h1] using h3

theorem ready_none {ops : Array Oper} {listed : Array Bool} (hsz : listed.size = ops.size) (hedge : ∀ i o, ops[i]? = some o → ∀ e ∈ o.after.toList, Region.binds .any e = true → e.on < i) (h : Region.ready .any ops listed = []) : ∀ i, i < ops.size → listed.getD i false = true := by
  intro i
  induction i using Nat.strongRecOn with
  | _ i ih =>
    intro hi
    cases hl : listed.getD i false with
    | true => rfl
    | false =>
      exfalso
      have hl' : listed.getD i true = false := by
        rw [Array.getD_eq_getD_getElem?, Array.getElem?_eq_getElem (by omega)] at hl ⊢
        exact hl
      have : i ∈ Region.ready .any ops listed := by
        simp only [Region.ready, List.mem_filter, List.mem_range, Bool.and_eq_true, Bool.not_eq_true']
        refine ⟨hi, hl', ?_⟩
        rw [Array.getElem?_eq_getElem hi]
        simp only [Option.map_some, Option.getD_some]
        refine Array.all_eq_true_iff_forall_mem.2 fun e he => ?_
        cases hb : Region.binds .any e with
        | false => rfl
        | true =>
          simp only [Bool.not_true, Bool.false_or]
          have hlt := hedge i _ (Array.getElem?_eq_getElem hi) e (by simpa using he) hb
          exact ih e.on hlt (by omega)
      rw [h] at this
      simp at this

/-! #### Whatever is drawn -/
theorem apart_out {b i : Nat} {x y : Ins} (h : Cfg.apartI b i x y = true) : (∀ d ∈ Cfg.dstO x.dst, d ∉ Cfg.dstO y.dst ∧ (d ∈ Cfg.sees y → b.testBit i = true)) ∧ (∀ d ∈ Cfg.dstO y.dst, d ∉ Cfg.sees x) ∧ (Cfg.makesI x.i = true → Cfg.looksI y.i = true → b.testBit i = true) := by
  simp only [Cfg.apartI, Bool.and_eq_true, List.all_eq_true] at h
  obtain ⟨⟨h1, h2⟩, h3⟩ := h
  refine ⟨fun d hd => ?_, fun d hd => ?_, fun hm hl => ?_⟩
  · have := h1 d hd
    simp only [Bool.and_eq_true, Bool.not_eq_true', List.contains_eq_mem, decide_eq_false_iff_not, Bool.or_eq_true] at this
    exact ⟨this.1, fun hs => this.2.resolve_left fun hn => hn hs⟩
  · have := h2 d hd
    simpa using this
  · simpa [hm, hl] using h3

theorem takeWhile_mem {α : Type} {p : α → Bool} : ∀ {l : List α} {x : α}, x ∈ l.takeWhile p → p x = true
  | [], x, h => by simp at h
  | y :: l, x, h => by
    simp only [List.takeWhile_cons] at h
    split at h
    · rename_i hy
      rcases List.mem_cons.1 h with rfl | h
      · exact hy
      · exact takeWhile_mem h
    · simp at h

theorem free_of_lt {j : Nat} {x : Ins} (hj : j < Cfg.freeLen is) (hx : is[j]? = some x) : x.i.free = true := by
  unfold Cfg.freeLen at hj
  have h1 : (is.takeWhile fun x => x.i.free)[j]? = some x := by
    have hp : (is.takeWhile fun x => x.i.free) <+: is := List.takeWhile_prefix _
    rw [List.prefix_iff_getElem?] at hp
    have := hp j hj
    rw [hx] at this
    rw [List.getElem?_eq_getElem hj, this]
  exact takeWhile_mem (p := fun x : Ins => x.i.free) (List.mem_of_getElem? h1)

theorem freeLen_le : Cfg.freeLen is ≤ is.length := by
  unfold Cfg.freeLen
  exact (List.takeWhile_prefix _).length_le

structure Okd (ops : Array Oper) (is : List Ins) : Prop where
  len : is.length = ops.size
  edge : ∀ i o, ops[i]? = some o → ∀ e ∈ o.after.toList, Region.binds .any e = true → e.on < i
  free : ∀ i j x y, i < j → j < Cfg.freeLen is → is[i]? = some x → is[j]? = some y → Cfg.apartI ((Region.before ops).getD j 0) i x y = true
  rest : ∀ i j, i < j → Cfg.freeLen is ≤ j → j < is.length → ((Region.before ops).getD j 0).testBit i = true

theorem okd_of {ops : Array Oper} (hlen : is.length = ops.size) (h : Cfg.drawOk ops is = true) : Okd ops is := by
  simp only [Cfg.drawOk, Bool.and_eq_true, List.all_eq_true] at h
  obtain ⟨h1, h2⟩ := h
  have mem_zip : ∀ {α : Type} (l : List α) (i : Nat) (x : α), l[i]? = some x → (x, i) ∈ l.zipIdx := by
    intro α l i x hx
    rw [List.mk_mem_zipIdx_iff_getElem?]; exact hx
  refine ⟨hlen, fun i o ho e he hb => ?_, fun i j x y hij hj hx hy => ?_, fun i j hij hj hjl => ?_⟩
  · have := h1 (o, i) (mem_zip _ _ _ (by simpa using ho)) e he
    simpa [hb] using this
  · have := h2 (y, j) (mem_zip _ _ _ hy)
    simp only [hj, if_true, List.all_eq_true] at this
    have := this (x, i) (mem_zip _ _ _ hx)
    simpa [hij] using this
  · have := h2 (is[j], j) (mem_zip _ _ _ (List.getElem?_eq_getElem hjl))
    rw [if_neg (by omega)] at this
    exact (List.all_eq_true.1 this) i (by simpa using hij)

theorem uniq_of {ops : Array Oper} (hok : Okd ops is) : Uniq is (Cfg.freeLen is) := by
  have key : ∀ i j x y, i < j → j < Cfg.freeLen is → is[i]? = some x → is[j]? = some y → ∀ d, d ∈ Cfg.dstO x.dst → d ∉ Cfg.dstO y.dst := fun i j x y hij hj hx hy d hd => ((apart_out (hok.free i j x y hij hj hx hy)).1 d hd).1
  intro i j hi hj hne t
  refine ⟨?_, ?_⟩ <;> rintro ⟨x, hx, hxd⟩ ⟨y, hy, hyd⟩
  · rcases Nat.lt_or_gt_of_ne hne with h | h
    · exact key i j x y h hj hx hy t (by simp [hxd, Cfg.dstO]) (by simp [hyd, Cfg.dstO])
    · exact key j i y x h hi hy hx t (by simp [hyd, Cfg.dstO]) (by simp [hxd, Cfg.dstO])
  · rcases Nat.lt_or_gt_of_ne hne with h | h
    · exact key i j x y h hj hx hy t (by simp [hxd, Cfg.dstO]) (by simp [hyd, Cfg.dstO])
    · exact key j i y x h hi hy hx t (by simp [hyd, Cfg.dstO]) (by simp [hxd, Cfg.dstO])

theorem unl_set {n i : Nat} {listed : Array Bool} (hi : i < n) (hsz : listed.size = n) (hl : listed.getD i true = false) : unl n (listed.setIfInBounds i true) < unl n listed := by
  unfold unl
  refine filter_lt _ i (by simpa using hi) (by simp [hl]) ?_ ?_
  · rw [getD_set (by omega)]; simp
  · intro j hj
    rw [getD_set (by omega)] at hj
    split at hj
    · simp at hj
    · exact hj

theorem unl_zero {n i : Nat} {listed : Array Bool} (h : unl n listed ≤ 0) (hi : i < n) : listed.getD i true = true := by
  unfold unl at h
  have h0 : (List.range n).filter (fun i => !listed.getD i true) = [] := List.eq_nil_of_length_eq_zero (by omega)
  have := List.filter_eq_nil_iff.1 h0 i (by simpa using hi)
  simpa using this

theorem getD_tf {listed : Array Bool} {i : Nat} (hi : i < listed.size) : listed.getD i true = listed.getD i false := by
  simp [Array.getD_eq_getD_getElem?, hi]

theorem closed_set {ops : Array Oper} {listed : Array Bool} {i : Nat} {o : Oper} (hsz : listed.size = ops.size) (ho : ops[i]? = some o) (hr : o.after.all (fun e => !Region.binds .any e || listed.getD e.on false) = true) (hc : Closed ops listed) : Closed ops (listed.setIfInBounds i true) := by
  have hi : i < ops.size := (Array.getElem?_eq_some_iff.1 ho).1
  intro j o' ho' hj m hm
  rw [getD_set (by omega)] at hj ⊢
  split
  · rfl
  · rename_i him
    by_cases hij : i = j
    · subst hij
      exact ready_before ho hc hr hm
    · simp only [hij, if_false] at hj
      exact hc j o' ho' hj m hm

theorem any_rest {ops : Array Oper} {K : Env → Env → Mem → Nat → Prop} {S0 : Nat → Prop} {φ0 : Locs} {mem0 : Mem} {w0 : World} {N : Nat} (hN : N ≤ base) (his : ops.toList.mapM (C.ins ops) = some is) (hok : Okd ops is) : ∀ (fuel j : Nat) (listed : Array Bool) (env tl : Env) (mem : Mem) (nx : Nat) (S : Nat → Prop) (φ : Locs) (a : Act) (w : World),
    listed.size = ops.size → unl ops.size listed ≤ fuel → Closed ops listed → (∀ i, i < ops.size → listed.getD i false = decide (i < j)) → Cfg.freeLen is ≤ j → j ≤ ops.size →
    run C base K (is.drop j) j env tl mem nx → Here C S φ env tl mem nx a w → Ext S0 φ0 mem0 w0 S φ mem w → Grow N φ0 φ nx → (∀ i, j ≤ i → i < ops.size → φ (base + i) = none) → base + ops.size ≤ nx →
    wpAny C.P .any ops (Post C N S0 φ0 mem0 w0 (fun e s => e = .normal ∧ K s.env s.tl s.mem s.nx)) fuel listed a w := by
  intro fuel
  induction fuel with
  | zero =>
    intro j listed env tl mem nx S φ a w hsz hun hcl hl hkj hjn hr hh hx hgr hf hn
    have hall : Region.ready .any ops listed = [] := by
      cases h : Region.ready .any ops listed with
      | nil => rfl
      | cons i l =>
        obtain ⟨o, _, h1, h2, _⟩ := ready_mem (ops := ops) (listed := listed) (i := i) (by rw [h]; simp)
        rw [unl_zero hun h1] at h2; simp at h2
    have hje : j = ops.size := by
      apply Classical.byContradiction
      intro hne
      have h1 := ready_none hsz hok.edge hall j (by omega)
      rw [hl j (by omega)] at h1; simp at h1
    refine ⟨hall, ⟨env, tl, mem, nx⟩, S, φ, ⟨rfl, ?_⟩, ⟨hh.size, hh.defers, hh.known.env, hh.known.tl, hh.m⟩, hx, hgr⟩
    rw [List.drop_eq_nil_of_le (by rw [hok.len]; omega)] at hr; exact hr
  | succ fuel ih =>
    intro j listed env tl mem nx S φ a w hsz hun hcl hl hkj hjn hr hh hx hgr hf hn
    refine ⟨fun hall => ?_, fun i hi => ?_⟩
    · have hje : j = ops.size := by
        apply Classical.byContradiction
        intro hne
        have h1 := ready_none hsz hok.edge hall j (by omega)
        rw [hl j (by omega)] at h1; simp at h1
      refine ⟨⟨env, tl, mem, nx⟩, S, φ, ⟨rfl, ?_⟩, ⟨hh.size, hh.defers, hh.known.env, hh.known.tl, hh.m⟩, hx, hgr⟩
      rw [List.drop_eq_nil_of_le (by rw [hok.len]; omega)] at hr; exact hr
    · obtain ⟨o, ho, h1, h2, h3⟩ := ready_mem hi
      have hle : j ≤ i := by
        apply Classical.byContradiction
        intro hlt
        rw [getD_tf (by omega), hl i h1] at h2
        simp at h2; omega
      have hij : i = j := by
        apply Classical.byContradiction
        intro hne
        have := ready_before ho hcl h3 (hok.rest j i (by omega) (by omega) (by rw [hok.len]; omega))
        rw [hl j (by omega)] at this; simp at this
      subst hij
      have hlt : i < is.length := by rw [hok.len]; exact h1
      obtain ⟨x, hx'⟩ : ∃ x, is[i]? = some x := ⟨_, List.getElem?_eq_getElem hlt⟩
      have hdrop : is.drop i = x :: is.drop (i + 1) := by
        rw [List.drop_eq_getElem_cons hlt]
        congr 1
        have := List.getElem?_eq_getElem hlt
        rw [hx'] at this; exact (Option.some.inj this).symm
      rw [hdrop, run_one] at hr
      obtain ⟨o', ho', hins⟩ := mapM_get his i x hx'
      have : o' = o := by
        have e : ops.toList[i]? = some o := by simpa using ho
        rw [e] at ho'; exact (Option.some.inj ho').symm
      subst this
      refine wpOp_mono ?_ (one_sound (k := 0) ho hins hr hh (hf i (Nat.le_refl _) h1) (by omega))
      rintro a' w' ⟨S', φ', env', tl', mem', nx', g1, g2, g3, g4, g5, g6⟩
      refine ih (i + 1) (listed.setIfInBounds i true) env' tl' mem' nx' S' φ' a' w' (by simpa using hsz) (by have := unl_set h1 hsz h2; omega) (closed_set hsz ho h3 hcl) (fun m hm => ?_) (by omega) (by omega) g1 g2 (hx.trans g4) (hgr.trans ⟨by omega, fun i hi hnn => g6 i (by omega) (by omega) hnn, g3.loc⟩) (fun m hm hm2 => g6 _ (by omega) (by omega) (hf m (by omega) hm2)) (by omega)
      rw [getD_set (by omega), hl m hm]
      by_cases e : i = m
      · subst e; simp
      · simp only [e, if_false]
        congr 1
        apply propext; omega

theorem range_lt {m i k : Nat} (h : m ∈ List.range i) (hik : i < k) : m < k := by
  have : m < i := by simpa using h
  omega

theorem mem_E {k : Nat} {listed : Array Bool} {j : Nat} : j ∈ (List.range k).filter (fun j => listed.getD j false) ↔ j < k ∧ listed.getD j false = true := by
  simp [List.mem_filter]

theorem any_free {ops : Array Oper} {K : Env → Env → Mem → Nat → Prop} {S0 : Nat → Prop} {φ0 : Locs} {w0 : World} {N : Nat} (hN : N ≤ base) (his : ops.toList.mapM (C.ins ops) = some is) (hok : Okd ops is) (htold : ∀ j x, j < Cfg.freeLen is → is[j]? = some x → Told C base nx is oc env [] mem j x)
    (hend : run C base K (is.drop (Cfg.freeLen is)) (Cfg.freeLen is) (fE is oc env (List.range (Cfg.freeLen is))) (fT is oc [] (List.range (Cfg.freeLen is))) (fM oc mem (List.range (Cfg.freeLen is))) nx) (hfresh : ∀ i, i < ops.size → look mem (base + i) = none) (hn : base + ops.size ≤ nx) :
    ∀ (fuel : Nat) (listed : Array Bool) (S : Nat → Prop) (φ : Locs) (a : Act) (w : World), listed.size = ops.size → unl ops.size listed ≤ fuel → Closed ops listed → (∀ j, Cfg.freeLen is ≤ j → j < ops.size → listed.getD j false = false) →
    Here C S φ (fE is oc env ((List.range (Cfg.freeLen is)).filter fun j => listed.getD j false)) (fT is oc [] ((List.range (Cfg.freeLen is)).filter fun j => listed.getD j false)) (fM oc mem ((List.range (Cfg.freeLen is)).filter fun j => listed.getD j false)) nx a w →
    Ext S0 φ0 mem w0 S φ (fM oc mem ((List.range (Cfg.freeLen is)).filter fun j => listed.getD j false)) w → Grow N φ0 φ nx → (∀ i, i < ops.size → listed.getD i false = false → φ (base + i) = none) →
    wpAny C.P .any ops (Post C N S0 φ0 mem w0 (fun e s => e = .normal ∧ K s.env s.tl s.mem s.nx)) fuel listed a w := by
  have hkn : Cfg.freeLen is ≤ ops.size := by rw [← hok.len]; exact freeLen_le
  have hu := uniq_of hok
  have hexts : ∀ j, j < Cfg.freeLen is → Exts base oc j := fun j hj => by
    obtain ⟨x, hx⟩ : ∃ x, is[j]? = some x := ⟨_, List.getElem?_eq_getElem (by rw [hok.len]; omega)⟩
    rcases (htold j x hj hx).1 with h | ⟨⟨b, h⟩, _⟩
    · exact .inl h
    · exact .inr ⟨b, h⟩
  intro fuel
  induction fuel with
  | zero =>
    intro listed S φ a w hsz hun hcl hl hh hx hgr hf
    have hall : ∀ j, j < Cfg.freeLen is → listed.getD j false = true := fun j hj => by rw [← getD_tf (by omega)]; exact unl_zero hun (by omega)
    have hE : (List.range (Cfg.freeLen is)).filter (fun j => listed.getD j false) = List.range (Cfg.freeLen is) := List.filter_eq_self.2 fun j hj => hall j (by simpa using hj)
    rw [hE] at hh hx
    exact any_rest hN his hok 0 (Cfg.freeLen is) listed _ _ _ nx S φ a w hsz hun hcl (fun i hi => by
      by_cases h : i < Cfg.freeLen is
      · rw [hall i h]; simp [h]
      · rw [hl i (by omega) hi]; simp [h]) (Nat.le_refl _) hkn hend hh hx hgr (fun i h1 h2 => hf i h2 (hl i h1 h2)) hn
  | succ fuel ih =>
    intro listed S φ a w hsz hun hcl hl hh hx hgr hf
    by_cases hall : ∀ j, j < Cfg.freeLen is → listed.getD j false = true
    · have hE : (List.range (Cfg.freeLen is)).filter (fun j => listed.getD j false) = List.range (Cfg.freeLen is) := List.filter_eq_self.2 fun j hj => hall j (by simpa using hj)
      rw [hE] at hh hx
      exact any_rest hN his hok (fuel + 1) (Cfg.freeLen is) listed _ _ _ nx S φ a w hsz hun hcl (fun i hi => by
        by_cases h : i < Cfg.freeLen is
        · rw [hall i h]; simp [h]
        · rw [hl i (by omega) hi]; simp [h]) (Nat.le_refl _) hkn hend hh hx hgr (fun i h1 h2 => hf i h2 (hl i h1 h2)) hn
    · obtain ⟨j0, hj0, hj0l⟩ : ∃ j, j < Cfg.freeLen is ∧ listed.getD j false = false := by
        apply Classical.byContradiction
        intro h
        exact hall fun j hj => by
          cases hb : listed.getD j false with
          | true => rfl
          | false => exact absurd ⟨j, hj, hb⟩ h
      refine ⟨fun hr => ?_, fun i hi => ?_⟩
      · have := ready_none hsz hok.edge hr j0 (by omega)
        rw [hj0l] at this; simp at this
      · obtain ⟨o, ho, h1, h2, h3⟩ := ready_mem hi
        have h2' : listed.getD i false = false := by rw [← getD_tf (by omega)]; exact h2
        have hik : i < Cfg.freeLen is := by
          apply Classical.byContradiction
          intro hge
          have := ready_before ho hcl h3 (hok.rest j0 i (by omega) (by omega) (by rw [hok.len]; omega))
          rw [hj0l] at this; simp at this
        have hil : i < is.length := by rw [hok.len]; exact h1
        obtain ⟨x, hxi⟩ : ∃ x, is[i]? = some x := ⟨_, List.getElem?_eq_getElem hil⟩
        obtain ⟨o', ho', hins⟩ := mapM_get his i x hxi
        have hoo : o' = o := by
          have e : ops.toList[i]? = some o := by simpa using ho
          rw [e] at ho'; exact (Option.some.inj ho').symm
        subst hoo
        obtain ⟨t1, t2⟩ := htold i x hik hxi
        -- what stands before i is done
        have hbef : ∀ j, ((Region.before ops).getD i 0).testBit j = true → listed.getD j false = true := fun j hj => ready_before ho hcl h3 hj
        have elder : ∀ j y, j < i → is[j]? = some y → Cfg.apartI ((Region.before ops).getD i 0) j y x = true := fun j y hj hy => hok.free j i y x hj hik hy hxi
        have younger : ∀ j y, i < j → j < Cfg.freeLen is → is[j]? = some y → Cfg.apartI ((Region.before ops).getD j 0) i x y = true := fun j y hj hjk hy => hok.free i j x y hj hjk hxi hy
        have hsee : ∀ s ∈ Cfg.sees x, look (fE is oc env (List.range i)) s = look (fE is oc env ((List.range (Cfg.freeLen is)).filter fun j => listed.getD j false)) s ∧
            look (fT is oc [] (List.range i)) s = look (fT is oc [] ((List.range (Cfg.freeLen is)).filter fun j => listed.getD j false)) s := by
          intro s hs
          constructor
          · by_cases h : ∃ j, j < i ∧ dG is j s
            · obtain ⟨j, hj, y, hy, hyd⟩ := h
              have hjl := hbef j (((apart_out (elder j y hj hy)).1 s (by simp [hyd, Cfg.dstO])).2 hs)
              rw [fE_some _ _ s j (by simpa using hj) ⟨y, hy, hyd⟩ fun m hm hne hd => (hu j m (by omega) (range_lt hm hik) (Ne.symm hne) s).1 ⟨y, hy, hyd⟩ hd,
                fE_some _ _ s j (mem_E.2 ⟨by omega, hjl⟩) ⟨y, hy, hyd⟩ fun m hm hne hd => (hu j m (by omega) (mem_E.1 hm).1 (Ne.symm hne) s).1 ⟨y, hy, hyd⟩ hd]
            · rw [fE_none _ _ s fun j hj hd => h ⟨j, by simpa using hj, hd⟩, fE_none _ _ s fun j hj hd => ?_]
              obtain ⟨hjk, hjl⟩ := mem_E.1 hj
              obtain ⟨y, hy, hyd⟩ := hd
              rcases Nat.lt_trichotomy j i with hlt | rfl | hgt
              · exact h ⟨j, hlt, y, hy, hyd⟩
              · rw [h2'] at hjl; simp at hjl
              · exact (apart_out (younger j y hgt hjk hy)).2.1 s (by simp [hyd, Cfg.dstO]) hs
          · by_cases h : ∃ j, j < i ∧ dT is j s
            · obtain ⟨j, hj, y, hy, hyd⟩ := h
              have hjl := hbef j (((apart_out (elder j y hj hy)).1 s (by simp [hyd, Cfg.dstO])).2 hs)
              rw [fT_some _ _ s j (by simpa using hj) ⟨y, hy, hyd⟩ fun m hm hne hd => (hu j m (by omega) (range_lt hm hik) (Ne.symm hne) s).2 ⟨y, hy, hyd⟩ hd,
                fT_some _ _ s j (mem_E.2 ⟨by omega, hjl⟩) ⟨y, hy, hyd⟩ fun m hm hne hd => (hu j m (by omega) (mem_E.1 hm).1 (Ne.symm hne) s).2 ⟨y, hy, hyd⟩ hd]
            · rw [fT_none _ _ s fun j hj hd => h ⟨j, by simpa using hj, hd⟩, fT_none _ _ s fun j hj hd => ?_]
              obtain ⟨hjk, hjl⟩ := mem_E.1 hj
              obtain ⟨y, hy, hyd⟩ := hd
              rcases Nat.lt_trichotomy j i with hlt | rfl | hgt
              · exact h ⟨j, hlt, y, hy, hyd⟩
              · rw [h2'] at hjl; simp at hjl
              · exact (apart_out (younger j y hgt hjk hy)).2.1 s (by simp [hyd, Cfg.dstO]) hs
        have hsub : Cfg.looksI x.i = true → Sub (fM oc mem (List.range i)) (fM oc mem ((List.range (Cfg.freeLen is)).filter fun j => listed.getD j false)) := by
          intro hlk m b hm
          have hxE : ∀ j ∈ (List.range (Cfg.freeLen is)).filter (fun j => listed.getD j false), Exts base oc j := fun j hj => hexts j (mem_E.1 hj).1
          have hxR : ∀ j ∈ List.range i, Exts base oc j := fun j hj => hexts j (range_lt hj hik)
          by_cases h : ∃ j, j < i ∧ (oc j).ext ≠ [] ∧ m = base + j
          · obtain ⟨j, hj, hne, rfl⟩ := h
            obtain ⟨y, hy⟩ : ∃ y, is[j]? = some y := ⟨_, List.getElem?_eq_getElem (by omega)⟩
            rcases (htold j y (by omega) hy).1 with he | ⟨⟨b', he⟩, hmk⟩
            · exact absurd he hne
            · have hjl := hbef j ((apart_out (elder j y hj hy)).2.2 hmk hlk)
              rw [fM_some _ mem j b' hxR (by simpa using hj) he] at hm
              rw [fM_some _ mem j b' hxE (mem_E.2 ⟨by omega, hjl⟩) he]; exact hm
          · rw [fM_none _ mem m hxR fun j hj hne e => h ⟨j, by simpa using hj, hne, e⟩] at hm
            rw [fM_none _ mem m hxE fun j hj hne e => ?_]
            · exact hm
            · rw [e, hfresh j (by have := (mem_E.1 hj).1; omega)] at hm; simp at hm
        have hone := t2 _ _ _ nx (fun env' tl' mem' nx' => env' = putE x.dst (oc i).d (fE is oc env ((List.range (Cfg.freeLen is)).filter fun j => listed.getD j false)) ∧ tl' = putT x.dst (oc i).d (fT is oc [] ((List.range (Cfg.freeLen is)).filter fun j => listed.getD j false)) ∧
          mem' = (oc i).ext ++ fM oc mem ((List.range (Cfg.freeLen is)).filter fun j => listed.getD j false) ∧ nx' = nx) hsee hsub ⟨rfl, rfl, rfl, rfl⟩
        refine wpOp_mono ?_ (one_sound (k := 0) ho hins hone hh (hf i h1 h2') (by omega))
        rintro a' w' ⟨S', φ', env', tl', mem', nx', ⟨rfl, rfl, rfl, rfl⟩, g2, g3, g4, g5, g6⟩
        have hmem : ∀ m, m ∈ ((List.range (Cfg.freeLen is)).filter fun j => listed.getD j false) ++ [i] ↔ m ∈ (List.range (Cfg.freeLen is)).filter fun j => (listed.setIfInBounds i true).getD j false := by
          intro m
          rw [mem_E, List.mem_append, mem_E, getD_set (by omega)]
          by_cases e : i = m
          · subst e; simp [hik]
          · simp only [List.mem_singleton, e, if_false]
            constructor
            · rintro (h | h)
              · exact h
              · exact absurd h.symm e
            · exact .inl
        have hlt : ∀ m ∈ ((List.range (Cfg.freeLen is)).filter fun j => listed.getD j false) ++ [i], m < Cfg.freeLen is := by
          intro m hm
          rcases List.mem_append.1 hm with h | h
          · exact (mem_E.1 h).1
          · have : m = i := by simpa using h
            omega
        have eE : fE is oc env (((List.range (Cfg.freeLen is)).filter fun j => listed.getD j false) ++ [i]) = putE x.dst (oc i).d (fE is oc env ((List.range (Cfg.freeLen is)).filter fun j => listed.getD j false)) := by
          rw [fE_append]; simp only [fE, hxi]
        have eT : fT is oc [] (((List.range (Cfg.freeLen is)).filter fun j => listed.getD j false) ++ [i]) = putT x.dst (oc i).d (fT is oc [] ((List.range (Cfg.freeLen is)).filter fun j => listed.getD j false)) := by
          rw [fT_append]; simp only [fT, hxi]
        have eM : fM oc mem (((List.range (Cfg.freeLen is)).filter fun j => listed.getD j false) ++ [i]) = (oc i).ext ++ fM oc mem ((List.range (Cfg.freeLen is)).filter fun j => listed.getD j false) := by
          rw [fM_append]; simp only [fM]
        rw [← eE, ← eT, ← eM] at g2
        rw [← eM] at g4
        have sM := same_M (mem := mem) (fun j hj => hexts j (hlt j hj)) hmem
        refine ih (listed.setIfInBounds i true) S' φ' a' w' (by simpa using hsz) (by have := unl_set h1 hsz h2; omega) (closed_set hsz ho h3 hcl) (fun j hj hjn => ?_) (Here_congr (same_E hu hlt hmem) (same_T hu hlt hmem) sM g2) (Ext_congr sM (hx.trans g4)) (hgr.trans ⟨by omega, fun i hi hnn => g6 i (by omega) (by omega) hnn, g3.loc⟩) (fun m hm hml => ?_)
        · rw [getD_set (by omega), if_neg (by omega)]; exact hl j hj hjn
        · rw [getD_set (by omega)] at hml
          split at hml
          · simp at hml
          · rename_i hne
            exact g6 _ (by omega) (by omega) (hf m hm hml)

theorem draw_sound {rid : Nat} {ops : Array Oper} {K : Env → Env → Mem → Nat → Prop} (hmix : C.P.follows .mixedOrders = true) (his : ops.toList.mapM (C.ins ops) = some is) (hok : Cfg.drawOk ops is = true) (h : run C nx K is 0 env [] mem (nx + is.length))
    {N : Nat} (hN : N ≤ nx) (hh : Here C S φ env [] mem (nx + is.length) a w) (hfree : ∀ i, i < is.length → φ (nx + i) = none) : (Code.region rid ops true).wp C.P (Post C N S φ mem w (fun e s => e = .normal ∧ K s.env s.tl s.mem s.nx)) a w := by
  have hlen : is.length = ops.size := by rw [← mapM_length his]; simp
  have ho := okd_of hlen hok
  obtain ⟨oc, htold, hend⟩ := trace (nx := nx + is.length) h (Cfg.freeLen is) (fun j x hj hx => free_of_lt hj hx) freeLen_le (Cfg.freeLen is) (Nat.le_refl _)
  refine wp_region_any hmix ?_
  obtain ⟨m1, m2, m3⟩ := MSim.of_heap (w := w) (w1 := { w with drawn := w.drawn + 1 }) rfl rfl rfl rfl hh.m
  have hk1 : Known C { w with drawn := w.drawn + 1 } S φ env [] a := ⟨fun j d hj hl => Rep.mono m2 _ _ (hh.known.env j d hj hl), fun j d hj hl => Rep.mono m2 _ _ (hh.known.tl j d hj hl)⟩
  have hE : (List.range (Cfg.freeLen is)).filter (fun j => (Array.replicate ops.size false).getD j false) = [] := by
    rw [List.filter_eq_nil_iff]
    intro j _
    simp [Array.getD_eq_getD_getElem?, Array.getElem?_replicate]
    split <;> simp
  have hf0 : ∀ i, (Array.replicate ops.size false).getD i false = false := by
    intro i
    simp only [Array.getD_eq_getD_getElem?, Array.getElem?_replicate]
    split <;> rfl
  refine any_free hN his ho htold hend (fun i hi => ?_) (by omega) ops.size (Array.replicate ops.size false) S φ a _ (by simp) ?_ ?_ (fun j _ _ => hf0 j) ?_ ?_ (Grow.refl (by omega)) (fun i hi _ => hfree i (by omega))
  · cases hl : look mem (nx + i) with
    | none => rfl
    | some b =>
      obtain ⟨l, h1, _⟩ := hh.m.mem _ _ hl
      rw [hfree i (by omega)] at h1; simp at h1
  · unfold unl
    exact Nat.le_trans (List.length_filter_le _ _) (by simp)
  · intro i o _ hi
    rw [hf0] at hi; simp at hi
  · rw [hE]; exact ⟨hk1, hh.size, hh.defers, m1⟩
  · rw [hE]; exact m3
end
end Go.Fx

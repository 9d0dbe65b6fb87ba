/-
  A region that draws its order (third part).
-/
import Derived.Test.YtaiklblnfebdfaaX14b
set_option linter.all false
namespace Go.Fx
open Go
section
variable {C : Cfg} {w w' : World} {S S' : Nat → Prop} {φ φ' : Locs} {a : Act} {env tl : Env} {mem : Mem} {nx id base : Nat} {is : List Ins} {oc oc' : Nat → Oc}

/-! #### What stands behind what -/
theorem foldl_push {α β : Type} (h : Array β → α → β) : ∀ (l : List α) (acc : Array β), (l.foldl (fun acc o => acc.push (h acc o)) acc).size = acc.size + l.length ∧
    (∀ j, j < acc.size → (l.foldl (fun acc o => acc.push (h acc o)) acc)[j]? = acc[j]?) ∧
    ∀ i x, l[i]? = some x → (l.foldl (fun acc o => acc.push (h acc o)) acc)[acc.size + i]? = some (h ((l.take i).foldl (fun acc o => acc.push (h acc o)) acc) x)
  | [], acc => ⟨by simp, fun _ _ => rfl, fun i x h => by simp at h⟩
  | y :: l, acc => by
    obtain ⟨h1, h2, h3⟩ := foldl_push h l (acc.push (h acc y))
    simp only [List.foldl_cons]
    refine ⟨by rw [h1]; simp; omega, fun j hj => ?_, fun i x hx => ?_⟩
    · rw [h2 j (by simp; omega), Array.getElem?_push, if_neg (by omega)]
    · cases i with
      | zero =>
        simp only [List.getElem?_cons_zero, Option.some.injEq] at hx; subst hx
        simp only [Nat.add_zero, List.take_zero, List.foldl_nil]
        rw [h2 acc.size (by simp)]
        simp
      | succ i =>
        simp only [List.getElem?_cons_succ] at hx
        have := h3 i x hx
        simp only [Array.size_push] at this
        rw [show acc.size + (i + 1) = acc.size + 1 + i by omega]
        simpa using this

def beforeH (acc : Array Nat) (o : Oper) : Nat := o.after.foldl (fun s e => if Region.binds .any e then s ||| 2 ^ e.on ||| acc.getD e.on 0 else s) 0

theorem before_eq (ops : Array Oper) : Region.before ops = ops.toList.foldl (fun acc o => acc.push (beforeH acc o)) #[] := by
  unfold Region.before
  rw [← Array.foldl_toList]; rfl

theorem testBit_fold (acc : Array Nat) (j : Nat) : ∀ (l : List Edge) (s : Nat), (l.foldl (fun s e => if Region.binds .any e then s ||| 2 ^ e.on ||| acc.getD e.on 0 else s) s).testBit j = true →
    s.testBit j = true ∨ ∃ e ∈ l, Region.binds .any e = true ∧ (e.on = j ∨ (acc.getD e.on 0).testBit j = true)
  | [], s, h => .inl h
  | e :: l, s, h => by
    simp only [List.foldl_cons] at h
    rcases testBit_fold acc j l _ h with h1 | ⟨e', h1, h2⟩
    · split at h1
      · rename_i hb
        simp only [Nat.testBit_or, Bool.or_eq_true] at h1
        rcases h1 with (h1 | h1) | h1
        · exact .inl h1
        · rw [Nat.testBit_two_pow] at h1
          exact .inr ⟨e, by simp, hb, .inl (by simpa using h1)⟩
        · exact .inr ⟨e, by simp, hb, .inr h1⟩
      · exact .inl h1
    · exact .inr ⟨e', by simp [h1], h2⟩

theorem beforeH_spec {acc : Array Nat} {o : Oper} {j : Nat} (h : (beforeH acc o).testBit j = true) : ∃ e ∈ o.after.toList, Region.binds .any e = true ∧ (e.on = j ∨ (acc.getD e.on 0).testBit j = true) := by
  unfold beforeH at h
  rw [← Array.foldl_toList] at h
  rcases testBit_fold _ j _ _ h with h1 | h1
  · simp at h1
  · exact h1

/-- What stands before an operation: what its edges name, and what stands before that. -/
theorem before_spec {ops : Array Oper} {i j : Nat} {o : Oper} (ho : ops[i]? = some o) (h : ((Region.before ops).getD i 0).testBit j = true) :
    ∃ e ∈ o.after.toList, Region.binds .any e = true ∧ (e.on = j ∨ (e.on < i ∧ ((Region.before ops).getD e.on 0).testBit j = true)) := by
  have ho' : ops.toList[i]? = some o := by simpa using ho
  obtain ⟨f1, f2, f3⟩ := foldl_push beforeH ops.toList #[]
  have hi := f3 i o ho'
  simp only [Array.size_empty, Nat.zero_add] at hi
  rw [before_eq, Array.getD_eq_getD_getElem?, hi] at h
  simp only [Option.getD_some] at h
  obtain ⟨e, h1, h2, h3⟩ := beforeH_spec h
  refine ⟨e, h1, h2, ?_⟩
  rcases h3 with h3 | h3
  · exact .inl h3
  · right
    have hlen : i ≤ ops.toList.length := Nat.le_of_lt (List.getElem?_eq_some_iff.1 ho').1
    obtain ⟨k1, k2, k3⟩ := foldl_push beforeH (ops.toList.take i) #[]
    have hsz : ((ops.toList.take i).foldl (fun acc o => acc.push (beforeH acc o)) #[]).size = i := by
      rw [k1, List.length_take]; simp only [Array.size_empty]; omega
    by_cases hlt : e.on < i
    · refine ⟨hlt, ?_⟩
      have hsplit : ops.toList.foldl (fun acc o => acc.push (beforeH acc o)) #[] = (ops.toList.drop i).foldl (fun acc o => acc.push (beforeH acc o)) ((ops.toList.take i).foldl (fun acc o => acc.push (beforeH acc o)) #[]) := by
        rw [← List.foldl_append, List.take_append_drop]
      obtain ⟨_, m2, _⟩ := foldl_push beforeH (ops.toList.drop i) ((ops.toList.take i).foldl (fun acc o => acc.push (beforeH acc o)) #[])
      rw [before_eq, Array.getD_eq_getD_getElem?, hsplit, m2 e.on (by rw [hsz]; exact hlt), ← Array.getD_eq_getD_getElem?]
      exact h3
    · exfalso
      rw [Array.getD_eq_getD_getElem?, Array.getElem?_eq_none (by rw [hsz]; omega)] at h3
      simp at h3

/-- All that stands before what is listed is listed. -/
def Closed (ops : Array Oper) (listed : Array Bool) : Prop := ∀ i o, ops[i]? = some o → listed.getD i false = true → ∀ j, ((Region.before ops).getD i 0).testBit j = true → listed.getD j false = true

theorem ready_before {ops : Array Oper} {listed : Array Bool} {i j : Nat} {o : Oper} (ho : ops[i]? = some o) (hc : Closed ops listed) (hr : o.after.all (fun e => !Region.binds .any e || listed.getD e.on false) = true) (h : ((Region.before ops).getD i 0).testBit j = true) : listed.getD j false = true := by
  obtain ⟨e, he, hb, hj⟩ := before_spec ho h
  have h1 := Array.all_eq_true_iff_forall_mem.1 hr e (by simpa using he)
  simp only [hb, Bool.not_true, Bool.false_or] at h1
  rcases hj with rfl | ⟨hlt, hj⟩
  · exact h1
  · have : e.on < ops.size := by have := (Array.getElem?_eq_some_iff.1 ho).1; omega
    exact hc e.on _ (Array.getElem?_eq_getElem this) h1 j hj

def unl (n : Nat) (listed : Array Bool) : Nat := ((List.range n).filter fun i => !listed.getD i true).length

theorem getD_set {listed : Array Bool} {i j : Nat} (hi : i < listed.size) (d : Bool) : (listed.setIfInBounds i true).getD j d = if i = j then true else listed.getD j d := by
  simp only [Array.getD_eq_getD_getElem?, Array.getElem?_setIfInBounds]
  by_cases h : i = j
  · subst h; simp [hi]
  · simp [h]

theorem filter_lt {p q : Nat → Bool} : ∀ (l : List Nat) (i : Nat), i ∈ l → p i = true → q i = false → (∀ j, q j = true → p j = true) → (l.filter q).length < (l.filter p).length
  | [], i, h, _, _, _ => by simp at h
  | x :: l, i, h, hp, hq, hqp => by
    have hle : ∀ l : List Nat, (l.filter q).length ≤ (l.filter p).length := by
      intro l
      induction l with
      | nil => simp
      | cons y l ih =>
        simp only [List.filter_cons]
        by_cases h1 : q y = true
        · simp [h1, hqp y h1]; exact ih
        · by_cases h2 : p y = true <;> simp [h1, h2] <;> omega
    simp only [List.filter_cons]
    rcases List.mem_cons.1 h with rfl | h
    · simp only [hp, hq, if_true, Bool.false_eq_true, if_false, List.length_cons]
      have := hle l; omega
    · have ih := filter_lt l i h hp hq hqp
      by_cases h1 : q x = true
      · simp [h1, hqp x h1]; exact ih
      · by_cases h2 : p x = true <;> simp [h1, h2] <;> omega

theorem ready_mem {ops : Array Oper} {listed : Array Bool} {i : Nat} (h : i ∈ Region.ready .any ops listed) : ∃ o, ops[i]? = some o ∧ i < ops.size ∧ listed.getD i true = false ∧ o.after.all (fun e => !Region.binds .any e || listed.getD e.on false) = true := by
  simp only [Region.ready, List.mem_filter, List.mem_range, Bool.and_eq_true, Bool.not_eq_true'] at h
  obtain ⟨h1, h2, h3⟩ := h
  refine ⟨ops[i], Array.getElem?_eq_getElem h1, h1, h2, ?_⟩
  simpa [Array.getElem?_eq_getElem h1] using h3

theorem ready_none {ops : Array Oper} {listed : Array Bool} (hsz : listed.size = ops.size) (hedge : ∀ i o, ops[i]? = some o → ∀ e ∈ o.after.toList, Region.binds .any e = true → e.on < i) (h : Region.ready .any ops listed = []) : ∀ i, i < ops.size → listed.getD i false = true := by
  intro i
  induction i using Nat.strongRecOn with
  | _ i ih =>
    intro hi
    cases hl : listed.getD i false with
    | true => rfl
    | false =>
      exfalso
      have hl' : listed.getD i true = false := by
        rw [Array.getD_eq_getD_getElem?, Array.getElem?_eq_getElem (by omega)] at hl ⊢
        exact hl
      have : i ∈ Region.ready .any ops listed := by
        simp only [Region.ready, List.mem_filter, List.mem_range, Bool.and_eq_true, Bool.not_eq_true']
        refine ⟨hi, hl', ?_⟩
        rw [Array.getElem?_eq_getElem hi]
        simp only [Option.map_some, Option.getD_some]
        refine Array.all_eq_true_iff_forall_mem.2 fun e he => ?_
        cases hb : Region.binds .any e with
        | false => rfl
        | true =>
          simp only [Bool.not_true, Bool.false_or]
          have hlt := hedge i _ (Array.getElem?_eq_getElem hi) e (by simpa using he) hb
          exact ih e.on hlt (by omega)
      rw [h] at this
      simp at this

/-! #### Whatever is drawn -/
def runL (C : Cfg) (base : Nat) : List (Nat × Ins) → Go4 → Go4
  | [], K => K
  | (j, x) :: r, K => fun e t m n => One C base x j e t m n (runL C base r K)

theorem runL_app {K : Go4} : ∀ (l r : List (Nat × Ins)), runL C base (l ++ r) K = runL C base l (runL C base r K)
  | [], r => rfl
  | (j, x) :: l, r => by simp only [List.cons_append, runL, runL_app l r]

theorem Inv_runL {K : Go4} (h : Inv K) : ∀ (l : List (Nat × Ins)), Inv (runL C base l K)
  | [] => h
  | (j, x) :: l => Inv_One (Inv_runL h l)

theorem run_runL {K : Go4} : ∀ (l : List Ins) (j : Nat) (env tl : Env) (mem : Mem) (nx : Nat), run C base K l j env tl mem nx → runL C base ((l.zipIdx j).map fun p => (p.2, p.1)) K env tl mem nx
  | [], j, _, _, _, _, h => h
  | x :: l, j, env, tl, mem, nx, h => by
    rw [run_one] at h
    simp only [List.zipIdx_cons, List.map_cons, runL]
    exact One_mono (fun e t m n h => run_runL l (j + 1) e t m n h) h


theorem run_mono {K K2 : Go4} (hk : ∀ e t m n, K e t m n → K2 e t m n) : ∀ (l : List Ins) (j : Nat) (env tl : Env) (mem : Mem) (nx : Nat), run C base K l j env tl mem nx → run C base K2 l j env tl mem nx
  | [], _, _, _, _, _, h => hk _ _ _ _ h
  | x :: l, j, env, tl, mem, nx, h => by
    rw [run_one] at h ⊢
    exact One_mono (fun e t m n h => run_mono hk l (j + 1) e t m n h) h

theorem quiet_out {i : I} (h : Cfg.quietI i = true) : i.free = true ∧ (∀ p : Opd, Cfg.lookO i = []) ∧ Cfg.makesI i = false := by
  simp only [Cfg.quietI, Bool.and_eq_true, Bool.not_eq_true'] at h
  refine ⟨h.1, fun _ => ?_, h.2.2⟩
  cases i <;> first | rfl | simp [Cfg.looksI] at h

theorem slots_out {x y : Ins} (h : Cfg.slotsApart x y = true) : (∀ d ∈ Cfg.dstO x.dst, d ∉ Cfg.dstO y.dst) ∧ (∀ d ∈ Cfg.dstO x.dst, d ∉ Cfg.sees y) ∧ (∀ d ∈ Cfg.dstO y.dst, d ∉ Cfg.sees x) := by
  simp only [Cfg.slotsApart, Bool.and_eq_true, List.all_eq_true] at h
  refine ⟨fun d hd => ?_, fun d hd => ?_, fun d hd => ?_⟩
  · have := (h.1 d hd).1; simpa using this
  · have := (h.1 d hd).2; simpa using this
  · have := h.2 d hd; simpa using this

theorem putE_sees {x y : Ins} {d : D} (h : ∀ t ∈ Cfg.dstO x.dst, t ∉ Cfg.sees y) (e t : Env) : ∀ s ∈ Cfg.sees y, look (putE x.dst d e) s = look e s ∧ look (putT x.dst d t) s = look t s := fun s hs =>
  ⟨putE_other fun e => h s (by simp [e, Cfg.dstO]) hs, putT_other fun e => h s (by simp [e, Cfg.dstO]) hs⟩

theorem sub_ext {ext : Mem} {i : Nat} (h : ext = [] ∨ ∃ b, ext = [(i, b)]) (hf : look mem i = none) : Sub mem (ext ++ mem) := fun k b hb => by
  rcases h with rfl | ⟨c, rfl⟩
  · exact hb
  · simp only [List.singleton_append, look]
    split
    · rename_i e; subst e; rw [hf] at hb; simp at hb
    · exact hb

theorem ext_comm {e1 e2 : Mem} {i j : Nat} (h1 : e1 = [] ∨ ∃ b, e1 = [(i, b)]) (h2 : e2 = [] ∨ ∃ b, e2 = [(j, b)]) (hij : i ≠ j) (m : Mem) : Lk (e1 ++ (e2 ++ m)) (e2 ++ (e1 ++ m)) := by
  rcases h1 with rfl | ⟨b, rfl⟩
  · exact Lk.refl _
  · rcases h2 with rfl | ⟨c, rfl⟩
    · exact Lk.refl _
    · intro t
      simp only [List.singleton_append, look]
      by_cases e : i = t
      · subst e; rw [if_pos rfl, if_neg (fun e => hij e.symm), if_pos rfl]
      · rw [if_neg e, if_neg e]

theorem sees_of {x : Ins} {s : Nat} (h : s ∈ Cfg.seesI x.i) : s ∈ Cfg.sees x := by simp [Cfg.sees, h]

theorem swap {rm : List (Nat × Opd)} {x y : Ins} {i j : Nat} {go : Go4} (hij : i ≠ j) (hs : Cfg.swapI rm x y = true) (hrt : Rooted rm env tl) (hfr : Cfg.makesI y.i = true → look mem (base + j) = none)
    (hcl : ∀ p ∈ Cfg.lookO y.i, ∀ d, ro tl env p = some d → d.hd ≠ some (base + i)) (hg : Inv go)
    (h : One C base x i env tl mem nx (fun e t m n => One C base y j e t m n go)) : One C base y j env tl mem nx (fun e t m n => One C base x i e t m n go) := by
  simp only [Cfg.swapI, Bool.and_eq_true, Bool.or_eq_true] at hs
  obtain ⟨hsl, hs⟩ := hs
  obtain ⟨s1, s2, s3⟩ := slots_out hsl
  have s1' : ∀ d ∈ Cfg.dstO y.dst, d ∉ Cfg.dstO x.dst := fun d h1 h2 => s1 d h2 h1
  have back : ∀ (d : D), ∀ s ∈ Cfg.sees x, look env s = look (putE y.dst d env) s ∧ look tl s = look (putT y.dst d tl) s := fun d s hs' =>
    ⟨(putE_sees (d := d) s3 env tl s hs').1.symm, (putE_sees (d := d) s3 env tl s hs').2.symm⟩
  by_cases hsta : Cfg.staI rm x.i y.i = true
  · obtain ⟨⟨q, hq⟩, hx⟩ := sta_out hsta
    rcases hx with ⟨hxf, hxm, hxl⟩ | ⟨p, hp, hpt⟩
    · obtain ⟨ox, hx1, hx2, hx3⟩ := one_free hxf h
      have he : ox.ext = [] := by
        rcases hx2 with e | ⟨_, e⟩
        · exact e
        · rw [hxm] at e; simp at e
      simp only [he, List.nil_append] at hx1 hx3
      obtain ⟨d, ⟨hy1, hy2⟩ | ⟨a, k, b, b', hy1, hy2, hy3, hy4, hy5, hy6⟩⟩ := store_One hq hx1
      · refine hy2 env tl mem nx _ (putE_sees s2 env tl) (hx3 _ _ _ _ _ (back d) (fun _ _ _ _ => fun _ _ _ h => h) ?_)
        exact hg _ _ _ _ _ _ _ (putE_comm s1') (putT_comm s1') (Lk.refl _) hy1
      · refine hy6 env tl mem nx _ (putE_sees s2 env tl) hy4 (hx3 _ _ _ _ _ (back d) (fun p hp dd hd i hi bb hbb => ?_) ?_)
        · obtain ⟨y', e1, e2⟩ := hy5 _ (hxl p hp)
          rw [ro_put s2 (fun s hs => sees_of (tol_sees (hxl p hp) s hs))] at e1
          rcases rooted_at hrt hd with h0 | ⟨dr, h1, h2⟩
          · rw [h0] at hi; simp at hi
          · rw [h1] at e1
            simp only [Option.some.injEq] at e1; subst e1
            rw [look_upd_ne _ (fun e => e2 (by rw [← h2, hi, e]))]; exact hbb
        · exact hg _ _ _ _ _ _ _ (putE_comm s1') (putT_comm s1') (Lk.refl _) hy1
    · obtain ⟨dx, ⟨hx1, hx2⟩ | ⟨ax, kx, bx, bx', hx1, hx2, hx3, hx4, _, hx6⟩⟩ := store_One hp h
      · refine One_lk (putE_sees s2 env tl) (Lk.refl mem) (fun d m m2 n hm hgo => hx2 _ _ _ _ _ (back d) ?_) hx1
        exact hg _ _ _ _ _ _ _ (putE_comm s1') (putT_comm s1') hm hgo
      · obtain ⟨d, ⟨hy1, hy2⟩ | ⟨a, k, b, b', hy1, hy2, hy3, hy4, hy5, hy6⟩⟩ := store_One hq hx1
        · refine hy2 env tl mem nx _ (putE_sees s2 env tl) (hx6 _ _ _ _ _ (back d) hx4 ?_)
          exact hg _ _ _ _ _ _ _ (putE_comm s1') (putT_comm s1') (Lk.refl _) hy1
        · obtain ⟨y', e1, e2⟩ := hy5 _ hpt
          rw [ro_put s2 (fun s hs => sees_of (tol_sees hpt s hs))] at e1
          have hne : k ≠ kx := by
            rcases rooted_at hrt hx2 with h0 | ⟨dr, h1, h2⟩
            · rw [hx3] at h0; simp at h0
            · rw [h1] at e1
              simp only [Option.some.injEq] at e1; subst e1
              exact fun e => e2 (by rw [← h2, hx3, e])
          rw [look_upd_ne _ hne] at hy4
          refine hy6 env tl mem nx _ (putE_sees s2 env tl) hy4 (hx6 _ _ _ _ _ (back d) (by rw [look_upd_ne _ (fun e => hne e.symm)]; exact hx4) ?_)
          exact hg _ _ _ _ _ _ _ (putE_comm s1') (putT_comm s1') (upd_comm (fun e => hne e.symm) mem) hy1
  by_cases hxf : x.i.free = true
  · obtain ⟨ox, hx1, hx2, hx3⟩ := one_free hxf h
    have hx2' : ox.ext = [] ∨ ∃ b, ox.ext = [(base + i, b)] := hx2.imp id (·.1)
    by_cases hyf : y.i.free = true
    · obtain ⟨oy, hy1, hy2, hy3⟩ := one_free hyf hx1
      have hy2' : oy.ext = [] ∨ ∃ b, oy.ext = [(base + j, b)] := hy2.imp id (·.1)
      refine hy3 env tl mem nx _ (putE_sees s2 env tl) (fun p hp d hd i' hi b hb => ?_) ?_
      · rw [ro_put s2 (fun s hs => sees_of (lookO_sees hp s hs))] at hd
        have hne := hcl p hp d hd
        rcases hx2' with e | ⟨_, e⟩
        · rw [e] at hb; exact hb
        · rw [e] at hb
          simp only [List.singleton_append, look] at hb
          rw [if_neg (fun e => hne (by rw [hi, e]))] at hb; exact hb
      · refine hx3 _ _ _ _ _ (back oy.d) (fun _ _ _ _ => Sub.at ?_ _) ?_
        · rcases hy2 with e | ⟨⟨b, e⟩, hm⟩
          · rw [e]; exact fun _ _ h => h
          · exact sub_ext (.inr ⟨b, e⟩) (hfr hm)
        · exact hg _ _ _ _ _ _ _ (putE_comm s1') (putT_comm s1') (ext_comm hy2' hx2' (by omega) mem) hy1
    · have hxq : Cfg.quietI x.i = true := by
        rcases hs with ((⟨h1, _⟩ | h1) | ⟨_, h1⟩) | h1
        · exact absurd (quiet_out h1).1 hyf
        · exact h1
        · exact absurd h1 hyf
        · exact absurd h1 hsta
      obtain ⟨_, q2, q3⟩ := quiet_out hxq
      have he : ox.ext = [] := by
        rcases hx2 with e | ⟨_, e⟩
        · exact e
        · rw [q3] at e; simp at e
      rw [he, List.nil_append] at hx1
      refine One_lk (putE_sees s2 env tl) (Lk.refl mem) (fun d m m2 n hm hgo => ?_) hx1
      refine hx3 _ _ _ _ _ (back d) (fun p hp => by rw [q2 p] at hp; simp at hp) ?_
      rw [he, List.nil_append]
      exact hg _ _ _ _ _ _ _ (putE_comm s1') (putT_comm s1') hm hgo
  · have hyq : Cfg.quietI y.i = true ∧ x.i.call = false := by
      rcases hs with ((⟨h1, h2⟩ | h1) | ⟨h1, _⟩) | h1
      · exact ⟨h1, by simpa using h2⟩
      · exact absurd (quiet_out h1).1 hxf
      · exact absurd h1 hxf
      · exact absurd h1 hsta
    obtain ⟨hyf, q2, q3⟩ := quiet_out hyq.1
    obtain ⟨d, m, hx1, hx2⟩ := write_one' (by simpa using hxf) hyq.2 h
    obtain ⟨oy, hy1, hy2, hy3⟩ := one_free hyf hx1
    have he : oy.ext = [] := by
      rcases hy2 with e | ⟨_, e⟩
      · exact e
      · rw [q3] at e; simp at e
    rw [he, List.nil_append] at hy1
    refine hy3 env tl mem nx _ (putE_sees s2 env tl) (fun p hp => by rw [q2 p] at hp; simp at hp) ?_
    rw [he, List.nil_append]
    refine hx2 _ _ _ _ (back oy.d) (fun m2 hm => ?_)
    exact hg _ _ _ _ _ _ _ (putE_comm s1') (putT_comm s1') hm hy1

theorem pass {rm : List (Nat × Opd)} {y : Ins} {j : Nat} {go : Go4} (hg : Inv go) : ∀ (xs : List (Nat × Ins)) (env tl : Env) (mem : Mem) (nx : Nat), (∀ p ∈ xs, Cfg.swapI rm p.2 y = true ∧ p.1 ≠ j ∧ Cfg.rootFits rm p.2 = true) → Rooted rm env tl → (Cfg.makesI y.i = true → look mem (base + j) = none) →
    (∀ q ∈ Cfg.lookO y.i, ∀ d, ro tl env q = some d → ∀ p ∈ xs, d.hd ≠ some (base + p.1)) →
    runL C base xs (fun e t m n => One C base y j e t m n go) env tl mem nx → One C base y j env tl mem nx (runL C base xs go)
  | [], _, _, _, _, _, _, _, _, h => h
  | (i, x) :: xs, env, tl, mem, nx, hs, hrt, hfr, hcl, h => by
    simp only [runL] at h
    obtain ⟨hsw, hij, hrf⟩ := hs (i, x) (by simp)
    have hs' : ∀ p ∈ xs, Cfg.swapI rm p.2 y = true ∧ p.1 ≠ j ∧ Cfg.rootFits rm p.2 = true := fun p hp => hs p (by simp [hp])
    have hsl : ∀ d ∈ Cfg.dstO x.dst, d ∉ Cfg.sees y := by
      simp only [Cfg.swapI, Bool.and_eq_true] at hsw
      exact (slots_out hsw.1).2.1
    have hcl2 : ∀ (v : D), ∀ q ∈ Cfg.lookO y.i, ∀ d, ro (putT x.dst v tl) (putE x.dst v env) q = some d → ∀ p ∈ xs, d.hd ≠ some (base + p.1) := fun v q hq d hd p hp => by
      rw [ro_put hsl (fun s hs => sees_of (lookO_sees hq s hs))] at hd
      exact hcl q hq d hd p (by simp [hp])
    have h2 : One C base x i env tl mem nx (fun e t m n => One C base y j e t m n (runL C base xs go)) := by
      by_cases hm : Cfg.makesI y.i = true
      · have hxf : x.i.free = true := by
          simp only [Cfg.swapI, Bool.and_eq_true, Bool.or_eq_true] at hsw
          rcases hsw.2 with ((⟨h1, _⟩ | h1) | ⟨h1, _⟩) | h1
          · have := (quiet_out h1).2.2; rw [hm] at this; simp at this
          · exact (quiet_out h1).1
          · exact h1
          · obtain ⟨⟨q, hq⟩, _⟩ := sta_out h1
            cases hy : y.i <;> rw [hy] at hq hm <;> simp [I.adr] at hq <;> simp [Cfg.makesI] at hm
        obtain ⟨ox, hx1, hx2, hx3⟩ := one_free hxf (One_rooted hrf hrt h)
        refine hx3 env tl mem nx _ (fun s _ => ⟨rfl, rfl⟩) (fun _ _ _ _ => fun _ _ _ h => h) (pass hg xs _ _ _ _ hs' hx1.1 (fun _ => ?_) (hcl2 _) hx1.2)
        rcases hx2 with e | ⟨⟨b, e⟩, _⟩
        · rw [e]; exact hfr hm
        · rw [e]; simp only [List.singleton_append, look]; rw [if_neg (by omega)]; exact hfr hm
      · refine One_lk (fun s _ => ⟨rfl, rfl⟩) (Lk.refl mem) (fun d m m2 n hmm h => ?_) (One_rooted hrf hrt h)
        exact pass hg xs _ _ _ _ hs' h.1 (fun h => absurd h hm) (hcl2 d) (Inv_runL (Inv_One hg) xs _ _ _ _ _ _ _ (Lk.refl _) (Lk.refl _) hmm h.2)
    exact swap hij hsw hrt hfr (fun p hp d hd => hcl p hp d hd (i, x) (by simp)) (Inv_runL hg xs) h2

structure Okd (C : Cfg) (ops : Array Oper) (is : List Ins) : Prop where
  len : is.length = ops.size
  edge : ∀ i o, ops[i]? = some o → ∀ e ∈ o.after.toList, Region.binds .any e = true → e.on < i
  fit : ∀ x ∈ is, (∀ p ∈ Cfg.lookO x.i, Cfg.fitO C.gs p = true) ∧ Cfg.rootFits (Cfg.roots is) x = true
  apart : ∀ i j x y, i < j → is[i]? = some x → is[j]? = some y → ((Region.before ops).getD j 0).testBit i = true ∨ Cfg.swapI (Cfg.roots is) x y = true

theorem okd_of {ops : Array Oper} (hlen : is.length = ops.size) (h : Cfg.drawOk C.gs ops is = true) : Okd C ops is := by
  simp only [Cfg.drawOk, Bool.and_eq_true, List.all_eq_true] at h
  obtain ⟨h1, h3, h2⟩ := h
  have mem_zip : ∀ {α : Type} (l : List α) (i : Nat) (x : α), l[i]? = some x → (x, i) ∈ l.zipIdx := by
    intro α l i x hx
    rw [List.mk_mem_zipIdx_iff_getElem?]; exact hx
  refine ⟨hlen, fun i o ho e he hb => ?_, fun x hx => by
    have := h3 x hx
    exact this, fun i j x y hij hx hy => ?_⟩
  · have := h1 (o, i) (mem_zip _ _ _ (by simpa using ho)) e he
    simpa [hb] using this
  · have := h2 (y, j) (mem_zip _ _ _ hy) (x, i) (mem_zip _ _ _ hx)
    simpa [hij] using this

/-- What is told of a store says no less than the store itself. -/
theorem One_tell {b i : Nat} {x : Ins} {go : Go4} (h : One C base (Cfg.tellI b is x i) i env tl mem nx go) : One C base x i env tl mem nx go := by
  obtain ⟨d, g, i0⟩ := x
  cases i0 with
  | st n a v =>
    simp only [Cfg.tellI] at h
    split at h
    · exact h
    · rename_i ps _
      have key : ∀ {ps : List Opd} {env tl : Env} {K : KD}, stepI C (base + i) (.sta n a v ps) env tl mem nx K → stepI C (base + i) (.st n a v) env tl mem nx K := by
        intro ps env tl K h
        obtain ⟨d, m, h1, h2⟩ := km_out h
        unfold staM at h1
        split at h1
        · exact km_mk h1 h2
        · simp at h1
      cases g with
      | none =>
        simp only [One] at h ⊢
        exact key h
      | some q =>
        obtain ⟨g, want⟩ := q
        simp only [One, gd] at h ⊢
        split at h
        · exact ⟨fun e => key (h.1 e), h.2⟩
        · exact h
        · exact h.elim
  | _ => exact h

theorem tell_get {ops : Array Oper} {i : Nat} : (Cfg.tell ops is)[i]? = (is[i]?).map fun y => Cfg.tellI ((Region.before ops).getD i 0) is y i := by
  simp [Cfg.tell, List.getElem?_map, List.getElem?_zipIdx]
  cases is[i]? <;> simp
theorem tell_length {ops : Array Oper} : (Cfg.tell ops is).length = is.length := by simp [Cfg.tell]

theorem unl_set {n i : Nat} {listed : Array Bool} (hi : i < n) (hsz : listed.size = n) (hl : listed.getD i true = false) : unl n (listed.setIfInBounds i true) < unl n listed := by
  unfold unl
  refine filter_lt _ i (by simpa using hi) (by simp [hl]) ?_ ?_
  · rw [getD_set (by omega)]; simp
  · intro j hj
    rw [getD_set (by omega)] at hj
    split at hj
    · simp at hj
    · exact hj

theorem unl_zero {n i : Nat} {listed : Array Bool} (h : unl n listed ≤ 0) (hi : i < n) : listed.getD i true = true := by
  unfold unl at h
  have h0 : (List.range n).filter (fun i => !listed.getD i true) = [] := List.eq_nil_of_length_eq_zero (by omega)
  have := List.filter_eq_nil_iff.1 h0 i (by simpa using hi)
  simpa using this

theorem getD_tf {listed : Array Bool} {i : Nat} (hi : i < listed.size) : listed.getD i true = listed.getD i false := by
  simp [Array.getD_eq_getD_getElem?, hi]

theorem closed_set {ops : Array Oper} {listed : Array Bool} {i : Nat} {o : Oper} (hsz : listed.size = ops.size) (ho : ops[i]? = some o) (hr : o.after.all (fun e => !Region.binds .any e || listed.getD e.on false) = true) (hc : Closed ops listed) : Closed ops (listed.setIfInBounds i true) := by
  have hi : i < ops.size := (Array.getElem?_eq_some_iff.1 ho).1
  intro j o' ho' hj m hm
  rw [getD_set (by omega)] at hj ⊢
  split
  · rfl
  · rename_i him
    by_cases hij : i = j
    · subst hij
      exact ready_before ho hc hr hm
    · simp only [hij, if_false] at hj
      exact hc j o' ho' hj m hm

/-- What is still to be done, in the text's order. -/
def todo (is : List Ins) (listed : Array Bool) (j n : Nat) : List (Nat × Ins) := (List.range' j n).filterMap fun i => if listed.getD i false then none else (is[i]?).map fun x => (i, x)

theorem todo_zip : ∀ (l : List Ins) (is : List Ins) (j : Nat) (listed : Array Bool), (∀ i, is[j + i]? = l[i]?) → (∀ i, listed.getD i false = false) → todo is listed j l.length = (l.zipIdx j).map fun p => (p.2, p.1)
  | [], _, _, _, _, _ => rfl
  | x :: l, is, j, listed, h, hl => by
    have h0 := h 0
    simp only [Nat.add_zero, List.getElem?_cons_zero] at h0
    have ih := todo_zip l is (j + 1) listed (fun i => by
      have := h (i + 1)
      rw [show j + (i + 1) = j + 1 + i by omega] at this
      simpa using this) hl
    unfold todo at ih ⊢
    simp only [hl, Bool.false_eq_true, if_false] at ih
    rw [List.length_cons, List.range'_succ, List.filterMap_cons]
    simp only [hl, h0, Option.map_some, Bool.false_eq_true, if_false, List.zipIdx_cons, List.map_cons]
    rw [ih]

theorem todo_split {listed : Array Bool} {i k : Nat} {x : Ins} (hi : i < k) (hl : listed.getD i false = false) (hx : is[i]? = some x) :
    todo is listed 0 k = todo is listed 0 i ++ (i, x) :: todo is listed (i + 1) (k - (i + 1)) := by
  unfold todo
  have e : List.range' 0 k = List.range' 0 i ++ i :: List.range' (i + 1) (k - (i + 1)) := by
    have e1 : i :: List.range' (i + 1) (k - (i + 1)) = List.range' i (k - i) := by
      rw [show k - i = (k - (i + 1)) + 1 by omega, List.range'_succ]
    rw [e1, show (List.range' i (k - i)) = List.range' (0 + 1 * i) (k - i) by simp, List.range'_append]
    congr 1; omega
  rw [e, List.filterMap_append, List.filterMap_cons]
  simp [hl, hx]

theorem filterMap_cong {α β : Type} {f g : α → Option β} : ∀ {l : List α}, (∀ x ∈ l, f x = g x) → l.filterMap f = l.filterMap g
  | [], _ => rfl
  | x :: l, h => by rw [List.filterMap_cons, List.filterMap_cons, h x (by simp), filterMap_cong fun y hy => h y (by simp [hy])]

theorem todo_set {listed : Array Bool} {i : Nat} (hi : i < listed.size) : ∀ (j n : Nat), (∀ m, j ≤ m → m < j + n → m ≠ i) → todo is (listed.setIfInBounds i true) j n = todo is listed j n := by
  intro j n h
  unfold todo
  refine filterMap_cong fun m hm => ?_
  rw [List.mem_range'_1] at hm
  have e : (listed.setIfInBounds i true).getD m false = listed.getD m false := by
    rw [getD_set hi]; exact if_neg fun e => h m hm.1 hm.2 e.symm
  rw [e]

theorem todo_mem {listed : Array Bool} {j n : Nat} {p : Nat × Ins} (h : p ∈ todo is listed j n) : j ≤ p.1 ∧ p.1 < j + n ∧ listed.getD p.1 false = false ∧ is[p.1]? = some p.2 := by
  unfold todo at h
  rw [List.mem_filterMap] at h
  obtain ⟨i, hi, h⟩ := h
  rw [List.mem_range'_1] at hi
  split at h
  · simp at h
  · rename_i hl
    rw [Option.map_eq_some_iff] at h
    obtain ⟨x, hx, rfl⟩ := h
    exact ⟨hi.1, hi.2, by simpa using hl, hx⟩

theorem any_run {ops : Array Oper} {K : Go4} {S0 : Nat → Prop} {φ0 : Locs} {mem0 : Mem} {w0 : World} {N : Nat} (hK : Inv K) (hN : N ≤ base) (his : ops.toList.mapM (C.ins ops) = some is) (hok : Okd C ops (Cfg.tell ops is))
    {Q : Exit → Act → World → Prop} (hQ : ∀ env tl mem nx S φ a w, K env tl mem nx → Here C S φ env tl mem nx a w → Ext S0 φ0 mem0 w0 S φ mem w → Grow N φ0 φ nx → Q .normal a w) :
    ∀ (fuel : Nat) (listed : Array Bool) (env tl : Env) (mem : Mem) (nx : Nat) (S : Nat → Prop) (φ : Locs) (a : Act) (w : World),
    listed.size = ops.size → unl ops.size listed ≤ fuel → Closed ops listed → runL C base (todo (Cfg.tell ops is) listed 0 ops.size) K env tl mem nx → Rooted (Cfg.roots (Cfg.tell ops is)) env tl → Here C S φ env tl mem nx a w → Ext S0 φ0 mem0 w0 S φ mem w → Grow N φ0 φ nx →
    (∀ i, i < ops.size → listed.getD i false = false → φ (base + i) = none) → base + ops.size ≤ nx → wpAny C.P .any ops Q fuel listed a w := by
  intro fuel
  have hend : ∀ (listed : Array Bool) (env tl : Env) (mem : Mem) (nx : Nat), listed.size = ops.size → Region.ready .any ops listed = [] → runL C base (todo (Cfg.tell ops is) listed 0 ops.size) K env tl mem nx → K env tl mem nx := by
    intro listed env tl mem nx hsz hall hr
    have : todo (Cfg.tell ops is) listed 0 ops.size = [] := by
      apply List.eq_nil_iff_forall_not_mem.2
      intro p hp
      obtain ⟨_, h2, h3, _⟩ := todo_mem hp
      have := ready_none hsz hok.edge hall p.1 (by omega)
      rw [h3] at this; simp at this
    rw [this] at hr; exact hr
  induction fuel with
  | zero =>
    intro listed env tl mem nx S φ a w hsz hun hcl hr hrt hh hx hgr hf hn
    have hall : Region.ready .any ops listed = [] := by
      cases h : Region.ready .any ops listed with
      | nil => rfl
      | cons i l =>
        obtain ⟨o, _, h1, h2, _⟩ := ready_mem (ops := ops) (listed := listed) (i := i) (by rw [h]; simp)
        rw [unl_zero hun h1] at h2; simp at h2
    exact ⟨hall, hQ _ _ _ _ _ _ _ _ (hend _ _ _ _ _ hsz hall hr) hh hx hgr⟩
  | succ fuel ih =>
    intro listed env tl mem nx S φ a w hsz hun hcl hr hrt hh hx hgr hf hn
    refine ⟨fun hall => hQ _ _ _ _ _ _ _ _ (hend _ _ _ _ _ hsz hall hr) hh hx hgr, fun i hi => ?_⟩
    obtain ⟨o, ho, h1, h2, h3⟩ := ready_mem hi
    rw [getD_tf (by omega)] at h2
    obtain ⟨x, hx'⟩ : ∃ x, (Cfg.tell ops is)[i]? = some x := ⟨_, List.getElem?_eq_getElem (by rw [hok.len]; exact h1)⟩
    obtain ⟨x0, hx0, hxt⟩ : ∃ x0, is[i]? = some x0 ∧ x = Cfg.tellI ((Region.before ops).getD i 0) is x0 i := by
      rw [tell_get] at hx'
      obtain ⟨x0, h1, h2⟩ := Option.map_eq_some_iff.1 hx'
      exact ⟨x0, h1, h2.symm⟩
    obtain ⟨o', ho', hins⟩ := mapM_get his i x0 hx0
    have : o' = o := by
      have e : ops.toList[i]? = some o := by simpa using ho
      rw [e] at ho'; exact (Option.some.inj ho').symm
    subst this
    rw [todo_split h1 h2 hx', runL_app] at hr
    simp only [runL] at hr
    have hfree := hf i h1 h2
    have hone := pass (Inv_runL hK _) _ _ _ _ _ (fun p hp => by
      obtain ⟨_, g2, g3, g4⟩ := todo_mem hp
      have hlt : p.1 < i := by omega
      refine ⟨(hok.apart p.1 i p.2 x hlt g4 hx').resolve_left fun hb => ?_, by omega, (hok.fit _ (List.mem_of_getElem? g4)).2⟩
      have := ready_before ho hcl h3 hb
      rw [g3] at this; simp at this) hrt (fun _ => by
      cases hl : look mem (base + i) with
      | none => rfl
      | some b =>
        obtain ⟨l, g1, _⟩ := hh.m.mem _ _ hl
        rw [hfree] at g1; simp at g1) (fun q hq d hd p hp e => by
      obtain ⟨_, g2, g3, g4⟩ := todo_mem hp
      have hp2 := hf p.1 (by omega) g3
      have hfit := (hok.fit x (List.mem_of_getElem? hx')).1 q hq
      have hrep : ∃ v, Rep w S φ d v := by
        cases q with
        | t s => exact ⟨_, hh.known.tl s d (by simpa [Cfg.fitO] using hfit) hd⟩
        | g s => exact ⟨_, hh.known.env s d (by simpa [Cfg.fitO] using hfit) hd⟩
        | c v => simp only [ro, Option.some.injEq] at hd; subst hd; simp [D.hd] at e
        | f v => simp only [ro, Option.some.injEq] at hd; subst hd; simp [D.hd] at e
      obtain ⟨v, hv⟩ := hrep
      cases d <;> simp only [D.hd, Option.some.injEq] at e <;> try simp at e
      all_goals
        subst e
        simp only [Rep] at hv
        obtain ⟨l, hl, _⟩ := hv
        rw [hp2] at hl; simp at hl) hr
    rw [← runL_app] at hone
    have hone := One_rooted (hok.fit x (List.mem_of_getElem? hx')).2 hrt hone
    rw [hxt] at hone
    have hone := One_tell hone
    refine wpOp_mono ?_ (one_sound (k := 0) ho hins hone hh hfree (by omega))
    rintro a' w' ⟨S', φ', env', tl', mem', nx', g1, g2, g3, g4, g5, g6⟩
    have hset : todo (Cfg.tell ops is) (listed.setIfInBounds i true) 0 ops.size = todo (Cfg.tell ops is) listed 0 i ++ todo (Cfg.tell ops is) listed (i + 1) (ops.size - (i + 1)) := by
      have e : ∀ (L : Array Bool), todo (Cfg.tell ops is) L 0 ops.size = todo (Cfg.tell ops is) L 0 i ++ (todo (Cfg.tell ops is) L i 1 ++ todo (Cfg.tell ops is) L (i + 1) (ops.size - (i + 1))) := by
        intro L
        unfold todo
        rw [← List.filterMap_append, ← List.filterMap_append]
        congr 1
        rw [show List.range' i 1 ++ List.range' (i + 1) (ops.size - (i + 1)) = List.range' i (ops.size - i) by
          rw [show i + 1 = i + 1 * 1 by omega, List.range'_append]; congr 1; omega]
        rw [show (List.range' i (ops.size - i)) = List.range' (0 + 1 * i) (ops.size - i) by simp, List.range'_append]
        congr 1; omega
      rw [e, todo_set (by omega) 0 i (by omega), todo_set (by omega) (i + 1) _ (by omega)]
      congr 1
      have : todo (Cfg.tell ops is) (listed.setIfInBounds i true) i 1 = [] := by
        unfold todo
        simp [getD_set (show i < listed.size by omega)]
      rw [this, List.nil_append]
    refine ih (listed.setIfInBounds i true) env' tl' mem' nx' S' φ' a' w' (by simpa using hsz) (by have := unl_set h1 hsz (by rw [getD_tf (by omega)]; exact h2); omega) (closed_set hsz ho h3 hcl) (by rw [hset]; exact g1.2) g1.1 g2 (hx.trans g4)
      (hgr.trans ⟨by omega, fun i hi hnn => g6 i (by omega) (by omega) hnn, g3.loc⟩) (fun m hm hml => ?_) (by omega)
    rw [getD_set (by omega)] at hml
    split at hml
    · simp at hml
    · exact g6 _ (by omega) (by omega) (hf m hm hml)

theorem draw_sound {rid : Nat} {ops : Array Oper} {K : Env → Env → Mem → Nat → Prop} (hmix : C.P.follows .mixedOrders = true) (his : ops.toList.mapM (C.ins ops) = some is) (hok : Cfg.drawOk C.gs ops (Cfg.tell ops is) = true) (h : run C nx K (Cfg.tell ops is) 0 env [] mem (nx + is.length))
    {N : Nat} (hN : N ≤ nx) (hh : Here C S φ env [] mem (nx + is.length) a w) (hfree : ∀ i, i < is.length → φ (nx + i) = none) : (Code.region rid ops true).wp C.P (Post C N S φ mem w (fun e s => e = .normal ∧ K s.env s.tl s.mem s.nx)) a w := by
  have hlen : is.length = ops.size := by rw [← mapM_length his]; simp
  have ho := okd_of (tell_length.trans hlen) hok
  refine wp_region_any hmix ?_
  obtain ⟨m1, m2, m3⟩ := MSim.of_heap (w := w) (w1 := { w with drawn := w.drawn + 1 }) rfl rfl rfl rfl hh.m
  have hk1 : Known C { w with drawn := w.drawn + 1 } S φ env [] a := ⟨fun j d hj hl => Rep.mono m2 _ _ (hh.known.env j d hj hl), fun j d hj hl => Rep.mono m2 _ _ (hh.known.tl j d hj hl)⟩
  have hf0 : ∀ i, (Array.replicate ops.size false).getD i false = false := by
    intro i
    simp only [Array.getD_eq_getD_getElem?, Array.getElem?_replicate]
    split <;> rfl
  have hK : Inv (fun e t m n => ∃ e2 t2 m2, Lk e e2 ∧ Lk t t2 ∧ Lk m m2 ∧ K e2 t2 m2 n) := fun e t m n e2 t2 m2 he ht hm ⟨e3, t3, m3, h1, h2, h3, h4⟩ => ⟨e3, t3, m3, he.symm.trans h1, ht.symm.trans h2, hm.symm.trans h3, h4⟩
  have hr := run_runL (K := fun e t m n => ∃ e2 t2 m2, Lk e e2 ∧ Lk t t2 ∧ Lk m m2 ∧ K e2 t2 m2 n) (Cfg.tell ops is) 0 env [] mem (nx + is.length) (run_mono (fun e t m n h => ⟨e, t, m, Lk.refl _, Lk.refl _, Lk.refl _, h⟩) (Cfg.tell ops is) 0 _ _ _ _ h)
  rw [← todo_zip (Cfg.tell ops is) (Cfg.tell ops is) 0 (Array.replicate ops.size false) (fun i => by simp) hf0, tell_length, hlen] at hr
  refine any_run hK hN his ho (fun env tl mem nx S φ a w ⟨e2, t2, m2, h1, h2, h3, h4⟩ hh hx hg => ?_) ops.size (Array.replicate ops.size false) env [] mem (nx + ops.size) S φ a _ (by simp) ?_ ?_ hr Rooted_nil ⟨hk1, hh.size, hh.defers, by rw [← hlen]; exact m1⟩ m3 (Grow.refl (by omega)) (fun i hi _ => hfree i (by omega)) (Nat.le_refl _)
  · unfold unl
    exact Nat.le_trans (List.length_filter_le _ _) (by simp)
  · intro i o _ hi
    rw [hf0] at hi; simp at hi
  · exact ⟨⟨e2, t2, m2, nx⟩, S, φ, ⟨rfl, h4⟩, ⟨hh.size, hh.defers, fun j d hj hl => hh.known.env j d hj (by rw [h1]; exact hl), fun j d hj hl => hh.known.tl j d hj (by rw [h2]; exact hl), MSim_lk h3 hh.m⟩,
      ⟨hx.sub, hx.keep, hx.size, fun b hb ⟨i, blk, l, g1, g2⟩ => hx.own b hb ⟨i, blk, l, by rw [h3]; exact g1, g2⟩, hx.news, hx.os, hx.output, hx.tape⟩, hg⟩
end
end Go.Fx

/-
  A region that draws its order: whatever is drawn, the state behind it is the one that the text's order gives.
-/
import Derived.Test.YtaiklblnfebdfaaX13
set_option linter.all false
namespace Go.Fx
open Go
section
variable {C : Cfg} {w w' : World} {S S' : Nat → Prop} {φ φ' : Locs} {a : Act} {env tl env2 tl2 : Env} {mem mem2 : Mem} {nx nx2 id : Nat}

theorem mapM_length {α β : Type} {f : α → Option β} : ∀ {l : List α} {r : List β}, l.mapM f = some r → l.length = r.length
  | [], r, h => by simp only [List.mapM_nil, Option.pure_def, Option.some.injEq] at h; subst h; rfl
  | x :: l, r, h => by
    simp only [List.mapM_cons, Option.bind_eq_bind, Option.bind_eq_some_iff, Option.pure_def, Option.some.injEq] at h
    obtain ⟨y, _, r', hr, rfl⟩ := h
    simp [mapM_length hr]

theorem mapM_get {α β : Type} {f : α → Option β} : ∀ {l : List α} {r : List β}, l.mapM f = some r → ∀ (i : Nat) (x : β), r[i]? = some x → ∃ y, l[i]? = some y ∧ f y = some x
  | [], r, h, i, x, hx => by simp only [List.mapM_nil, Option.pure_def, Option.some.injEq] at h; subst h; simp at hx
  | y :: l, r, h, i, x, hx => by
    simp only [List.mapM_cons, Option.bind_eq_bind, Option.bind_eq_some_iff, Option.pure_def, Option.some.injEq] at h
    obtain ⟨z, hz, r', hr, rfl⟩ := h
    cases i with
    | zero => simp only [List.getElem?_cons_zero, Option.some.injEq] at hx; subst hx; exact ⟨y, rfl, hz⟩
    | succ i => simp only [List.getElem?_cons_succ] at hx ⊢; exact mapM_get hr i x hx

/-! #### What an operation hangs on -/
theorem ro_congr {x : Opd} (h : ∀ s ∈ Cfg.seesO x, look env s = look env2 s ∧ look tl s = look tl2 s) : ro tl env x = ro tl2 env2 x := by
  cases x with
  | t j => exact (h j (by simp [Cfg.seesO])).2
  | g j => exact (h j (by simp [Cfg.seesO])).1
  | c v => rfl
  | f i => rfl

theorem ros_congr : ∀ {xs : List Opd}, (∀ s ∈ xs.flatMap Cfg.seesO, look env s = look env2 s ∧ look tl s = look tl2 s) → ros tl env xs = ros tl2 env2 xs
  | [], _ => rfl
  | x :: xs, h => by
    simp only [ros]
    rw [ro_congr (x := x) fun s hs => h s (by simp [hs]), ros_congr (xs := xs) fun s hs => h s (by simp only [List.flatMap_cons, List.mem_append]; exact .inr hs)]

theorem rps_congr : ∀ {ps : List (Nat × Nat × Opd)}, (∀ s ∈ ps.flatMap (fun p => Cfg.seesO p.2.2), look env s = look env2 s ∧ look tl s = look tl2 s) → rps tl env ps = rps tl2 env2 ps
  | [], _ => rfl
  | (o, n, x) :: ps, h => by
    simp only [rps]
    rw [ro_congr (x := x) fun s hs => h s (by simp [hs]), rps_congr (ps := ps) fun s hs => h s (by simp only [List.flatMap_cons, List.mem_append]; exact .inr hs)]

def Sub (m m2 : Mem) : Prop := ∀ i b, look m i = some b → look m2 i = some b
/-- The block that d leads into is there still. -/
def SubD (d : D) (m m2 : Mem) : Prop := ∀ i, d.hd = some i → ∀ b, look m i = some b → look m2 i = some b
theorem Sub.at {m m2 : Mem} (h : Sub m m2) (d : D) : SubD d m m2 := fun i _ b hb => h i b hb

theorem curv_sub {i v : Nat} (h : ∀ b, look mem i = some b → look mem2 i = some b) (hc : curv mem i v = true) : curv mem2 i v = true := by
  unfold curv at hc ⊢
  split at hc
  · rename_i hl; rw [h _ hl]; exact hc
  · simp at hc
theorem cur_sub {i v k : Nat} (h : ∀ b, look mem i = some b → look mem2 i = some b) (hc : cur mem i v k = true) : cur mem2 i v k = true := by
  unfold cur at hc ⊢
  split at hc
  · rename_i hl; rw [h _ hl]; exact hc
  · simp at hc
theorem iaaD_sub {len k : Nat} {x y d : D} (h : SubD x mem mem2) (hc : iaaD mem len k x y = some d) (hf : ∀ {n : Nat} {d : D}, faD mem n x = some d → faD mem2 n x = some d) : iaaD mem2 len k x y = some d := by
  unfold iaaD at hc ⊢
  split at hc
  · simp only [Option.ite_none_right_eq_some] at hc ⊢
    exact ⟨hc.1, hf hc.2⟩
  · simp at hc
theorem lnmD_sub {x d : D} (h : SubD x mem mem2) (hc : lnmD mem x = some d) : lnmD mem2 x = some d := by
  unfold lnmD at hc ⊢
  split at hc
  · split at hc
    · rename_i hl; rw [h _ rfl _ hl]; exact hc
    · simp at hc
  · exact hc
  · simp at hc
theorem lkD_sub {kd : Option IntKind} {z : Value} {two : Bool} {x y d : D} (h : SubD x mem mem2) (hc : lkD mem kd z two x y = some d) : lkD mem2 kd z two x y = some d := by
  have key : ∀ es, mapOf mem kd x = some es → mapOf mem2 kd x = some es := by
    intro es he
    unfold mapOf at he ⊢
    split at he
    · split at he
      · rename_i hl; rw [h _ rfl _ hl]; exact he
      · simp at he
    · exact he
    · simp at he
  unfold lkD at hc ⊢
  split at hc
  · rename_i hes
    rw [key _ hes]; exact hc
  · simp at hc
theorem rdc_sub {n : Nat} {x : D} {cs : List D} (h : SubD x mem mem2) (hc : rdc mem n x = some cs) : rdc mem2 n x = some cs := by
  cases x with
  | opt i off =>
    simp only [rdc] at hc ⊢
    split at hc
    · rename_i hl; rw [h _ rfl _ hl]; exact hc
    · simp at hc
  | oel i v ix off =>
    simp only [rdc] at hc ⊢
    split at hc
    · rename_i hl; rw [h _ rfl _ hl]; exact hc
    · simp at hc
  | _ => exact hc
theorem ldD_sub {g : Bool} {n : Nat} {x d : D} (h : SubD x mem mem2) (hc : ldD mem g n x = some d) : ldD mem2 g n x = some d := by
  unfold ldD at hc ⊢
  split at hc
  · rename_i hl; rw [rdc_sub h hl]; exact hc
  · simp at hc
theorem faD_sub {n : Nat} {x d : D} (h : SubD x mem mem2) (hc : faD mem n x = some d) : faD mem2 n x = some d := by
  cases x with
  | oel i v ix off =>
    simp only [faD, Option.ite_none_right_eq_some, Option.some.injEq] at hc ⊢
    exact ⟨curv_sub (h _ rfl) hc.1, hc.2⟩
  | _ => exact hc
theorem iaD_sub {k : Nat} {x y d : D} (h : SubD x mem mem2) (hc : iaD mem k x y = some d) : iaD mem2 k x y = some d := by
  unfold iaD at hc ⊢
  split at hc
  · exact hc
  · simp only [Option.ite_none_right_eq_some] at hc ⊢
    exact ⟨cur_sub (h _ rfl) hc.1, hc.2⟩
  · simp at hc
theorem lenD_sub {s : Bool} {x d : D} (h : SubD x mem mem2) (hc : lenD mem s x = some d) : lenD mem2 s x = some d := by
  cases x with
  | osl i v lo n =>
    simp only [lenD] at hc ⊢
    split at hc
    · simp at hc
    · rename_i hn
      simp only [Bool.or_eq_true, Bool.not_eq_true', not_or, Bool.not_eq_true, Bool.not_eq_false] at hn
      rw [if_neg (by simp [hn.1, curv_sub (h _ rfl) hn.2])]; exact hc
  | pl v =>
    cases v with
    | slice p n c => cases p <;> cases n <;> cases c <;> exact hc
    | _ => exact hc
  | _ => exact hc
theorem slsD_sub {s : Bool} {k : Nat} {x d : D} {lo hi : Option D} (h : SubD x mem mem2) (hc : slsD mem s k x lo hi = some d) : slsD mem2 s k x lo hi = some d := by
  cases x with
  | osl i v o n =>
    simp only [slsD] at hc ⊢
    split at hc
    · simp at hc
    · rename_i hn
      simp only [Bool.or_eq_true, Bool.not_eq_true', not_or, Bool.not_eq_true, Bool.not_eq_false] at hn
      rw [if_neg (by simp [hn.1, curv_sub (h _ rfl) hn.2])]; exact hc
  | pl v =>
    cases v with
    | slice p n c => cases p <;> cases n <;> cases c <;> exact hc
    | _ => exact hc
  | _ => exact hc
theorem els_sub {k : Nat} {x : D} {es : List (List D)} (h : SubD x mem mem2) (hc : els mem k x = some es) : els mem2 k x = some es := by
  cases x with
  | osl i v lo n =>
    simp only [els] at hc ⊢
    split at hc
    · rename_i hl; rw [h _ rfl _ hl]; exact hc
    · simp at hc
  | pl v =>
    cases v with
    | slice p n c => cases p <;> cases n <;> cases c <;> exact hc
    | _ => exact hc
  | _ => exact hc

/-- Just this outcome. -/
def Sg (d : D) (m : Mem) (n : Nat) : KD := fun d' m' n' => d' = d ∧ m' = m ∧ n' = n

theorem k0_mk {o : Option D} {d : D} {K : KD} (h : o = some d) (hk : K d mem nx) : k0 o mem nx K := by subst h; exact hk
theorem k1_mk {o : Option D} {g : D → Option D} {x d : D} {K : KD} (h : o = some x) (h2 : g x = some d) (hk : K d mem nx) : k1 o g mem nx K := by subst h; exact k0_mk h2 hk
theorem k2_mk {o p : Option D} {g : D → D → Option D} {x y d : D} {K : KD} (h : o = some x) (h1 : p = some y) (h2 : g x y = some d) (hk : K d mem nx) : k2 o p g mem nx K := by subst h h1; exact k0_mk h2 hk
theorem kl_mk {α : Type} {o : Option α} {g : α → Option D} {x : α} {d : D} {K : KD} (h : o = some x) (h2 : g x = some d) (hk : K d mem nx) : kl o g mem nx K := by subst h; exact k0_mk h2 hk
theorem km_mk {o : Option (D × Mem)} {d : D} {m : Mem} {K : KD} (h : o = some (d, m)) (hk : K d m nx) : km o nx K := by subst h; exact hk

theorem pick_free {a b : Option D} {c d : D} (h : pickD a b c = some d) {a' b' : Option D} (ha : a = a') (hb : b = b') : pickD a' b' c = some d := by subst ha hb; exact h

/-- A free operation has one outcome; it hangs on what it reads alone. -/
theorem free_one {i : I} {K : KD} (hf : i.free = true) (h : stepI C id i env tl mem nx K) : ∃ d ext, K d (ext ++ mem) nx ∧ (ext = [] ∨ (∃ b, ext = [(id, b)]) ∧ Cfg.makesI i = true) ∧
    ∀ env2 tl2 mem2 nx2, (∀ s ∈ Cfg.seesI i, look env s = look env2 s ∧ look tl s = look tl2 s) → (∀ p ∈ Cfg.lookO i, ∀ d, ro tl env p = some d → SubD d mem mem2) → stepI C id i env2 tl2 mem2 nx2 (Sg d (ext ++ mem2) nx2) := by
  cases i with
  | mv x =>
    obtain ⟨d, h1, h2⟩ := k0_out h
    exact ⟨d, [], h2, .inl rfl, fun e t m n hs _ => k0_mk (by rw [← ro_congr hs]; exact h1) ⟨rfl, rfl, rfl⟩⟩
  | pick c x y =>
    obtain ⟨d, r, h1, h2, h3⟩ := k1_out h
    refine ⟨r, [], h3, .inl rfl, fun e t m n hs _ => k1_mk (x := d) (d := r) ?_ (pick_free h2 ?_ ?_) ⟨rfl, rfl, rfl⟩⟩
    · rw [← ro_congr (x := c) fun s h => hs s (by simp [Cfg.seesI, h])]; exact h1
    · exact ro_congr fun s h => hs s (by simp [Cfg.seesI, h])
    · exact ro_congr fun s h => hs s (by simp [Cfg.seesI, h])
  | bld z ps =>
    obtain ⟨d, r, h1, h2, h3⟩ := kl_out h
    exact ⟨r, [], h3, .inl rfl, fun e t m n hs _ => kl_mk (by rw [← rps_congr hs]; exact h1) h2 ⟨rfl, rfl, rfl⟩⟩
  | bsl k len z ps =>
    obtain ⟨d, r, h1, h2, h3⟩ := kl_out h
    exact ⟨r, [], h3, .inl rfl, fun e t m n hs _ => kl_mk (by rw [← rps_congr hs]; exact h1) h2 ⟨rfl, rfl, rfl⟩⟩
  | z0 => exact ⟨.zs, [], h, .inl rfl, fun e t m n hs _ => ⟨rfl, rfl, rfl⟩⟩
  | ld g k x =>
    obtain ⟨d, r, h1, h2, h3⟩ := k1_out h
    exact ⟨r, [], h3, .inl rfl, fun e t m n hs hm => k1_mk (by rw [← ro_congr hs]; exact h1) (ldD_sub (hm _ (by simp [Cfg.lookO]) _ h1) h2) ⟨rfl, rfl, rfl⟩⟩
  | chk x =>
    obtain ⟨d, r, h1, h2, h3⟩ := k1_out h
    exact ⟨r, [], h3, .inl rfl, fun e t m n hs hm => k1_mk (by rw [← ro_congr hs]; exact h1) h2 ⟨rfl, rfl, rfl⟩⟩
  | bin op ty x y =>
    obtain ⟨d, d2, r, h1, h2, h3, h4⟩ := k2_out h
    refine ⟨r, [], h4, .inl rfl, fun e t m n hs hm => k2_mk (x := d) (y := d2) ?_ ?_ h3 ⟨rfl, rfl, rfl⟩⟩
    · rw [← ro_congr (x := x) fun s h => hs s (by simp [Cfg.seesI, h])]; exact h1
    · rw [← ro_congr (x := y) fun s h => hs s (by simp [Cfg.seesI, h])]; exact h2
  | un op x =>
    obtain ⟨d, r, h1, h2, h3⟩ := k1_out h
    exact ⟨r, [], h3, .inl rfl, fun e t m n hs hm => k1_mk (by rw [← ro_congr hs]; exact h1) h2 ⟨rfl, rfl, rfl⟩⟩
  | cv s0 d0 x =>
    obtain ⟨d, r, h1, h2, h3⟩ := k1_out h
    exact ⟨r, [], h3, .inl rfl, fun e t m n hs hm => k1_mk (by rw [← ro_congr hs]; exact h1) h2 ⟨rfl, rfl, rfl⟩⟩
  | fa off x =>
    obtain ⟨d, r, h1, h2, h3⟩ := k1_out h
    exact ⟨r, [], h3, .inl rfl, fun e t m n hs hm => k1_mk (by rw [← ro_congr hs]; exact h1) (faD_sub (hm _ (by simp [Cfg.lookO]) _ h1) h2) ⟨rfl, rfl, rfl⟩⟩
  | fld g k off x =>
    obtain ⟨d, r, h1, h2, h3⟩ := k1_out h
    exact ⟨r, [], h3, .inl rfl, fun e t m n hs hm => k1_mk (by rw [← ro_congr hs]; exact h1) h2 ⟨rfl, rfl, rfl⟩⟩
  | ia k x y =>
    obtain ⟨d, d2, r, h1, h2, h3, h4⟩ := k2_out h
    refine ⟨r, [], h4, .inl rfl, fun e t m n hs hm => k2_mk (x := d) (y := d2) ?_ ?_ (iaD_sub (hm _ (by simp [Cfg.lookO]) _ h1) h3) ⟨rfl, rfl, rfl⟩⟩
    · rw [← ro_congr (x := x) fun s h => hs s (by simp [Cfg.seesI, h])]; exact h1
    · rw [← ro_congr (x := y) fun s h => hs s (by simp [Cfg.seesI, h])]; exact h2
  | ext j x =>
    obtain ⟨d, r, h1, h2, h3⟩ := k1_out h
    exact ⟨r, [], h3, .inl rfl, fun e t m n hs hm => k1_mk (by rw [← ro_congr hs]; exact h1) h2 ⟨rfl, rfl, rfl⟩⟩
  | len s0 x =>
    obtain ⟨d, r, h1, h2, h3⟩ := k1_out h
    exact ⟨r, [], h3, .inl rfl, fun e t m n hs hm => k1_mk (by rw [← ro_congr hs]; exact h1) (lenD_sub (hm _ (by simp [Cfg.lookO]) _ h1) h2) ⟨rfl, rfl, rfl⟩⟩
  | bi b xs =>
    obtain ⟨d, r, h1, h2, h3⟩ := kl_out h
    exact ⟨r, [], h3, .inl rfl, fun e t m n hs _ => kl_mk (by rw [← ros_congr hs]; exact h1) h2 ⟨rfl, rfl, rfl⟩⟩
  | sls s0 k x lo hi =>
    obtain ⟨d, h1, h2⟩ := k0_out h
    refine ⟨d, [], h2, .inl rfl, fun e t m n hs hm => k0_mk ?_ ⟨rfl, rfl, rfl⟩⟩
    have e1 : ro tl env x = ro t e x := ro_congr fun s h => hs s (by simp [Cfg.seesI, h])
    have e2 : roo tl env lo = roo t e lo := by
      cases lo with
      | none => rfl
      | some l => simp only [roo]; rw [ro_congr (x := l) fun s h => hs s (by simp [Cfg.seesI, h])]
    have e3 : roo tl env hi = roo t e hi := by
      cases hi with
      | none => rfl
      | some l => simp only [roo]; rw [ro_congr (x := l) fun s h => hs s (by simp [Cfg.seesI, h])]
    rw [← e1, ← e2, ← e3]
    unfold slsO at h1 ⊢
    split at h1
    · rename_i h4 _ _
      exact slsD_sub (hm x (by simp [Cfg.lookO]) _ h4) h1
    · simp at h1
  | mkf f xs =>
    obtain ⟨d, r, h1, h2, h3⟩ := kl_out h
    exact ⟨r, [], h3, .inl rfl, fun e t m n hs _ => kl_mk (by rw [← ros_congr hs]; exact h1) h2 ⟨rfl, rfl, rfl⟩⟩
  | bxi x =>
    obtain ⟨d, r, h1, h2, h3⟩ := k1_out h
    exact ⟨r, [], h3, .inl rfl, fun e t m n hs hm => k1_mk (by rw [← ro_congr hs]; exact h1) h2 ⟨rfl, rfl, rfl⟩⟩
  | mki k bytes z x =>
    obtain ⟨d, r, h1, h2, h3⟩ := k1_out h
    exact ⟨r, [], h3, .inl rfl, fun e t m n hs hm => k1_mk (by rw [← ro_congr hs]; exact h1) h2 ⟨rfl, rfl, rfl⟩⟩
  | pc f xs =>
    obtain ⟨g, caps, ys, r, h1, h2, h3, h4, h5⟩ := pcK_out h
    refine ⟨r, [], h5, .inl rfl, fun e t m n hs _ => ?_⟩
    show pcK C.P (ro t e f) (ros t e xs) m n _
    rw [← ro_congr (x := f) fun s h => hs s (by simp [Cfg.seesI, h]), ← ros_congr (xs := xs) fun s h => hs s (by simp only [Cfg.seesI, List.mem_append]; exact .inr h), h1, h2]
    exact ⟨r, h3, h4, rfl, rfl, rfl⟩
  | al z => exact ⟨_, [(id, .box (z.map .pl))], h, .inr ⟨⟨_, rfl⟩, rfl⟩, fun e t m n hs _ => ⟨rfl, rfl, rfl⟩⟩
  | bx x =>
    obtain ⟨d, m', h1, h2⟩ := km_out h
    cases hd : ro tl env x with
    | none => simp [hd, bxM] at h1
    | some dd =>
      rw [hd] at h1
      simp only [bxM, Option.ite_none_right_eq_some, Option.some.injEq, Prod.mk.injEq] at h1
      obtain ⟨h3, rfl, rfl⟩ := h1
      refine ⟨_, [(id, .box dd.cells)], h2, .inr ⟨⟨_, rfl⟩, rfl⟩, fun e t m n hs _ => km_mk (d := .opt id 0) (m := (id, .box dd.cells) :: m) ?_ ⟨rfl, rfl, rfl⟩⟩
      rw [← ro_congr (x := x) hs, hd]; simp [bxM, h3]
  | bso k len z ps =>
    obtain ⟨d, m', h1, h2⟩ := km_out h
    cases hd : rps tl env ps with
    | none => simp [hd, bsoM] at h1
    | some dd =>
      rw [hd] at h1
      simp only [bsoM] at h1
      split at h1
      · rename_i es hes
        simp only [Option.some.injEq, Prod.mk.injEq] at h1
        obtain ⟨rfl, rfl⟩ := h1
        refine ⟨_, [(id, .arr 0 k es)], h2, .inr ⟨⟨_, rfl⟩, rfl⟩, fun e t m n hs _ => km_mk (d := .osl id 0 0 len) (m := (id, .arr 0 k es) :: m) ?_ ⟨rfl, rfl, rfl⟩⟩
        rw [← rps_congr (ps := ps) hs, hd]; simp [bsoM, hes]
      · simp at h1
  | mks k bytes z x =>
    obtain ⟨d, m', h1, h2⟩ := km_out h
    unfold mksM at h1
    split at h1
    · rename_i n hro
      simp only [Option.ite_none_right_eq_some, Option.some.injEq, Prod.mk.injEq] at h1
      obtain ⟨h3, rfl, rfl⟩ := h1
      refine ⟨_, [(id, .arr 0 k (List.replicate n.toNat (z.map .pl)))], h2, .inr ⟨⟨_, rfl⟩, rfl⟩, fun e t m n' hs _ => km_mk (d := .osl id 0 0 n.toNat) (m := (id, .arr 0 k (List.replicate n.toNat (z.map .pl))) :: m) ?_ ⟨rfl, rfl, rfl⟩⟩
      rw [← ro_congr (x := x) hs, hro]; simp only [mksM, h3, and_self, if_true]
    · simp at h1
  | apn k bytes z x y =>
    obtain ⟨d, m', h1, h2⟩ := km_out h
    cases hdx : ro tl env x with
    | none => simp [hdx, apnM] at h1
    | some dx =>
      cases hdy : ro tl env y with
      | none => simp [hdx, hdy, apnM] at h1
      | some dy =>
        rw [hdx, hdy] at h1
        simp only [apnM, Option.ite_none_right_eq_some] at h1
        obtain ⟨h3, h1⟩ := h1
        split at h1
        · rename_i es hes
          simp only [Option.ite_none_right_eq_some, Option.some.injEq, Prod.mk.injEq] at h1
          obtain ⟨h4, rfl, rfl⟩ := h1
          refine ⟨_, [(id, .arr 0 k es)], h2, .inr ⟨⟨_, rfl⟩, rfl⟩, fun e t m n hs hm => km_mk (d := .osl id 0 0 es.length) (m := (id, .arr 0 k es) :: m) ?_ ⟨rfl, rfl, rfl⟩⟩
          rw [← ro_congr (x := x) fun s h => hs s (by simp [Cfg.seesI, h]), ← ro_congr (x := y) fun s h => hs s (by simp [Cfg.seesI, h]), hdx, hdy]
          simp only [apnM, h3, if_true, els_sub (hm _ (by simp [Cfg.lookO]) _ hdy) hes, h4]
        · simp at h1
  | st _ _ _ => simp [I.free] at hf
  | sta _ _ _ _ => simp [I.free] at hf
  | app _ _ _ _ _ => simp [I.free] at hf
  | cl _ _ => simp [I.free] at hf
  | iaa len k x y =>
    obtain ⟨d, d2, r, h1, h2, h3, h4⟩ := k2_out h
    refine ⟨r, [], h4, .inl rfl, fun e t m n hs hm => k2_mk (x := d) (y := d2) ?_ ?_ (iaaD_sub (hm _ (by simp [Cfg.lookO]) _ h1) h3 (faD_sub (hm _ (by simp [Cfg.lookO]) _ h1))) ⟨rfl, rfl, rfl⟩⟩
    · rw [← ro_congr (x := x) fun s h => hs s (by simp [Cfg.seesI, h])]; exact h1
    · rw [← ro_congr (x := y) fun s h => hs s (by simp [Cfg.seesI, h])]; exact h2
  | ixs x y =>
    obtain ⟨d, d2, r, h1, h2, h3, h4⟩ := k2_out h
    refine ⟨r, [], h4, .inl rfl, fun e t m n hs hm => k2_mk (x := d) (y := d2) ?_ ?_ h3 ⟨rfl, rfl, rfl⟩⟩
    · rw [← ro_congr (x := x) fun s h => hs s (by simp [Cfg.seesI, h])]; exact h1
    · rw [← ro_congr (x := y) fun s h => hs s (by simp [Cfg.seesI, h])]; exact h2
  | lk kd z two x y =>
    obtain ⟨d, d2, r, h1, h2, h3, h4⟩ := k2_out h
    refine ⟨r, [], h4, .inl rfl, fun e t m n hs hm => k2_mk (x := d) (y := d2) ?_ ?_ (lkD_sub (hm _ (by simp [Cfg.lookO]) _ h1) h3) ⟨rfl, rfl, rfl⟩⟩
    · rw [← ro_congr (x := x) fun s h => hs s (by simp [Cfg.seesI, h])]; exact h1
    · rw [← ro_congr (x := y) fun s h => hs s (by simp [Cfg.seesI, h])]; exact h2
  | lnm x =>
    obtain ⟨d, r, h1, h2, h3⟩ := k1_out h
    exact ⟨r, [], h3, .inl rfl, fun e t m n hs hm => k1_mk (by rw [← ro_congr hs]; exact h1) (lnmD_sub (hm _ (by simp [Cfg.lookO]) _ h1) h2) ⟨rfl, rfl, rfl⟩⟩
  | mkm => exact ⟨_, [(id, .map [])], h, .inr ⟨⟨_, rfl⟩, rfl⟩, fun e t m n hs _ => ⟨rfl, rfl, rfl⟩⟩
  | mup _ _ _ _ => simp [I.free] at hf

theorem k0_mono {o : Option D} {K K' : KD} (h : k0 o mem nx K) (hk : ∀ d m n, K d m n → K' d m n) : k0 o mem nx K' := by
  obtain ⟨d, h1, h2⟩ := k0_out h; exact k0_mk h1 (hk _ _ _ h2)
theorem k1_mono {o : Option D} {g : D → Option D} {K K' : KD} (h : k1 o g mem nx K) (hk : ∀ d m n, K d m n → K' d m n) : k1 o g mem nx K' := by
  obtain ⟨x, d, h1, h2, h3⟩ := k1_out h; exact k1_mk h1 h2 (hk _ _ _ h3)
theorem k2_mono {o p : Option D} {g : D → D → Option D} {K K' : KD} (h : k2 o p g mem nx K) (hk : ∀ d m n, K d m n → K' d m n) : k2 o p g mem nx K' := by
  obtain ⟨x, y, d, h1, h2, h3, h4⟩ := k2_out h; exact k2_mk h1 h2 h3 (hk _ _ _ h4)
theorem kl_mono {α : Type} {o : Option α} {g : α → Option D} {K K' : KD} (h : kl o g mem nx K) (hk : ∀ d m n, K d m n → K' d m n) : kl o g mem nx K' := by
  obtain ⟨x, d, h1, h2, h3⟩ := kl_out h; exact kl_mk h1 h2 (hk _ _ _ h3)
theorem km_mono {o : Option (D × Mem)} {K K' : KD} (h : km o nx K) (hk : ∀ d m n, K d m n → K' d m n) : km o nx K' := by
  obtain ⟨d, m, h1, h2⟩ := km_out h; exact km_mk h1 (hk _ _ _ h2)
theorem CallT_mono {P : Program} {f : FuncId} {xs : List D} {K K' : KD} (h : CallT P f xs mem nx K) (hk : ∀ d m n, K d m n → K' d m n) : CallT P f xs mem nx K' :=
  ⟨h.1, fun S φ w ys h1 h2 => (h.2 S φ w ys h1 h2).mono fun e w' ⟨v, d, m', n', S', φ', g1, g2, g3⟩ => ⟨v, d, m', n', S', φ', g1, hk _ _ _ g2, g3⟩⟩

theorem stepI_mono {i : I} {K K' : KD} (h : stepI C id i env tl mem nx K) (hk : ∀ d m n, K d m n → K' d m n) : stepI C id i env tl mem nx K' := by
  cases i with
  | pc f xs =>
    obtain ⟨g, caps, ys, r, h1, h2, h3, h4, h5⟩ := pcK_out h
    show pcK C.P _ _ _ _ _
    rw [h1, h2]; exact ⟨r, h3, h4, hk _ _ _ h5⟩
  | cl f xs =>
    obtain ⟨g, caps, ys, h1, h2, h3⟩ := clK_out h
    show clK C.P _ _ _ _ _
    rw [h1, h2]; exact CallT_mono h3 hk
  | z0 => exact hk _ _ _ h
  | al z => exact hk _ _ _ h
  | mv _ => exact k0_mono h hk
  | sls _ _ _ _ _ => exact k0_mono h hk
  | pick _ _ _ => exact k1_mono h hk
  | ld _ _ _ => exact k1_mono h hk
  | chk _ => exact k1_mono h hk
  | un _ _ => exact k1_mono h hk
  | cv _ _ _ => exact k1_mono h hk
  | fa _ _ => exact k1_mono h hk
  | fld _ _ _ _ => exact k1_mono h hk
  | ext _ _ => exact k1_mono h hk
  | len _ _ => exact k1_mono h hk
  | bxi _ => exact k1_mono h hk
  | mki _ _ _ _ => exact k1_mono h hk
  | bin _ _ _ _ => exact k2_mono h hk
  | ia _ _ _ => exact k2_mono h hk
  | bld _ _ => exact kl_mono h hk
  | bsl _ _ _ _ => exact kl_mono h hk
  | bi _ _ => exact kl_mono h hk
  | mkf _ _ => exact kl_mono h hk
  | bx _ => exact km_mono h hk
  | bso _ _ _ _ => exact km_mono h hk
  | mks _ _ _ _ => exact km_mono h hk
  | apn _ _ _ _ _ => exact km_mono h hk
  | st _ _ _ => exact km_mono h hk
  | sta _ _ _ _ => exact km_mono h hk
  | app _ _ _ _ _ => exact km_mono h hk
  | iaa _ _ _ _ => exact k2_mono h hk
  | ixs _ _ => exact k2_mono h hk
  | lk _ _ _ _ _ => exact k2_mono h hk
  | lnm _ => exact k1_mono h hk
  | mkm => exact hk _ _ _ h
  | mup _ _ _ _ => exact km_mono h hk

/-! #### One operation's outcome laid down -/
structure Oc where
  d : D
  ext : Mem
instance : Inhabited Oc := ⟨⟨.top, []⟩⟩

def putE : Dst → D → Env → Env
  | .g j, v, e => upd e j v
  | _, _, e => e
def putT : Dst → D → Env → Env
  | .t j, v, e => (j, v) :: e
  | _, _, e => e

theorem nextK_put {d : Dst} {v : D} {go : Env → Env → Mem → Nat → Prop} : nextK d env tl go v mem nx = go (putE d v env) (putT d v tl) mem nx := by
  cases d <;> rfl

theorem upd_same {α : Type} (j : Nat) (d : α) : ∀ (e : List (Nat × α)), look e j = some d → upd e j d = e
  | [], _ => rfl
  | (k, x) :: e, h => by
    simp only [look] at h
    simp only [upd]
    by_cases hk : k = j
    · simp only [hk, if_true, Option.some.injEq] at h ⊢; rw [h]
    · simp only [hk, if_false] at h ⊢; rw [upd_same j d e h]

theorem set_same {g : Opd} {b : Bool} (h : ro tl env g = some (.pl (.bool b))) : setE b env g = env ∧ setT b tl g = tl := by
  cases g with
  | t j => exact ⟨rfl, upd_same j _ tl h⟩
  | g j => exact ⟨upd_same j _ env h, rfl⟩
  | _ => exact ⟨rfl, rfl⟩

theorem one_free {base : Nat} {x : Ins} {j : Nat} {go : Env → Env → Mem → Nat → Prop} (hf : x.i.free = true) (h : One C base x j env tl mem nx go) :
    ∃ oc : Oc, go (putE x.dst oc.d env) (putT x.dst oc.d tl) (oc.ext ++ mem) nx ∧ (oc.ext = [] ∨ (∃ b, oc.ext = [(base + j, b)]) ∧ Cfg.makesI x.i = true) ∧
    ∀ env2 tl2 mem2 nx2 (go2 : Env → Env → Mem → Nat → Prop), (∀ s ∈ Cfg.sees x, look env s = look env2 s ∧ look tl s = look tl2 s) → (∀ p ∈ Cfg.lookO x.i, ∀ d, ro tl env p = some d → SubD d mem mem2) →
      go2 (putE x.dst oc.d env2) (putT x.dst oc.d tl2) (oc.ext ++ mem2) nx2 → One C base x j env2 tl2 mem2 nx2 go2 := by
  obtain ⟨d, g, i⟩ := x
  cases g with
  | none =>
    obtain ⟨r, ext, h1, h2, h3⟩ := free_one hf h
    rw [nextK_put] at h1
    refine ⟨⟨r, ext⟩, h1, h2, fun e t m n go2 hs hm hgo => ?_⟩
    refine stepI_mono (h3 e t m n (fun s hs' => hs s (by simpa [Cfg.sees] using hs')) hm) ?_
    rintro d' m' n' ⟨rfl, rfl, rfl⟩
    rw [nextK_put]; exact hgo
  | some p =>
    obtain ⟨g, want⟩ := p
    simp only [One, gd] at h
    split at h
    · rename_i b hro
      by_cases hb : b = want
      · subst hb
        obtain ⟨s1, s2⟩ := set_same hro
        have h0 := h.1 rfl
        rw [s1, s2] at h0
        obtain ⟨r, ext, h1, h2, h3⟩ := free_one hf h0
        rw [nextK_put] at h1
        refine ⟨⟨r, ext⟩, h1, h2, fun e t m n go2 hs hm hgo => ?_⟩
        have hro2 : ro t e g = some (.pl (.bool b)) := by rw [← ro_congr (x := g) fun s h => hs s (by simp [Cfg.sees, h])]; exact hro
        obtain ⟨s3, s4⟩ := set_same hro2
        simp only [One, gd, hro2]
        refine ⟨fun _ => ?_, fun hn => by cases b <;> simp at hn⟩
        rw [s3, s4]
        refine stepI_mono (h3 e t m n (fun s hs' => hs s (by simp [Cfg.sees, hs'])) hm) ?_
        rintro d' m' n' ⟨rfl, rfl, rfl⟩
        rw [nextK_put]; exact hgo
      · have hbn : b = !want := by cases b <;> cases want <;> simp_all
        obtain ⟨s1, s2⟩ := set_same hro
        have h0 := h.2 hbn
        rw [← hbn, s1, s2, nextK_put] at h0
        refine ⟨⟨.pl undef, []⟩, h0, .inl rfl, fun e t m n go2 hs hm hgo => ?_⟩
        have hro2 : ro t e g = some (.pl (.bool b)) := by rw [← ro_congr (x := g) fun s h => hs s (by simp [Cfg.sees, h])]; exact hro
        obtain ⟨s3, s4⟩ := set_same hro2
        simp only [One, gd, hro2]
        refine ⟨fun h => absurd h hb, fun _ => ?_⟩
        rw [← hbn, s3, s4, nextK_put]; exact hgo
    · rename_i vs hro
      rw [nextK_put] at h
      refine ⟨⟨.pl undef, []⟩, h, .inl rfl, fun e t m n go2 hs hm hgo => ?_⟩
      have hro2 : ro t e g = some (.pl (.tuple vs)) := by rw [← ro_congr (x := g) fun s h => hs s (by simp [Cfg.sees, h])]; exact hro
      simp only [One, gd, hro2]
      rw [nextK_put]; exact hgo
    · exact h.elim

end
end Go.Fx

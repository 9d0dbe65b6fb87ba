/-
  One operation of the model's is what it is on deep values: operations that change no owned block.
-/
import Derived.Test.YtaiklblnfebdfaaX3
set_option linter.all false
namespace Go.Fx
open Go

structure Known (C : Cfg) (w : World) (S : Nat → Prop) (φ : Locs) (env tl : Env) (a : Act) : Prop where
  env : ∀ j d, j ∈ C.gs → look env j = some d → Rep w S φ d (a.tmps.getD j undef)
  tl : ∀ j d, j ∉ C.gs → look tl j = some d → Rep w S φ d (a.tmps.getD j undef)

def Out (S : Nat → Prop) (φ : Locs) (mem : Mem) (nx : Nat) (w : World) (id : Nat) (K : KD) (x : Value) (w' : World) : Prop :=
  ∃ v mem' nx' S' φ', K v mem' nx' ∧ nx ≤ nx' ∧ Rep w' S' φ' v x ∧ MSim S' φ' mem' nx' w' ∧ Stays w S φ w' S' φ' ∧ Ext S φ mem w S' φ' mem' w' ∧ ∀ i, i ≠ id → i < nx → φ i = none → φ' i = none

/-- An operation comes to a value. -/
def Does (P : Program) (o : Oper) (a : Act) (w : World) (R : Value → World → Prop) : Prop :=
  o.wp P a w (fun a' w' => ∃ x, a' = a.put o.dst x ∧ R x w') (fun _ _ _ => False)

theorem Stays.refl (w : World) (S : Nat → Prop) (φ : Locs) : Stays w S φ w S φ := ⟨fun _ h => h, fun _ _ _ => rfl, fun _ l h => ⟨l, h, .inl rfl⟩⟩

theorem Stays.trans {w w1 w2 : World} {S S1 S2 : Nat → Prop} {φ φ1 φ2 : Locs} (h : Stays w S φ w1 S1 φ1) (k : Stays w1 S1 φ1 w2 S2 φ2) : Stays w S φ w2 S2 φ2 where
  sub b hb := k.sub b (h.sub b hb)
  cell b hb o := (k.cell b (h.sub b hb) o).trans (h.cell b hb o)
  loc id l hl := by
    obtain ⟨l1, h1, e1⟩ := h.loc id l hl
    obtain ⟨l2, h2, e2⟩ := k.loc id l1 h1
    refine ⟨l2, h2, ?_⟩
    rcases e1 with rfl | ⟨a1, b1, e1⟩ <;> rcases e2 with rfl | ⟨a2, b2, e2⟩
    · exact .inl rfl
    · exact .inr ⟨a2, b2, e2⟩
    · exact .inr ⟨a1, b1, e1⟩
    · exact .inr ⟨a1, b2, by omega⟩

section
variable {C : Cfg} {w : World} {S : Nat → Prop} {φ : Locs} {a : Act} {env tl : Env} {mem : Mem} {nx id : Nat} {K : KD}

theorem out_same {v : D} {x : Value} (hm : MSim S φ mem nx w) (hk : K v mem nx) (hr : Rep w S φ v x) : Out S φ mem nx w id K x w :=
  ⟨v, mem, nx, S, φ, hk, Nat.le_refl _, hr, hm, Stays.refl .., Ext.refl .., fun _ _ _ h => h⟩

theorem does_value {P : Program} {o : Oper} {x : Value} {w' : World} {R : Value → World → Prop} (h : (execOp a.eval o).run P w = .ok (.value x) w') (hr : R x w') : Does P o a w R := by
  unfold Does Oper.wp
  rw [h]
  exact ⟨x, rfl, hr⟩

theorem does_skip {P : Program} {o : Oper} {w' : World} {R : Value → World → Prop} (h : (execOp a.eval o).run P w = .ok .skip w') (hr : R undef w') : Does P o a w R := by
  unfold Does Oper.wp
  rw [h]
  exact ⟨undef, rfl, hr⟩

theorem ro_sound (hk : Known C w S φ env tl a) {x : Operand} {y : Opd} (h : C.opd x = some y) {d : D} (hd : ro tl env y = some d) : Rep w S φ d (a.eval x) := by
  cases x with
  | tmp t =>
    simp only [Cfg.opd, Option.some.injEq] at h
    subst h
    by_cases ht : t ∈ C.gs
    · have : C.gs.contains t = true := by simpa using ht
      simp only [this, if_true, ro] at hd
      exact hk.env t d ht hd
    · have : C.gs.contains t = false := by simpa using ht
      simp only [this, Bool.false_eq_true, if_false, ro] at hd
      exact hk.tl t d ht hd
  | const v =>
    simp only [Cfg.opd, Option.some.injEq] at h
    subst h
    simp only [ro, Option.some.injEq] at hd
    subst hd
    simp [Rep, Act.eval]
  | global g => simp [Cfg.opd] at h
  | func f =>
    simp only [Cfg.opd, Option.some.injEq] at h
    subst h
    simp only [ro, Option.some.injEq] at hd
    subst hd
    simp only [Rep, Act.eval]
    exact ⟨#[], rfl, by simp [RepVs]⟩

theorem look_run {P : Program} {α : Type} {s : Sem α} {x : α} (h : Sem.look P s = some x) (w : World) : s.run P w = .ok x w := by
  induction s with
  | pure a => simp only [Sem.look, Option.some.injEq] at h; subst h; rfl
  | program k ih => simp only [Sem.look] at h; simp only [Sem.run]; exact ih P h
  | _ => simp [Sem.look] at h

theorem k0_out {o : Option D} (h : k0 o mem nx K) : ∃ d, o = some d ∧ K d mem nx := by
  cases o with
  | none => exact h.elim
  | some d => exact ⟨d, rfl, h⟩
theorem k1_out {o : Option D} {g : D → Option D} (h : k1 o g mem nx K) : ∃ x d, o = some x ∧ g x = some d ∧ K d mem nx := by
  cases o with
  | none => exact h.elim
  | some x => obtain ⟨d, h1, h2⟩ := k0_out h; exact ⟨x, d, rfl, h1, h2⟩
theorem k2_out {o p : Option D} {g : D → D → Option D} (h : k2 o p g mem nx K) : ∃ x y d, o = some x ∧ p = some y ∧ g x y = some d ∧ K d mem nx := by
  cases o with
  | none => exact h.elim
  | some x => cases p with
    | none => exact h.elim
    | some y => obtain ⟨d, h1, h2⟩ := k0_out h; exact ⟨x, y, d, rfl, rfl, h1, h2⟩
theorem kl_out {α : Type} {o : Option α} {g : α → Option D} (h : kl o g mem nx K) : ∃ x d, o = some x ∧ g x = some d ∧ K d mem nx := by
  cases o with
  | none => exact h.elim
  | some x => obtain ⟨d, h1, h2⟩ := k0_out h; exact ⟨x, d, rfl, h1, h2⟩
theorem km_out {o : Option (D × Mem)} (h : km o nx K) : ∃ d m, o = some (d, m) ∧ K d m nx := by
  cases o with
  | none => exact h.elim
  | some x => obtain ⟨d, m⟩ := x; exact ⟨d, m, rfl, h⟩

/-! #### Plain values -/
theorem eqGuard_lit {op : BinOp} {ty : TypeId} {x y : Operand} {u v : Value} (hu : lit u = true) (P : Program) (w : World) : (eqGuard op ty x y u v).run P w = .ok () w := by
  cases u <;> first | (simp [lit] at hu; done) | (cases op <;> rfl)

theorem valsRep : ∀ (ds : List D) (vs xs : List Value), D.vals ds = some vs → RepVs w S φ ds xs → xs = vs
  | [], vs, xs, h, hr => by
    simp only [D.vals, Option.some.injEq] at h; subst h
    simpa [RepVs] using hr
  | d :: ds, vs, xs, h, hr => by
    simp only [D.vals] at h
    cases hd : D.val d with
    | none => simp [hd] at h
    | some v =>
      cases hs : D.vals ds with
      | none => simp [hd, hs] at h
      | some us =>
        simp only [hd, hs, Option.some.injEq] at h; subst h
        simp only [RepVs] at hr
        obtain ⟨x, r, rfl, h1, h2⟩ := hr
        rw [valsRep ds us r hs h2]
        have : x = v := by
          cases d with
          | pl u => simp only [D.val, Option.some.injEq] at hd; simp only [Rep] at h1; rw [h1, hd]
          | fn f caps =>
            cases caps with
            | nil =>
              simp only [D.val, Option.some.injEq] at hd; subst hd
              simp only [Rep, RepVs] at h1
              obtain ⟨us', rfl, hn⟩ := h1
              have : us' = #[] := by simpa using hn
              rw [this]
            | cons _ _ => simp [D.val] at hd
          | _ => simp [D.val] at hd
        rw [this]

theorem ptr_nil {op : BinOp} {ty : TypeId} {d : D} {X Y : Operand} {p : Addr} (h : (match op, C.P.underlying ty with
    | .eql, some (.pointer _) => some (D.pl (.bool false))
    | .neq, some (.pointer _) => some (D.pl (.bool true))
    | _, _ => none) = some d) :
    ∃ r, Rep w S φ d r ∧ (do eqGuard op ty X Y (.pointer (some p)) (.pointer none); binOp op ty (.pointer (some p)) (.pointer none) : Sem Value).run C.P w = .ok r w := by
  have hg : (eqGuard op ty X Y (.pointer (some p)) (.pointer none)).run C.P w = .ok () w := by unfold eqGuard; cases op <;> rfl
  have heq : ∀ e, C.P.underlying ty = some (.pointer e) → (Op.equal ty (.pointer (some p)) (.pointer none)).run C.P w = .ok false w := by
    intro e he
    unfold Op.equal Op.maxDepth Op.equalIn
    simp [Sem.run_bind, run_underlying he]
  split at h
  · rename_i e he
    simp only [Option.some.injEq] at h; subst h
    exact ⟨.bool false, by simp [Rep], by simp [hg, binOp, heq e he]⟩
  · rename_i e he
    simp only [Option.some.injEq] at h; subst h
    exact ⟨.bool true, by simp [Rep], by simp [hg, binOp, heq e he]⟩
  · simp at h

theorem bin_sound {op : BinOp} {ty : TypeId} {x y d : D} {X Y : Operand} {u v : Value} (h : binD C.P op ty x y = some d) (hx : Rep w S φ x u) (hy : Rep w S φ y v) :
    ∃ r, Rep w S φ d r ∧ (do eqGuard op ty X Y u v; binOp op ty u v : Sem Value).run C.P w = .ok r w := by
  unfold binD at h
  split at h
  · rename_i p q
    simp only [Rep] at hx hy
    subst hx hy
    split at h
    · rename_i hl
      simp only [Bool.and_eq_true] at hl
      cases hb : Sem.look C.P (binOp op ty u v) with
      | none => simp [hb] at h
      | some r =>
        simp only [hb, Option.map_some, Option.some.injEq] at h
        subst h
        exact ⟨r, by simp [Rep], by simp [eqGuard_lit hl.1, look_run hb]⟩
    · simp at h
  · rename_i xs ys
    simp only [Rep] at hx hy
    obtain ⟨us, rfl, hus⟩ := hx
    obtain ⟨vs, rfl, hvs⟩ := hy
    split at h
    · rename_i p q hp hq
      have e1 := valsRep _ _ _ hp hus
      have e2 := valsRep _ _ _ hq hvs
      have e1' : us = p.toArray := by rw [← e1]
      have e2' : vs = q.toArray := by rw [← e2]
      subst e1' e2'
      cases hb : Sem.look C.P (do eqGuard op ty (.tmp 0) (.tmp 0) (.agg p.toArray) (.agg q.toArray); binOp op ty (.agg p.toArray) (.agg q.toArray)) with
      | none => simp [hb] at h
      | some r =>
        simp only [hb, Option.map_some, Option.some.injEq] at h
        subst h
        exact ⟨r, by simp [Rep], look_run hb w⟩
    · simp at h
  · rename_i cs
    simp only [Rep] at hx hy
    obtain ⟨b, o, rfl, _, _⟩ := hx
    subst hy
    exact ptr_nil h
  · rename_i id off
    simp only [Rep] at hx hy
    obtain ⟨l, _, _, rfl⟩ := hx
    subst hy
    exact ptr_nil h
  · simp at h

theorem tsz_out {P : Program} {t : TypeId} {g : Bool} {n : Nat} (h : Program.tsz P t = some (g, n)) : ∃ d i, P.underlying t = some d ∧ P.info? t = some i ∧ i.size = n ∧ g = d.isRow := by
  unfold Program.tsz at h
  split at h
  · rename_i d i h1 h2
    simp only [Option.some.injEq, Prod.mk.injEq] at h
    exact ⟨d, i, h1, h2, h.2, h.1.symm⟩
  · simp at h

theorem run_isAgg {P : Program} {t : TypeId} {d : TypeDesc} (h : P.underlying t = some d) (w : World) : (isAgg t).run P w = .ok d.isRow w := by
  unfold isAgg
  rw [Sem.run_bind, run_underlying h w]
  cases d <;> rfl

theorem run_sizeOf {P : Program} {t : TypeId} {i : TypeInfo} (h : P.info? t = some i) (w : World) : (sizeOf t).run P w = .ok i.size w := by
  simp [sizeOf, typeInfo, h]

/-! #### Cells -/
theorem RepCs_vals : ∀ (cs : List D) (b o : Nat), RepCs w S φ cs b o → ∃ vs : List Value, vs.length = cs.length ∧ w.rangeAt b o vs ∧ RepVs w S φ cs vs
  | [], b, o, _ => ⟨[], rfl, fun j v hv => by simp at hv, by simp [RepVs]⟩
  | d :: ds, b, o, h => by
    simp only [RepCs] at h
    obtain ⟨⟨x, hx, hd⟩, hr⟩ := h
    obtain ⟨vs, hl, hg, hv⟩ := RepCs_vals ds b (o + 1) hr
    refine ⟨x :: vs, by simp [hl], ?_, by simp only [RepVs]; exact ⟨x, vs, rfl, hd, hv⟩⟩
    intro j v hj
    cases j with
    | zero => simp only [List.getElem?_cons_zero, Option.some.injEq] at hj; subst hj; exact hx
    | succ j =>
      simp only [List.getElem?_cons_succ] at hj
      have := hg j v hj
      rw [show o + (j + 1) = o + 1 + j by omega]
      exact this

theorem RepCs_of_vals : ∀ (cs : List D) (vs : List Value) (b o : Nat), RepVs w S φ cs vs → w.rangeAt b o vs → RepCs w S φ cs b o
  | [], vs, b, o, _, _ => by simp [RepCs]
  | d :: ds, vs, b, o, h, hg => by
    simp only [RepVs] at h
    obtain ⟨x, r, rfl, h1, h2⟩ := h
    simp only [RepCs]
    refine ⟨⟨x, hg 0 x rfl, h1⟩, RepCs_of_vals ds r b (o + 1) h2 fun j v hj => ?_⟩
    have := hg (j + 1) v (by simpa using hj)
    rw [show o + (j + 1) = o + 1 + j by omega] at this
    exact this

theorem RepCs_drop : ∀ (k : Nat) (cs : List D) (b o : Nat), RepCs w S φ cs b o → RepCs w S φ (cs.drop k) b (o + k)
  | 0, cs, b, o, h => by simpa using h
  | k + 1, [], b, o, h => by simp [RepCs]
  | k + 1, d :: ds, b, o, h => by
    simp only [RepCs] at h
    rw [List.drop_succ_cons, show o + (k + 1) = o + 1 + k by omega]
    exact RepCs_drop k ds b (o + 1) h.2

theorem RepCs_take : ∀ (k : Nat) (cs : List D) (b o : Nat), RepCs w S φ cs b o → RepCs w S φ (cs.take k) b o
  | 0, cs, b, o, h => by simp [RepCs]
  | k + 1, [], b, o, h => by simp [RepCs]
  | k + 1, d :: ds, b, o, h => by
    simp only [RepCs, List.take_succ_cons] at h ⊢
    exact ⟨h.1, RepCs_take k ds b (o + 1) h.2⟩

theorem RepCs_append : ∀ (cs ds : List D) (b o : Nat), RepCs w S φ cs b o → RepCs w S φ ds b (o + cs.length) → RepCs w S φ (cs ++ ds) b o
  | [], ds, b, o, _, h => by simpa using h
  | c :: cs, ds, b, o, h, k => by
    simp only [RepCs, List.cons_append] at h ⊢
    refine ⟨h.1, RepCs_append cs ds b (o + 1) h.2 ?_⟩
    rw [show o + 1 + cs.length = o + (c :: cs).length by simp; omega]
    exact k

theorem RepEs_get : ∀ (es : List (List D)) (k b o i : Nat) (e : List D), RepEs w S φ es k b o → es[i]? = some e → e.length = k ∧ RepCs w S φ e b (o + i * k)
  | [], k, b, o, i, e, _, h => by simp at h
  | x :: es, k, b, o, 0, e, h, he => by
    simp only [List.getElem?_cons_zero, Option.some.injEq] at he; subst he
    simp only [RepEs] at h
    exact ⟨h.1, by simpa using h.2.1⟩
  | x :: es, k, b, o, i + 1, e, h, he => by
    simp only [List.getElem?_cons_succ] at he
    simp only [RepEs] at h
    have := RepEs_get es k b (o + k) i e h.2.2 he
    rw [show o + (i + 1) * k = o + k + i * k by rw [Nat.succ_mul]; omega]
    exact this

theorem RepEs_drop : ∀ (i : Nat) (es : List (List D)) (k b o : Nat), RepEs w S φ es k b o → RepEs w S φ (es.drop i) k b (o + i * k)
  | 0, es, k, b, o, h => by simpa using h
  | i + 1, [], k, b, o, h => by simp [RepEs]
  | i + 1, e :: es, k, b, o, h => by
    simp only [RepEs] at h
    rw [List.drop_succ_cons, show o + (i + 1) * k = o + k + i * k by rw [Nat.succ_mul]; omega]
    exact RepEs_drop i es k b (o + k) h.2.2

theorem RepEs_take : ∀ (i : Nat) (es : List (List D)) (k b o : Nat), RepEs w S φ es k b o → RepEs w S φ (es.take i) k b o
  | 0, es, k, b, o, h => by simp [RepEs]
  | i + 1, [], k, b, o, h => by simp [RepEs]
  | i + 1, e :: es, k, b, o, h => by
    simp only [RepEs, List.take_succ_cons] at h ⊢
    exact ⟨h.1, h.2.1, RepEs_take i es k b (o + k) h.2.2⟩

theorem RepEs_append : ∀ (es fs : List (List D)) (k b o : Nat), RepEs w S φ es k b o → RepEs w S φ fs k b (o + es.length * k) → RepEs w S φ (es ++ fs) k b o
  | [], fs, k, b, o, _, h => by simpa using h
  | e :: es, fs, k, b, o, h, g => by
    simp only [RepEs, List.cons_append] at h ⊢
    refine ⟨h.1, h.2.1, RepEs_append es fs k b (o + k) h.2.2 ?_⟩
    rw [show o + k + es.length * k = o + (e :: es).length * k by simp [Nat.succ_mul]; omega]
    exact g

/-- What is read at an address. -/
theorem rdc_sound {n : Nat} {x : D} {cs : List D} {v : Value} (h : rdc mem n x = some cs) (hm : MSim S φ mem nx w) (hx : Rep w S φ x v) :
    cs.length = n ∧ ∃ b o, v = .pointer (some ⟨b, o, none⟩) ∧ RepCs w S φ cs b o := by
  cases x with
  | pt ds =>
    simp only [rdc, Option.ite_none_right_eq_some, Option.some.injEq] at h
    obtain ⟨hn, rfl⟩ := h
    simp only [Rep] at hx
    obtain ⟨b, o, rfl, _, hc⟩ := hx
    exact ⟨by simp; omega, b, o, rfl, RepCs_take n ds b o hc⟩
  | opt i off =>
    simp only [rdc] at h
    split at h
    · rename_i ds hl
      simp only [Option.ite_none_right_eq_some, Option.some.injEq] at h
      obtain ⟨hn, rfl⟩ := h
      obtain ⟨l, hφ, _, hb⟩ := hm.mem i _ hl
      simp only [Rep] at hx
      obtain ⟨l', hφ', _, rfl⟩ := hx
      rw [hφ] at hφ'
      simp only [Option.some.injEq] at hφ'
      subst hφ'
      simp only [BRep] at hb
      obtain ⟨_, _, h0, _, hc⟩ := hb
      refine ⟨by simp; omega, l.b, l.base + off, rfl, RepCs_take n _ _ _ ?_⟩
      have := RepCs_drop off ds l.b 0 hc
      rwa [h0]
    · simp at h
  | oel i ver ix off =>
    simp only [rdc] at h
    split at h
    · rename_i v' k es hl
      split at h
      · rename_i hv
        split at h
        · rename_i e he
          simp only [Option.ite_none_right_eq_some, Option.some.injEq] at h
          obtain ⟨hn, rfl⟩ := h
          obtain ⟨l, hφ, _, hb⟩ := hm.mem i _ hl
          simp only [Rep] at hx
          obtain ⟨l', hφ', _, _, hx⟩ := hx
          rw [hφ] at hφ'
          simp only [Option.some.injEq] at hφ'
          subst hφ'
          simp only [BRep] at hb
          obtain ⟨_, hv1, hk, hb⟩ := hb
          obtain ⟨hr, rfl⟩ := hx (by omega)
          rcases hb with hb | ⟨_, _, _, hes⟩
          · simp [hb.2] at he
          · obtain ⟨_, hc⟩ := RepEs_get es k l.b l.base ix e hes he
            refine ⟨by simp; omega, l.b, l.base + ix * l.k + off, rfl, RepCs_take n _ _ _ ?_⟩
            rw [hk]
            exact RepCs_drop off e l.b _ hc
        · simp at h
      · simp at h
    · simp at h
  | _ => simp [rdc] at h

theorem ld_sound {t : TypeId} {g : Bool} {n : Nat} {x d : D} {v : Value} (ht : Program.tsz C.P t = some (g, n)) (h : ldD mem g n x = some d) (hm : MSim S φ mem nx w) (hx : Rep w S φ x v) :
    ∃ r, Rep w S φ d r ∧ (Instr.loadAt t v).run C.P w = .ok r w := by
  unfold ldD at h
  split at h
  · rename_i cs hc
    obtain ⟨hn, b, o, rfl, hr⟩ := rdc_sound hc hm hx
    obtain ⟨ds, i, hu, hi, hsz, hg⟩ := tsz_out ht
    obtain ⟨vs, hl, hrg, hvs⟩ := RepCs_vals cs b o hr
    unfold mkv at h
    cases hgb : g with
    | true =>
      simp only [hgb, if_true, Option.some.injEq] at h
      subst h
      refine ⟨.agg vs.toArray, ?_, ?_⟩
      · simp only [Rep]; exact ⟨vs.toArray, rfl, by simpa using hvs⟩
      · refine run_loadAt_mid w b o t vs ds hrg hu (by rw [← hg, hgb]) ?_
        rw [hi]; simp; omega
    | false =>
      simp only [hgb, Bool.false_eq_true, if_false] at h
      split at h
      · rename_i c
        simp only [Option.some.injEq] at h
        subst h
        simp only [RepVs] at hvs
        obtain ⟨x, r, rfl, hx1, hr1⟩ := hvs
        refine ⟨x, hx1, ?_⟩
        have hcell := hrg 0 x rfl
        simp only [Nat.add_zero] at hcell
        simp only [Instr.loadAt, Instr.sureAddr, loadVar, Sem.run_bind, Sem.run_pure, Result.andThen_ok, run_isAgg hu w, ← hg, hgb, Bool.false_eq_true, if_false, run_load, hcell]
      · simp at h
  · simp at h
end
end Go.Fx

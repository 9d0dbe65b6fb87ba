/-
  Slices of slices, calls; each operation.
-/
import Derived.Test.YtaiklblnfebdfaaX10
set_option linter.all false
namespace Go.Fx
open Go
section
variable {C : Cfg} {w w' : World} {S : Nat → Prop} {φ : Locs} {a : Act} {env tl : Env} {mem : Mem} {nx id : Nat} {K : KD}

mutual
theorem Rep_imm {φ' : Locs} : ∀ (d : D) (x : Value), D.imm d = true → Rep w S φ d x → Rep w S φ' d x
  | .top, _, _, _ => by simp [Rep]
  | .zs, x, _, h => by simpa [Rep] using h
  | .pl v, x, _, h => by simpa [Rep] using h
  | .sl es, x, hi, h => by
    simp only [Rep, D.imm] at hi h ⊢
    rcases h with h | ⟨b, o, cap, k, h1, h2, h3, h4⟩
    · exact .inl h
    · exact .inr ⟨b, o, cap, k, h1, h2, h3, RepEs_imm es k b o hi h4⟩
  | .pt cs, x, hi, h => by
    simp only [Rep, D.imm] at hi h ⊢
    obtain ⟨b, o, h1, h2, h3⟩ := h
    exact ⟨b, o, h1, h2, RepCs_imm cs b o hi h3⟩
  | .opt _ _, _, hi, _ => by simp [D.imm] at hi
  | .osl _ _ _ _, _, hi, _ => by simp [D.imm] at hi
  | .oel _ _ _ _, _, hi, _ => by simp [D.imm] at hi
  | .omap _, _, hi, _ => by simp [D.imm] at hi
  | .fn f cs, x, hi, h => by
    simp only [Rep, D.imm] at hi h ⊢
    obtain ⟨vs, h1, h2⟩ := h
    exact ⟨vs, h1, RepVs_imm cs _ hi h2⟩
  | .agg cs, x, hi, h => by
    simp only [Rep, D.imm] at hi h ⊢
    obtain ⟨vs, h1, h2⟩ := h
    exact ⟨vs, h1, RepVs_imm cs _ hi h2⟩
  | .tup cs, x, hi, h => by
    simp only [Rep, D.imm] at hi h ⊢
    obtain ⟨vs, h1, h2⟩ := h
    exact ⟨vs, h1, RepVs_imm cs _ hi h2⟩
theorem RepVs_imm {φ' : Locs} : ∀ (ds : List D) (xs : List Value), D.imms ds = true → RepVs w S φ ds xs → RepVs w S φ' ds xs
  | [], xs, _, h => by simpa [RepVs] using h
  | d :: ds, xs, hi, h => by
    simp only [RepVs, D.imms, Bool.and_eq_true] at hi h ⊢
    obtain ⟨x, r, h1, h2, h3⟩ := h
    exact ⟨x, r, h1, Rep_imm d x hi.1 h2, RepVs_imm ds r hi.2 h3⟩
theorem RepCs_imm {φ' : Locs} : ∀ (ds : List D) (b o : Nat), D.imms ds = true → RepCs w S φ ds b o → RepCs w S φ' ds b o
  | [], b, o, _, h => by simp [RepCs]
  | d :: ds, b, o, hi, h => by
    simp only [RepCs, D.imms, Bool.and_eq_true] at hi h ⊢
    obtain ⟨⟨x, h1, h2⟩, h3⟩ := h
    exact ⟨⟨x, h1, Rep_imm d x hi.1 h2⟩, RepCs_imm ds b (o + 1) hi.2 h3⟩
theorem RepEs_imm {φ' : Locs} : ∀ (es : List (List D)) (k b o : Nat), D.immss es = true → RepEs w S φ es k b o → RepEs w S φ' es k b o
  | [], k, b, o, _, h => by simp [RepEs]
  | e :: es, k, b, o, hi, h => by
    simp only [RepEs, D.immss, Bool.and_eq_true] at hi h ⊢
    exact ⟨h.1, RepCs_imm e b o hi.1 h.2.1, RepEs_imm es k b (o + k) hi.2 h.2.2⟩
end

theorem Stays.none (hS : ∀ b, S b → b < w.heap.size) : ∀ (d : D) (x : Value), Rep w S noLocs d x → Rep w S φ d x := by
  intro d x h
  exact Rep.mono (w := w) (S := S) (φ := noLocs) ⟨fun _ h => h, fun _ _ _ => rfl, fun _ _ h => by simp [noLocs] at h⟩ d x h

theorem opds_out : ∀ (l : List Operand) (ys : List Opd) (ds : List D), Known C w S φ env tl a → C.opds l = some ys → ros tl env ys = some ds → RepVs w S φ ds (l.map a.eval)
  | [], ys, ds, hk, h1, h2 => by
    simp only [Cfg.opds, List.mapM_nil, Option.pure_def, Option.some.injEq] at h1; subst h1
    simp only [ros, Option.some.injEq] at h2; subst h2
    simp [RepVs]
  | x :: l, ys, ds, hk, h1, h2 => by
    simp only [Cfg.opds, List.mapM_cons, Option.bind_eq_bind, Option.bind_eq_some_iff, Option.pure_def, Option.some.injEq] at h1
    obtain ⟨y, hy, ys', hys, rfl⟩ := h1
    simp only [ros] at h2
    split at h2
    · rename_i d ds' hd hds
      simp only [Option.some.injEq] at h2; subst h2
      simp only [List.map_cons, RepVs]
      exact ⟨_, _, rfl, ro_sound hk hy hd, opds_out l ys' ds' hk hys hds⟩
    · simp at h2

theorem call_run {P : Program} {f : FuncId} {c : Call} {X : Operand} {caps : Array Value} {ty : TypeId} (he : Enter P f) (hc : c.callee = .value X) (hX : a.eval X = .func (.func f) #[] caps) :
    (do let d ← resolve a.eval c ty; invoke d.target d.args : Sem Next).run P w = .ok (.enter f ((c.args.toList.map a.eval) ++ caps.toList).toArray) w := by
  obtain ⟨fn, h1, h2, h3⟩ := he
  simp only [resolve, hc, Sem.run_bind, hX, Deferred.ofValue, Sem.run_pure, Result.andThen_ok, invoke, callFunc, run_program, h1, h2, h3, Bool.false_eq_true, if_false]
  congr 2
  apply Array.ext'
  simp

theorem ext_run {P : Program} {f : FuncId} {c : Call} {X : Operand} {caps : Array Value} {ty : TypeId} {v : Value} {w' : World} (hc : c.callee = .value X) (hX : a.eval X = .func (.func f) #[] caps) (h : (callFunc f ((c.args.toList.map a.eval) ++ caps.toList).toArray).run P w = .ok (.value v) w') :
    (do let d ← resolve a.eval c ty; invoke d.target d.args : Sem Next).run P w = .ok (.value v) w' := by
  simp only [resolve, hc, Sem.run_bind, hX, Deferred.ofValue, Sem.run_pure, Result.andThen_ok, invoke]
  rw [← h]
  congr 2
  apply Array.ext'
  simp

theorem pcK_out {P : Program} {f : Option D} {xs : Option (List D)} (h : pcK P f xs mem nx K) : ∃ g caps ys r, f = some (.fn g caps) ∧ xs = some ys ∧ (Pure P g (ys ++ caps) r ∨ Extn P g (ys ++ caps) r) ∧ D.imms (ys ++ caps) = true ∧ K r mem nx := by
  unfold pcK at h
  split at h
  · obtain ⟨r, h1, h2, h3⟩ := h; exact ⟨_, _, _, r, rfl, rfl, h1, h2, h3⟩
  · exact h.elim

theorem pure_out {P : Program} {f : FuncId} {ds : List D} {r : D} {xs : List Value} (h : Pure P f ds r) (hi : D.imms ds = true) (hx : RepVs w S φ ds xs) (hm : MSim S φ mem nx w) (hk : K r mem nx) :
    Calls P f xs.toArray w fun e w' => ∃ v, e = .returned v ∧ Out S φ mem nx w id K v w' := by
  refine (h.2 S w xs hm.sub (RepVs_imm _ _ hi hx)).mono ?_
  rintro e w' ⟨v, S', rfl, hr, hx, hS'⟩
  have hsame : ∀ b, b < w.heap.size → w'.heap[b]? = w.heap[b]? := fun b hb => hx.keep b hb (by rintro ⟨i, blk, l, h1, _⟩; simp [look] at h1)
  have hst : Stays w S φ w' S' φ := Stays.of_heap hx.sub (fun b hb => hsame b (hm.sub b hb)) (fun _ _ h => h)
  have hnews : ∀ b, S' b → S b ∨ w.heap.size ≤ b := fun b hb => by
    rcases hx.news b hb with h | h | ⟨i, blk, l, h1, _⟩
    · exact .inl h
    · exact .inr h
    · simp [look] at h1
  refine ⟨v, rfl, r, mem, nx, S', φ, hk, Nat.le_refl _, Rep.mono (φ' := φ) ⟨fun _ h => h, fun _ _ _ => rfl, fun _ _ h => by simp [noLocs] at h⟩ _ _ hr, ⟨?_, hm.inj, ?_, hm.fresh, hS'⟩, hst,
    ⟨hx.sub, fun b hb _ => hsame b hb, hx.size, fun b _ h => h, fun b hb => by rcases hnews b hb with h | h; exact .inl h; exact .inr (.inl h), hx.os, hx.output, hx.tape⟩, fun _ _ _ h => h⟩
  · intro i blk hi'
    obtain ⟨l, h1, h2, h3⟩ := hm.mem i blk hi'
    refine ⟨l, h1, fun hr hs => ?_, h3.mono hst fun hr => hsame _ (hm.lt i l h1 hr)⟩
    rcases hnews _ hs with h | h
    · exact h2 hr h
    · have := hm.lt i l h1 hr; omega
  · intro i l h1 hr
    exact Nat.lt_of_lt_of_le (hm.lt i l h1 hr) hx.size

theorem does_call {P : Program} {o : Oper} {f : FuncId} {args : Array Value} {R : Value → World → Prop} (h : (execOp a.eval o).run P w = .ok (.enter f args) w) (hc : Calls P f args w fun e w' => ∃ v, e = .returned v ∧ R v w') : Does P o a w R := by
  unfold Does Oper.wp
  rw [h]
  refine hc.mono ?_
  rintro e w' ⟨v, rfl, hv⟩
  exact ⟨v, rfl, hv⟩

theorem clK_out {P : Program} {f : Option D} {xs : Option (List D)} (h : clK P f xs mem nx K) : ∃ g caps ys, f = some (.fn g caps) ∧ xs = some ys ∧ CallT P g (ys ++ caps) mem nx K := by
  unfold clK at h
  split at h
  · exact ⟨_, _, _, rfl, rfl, h⟩
  · exact h.elim

/-! #### x[lo:hi] -/
def OptRep (w : World) (S : Nat → Prop) (φ : Locs) : Option D → Option Value → Prop
  | none, none => True
  | some d, some v => Rep w S φ d v
  | _, _ => False

theorem bound_run {x : Option D} {X : Option Value} {d : Nat} {n : Int} {y : Nat} {code : BoundsCode} {P : Program} (h : bound x d = some n) (hr : OptRep w S φ x X) (h0 : 0 ≤ n) (hy : n ≤ y) :
    (match X with | some v => Instr.sliceBound v y code | none => pure d : Sem Nat).run P w = .ok n.toNat w := by
  cases x with
  | none =>
    cases X with
    | none => simp only [bound, Option.some.injEq] at h; subst h; simp
    | some v => exact hr.elim
  | some dd =>
    cases X with
    | none => exact hr.elim
    | some v =>
      cases dd with
      | pl u =>
        simp only [OptRep, Rep] at hr; subst hr
        cases v with
        | int k m =>
          simp only [bound, Option.some.injEq] at h; subst h
          simp [Instr.sliceBound, asIntOf, h0, hy]
        | _ => simp [bound] at h
      | _ => simp [bound] at h

theorem sliceBounds_run {lo hi : Option D} {LO HI : Option Value} {len cap : Nat} {l h : Int} {b : Bool} {P : Program} (hl : bound lo 0 = some l) (hh : bound hi len = some h)
    (hlo : OptRep w S φ lo LO) (hhi : OptRep w S φ hi HI) (h0 : 0 ≤ l) (h1 : l ≤ h) (h2 : h ≤ len) (hc : len ≤ cap) :
    (Instr.sliceBounds b len cap LO HI none).run P w = .ok (l.toNat, h.toNat, cap) w := by
  have e1 := bound_run (P := P) (code := if b then .sliceAcap else .sliceAlen) (y := cap) hh hhi (by omega) (by omega)
  have e2 := bound_run (P := P) (code := .sliceB) (y := h.toNat) hl hlo h0 (by omega)
  unfold Instr.sliceBounds
  cases HI with
  | none =>
    cases LO with
    | none => simp at e1 e2 ⊢; simp [e1, e2]
    | some v => simp at e1 e2 ⊢; simp [e1, e2]
  | some u =>
    cases LO with
    | none => simp at e1 e2 ⊢; simp [e1, e2]
    | some v => simp at e1 e2 ⊢; simp [e1, e2]

theorem sls_slice {t e : TypeId} {g : Bool} {k : Nat} {x d : D} {v : Value} {lo hi : Option D} {LO HI : Option Value} (ht : C.P.underlying t = some (.slice e)) (he : Program.tsz C.P e = some (g, k)) (h : slsD mem false k x lo hi = some d)
    (hx : Rep w S φ x v) (hlo : OptRep w S φ lo LO) (hhi : OptRep w S φ hi HI) (hm : MSim S φ mem nx w) : ∃ r, Rep w S φ d r ∧ (Instr.sliceAt t v LO HI none).run C.P w = .ok r w := by
  obtain ⟨ds, inf, hu, hinf, hsz, _⟩ := tsz_out he
  have key : ∀ (p : Option Addr) (len cap : Nat) (l h : Int), bound lo 0 = some l → bound hi len = some h → 0 ≤ l → l ≤ h → h ≤ len → len ≤ cap →
      (Instr.sliceAt t (.slice p len cap) LO HI none).run C.P w = .ok (.slice (if cap = l.toNat then p else p.map (·.add (l.toNat * k))) (h.toNat - l.toNat) (cap - l.toNat)) w := by
    intro p len cap l h h1 h2 h3 h4 h5 h6
    simp only [Instr.sliceAt, Instr.slice, Sem.run_bind, run_underlying ht, Result.andThen_ok, sliceBounds_run h1 h2 hlo hhi h3 h4 h5 h6, run_sizeOf hinf, hsz, Sem.run_pure]
  unfold slsD at h
  split at h
  · rename_i es
    simp only [Bool.false_eq_true, if_false] at h
    split at h
    · rename_i l hh h1 h2
      simp only [Option.ite_none_right_eq_some, Option.some.injEq] at h
      obtain ⟨⟨⟨q1, q2, q3⟩, q4⟩, rfl⟩ := h
      simp only [Rep] at hx
      rcases hx with ⟨rfl, rfl | ⟨p, rfl⟩⟩ | ⟨b, o, cap, k', rfl, hc, hS, hes⟩
      · refine ⟨_, ?_, key none 0 0 l hh h1 (by simpa using h2) q1 q2 (by simpa using q3) (Nat.le_refl _)⟩
        simp only [Rep, List.take_nil, List.drop_nil]
        left
        simp at q3
        have : l = 0 := by omega
        have : hh = 0 := by omega
        subst_vars; simp [Zs]
      · refine ⟨_, ?_, key (some p) 0 0 l hh h1 (by simpa using h2) q1 q2 (by simpa using q3) (Nat.le_refl _)⟩
        simp only [Rep, List.take_nil, List.drop_nil]
        left
        simp at q3
        have : l = 0 := by omega
        have : hh = 0 := by omega
        subst_vars; simp [Zs]
      · refine ⟨_, ?_, key _ _ _ l hh h1 h2 q1 q2 q3 hc⟩
        have hlen : ((es.take hh.toNat).drop l.toNat).length = hh.toNat - l.toNat := by simp; omega
        by_cases hcl : cap = l.toNat
        · have hz : hh.toNat - l.toNat = 0 := by omega
          rw [if_pos hcl, hz]
          have : (es.take hh.toNat).drop l.toNat = [] := List.eq_nil_of_length_eq_zero (by rw [hlen, hz])
          rw [this]
          simp only [Rep]
          right
          exact ⟨b, o, cap - l.toNat, k', by simp, by simp, hS, by simp [RepEs]⟩
        · rw [if_neg hcl]
          simp only [Rep]
          right
          have hes' := RepEs_drop l.toNat _ _ _ _ (RepEs_take hh.toNat es k' b o hes)
          refine ⟨b, o + l.toNat * k, cap - l.toNat, k', by rw [hlen]; simp [Addr.add_mid], by rw [hlen]; omega, hS, ?_⟩
          rcases q4 with q4 | q4
          · subst q4; simpa using hes'
          · by_cases hn : es = []
            · subst hn; simp [RepEs]
            · have : k = k' := by
                obtain ⟨e0, he0⟩ := List.exists_mem_of_ne_nil es hn
                have a1 := RepEs_lens es k' b o hes e0 he0
                have a2 := List.all_eq_true.1 q4 e0 he0
                simp at a2; omega
              rw [this]; exact hes'
    · simp at h
  · rename_i i ver o n
    split at h
    · simp at h
    · rename_i hcv
      simp only [Bool.false_or, Bool.not_eq_true', Bool.not_eq_false] at hcv
      split at h
      · rename_i l hh h1 h2
        simp only [Option.ite_none_right_eq_some, Option.some.injEq] at h
        obtain ⟨⟨rfl, q2, q3⟩, rfl⟩ := h
        obtain ⟨k2, es, l, hlk, hl, hv, hb, _⟩ := curv_out hcv hm
        simp only [Rep] at hx
        obtain ⟨l', hl', hle, hsh, hx⟩ := hx
        rw [hl] at hl'; simp only [Option.some.injEq] at hl'; subst hl'
        rcases hx hv with ⟨r1, rfl, rfl, hz⟩ | ⟨r1, cap, rfl, c1, c2⟩
        · obtain ⟨p, rfl⟩ := zs_slice hz
          have hh0 : hh = 0 := by simp at q3; omega
          subst hh0
          refine ⟨_, ?_, key p 0 0 0 0 h1 h2 (by omega) (by omega) (by simp) (Nat.le_refl _)⟩
          simp only [Rep]
          refine ⟨l, hl, hle, ⟨_, _, _, rfl⟩, fun _ => .inl ⟨r1, trivial, rfl, ?_⟩⟩
          simpa using hz
        · refine ⟨_, ?_, key _ n cap 0 hh h1 h2 (by omega) q2 q3 c1⟩
          have : (if cap = Int.toNat 0 then (some (⟨l.b, l.base + o * l.k, none⟩ : Addr)) else (some (⟨l.b, l.base + o * l.k, none⟩ : Addr)).map (·.add (Int.toNat 0 * k))) = some ⟨l.b, l.base + o * l.k, none⟩ := by
            split <;> simp [Addr.add]
          rw [this]
          simp only [Rep]
          exact ⟨l, hl, hle, ⟨_, _, _, rfl⟩, fun _ => .inr ⟨r1, cap, by simp, by omega, c2⟩⟩
      · simp at h
  · simp at h
  · rename_i hne
    simp only [Bool.false_eq_true, if_false] at h
    split at h
    · rename_i l hh h1 h2
      simp only [Option.ite_none_right_eq_some, Option.some.injEq] at h
      obtain ⟨⟨rfl, rfl⟩, rfl⟩ := h
      simp only [Rep] at hx; subst hx
      refine ⟨_, ?_, key none 0 0 0 0 h1 h2 (by omega) (by omega) (by simp) (Nat.le_refl _)⟩
      simp [Rep]
    · simp at h
  · simp only [Bool.false_eq_true, if_false] at h
    split at h
    · rename_i l hh h1 h2
      simp only [Option.ite_none_right_eq_some, Option.some.injEq] at h
      obtain ⟨⟨rfl, rfl⟩, rfl⟩ := h
      simp only [Rep] at hx
      obtain ⟨p, rfl⟩ := zs_slice hx
      refine ⟨_, ?_, key p 0 0 0 0 h1 h2 (by omega) (by omega) (by simp) (Nat.le_refl _)⟩
      simpa [Rep] using hx
    · simp at h
  · simp at h

theorem sls_string {t : TypeId} {k : Nat} {x d : D} {v : Value} {lo hi : Option D} {LO HI : Option Value} (ht : C.P.underlying t = some .string) (h : slsD mem true k x lo hi = some d)
    (hx : Rep w S φ x v) (hlo : OptRep w S φ lo LO) (hhi : OptRep w S φ hi HI) : ∃ r, Rep w S φ d r ∧ (Instr.sliceAt t v LO HI none).run C.P w = .ok r w := by
  unfold slsD at h
  split at h
  · simp at h
  · simp at h
  · rename_i b
    simp only [if_true] at h
    split at h
    · rename_i l hh h1 h2
      simp only [Option.ite_none_right_eq_some, Option.some.injEq] at h
      obtain ⟨⟨q1, q2, q3⟩, rfl⟩ := h
      simp only [Rep] at hx; subst hx
      refine ⟨_, by simp only [Rep]; rfl, ?_⟩
      simp [Instr.sliceAt, Instr.slice, run_underlying ht, sliceBounds_run h1 h2 hlo hhi q1 q2 q3 (Nat.le_refl _)]
    · simp at h
  · simp at h
  · simp at h
  · simp at h
end
end Go.Fx

/-
  Each operation that is resolved does what its condition says.
-/
import Derived.Test.YtaiklblnfebdfaaX12a
set_option linter.all false
namespace Go.Fx
open Go
section
variable {C : Cfg} {w w' : World} {S : Nat → Prop} {φ : Locs} {a : Act} {env tl : Env} {mem : Mem} {nx id : Nat} {K : KD}

theorem does_of {o : Oper} {d : D} {r : Value} (hm : MSim S φ mem nx w) (hk : K d mem nx) (hr : Rep w S φ d r) (h : (execOp a.eval o).run C.P w = .ok (.value r) w) : Does C.P o a w (Out S φ mem nx w id K) :=
  does_value h (out_same hm hk hr)

theorem opdo_out {lo : Option Operand} {ylo : Option Opd} {dlo : Option D} (hk : Known C w S φ env tl a) (h : C.opdo lo = some ylo) (hr : roo tl env ylo = some dlo) : OptRep w S φ dlo (lo.map a.eval) := by
  cases lo with
  | none =>
    simp only [Cfg.opdo, Option.some.injEq] at h; subst h
    simp only [roo, Option.some.injEq] at hr; subst hr
    trivial
  | some x =>
    simp only [Cfg.opdo] at h
    split at h
    · rename_i y hy
      simp only [Option.some.injEq] at h; subst h
      simp only [roo] at hr
      split at hr
      · rename_i d hd
        simp only [Option.some.injEq] at hr; subst hr
        exact ro_sound hk hy hd
      · simp at hr
    · simp at h

theorem map_out {α β : Type} {f : α → β} {o : Option α} {y : β} (h : o.map f = some y) : ∃ x, o = some x ∧ f x = y := by
  cases o with
  | none => simp at h
  | some x => exact ⟨x, rfl, by simpa using h⟩

theorem opds_one {l : List Operand} {x : Opd} (h : C.opds l = some [x]) : ∃ X, l = [X] ∧ C.opd X = some x := by
  cases l with
  | nil => simp [Cfg.opds] at h
  | cons X l =>
    simp only [Cfg.opds, List.mapM_cons, Option.bind_eq_bind, Option.bind_eq_some_iff, Option.pure_def, Option.some.injEq] at h
    obtain ⟨y, hy, ys, hys, e⟩ := h
    simp only [List.cons.injEq] at e
    obtain ⟨rfl, rfl⟩ := e
    cases l with
    | nil => exact ⟨X, rfl, hy⟩
    | cons Z l =>
      simp only [List.mapM_cons, Option.bind_eq_bind, Option.bind_eq_some_iff, Option.pure_def, Option.some.injEq] at hys
      obtain ⟨_, _, _, _, e⟩ := hys
      simp at e

theorem opds_two {l : List Operand} {x y : Opd} (h : C.opds l = some [x, y]) : ∃ X Y, l = [X, Y] ∧ C.opd X = some x ∧ C.opd Y = some y := by
  cases l with
  | nil => simp [Cfg.opds] at h
  | cons X l =>
    simp only [Cfg.opds, List.mapM_cons, Option.bind_eq_bind, Option.bind_eq_some_iff, Option.pure_def, Option.some.injEq] at h
    obtain ⟨z, hy, ys, hys, e⟩ := h
    simp only [List.cons.injEq] at e
    obtain ⟨rfl, rfl⟩ := e
    obtain ⟨Y, rfl, h2⟩ := opds_one (C := C) (l := l) hys
    exact ⟨X, Y, rfl, hy, h2⟩

theorem call_sound {dst : Option Tmp} {c : Call} {type : TypeId} {pos : String} {after : Array Edge} {guard : Option (Nat × Bool)} {own : Bool} {i : I} (hi : C.call own c.callee c.args.toList c.argTypes.toList = some i) (hs : stepI C id i env tl mem nx K)
    (hk : Known C w S φ env tl a) (hm : MSim S φ mem nx w) (hid : φ id = none) (hlt : id < nx) : Does C.P ⟨dst, .call c, type, pos, after, guard⟩ a w (Out S φ mem nx w id K) := by
  simp only [Cfg.call, Option.bind_eq_bind, Option.bind_eq_some_iff] at hi
  obtain ⟨ys, hys, hi⟩ := hi
  split at hi
  · rename_i X hc
    simp only [Option.bind_eq_some_iff, Option.some.injEq] at hi
    obtain ⟨y, hy, rfl⟩ := hi
    cases own with
    | false =>
      simp only [Bool.false_eq_true, if_false] at hs
      obtain ⟨g, caps, ds, r, hf, hds, hp, himm, hK⟩ := pcK_out hs
      have hX := ro_sound hk hy hf
      simp only [Rep] at hX
      obtain ⟨vs, hX, hcaps⟩ := hX
      have hargs := opds_out c.args.toList ys ds hk hys hds
      rcases hp with hp | hp
      · refine does_call (by show (do let d ← resolve a.eval c type; invoke d.target d.args : Sem Next).run C.P w = _; exact call_run hp.1 hc hX) ?_
        exact pure_out hp himm (RepVs_append _ _ _ _ hargs hcaps) hm hK
      · obtain ⟨v, hv, hrun⟩ := hp S φ w _ (RepVs_append _ _ _ _ hargs hcaps)
        exact does_of hm hK hv (by show (do let d ← resolve a.eval c type; invoke d.target d.args : Sem Next).run C.P w = _; exact ext_run hc hX hrun)
    | true =>
      simp only [if_true] at hs
      obtain ⟨g, caps, ds, hf, hds, hp⟩ := clK_out hs
      have hX := ro_sound hk hy hf
      simp only [Rep] at hX
      obtain ⟨vs, hX, hcaps⟩ := hX
      have hargs := opds_out c.args.toList ys ds hk hys hds
      refine does_call (by show (do let d ← resolve a.eval c type; invoke d.target d.args : Sem Next).run C.P w = _; exact call_run hp.1 hc hX) ?_
      refine (hp.2 S φ w _ hm (RepVs_append _ _ _ _ hargs hcaps)).mono ?_
      rintro e w' ⟨v, d, mem', nx', S', φ', rfl, h1, h2, h3, h4, h5, h6, h7⟩
      exact ⟨v, rfl, d, mem', nx', S', φ', h1, h2, h4, h3, h5, h6, fun i _ hi hn => h7 i hi hn⟩
  · simp at hi
  · rename_i b hc
    have hrun : ∀ (xs : List Value) (r : Value) (w' : World), c.args.toList.map a.eval = xs → (builtin b c.argTypes type (c.args.map fun | .const _ => true | _ => false) xs.toArray).run C.P w = .ok (.value r) w' →
        (execOp a.eval ⟨dst, .call c, type, pos, after, guard⟩).run C.P w = .ok (.value r) w' := by
      intro xs r w' hxs hb
      have e : c.args.map a.eval = xs.toArray := by apply Array.ext'; simp [hxs]
      show (do let d ← resolve a.eval c type; invoke d.target d.args : Sem Next).run C.P w = _
      simp only [resolve, hc, Sem.run_bind, Sem.run_pure, Result.andThen_ok, invoke, e]
      exact hb
    split at hi
    · rename_i x t ts hts
      have hts0 : c.argTypes[0]? = some t := by rw [← Array.getElem?_toList, hts]; rfl
      obtain ⟨X, hX, hy⟩ := opds_one hys
      split at hi
      · rename_i hu
        simp only [Option.some.injEq] at hi; subst hi
        obtain ⟨d, r, h1, h2, h3⟩ := k1_out hs
        obtain ⟨v, hv, hl⟩ := len_sound (ty := type) (ts := c.argTypes) (cs := c.args.map fun | .const _ => true | _ => false) hts0 (.inl ⟨rfl, hu⟩) h2 (ro_sound hk hy h1) hm
        exact does_of hm h3 hv (hrun [a.eval X] v w (by rw [hX]; rfl) hl)
      · rename_i e hu
        simp only [Option.some.injEq] at hi; subst hi
        obtain ⟨d, r, h1, h2, h3⟩ := k1_out hs
        obtain ⟨v, hv, hl⟩ := len_sound (ty := type) (ts := c.argTypes) (cs := c.args.map fun | .const _ => true | _ => false) hts0 (.inr ⟨rfl, e, hu⟩) h2 (ro_sound hk hy h1) hm
        exact does_of hm h3 hv (hrun [a.eval X] v w (by rw [hX]; rfl) hl)
      · rename_i kt et hu
        simp only [Option.some.injEq] at hi; subst hi
        obtain ⟨d, r, h1, h2, h3⟩ := k1_out hs
        obtain ⟨v, hv, hl⟩ := lnm_sound (ty := type) (ts := c.argTypes) (cs := c.args.map fun | .const _ => true | _ => false) hts0 hu h2 (ro_sound hk hy h1) hm
        exact does_of hm h3 hv (hrun [a.eval X] v w (by rw [hX]; rfl) hl)
      · simp at hi
    · rename_i x1 y1 t u ts hts
      have hts0 : c.argTypes[0]? = some t := by rw [← Array.getElem?_toList, hts]; rfl
      have hts1 : c.argTypes[1]? = some u := by rw [← Array.getElem?_toList, hts]; rfl
      obtain ⟨X, Y, hX, hx1, hy1⟩ := opds_two hys
      split at hi
      · rename_i e e2 ht hu
        split at hi
        · rename_i g k inf z hsz hinf hz
          simp only [Option.ite_none_right_eq_some, Option.some.injEq] at hi
          obtain ⟨⟨q1, q2, q3, q4⟩, rfl⟩ := hi
          obtain ⟨ds, inf', _, hinf', hsz', _⟩ := tsz_out hsz
          have hA : App C.P k c.argTypes e inf z := ⟨⟨t, hts0, ht⟩, ⟨u, e2, hts1, hu⟩, hinf, by rw [hinf] at hinf'; rw [Option.some.inj hinf']; exact hsz', hz, q1, q2, q3, q4⟩
          cases own with
          | true =>
            simp only [if_true] at hs
            obtain ⟨d, m, h1, hK⟩ := km_out hs
            cases hdx : ro tl env x1 with
            | none => simp [hdx, appM, apnM] at h1
            | some dx =>
              cases hdy : ro tl env y1 with
              | none => rw [hdx, hdy] at h1; cases dx <;> simp [appM, apnM] at h1
              | some dy =>
                rw [hdx, hdy] at h1
                obtain ⟨r, w', hr, hout⟩ := app_sound (ty := type) hA h1 (ro_sound hk hx1 hdx) (ro_sound hk hy1 hdy) hm hid hlt hK
                refine does_value (hrun [a.eval X, a.eval Y] r w' (by rw [hX]; rfl) ?_) hout
                simp only [builtin, Sem.run_bind, hr, Result.andThen_ok, Sem.run_pure]
          | false =>
            simp only [Bool.false_eq_true, if_false] at hs
            obtain ⟨d, m, h1, hK⟩ := km_out hs
            cases hdx : ro tl env x1 with
            | none => simp [hdx, apnM] at h1
            | some dx =>
              cases hdy : ro tl env y1 with
              | none => simp [hdx, hdy, apnM] at h1
              | some dy =>
                rw [hdx, hdy] at h1
                obtain ⟨r, w', hr, hout⟩ := apn_sound (ty := type) hA h1 (ro_sound hk hx1 hdx) (ro_sound hk hy1 hdy) hm hid hlt hK
                refine does_value (hrun [a.eval X, a.eval Y] r w' (by rw [hX]; rfl) ?_) hout
                simp only [builtin, Sem.run_bind, hr, Result.andThen_ok, Sem.run_pure]
        · simp at hi
      · simp at hi
    all_goals
      first
      | (simp at hi; done)
      | (simp only [Option.some.injEq] at hi; subst hi
         obtain ⟨ds, r, h1, h2, h3⟩ := kl_out hs
         obtain ⟨v, hv, hl⟩ := bi_sound (ty := type) (ts := c.argTypes) (cs := c.args.map fun | .const _ => true | _ => false) h2 (opds_out _ _ _ hk hys h1)
         exact does_of hm h3 hv (hrun _ v w rfl hl))

theorem pick_sound {X A B : Operand} {x aa bb : Opd} {o : Oper} (ho : o.op = .pick X A B) (hk : Known C w S φ env tl a) (hX : C.opd X = some x) (hA : C.opd A = some aa) (hB : C.opd B = some bb) (hm : MSim S φ mem nx w)
    (hs : k1 (ro tl env x) (pickD (ro tl env aa) (ro tl env bb)) mem nx K) : Does C.P o a w (Out S φ mem nx w id K) := by
  obtain ⟨d, r, h1, h2, h3⟩ := k1_out hs
  have hx := ro_sound hk hX h1
  cases d with
  | pl u =>
    simp only [Rep] at hx
    cases u with
    | bool c =>
      cases c with
      | true =>
        refine does_of hm h3 (ro_sound hk hA h2) ?_
        unfold execOp; simp [ho, hx, asBool]
      | false =>
        refine does_of hm h3 (ro_sound hk hB h2) ?_
        unfold execOp; simp [ho, hx, asBool]
    | _ => simp [pickD] at h2
  | _ => simp [pickD] at h2

theorem bs_sound {dst : Option Tmp} {t e : TypeId} {len : Nat} {ps : Array (Nat × Operand)} {type : TypeId} {pos : String} {after : Array Edge} {guard : Option (Nat × Bool)} {own g : Bool} {k : Nat} {z : List Value} {q : List (Nat × Nat × Opd)}
    (ht : C.P.underlying t = some (.slice e)) (he : Program.tsz C.P e = some (g, k)) (hz : Program.zeroOf C.P e = some z) (h0 : len ≠ 0) (hlen : len * k ≤ 2 ^ 24) (hkp : 0 < k) (hzk : z.length = k) (hq : C.parts (fun i => some (i * k, k)) ps.toList = some q)
    (hs : stepI C id (if own then .bso k len z q else .bsl k len z q) env tl mem nx K) (hk : Known C w S φ env tl a) (hm : MSim S φ mem nx w) (hid : φ id = none) (hlt : id < nx) : Does C.P ⟨dst, .buildSlice t len ps, type, pos, after, guard⟩ a w (Out S φ mem nx w id K) := by
  cases own with
  | false =>
    simp only [Bool.false_eq_true, if_false] at hs
    obtain ⟨ds, d, h1, h2, h3⟩ := kl_out hs
    obtain ⟨es, h4, rfl⟩ := map_out h2
    obtain ⟨cs, hrun, hsz, hesl, _, out, hout, hol, rfl⟩ := bs_run (w := w) hk ht he hz h0 hlen hkp hzk hq h1 h4
    refine does_value (x := .slice (some ⟨w.heap.size, 0, none⟩) len len) (w' := w.alloc (.cells cs e)) ?_ ?_
    · unfold execOp; simp only [Sem.run_bind, hrun, Result.andThen_ok, Sem.run_pure]
    · have hnew := range_new (w := w) cs e (0, 0)
      obtain ⟨g1, g2, g3⟩ := alloc_imm hm (.cells cs e)
      refine ⟨_, mem, nx, _, φ, h3, Nat.le_refl _, ?_, g1, g2, g3, fun i _ _ hn => hn⟩
      simp only [Rep]
      exact .inr ⟨_, 0, len, k, by rw [chunks_length], by rw [chunks_length]; exact Nat.le_refl _, .inr rfl, chunks_rep k _ len out 0 hol (RepCs_of_vals _ _ _ _ (RepVs.mono g2 _ _ hout) hnew)⟩
  | true =>
    simp only [if_true] at hs
    obtain ⟨d, m, h1, h3⟩ := km_out hs
    cases hr : rps tl env q with
    | none => simp [hr, bsoM] at h1
    | some ds =>
      rw [hr] at h1
      simp only [bsoM] at h1
      split at h1
      · rename_i es h4
        simp only [Option.some.injEq, Prod.mk.injEq] at h1
        obtain ⟨rfl, rfl⟩ := h1
        obtain ⟨cs, hrun, hsz, hesl, _, out, hout, hol, rfl⟩ := bs_run (w := w) hk ht he hz h0 hlen hkp hzk hq hr h4
        refine does_value (x := .slice (some ⟨w.heap.size, 0, none⟩) len len) (w' := w.alloc (.cells cs e)) ?_ ?_
        · unfold execOp; simp only [Sem.run_bind, hrun, Result.andThen_ok, Sem.run_pure]
        · have hnew := range_new (w := w) cs e (0, 0)
          obtain ⟨φ', g1, g2, g3, g4, g5⟩ := alloc_own (l := ⟨true, true, w.heap.size, 0, k, 0, len * k⟩) (blk := .arr 0 k (chunks k len out)) hm (.cells cs e) hid hlt rfl rfl (by
            intro φ' hst'
            simp only [BRep]
            exact ⟨trivial, trivial, trivial, .inr ⟨trivial, ⟨cs, e, alloc_new _, hsz⟩, by rw [chunks_length]; simp, chunks_rep k _ len out 0 hol (RepCs_of_vals _ _ _ _ (RepVs.mono hst' _ _ hout) hnew)⟩⟩)
          refine ⟨_, _, nx, S, φ', h3, Nat.le_refl _, ?_, g2, g3, g4, fun i hi _ hn => by rw [g5 i hi]; exact hn⟩
          simp only [Rep]
          exact ⟨_, g1, Nat.le_refl _, ⟨_, _, _, rfl⟩, fun _ => .inr ⟨rfl, len, by simp, Nat.le_refl _, by simp⟩⟩
      · simp at h1

theorem step_sound {o : Oper} {own : Bool} {i : I} (hi : C.op own o.op = some i) (hs : stepI C id i env tl mem nx K) (hk : Known C w S φ env tl a) (hm : MSim S φ mem nx w) (hid : φ id = none) (hlt : id < nx) :
    Does C.P o a w (Out S φ mem nx w id K) := by
  obtain ⟨dst, op, type, pos, after, guard⟩ := o
  cases op with
  | move x =>
    obtain ⟨y, hy, rfl⟩ := map_out hi
    obtain ⟨d, h1, h2⟩ := k0_out hs
    exact does_of hm h2 (ro_sound hk hy h1) (by unfold execOp; simp)
  | assign x =>
    obtain ⟨y, hy, rfl⟩ := map_out hi
    obtain ⟨d, h1, h2⟩ := k0_out hs
    exact does_of hm h2 (ro_sound hk hy h1) (by unfold execOp; simp)
  | pick x y z =>
    simp only [Cfg.op, Option.bind_eq_bind, Option.bind_eq_some_iff, Option.some.injEq] at hi
    obtain ⟨x', hx, y', hy, z', hz, rfl⟩ := hi
    exact pick_sound rfl hk hx hy hz hm hs
  | alloc e =>
    obtain ⟨z, hz, rfl⟩ := map_out hi
    exact al_sound rfl hz hm hid hlt hs
  | box e x =>
    obtain ⟨y, hy, hi⟩ := map_out hi
    cases own with
    | true =>
      simp only [if_true] at hi; subst hi
      obtain ⟨d, m, h1, h2⟩ := km_out hs
      cases hd : ro tl env y with
      | none => simp [hd, bxM] at h1
      | some dd =>
        rw [hd] at h1
        simp only [bxM, Option.ite_none_right_eq_some, Option.some.injEq, Prod.mk.injEq] at h1
        obtain ⟨h3, rfl, rfl⟩ := h1
        exact bx_sound rfl h3 (ro_sound hk hy hd) hm hid hlt h2
    | false =>
      simp only [Bool.false_eq_true, if_false] at hi; subst hi
      obtain ⟨d, r, h1, h2, h3⟩ := k1_out hs
      simp only [bxiD, Option.ite_none_right_eq_some, Option.some.injEq] at h2
      obtain ⟨h4, rfl⟩ := h2
      exact bxi_sound rfl h4 (ro_sound hk hy h1) hm h3
  | build t ps =>
    simp only [Cfg.op] at hi
    split at hi
    · rename_i z fs hz ht
      simp only [Option.ite_none_right_eq_some] at hi
      obtain ⟨hall, hi⟩ := hi
      obtain ⟨q, hq, rfl⟩ := map_out hi
      obtain ⟨ds, r, h1, h2, h3⟩ := kl_out hs
      obtain ⟨v, hv, hrun⟩ := bld_struct (w := w) (S := S) (φ := φ) hk hz ht hall hq h1 h2
      exact does_of hm h3 hv (by unfold execOp; simp only [Sem.run_bind, hrun, Result.andThen_ok, Sem.run_pure])
    · rename_i z len e hz ht
      split at hi
      · rename_i g k he
        obtain ⟨q, hq, rfl⟩ := map_out hi
        obtain ⟨ds, r, h1, h2, h3⟩ := kl_out hs
        obtain ⟨v, hv, hrun⟩ := bld_array (w := w) (S := S) (φ := φ) hk hz ht he hq h1 h2
        exact does_of hm h3 hv (by unfold execOp; simp only [Sem.run_bind, hrun, Result.andThen_ok, Sem.run_pure])
      · simp at hi
    · simp at hi
  | buildSlice t len ps =>
    simp only [Cfg.op] at hi
    split at hi
    · rename_i e ht
      split at hi
      · rename_i g k z he hz
        split at hi
        · rename_i h0
          simp only [Option.ite_none_right_eq_some, Option.some.injEq] at hi
          obtain ⟨hps, rfl⟩ := hi
          obtain ⟨ds, inf, _, hinf, hsz, _⟩ := tsz_out he
          have hp : ps = #[] := by simpa using hps
          subst h0 hp
          obtain ⟨g1, g2, g3⟩ := alloc_imm hm (.cells #[] e)
          refine does_value (x := .slice (some ⟨w.heap.size, 0, none⟩) 0 0) (w' := w.alloc (.cells #[] e)) ?_ ⟨_, mem, nx, _, φ, hs, Nat.le_refl _, ?_, g1, g2, g3, fun i _ _ hn => hn⟩
          · unfold execOp
            have hemp : ∀ f : Nat → Value, Array.map f (Array.range 0) = #[] := by intro f; simp
            simp only [Instr.buildSlice, Sem.run_bind, run_underlying ht, Result.andThen_ok, run_sizeOf hinf, Nat.zero_mul]
            rw [if_neg (by omega)]
            simp only [if_true, Sem.run_bind, Sem.run_pure, Result.andThen_ok, hemp]
            simp only [Array.map_empty, Instr.fill, Sem.run_bind, newRow, run_newObj, Result.andThen_ok, Sem.run_pure]
            rfl
          · simp only [Rep]
            exact .inr ⟨_, rfl⟩
        · rename_i h0
          simp only [Option.ite_none_right_eq_some] at hi
          obtain ⟨⟨h1, h2, h3⟩, hi⟩ := hi
          obtain ⟨q, hq, rfl⟩ := map_out hi
          exact bs_sound ht he hz h0 h1 h2 h3 hq hs hk hm hid hlt
      · simp at hi
    · simp at hi
  | load t x =>
    simp only [Cfg.op] at hi
    split at hi
    · rename_i g n ht
      obtain ⟨y, hy, rfl⟩ := map_out hi
      obtain ⟨d, r, h1, h2, h3⟩ := k1_out hs
      obtain ⟨v, hv, hrun⟩ := ld_sound ht h2 hm (ro_sound hk hy h1)
      exact does_of hm h3 hv (by unfold execOp; simp only [Sem.run_bind, hrun, Result.andThen_ok, Sem.run_pure])
    · simp at hi
  | store t x y =>
    simp only [Cfg.op] at hi
    split at hi
    · rename_i g n ht
      simp only [Option.bind_eq_bind, Option.bind_eq_some_iff, Option.some.injEq] at hi
      obtain ⟨x', hx, y', hy, rfl⟩ := hi
      obtain ⟨d, m, h1, h2⟩ := km_out hs
      cases hdx : ro tl env x' with
      | none => simp [hdx, stM] at h1
      | some dx =>
        cases hdy : ro tl env y' with
        | none => simp [hdx, hdy, stM] at h1
        | some dy =>
          rw [hdx, hdy] at h1
          simp only [stM] at h1
          split at h1
          · rename_i m' hw
            simp only [Option.some.injEq, Prod.mk.injEq] at h1
            obtain ⟨rfl, rfl⟩ := h1
            obtain ⟨w', hrun, g1, g2, g3⟩ := wrc_sound ht hw hm (ro_sound hk hx hdx) (ro_sound hk hy hdy)
            refine does_skip (w' := w') (by unfold execOp; simp only [Sem.run_bind, hrun, Result.andThen_ok, Sem.run_pure]) ⟨_, _, nx, S, φ, h2, Nat.le_refl _, by simp [Rep], g1, g2, g3, fun _ _ _ h => h⟩
          · simp at h1
    · simp at hi
  | nilCheck x =>
    obtain ⟨y, hy, rfl⟩ := map_out hi
    obtain ⟨d, r, h1, h2, h3⟩ := k1_out hs
    obtain ⟨v, hv, hrun⟩ := chk_sound (C := C) (o := ⟨dst, .nilCheck x, type, pos, after, guard⟩) rfl h2 (ro_sound hk hy h1)
    exact does_of hm h3 hv hrun
  | binOp b t x y yt =>
    simp only [Cfg.op, Option.bind_eq_bind, Option.bind_eq_some_iff, Option.some.injEq] at hi
    obtain ⟨x', hx, y', hy, rfl⟩ := hi
    obtain ⟨dx, dy, r, h1, h2, h3, h4⟩ := k2_out hs
    obtain ⟨v, hv, hrun⟩ := bin_sound (X := x) (Y := y) h3 (ro_sound hk hx h1) (ro_sound hk hy h2)
    exact does_of hm h4 hv (by unfold execOp; simp only [Sem.run_bind] at hrun ⊢; simp only [hrun, Result.andThen_ok, Sem.run_pure])
  | unOp u t x =>
    obtain ⟨y, hy, rfl⟩ := map_out hi
    obtain ⟨d, r, h1, h2, h3⟩ := k1_out hs
    obtain ⟨v, hv, hrun⟩ := un_sound h2 (ro_sound hk hy h1)
    exact does_of hm h3 hv (by unfold execOp; simp only [Sem.run_bind, hrun, Result.andThen_ok, Sem.run_pure])
  | convert s t x =>
    obtain ⟨y, hy, rfl⟩ := map_out hi
    obtain ⟨d, r, h1, h2, h3⟩ := k1_out hs
    obtain ⟨v, hv, hrun⟩ := cv_sound h2 (ro_sound hk hy h1)
    exact does_of hm h3 hv (by unfold execOp; simp only [Sem.run_bind, hrun, Result.andThen_ok, Sem.run_pure])
  | makeFunc fn first caps =>
    cases fn with
    | func f =>
      simp only [Cfg.op, Option.ite_none_right_eq_some] at hi
      obtain ⟨hf, hi⟩ := hi
      obtain ⟨ys, hys, rfl⟩ := map_out hi
      obtain ⟨ds, r, h1, h2, h3⟩ := kl_out hs
      simp only [mkfD, Option.some.injEq] at h2; subst h2
      have hfe : first = #[] := by simpa using hf
      subst hfe
      refine does_of (r := .func (.func f) #[] (caps.map a.eval)) hm h3 ?_ ?_
      · simp only [Rep]
        exact ⟨_, rfl, by simpa using opds_out _ _ _ hk hys h1⟩
      · unfold execOp; simp [Instr.makeFunc]
    | _ => simp [Cfg.op] at hi
  | makeSlice t l c =>
    simp only [Cfg.op] at hi
    split at hi
    · rename_i e ht
      have fin : ∀ (g : Bool) (k : Nat) (inf : TypeInfo) (z : List Value) (y : Opd), Program.tsz C.P e = some (g, k) → C.P.info? e = some inf → Program.zeroOf C.P e = some z → 0 < k → z.length = k → 0 < inf.bytes → C.opd l = some y → a.eval l = a.eval c →
          i = (if own then .mks k inf.bytes z y else .mki k inf.bytes z y) → Does C.P ⟨dst, .makeSlice t l c, type, pos, after, guard⟩ a w (Out S φ mem nx w id K) := by
        intro g k inf z y he hinf hz hkp hzk hb hy hlc hi'
        subst hi'
        cases own with
        | true =>
          simp only [if_true] at hs
          obtain ⟨d, m, h1, h2⟩ := km_out hs
          unfold mksM at h1
          split at h1
          · rename_i n hro
            simp only [Option.ite_none_right_eq_some, Option.some.injEq, Prod.mk.injEq] at h1
            obtain ⟨⟨h3, h4⟩, rfl, rfl⟩ := h1
            have hv := ro_sound hk hy hro
            simp only [Rep] at hv
            exact mks_sound rfl ht he hinf hz hkp hzk hb hv (by rw [← hlc]; exact hv) h3 h4 hm hid hlt h2
          · simp at h1
        | false =>
          simp only [Bool.false_eq_true, if_false] at hs
          obtain ⟨d, r, h1, h2, h3⟩ := k1_out hs
          unfold mkiD at h2
          split at h2
          · rename_i n
            simp only [Option.ite_none_right_eq_some, Option.some.injEq] at h2
            obtain ⟨⟨h4, h5⟩, rfl⟩ := h2
            have hv := ro_sound hk hy h1
            simp only [Rep] at hv
            exact mki_sound rfl ht he hinf hz hkp hzk hb hv (by rw [← hlc]; exact hv) h4 h5 hm h3
          · simp at h2
      split at hi
      · rename_i g k inf z i1 i2 he hinf hz
        simp only [Option.ite_none_right_eq_some] at hi
        obtain ⟨⟨rfl, h2, h3, h4⟩, hi⟩ := hi
        obtain ⟨y, hy, hi⟩ := map_out hi
        exact fin g k inf z y he hinf hz h2 h3 h4 hy rfl hi.symm
      · rename_i g k inf z i1 i2 he hinf hz
        simp only [Option.ite_none_right_eq_some] at hi
        obtain ⟨⟨rfl, h2, h3, h4⟩, hi⟩ := hi
        obtain ⟨y, hy, hi⟩ := map_out hi
        exact fin g k inf z y he hinf hz h2 h3 h4 hy rfl hi.symm
      · simp at hi
    · simp at hi
  | slice t x lo hi' mx =>
    cases mx with
    | some m => simp [Cfg.op] at hi
    | none =>
      simp only [Cfg.op] at hi
      have hopt : ∀ (yx : Opd) (ylo yhi : Option Opd) (s : Bool) (k : Nat) (d : D), slsO mem s k (ro tl env yx) (roo tl env ylo) (roo tl env yhi) = some d →
          ∃ dx dlo dhi, ro tl env yx = some dx ∧ roo tl env ylo = some dlo ∧ roo tl env yhi = some dhi ∧ slsD mem s k dx dlo dhi = some d := by
        intro yx ylo yhi s k d h
        unfold slsO at h
        split at h
        · exact ⟨_, _, _, by assumption, by assumption, by assumption, h⟩
        · simp at h
      split at hi
      · rename_i ht
        simp only [Option.bind_eq_bind, Option.bind_eq_some_iff, Option.some.injEq] at hi
        obtain ⟨yx, hyx, ylo, hylo, yhi, hyhi, rfl⟩ := hi
        obtain ⟨d, h1, h2⟩ := k0_out hs
        obtain ⟨dx, dlo, dhi, e1, e2, e3, h3⟩ := hopt _ _ _ _ _ _ h1
        obtain ⟨v, hv, hrun⟩ := sls_string (C := C) ht h3 (ro_sound hk hyx e1) (opdo_out hk hylo e2) (opdo_out hk hyhi e3)
        exact does_of hm h2 hv (by unfold execOp; simp only [Sem.run_bind, Option.map_none, hrun, Result.andThen_ok, Sem.run_pure])
      · rename_i e ht
        split at hi
        · rename_i g k he
          simp only [Option.bind_eq_bind, Option.bind_eq_some_iff, Option.some.injEq] at hi
          obtain ⟨yx, hyx, ylo, hylo, yhi, hyhi, rfl⟩ := hi
          obtain ⟨d, h1, h2⟩ := k0_out hs
          obtain ⟨dx, dlo, dhi, e1, e2, e3, h3⟩ := hopt _ _ _ _ _ _ h1
          obtain ⟨v, hv, hrun⟩ := sls_slice ht he h3 (ro_sound hk hyx e1) (opdo_out hk hylo e2) (opdo_out hk hyhi e3) hm
          exact does_of hm h2 hv (by unfold execOp; simp only [Sem.run_bind, Option.map_none, hrun, Result.andThen_ok, Sem.run_pure])
        · simp at hi
      · simp at hi
  | fieldAddr s x f =>
    simp only [Cfg.op] at hi
    split at hi
    · rename_i fs hs'
      split at hi
      · rename_i fd hf
        split at hi
        · rename_i g n ht
          split at hi
          · simp at hi
          · rename_i hn
            obtain ⟨y, hy, rfl⟩ := map_out hi
            obtain ⟨d, r, h1, h2, h3⟩ := k1_out hs
            obtain ⟨v, hv, hrun⟩ := fa_sound hs' hf ht hn h2 (ro_sound hk hy h1) hm
            exact does_of hm h3 hv (by unfold execOp; simp only [Sem.run_bind, hrun, Result.andThen_ok, Sem.run_pure])
        · simp at hi
      · simp at hi
    · simp at hi
  | field s x f =>
    simp only [Cfg.op] at hi
    split at hi
    · rename_i fs hs'
      split at hi
      · rename_i fd hf
        split at hi
        · rename_i g n ht
          obtain ⟨y, hy, rfl⟩ := map_out hi
          obtain ⟨d, r, h1, h2, h3⟩ := k1_out hs
          obtain ⟨v, hv, hrun⟩ := fld_sound hs' hf ht h2 (ro_sound hk hy h1)
          exact does_of hm h3 hv (by unfold execOp; simp only [Sem.run_bind, hrun, Result.andThen_ok, Sem.run_pure])
        · simp at hi
      · simp at hi
    · simp at hi
  | indexAddr t x y =>
    simp only [Cfg.op] at hi
    split at hi
    · rename_i e ht
      split at hi
      · rename_i g k he
        simp only [Option.bind_eq_bind, Option.bind_eq_some_iff, Option.some.injEq] at hi
        obtain ⟨x', hx, y', hy, rfl⟩ := hi
        obtain ⟨dx, dy, r, h1, h2, h3, h4⟩ := k2_out hs
        obtain ⟨v, hv, hrun⟩ := ia_sound ht he h3 (ro_sound hk hx h1) (ro_sound hk hy h2) hm
        exact does_of hm h4 hv (by unfold execOp; simp only [Sem.run_bind, hrun, Result.andThen_ok, Sem.run_pure])
      · simp at hi
    · split at hi
      · rename_i g k he
        simp only [Option.bind_eq_bind, Option.bind_eq_some_iff, Option.some.injEq] at hi
        obtain ⟨x', hx, y', hy, rfl⟩ := hi
        obtain ⟨dx, dy, r, h1, h2, h3, h4⟩ := k2_out hs
        obtain ⟨v, hv, hrun⟩ := iaa_sound (by assumption) he h3 (ro_sound hk hx h1) (ro_sound hk hy h2) hm
        exact does_of hm h4 hv (by unfold execOp; simp only [Sem.run_bind, hrun, Result.andThen_ok, Sem.run_pure])
      · simp at hi
    · simp at hi
  | index t x y =>
    simp only [Cfg.op] at hi
    split at hi
    · rename_i ht
      simp only [Option.bind_eq_bind, Option.bind_eq_some_iff, Option.some.injEq] at hi
      obtain ⟨x', hx, y', hy, rfl⟩ := hi
      obtain ⟨dx, dy, r, h1, h2, h3, h4⟩ := k2_out hs
      obtain ⟨v, hv, hrun⟩ := ixs_sound (C := C) ht h3 (ro_sound hk hx h1) (ro_sound hk hy h2)
      exact does_of hm h4 hv (by unfold execOp; simp only [Sem.run_bind, hrun, Result.andThen_ok, Sem.run_pure])
    · simp at hi
  | makeMap t r =>
    cases r with
    | some r => simp [Cfg.op] at hi
    | none =>
      simp only [Cfg.op] at hi
      split at hi
      · simp only [Option.some.injEq] at hi; subst hi
        exact mkm_sound (t := t) (kt := 0) (et := 0) rfl hm hid hlt hs
      · simp at hi
  | lookup t x y two =>
    simp only [Cfg.op] at hi
    split at hi
    · rename_i kt et ht
      split at hi
      · rename_i kd inf hkd hinf
        split at hi
        · rename_i z hz
          simp only [Option.bind_eq_bind, Option.bind_eq_some_iff, Option.some.injEq] at hi
          obtain ⟨x', hx, y', hy, rfl⟩ := hi
          obtain ⟨dx, dy, r, h1, h2, h3, h4⟩ := k2_out hs
          obtain ⟨v, hv, hrun⟩ := lk_sound ht hkd hinf hz h3 (ro_sound hk hx h1) (ro_sound hk hy h2) hm
          exact does_of hm h4 hv (by unfold execOp; simp only [Sem.run_bind, hrun, Result.andThen_ok, Sem.run_pure])
        · simp at hi
      · simp at hi
    · simp at hi
  | mapUpdate t x y z =>
    simp only [Cfg.op] at hi
    split at hi
    · rename_i kt et ht
      split at hi
      · rename_i kd hkd
        simp only [Option.bind_eq_bind, Option.bind_eq_some_iff, Option.some.injEq] at hi
        obtain ⟨x', hx, y', hy, z', hz, rfl⟩ := hi
        obtain ⟨d, m, h1, h2⟩ := km_out hs
        cases hdx : ro tl env x' with
        | none => simp [hdx, mupM] at h1
        | some dx =>
          cases hdy : ro tl env y' with
          | none => simp [hdy, mupM] at h1
          | some dy =>
            cases hdz : ro tl env z' with
            | none => simp [hdz, mupM] at h1
            | some dz =>
              rw [hdx, hdy, hdz] at h1
              obtain ⟨w', hrun, g1, g2, g3, rfl⟩ := mup_sound ht hkd h1 (ro_sound hk hx hdx) (ro_sound hk hy hdy) (ro_sound hk hz hdz) hm
              refine does_skip (w' := w') (by unfold execOp; simp only [Sem.run_bind, hrun, Result.andThen_ok, Sem.run_pure]) ⟨_, _, nx, S, φ, h2, Nat.le_refl _, by simp [Rep], g1, g2, g3, fun _ _ _ h => h⟩
      · simp at hi
    · simp at hi
  | extract x j =>
    obtain ⟨y, hy, rfl⟩ := map_out hi
    obtain ⟨d, r, h1, h2, h3⟩ := k1_out hs
    obtain ⟨v, hv, hrun⟩ := ext_sound (C := C) h2 (ro_sound hk hy h1)
    exact does_of hm h3 hv (by unfold execOp; simp only [Sem.run_bind, hrun, Result.andThen_ok, Sem.run_pure])
  | call c => exact call_sound hi hs hk hm hid hlt
  | _ => simp [Cfg.op] at hi
end
end Go.Fx

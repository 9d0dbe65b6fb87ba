/-
  Arrays behind addresses, bytes of texts, maps: one operation of the model's is what it is on deep values.
-/
import Derived.Test.YtaiklblnfebdfaaX11
import Derived.MapKept
set_option linter.all false
namespace Go.Fx
open Go
section
variable {C : Cfg} {w w' : World} {S : Nat → Prop} {φ : Locs} {a : Act} {env tl : Env} {mem : Mem} {nx id : Nat} {K : KD}

theorem fa_at {off : Nat} {x d : D} {v : Value} (h : faD mem off x = some d) (hx : Rep w S φ x v) (hm : MSim S φ mem nx w) : ∃ b o, v = .pointer (some ⟨b, o, none⟩) ∧ Rep w S φ d (.pointer (some ⟨b, o + off, none⟩)) := by
  cases x with
  | pt cs =>
    simp only [faD, Option.ite_none_right_eq_some, Option.some.injEq] at h
    obtain ⟨_, rfl⟩ := h
    simp only [Rep] at hx ⊢
    obtain ⟨b, o, rfl, hS, hc⟩ := hx
    exact ⟨b, o, rfl, b, o + off, rfl, hS, RepCs_drop _ _ _ _ hc⟩
  | opt i o =>
    simp only [faD, Option.some.injEq] at h; subst h
    simp only [Rep] at hx ⊢
    obtain ⟨l, hl, ha, rfl⟩ := hx
    exact ⟨_, _, rfl, l, hl, ha, by rw [Nat.add_assoc]⟩
  | oel i ver ix o =>
    simp only [faD, Option.ite_none_right_eq_some, Option.some.injEq] at h
    obtain ⟨hc, rfl⟩ := h
    obtain ⟨k, es, l, _, hl, hv, _, _⟩ := curv_out hc hm
    simp only [Rep] at hx ⊢
    obtain ⟨l', hl', hle, hsh, hx⟩ := hx
    rw [hl] at hl'; simp only [Option.some.injEq] at hl'; subst hl'
    obtain ⟨hr, rfl⟩ := hx hv
    exact ⟨_, _, rfl, l, hl, hle, ⟨_, rfl⟩, fun _ => ⟨hr, by rw [Nat.add_assoc]⟩⟩
  | _ => simp [faD] at h

theorem iaa_sound {t e : TypeId} {len : Nat} {g : Bool} {k : Nat} {x i d : D} {v u : Value} (ht : C.P.underlying t = some (.array len e)) (he : Program.tsz C.P e = some (g, k)) (h : iaaD mem len k x i = some d)
    (hx : Rep w S φ x v) (hi : Rep w S φ i u) (hm : MSim S φ mem nx w) : ∃ r, Rep w S φ d r ∧ (Instr.indexAt t v u).run C.P w = .ok r w := by
  obtain ⟨ds, inf, hu, hinf, hsz, _⟩ := tsz_out he
  unfold iaaD at h
  split at h
  · rename_i kk n
    simp only [Option.ite_none_right_eq_some] at h
    obtain ⟨⟨h0, h1⟩, h⟩ := h
    simp only [Rep] at hi; subst hi
    obtain ⟨b, o, rfl, hr⟩ := fa_at h hx hm
    refine ⟨_, hr, ?_⟩
    simp only [Instr.indexAt, Sem.run_bind, run_asIntOf, run_underlying ht, Result.andThen_ok, Instr.sureAddr, Sem.run_pure]
    rw [if_pos ⟨h0, h1⟩]
    simp only [Sem.run_bind, run_sizeOf hinf, Result.andThen_ok, Sem.run_pure, hsz, Addr.add_mid]
  · simp at h

theorem ixs_sound {t : TypeId} {x i d : D} {v u : Value} (ht : C.P.underlying t = some .string) (h : ixsD x i = some d) (hx : Rep w S φ x v) (hi : Rep w S φ i u) : ∃ r, Rep w S φ d r ∧ (Instr.index t v u).run C.P w = .ok r w := by
  unfold ixsD at h
  split at h
  · rename_i s kk n
    simp only [Rep] at hx hi; subst hx hi
    split at h
    · rename_i b hb
      simp only [Option.some.injEq] at h; subst h
      refine ⟨.int .u8 b.toNat, by simp only [Rep], ?_⟩
      simp only [Instr.index, Sem.run_bind, run_asIntOf, run_underlying ht, Result.andThen_ok, hb, Sem.run_pure]
    · simp at h
  · simp at h

/-! #### Maps -/
def KeyT (P : Program) (t : TypeId) (kd : Option IntKind) (d : TypeDesc) : Prop := P.underlying t = some d ∧ ((∃ k, kd = some k ∧ d = .int k) ∨ (kd = none ∧ d = .string))

theorem keyKind_out {t : TypeId} {kd : Option IntKind} (h : C.keyKind t = some kd) : ∃ d, KeyT C.P t kd d := by
  unfold Cfg.keyKind at h
  split at h
  · rename_i k hk
    simp only [Option.some.injEq] at h; subst h
    exact ⟨_, hk, .inl ⟨k, rfl, rfl⟩⟩
  · rename_i hk
    simp only [Option.some.injEq] at h; subst h
    exact ⟨_, hk, .inr ⟨rfl, rfl⟩⟩
  · simp at h

theorem kOk_isKey {t : TypeId} {kd : Option IntKind} {d : TypeDesc} {k : Value} (h : KeyT C.P t kd d) (hk : kOk kd k = true) : MapKept.IsKey d k := by
  obtain ⟨_, ⟨k0, rfl, rfl⟩ | ⟨rfl, rfl⟩⟩ := h
  · cases k <;> simp [kOk] at hk; simpa [MapKept.IsKey] using hk
  · cases k <;> simp [kOk] at hk; simp [MapKept.IsKey]

theorem same_now {t : TypeId} {kd : Option IntKind} {d : TypeDesc} {k j : Value} (h : KeyT C.P t kd d) (hk : kOk kd k = true) (hj : kOk kd j = true) : Instr.sameNow d k j = some (keyEq j k) ∧ (keyEq j k = true → j = k) := by
  have e : keyEq j k = true ↔ j = k := by
    cases kd <;> cases k <;> simp [kOk] at hk <;> cases j <;> simp [kOk] at hj
    · simp [keyEq]
    · subst hk hj; simp [keyEq]
  obtain ⟨r, h1, h2⟩ := MapKept.sameNow_of_keys (kOk_isKey h hk) (kOk_isKey h hj)
  refine ⟨?_, e.1⟩
  rw [h1]
  congr 1
  rw [Bool.eq_iff_iff, h2, e]
  exact eq_comm

theorem find_rep {t : TypeId} {kd : Option IntKind} {d : TypeDesc} {k : Value} (h : KeyT C.P t kd d) (hk : kOk kd k = true) : ∀ (es : List (Value × D)) (ms : List MapEntry) (i : Nat), RepMs w S φ es ms → es.all (fun e => kOk kd e.1) = true →
    (mfind k es = none ∧ Instr.findNow d k ms i = some none ∧ ∀ v, mput k v es = es ++ [(k, v)]) ∨
    ∃ j m dv, mfind k es = some dv ∧ Instr.findNow d k ms i = some (some (i + j, m.val)) ∧ ms[j]? = some m ∧ m.key = k ∧ Rep w S φ dv m.val ∧
      ∀ (w2 : World) (v : D) (x : Value), RepMs w2 S φ es ms → Rep w2 S φ v x → RepMs w2 S φ (mput k v es) (ms.set j { m with val := x })
  | [], ms, i, hr, _ => by
    simp only [RepMs] at hr; subst hr
    exact .inl ⟨rfl, rfl, fun v => rfl⟩
  | e :: es, ms, i, hr, ha => by
    obtain ⟨m, r, rfl, h1, h2, h3⟩ := hr
    simp only [List.all_cons, Bool.and_eq_true] at ha
    obtain ⟨s1, s2⟩ := same_now h hk ha.1
    cases hq : keyEq e.1 k with
    | true =>
      rw [hq] at s1
      refine .inr ⟨0, m, e.2, by simp [mfind, hq], by simp [Instr.findNow, h1, s1], rfl, by rw [h1]; exact s2 hq, h2, fun w2 v x hr2 hv => ?_⟩
      obtain ⟨m', r', e1, g1, g2, g3⟩ := hr2
      simp only [List.cons.injEq] at e1
      obtain ⟨rfl, rfl⟩ := e1
      simp only [mput, hq, if_true, List.set_cons_zero]
      exact ⟨_, _, rfl, by rw [g1]; exact s2 hq, hv, g3⟩
    | false =>
      rw [hq] at s1
      rcases find_rep h hk es r (i + 1) h3 ha.2 with ⟨g1, g2, g3⟩ | ⟨j, m', dv, g1, g2, g3, g4, g5, g6⟩
      · exact .inl ⟨by simp [mfind, hq, g1], by simp [Instr.findNow, h1, s1, g2], fun v => by simp [mput, hq, g3]⟩
      · refine .inr ⟨j + 1, m', dv, by simp [mfind, hq, g1], by simp [Instr.findNow, h1, s1, g2]; omega, by simpa using g3, g4, g5, fun w2 v x hr2 hv => ?_⟩
        obtain ⟨m2, r2, e1, k1, k2, k3⟩ := hr2
        simp only [List.cons.injEq] at e1
        obtain ⟨rfl, rfl⟩ := e1
        simp only [mput, hq, Bool.false_eq_true, if_false, List.set_cons_succ]
        exact ⟨_, _, rfl, k1, k2, g6 w2 v x k3 hv⟩

theorem RepMs_append : ∀ (es fs : List (Value × D)) (ms ns : List MapEntry), RepMs w S φ es ms → RepMs w S φ fs ns → RepMs w S φ (es ++ fs) (ms ++ ns)
  | [], fs, ms, ns, h, k => by simp only [RepMs] at h; subst h; exact k
  | e :: es, fs, ms, ns, ⟨m, r, h1, h2, h3, h4⟩, k => ⟨m, r ++ ns, by rw [h1]; rfl, h2, h3, RepMs_append es fs r ns h4 k⟩
theorem RepMs_length : ∀ (es : List (Value × D)) (ms : List MapEntry), RepMs w S φ es ms → ms.length = es.length
  | [], ms, h => by simp only [RepMs] at h; rw [h]; rfl
  | e :: es, ms, ⟨m, r, h1, h2, h3, h4⟩ => by rw [h1]; simp [RepMs_length es r h4]

theorem zD_rep (z : Value) : Rep w S φ (zD z) z := by
  unfold zD
  split
  · simp only [Rep]; exact ⟨_, rfl, RepVs_pl _⟩
  · simp only [Rep]

theorem map_at {i : Nat} {es : List (Value × D)} {v : Value} (hl : look mem i = some (.map es)) (hx : Rep w S φ (.omap i) v) (hm : MSim S φ mem nx w) :
    ∃ l ms clock, φ i = some l ∧ l.real = true ∧ l.arr = false ∧ v = .map (some l.b) ∧ w.heap[l.b]? = some (.map ms clock) ∧ RepMs w S φ es ms.toList := by
  simp only [Rep] at hx
  obtain ⟨l, h1, h2, rfl⟩ := hx
  obtain ⟨l', g1, g2, g3⟩ := hm.mem i _ hl
  rw [h1] at g1; simp only [Option.some.injEq] at g1; subst g1
  simp only [BRep] at g3
  obtain ⟨k1, k2, ms, clock, k3, k4⟩ := g3
  exact ⟨l, ms, clock, h1, k1, k2, rfl, k3, k4⟩

theorem lk_sound {t kt et : TypeId} {kd : Option IntKind} {inf : TypeInfo} {z : Value} {two : Bool} {m k d : D} {v u : Value} (ht : C.P.underlying t = some (.map kt et)) (hkd : C.keyKind kt = some kd)
    (hinf : C.P.info? et = some inf) (hz : inf.zero = some z) (h : lkD mem kd z two m k = some d) (hx : Rep w S φ m v) (hk : Rep w S φ k u) (hm : MSim S φ mem nx w) :
    ∃ r, Rep w S φ d r ∧ (Instr.lookup t v u two).run C.P w = .ok r w := by
  obtain ⟨td, htd⟩ := keyKind_out hkd
  unfold lkD at h
  split at h
  · rename_i kv es hes
    simp only [Option.ite_none_right_eq_some, Option.some.injEq] at h
    obtain ⟨hko, h⟩ := h
    simp only [Rep] at hk; subst hk
    have hzr : (zeroValue et).run C.P w = .ok z w := by
      simp [zeroValue, Sem.run_bind, run_typeInfo hinf, hz]
    have fin : ∀ (ms : List MapEntry), RepMs w S φ es ms → es.all (fun e => kOk kd e.1) = true →
        ∃ r fr, Rep w S φ d r ∧ (Instr.findKey kt u ms).run C.P w = .ok fr w ∧ r = (match fr with | some (_, v) => if two then .tuple #[v, .bool true] else v | none => if two then .tuple #[z, .bool false] else z) := by
      intro ms hrep hall
      rcases find_rep htd hko es ms 0 hrep hall with ⟨g1, g2, g3⟩ | ⟨j, m', dv, g1, g2, g3, g4, g5, g6⟩
      · rw [g1] at h
        simp only at h
        refine ⟨if two then .tuple #[z, .bool false] else z, none, ?_, MapKept.run_findKey htd.1 g2, rfl⟩
        subst h
        cases two
        · exact zD_rep z
        · simp only [if_true, Rep]
          exact ⟨_, rfl, by simp only [RepVs]; exact ⟨_, _, rfl, zD_rep z, _, _, rfl, by simp only [Rep], rfl⟩⟩
      · rw [g1] at h
        simp only at h
        refine ⟨if two then .tuple #[m'.val, .bool true] else m'.val, some (0 + j, m'.val), ?_, MapKept.run_findKey htd.1 g2, rfl⟩
        subst h
        cases two
        · exact g5
        · simp only [if_true, Rep]
          exact ⟨_, rfl, by simp only [RepVs]; exact ⟨_, _, rfl, g5, _, _, rfl, by simp only [Rep], rfl⟩⟩
    have hck := fun (e : Bool) (n : Nat) => MapKept.run_checkKey (w := w) htd.1 (kOk_isKey htd hko) e n
    unfold mapOf at hes
    split at hes
    · rename_i i
      split at hes
      · rename_i es' hl
        simp only [Option.ite_none_right_eq_some, Option.some.injEq] at hes
        obtain ⟨hall, rfl⟩ := hes
        obtain ⟨l, ms, clock, h1, h2, h3, rfl, h5, h6⟩ := map_at hl hx hm
        obtain ⟨r, fr, hr1, hr2, hr3⟩ := fin ms.toList h6 hall
        refine ⟨r, hr1, ?_⟩
        simp only [Instr.lookup, Sem.run_bind, run_underlying ht, Result.andThen_ok, MapKept.run_getObj_map h5, Sem.run_pure, hck, hr2]
        subst hr3
        cases fr with
        | none => simp only [hzr, Sem.run_bind, Result.andThen_ok, Sem.run_pure]
        | some p => simp only [Sem.run_bind, Result.andThen_ok, Sem.run_pure]
      · simp at hes
    · simp only [Option.some.injEq] at hes; subst hes
      simp only [Rep] at hx; subst hx
      obtain ⟨r, fr, hr1, hr2, hr3⟩ := fin [] rfl (by simp)
      refine ⟨r, hr1, ?_⟩
      simp only [Instr.lookup, Sem.run_bind, run_underlying ht, Result.andThen_ok, Sem.run_pure, hck, hr2]
      subst hr3
      cases fr with
      | none => simp only [hzr, Sem.run_bind, Result.andThen_ok, Sem.run_pure]
      | some p => simp only [Sem.run_bind, Result.andThen_ok, Sem.run_pure]
    · simp at hes
  · simp at h

theorem mkm_sound {t kt et : TypeId} {o : Oper} (ho : o.op = .makeMap t none) (hm : MSim S φ mem nx w) (hid : φ id = none) (hlt : id < nx) (hk : K (.omap id) ((id, .map []) :: mem) nx) : Does C.P o a w (Out S φ mem nx w id K) := by
  refine does_value (x := .map (some w.heap.size)) (w' := w.alloc (.map #[] 0)) ?_ ?_
  · unfold execOp
    simp only [ho, Instr.makeMap, Option.map_none, Sem.run_bind, run_newObj, Result.andThen_ok, Sem.run_pure]
    rfl
  · obtain ⟨φ', h1, h2, h3, h4, h5⟩ := alloc_own (l := ⟨false, true, w.heap.size, 0, 0, 0, 0⟩) (blk := .map []) hm (.map #[] 0) hid hlt rfl rfl (by
      intro φ' _
      simp only [BRep]
      exact ⟨trivial, trivial, #[], 0, alloc_new _, rfl⟩)
    refine ⟨.omap id, _, nx, S, φ', hk, Nat.le_refl _, ?_, h2, h3, h4, fun i hi _ hn => by rw [h5 i hi]; exact hn⟩
    simp only [Rep]
    exact ⟨_, h1, rfl, rfl⟩

theorem mup_sound {t kt et : TypeId} {kd : Option IntKind} {m k v d : D} {mem' : Mem} {um uk uv : Value} (ht : C.P.underlying t = some (.map kt et)) (hkd : C.keyKind kt = some kd) (h : mupM mem kd (some m) (some k) (some v) = some (d, mem'))
    (hx : Rep w S φ m um) (hk : Rep w S φ k uk) (hv : Rep w S φ v uv) (hm : MSim S φ mem nx w) :
    ∃ w', (Instr.mapUpdate t um uk uv).run C.P w = .ok () w' ∧ MSim S φ mem' nx w' ∧ Stays w S φ w' S φ ∧ Ext S φ mem w S φ mem' w' ∧ d = .top := by
  obtain ⟨td, htd⟩ := keyKind_out hkd
  unfold mupM at h
  split at h
  · rename_i i kv v' hm1 hk1 hv1
    simp only [Option.some.injEq] at hm1 hk1 hv1; subst hm1 hk1 hv1
    split at h
    · rename_i es hl
      simp only [Option.ite_none_right_eq_some, Option.some.injEq, Prod.mk.injEq] at h
      obtain ⟨⟨hko, hall⟩, rfl, rfl⟩ := h
      simp only [Rep] at hk; subst hk
      obtain ⟨l, ms, clock, h1, h2, h3, rfl, h5, h6⟩ := map_at hl hx hm
      have hkey := kOk_isKey htd hko
      have hblk : ∀ o : Obj, (∀ b, b ≠ l.b → (w.heap.setIfInBounds l.b o)[b]? = w.heap[b]?) ∧ (w.heap.setIfInBounds l.b o).size = w.heap.size ∧ (w.heap.setIfInBounds l.b o)[l.b]? = some o :=
        fun o => ⟨fun b hb => (MapKept.heap_set h5).2 b hb, by simp, (MapKept.heap_set h5).1⟩
      rcases find_rep htd hko es ms.toList 0 h6 hall with ⟨g1, g2, g3⟩ | ⟨j, m', dv, g1, g2, g3, g4, g5, g6⟩
      · obtain ⟨b1, b2, b3⟩ := hblk (.map (ms.push { key := uk, val := uv, born := clock }) (clock + 1))
        refine ⟨{ w with heap := w.heap.setIfInBounds l.b (.map (ms.push { key := uk, val := uv, born := clock }) (clock + 1)) }, ?_, ?_⟩
        · simp [Instr.mapUpdate, run_underlying ht, MapKept.run_getObj_map h5, MapKept.run_checkKey htd.1 hkey, MapKept.run_findKey htd.1 g2, MapKept.run_setObj_map _ h5, Result.andThen]
        · obtain ⟨q1, q2, q3⟩ := write_own (w' := { w with heap := w.heap.setIfInBounds l.b (.map (ms.push { key := uk, val := uv, born := clock }) (clock + 1)) }) (blk := .map (mput uk v es)) hm h1 h2 hl b1 b2 rfl rfl rfl (fun hst => by
            simp only [BRep]
            refine ⟨h2, h3, _, _, b3, ?_⟩
            rw [g3, Array.toList_push]
            exact RepMs_append _ _ _ _ (RepMs.mono hst _ _ h6) ⟨_, _, rfl, rfl, Rep.mono hst _ _ hv, rfl⟩)
          exact ⟨q1, q2, q3, rfl⟩
      · have hj : ms[j]? = some m' := by simpa using g3
        have hjs : j < ms.size := (Array.getElem?_eq_some_iff.1 hj).1
        obtain ⟨b1, b2, b3⟩ := hblk (.map (ms.modify j fun e => { e with key := uk, val := uv }) clock)
        refine ⟨{ w with heap := w.heap.setIfInBounds l.b (.map (ms.modify j fun e => { e with key := uk, val := uv }) clock) }, ?_, ?_⟩
        · simp [Instr.mapUpdate, run_underlying ht, MapKept.run_getObj_map h5, MapKept.run_checkKey htd.1 hkey, MapKept.run_findKey htd.1 g2, hj, g4, MapKept.run_keyThatStays hkey, MapKept.run_setObj_map _ h5, Result.andThen]
        · obtain ⟨q1, q2, q3⟩ := write_own (w' := { w with heap := w.heap.setIfInBounds l.b (.map (ms.modify j fun e => { e with key := uk, val := uv }) clock) }) (blk := .map (mput uk v es)) hm h1 h2 hl b1 b2 rfl rfl rfl (fun hst => by
            simp only [BRep]
            refine ⟨h2, h3, _, _, b3, ?_⟩
            have e : (ms.modify j fun e => { e with key := uk, val := uv }).toList = ms.toList.set j { m' with val := uv } := by
              rw [Array.toList_modify]
              apply List.ext_getElem?
              intro n
              rw [List.getElem?_modify, List.getElem?_set]
              by_cases hn : j = n
              · subst hn
                have hm2 : ms[j] = m' := by
                  have := Array.getElem?_eq_getElem hjs
                  rw [hj] at this; exact (Option.some.inj this).symm
                simp [hj, hjs, g4, hm2]
              · simp [hn]
            rw [e]
            exact g6 _ _ _ (RepMs.mono hst _ _ h6) (Rep.mono hst _ _ hv))
          exact ⟨q1, q2, q3, rfl⟩
    · simp at h
  · simp at h

theorem lnm_sound {ty : TypeId} {ts : Array TypeId} {t kt et : TypeId} {cs : Array Bool} {x d : D} {v : Value} (hts : ts[0]? = some t) (ht : C.P.underlying t = some (.map kt et)) (h : lnmD mem x = some d)
    (hx : Rep w S φ x v) (hm : MSim S φ mem nx w) : ∃ r, Rep w S φ d r ∧ (builtin .len ts ty cs #[v]).run C.P w = .ok (.value r) w := by
  unfold lnmD at h
  split at h
  · rename_i i
    split at h
    · rename_i es hl
      simp only [Option.some.injEq] at h; subst h
      obtain ⟨l, ms, clock, h1, h2, h3, rfl, h5, h6⟩ := map_at hl hx hm
      have hlen : ms.size = es.length := by have := RepMs_length _ _ h6; simpa using this
      refine ⟨.int .i64 es.length, by simp only [Rep], ?_⟩
      rw [← hlen]
      simp [builtin, Builtin.len_, hts, run_underlying ht, MapKept.run_getObj_map h5, goInt]
    · simp at h
  · simp only [Option.some.injEq] at h; subst h
    simp only [Rep] at hx; subst hx
    refine ⟨.int .i64 0, by simp only [Rep], ?_⟩
    simp [builtin, Builtin.len_, hts, run_underlying ht, goInt]
  · simp at h
end
end Go.Fx

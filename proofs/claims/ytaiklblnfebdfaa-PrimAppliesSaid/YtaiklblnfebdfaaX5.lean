/-
  Operations that change no owned block, one by one (second part).
-/
import Derived.Test.YtaiklblnfebdfaaX4
set_option linter.all false
namespace Go.Fx
open Go
section
variable {C : Cfg} {w : World} {S : Nat → Prop} {φ : Locs} {a : Act} {env tl : Env} {mem : Mem} {nx id : Nat} {K : KD}

theorem un_sound {op : UnOp} {x d : D} {v : Value} (h : unD C.P op x = some d) (hx : Rep w S φ x v) : ∃ r, Rep w S φ d r ∧ (Op.unary op v).run C.P w = .ok r w := by
  cases x with
  | pl u =>
    simp only [Rep] at hx; subst hx
    simp only [unD, Option.ite_none_right_eq_some] at h
    obtain ⟨_, h⟩ := h
    cases hb : Sem.look C.P (Op.unary op v) with
    | none => simp [hb] at h
    | some r =>
      simp only [hb, Option.map_some, Option.some.injEq] at h
      subst h
      exact ⟨r, by simp [Rep], look_run hb w⟩
  | _ => simp [unD] at h

theorem cv_sound {s t : TypeId} {x d : D} {v : Value} (h : cvD C.P s t x = some d) (hx : Rep w S φ x v) : ∃ r, Rep w S φ d r ∧ (convert s t v).run C.P w = .ok r w := by
  cases x with
  | pl u =>
    simp only [Rep] at hx; subst hx
    simp only [cvD, Option.ite_none_right_eq_some] at h
    obtain ⟨_, h⟩ := h
    cases hb : Sem.look C.P (convert s t v) with
    | none => simp [hb] at h
    | some r =>
      simp only [hb, Option.map_some, Option.some.injEq] at h
      subst h
      exact ⟨r, by simp [Rep], look_run hb w⟩
  | _ => simp [cvD] at h

theorem bi_sound {b : Builtin} {xs : List D} {d : D} {vs : List Value} {ts : Array TypeId} {ty : TypeId} {cs : Array Bool} (h : biD C.P b xs = some d) (hx : RepVs w S φ xs vs) :
    ∃ r, Rep w S φ d r ∧ (builtin b ts ty cs vs.toArray).run C.P w = .ok (.value r) w := by
  unfold biD at h
  split at h
  · rename_i us hu
    have e := valsRep _ _ _ hu hx
    subst e
    simp only [Option.ite_none_right_eq_some] at h
    obtain ⟨_, h⟩ := h
    split at h
    · cases hb : Sem.look C.P (Builtin.max_ #[] 0 vs.toArray) with
      | none => simp [hb] at h
      | some r =>
        simp only [hb, Option.map_some, Option.some.injEq] at h; subst h
        refine ⟨r, by simp [Rep], ?_⟩
        have := look_run hb w
        simp only [builtin, Sem.run_bind]
        rw [show Builtin.max_ ts ty vs.toArray = Builtin.max_ #[] 0 vs.toArray from rfl, this]; rfl
    · cases hb : Sem.look C.P (Builtin.min_ #[] 0 vs.toArray) with
      | none => simp [hb] at h
      | some r =>
        simp only [hb, Option.map_some, Option.some.injEq] at h; subst h
        refine ⟨r, by simp [Rep], ?_⟩
        have := look_run hb w
        simp only [builtin, Sem.run_bind]
        rw [show Builtin.min_ ts ty vs.toArray = Builtin.min_ #[] 0 vs.toArray from rfl, this]; rfl
    · cases hb : Sem.look C.P (Builtin.real_ #[] 0 vs.toArray) with
      | none => simp [hb] at h
      | some r =>
        simp only [hb, Option.map_some, Option.some.injEq] at h; subst h
        refine ⟨r, by simp [Rep], ?_⟩
        have := look_run hb w
        simp only [builtin, Sem.run_bind]
        rw [show Builtin.real_ ts ty vs.toArray = Builtin.real_ #[] 0 vs.toArray from rfl, this]; rfl
    · cases hb : Sem.look C.P (Builtin.imag_ #[] 0 vs.toArray) with
      | none => simp [hb] at h
      | some r =>
        simp only [hb, Option.map_some, Option.some.injEq] at h; subst h
        refine ⟨r, by simp [Rep], ?_⟩
        have := look_run hb w
        simp only [builtin, Sem.run_bind]
        rw [show Builtin.imag_ ts ty vs.toArray = Builtin.imag_ #[] 0 vs.toArray from rfl, this]; rfl
    · cases hb : Sem.look C.P (Builtin.complex_ #[] 0 vs.toArray) with
      | none => simp [hb] at h
      | some r =>
        simp only [hb, Option.map_some, Option.some.injEq] at h; subst h
        refine ⟨r, by simp [Rep], ?_⟩
        have := look_run hb w
        simp only [builtin, Sem.run_bind]
        rw [show Builtin.complex_ ts ty vs.toArray = Builtin.complex_ #[] 0 vs.toArray from rfl, this]; rfl
    · simp at h
  · simp at h

theorem RepVs_length : ∀ (ds : List D) (xs : List Value), RepVs w S φ ds xs → xs.length = ds.length
  | [], xs, h => by simp only [RepVs] at h; simp [h]
  | d :: ds, xs, h => by
    simp only [RepVs] at h
    obtain ⟨x, r, rfl, _, h2⟩ := h
    simp [RepVs_length ds r h2]

theorem RepVs_drop : ∀ (k : Nat) (ds : List D) (xs : List Value), RepVs w S φ ds xs → RepVs w S φ (ds.drop k) (xs.drop k)
  | 0, ds, xs, h => by simpa using h
  | k + 1, [], xs, h => by simp only [RepVs] at h; simp [h, RepVs]
  | k + 1, d :: ds, xs, h => by
    simp only [RepVs] at h
    obtain ⟨x, r, rfl, _, h2⟩ := h
    simpa using RepVs_drop k ds r h2

theorem RepVs_take : ∀ (k : Nat) (ds : List D) (xs : List Value), RepVs w S φ ds xs → RepVs w S φ (ds.take k) (xs.take k)
  | 0, ds, xs, h => by simp [RepVs]
  | k + 1, [], xs, h => by simp only [RepVs] at h; simp [h, RepVs]
  | k + 1, d :: ds, xs, h => by
    simp only [RepVs] at h
    obtain ⟨x, r, rfl, h1, h2⟩ := h
    simp only [List.take_succ_cons, RepVs]
    exact ⟨x, r.take k, rfl, h1, RepVs_take k ds r h2⟩

theorem RepVs_append : ∀ (ds es : List D) (xs ys : List Value), RepVs w S φ ds xs → RepVs w S φ es ys → RepVs w S φ (ds ++ es) (xs ++ ys)
  | [], es, xs, ys, h, k => by simp only [RepVs] at h; simpa [h] using k
  | d :: ds, es, xs, ys, h, k => by
    simp only [RepVs] at h
    obtain ⟨x, r, rfl, h1, h2⟩ := h
    simp only [List.cons_append, RepVs]
    exact ⟨x, r ++ ys, rfl, h1, RepVs_append ds es r ys h2 k⟩

theorem RepVs_get : ∀ (ds : List D) (xs : List Value) (i : Nat) (d : D), RepVs w S φ ds xs → ds[i]? = some d → ∃ x, xs[i]? = some x ∧ Rep w S φ d x
  | [], xs, i, d, h, hd => by simp at hd
  | e :: ds, xs, 0, d, h, hd => by
    simp only [List.getElem?_cons_zero, Option.some.injEq] at hd; subst hd
    simp only [RepVs] at h
    obtain ⟨x, r, rfl, h1, h2⟩ := h
    exact ⟨x, rfl, h1⟩
  | e :: ds, xs, i + 1, d, h, hd => by
    simp only [List.getElem?_cons_succ] at hd
    simp only [RepVs] at h
    obtain ⟨x, r, rfl, h1, h2⟩ := h
    simpa using RepVs_get ds r i d h2 hd

theorem mkv_sound {g : Bool} {n off : Nat} {cs : List D} {d : D} {vs : Array Value} {t : TypeId} (ht : Program.tsz C.P t = some (g, n)) (h : mkv g ((cs.drop off).take n) = some d) (hl : off + n ≤ cs.length)
    (hv : RepVs w S φ cs vs.toList) : ∃ r, Rep w S φ d r ∧ (part t vs off).run C.P w = .ok r w := by
  obtain ⟨ds, inf, hu, hi, hsz, hg⟩ := tsz_out ht
  have hv' := RepVs_take n _ _ (RepVs_drop off _ _ hv)
  unfold mkv at h
  cases hgb : g with
  | true =>
    simp only [hgb, if_true, Option.some.injEq] at h; subst h
    refine ⟨.agg (vs.extract off (off + n)), ?_, ?_⟩
    · simp only [Rep]
      refine ⟨_, rfl, ?_⟩
      simp only [Array.toList_extract, List.extract_eq_take_drop, Nat.add_sub_cancel_left]
      exact hv'
    · simp only [part, Sem.run_bind, run_isAgg hu, ← hg, hgb, Result.andThen_ok, if_true, run_sizeOf hi, hsz, Sem.run_pure]
  | false =>
    simp only [hgb, Bool.false_eq_true, if_false] at h
    split at h
    · rename_i c hc
      simp only [Option.some.injEq] at h; subst h
      rw [hc] at hv'
      simp only [RepVs] at hv'
      obtain ⟨x, r, hx, h1, rfl⟩ := hv'
      refine ⟨x, h1, ?_⟩
      have hget : vs[off]? = some x := by
        have h0 : ((vs.toList.drop off).take n)[0]? = some x := by rw [hx]; rfl
        rw [List.getElem?_take] at h0
        split at h0
        · simpa using h0
        · simp at h0
      simp only [part, Sem.run_bind, run_isAgg hu, ← hg, hgb, Result.andThen_ok, Bool.false_eq_true, if_false, hget, Sem.run_pure]
    · simp at h

theorem fld_sound {s : TypeId} {fs : Array Field} {f : Nat} {fd : Field} {g : Bool} {n : Nat} {x d : D} {v : Value} (hs : C.P.underlying s = some (.struct fs)) (hf : fs[f]? = some fd)
    (ht : Program.tsz C.P fd.type = some (g, n)) (h : fldD g n fd.offset x = some d) (hx : Rep w S φ x v) : ∃ r, Rep w S φ d r ∧ (Instr.field s v f).run C.P w = .ok r w := by
  cases x with
  | agg cs =>
    simp only [fldD, Option.ite_none_right_eq_some] at h
    obtain ⟨hl, h⟩ := h
    simp only [Rep] at hx
    obtain ⟨vs, rfl, hv⟩ := hx
    obtain ⟨r, h1, h2⟩ := mkv_sound ht h hl hv
    refine ⟨r, h1, ?_⟩
    simp only [Instr.field, Sem.run_bind, run_underlying hs, Result.andThen_ok, hf, asAgg, Sem.run_pure, h2]
  | _ => simp [fldD] at h

theorem ext_sound {i : Nat} {x d : D} {v : Value} (h : extD i x = some d) (hx : Rep w S φ x v) : ∃ r, Rep w S φ d r ∧ (Instr.extract v i).run C.P w = .ok r w := by
  cases x with
  | tup ds =>
    simp only [extD] at h
    simp only [Rep] at hx
    obtain ⟨vs, rfl, hv⟩ := hx
    obtain ⟨y, hy, hr⟩ := RepVs_get _ _ _ _ hv h
    refine ⟨y, hr, ?_⟩
    have : vs[i]? = some y := by simpa using hy
    simp only [Instr.extract, this, Sem.run_pure]
  | _ => simp [extD] at h

/-- The version of a row that is its own. -/
theorem curv_out {i ver : Nat} (h : curv mem i ver = true) (hm : MSim S φ mem nx w) : ∃ k es l, look mem i = some (.arr ver k es) ∧ φ i = some l ∧ l.ver = ver ∧ BRep w S φ l (.arr ver k es) ∧ (l.real = true → ¬ S l.b) := by
  unfold curv at h
  split at h
  · rename_i v k es hl
    have hv : v = ver := by simpa using h
    subst hv
    obtain ⟨l, h1, h2, h3⟩ := hm.mem i _ hl
    refine ⟨k, es, l, hl, h1, ?_, h3, h2⟩
    simp only [BRep] at h3
    exact h3.2.1
  · simp at h

theorem fa_sound {s : TypeId} {fs : Array Field} {f : Nat} {fd : Field} {g : Bool} {n : Nat} {x d : D} {v : Value} (hs : C.P.underlying s = some (.struct fs)) (hf : fs[f]? = some fd)
    (ht : Program.tsz C.P fd.type = some (g, n)) (hn : n ≠ 0) (h : faD mem fd.offset x = some d) (hx : Rep w S φ x v) (hm : MSim S φ mem nx w) :
    ∃ r, Rep w S φ d r ∧ (Instr.fieldAt s v f).run C.P w = .ok r w := by
  obtain ⟨ds, inf, hu, hi, hsz, _⟩ := tsz_out ht
  have key : ∀ b o, (Instr.fieldAt s (.pointer (some ⟨b, o, none⟩)) f).run C.P w = .ok (.pointer (some ⟨b, o + fd.offset, none⟩)) w := by
    intro b o
    simp only [Instr.fieldAt, Sem.run_bind, run_underlying hs, Result.andThen_ok, hf, Instr.sureAddr, Sem.run_pure, fieldPlace, run_sizeOf hi, hsz, hn, if_false, Addr.add_mid]
  cases x with
  | pt cs =>
    simp only [faD, Option.ite_none_right_eq_some, Option.some.injEq] at h
    obtain ⟨_, rfl⟩ := h
    simp only [Rep] at hx
    obtain ⟨b, o, rfl, hS, hc⟩ := hx
    refine ⟨_, ?_, key b o⟩
    simp only [Rep]
    exact ⟨b, o + fd.offset, rfl, hS, RepCs_drop _ _ _ _ hc⟩
  | opt i off =>
    simp only [faD, Option.some.injEq] at h; subst h
    simp only [Rep] at hx
    obtain ⟨l, hl, ha, rfl⟩ := hx
    refine ⟨_, ?_, key _ _⟩
    simp only [Rep]
    exact ⟨l, hl, ha, by rw [Nat.add_assoc]⟩
  | oel i ver ix off =>
    simp only [faD, Option.ite_none_right_eq_some, Option.some.injEq] at h
    obtain ⟨hc, rfl⟩ := h
    obtain ⟨k, es, l, _, hl, hv, _, _⟩ := curv_out hc hm
    simp only [Rep] at hx
    obtain ⟨l', hl', hle, hsh, hx⟩ := hx
    rw [hl] at hl'; simp only [Option.some.injEq] at hl'; subst hl'
    obtain ⟨hr, rfl⟩ := hx hv
    refine ⟨_, ?_, key _ _⟩
    simp only [Rep]
    exact ⟨l, hl, hle, ⟨_, rfl⟩, fun _ => ⟨hr, by rw [Nat.add_assoc]⟩⟩
  | _ => simp [faD] at h

theorem len_sound {ty : TypeId} {ts : Array TypeId} {t : TypeId} {cs : Array Bool} {s : Bool} {x d : D} {v : Value} (hts : ts[0]? = some t) (ht : (s = true ∧ C.P.underlying t = some .string) ∨ (s = false ∧ ∃ e, C.P.underlying t = some (.slice e)))
    (h : lenD mem s x = some d) (hx : Rep w S φ x v) (hm : MSim S φ mem nx w) : ∃ r, Rep w S φ d r ∧ (builtin .len ts ty cs #[v]).run C.P w = .ok (.value r) w := by
  have key : ∀ r, (Builtin.len_ ts ty #[v]).run C.P w = .ok r w → (builtin .len ts ty cs #[v]).run C.P w = .ok (.value r) w := by
    intro r hr; simp only [builtin, Sem.run_bind, hr, Result.andThen_ok, Sem.run_pure]
  have ksl : ∀ (p : Option Addr) (n c : Nat) (e : TypeId), C.P.underlying t = some (.slice e) → v = .slice p n c → (Builtin.len_ ts ty #[v]).run C.P w = .ok (goInt n) w := by
    rintro p n c e he rfl
    simp [Builtin.len_, hts, run_underlying he]
  cases x with
  | sl es =>
    simp only [lenD] at h
    cases s with
    | true => simp at h
    | false =>
      simp only [Bool.false_eq_true, if_false, Option.some.injEq] at h; subst h
      obtain ⟨e, he⟩ : ∃ e, C.P.underlying t = some (.slice e) := by simpa using ht
      simp only [Rep] at hx
      rcases hx with ⟨rfl, rfl | ⟨p, rfl⟩⟩ | ⟨b, o, cap, k, rfl, _⟩
      · exact ⟨_, by simp only [Rep, List.length_nil]; rfl, key _ (ksl _ _ _ e he rfl)⟩
      · exact ⟨_, by simp only [Rep, List.length_nil]; rfl, key _ (ksl _ _ _ e he rfl)⟩
      · exact ⟨_, by simp only [Rep]; rfl, key _ (ksl _ _ _ e he rfl)⟩
  | osl i ver lo n =>
    simp only [lenD] at h
    split at h
    · simp at h
    · rename_i hc
      simp only [Option.some.injEq] at h; subst h
      simp only [Bool.or_eq_true, Bool.not_eq_true', not_or, Bool.not_eq_true, Bool.not_eq_false] at hc
      obtain ⟨hs, hcv⟩ := hc
      obtain ⟨e, he⟩ : ∃ e, C.P.underlying t = some (.slice e) := by simpa [hs] using ht
      obtain ⟨k, es, l, _, hl, hv, _, _⟩ := curv_out hcv hm
      simp only [Rep] at hx
      obtain ⟨l', hl', _, _, hx⟩ := hx
      rw [hl] at hl'; simp only [Option.some.injEq] at hl'; subst hl'
      rcases hx hv with ⟨_, _, rfl, rfl | ⟨_, rfl⟩⟩ | ⟨_, cap, rfl, _⟩
      · exact ⟨_, by simp only [Rep]; rfl, key _ (ksl _ _ _ e he rfl)⟩
      · exact ⟨_, by simp only [Rep]; rfl, key _ (ksl _ _ _ e he rfl)⟩
      · exact ⟨_, by simp only [Rep]; rfl, key _ (ksl _ _ _ e he rfl)⟩
  | pl u =>
    simp only [Rep] at hx; subst hx
    cases v with
    | slice p n c =>
      cases p with
      | some _ => simp [lenD] at h
      | none =>
        cases n with
        | succ _ => simp [lenD] at h
        | zero =>
          cases c with
          | succ _ => simp [lenD] at h
          | zero =>
            simp only [lenD] at h
            cases s with
            | true => simp at h
            | false =>
              simp only [Bool.false_eq_true, if_false, Option.some.injEq] at h; subst h
              obtain ⟨e, he⟩ : ∃ e, C.P.underlying t = some (.slice e) := by simpa using ht
              exact ⟨_, by simp only [Rep]; rfl, key _ (ksl _ _ _ e he rfl)⟩
    | string b =>
      simp only [lenD] at h
      cases s with
      | false => simp at h
      | true =>
        simp only [if_true, Option.some.injEq] at h; subst h
        have he : C.P.underlying t = some .string := by simpa using ht
        refine ⟨goInt b.size, by simp [Rep, goInt], key _ ?_⟩
        simp [Builtin.len_, hts, run_underlying he]
    | _ => simp [lenD] at h
  | zs =>
    simp only [lenD] at h
    cases s with
    | true => simp at h
    | false =>
      simp only [Bool.false_eq_true, if_false, Option.some.injEq] at h; subst h
      obtain ⟨e, he⟩ : ∃ e, C.P.underlying t = some (.slice e) := by simpa using ht
      simp only [Rep] at hx
      rcases hx with rfl | ⟨b, o, rfl, _⟩
      · exact ⟨_, by simp only [Rep]; rfl, key _ (ksl _ _ _ e he rfl)⟩
      · exact ⟨_, by simp only [Rep]; rfl, key _ (ksl _ _ _ e he rfl)⟩
  | _ => simp [lenD] at h

theorem run_asIntOf {k : IntKind} {n : Int} (P : Program) (w : World) : (asIntOf (.int k n)).run P w = .ok (k, n) w := rfl

theorem cur_curv {i ver k : Nat} (h : cur mem i ver k = true) : curv mem i ver = true := by
  unfold cur at h; unfold curv
  cases hl : look mem i with
  | none => simp [hl] at h
  | some b => cases b <;> simp_all

theorem ia_sound {t e : TypeId} {g : Bool} {k : Nat} {x i d : D} {v u : Value} (ht : C.P.underlying t = some (.slice e)) (he : Program.tsz C.P e = some (g, k)) (h : iaD mem k x i = some d)
    (hx : Rep w S φ x v) (hi : Rep w S φ i u) (hm : MSim S φ mem nx w) : ∃ r, Rep w S φ d r ∧ (Instr.indexAt t v u).run C.P w = .ok r w := by
  obtain ⟨ds, inf, hu, hinf, hsz, _⟩ := tsz_out he
  have key : ∀ (b o len cap : Nat) (kd : IntKind) (n : Int), 0 ≤ n → n < len → (Instr.indexAt t (.slice (some ⟨b, o, none⟩) len cap) (.int kd n)).run C.P w = .ok (.pointer (some ⟨b, o + n.toNat * k, none⟩)) w := by
    intro b o len cap kd n h0 h1
    simp only [Instr.indexAt, Sem.run_bind, run_asIntOf, Result.andThen_ok, run_underlying ht, Sem.run_pure, h0, h1, and_self, if_true, run_sizeOf hinf, hsz, Addr.add_mid]
  unfold iaD at h
  split at h
  · rename_i es kd n
    simp only [Rep] at hi; subst hi
    simp only [Option.ite_none_right_eq_some] at h
    obtain ⟨⟨h0, h1⟩, h⟩ := h
    split at h
    · rename_i e' he'
      simp only [Option.ite_none_right_eq_some, Option.some.injEq] at h
      obtain ⟨hlen, rfl⟩ := h
      simp only [Rep] at hx
      rcases hx with ⟨rfl, _⟩ | ⟨b, o, cap, k', rfl, hc, hS, hes⟩
      · simp at h1; omega
      · obtain ⟨hk, hr⟩ := RepEs_get es k' b o n.toNat e' hes he'
        refine ⟨_, ?_, key b o _ cap kd n h0 h1⟩
        simp only [Rep]
        refine ⟨b, _, rfl, hS, ?_⟩
        rw [← hlen, hk]; exact hr
    · simp at h
  · rename_i i' ver lo m kd n
    simp only [Rep] at hi; subst hi
    simp only [Option.ite_none_right_eq_some, Option.some.injEq] at h
    obtain ⟨hc, ⟨h0, h1⟩, rfl⟩ := h
    have hcv := cur_curv hc
    obtain ⟨k2, es, l, hlk, hl, hv, hb, _⟩ := curv_out hcv hm
    have hk2 : k2 = k := by
      unfold cur at hc
      rw [hlk] at hc
      simpa using hc
    subst hk2
    simp only [Rep] at hx
    obtain ⟨l', hl', hle, hsh, hx⟩ := hx
    rw [hl] at hl'; simp only [Option.some.injEq] at hl'; subst hl'
    rcases hx hv with ⟨_, _, rfl, _⟩ | ⟨hr, cap, rfl, _⟩
    · omega
    · refine ⟨_, ?_, key _ _ _ cap kd n h0 (by exact_mod_cast h1)⟩
      simp only [Rep]
      refine ⟨l, hl, hle, ⟨_, rfl⟩, fun _ => ⟨hr, ?_⟩⟩
      simp only [BRep] at hb
      rw [← hb.2.2.1, Nat.add_zero, Nat.add_mul]
      simp [Nat.add_assoc]
  · simp at h

theorem chk_sound {X : Operand} {o : Oper} {x d : D} (ho : o.op = .nilCheck X) (h : chkD x = some d) (hx : Rep w S φ x (a.eval X)) : ∃ r, Rep w S φ d r ∧ (execOp a.eval o).run C.P w = .ok (.value r) w := by
  have e : d = x := by cases x <;> simp [chkD] at h <;> exact h.symm
  subst e
  cases d with
  | pt cs =>
    refine ⟨_, hx, ?_⟩
    simp only [Rep] at hx
    obtain ⟨b, o', hv, _⟩ := hx
    unfold execOp; simp only [ho, hv, Sem.run_pure]
  | opt i off =>
    refine ⟨_, hx, ?_⟩
    simp only [Rep] at hx
    obtain ⟨l, _, _, hv⟩ := hx
    unfold execOp; simp only [ho, hv, Sem.run_pure]
  | fn f cs =>
    refine ⟨_, hx, ?_⟩
    simp only [Rep] at hx
    obtain ⟨vs, hv, _⟩ := hx
    unfold execOp; simp only [ho, hv, Sem.run_pure]
  | _ => simp [chkD] at h
end
end Go.Fx

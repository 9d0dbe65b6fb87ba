/-
  Composite values, slices of slices, stores, appends.
-/
import Derived.Test.YtaiklblnfebdfaaX7
set_option linter.all false
namespace Go.Fx
open Go
section
variable {C : Cfg} {w w' : World} {S : Nat → Prop} {φ : Locs} {a : Act} {env tl : Env} {mem : Mem} {nx id : Nat} {K : KD}

theorem foldl_place (off : Nat) : ∀ (l : List Value) (k : Nat) (cells : Array Value), off + k + l.length ≤ cells.size →
    ((l.zipIdx k).foldl (fun cs (x : Value × Nat) => cs.setIfInBounds (off + x.2) x.1) cells).toList = cells.toList.take (off + k) ++ l ++ cells.toList.drop (off + k + l.length)
  | [], k, cells, h => by simp
  | v :: l, k, cells, h => by
    simp only [List.zipIdx_cons, List.foldl_cons]
    simp only [List.length_cons] at h
    rw [foldl_place off l (k + 1) (cells.setIfInBounds (off + k) v) (by simp; omega)]
    have hlt : off + k < cells.toList.length := by simp; omega
    rw [Array.toList_setIfInBounds]
    have e1 : (cells.toList.set (off + k) v).take (off + (k + 1)) = cells.toList.take (off + k) ++ [v] := by
      rw [← Nat.add_assoc, List.take_succ_eq_append_getElem (by simpa using hlt)]
      simp [List.take_set_of_le]
    have e2 : (cells.toList.set (off + k) v).drop (off + (k + 1) + l.length) = cells.toList.drop (off + k + (v :: l).length) := by
      rw [List.drop_set_of_lt (by omega)]
      congr 1; simp; omega
    rw [e1, e2]; simp

theorem RepVs_place {off : Nat} {cs new : List D} {vs ns : List Value} (h : RepVs w S φ cs vs) (k : RepVs w S φ new ns) : RepVs w S φ (place off cs new) (vs.take off ++ ns ++ vs.drop (off + ns.length)) := by
  unfold place
  refine RepVs_append _ _ _ _ (RepVs_append _ _ _ _ (RepVs_take off _ _ h) k) ?_
  rw [RepVs_length _ _ k]
  exact RepVs_drop _ _ _ h

theorem fill_sound (hk : Known C w S φ env tl a) (pl : Nat → Option (Nat × Nat)) : ∀ (ps : List (Nat × Operand)) (qs : List (Nat × Nat × Opd)) (ds : List (Nat × Nat × D)) (cs out : List D) (vs : Array Value),
    C.parts pl ps = some qs → rps tl env qs = some ds → RepVs w S φ cs vs.toList → fillD cs ds = some out →
    ∃ vs', Instr.fill pl vs (ps.map fun p => (p.1, a.eval p.2)) = some vs' ∧ RepVs w S φ out vs'.toList
  | [], qs, ds, cs, out, vs, h1, h2, h3, h4 => by
    simp only [Cfg.parts, List.mapM_nil, Option.pure_def, Option.some.injEq] at h1; subst h1
    simp only [rps, Option.some.injEq] at h2; subst h2
    simp only [fillD, Option.some.injEq] at h4; subst h4
    exact ⟨vs, rfl, h3⟩
  | (i, x) :: ps, qs, ds, cs, out, vs, h1, h2, h3, h4 => by
    simp only [Cfg.parts, List.mapM_cons, Option.bind_eq_bind, Option.bind_eq_some_iff, Option.pure_def, Option.some.injEq] at h1
    obtain ⟨q, hq, qs', hqs, rfl⟩ := h1
    split at hq
    · rename_i o n y hpl hy
      simp only [Option.some.injEq] at hq; subst hq
      simp only [rps] at h2
      split at h2
      · rename_i d ds' hd hds
        simp only [Option.some.injEq] at h2; subst h2
        simp only [fillD, Option.ite_none_right_eq_some] at h4
        obtain ⟨⟨hsol, hlen, hle⟩, h4⟩ := h4
        have hr := cells_rep (ro_sound hk hy hd) hsol
        have hl1 := RepVs_length _ _ hr
        have hl2 := RepVs_length _ _ h3
        simp only [Array.length_toList] at hl1 hl2
        have hsz : (a.eval x).cells.size = n := by omega
        have hsz2 : o + (a.eval x).cells.size ≤ vs.size := by omega
        have hfold := foldl_place o (a.eval x).cells.toList 0 vs (by simp; omega)
        obtain ⟨vs', hf, hv⟩ := fill_sound hk pl ps qs' ds' (place o cs d.cells) out ((a.eval x).cells.zipIdx.foldl (fun cs (x : Value × Nat) => cs.setIfInBounds (o + x.2) x.1) vs) hqs hds (by
          rw [← Array.foldl_toList, Array.toList_zipIdx, hfold]
          simpa using RepVs_place (off := o) h3 hr) h4
        refine ⟨vs', ?_, hv⟩
        simp only [List.map_cons, Instr.fill, hpl]
        rw [if_neg (by simp; omega)]
        exact hf
      · simp at h2
    · simp at hq

theorem run_mapM_list {P : Program} {α β : Type} (f : α → Sem β) (g : α → β) (w : World) : ∀ (l : List α), (∀ x ∈ l, (f x).run P w = .ok (g x) w) → (l.mapM f).run P w = .ok (l.map g) w
  | [], _ => by simp [List.mapM_nil]
  | x :: l, h => by
    rw [List.mapM_cons, Sem.run_bind, h x (by simp), Result.andThen_ok, Sem.run_bind, run_mapM_list f g w l (fun y hy => h y (by simp [hy]))]
    simp

theorem run_mapM {P : Program} {α β : Type} (f : α → Sem β) (g : α → β) (w : World) (l : Array α) (h : ∀ x ∈ l.toList, (f x).run P w = .ok (g x) w) : (l.mapM f).run P w = .ok (l.map g) w := by
  rw [Array.mapM_eq_mapM_toList, Sem.run_map, run_mapM_list f g w l.toList h]
  simp only [Result.andThen_ok]
  congr 1
  apply Array.ext'
  simp

theorem bld_struct {t : TypeId} {fs : Array Field} {z : List Value} {ps : Array (Nat × Operand)} {qs : List (Nat × Nat × Opd)} {ds : List (Nat × Nat × D)} {d : D} (hk : Known C w S φ env tl a) (hz : Program.zeroOf C.P t = some z) (ht : C.P.underlying t = some (.struct fs))
    (hall : fs.toList.all (fun f => (C.P.info? f.type).isSome) = true) (hq : C.parts (C.fieldPlaces fs) ps.toList = some qs) (hd : rps tl env qs = some ds) (h : bldD z ds = some d) :
    ∃ r, Rep w S φ d r ∧ (Instr.build t (ps.map fun (i, x) => (i, a.eval x))).run C.P w = .ok r w := by
  obtain ⟨v, hv, hvz⟩ := zero_out hz w
  unfold bldD at h
  cases hf : fillD (z.map .pl) ds with
  | none => simp [hf] at h
  | some out =>
    simp only [hf, Option.map_some, Option.some.injEq] at h; subst h
    have hpl : ∀ i p, C.fieldPlaces fs i = some p → (fs.map fun f => (f.offset, ((C.P.info? f.type).map (·.size)).getD 0))[i]? = some p := by
      intro i p hp
      unfold Cfg.fieldPlaces at hp
      split at hp
      · rename_i f hfi
        split at hp
        · rename_i g n htz
          simp only [Option.some.injEq] at hp; subst hp
          obtain ⟨dd, inf, _, hi, hsz, _⟩ := tsz_out htz
          simp [hfi, hi, hsz]
        · simp at hp
      · simp at hp
    have hparts : C.parts (fun i => (fs.map fun f => (f.offset, ((C.P.info? f.type).map (·.size)).getD 0))[i]?) ps.toList = some qs := by
      clear hd hf
      generalize ps.toList = l at hq
      induction l generalizing qs with
      | nil => simpa [Cfg.parts] using hq
      | cons p l ih =>
        obtain ⟨i, x⟩ := p
        simp only [Cfg.parts, List.mapM_cons, Option.bind_eq_bind, Option.bind_eq_some_iff, Option.pure_def, Option.some.injEq] at hq ⊢
        obtain ⟨q, h1, qs', h2, rfl⟩ := hq
        refine ⟨q, ?_, qs', ih h2, rfl⟩
        cases hp : C.fieldPlaces fs i with
        | none => simp [hp] at h1
        | some p =>
          rw [hp] at h1
          rw [hpl i p hp]
          exact h1
    obtain ⟨vs', hfill, hrep⟩ := fill_sound hk _ ps.toList qs ds (z.map .pl) out v.cells hparts hd (by rw [hvz]; exact RepVs_pl z) hf
    refine ⟨.agg vs', by simp only [Rep]; exact ⟨vs', rfl, hrep⟩, ?_⟩
    have hm := run_mapM (P := C.P) (fun f : Field => (do pure (f.offset, ← sizeOf f.type) : Sem (Nat × Nat))) (fun f => (f.offset, ((C.P.info? f.type).map (·.size)).getD 0)) w fs (by
      intro f hf
      have := List.all_eq_true.1 hall f hf
      obtain ⟨i, hi⟩ := Option.isSome_iff_exists.1 this
      simp [run_sizeOf hi, hi])
    simp only [Instr.build, Sem.run_bind, hv, Result.andThen_ok, run_underlying ht, hm]
    rw [show (ps.map fun (x : Nat × Operand) => (x.1, a.eval x.2)).toList = ps.toList.map fun p => (p.1, a.eval p.2) by simp]
    rw [hfill]
    simp

theorem bld_array {t e : TypeId} {len : Nat} {g : Bool} {k : Nat} {z : List Value} {ps : Array (Nat × Operand)} {qs : List (Nat × Nat × Opd)} {ds : List (Nat × Nat × D)} {d : D} (hk : Known C w S φ env tl a) (hz : Program.zeroOf C.P t = some z) (ht : C.P.underlying t = some (.array len e))
    (he : Program.tsz C.P e = some (g, k)) (hq : C.parts (fun i => some (i * k, k)) ps.toList = some qs) (hd : rps tl env qs = some ds) (h : bldD z ds = some d) :
    ∃ r, Rep w S φ d r ∧ (Instr.build t (ps.map fun (i, x) => (i, a.eval x))).run C.P w = .ok r w := by
  obtain ⟨v, hv, hvz⟩ := zero_out hz w
  obtain ⟨dd, inf, _, hi, hsz, _⟩ := tsz_out he
  unfold bldD at h
  cases hf : fillD (z.map .pl) ds with
  | none => simp [hf] at h
  | some out =>
    simp only [hf, Option.map_some, Option.some.injEq] at h; subst h
    obtain ⟨vs', hfill, hrep⟩ := fill_sound hk _ ps.toList qs ds (z.map .pl) out v.cells hq hd (by rw [hvz]; exact RepVs_pl z) hf
    refine ⟨.agg vs', by simp only [Rep]; exact ⟨vs', rfl, hrep⟩, ?_⟩
    simp only [Instr.build, Sem.run_bind, hv, Result.andThen_ok, run_underlying ht, run_sizeOf hi, hsz]
    rw [show (ps.map fun (x : Nat × Operand) => (x.1, a.eval x.2)).toList = ps.toList.map fun p => (p.1, a.eval p.2) by simp]
    rw [hfill]
    simp

theorem RepVs_flat (z : List Value) : ∀ (n : Nat), RepVs w S φ (List.replicate n (z.map D.pl)).flatten (List.replicate n z).flatten
  | 0 => by simp [RepVs]
  | n + 1 => by
    simp only [List.replicate_succ, List.flatten_cons]
    exact RepVs_append _ _ _ _ (RepVs_pl z) (RepVs_flat z n)

theorem range_flat (k : Nat) (hk : 0 < k) (z : Array Value) (hz : z.size = k) : ∀ n, ((Array.range (n * k)).map (z[· % z.size]!)).toList = (List.replicate n z.toList).flatten := by
  intro n
  rw [Array.toList_map, Array.toList_range]
  induction n with
  | zero => simp
  | succ n ih =>
    rw [Nat.succ_mul, List.replicate_succ', List.flatten_append, ← ih, List.range_add, List.map_append]
    congr 1
    simp only [List.map_map, List.flatten_cons, List.flatten_nil, List.append_nil]
    apply List.ext_getElem?
    intro i
    by_cases hi : i < k
    · have h1 : (n * k + i) % z.size = i := by rw [hz, Nat.mul_add_mod_self_right, Nat.mod_eq_of_lt hi]
      rw [List.getElem?_map, List.getElem?_range hi]
      simp only [Option.map_some, Function.comp, h1]
      rw [getElem!_pos z i (by omega), Array.getElem?_toList, Array.getElem?_eq_getElem (by omega)]
    · rw [List.getElem?_eq_none (by simp; omega), List.getElem?_eq_none (by simp; omega)]

theorem chunks_rep (k b : Nat) : ∀ (n : Nat) (cs : List D) (o : Nat), cs.length = n * k → RepCs w S φ cs b o → RepEs w S φ (chunks k n cs) k b o
  | 0, cs, o, _, _ => by simp [chunks, RepEs]
  | n + 1, cs, o, hl, h => by
    simp only [chunks, RepEs]
    rw [Nat.succ_mul] at hl
    exact ⟨by simp; omega, RepCs_take k cs b o h, chunks_rep k b n (cs.drop k) (o + k) (by simp; omega) (RepCs_drop k cs b o h)⟩

theorem chunks_length (k : Nat) : ∀ (n : Nat) (cs : List D), (chunks k n cs).length = n
  | 0, cs => rfl
  | n + 1, cs => by simp [chunks, chunks_length k n]

theorem bs_run {t e : TypeId} {g : Bool} {k len : Nat} {z : List Value} {ps : Array (Nat × Operand)} {qs : List (Nat × Nat × Opd)} {ds : List (Nat × Nat × D)} {es : List (List D)} (hk : Known C w S φ env tl a) (ht : C.P.underlying t = some (.slice e)) (he : Program.tsz C.P e = some (g, k))
    (hz : Program.zeroOf C.P e = some z) (h0 : len ≠ 0) (hlen : len * k ≤ 2 ^ 24) (hkp : 0 < k) (hzk : z.length = k) (hq : C.parts (fun i => some (i * k, k)) ps.toList = some qs) (hd : rps tl env qs = some ds) (h : bslD k len z ds = some es) :
    ∃ cs : Array Value, (Instr.buildSlice t len (ps.map fun (i, x) => (i, a.eval x))).run C.P w = .ok (.slice (some ⟨w.heap.size, 0, none⟩) len len) (w.alloc (.cells cs e)) ∧ cs.size = len * k ∧ es.length = len ∧ RepVs w S φ es.flatten cs.toList ∧ ∃ out, RepVs w S φ out cs.toList ∧ out.length = len * k ∧ es = chunks k len out := by
  obtain ⟨v, hv, hvz⟩ := zero_out hz w
  obtain ⟨dd, inf, _, hi, hsz, _⟩ := tsz_out he
  unfold bslD at h
  cases hf : fillD (List.replicate len (z.map D.pl)).flatten ds with
  | none => simp [hf] at h
  | some out =>
    simp only [hf, Option.map_some, Option.some.injEq] at h; subst h
    have hvs : v.cells.size = k := by rw [← Array.length_toList, hvz, hzk]
    have hflat := range_flat k hkp v.cells hvs len
    obtain ⟨vs', hfill, hrep⟩ := fill_sound hk _ ps.toList qs ds _ out ((Array.range (len * k)).map (v.cells[· % v.cells.size]!)) hq hd (by
      rw [hflat, hvz]; exact RepVs_flat z len) hf
    have hlenD : ∀ (ds : List (Nat × Nat × D)) (cs out : List D), fillD cs ds = some out → out.length = cs.length := by
      intro ds
      induction ds with
      | nil => intro cs out h; simp only [fillD, Option.some.injEq] at h; rw [h]
      | cons p ds ih =>
        obtain ⟨o, n, d⟩ := p
        intro cs out h
        simp only [fillD, Option.ite_none_right_eq_some] at h
        obtain ⟨⟨_, h1, h2⟩, h3⟩ := h
        rw [ih _ _ h3]; simp [place]; omega
    have hol : out.length = len * k := by
      rw [hlenD _ _ _ hf]; simp [hzk]
    have hvl := RepVs_length _ _ hrep
    refine ⟨vs', ?_, by rw [← Array.length_toList, hvl, hol], chunks_length _ _ _, ?_, out, hrep, hol, rfl⟩
    · have hnz : ¬ (len * k = 0) := by have := Nat.mul_pos (Nat.pos_of_ne_zero h0) hkp; omega
      simp only [Instr.buildSlice, Sem.run_bind, run_underlying ht, Result.andThen_ok, run_sizeOf hi, hsz]
      rw [if_neg (by omega)]
      simp only [hnz, if_false, Sem.run_bind, hv, Result.andThen_ok, Sem.run_pure]
      rw [show (ps.map fun (x : Nat × Operand) => (x.1, a.eval x.2)).toList = ps.toList.map fun p => (p.1, a.eval p.2) by simp, hfill]
      simp only [Sem.run_bind, newRow, run_newObj, Result.andThen_ok, Sem.run_pure]
      rfl
    · have : ∀ (n : Nat) (cs : List D), cs.length = n * k → (chunks k n cs).flatten = cs := by
        intro n
        induction n with
        | zero => intro cs h; simp at h; simp [chunks, h]
        | succ n ih => intro cs h; rw [Nat.succ_mul] at h; simp only [chunks, List.flatten_cons]; rw [ih _ (by simp; omega), List.take_append_drop]
      rw [this len out hol]; exact hrep
end
end Go.Fx

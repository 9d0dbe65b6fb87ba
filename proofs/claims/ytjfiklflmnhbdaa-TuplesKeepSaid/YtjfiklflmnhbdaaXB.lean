/-
  The library, XB: X7, X8, X9, X10, X11, X12a, X12.
-/
import Derived.Test.YtjfiklflmnhbdaaXA
import Derived.IntWalk
import Derived.MapKept
/-
  Structs, rows and variables that are made.
-/


set_option linter.all false
namespace Go.Fx
open Go
section
variable {C : Cfg} {w w' : World} {S : Nat → Prop} {φ : Locs} {a : Act} {env tl : Env} {mem : Mem} {nx id : Nat} {K : KD}

theorem cell_one {d : D} {v : Value} (hr : Rep w S φ d v) (hc : d.cell = true) : v.oneCell' = true := by
  cases d with
  | pl u => simp only [Rep] at hr; subst hr; cases v <;> simp [D.cell] at hc <;> rfl
  | sl es =>
    simp only [Rep] at hr
    rcases hr with ⟨_, rfl | ⟨p, rfl⟩⟩ | ⟨b, o, cap, k, rfl, _⟩ <;> rfl
  | zs => simp only [Rep] at hr; rcases hr with rfl | ⟨p, rfl⟩ <;> rfl
  | pt cs => simp only [Rep] at hr; obtain ⟨b, o, rfl, _⟩ := hr; rfl
  | opt i off => simp only [Rep] at hr; obtain ⟨l, _, _, rfl⟩ := hr; rfl
  | osl i v lo n => simp only [Rep] at hr; obtain ⟨l, _, _, ⟨p, m, c, rfl⟩, _⟩ := hr; rfl
  | oel i v lo n => simp only [Rep] at hr; obtain ⟨l, _, _, ⟨p, rfl⟩, _⟩ := hr; rfl
  | omap i => simp only [Rep] at hr; obtain ⟨l, _, _, rfl⟩ := hr; rfl
  | fn f cs => simp only [Rep] at hr; obtain ⟨vs, rfl, _⟩ := hr; rfl
  | _ => simp [D.cell] at hc

theorem cells_rep {d : D} {v : Value} (hr : Rep w S φ d v) (hc : d.solid = true) : RepVs w S φ d.cells v.cells.toList := by
  cases d with
  | agg cs =>
    simp only [Rep] at hr
    obtain ⟨vs, rfl, h⟩ := hr
    exact h
  | _ =>
    all_goals
      have h1 := cell_one hr (by simpa [D.solid] using hc)
      have : v.cells = #[v] := by cases v <;> first | rfl | simp [Value.oneCell'] at h1
      rw [this]
      simp only [D.cells, RepVs]
      exact ⟨v, [], rfl, hr, rfl⟩

theorem cells_one : ∀ (cs : List D) (vs : List Value), RepVs w S φ cs vs → cs.all D.cell = true → ∀ u ∈ vs, u.oneCell' = true
  | [], vs, h, _ => by simp only [RepVs] at h; simp [h]
  | c :: cs, vs, h, hc => by
    simp only [RepVs] at h
    obtain ⟨x, r, rfl, h1, h2⟩ := h
    simp only [List.all_cons, Bool.and_eq_true] at hc
    intro u hu
    rcases List.mem_cons.1 hu with rfl | hu
    · exact cell_one h1 hc.1
    · exact cells_one cs r h2 hc.2 u hu

theorem solid_of_all {d : D} (h : d.cells.all D.cell = true) : d.solid = true := by
  cases d <;> first | rfl | simpa [D.cells, D.solid] using h

/-- What lies in a new block. -/
theorem range_new (vs : Array Value) (t : TypeId) (fr : Nat × Nat) : (w.alloc (.cells vs t fr)).rangeAt w.heap.size 0 vs.toList := by
  intro j v hj
  have hs : (w.alloc (.cells vs t fr)).heap[w.heap.size]? = some (.cells vs t fr) := alloc_new _
  simp only [World.cell?, hs, Option.isSome_none, Bool.false_eq_true, if_false, Nat.zero_add]
  simpa using hj

theorem RepCs_of_get : ∀ (cs : List D) (b o : Nat), (∀ m d, cs[m]? = some d → ∃ x, w.cell? ⟨b, o + m, none⟩ = some x ∧ Rep w S φ d x) → RepCs w S φ cs b o
  | [], b, o, _ => by simp [RepCs]
  | c :: cs, b, o, h => by
    simp only [RepCs]
    refine ⟨h 0 c rfl, RepCs_of_get cs b (o + 1) fun m d hd => ?_⟩
    have := h (m + 1) d (by simpa using hd)
    rwa [show o + (m + 1) = o + 1 + m by omega] at this

theorem RepEs_of_get : ∀ (es : List (List D)) (k b o : Nat), (∀ i e, es[i]? = some e → e.length = k ∧ RepCs w S φ e b (o + i * k)) → RepEs w S φ es k b o
  | [], k, b, o, _ => by simp [RepEs]
  | e :: es, k, b, o, h => by
    simp only [RepEs]
    have h0 := h 0 e rfl
    refine ⟨h0.1, by simpa using h0.2, RepEs_of_get es k b (o + k) fun i e' he => ?_⟩
    have := h (i + 1) e' (by simpa using he)
    rwa [show o + (i + 1) * k = o + k + i * k by rw [Nat.succ_mul]; omega] at this

theorem RepVs_pl : ∀ (vs : List Value), RepVs w S φ (vs.map .pl) vs
  | [] => by simp [RepVs]
  | v :: vs => by simp only [List.map_cons, RepVs, Rep]; exact ⟨v, vs, rfl, rfl, RepVs_pl vs⟩

theorem zero_out {P : Program} {t : TypeId} {z : List Value} (h : Program.zeroOf P t = some z) (w : World) : ∃ v, (zeroValue t).run P w = .ok v w ∧ v.cells.toList = z := by
  unfold Program.zeroOf at h
  split at h
  · rename_i i hi
    split at h
    · rename_i v hv
      simp only [Option.some.injEq] at h
      exact ⟨v, by simp [zeroValue, typeInfo, hi, hv], h⟩
    · simp at h
  · simp at h

theorem al_sound {e : TypeId} {z : List Value} {o : Oper} (ho : o.op = .alloc e) (hz : Program.zeroOf C.P e = some z) (hm : MSim S φ mem nx w) (hid : φ id = none) (hlt : id < nx) (hk : K (.opt id 0) ((id, .box (z.map .pl)) :: mem) nx) :
    Does C.P o a w (Out S φ mem nx w id K) := by
  obtain ⟨v, hv, hvz⟩ := zero_out hz w
  refine does_value (x := .pointer (some ⟨w.heap.size, 0, none⟩)) (w' := w.alloc (.cells v.cells e)) ?_ ?_
  · unfold execOp
    simp only [ho, Instr.alloc, Sem.run_bind, hv, Result.andThen_ok, newVar, newRow, run_newObj, Sem.run_pure]
    rfl
  · have hnew := range_new (w := w) v.cells e (0, 0)
    obtain ⟨φ', h1, h2, h3, h4, h5⟩ := alloc_own (l := ⟨false, true, w.heap.size, 0, 0, 0, 0⟩) (blk := .box (z.map .pl)) hm (.cells v.cells e) hid hlt rfl rfl (by
      intro φ' _
      simp only [BRep]
      refine ⟨trivial, trivial, trivial, ⟨v.cells, e, alloc_new _, by simp [← hvz]⟩, RepCs_of_vals _ _ _ _ ?_ hnew⟩
      rw [hvz]; exact RepVs_pl z)
    refine ⟨.opt id 0, _, nx, S, φ', hk, Nat.le_refl _, ?_, h2, h3, h4, fun i hi _ hn => by rw [h5 i hi]; exact hn⟩
    simp only [Rep]
    exact ⟨_, h1, rfl, rfl⟩

theorem bx_sound {e : TypeId} {X : Operand} {d : D} {o : Oper} (ho : o.op = .box e X) (hd : d.cells.all D.cell = true) (hx : Rep w S φ d (a.eval X)) (hm : MSim S φ mem nx w) (hid : φ id = none) (hlt : id < nx)
    (hk : K (.opt id 0) ((id, .box d.cells) :: mem) nx) : Does C.P o a w (Out S φ mem nx w id K) := by
  refine does_value (x := .pointer (some ⟨w.heap.size, 0, none⟩)) (w' := w.alloc (.cells (a.eval X).cells e)) ?_ ?_
  · unfold execOp
    simp only [ho, Instr.box, Sem.run_bind, Result.andThen_ok, newVar, newRow, run_newObj, Sem.run_pure]
    rfl
  · have hnew := range_new (w := w) (a.eval X).cells e (0, 0)
    have hc := cells_rep hx (solid_of_all hd)
    obtain ⟨φ', h1, h2, h3, h4, h5⟩ := alloc_own (l := ⟨false, true, w.heap.size, 0, 0, 0, 0⟩) (blk := .box d.cells) hm (.cells (a.eval X).cells e) hid hlt rfl rfl (by
      intro φ' hst
      simp only [BRep]
      refine ⟨trivial, trivial, trivial, ⟨_, e, alloc_new _, by rw [← Array.length_toList, RepVs_length _ _ hc]⟩, RepCs_of_vals _ _ _ _ (RepVs.mono hst _ _ hc) hnew⟩)
    refine ⟨.opt id 0, _, nx, S, φ', hk, Nat.le_refl _, ?_, h2, h3, h4, fun i hi _ hn => by rw [h5 i hi]; exact hn⟩
    simp only [Rep]
    exact ⟨_, h1, rfl, rfl⟩

theorem bxi_sound {e : TypeId} {X : Operand} {d : D} {o : Oper} (ho : o.op = .box e X) (hd : d.cells.all D.cell = true) (hx : Rep w S φ d (a.eval X)) (hm : MSim S φ mem nx w)
    (hk : K (.pt d.cells) mem nx) : Does C.P o a w (Out S φ mem nx w id K) := by
  refine does_value (x := .pointer (some ⟨w.heap.size, 0, none⟩)) (w' := w.alloc (.cells (a.eval X).cells e)) ?_ ?_
  · unfold execOp
    simp only [ho, Instr.box, Sem.run_bind, Result.andThen_ok, newVar, newRow, run_newObj, Sem.run_pure]
    rfl
  · have hnew := range_new (w := w) (a.eval X).cells e (0, 0)
    have hc := cells_rep hx (solid_of_all hd)
    obtain ⟨h1, h2, h3⟩ := alloc_imm hm (.cells (a.eval X).cells e)
    refine ⟨.pt d.cells, mem, nx, _, φ, hk, Nat.le_refl _, ?_, h1, h2, h3, fun i _ _ hn => hn⟩
    simp only [Rep]
    exact ⟨_, 0, rfl, .inr rfl, RepCs_of_vals _ _ _ _ (RepVs.mono h2 _ _ hc) hnew⟩

/-! #### make([]T, n) -/
theorem wrap_in {n : Int} (h0 : 0 ≤ n) (h : n ≤ 2 ^ 48) : IntKind.i64.wrap n = n := IntWalk.i64_in n (by omega)

theorem make_run {t e : TypeId} {g : Bool} {k : Nat} {inf : TypeInfo} {z : List Value} {n : Int} (ht : C.P.underlying t = some (.slice e)) (he : Program.tsz C.P e = some (g, k)) (hi : C.P.info? e = some inf) (hz : Program.zeroOf C.P e = some z)
    (hk : 0 < k) (hzk : z.length = k) (hb : 0 < inf.bytes) (h0 : 0 ≤ n) (h1 : n * inf.bytes ≤ 2 ^ 47) (w : World) :
    ∃ cs : Array Value, (Instr.makeSlice t (.int .i64 n) (.int .i64 n)).run C.P w = .ok (.slice (some ⟨w.heap.size, 0, none⟩) n.toNat n.toNat) (w.alloc (.cells cs e)) ∧ cs.size = n.toNat * k ∧
      ∀ j, j < n.toNat * k → cs[j]? = z[j % k]? := by
  obtain ⟨ds, inf', hu, hinf, hsz, _⟩ := tsz_out he
  have hsz : inf.size = k := by rw [hi] at hinf; rw [Option.some.inj hinf]; exact hsz
  have hinf := hi
  obtain ⟨v, hv, hvz⟩ := zero_out hz w
  have hn : n ≤ 2 ^ 47 := Int.le_trans (by have : n * 1 ≤ n * inf.bytes := Int.mul_le_mul_of_nonneg_left (by exact_mod_cast hb) h0; omega) h1
  have hw := wrap_in h0 (by omega)
  have hbn : (inf.bytes : Int) * n ≤ 2 ^ 47 := by rw [Int.mul_comm]; exact h1
  have c1 : ¬ n < 0 := by omega
  have c2 : ¬ ((inf.bytes : Int) * n > 2 ^ 48) := by omega
  have hvs : v.cells.size = k := by rw [← Array.length_toList, hvz, hzk]
  have c0 : (decide (n < 0) || decide ((inf.bytes : Int) * n > 2 ^ 48) || decide (n < 0) || decide (n > n)) = false := by
    rw [decide_eq_false c1, decide_eq_false c2, decide_eq_false (Int.lt_irrefl n)]; rfl
  by_cases hz0 : n.toNat * k = 0
  · refine ⟨#[], ?_, by simp [hz0], fun j hj => by omega⟩
    simp only [Instr.makeSlice, Sem.run_bind, run_underlying ht, Result.andThen_ok, asInt, asIntOf, Sem.run_pure, typeInfo, run_program, hi, hw]
    rw [if_neg (by rw [c0]; simp)]
    simp only [Sem.run_bind, run_askRoom, Result.andThen_ok, run_sizeOf hi, hsz, hz0, if_true, Sem.run_pure, newRow, run_newObj]
    have hemp : ∀ f : Nat → Value, Array.map f (Array.range 0) = #[] := by intro f; simp
    rw [hemp]; rfl
  · refine ⟨(Array.range (n.toNat * k)).map (v.cells[· % v.cells.size]!), ?_, by simp, fun j hj => ?_⟩
    · simp only [Instr.makeSlice, Sem.run_bind, run_underlying ht, Result.andThen_ok, asInt, asIntOf, Sem.run_pure, typeInfo, run_program, hi, hw]
      rw [if_neg (by rw [c0]; simp)]
      simp only [Sem.run_bind, run_askRoom, Result.andThen_ok, run_sizeOf hi, hsz, hz0, if_false, Sem.run_pure, newRow, run_newObj, hv]
      rfl
    · have h1 : j % k < v.cells.size := by rw [hvs]; exact Nat.mod_lt _ hk
      rw [← hvz]
      simp only [Array.getElem?_map, Array.getElem?_range, hj, if_true, Option.map_some, hvs]
      rw [Array.getElem?_toList, getElem!_pos v.cells (j % k) h1, Array.getElem?_eq_getElem h1]

/-- A row of noughts in a new block. -/
theorem RepEs_zeros {n k b : Nat} {z : List Value} {cs : Array Value} (hzk : z.length = k) (hcs : ∀ j, j < n * k → cs[j]? = z[j % k]?) (hsz : cs.size = n * k) (hr : w.rangeAt b 0 cs.toList) :
    RepEs w S φ (List.replicate n (z.map .pl)) k b 0 := by
  refine RepEs_of_get _ _ _ _ fun i e he => ?_
  obtain ⟨hi, rfl⟩ : i < n ∧ e = z.map .pl := by
    rw [List.getElem?_replicate] at he
    split at he
    · rename_i h; simp only [Option.some.injEq] at he; exact ⟨h, he.symm⟩
    · simp at he
  refine ⟨by simp [hzk], RepCs_of_get _ _ _ fun m d hd => ?_⟩
  rw [List.getElem?_map] at hd
  obtain ⟨v, hv, rfl⟩ : ∃ v, z[m]? = some v ∧ D.pl v = d := by
    cases h : z[m]? with
    | none => simp [h] at hd
    | some v => rw [h] at hd; exact ⟨v, rfl, by simpa using hd⟩
  have hm : m < k := by rw [← hzk]; exact (List.getElem?_eq_some_iff.1 hv).1
  have hj : i * k + m < n * k := by
    have : (i + 1) * k ≤ n * k := Nat.mul_le_mul_right k hi
    rw [Nat.succ_mul] at this; omega
  have hc := hcs (i * k + m) hj
  rw [Nat.mul_add_mod_self_right, Nat.mod_eq_of_lt hm, hv] at hc
  refine ⟨v, ?_, by simp [Rep]⟩
  have := hr (i * k + m) v (by simpa using hc)
  rwa [Nat.zero_add] at this ⊢

theorem mki_sound {t e : TypeId} {X Y : Operand} {g : Bool} {k : Nat} {inf : TypeInfo} {z : List Value} {n : Int} {o : Oper} (ho : o.op = .makeSlice t X Y) (ht : C.P.underlying t = some (.slice e)) (he : Program.tsz C.P e = some (g, k)) (hi : C.P.info? e = some inf)
    (hz : Program.zeroOf C.P e = some z) (hk : 0 < k) (hzk : z.length = k) (hb : 0 < inf.bytes) (hX : a.eval X = .int .i64 n) (hY : a.eval Y = .int .i64 n) (h0 : 0 ≤ n) (h1 : n * inf.bytes ≤ 2 ^ 47) (hm : MSim S φ mem nx w)
    (hK : K (.sl (List.replicate n.toNat (z.map .pl))) mem nx) : Does C.P o a w (Out S φ mem nx w id K) := by
  obtain ⟨cs, hrun, hsz, hcs⟩ := make_run ht he hi hz hk hzk hb h0 h1 w
  refine does_value (x := .slice (some ⟨w.heap.size, 0, none⟩) n.toNat n.toNat) (w' := w.alloc (.cells cs e)) ?_ ?_
  · unfold execOp
    simp only [ho, hX, hY, Sem.run_bind, hrun, Result.andThen_ok, Sem.run_pure]
  · have hnew := range_new (w := w) cs e (0, 0)
    obtain ⟨h1, h2, h3⟩ := alloc_imm hm (.cells cs e)
    refine ⟨_, mem, nx, _, φ, hK, Nat.le_refl _, ?_, h1, h2, h3, fun i _ _ hn => hn⟩
    simp only [Rep]
    exact .inr ⟨_, 0, n.toNat, k, by simp, by simp, .inr rfl, RepEs_zeros hzk hcs hsz hnew⟩

theorem mks_sound {t e : TypeId} {X Y : Operand} {g : Bool} {k : Nat} {inf : TypeInfo} {z : List Value} {n : Int} {o : Oper} (ho : o.op = .makeSlice t X Y) (ht : C.P.underlying t = some (.slice e)) (he : Program.tsz C.P e = some (g, k)) (hi : C.P.info? e = some inf)
    (hz : Program.zeroOf C.P e = some z) (hk : 0 < k) (hzk : z.length = k) (hb : 0 < inf.bytes) (hX : a.eval X = .int .i64 n) (hY : a.eval Y = .int .i64 n) (h0 : 0 ≤ n) (h1 : n * inf.bytes ≤ 2 ^ 47) (hm : MSim S φ mem nx w) (hid : φ id = none) (hlt : id < nx)
    (hK : K (.osl id 0 0 n.toNat) ((id, .arr 0 k (List.replicate n.toNat (z.map .pl))) :: mem) nx) : Does C.P o a w (Out S φ mem nx w id K) := by
  obtain ⟨cs, hrun, hsz, hcs⟩ := make_run ht he hi hz hk hzk hb h0 h1 w
  refine does_value (x := .slice (some ⟨w.heap.size, 0, none⟩) n.toNat n.toNat) (w' := w.alloc (.cells cs e)) ?_ ?_
  · unfold execOp
    simp only [ho, hX, hY, Sem.run_bind, hrun, Result.andThen_ok, Sem.run_pure]
  · have hnew := range_new (w := w) cs e (0, 0)
    obtain ⟨φ', h1, h2, h3, h4, h5⟩ := alloc_own (l := ⟨true, true, w.heap.size, 0, k, 0, n.toNat * k⟩) (blk := .arr 0 k (List.replicate n.toNat (z.map .pl))) hm (.cells cs e) hid hlt rfl rfl (by
      intro φ' _
      simp only [BRep]
      exact ⟨trivial, trivial, trivial, .inr ⟨trivial, ⟨cs, e, alloc_new _, hsz⟩, by simp, RepEs_zeros hzk hcs hsz hnew⟩⟩)
    refine ⟨_, _, nx, S, φ', hK, Nat.le_refl _, ?_, h2, h3, h4, fun i hi _ hn => by rw [h5 i hi]; exact hn⟩
    simp only [Rep]
    exact ⟨_, h1, Nat.le_refl _, ⟨_, _, _, rfl⟩, fun _ => .inr ⟨rfl, n.toNat, by simp, Nat.le_refl _, by simp⟩⟩
end
end Go.Fx

/-
  Composite values, slices of slices, stores, appends.
-/

set_option linter.all false
namespace Go.Fx
open Go
section
variable {C : Cfg} {w w' : World} {S : Nat → Prop} {φ : Locs} {a : Act} {env tl : Env} {mem : Mem} {nx id : Nat} {K : KD}

theorem foldl_place (off : Nat) : ∀ (l : List Value) (k : Nat) (cells : Array Value), off + k + l.length ≤ cells.size →
    ((l.zipIdx k).foldl (fun cs (x : Value × Nat) => cs.setIfInBounds (off + x.2) x.1) cells).toList = cells.toList.take (off + k) ++ l ++ cells.toList.drop (off + k + l.length)
  | [], k, cells, h => by simp
  | v :: l, k, cells, h => by
    simp only [List.zipIdx_cons, List.foldl_cons]
    simp only [List.length_cons] at h
    rw [foldl_place off l (k + 1) (cells.setIfInBounds (off + k) v) (by simp; omega)]
    have hlt : off + k < cells.toList.length := by simp; omega
    rw [Array.toList_setIfInBounds]
    have e1 : (cells.toList.set (off + k) v).take (off + (k + 1)) = cells.toList.take (off + k) ++ [v] := by
      rw [← Nat.add_assoc, List.take_succ_eq_append_getElem (by simpa using hlt)]
      simp [List.take_set_of_le]
    have e2 : (cells.toList.set (off + k) v).drop (off + (k + 1) + l.length) = cells.toList.drop (off + k + (v :: l).length) := by
      rw [List.drop_set_of_lt (by omega)]
      congr 1; simp; omega
    rw [e1, e2]; simp

theorem RepVs_place {off : Nat} {cs new : List D} {vs ns : List Value} (h : RepVs w S φ cs vs) (k : RepVs w S φ new ns) : RepVs w S φ (place off cs new) (vs.take off ++ ns ++ vs.drop (off + ns.length)) := by
  unfold place
  refine RepVs_append _ _ _ _ (RepVs_append _ _ _ _ (RepVs_take off _ _ h) k) ?_
  rw [RepVs_length _ _ k]
  exact RepVs_drop _ _ _ h

theorem fill_sound (hk : Known C w S φ env tl a) (pl : Nat → Option (Nat × Nat)) : ∀ (ps : List (Nat × Operand)) (qs : List (Nat × Nat × Opd)) (ds : List (Nat × Nat × D)) (cs out : List D) (vs : Array Value),
    C.parts pl ps = some qs → rps tl env qs = some ds → RepVs w S φ cs vs.toList → fillD cs ds = some out →
    ∃ vs', Instr.fill pl vs (ps.map fun p => (p.1, a.eval p.2)) = some vs' ∧ RepVs w S φ out vs'.toList
  | [], qs, ds, cs, out, vs, h1, h2, h3, h4 => by
    simp only [Cfg.parts, List.mapM_nil, Option.pure_def, Option.some.injEq] at h1; subst h1
    simp only [rps, Option.some.injEq] at h2; subst h2
    simp only [fillD, Option.some.injEq] at h4; subst h4
    exact ⟨vs, rfl, h3⟩
  | (i, x) :: ps, qs, ds, cs, out, vs, h1, h2, h3, h4 => by
    simp only [Cfg.parts, List.mapM_cons, Option.bind_eq_bind, Option.bind_eq_some_iff, Option.pure_def, Option.some.injEq] at h1
    obtain ⟨q, hq, qs', hqs, rfl⟩ := h1
    split at hq
    · rename_i o n y hpl hy
      simp only [Option.some.injEq] at hq; subst hq
      simp only [rps] at h2
      split at h2
      · rename_i d ds' hd hds
        simp only [Option.some.injEq] at h2; subst h2
        simp only [fillD, Option.ite_none_right_eq_some] at h4
        obtain ⟨⟨hsol, hlen, hle⟩, h4⟩ := h4
        have hr := cells_rep (ro_sound hk hy hd) hsol
        have hl1 := RepVs_length _ _ hr
        have hl2 := RepVs_length _ _ h3
        simp only [Array.length_toList] at hl1 hl2
        have hsz : (a.eval x).cells.size = n := by omega
        have hsz2 : o + (a.eval x).cells.size ≤ vs.size := by omega
        have hfold := foldl_place o (a.eval x).cells.toList 0 vs (by simp; omega)
        obtain ⟨vs', hf, hv⟩ := fill_sound hk pl ps qs' ds' (place o cs d.cells) out ((a.eval x).cells.zipIdx.foldl (fun cs (x : Value × Nat) => cs.setIfInBounds (o + x.2) x.1) vs) hqs hds (by
          rw [← Array.foldl_toList, Array.toList_zipIdx, hfold]
          simpa using RepVs_place (off := o) h3 hr) h4
        refine ⟨vs', ?_, hv⟩
        simp only [List.map_cons, Instr.fill, hpl]
        rw [if_neg (by simp; omega)]
        exact hf
      · simp at h2
    · simp at hq

theorem run_mapM_list {P : Program} {α β : Type} (f : α → Sem β) (g : α → β) (w : World) : ∀ (l : List α), (∀ x ∈ l, (f x).run P w = .ok (g x) w) → (l.mapM f).run P w = .ok (l.map g) w
  | [], _ => by simp [List.mapM_nil]
  | x :: l, h => by
    rw [List.mapM_cons, Sem.run_bind, h x (by simp), Result.andThen_ok, Sem.run_bind, run_mapM_list f g w l (fun y hy => h y (by simp [hy]))]
    simp

theorem run_mapM {P : Program} {α β : Type} (f : α → Sem β) (g : α → β) (w : World) (l : Array α) (h : ∀ x ∈ l.toList, (f x).run P w = .ok (g x) w) : (l.mapM f).run P w = .ok (l.map g) w := by
  rw [Array.mapM_eq_mapM_toList, Sem.run_map, run_mapM_list f g w l.toList h]
  simp only [Result.andThen_ok]
  congr 1
  apply Array.ext'
  simp

theorem bld_struct {t : TypeId} {fs : Array Field} {z : List Value} {ps : Array (Nat × Operand)} {qs : List (Nat × Nat × Opd)} {ds : List (Nat × Nat × D)} {d : D} (hk : Known C w S φ env tl a) (hz : Program.zeroOf C.P t = some z) (ht : C.P.underlying t = some (.struct fs))
    (hall : fs.toList.all (fun f => (C.P.info? f.type).isSome) = true) (hq : C.parts (C.fieldPlaces fs) ps.toList = some qs) (hd : rps tl env qs = some ds) (h : bldD z ds = some d) :
    ∃ r, Rep w S φ d r ∧ (Instr.build t (ps.map fun (i, x) => (i, a.eval x))).run C.P w = .ok r w := by
  obtain ⟨v, hv, hvz⟩ := zero_out hz w
  unfold bldD at h
  cases hf : fillD (z.map .pl) ds with
  | none => simp [hf] at h
  | some out =>
    simp only [hf, Option.map_some, Option.some.injEq] at h; subst h
    have hpl : ∀ i p, C.fieldPlaces fs i = some p → (fs.map fun f => (f.offset, ((C.P.info? f.type).map (·.size)).getD 0))[i]? = some p := by
      intro i p hp
      unfold Cfg.fieldPlaces at hp
      split at hp
      · rename_i f hfi
        split at hp
        · rename_i g n htz
          simp only [Option.some.injEq] at hp; subst hp
          obtain ⟨dd, inf, _, hi, hsz, _⟩ := tsz_out htz
          simp [hfi, hi, hsz]
        · simp at hp
      · simp at hp
    have hparts : C.parts (fun i => (fs.map fun f => (f.offset, ((C.P.info? f.type).map (·.size)).getD 0))[i]?) ps.toList = some qs := by
      clear hd hf
      generalize ps.toList = l at hq
      induction l generalizing qs with
      | nil => simpa [Cfg.parts] using hq
      | cons p l ih =>
        obtain ⟨i, x⟩ := p
        simp only [Cfg.parts, List.mapM_cons, Option.bind_eq_bind, Option.bind_eq_some_iff, Option.pure_def, Option.some.injEq] at hq ⊢
        obtain ⟨q, h1, qs', h2, rfl⟩ := hq
        refine ⟨q, ?_, qs', ih h2, rfl⟩
        cases hp : C.fieldPlaces fs i with
        | none => simp [hp] at h1
        | some p =>
          rw [hp] at h1
          rw [hpl i p hp]
          exact h1
    obtain ⟨vs', hfill, hrep⟩ := fill_sound hk _ ps.toList qs ds (z.map .pl) out v.cells hparts hd (by rw [hvz]; exact RepVs_pl z) hf
    refine ⟨.agg vs', by simp only [Rep]; exact ⟨vs', rfl, hrep⟩, ?_⟩
    have hm := run_mapM (P := C.P) (fun f : Field => (do pure (f.offset, ← sizeOf f.type) : Sem (Nat × Nat))) (fun f => (f.offset, ((C.P.info? f.type).map (·.size)).getD 0)) w fs (by
      intro f hf
      have := List.all_eq_true.1 hall f hf
      obtain ⟨i, hi⟩ := Option.isSome_iff_exists.1 this
      simp [run_sizeOf hi, hi])
    simp only [Instr.build, Sem.run_bind, hv, Result.andThen_ok, run_underlying ht, hm]
    rw [show (ps.map fun (x : Nat × Operand) => (x.1, a.eval x.2)).toList = ps.toList.map fun p => (p.1, a.eval p.2) by simp]
    rw [hfill]
    simp

theorem bld_array {t e : TypeId} {len : Nat} {g : Bool} {k : Nat} {z : List Value} {ps : Array (Nat × Operand)} {qs : List (Nat × Nat × Opd)} {ds : List (Nat × Nat × D)} {d : D} (hk : Known C w S φ env tl a) (hz : Program.zeroOf C.P t = some z) (ht : C.P.underlying t = some (.array len e))
    (he : Program.tsz C.P e = some (g, k)) (hq : C.parts (fun i => some (i * k, k)) ps.toList = some qs) (hd : rps tl env qs = some ds) (h : bldD z ds = some d) :
    ∃ r, Rep w S φ d r ∧ (Instr.build t (ps.map fun (i, x) => (i, a.eval x))).run C.P w = .ok r w := by
  obtain ⟨v, hv, hvz⟩ := zero_out hz w
  obtain ⟨dd, inf, _, hi, hsz, _⟩ := tsz_out he
  unfold bldD at h
  cases hf : fillD (z.map .pl) ds with
  | none => simp [hf] at h
  | some out =>
    simp only [hf, Option.map_some, Option.some.injEq] at h; subst h
    obtain ⟨vs', hfill, hrep⟩ := fill_sound hk _ ps.toList qs ds (z.map .pl) out v.cells hq hd (by rw [hvz]; exact RepVs_pl z) hf
    refine ⟨.agg vs', by simp only [Rep]; exact ⟨vs', rfl, hrep⟩, ?_⟩
    simp only [Instr.build, Sem.run_bind, hv, Result.andThen_ok, run_underlying ht, run_sizeOf hi, hsz]
    rw [show (ps.map fun (x : Nat × Operand) => (x.1, a.eval x.2)).toList = ps.toList.map fun p => (p.1, a.eval p.2) by simp]
    rw [hfill]
    simp

theorem RepVs_flat (z : List Value) : ∀ (n : Nat), RepVs w S φ (List.replicate n (z.map D.pl)).flatten (List.replicate n z).flatten
  | 0 => by simp [RepVs]
  | n + 1 => by
    simp only [List.replicate_succ, List.flatten_cons]
    exact RepVs_append _ _ _ _ (RepVs_pl z) (RepVs_flat z n)

theorem range_flat (k : Nat) (hk : 0 < k) (z : Array Value) (hz : z.size = k) : ∀ n, ((Array.range (n * k)).map (z[· % z.size]!)).toList = (List.replicate n z.toList).flatten := by
  intro n
  rw [Array.toList_map, Array.toList_range]
  induction n with
  | zero => simp
  | succ n ih =>
    rw [Nat.succ_mul, List.replicate_succ', List.flatten_append, ← ih, List.range_add, List.map_append]
    congr 1
    simp only [List.map_map, List.flatten_cons, List.flatten_nil, List.append_nil]
    apply List.ext_getElem?
    intro i
    by_cases hi : i < k
    · have h1 : (n * k + i) % z.size = i := by rw [hz, Nat.mul_add_mod_self_right, Nat.mod_eq_of_lt hi]
      rw [List.getElem?_map, List.getElem?_range hi]
      simp only [Option.map_some, Function.comp, h1]
      rw [getElem!_pos z i (by omega), Array.getElem?_toList, Array.getElem?_eq_getElem (by omega)]
    · rw [List.getElem?_eq_none (by simp; omega), List.getElem?_eq_none (by simp; omega)]

theorem chunks_rep (k b : Nat) : ∀ (n : Nat) (cs : List D) (o : Nat), cs.length = n * k → RepCs w S φ cs b o → RepEs w S φ (chunks k n cs) k b o
  | 0, cs, o, _, _ => by simp [chunks, RepEs]
  | n + 1, cs, o, hl, h => by
    simp only [chunks, RepEs]
    rw [Nat.succ_mul] at hl
    exact ⟨by simp; omega, RepCs_take k cs b o h, chunks_rep k b n (cs.drop k) (o + k) (by simp; omega) (RepCs_drop k cs b o h)⟩

theorem chunks_length (k : Nat) : ∀ (n : Nat) (cs : List D), (chunks k n cs).length = n
  | 0, cs => rfl
  | n + 1, cs => by simp [chunks, chunks_length k n]

theorem bs_run {t e : TypeId} {g : Bool} {k len : Nat} {z : List Value} {ps : Array (Nat × Operand)} {qs : List (Nat × Nat × Opd)} {ds : List (Nat × Nat × D)} {es : List (List D)} (hk : Known C w S φ env tl a) (ht : C.P.underlying t = some (.slice e)) (he : Program.tsz C.P e = some (g, k))
    (hz : Program.zeroOf C.P e = some z) (h0 : len ≠ 0) (hlen : len * k ≤ 2 ^ 24) (hkp : 0 < k) (hzk : z.length = k) (hq : C.parts (fun i => some (i * k, k)) ps.toList = some qs) (hd : rps tl env qs = some ds) (h : bslD k len z ds = some es) :
    ∃ cs : Array Value, (Instr.buildSlice t len (ps.map fun (i, x) => (i, a.eval x))).run C.P w = .ok (.slice (some ⟨w.heap.size, 0, none⟩) len len) (w.alloc (.cells cs e)) ∧ cs.size = len * k ∧ es.length = len ∧ RepVs w S φ es.flatten cs.toList ∧ ∃ out, RepVs w S φ out cs.toList ∧ out.length = len * k ∧ es = chunks k len out := by
  obtain ⟨v, hv, hvz⟩ := zero_out hz w
  obtain ⟨dd, inf, _, hi, hsz, _⟩ := tsz_out he
  unfold bslD at h
  cases hf : fillD (List.replicate len (z.map D.pl)).flatten ds with
  | none => simp [hf] at h
  | some out =>
    simp only [hf, Option.map_some, Option.some.injEq] at h; subst h
    have hvs : v.cells.size = k := by rw [← Array.length_toList, hvz, hzk]
    have hflat := range_flat k hkp v.cells hvs len
    obtain ⟨vs', hfill, hrep⟩ := fill_sound hk _ ps.toList qs ds _ out ((Array.range (len * k)).map (v.cells[· % v.cells.size]!)) hq hd (by
      rw [hflat, hvz]; exact RepVs_flat z len) hf
    have hlenD : ∀ (ds : List (Nat × Nat × D)) (cs out : List D), fillD cs ds = some out → out.length = cs.length := by
      intro ds
      induction ds with
      | nil => intro cs out h; simp only [fillD, Option.some.injEq] at h; rw [h]
      | cons p ds ih =>
        obtain ⟨o, n, d⟩ := p
        intro cs out h
        simp only [fillD, Option.ite_none_right_eq_some] at h
        obtain ⟨⟨_, h1, h2⟩, h3⟩ := h
        rw [ih _ _ h3]; simp [place]; omega
    have hol : out.length = len * k := by
      rw [hlenD _ _ _ hf]; simp [hzk]
    have hvl := RepVs_length _ _ hrep
    refine ⟨vs', ?_, by rw [← Array.length_toList, hvl, hol], chunks_length _ _ _, ?_, out, hrep, hol, rfl⟩
    · have hnz : ¬ (len * k = 0) := by have := Nat.mul_pos (Nat.pos_of_ne_zero h0) hkp; omega
      simp only [Instr.buildSlice, Sem.run_bind, run_underlying ht, Result.andThen_ok, run_sizeOf hi, hsz]
      rw [if_neg (by omega)]
      simp only [hnz, if_false, Sem.run_bind, hv, Result.andThen_ok, Sem.run_pure]
      rw [show (ps.map fun (x : Nat × Operand) => (x.1, a.eval x.2)).toList = ps.toList.map fun p => (p.1, a.eval p.2) by simp, hfill]
      simp only [Sem.run_bind, newRow, run_newObj, Result.andThen_ok, Sem.run_pure]
      rfl
    · have : ∀ (n : Nat) (cs : List D), cs.length = n * k → (chunks k n cs).flatten = cs := by
        intro n
        induction n with
        | zero => intro cs h; simp at h; simp [chunks, h]
        | succ n ih => intro cs h; rw [Nat.succ_mul] at h; simp only [chunks, List.flatten_cons]; rw [ih _ (by simp; omega), List.take_append_drop]
      rw [this len out hol]; exact hrep
end
end Go.Fx

/-
  Stores, appends, slices of slices.
-/

set_option linter.all false
namespace Go.Fx
open Go
section
variable {C : Cfg} {w w' : World} {S : Nat → Prop} {φ : Locs} {a : Act} {env tl : Env} {mem : Mem} {nx id : Nat} {K : KD}

theorem setCells_facts (b : Nat) : ∀ (vs : List Value) (o : Nat) (w : World), (∀ b', b' ≠ b → (w.setCells b o vs).heap[b']? = w.heap[b']?) ∧ (w.setCells b o vs).heap.size = w.heap.size ∧
    (w.setCells b o vs).os = w.os ∧ (w.setCells b o vs).output = w.output ∧ (w.setCells b o vs).tape = w.tape ∧
    ∀ c t fr, w.heap[b]? = some (.cells c t fr) → ∃ c', (w.setCells b o vs).heap[b]? = some (.cells c' t fr) ∧ c'.size = c.size
  | [], o, w => ⟨fun _ _ => rfl, rfl, rfl, rfl, rfl, fun c t fr h => ⟨c, h, rfl⟩⟩
  | v :: vs, o, w => by
    obtain ⟨h1, h2, h3, h4, h5, h6⟩ := setCells_facts b vs (o + 1) (w.setCell ⟨b, o, none⟩ v)
    rw [World.setCells]
    refine ⟨fun b' hb => (h1 b' hb).trans ?_, h2.trans ?_, h3, h4, h5, fun c t fr h => ?_⟩
    · simp only [World.setCell, Array.getElem?_modify]
      rw [if_neg (by omega)]
    · simp [World.setCell]
    · have : (w.setCell ⟨b, o, none⟩ v).heap[b]? = some (.cells (c.setIfInBounds o v) t fr) := by
        simp only [World.setCell, Array.getElem?_modify, if_true, h, Option.map_some, Option.isSome_none, Bool.false_eq_true, if_false]
      obtain ⟨c', hc, hs⟩ := h6 _ _ _ this
      exact ⟨c', hc, by rw [hs]; simp⟩

theorem there_of_block {b : Nat} {c : Array Value} {t : TypeId} (h : w.heap[b]? = some (.cells c t (0, 0))) {o n : Nat} (hn : o + n ≤ c.size) : w.there b o n := by
  intro j hj
  constructor
  · simp only [World.cell?, h, Option.isSome_none, Bool.false_eq_true, if_false]
    simp; omega
  · simp [World.frozen?, h]

theorem run_storeAt_any {t : TypeId} {b o n : Nat} {v : Value} {i : TypeInfo} {P : Program} (hi : P.info? t = some i) (hn : i.size = n) (hv : v.cells.size = n) (ht : w.there b o n) (h1 : ∀ u ∈ v.cells.toList, u.oneCell' = true) :
    (Instr.storeAt t (.pointer (some ⟨b, o, none⟩)) v).run P w = .ok () (w.setCells b o v.cells.toList) := by
  have h := run_storeAt_mid (P := P) w b o t v.cells (by rw [hv]; exact ht) (by rw [hi]; simp; omega) (Array.all_eq_true_iff_forall_mem.2 fun u hu => h1 u (by simpa using hu))
  rw [show Instr.storeAt t (.pointer (some ⟨b, o, none⟩)) v = Instr.storeAt t (.pointer (some ⟨b, o, none⟩)) (.agg v.cells) from rfl]
  exact h

theorem RepCs_get : ∀ (cs : List D) (b o m : Nat) (d : D), RepCs w S φ cs b o → cs[m]? = some d → ∃ x, w.cell? ⟨b, o + m, none⟩ = some x ∧ Rep w S φ d x
  | [], b, o, m, d, _, h => by simp at h
  | c :: cs, b, o, 0, d, h, hd => by
    simp only [List.getElem?_cons_zero, Option.some.injEq] at hd; subst hd
    simp only [RepCs] at h
    exact h.1
  | c :: cs, b, o, m + 1, d, h, hd => by
    simp only [List.getElem?_cons_succ] at hd
    simp only [RepCs] at h
    have := RepCs_get cs b (o + 1) m d h.2 hd
    rwa [show o + 1 + m = o + (m + 1) by omega] at this

/-- Behind a store: the cells that were stored, and all others as they were. -/
theorem RepCs_stored {cs new : List D} {b o off : Nat} {ns : List Value} (hst : Stays w S φ (w.setCells b (o + off) ns) S φ) (h : RepCs w S φ cs b o) (hn : RepVs w S φ new ns) (hl : off + new.length ≤ cs.length)
    (ht : w.there b (o + off) ns.length) : RepCs (w.setCells b (o + off) ns) S φ (place off cs new) b o := by
  have hlen := RepVs_length _ _ hn
  refine RepCs_of_get _ _ _ fun m d hd => ?_
  unfold place at hd
  by_cases h1 : m < off
  · rw [List.append_assoc, List.getElem?_append_left (by simp; omega), List.getElem?_take_of_lt h1] at hd
    obtain ⟨x, hx, hr⟩ := RepCs_get cs b o m d h hd
    refine ⟨x, ?_, Rep.mono hst _ _ hr⟩
    rw [World.cell?_setCells_out _ _ _ _ _ (fun _ _ => .inl (by show o + m < o + off; omega))]; exact hx
  · by_cases h2 : m < off + new.length
    · rw [List.append_assoc, List.getElem?_append_right (by simp; omega), List.getElem?_append_left (by simp; omega)] at hd
      have hmin : (cs.take off).length = off := by simp; omega
      rw [hmin] at hd
      obtain ⟨x, hx, hr⟩ := RepVs_get _ _ _ _ hn hd
      have hj : m - off < ns.length := by omega
      have := World.cell?_setCells_in b ns (o + off) w (fun j hj => (ht j hj).1) (m - off) hj
      rw [show o + off + (m - off) = o + m by omega] at this
      refine ⟨x, ?_, Rep.mono hst _ _ hr⟩
      rw [this, ← hx, List.getElem?_eq_getElem hj]
    · have hmin : (cs.take off ++ new).length = off + new.length := by simp; omega
      rw [List.getElem?_append_right (by rw [hmin]; omega), hmin, List.getElem?_drop] at hd
      rw [show off + new.length + (m - (off + new.length)) = m by omega] at hd
      obtain ⟨x, hx, hr⟩ := RepCs_get cs b o m d h hd
      refine ⟨x, ?_, Rep.mono hst _ _ hr⟩
      rw [World.cell?_setCells_out _ _ _ _ _ (fun _ _ => .inr (by show o + off + ns.length ≤ o + m; omega))]; exact hx

theorem RepCs_apart {cs : List D} {b o s : Nat} {ns : List Value} (hst : Stays w S φ (w.setCells b s ns) S φ) (h : RepCs w S φ cs b o) (hl : o + cs.length ≤ s ∨ s + ns.length ≤ o) : RepCs (w.setCells b s ns) S φ cs b o := by
  refine RepCs_of_get _ _ _ fun m d hd => ?_
  have hm : m < cs.length := (List.getElem?_eq_some_iff.1 hd).1
  obtain ⟨x, hx, hr⟩ := RepCs_get cs b o m d h hd
  refine ⟨x, ?_, Rep.mono hst _ _ hr⟩
  have hs : o + m < s ∨ s + ns.length ≤ o + m := by omega
  rw [World.cell?_setCells_out _ _ _ _ _ (fun _ _ => hs)]; exact hx

theorem wrc_sound {t : TypeId} {g : Bool} {n : Nat} {x y : D} {v u : Value} {mem' : Mem} (ht : Program.tsz C.P t = some (g, n)) (h : wrc mem n x y.cells = some mem') (hm : MSim S φ mem nx w) (hx : Rep w S φ x v) (hu : Rep w S φ y u) :
    ∃ w', (Instr.storeAt t v u).run C.P w = .ok () w' ∧ MSim S φ mem' nx w' ∧ Stays w S φ w' S φ ∧ Ext S φ mem w S φ mem' w' := by
  obtain ⟨ds, inf, hun, hi, hsz, _⟩ := tsz_out ht
  unfold wrc at h
  simp only [Option.ite_none_right_eq_some] at h
  obtain ⟨⟨hlen, hcell⟩, h⟩ := h
  have hvs := cells_rep hu (solid_of_all hcell)
  have hvl : u.cells.size = n := by rw [← Array.length_toList, RepVs_length _ _ hvs, hlen]
  have h1 := cells_one _ _ hvs hcell
  split at h
  · rename_i i off
    split at h
    · rename_i cs hl
      simp only [Option.ite_none_right_eq_some, Option.some.injEq] at h
      obtain ⟨hle, rfl⟩ := h
      obtain ⟨l, hφ, hS, hb⟩ := hm.mem i _ hl
      simp only [Rep] at hx
      obtain ⟨l', hφ', _, rfl⟩ := hx
      rw [hφ] at hφ'; simp only [Option.some.injEq] at hφ'; subst hφ'
      have hb0 := hb
      simp only [BRep] at hb
      obtain ⟨hr, ha, hbase, ⟨c, t', hc, hcs⟩, hrep⟩ := hb
      have hth : w.there l.b (l.base + off) n := there_of_block hc (by omega)
      refine ⟨_, run_storeAt_any hi hsz hvl hth h1, ?_⟩
      obtain ⟨f1, f2, f3, f4, f5, f6⟩ := setCells_facts l.b u.cells.toList (l.base + off) w
      refine write_own hm hφ hr hl f1 f2 f3 f4 f5 fun hst => ?_
      obtain ⟨c', hc', hs'⟩ := f6 _ _ _ hc
      simp only [BRep]
      have hpl : (place off cs y.cells).length = cs.length := by simp [place]; omega
      refine ⟨hr, ha, hbase, ⟨c', t', hc', by rw [hs', hcs, hpl]⟩, ?_⟩
      rw [hbase] at hst hth ⊢
      exact RepCs_stored hst hrep hvs (by omega) (by simpa [hvl] using hth)
    · simp at h
  · rename_i i ver ix off
    split at h
    · rename_i v' k es hl
      split at h
      · rename_i hv
        split at h
        · rename_i e he
          simp only [Option.ite_none_right_eq_some, Option.some.injEq] at h
          obtain ⟨hle, rfl⟩ := h
          obtain ⟨l, hφ, hS, hb⟩ := hm.mem i _ hl
          simp only [Rep] at hx
          obtain ⟨l', hφ', _, _, hx⟩ := hx
          rw [hφ] at hφ'; simp only [Option.some.injEq] at hφ'; subst hφ'
          simp only [BRep] at hb
          obtain ⟨ha, hver, hk, hb⟩ := hb
          obtain ⟨hr, rfl⟩ := hx (by omega)
          rcases hb with hb | ⟨_, ⟨c, t', hc, hcs⟩, hbd, hes⟩
          · simp [hb.2] at he
          · obtain ⟨hek, hec⟩ := RepEs_get es k l.b l.base ix e hes he
            have hix : ix < es.length := (List.getElem?_eq_some_iff.1 he).1
            have hbd2 : (ix + 1) * k ≤ es.length * k := Nat.mul_le_mul_right k hix
            rw [Nat.succ_mul] at hbd2
            have hth : w.there l.b (l.base + ix * l.k + off) n := there_of_block hc (by rw [hk]; omega)
            refine ⟨_, run_storeAt_any hi hsz hvl hth h1, ?_⟩
            obtain ⟨f1, f2, f3, f4, f5, f6⟩ := setCells_facts l.b u.cells.toList (l.base + ix * l.k + off) w
            refine write_own hm hφ hr hl f1 f2 f3 f4 f5 fun hst => ?_
            obtain ⟨c', hc', hs'⟩ := f6 _ _ _ hc
            simp only [BRep]
            refine ⟨ha, hver, hk, .inr ⟨hr, ⟨c', t', hc', by rw [hs', hcs]⟩, by simpa using hbd, ?_⟩⟩
            rw [hk] at hst hth ⊢
            refine RepEs_of_get _ _ _ _ fun j e' he' => ?_
            rw [List.getElem?_set] at he'
            split at he'
            · rename_i hij
              subst hij
              simp only [hix, if_true, Option.some.injEq] at he'; subst he'
              exact ⟨by simp [place]; omega, RepCs_stored hst hec hvs (by omega) (by simpa [hvl] using hth)⟩
            · rename_i hij
              obtain ⟨q1, q2⟩ := RepEs_get es k l.b l.base j e' hes he'
              refine ⟨q1, RepCs_apart hst q2 ?_⟩
              have hul : u.cells.toList.length = n := by simpa using hvl
              rcases Nat.lt_or_gt_of_ne hij with hlt | hgt
              · right
                have : (ix + 1) * k ≤ j * k := Nat.mul_le_mul_right k hlt
                rw [Nat.succ_mul] at this; omega
              · left
                have : (j + 1) * k ≤ ix * k := Nat.mul_le_mul_right k hgt
                rw [Nat.succ_mul] at this; omega
        · simp at h
      · simp at h
    · simp at h
  · simp at h
end
end Go.Fx

/-
  Appends, slices of slices, calls.
-/

set_option linter.all false
namespace Go.Fx
open Go
section
variable {C : Cfg} {w w' : World} {S : Nat → Prop} {φ : Locs} {a : Act} {env tl : Env} {mem : Mem} {nx id : Nat} {K : KD}

theorem RepCs_flatten : ∀ (es : List (List D)) (k b o : Nat), RepEs w S φ es k b o → RepCs w S φ es.flatten b o ∧ es.flatten.length = es.length * k
  | [], k, b, o, _ => by simp [RepCs]
  | e :: es, k, b, o, h => by
    simp only [RepEs] at h
    obtain ⟨h1, h2⟩ := RepCs_flatten es k b (o + k) h.2.2
    simp only [List.flatten_cons, List.length_append, List.length_cons, Nat.succ_mul]
    exact ⟨RepCs_append _ _ _ _ h.2.1 (by rw [h.1]; exact h1), by rw [h2, h.1]; omega⟩

theorem RepEs_of_flat (k b : Nat) : ∀ (es : List (List D)) (o : Nat), (∀ e ∈ es, e.length = k) → RepCs w S φ es.flatten b o → RepEs w S φ es k b o
  | [], o, _, _ => by simp [RepEs]
  | e :: es, o, hk, h => by
    simp only [List.flatten_cons] at h
    simp only [RepEs]
    have he := hk e (by simp)
    have h1 := RepCs_take e.length _ b o h
    have h2 := RepCs_drop e.length _ b o h
    rw [List.take_left] at h1
    rw [List.drop_left, he] at h2
    exact ⟨he, h1, RepEs_of_flat k b es (o + k) (fun e h => hk e (by simp [h])) h2⟩

theorem RepEs_lens : ∀ (es : List (List D)) (k b o : Nat), RepEs w S φ es k b o → ∀ e ∈ es, e.length = k
  | [], k, b, o, _, e, he => by simp at he
  | x :: es, k, b, o, h, e, he => by
    simp only [RepEs] at h
    rcases List.mem_cons.1 he with rfl | he
    · exact h.1
    · exact RepEs_lens es k b (o + k) h.2.2 e he

theorem rangeAt_of_heap {w1 : World} (h : w1.heap = w.heap) {b o : Nat} {cs : List Value} (hr : w.rangeAt b o cs) : w1.rangeAt b o cs := by
  intro j v hj
  have := hr j v hj
  simp only [World.cell?, h] at this ⊢
  exact this

/-- The cells of a slice that lies at an address, read in any world with the same memory. -/
theorem firstCells_run {P : Program} {k n cap b o : Nat} {vs : List Value} {w1 : World} (h : w1.heap = w.heap) (hr : w.rangeAt b o vs) (hl : vs.length = n * k) :
    (Builtin.firstCells k n (.slice (some ⟨b, o, none⟩) n cap)).run P w1 = .ok vs.toArray w1 := by
  simp only [Builtin.firstCells, ← hl]
  exact run_loadCells_list (P := P) w1 ⟨b, o, none⟩ vs fun j v hv => by rw [Addr.add_mid]; exact rangeAt_of_heap h hr j v hv

theorem all_cells {es : List (List D)} (h : es.all (fun e => e.all D.cell) = true) : es.flatten.all D.cell = true := by
  rw [List.all_flatten]; exact h

theorem els_sound {k : Nat} {y : D} {new : List (List D)} {v : Value} (h : els mem k y = some new) (hy : Rep w S φ y v) (hm : MSim S φ mem nx w) :
    ∃ p c, v = .slice p new.length c ∧ ∃ ns : Array Value, (∀ w1 : World, w1.heap = w.heap → (Builtin.firstCells k new.length v).run C.P w1 = .ok ns w1) ∧ RepVs w S φ new.flatten ns.toList ∧ (∀ u ∈ ns.toList, u.oneCell' = true) ∧ ∀ e ∈ new, e.length = k := by
  cases y with
  | sl es =>
    simp only [els, Option.ite_none_right_eq_some, Option.some.injEq] at h
    obtain ⟨hall, rfl⟩ := h
    have hk : ∀ e ∈ es, e.length = k := fun e he => by have := List.all_eq_true.1 hall e he; simp at this; exact this.1
    have hc : es.flatten.all D.cell = true := all_cells (List.all_eq_true.2 fun e he => by have := List.all_eq_true.1 hall e he; simp only [Bool.and_eq_true] at this; exact this.2)
    simp only [Rep] at hy
    rcases hy with ⟨rfl, rfl | ⟨p, rfl⟩⟩ | ⟨b, o, cap, k', rfl, hcap, hS, hes⟩
    · exact ⟨none, 0, rfl, #[], fun w1 _ => rfl, by simp [RepVs], by simp, by simp⟩
    · exact ⟨some p, 0, rfl, #[], fun w1 _ => by simp [Builtin.firstCells, loadCells, loadCellsFrom], by simp [RepVs], by simp, by simp⟩
    · obtain ⟨hf, hfl⟩ := RepCs_flatten es k' b o hes
      obtain ⟨vs, hl, hrg, hvs⟩ := RepCs_vals _ b o hf
      have hlen : es.flatten.length = es.length * k := by
        clear hf hfl hl hvs hc hes hcap hall
        induction es with
        | nil => simp
        | cons e es ih =>
          simp only [List.flatten_cons, List.length_append, List.length_cons, Nat.succ_mul]
          rw [ih (fun e h => hk e (by simp [h])), hk e (by simp)]; omega
      refine ⟨_, _, rfl, vs.toArray, fun w1 h1 => firstCells_run h1 hrg (by rw [hl, hlen]), by simpa using hvs, ?_, hk⟩
      simpa using cells_one _ _ hvs hc
  | pl u =>
    simp only [Rep] at hy; subst hy
    cases v with
    | slice p n c =>
      cases p with
      | some p =>
        cases n with
        | succ _ => simp [els] at h
        | zero =>
          simp only [els, Option.some.injEq] at h; subst h
          exact ⟨some p, c, rfl, #[], fun w1 _ => by simp [Builtin.firstCells, loadCells, loadCellsFrom], by simp [RepVs], by simp, by simp⟩
      | none =>
        cases n with
        | succ _ => simp [els] at h
        | zero =>
          cases c with
          | succ _ => simp [els] at h
          | zero =>
            simp only [els, Option.some.injEq] at h; subst h
            exact ⟨none, 0, rfl, #[], fun w1 _ => rfl, by simp [RepVs], by simp, by simp⟩
    | _ => simp [els] at h
  | zs =>
    simp only [els, Option.some.injEq] at h; subst h
    simp only [Rep] at hy
    rcases hy with rfl | ⟨p, rfl⟩
    · exact ⟨none, 0, rfl, #[], fun w1 _ => rfl, by simp [RepVs], by simp, by simp⟩
    · exact ⟨some p, 0, rfl, #[], fun w1 _ => by simp [Builtin.firstCells, loadCells, loadCellsFrom], by simp [RepVs], by simp, by simp⟩
  | osl i ver lo n =>
    simp only [els] at h
    split at h
    · rename_i v' k' es hl
      simp only [Option.ite_none_right_eq_some, Option.some.injEq] at h
      obtain ⟨⟨hv, hk', hln, hall⟩, rfl⟩ := h
      subst hv hk'
      obtain ⟨l, hφ, hS, hb⟩ := hm.mem i _ hl
      simp only [Rep] at hy
      obtain ⟨l', hφ', _, _, hx⟩ := hy
      rw [hφ] at hφ'; simp only [Option.some.injEq] at hφ'; subst hφ'
      simp only [BRep] at hb
      obtain ⟨ha, hver, hk, hb⟩ := hb
      have hlen : ((es.drop lo).take n).length = n := by simp; omega
      rw [hlen]
      rcases hx hver with ⟨hr, rfl, rfl, hz⟩ | ⟨hr, cap, rfl, hc1, hc2⟩
      · rcases hz with rfl | ⟨p, rfl⟩
        · exact ⟨none, 0, rfl, #[], fun w1 _ => rfl, by simp [RepVs], by simp, by simp⟩
        · exact ⟨some p, 0, rfl, #[], fun w1 _ => by simp [Builtin.firstCells, loadCells, loadCellsFrom], by simp [RepVs], by simp, by simp⟩
      · rcases hb with hb | ⟨_, ⟨c, t, hc, hcs⟩, hbd, hes⟩
        · simp [hb.1] at hr
        · have hes' := RepEs_take n _ _ _ _ (RepEs_drop lo es _ _ _ hes)
          obtain ⟨hf, hfl⟩ := RepCs_flatten _ _ _ _ hes'
          obtain ⟨vs, hvl, hrg, hvs⟩ := RepCs_vals _ _ _ hf
          have hcell : ((es.drop lo).take n).flatten.all D.cell = true := all_cells (List.all_eq_true.2 fun e he => List.all_eq_true.1 hall e (List.mem_of_mem_drop (List.mem_of_mem_take he)))
          refine ⟨_, _, rfl, vs.toArray, fun w1 h1 => firstCells_run h1 (by rw [hk]; exact hrg) (by rw [hvl, hfl, hlen]), by simpa using hvs, ?_, RepEs_lens _ _ _ _ hes'⟩
          simpa using cells_one _ _ hvs hcell
    · simp at h
  | _ => simp [els] at h

theorem growBy_le (n : Nat) : ∀ (r c : Nat), c ≤ n + (n + 768) / 4 → Builtin.growBy n r c ≤ n + (n + 768) / 4
  | 0, c, h => h
  | r + 1, c, h => by
    simp only [Builtin.growBy]
    split
    · exact h
    · exact growBy_le n r _ (by omega)

theorem nextcap_le {n c bytes : Nat} (h1 : c < n) (h2 : n * bytes ≤ 3 * 2 ^ 46) (h3 : bytes ≤ 2 ^ 20) : Builtin.nextslicecap n c * bytes ≤ 2 ^ 48 := by
  have hle : Builtin.nextslicecap n c ≤ n + (n + 768) / 4 + 512 := by
    unfold Builtin.nextslicecap
    split
    · omega
    · split
      · omega
      · have := growBy_le n 4 c (by omega); omega
  have h4 : Builtin.nextslicecap n c * bytes ≤ (n + (n + 768) / 4 + 512) * bytes := Nat.mul_le_mul_right _ hle
  have h5 : 4 * ((n + (n + 768) / 4 + 512) * bytes) ≤ (5 * n + 2816) * bytes := by
    rw [← Nat.mul_assoc]
    exact Nat.mul_le_mul_right _ (by omega)
  have h6 : (5 * n + 2816) * bytes = 5 * (n * bytes) + 2816 * bytes := by rw [Nat.add_mul, Nat.mul_assoc]
  omega

theorem MSim.of_heap {w1 : World} (h : w1.heap = w.heap) (hos : w1.os = w.os) (hout : w1.output = w.output) (htp : w1.tape = w.tape) (hm : MSim S φ mem nx w) :
    MSim S φ mem nx w1 ∧ Stays w S φ w1 S φ ∧ Ext S φ mem w S φ mem w1 := by
  have hst : Stays w S φ w1 S φ := Stays.of_heap (fun b h => h) (fun b _ => by rw [h]) (fun _ _ h => h)
  refine ⟨⟨fun i blk hi => ?_, hm.inj, fun i l h1 hr => by rw [h]; exact hm.lt i l h1 hr, hm.fresh, fun b hb => by rw [h]; exact hm.sub b hb⟩, hst,
    ⟨fun b h => h, fun b _ _ => by rw [h], by rw [h]; exact Nat.le_refl _, fun b _ h => h, fun b h => .inl h, hos, hout, htp⟩⟩
  obtain ⟨l, h1, h2, h3⟩ := hm.mem i blk hi
  exact ⟨l, h1, h2, h3.mono hst fun _ => by rw [h]⟩

theorem run_typeInfo {P : Program} {t : TypeId} {i : TypeInfo} (h : P.info? t = some i) (w : World) : (typeInfo t).run P w = .ok i w := by
  simp [typeInfo, h]

/-- What an append comes to that has no room: a new block. -/
theorem append_new {P : Program} {st xt e k n cap m : Nat} {ts : Array TypeId} {ty : TypeId} {inf : TypeInfo} {z : List Value} {p q : Option Addr} {c2 : Nat} {os ns : Array Value} (hts : ts[0]? = some st) (hxs : ts[1]? = some xt) (hst : P.underlying st = some (.slice e)) {e2 : TypeId} (hxt : P.underlying xt = some (.slice e2))
    (hi : P.info? e = some inf) (hsz : inf.size = k) (hz : Program.zeroOf P e = some z) (hzk : z.length = k) (hb0 : 0 < inf.bytes) (hb1 : inf.bytes ≤ 2 ^ 20) (hnr : cap < n + m) (hbd : (n + m) * inf.bytes ≤ 3 * 2 ^ 46)
    (hold : ∀ w1 : World, w1.heap = w.heap → (Builtin.firstCells k n (.slice p n cap)).run P w1 = .ok os w1) (hnew : ∀ w1 : World, w1.heap = w.heap → (Builtin.firstCells k m (.slice q m c2)).run P w1 = .ok ns w1) :
    ∃ (newCap : Nat) (w1 : World) (rest : Array Value), n + m ≤ newCap ∧ w1.heap = w.heap ∧ w1.os = w.os ∧ w1.output = w.output ∧ w1.tape = w.tape ∧ rest.size = (newCap - (n + m)) * k ∧
      (Builtin.append_ ts ty #[.slice p n cap, .slice q m c2]).run P w = .ok (.slice (some ⟨w1.heap.size, 0, none⟩) (n + m) newCap) (w1.alloc (.cells (os ++ ns ++ rest) e)) := by
  let w1 : World := { w with drawn := w.drawn + 1 }
  obtain ⟨v, hv, hvz⟩ := zero_out hz w1
  let newCap := (Question.appendCap (n + m) cap e).cut (w.tape w.drawn (.appendCap (n + m) cap e))
  refine ⟨newCap, w1, Builtin.zeroCells v.cells (newCap - (n + m)), by simp [newCap, Question.cut], rfl, rfl, rfl, rfl, ?_, ?_⟩
  · have : v.cells.size = k := by rw [← Array.length_toList, hvz, hzk]
    simp [Builtin.zeroCells, this]
  · have hlt : ¬ ((n + m : Int) > IntKind.i64.max ∧ (false = true ∨ inf.bytes = 0)) := by simp; omega
    have hcap := nextcap_le hnr hbd hb1
    have g1 : ¬ (n + m ≤ cap) := by omega
    have g2 : ¬ (Builtin.nextslicecap (n + m) cap * inf.bytes > 2 ^ 48) := by omega
    have g3 : ¬ inf.bytes = 0 := by omega
    have d1 := hold w1 rfl
    have d2 := hnew w1 rfl
    simp only [Builtin.append_, List.getElem?_toArray, hts, hxs, Sem.run_bind, run_underlying hst, run_underlying hxt, Result.andThen_ok, run_sizeOf hi, hsz, Sem.run_pure, List.getElem?_cons_zero, List.getElem?_cons_succ]
    simp only [Bool.false_eq_true, if_false, Builtin.lenOf, Sem.run_bind, Sem.run_pure, Result.andThen_ok, g1, run_typeInfo hi, Bool.not_false, if_true]
    rw [if_neg (by simp; omega)]
    simp only [Sem.run_bind, run_typeInfo hi, Result.andThen_ok]
    rw [if_neg g2]
    have hch : (choose (.appendCap (n + m) cap e)).run P w = .ok newCap w1 := by
      rw [run_choose, if_neg (by simp [Question.forced])]
    simp only [Sem.run_bind, hch, Result.andThen_ok, run_typeInfo hi, run_askRoom, d1, d2, hv, Sem.run_pure, newRow, run_newObj]
    rfl

/-- An append that has room: in place. -/
theorem append_room {P : Program} {st xt e k n cap m : Nat} {ts : Array TypeId} {ty : TypeId} {inf : TypeInfo} {b o : Nat} {q : Option Addr} {c2 : Nat} {ns : Array Value} (hts : ts[0]? = some st) (hxs : ts[1]? = some xt) (hst : P.underlying st = some (.slice e)) {e2 : TypeId} (hxt : P.underlying xt = some (.slice e2))
    (hi : P.info? e = some inf) (hsz : inf.size = k) (hr : n + m ≤ cap) (hnew : (Builtin.firstCells k m (.slice q m c2)).run P w = .ok ns w) (ht : w.there b (o + n * k) ns.toList.length) (h1 : ∀ u ∈ ns.toList, u.oneCell' = true) :
    (Builtin.append_ ts ty #[.slice (some ⟨b, o, none⟩) n cap, .slice q m c2]).run P w = .ok (.slice (some ⟨b, o, none⟩) (n + m) cap) (w.setCells b (o + n * k) ns.toList) := by
  simp only [Builtin.append_, List.getElem?_toArray, hts, hxs, Sem.run_bind, run_underlying hst, run_underlying hxt, Result.andThen_ok, run_sizeOf hi, hsz, Sem.run_pure, List.getElem?_cons_zero, List.getElem?_cons_succ]
  simp only [Bool.false_eq_true, if_false, Builtin.lenOf, Sem.run_bind, Sem.run_pure, Result.andThen_ok, hr, Bool.not_false, if_true, hnew, Addr.add_mid]
  have := run_storeCells_cells (P := P) b (o + n * k) ns.toList 0 w (fun j hj => by simpa using (ht j hj).1) (fun j hj => by simpa using (ht j hj).2) h1
  simp only [Nat.add_zero] at this
  rw [this]; rfl

/-- An append of nothing to a slice without room. -/
theorem append_none {P : Program} {st xt e k : Nat} {ts : Array TypeId} {ty : TypeId} {inf : TypeInfo} {p q : Option Addr} {c2 : Nat} {ns : Array Value} (hts : ts[0]? = some st) (hxs : ts[1]? = some xt) (hst : P.underlying st = some (.slice e)) {e2 : TypeId} (hxt : P.underlying xt = some (.slice e2))
    (hi : P.info? e = some inf) (hsz : inf.size = k) (hnew : (Builtin.firstCells k 0 (.slice q 0 c2)).run P w = .ok ns w) (hn : ns = #[]) :
    (Builtin.append_ ts ty #[.slice p 0 0, .slice q 0 c2]).run P w = .ok (.slice p 0 0) w := by
  subst hn
  simp only [Builtin.append_, List.getElem?_toArray, hts, hxs, Sem.run_bind, run_underlying hst, run_underlying hxt, Result.andThen_ok, run_sizeOf hi, hsz, Sem.run_pure, List.getElem?_cons_zero, List.getElem?_cons_succ]
  simp only [Bool.false_eq_true, if_false, Builtin.lenOf, Sem.run_bind, Sem.run_pure, Result.andThen_ok, Nat.add_zero, Nat.le_refl, Bool.not_false, if_true, hnew]
  cases p <;> simp [storeCells]

theorem zs_slice {x : Value} (h : Zs S x) : ∃ p, x = .slice p 0 0 := by
  rcases h with rfl | ⟨p, rfl⟩
  · exact ⟨none, rfl⟩
  · exact ⟨_, rfl⟩

theorem roomless_zs {d : D} {x : Value} (h : d.roomless = true) (hr : Rep w S φ d x) : Zs S x := by
  cases d with
  | zs => simpa [Rep] using hr
  | pl u =>
    simp only [Rep] at hr; subst hr
    cases x with
    | slice p n c => cases p <;> cases n <;> cases c <;> simp [D.roomless] at h; exact .inl rfl
    | _ => simp [D.roomless] at h
  | _ => simp [D.roomless] at h

theorem rangeAt_app {b o : Nat} {xs ys : List Value} (h : w.rangeAt b o (xs ++ ys)) : w.rangeAt b o xs ∧ w.rangeAt b (o + xs.length) ys := by
  constructor
  · intro j v hj
    exact h j v (by rw [List.getElem?_append_left (List.getElem?_eq_some_iff.1 hj).1]; exact hj)
  · intro j v hj
    have := h (xs.length + j) v (by rw [List.getElem?_append_right (by omega), Nat.add_sub_cancel_left]; exact hj)
    rwa [← Nat.add_assoc] at this

structure App (P : Program) (k : Nat) (ts : Array TypeId) (e : TypeId) (inf : TypeInfo) (z : List Value) : Prop where
  t0 : ∃ st, ts[0]? = some st ∧ P.underlying st = some (.slice e)
  t1 : ∃ xt e2, ts[1]? = some xt ∧ P.underlying xt = some (.slice e2)
  hinf : P.info? e = some inf
  size : inf.size = k
  zero : Program.zeroOf P e = some z
  kpos : 0 < k
  zlen : z.length = k
  bpos : 0 < inf.bytes
  bmax : inf.bytes ≤ 2 ^ 20

theorem apn_sound {k : Nat} {ts : Array TypeId} {e ty : TypeId} {inf : TypeInfo} {z : List Value} {x y d : D} {u v : Value} {m : Mem} (hA : App C.P k ts e inf z) (h : apnM id mem k inf.bytes (some x) (some y) = some (d, m)) (hx : Rep w S φ x u) (hy : Rep w S φ y v)
    (hm : MSim S φ mem nx w) (hid : φ id = none) (hlt : id < nx) (hk : K d m nx) : ∃ r w', (Builtin.append_ ts ty #[u, v]).run C.P w = .ok r w' ∧ Out S φ mem nx w id K r w' := by
  simp only [apnM, Option.ite_none_right_eq_some] at h
  obtain ⟨hrl, h⟩ := h
  split at h
  · rename_i es hes
    simp only [Option.ite_none_right_eq_some, Option.some.injEq, Prod.mk.injEq] at h
    obtain ⟨hbd, rfl, rfl⟩ := h
    have hz := roomless_zs hrl hx
    obtain ⟨p, rfl⟩ := zs_slice hz
    obtain ⟨q, c2, rfl, ns, hns, hnv, hn1, hek⟩ := els_sound hes hy hm
    obtain ⟨st, hst0, hst⟩ := hA.t0
    obtain ⟨xt, e2, hxt0, hxt⟩ := hA.t1
    have hnl := RepVs_length _ _ hnv
    cases es with
    | nil =>
      have hn0 : ns = #[] := by simpa using hnl
      refine ⟨_, _, append_none hst0 hxt0 hst hxt hA.hinf hA.size (hns w rfl) hn0, ?_⟩
      obtain ⟨φ', h1, h2, h3, h4, h5⟩ := own_nil hm hid hlt k
      refine ⟨_, _, nx, S, φ', hk, Nat.le_refl _, ?_, h2, h3, h4, fun i hi _ hn => by rw [h5 i hi]; exact hn⟩
      simp only [Rep]
      exact ⟨_, h1, Nat.le_refl _, ⟨_, _, _, rfl⟩, fun _ => .inl ⟨rfl, trivial, rfl, hz⟩⟩
    | cons e0 es0 =>
      obtain ⟨newCap, w1, rest, g1, g2, g3, g4, g5, g6, hrun⟩ := append_new (w := w) (n := 0) (cap := 0) (m := (e0 :: es0).length) (p := p) (q := q) (c2 := c2) (ty := ty) (os := #[]) (ns := ns) hst0 hxt0 hst hxt hA.hinf hA.size hA.zero hA.zlen hA.bpos hA.bmax (by simp) (by simpa using hbd)
        (fun w1 _ => by cases p <;> simp [Builtin.firstCells, loadCells, loadCellsFrom]) (fun w1 h => hns w1 h)
      refine ⟨_, _, hrun, ?_⟩
      obtain ⟨m1, m2, m3⟩ := MSim.of_heap g2 g3 g4 g5 hm
      have hnew := range_new (w := w1) (#[] ++ ns ++ rest) e (0, 0)
      have hfl : (e0 :: es0).flatten.length = (e0 :: es0).length * k := by
        have : ∀ l : List (List D), (∀ e ∈ l, e.length = k) → l.flatten.length = l.length * k := by
          intro l hl
          induction l with
          | nil => simp
          | cons a l ih => simp only [List.flatten_cons, List.length_append, List.length_cons, Nat.succ_mul]; rw [ih (fun e h => hl e (by simp [h])), hl a (by simp)]; omega
        exact this _ hek
      have hsz : (#[] ++ ns ++ rest : Array Value).size = newCap * k := by
        have e1 : ns.size = (e0 :: es0).length * k := by rw [← Array.length_toList, hnl, hfl]
        simp only [Array.size_append, Array.size_empty, e1, g6, Nat.zero_add]
        rw [← Nat.add_mul]; congr 1; omega
      obtain ⟨φ', h1, h2, h3, h4, h5⟩ := alloc_own (l := ⟨true, true, w1.heap.size, 0, k, 0, newCap * k⟩) (blk := .arr 0 k (e0 :: es0)) m1 (.cells (#[] ++ ns ++ rest) e) hid hlt rfl rfl (by
        intro φ' hst'
        simp only [BRep]
        refine ⟨trivial, trivial, trivial, .inr ⟨trivial, ⟨_, e, alloc_new _, hsz⟩, ?_, RepEs_of_flat _ _ _ _ hek (RepCs_of_vals _ ns.toList _ _ (RepVs.mono (m2.trans hst') _ _ hnv) ?_)⟩⟩
        · rw [Nat.zero_add]; exact Nat.mul_le_mul_right k (by omega)
        · have := hnew
          simp only [Array.toList_append, Array.toList_empty, List.nil_append] at this
          exact (rangeAt_app this).1)
      refine ⟨_, _, nx, S, φ', hk, Nat.le_refl _, ?_, h2, m2.trans h3, m3.trans h4, fun i hi _ hn => by rw [h5 i hi]; exact hn⟩
      simp only [Rep]
      refine ⟨_, h1, Nat.le_refl _, ⟨_, _, _, rfl⟩, fun _ => .inr ⟨rfl, newCap, by simp, by omega, by simp⟩⟩
  · simp at h

theorem flatten_len {k : Nat} : ∀ l : List (List D), (∀ e ∈ l, e.length = k) → l.flatten.length = l.length * k := by
  intro l hl
  induction l with
  | nil => simp
  | cons a l ih => simp only [List.flatten_cons, List.length_append, List.length_cons, Nat.succ_mul]; rw [ih (fun e h => hl e (by simp [h])), hl a (by simp)]; omega

theorem app_sound {k : Nat} {ts : Array TypeId} {e ty : TypeId} {inf : TypeInfo} {z : List Value} {x y d : D} {u v : Value} {m : Mem} (hA : App C.P k ts e inf z) (h : appM id mem k inf.bytes (some x) (some y) = some (d, m)) (hx : Rep w S φ x u) (hy : Rep w S φ y v)
    (hm : MSim S φ mem nx w) (hid : φ id = none) (hlt : id < nx) (hk : K d m nx) : ∃ r w', (Builtin.append_ ts ty #[u, v]).run C.P w = .ok r w' ∧ Out S φ mem nx w id K r w' := by
  unfold appM at h
  split at h
  · rename_i i ver lo n y' hx' hy'
    simp only [Option.some.injEq] at hx' hy'
    subst hx' hy'
    split at h
    · rename_i v' k' es new hl hes
      simp only [Option.ite_none_right_eq_some, Option.some.injEq, Prod.mk.injEq] at h
      obtain ⟨⟨hv, hk', hln, hbd⟩, rfl, rfl⟩ := h
      subst hv hk'
      obtain ⟨st, hst0, hst⟩ := hA.t0
      obtain ⟨xt, e2, hxt0, hxt⟩ := hA.t1
      obtain ⟨q, c2, rfl, ns, hns, hnv, hn1, hek⟩ := els_sound hes hy hm
      have hnl := RepVs_length _ _ hnv
      have hnsz : ns.toList.length = new.length * k' := by rw [hnl, flatten_len new hek]
      obtain ⟨l, hφ, hS, hb⟩ := hm.mem i _ hl
      simp only [Rep] at hx
      obtain ⟨l0, hφ0, _, _, hx⟩ := hx
      rw [hφ] at hφ0; simp only [Option.some.injEq] at hφ0; subst hφ0
      have hb0 := hb
      simp only [BRep] at hb
      obtain ⟨ha, hver, hkk, hb⟩ := hb
      have hsub : ((es.drop lo).take n).length = n := by simp; omega
      have hne : ∀ i' : Nat, i' ≠ id → i' < nx → φ i' = none → i' ≠ i := by rintro i' _ _ h rfl; rw [hφ] at h; simp at h
      rcases hx hver with ⟨hr, rfl, rfl, hzs⟩ | ⟨hr, cap, rfl, hc1, hc2⟩
      · -- a slice without a block
        have hes0 : es = [] := by rcases hb with hb | hb; exact hb.2; simp [hr] at hb
        subst hes0
        obtain ⟨p, rfl⟩ := zs_slice hzs
        cases new with
        | nil =>
          have hn0 : ns = #[] := by simpa using hnsz
          refine ⟨_, _, append_none hst0 hxt0 hst hxt hA.hinf hA.size (hns w rfl) hn0, ?_⟩
          obtain ⟨φ', h1, h2, h3, h4, h5⟩ := bump_own (l' := { l with ver := v' + 1 }) (blk := .arr (v' + 1) k' ((([] : List (List D)).drop 0).take 0 ++ [])) (w' := w) hm hφ ha ha (by rw [hver]; exact Nat.lt_succ_self _) hl rfl rfl (fun _ _ => rfl) rfl rfl rfl rfl (by
            intro φ' _ _
            simp only [BRep]
            exact ⟨ha, trivial, hkk, .inl ⟨hr, by simp⟩⟩)
          refine ⟨_, _, nx, S, φ', hk, Nat.le_refl _, ?_, h2, h3, h4, fun i' g1 g2 g3 => by rw [h5 i' (hne i' g1 g2 g3)]; exact g3⟩
          simp only [Rep]
          exact ⟨_, h1, Nat.le_refl _, ⟨_, _, _, rfl⟩, fun _ => .inl ⟨hr, trivial, rfl, hzs⟩⟩
        | cons e0 es0 =>
          obtain ⟨newCap, w1, rest, g1, g2, g3, g4, g5, g6, hrun⟩ := append_new (w := w) (n := 0) (cap := 0) (m := (e0 :: es0).length) (p := p) (q := q) (c2 := c2) (ty := ty) (os := #[]) (ns := ns) hst0 hxt0 hst hxt hA.hinf hA.size hA.zero hA.zlen hA.bpos hA.bmax (by simp) (by simpa using hbd)
            (fun w1 _ => by cases p <;> simp [Builtin.firstCells, loadCells, loadCellsFrom]) (fun w1 h => hns w1 h)
          refine ⟨_, _, hrun, ?_⟩
          obtain ⟨m1, m2, m3⟩ := MSim.of_heap g2 g3 g4 g5 hm
          have hnew := range_new (w := w1) (#[] ++ ns ++ rest) e (0, 0)
          have hsz : (#[] ++ ns ++ rest : Array Value).size = newCap * k' := by
            have e1 : ns.size = (e0 :: es0).length * k' := by rw [← Array.length_toList, hnsz]
            simp only [Array.size_append, Array.size_empty, e1, g6, Nat.zero_add]
            rw [← Nat.add_mul]; congr 1; omega
          obtain ⟨φ', h1, h2, h3, h4, h5⟩ := move_own (l' := ⟨true, true, w1.heap.size, 0, k', v' + 1, newCap * k'⟩) (blk := .arr (v' + 1) k' ((([] : List (List D)).drop 0).take 0 ++ (e0 :: es0))) m1 hφ ha rfl (by rw [hver]; exact Nat.lt_succ_self _) hl (.cells (#[] ++ ns ++ rest) e) rfl rfl (by
            intro φ' _ hst'
            simp only [BRep]
            refine ⟨trivial, trivial, trivial, .inr ⟨trivial, ⟨_, e, alloc_new _, hsz⟩, ?_, ?_⟩⟩
            · simp only [List.drop_nil, List.take_nil, List.nil_append, Nat.zero_add]; exact Nat.mul_le_mul_right k' (by omega)
            · simp only [List.drop_nil, List.take_nil, List.nil_append]
              refine RepEs_of_flat _ _ _ _ hek (RepCs_of_vals _ ns.toList _ _ (RepVs.mono (m2.trans hst') _ _ hnv) ?_)
              have := hnew
              simp only [Array.toList_append, Array.toList_empty, List.nil_append] at this
              exact (rangeAt_app this).1)
          refine ⟨_, _, nx, S, φ', hk, Nat.le_refl _, ?_, h2, m2.trans h3, m3.trans h4, fun i' q1 q2 q3 => by rw [h5 i' (hne i' q1 q2 q3)]; exact q3⟩
          simp only [Rep]
          refine ⟨_, h1, Nat.le_refl _, ⟨_, _, _, rfl⟩, fun _ => .inr ⟨rfl, newCap, by simp, by omega, by simp⟩⟩
      · -- a slice of a block
        rcases hb with hb | ⟨_, ⟨c, t, hc, hcs⟩, hbd2, hes2⟩
        · simp [hb.1] at hr
        have hbase : l.base + lo * l.k = l.base + lo * k' := by rw [hkk]
        have hc2' : l.base + (lo + cap) * k' ≤ l.size := by rw [← hkk]; exact hc2
        have hold := RepEs_take n _ _ _ _ (RepEs_drop lo es _ _ _ hes2)
        by_cases hroom : n + new.length ≤ cap
        · -- in place
          have hin : l.base + lo * k' + n * k' + new.length * k' ≤ l.size := by
            have e1 : (lo + (n + new.length)) * k' ≤ (lo + cap) * k' := Nat.mul_le_mul_right k' (by omega)
            rw [Nat.add_mul, Nat.add_mul] at e1; omega
          have hth : w.there l.b (l.base + lo * k' + n * k') ns.toList.length := there_of_block hc (by rw [hnsz, hcs]; exact hin)
          have hrun := append_room (w := w) (b := l.b) (o := l.base + lo * k') (n := n) (cap := cap) (m := new.length) (q := q) (c2 := c2) (ty := ty) (ns := ns) hst0 hxt0 hst hxt hA.hinf hA.size hroom (hns w rfl) hth hn1
          rw [hbase]
          refine ⟨_, _, hrun, ?_⟩
          obtain ⟨f1, f2, f3, f4, f5, f6⟩ := setCells_facts l.b ns.toList (l.base + lo * k' + n * k') w
          obtain ⟨c', hc', hs'⟩ := f6 _ _ _ hc
          obtain ⟨φ', h1, h2, h3, h4, h5⟩ := bump_own (l' := { l with ver := v' + 1, base := l.base + lo * k' }) (blk := .arr (v' + 1) k' ((es.drop lo).take n ++ new)) (w' := w.setCells l.b (l.base + lo * k' + n * k') ns.toList) hm hφ ha ha (by rw [hver]; exact Nat.lt_succ_self _) hl rfl rfl (fun b hb => f1 b (hb hr)) f2 f3 f4 f5 (by
            intro φ' _ hst'
            simp only [BRep]
            refine ⟨ha, trivial, hkk, .inr ⟨hr, ⟨c', t, hc', by rw [hs', hcs]⟩, ?_, ?_⟩⟩
            · rw [List.length_append, hsub, Nat.add_mul]; omega
            · refine RepEs_append _ _ _ _ _ ?_ ?_
              · refine RepEs_of_get _ _ _ _ fun j e' he' => ?_
                obtain ⟨q1, q2⟩ := RepEs_get _ _ _ _ _ _ hold he'
                have hj : j < n := by have := (List.getElem?_eq_some_iff.1 he').1; omega
                refine ⟨q1, RepCs_of_get _ _ _ fun m' d hd => ?_⟩
                have hm' : m' < e'.length := (List.getElem?_eq_some_iff.1 hd).1
                obtain ⟨x, hx, hr'⟩ := RepCs_get _ _ _ _ _ q2 hd
                refine ⟨x, ?_, Rep.mono hst' _ _ hr'⟩
                have e1 : (j + 1) * k' ≤ n * k' := Nat.mul_le_mul_right k' hj
                rw [Nat.succ_mul] at e1
                rw [World.cell?_setCells_out _ _ _ _ _ (fun _ _ => .inl (by show l.base + lo * k' + j * k' + m' < l.base + lo * k' + n * k'; omega))]; exact hx
              · rw [hsub]
                refine RepEs_of_flat _ _ _ _ hek (RepCs_of_vals _ ns.toList _ _ (RepVs.mono hst' _ _ hnv) ?_)
                exact World.rangeAt_setCells_same _ _ _ _ hth)
          refine ⟨_, _, nx, S, φ', hk, Nat.le_refl _, ?_, h2, h3, h4, fun i' q1 q2 q3 => by rw [h5 i' (hne i' q1 q2 q3)]; exact q3⟩
          simp only [Rep]
          refine ⟨_, h1, Nat.le_refl _, ⟨_, _, _, rfl⟩, fun _ => .inr ⟨hr, cap, by simp, hroom, ?_⟩⟩
          show l.base + lo * k' + (0 + cap) * l.k ≤ l.size
          rw [hkk, Nat.zero_add]
          rw [Nat.add_mul] at hc2'; omega
        · -- a new block
          obtain ⟨vs, hvl, hrg, hvs⟩ := RepCs_vals _ _ _ (RepCs_flatten _ _ _ _ hold).1
          have hvl2 : vs.length = n * k' := by rw [hvl, (RepCs_flatten _ _ _ _ hold).2, hsub]
          obtain ⟨newCap, w1, rest, g1, g2, g3, g4, g5, g6, hrun⟩ := append_new (w := w) (n := n) (cap := cap) (m := new.length) (p := some ⟨l.b, l.base + lo * k', none⟩) (q := q) (c2 := c2) (ty := ty) (os := vs.toArray) (ns := ns) hst0 hxt0 hst hxt hA.hinf hA.size hA.zero hA.zlen hA.bpos hA.bmax (by omega) hbd
            (fun w1 h => firstCells_run h hrg hvl2) (fun w1 h => hns w1 h)
          rw [hbase]
          refine ⟨_, _, hrun, ?_⟩
          obtain ⟨m1, m2, m3⟩ := MSim.of_heap g2 g3 g4 g5 hm
          have hnew := range_new (w := w1) (vs.toArray ++ ns ++ rest) e (0, 0)
          have hsz : (vs.toArray ++ ns ++ rest : Array Value).size = newCap * k' := by
            have e1 : ns.size = new.length * k' := by rw [← Array.length_toList, hnsz]
            simp only [Array.size_append, List.size_toArray, hvl2, e1, g6]
            rw [← Nat.add_mul, ← Nat.add_mul]; congr 1; omega
          obtain ⟨φ', h1, h2, h3, h4, h5⟩ := move_own (l' := ⟨true, true, w1.heap.size, 0, k', v' + 1, newCap * k'⟩) (blk := .arr (v' + 1) k' ((es.drop lo).take n ++ new)) m1 hφ ha rfl (by rw [hver]; exact Nat.lt_succ_self _) hl (.cells (vs.toArray ++ ns ++ rest) e) rfl rfl (by
            intro φ' _ hst'
            simp only [BRep]
            refine ⟨trivial, trivial, trivial, .inr ⟨trivial, ⟨_, e, alloc_new _, hsz⟩, ?_, ?_⟩⟩
            · rw [List.length_append, hsub, Nat.zero_add]; exact Nat.mul_le_mul_right k' (by omega)
            · have hn' := hnew
              simp only [Array.toList_append] at hn'
              obtain ⟨r1, _⟩ := rangeAt_app hn'
              refine RepEs_of_flat _ _ _ _ (fun e' he' => ?_) (RepCs_of_vals _ (vs ++ ns.toList) _ _ ?_ r1)
              · rcases List.mem_append.1 he' with he' | he'
                · exact RepEs_lens _ _ _ _ hold e' he'
                · exact hek e' he'
              · rw [List.flatten_append]
                exact RepVs_append _ _ _ _ (RepVs.mono (m2.trans hst') _ _ hvs) (RepVs.mono (m2.trans hst') _ _ hnv))
          refine ⟨_, _, nx, S, φ', hk, Nat.le_refl _, ?_, h2, m2.trans h3, m3.trans h4, fun i' q1 q2 q3 => by rw [h5 i' (hne i' q1 q2 q3)]; exact q3⟩
          simp only [Rep]
          refine ⟨_, h1, Nat.le_refl _, ⟨_, _, _, rfl⟩, fun _ => .inr ⟨rfl, newCap, by simp, by omega, by simp⟩⟩
    · simp at h
  · exact apn_sound hA h hx hy hm hid hlt hk
end
end Go.Fx

/-
  Slices of slices, calls; each operation.
-/

set_option linter.all false
namespace Go.Fx
open Go
section
variable {C : Cfg} {w w' : World} {S : Nat → Prop} {φ : Locs} {a : Act} {env tl : Env} {mem : Mem} {nx id : Nat} {K : KD}

mutual
theorem Rep_imm {φ' : Locs} : ∀ (d : D) (x : Value), D.imm d = true → Rep w S φ d x → Rep w S φ' d x
  | .top, _, _, _ => by simp [Rep]
  | .zs, x, _, h => by simpa [Rep] using h
  | .pl v, x, _, h => by simpa [Rep] using h
  | .sl es, x, hi, h => by
    simp only [Rep, D.imm] at hi h ⊢
    rcases h with h | ⟨b, o, cap, k, h1, h2, h3, h4⟩
    · exact .inl h
    · exact .inr ⟨b, o, cap, k, h1, h2, h3, RepEs_imm es k b o hi h4⟩
  | .pt cs, x, hi, h => by
    simp only [Rep, D.imm] at hi h ⊢
    obtain ⟨b, o, h1, h2, h3⟩ := h
    exact ⟨b, o, h1, h2, RepCs_imm cs b o hi h3⟩
  | .opt _ _, _, hi, _ => by simp [D.imm] at hi
  | .osl _ _ _ _, _, hi, _ => by simp [D.imm] at hi
  | .oel _ _ _ _, _, hi, _ => by simp [D.imm] at hi
  | .omap _, _, hi, _ => by simp [D.imm] at hi
  | .fn f cs, x, hi, h => by
    simp only [Rep, D.imm] at hi h ⊢
    obtain ⟨vs, h1, h2⟩ := h
    exact ⟨vs, h1, RepVs_imm cs _ hi h2⟩
  | .agg cs, x, hi, h => by
    simp only [Rep, D.imm] at hi h ⊢
    obtain ⟨vs, h1, h2⟩ := h
    exact ⟨vs, h1, RepVs_imm cs _ hi h2⟩
  | .tup cs, x, hi, h => by
    simp only [Rep, D.imm] at hi h ⊢
    obtain ⟨vs, h1, h2⟩ := h
    exact ⟨vs, h1, RepVs_imm cs _ hi h2⟩
theorem RepVs_imm {φ' : Locs} : ∀ (ds : List D) (xs : List Value), D.imms ds = true → RepVs w S φ ds xs → RepVs w S φ' ds xs
  | [], xs, _, h => by simpa [RepVs] using h
  | d :: ds, xs, hi, h => by
    simp only [RepVs, D.imms, Bool.and_eq_true] at hi h ⊢
    obtain ⟨x, r, h1, h2, h3⟩ := h
    exact ⟨x, r, h1, Rep_imm d x hi.1 h2, RepVs_imm ds r hi.2 h3⟩
theorem RepCs_imm {φ' : Locs} : ∀ (ds : List D) (b o : Nat), D.imms ds = true → RepCs w S φ ds b o → RepCs w S φ' ds b o
  | [], b, o, _, h => by simp [RepCs]
  | d :: ds, b, o, hi, h => by
    simp only [RepCs, D.imms, Bool.and_eq_true] at hi h ⊢
    obtain ⟨⟨x, h1, h2⟩, h3⟩ := h
    exact ⟨⟨x, h1, Rep_imm d x hi.1 h2⟩, RepCs_imm ds b (o + 1) hi.2 h3⟩
theorem RepEs_imm {φ' : Locs} : ∀ (es : List (List D)) (k b o : Nat), D.immss es = true → RepEs w S φ es k b o → RepEs w S φ' es k b o
  | [], k, b, o, _, h => by simp [RepEs]
  | e :: es, k, b, o, hi, h => by
    simp only [RepEs, D.immss, Bool.and_eq_true] at hi h ⊢
    exact ⟨h.1, RepCs_imm e b o hi.1 h.2.1, RepEs_imm es k b (o + k) hi.2 h.2.2⟩
end

theorem Stays.none (hS : ∀ b, S b → b < w.heap.size) : ∀ (d : D) (x : Value), Rep w S noLocs d x → Rep w S φ d x := by
  intro d x h
  exact Rep.mono (w := w) (S := S) (φ := noLocs) ⟨fun _ h => h, fun _ _ _ => rfl, fun _ _ h => by simp [noLocs] at h⟩ d x h

theorem opds_out : ∀ (l : List Operand) (ys : List Opd) (ds : List D), Known C w S φ env tl a → C.opds l = some ys → ros tl env ys = some ds → RepVs w S φ ds (l.map a.eval)
  | [], ys, ds, hk, h1, h2 => by
    simp only [Cfg.opds, List.mapM_nil, Option.pure_def, Option.some.injEq] at h1; subst h1
    simp only [ros, Option.some.injEq] at h2; subst h2
    simp [RepVs]
  | x :: l, ys, ds, hk, h1, h2 => by
    simp only [Cfg.opds, List.mapM_cons, Option.bind_eq_bind, Option.bind_eq_some_iff, Option.pure_def, Option.some.injEq] at h1
    obtain ⟨y, hy, ys', hys, rfl⟩ := h1
    simp only [ros] at h2
    split at h2
    · rename_i d ds' hd hds
      simp only [Option.some.injEq] at h2; subst h2
      simp only [List.map_cons, RepVs]
      exact ⟨_, _, rfl, ro_sound hk hy hd, opds_out l ys' ds' hk hys hds⟩
    · simp at h2

theorem call_run {P : Program} {f : FuncId} {c : Call} {X : Operand} {caps : Array Value} {ty : TypeId} (he : Enter P f) (hc : c.callee = .value X) (hX : a.eval X = .func (.func f) #[] caps) :
    (do let d ← resolve a.eval c ty; invoke d.target d.args : Sem Next).run P w = .ok (.enter f ((c.args.toList.map a.eval) ++ caps.toList).toArray) w := by
  obtain ⟨fn, h1, h2, h3⟩ := he
  simp only [resolve, hc, Sem.run_bind, hX, Deferred.ofValue, Sem.run_pure, Result.andThen_ok, invoke, callFunc, run_program, h1, h2, h3, Bool.false_eq_true, if_false]
  congr 2
  apply Array.ext'
  simp

theorem ext_run {P : Program} {f : FuncId} {c : Call} {X : Operand} {caps : Array Value} {ty : TypeId} {v : Value} {w' : World} (hc : c.callee = .value X) (hX : a.eval X = .func (.func f) #[] caps) (h : (callFunc f ((c.args.toList.map a.eval) ++ caps.toList).toArray).run P w = .ok (.value v) w') :
    (do let d ← resolve a.eval c ty; invoke d.target d.args : Sem Next).run P w = .ok (.value v) w' := by
  simp only [resolve, hc, Sem.run_bind, hX, Deferred.ofValue, Sem.run_pure, Result.andThen_ok, invoke]
  rw [← h]
  congr 2
  apply Array.ext'
  simp

theorem pcK_out {P : Program} {f : Option D} {xs : Option (List D)} (h : pcK P f xs mem nx K) : ∃ g caps ys r, f = some (.fn g caps) ∧ xs = some ys ∧ (Pure P g (ys ++ caps) r ∨ Extn P g (ys ++ caps) r) ∧ D.imms (ys ++ caps) = true ∧ K r mem nx := by
  unfold pcK at h
  split at h
  · obtain ⟨r, h1, h2, h3⟩ := h; exact ⟨_, _, _, r, rfl, rfl, h1, h2, h3⟩
  · exact h.elim

theorem pure_out {P : Program} {f : FuncId} {ds : List D} {r : D} {xs : List Value} (h : Pure P f ds r) (hi : D.imms ds = true) (hx : RepVs w S φ ds xs) (hm : MSim S φ mem nx w) (hk : K r mem nx) :
    Calls P f xs.toArray w fun e w' => ∃ v, e = .returned v ∧ Out S φ mem nx w id K v w' := by
  refine (h.2 S w xs hm.sub (RepVs_imm _ _ hi hx)).mono ?_
  rintro e w' ⟨v, S', rfl, hr, hx, hS'⟩
  have hsame : ∀ b, b < w.heap.size → w'.heap[b]? = w.heap[b]? := fun b hb => hx.keep b hb (by rintro ⟨i, blk, l, h1, _⟩; simp [look] at h1)
  have hst : Stays w S φ w' S' φ := Stays.of_heap hx.sub (fun b hb => hsame b (hm.sub b hb)) (fun _ _ h => h)
  have hnews : ∀ b, S' b → S b ∨ w.heap.size ≤ b := fun b hb => by
    rcases hx.news b hb with h | h | ⟨i, blk, l, h1, _⟩
    · exact .inl h
    · exact .inr h
    · simp [look] at h1
  refine ⟨v, rfl, r, mem, nx, S', φ, hk, Nat.le_refl _, Rep.mono (φ' := φ) ⟨fun _ h => h, fun _ _ _ => rfl, fun _ _ h => by simp [noLocs] at h⟩ _ _ hr, ⟨?_, hm.inj, ?_, hm.fresh, hS'⟩, hst,
    ⟨hx.sub, fun b hb _ => hsame b hb, hx.size, fun b _ h => h, fun b hb => by rcases hnews b hb with h | h; exact .inl h; exact .inr (.inl h), hx.os, hx.output, hx.tape⟩, fun _ _ _ h => h⟩
  · intro i blk hi'
    obtain ⟨l, h1, h2, h3⟩ := hm.mem i blk hi'
    refine ⟨l, h1, fun hr hs => ?_, h3.mono hst fun hr => hsame _ (hm.lt i l h1 hr)⟩
    rcases hnews _ hs with h | h
    · exact h2 hr h
    · have := hm.lt i l h1 hr; omega
  · intro i l h1 hr
    exact Nat.lt_of_lt_of_le (hm.lt i l h1 hr) hx.size

theorem does_call {P : Program} {o : Oper} {f : FuncId} {args : Array Value} {R : Value → World → Prop} (h : (execOp a.eval o).run P w = .ok (.enter f args) w) (hc : Calls P f args w fun e w' => ∃ v, e = .returned v ∧ R v w') : Does P o a w R := by
  unfold Does Oper.wp
  rw [h]
  refine hc.mono ?_
  rintro e w' ⟨v, rfl, hv⟩
  exact ⟨v, rfl, hv⟩

theorem clK_out {P : Program} {f : Option D} {xs : Option (List D)} (h : clK P f xs mem nx K) : ∃ g caps ys, f = some (.fn g caps) ∧ xs = some ys ∧ CallT P g (ys ++ caps) mem nx K := by
  unfold clK at h
  split at h
  · exact ⟨_, _, _, rfl, rfl, h⟩
  · exact h.elim

/-! #### x[lo:hi] -/
def OptRep (w : World) (S : Nat → Prop) (φ : Locs) : Option D → Option Value → Prop
  | none, none => True
  | some d, some v => Rep w S φ d v
  | _, _ => False

theorem bound_run {x : Option D} {X : Option Value} {d : Nat} {n : Int} {y : Nat} {code : BoundsCode} {P : Program} (h : bound x d = some n) (hr : OptRep w S φ x X) (h0 : 0 ≤ n) (hy : n ≤ y) :
    (match X with | some v => Instr.sliceBound v y code | none => pure d : Sem Nat).run P w = .ok n.toNat w := by
  cases x with
  | none =>
    cases X with
    | none => simp only [bound, Option.some.injEq] at h; subst h; simp
    | some v => exact hr.elim
  | some dd =>
    cases X with
    | none => exact hr.elim
    | some v =>
      cases dd with
      | pl u =>
        simp only [OptRep, Rep] at hr; subst hr
        cases v with
        | int k m =>
          simp only [bound, Option.some.injEq] at h; subst h
          simp [Instr.sliceBound, asIntOf, h0, hy]
        | _ => simp [bound] at h
      | _ => simp [bound] at h

theorem sliceBounds_run {lo hi : Option D} {LO HI : Option Value} {len cap : Nat} {l h : Int} {b : Bool} {P : Program} (hl : bound lo 0 = some l) (hh : bound hi len = some h)
    (hlo : OptRep w S φ lo LO) (hhi : OptRep w S φ hi HI) (h0 : 0 ≤ l) (h1 : l ≤ h) (h2 : h ≤ len) (hc : len ≤ cap) :
    (Instr.sliceBounds b len cap LO HI none).run P w = .ok (l.toNat, h.toNat, cap) w := by
  have e1 := bound_run (P := P) (code := if b then .sliceAcap else .sliceAlen) (y := cap) hh hhi (by omega) (by omega)
  have e2 := bound_run (P := P) (code := .sliceB) (y := h.toNat) hl hlo h0 (by omega)
  unfold Instr.sliceBounds
  cases HI with
  | none =>
    cases LO with
    | none => simp at e1 e2 ⊢; simp [e1, e2]
    | some v => simp at e1 e2 ⊢; simp [e1, e2]
  | some u =>
    cases LO with
    | none => simp at e1 e2 ⊢; simp [e1, e2]
    | some v => simp at e1 e2 ⊢; simp [e1, e2]

theorem sls_slice {t e : TypeId} {g : Bool} {k : Nat} {x d : D} {v : Value} {lo hi : Option D} {LO HI : Option Value} (ht : C.P.underlying t = some (.slice e)) (he : Program.tsz C.P e = some (g, k)) (h : slsD mem false k x lo hi = some d)
    (hx : Rep w S φ x v) (hlo : OptRep w S φ lo LO) (hhi : OptRep w S φ hi HI) (hm : MSim S φ mem nx w) : ∃ r, Rep w S φ d r ∧ (Instr.sliceAt t v LO HI none).run C.P w = .ok r w := by
  obtain ⟨ds, inf, hu, hinf, hsz, _⟩ := tsz_out he
  have key : ∀ (p : Option Addr) (len cap : Nat) (l h : Int), bound lo 0 = some l → bound hi len = some h → 0 ≤ l → l ≤ h → h ≤ len → len ≤ cap →
      (Instr.sliceAt t (.slice p len cap) LO HI none).run C.P w = .ok (.slice (if cap = l.toNat then p else p.map (·.add (l.toNat * k))) (h.toNat - l.toNat) (cap - l.toNat)) w := by
    intro p len cap l h h1 h2 h3 h4 h5 h6
    simp only [Instr.sliceAt, Instr.slice, Sem.run_bind, run_underlying ht, Result.andThen_ok, sliceBounds_run h1 h2 hlo hhi h3 h4 h5 h6, run_sizeOf hinf, hsz, Sem.run_pure]
  unfold slsD at h
  split at h
  · rename_i es
    simp only [Bool.false_eq_true, if_false] at h
    split at h
    · rename_i l hh h1 h2
      simp only [Option.ite_none_right_eq_some, Option.some.injEq] at h
      obtain ⟨⟨⟨q1, q2, q3⟩, q4⟩, rfl⟩ := h
      simp only [Rep] at hx
      rcases hx with ⟨rfl, rfl | ⟨p, rfl⟩⟩ | ⟨b, o, cap, k', rfl, hc, hS, hes⟩
      · refine ⟨_, ?_, key none 0 0 l hh h1 (by simpa using h2) q1 q2 (by simpa using q3) (Nat.le_refl _)⟩
        simp only [Rep, List.take_nil, List.drop_nil]
        left
        simp at q3
        have : l = 0 := by omega
        have : hh = 0 := by omega
        subst_vars; simp [Zs]
      · refine ⟨_, ?_, key (some p) 0 0 l hh h1 (by simpa using h2) q1 q2 (by simpa using q3) (Nat.le_refl _)⟩
        simp only [Rep, List.take_nil, List.drop_nil]
        left
        simp at q3
        have : l = 0 := by omega
        have : hh = 0 := by omega
        subst_vars; simp [Zs]
      · refine ⟨_, ?_, key _ _ _ l hh h1 h2 q1 q2 q3 hc⟩
        have hlen : ((es.take hh.toNat).drop l.toNat).length = hh.toNat - l.toNat := by simp; omega
        by_cases hcl : cap = l.toNat
        · have hz : hh.toNat - l.toNat = 0 := by omega
          rw [if_pos hcl, hz]
          have : (es.take hh.toNat).drop l.toNat = [] := List.eq_nil_of_length_eq_zero (by rw [hlen, hz])
          rw [this]
          simp only [Rep]
          right
          exact ⟨b, o, cap - l.toNat, k', by simp, by simp, hS, by simp [RepEs]⟩
        · rw [if_neg hcl]
          simp only [Rep]
          right
          have hes' := RepEs_drop l.toNat _ _ _ _ (RepEs_take hh.toNat es k' b o hes)
          refine ⟨b, o + l.toNat * k, cap - l.toNat, k', by rw [hlen]; simp [Addr.add_mid], by rw [hlen]; omega, hS, ?_⟩
          rcases q4 with q4 | q4
          · subst q4; simpa using hes'
          · by_cases hn : es = []
            · subst hn; simp [RepEs]
            · have : k = k' := by
                obtain ⟨e0, he0⟩ := List.exists_mem_of_ne_nil es hn
                have a1 := RepEs_lens es k' b o hes e0 he0
                have a2 := List.all_eq_true.1 q4 e0 he0
                simp at a2; omega
              rw [this]; exact hes'
    · simp at h
  · rename_i i ver o n
    split at h
    · simp at h
    · rename_i hcv
      simp only [Bool.false_or, Bool.not_eq_true', Bool.not_eq_false] at hcv
      split at h
      · rename_i l hh h1 h2
        simp only [Option.ite_none_right_eq_some, Option.some.injEq] at h
        obtain ⟨⟨rfl, q2, q3⟩, rfl⟩ := h
        obtain ⟨k2, es, l, hlk, hl, hv, hb, _⟩ := curv_out hcv hm
        simp only [Rep] at hx
        obtain ⟨l', hl', hle, hsh, hx⟩ := hx
        rw [hl] at hl'; simp only [Option.some.injEq] at hl'; subst hl'
        rcases hx hv with ⟨r1, rfl, rfl, hz⟩ | ⟨r1, cap, rfl, c1, c2⟩
        · obtain ⟨p, rfl⟩ := zs_slice hz
          have hh0 : hh = 0 := by simp at q3; omega
          subst hh0
          refine ⟨_, ?_, key p 0 0 0 0 h1 h2 (by omega) (by omega) (by simp) (Nat.le_refl _)⟩
          simp only [Rep]
          refine ⟨l, hl, hle, ⟨_, _, _, rfl⟩, fun _ => .inl ⟨r1, trivial, rfl, ?_⟩⟩
          simpa using hz
        · refine ⟨_, ?_, key _ n cap 0 hh h1 h2 (by omega) q2 q3 c1⟩
          have : (if cap = Int.toNat 0 then (some (⟨l.b, l.base + o * l.k, none⟩ : Addr)) else (some (⟨l.b, l.base + o * l.k, none⟩ : Addr)).map (·.add (Int.toNat 0 * k))) = some ⟨l.b, l.base + o * l.k, none⟩ := by
            split <;> simp [Addr.add]
          rw [this]
          simp only [Rep]
          exact ⟨l, hl, hle, ⟨_, _, _, rfl⟩, fun _ => .inr ⟨r1, cap, by simp, by omega, c2⟩⟩
      · simp at h
  · simp at h
  · rename_i hne
    simp only [Bool.false_eq_true, if_false] at h
    split at h
    · rename_i l hh h1 h2
      simp only [Option.ite_none_right_eq_some, Option.some.injEq] at h
      obtain ⟨⟨rfl, rfl⟩, rfl⟩ := h
      simp only [Rep] at hx; subst hx
      refine ⟨_, ?_, key none 0 0 0 0 h1 h2 (by omega) (by omega) (by simp) (Nat.le_refl _)⟩
      simp [Rep]
    · simp at h
  · simp only [Bool.false_eq_true, if_false] at h
    split at h
    · rename_i l hh h1 h2
      simp only [Option.ite_none_right_eq_some, Option.some.injEq] at h
      obtain ⟨⟨rfl, rfl⟩, rfl⟩ := h
      simp only [Rep] at hx
      obtain ⟨p, rfl⟩ := zs_slice hx
      refine ⟨_, ?_, key p 0 0 0 0 h1 h2 (by omega) (by omega) (by simp) (Nat.le_refl _)⟩
      simpa [Rep] using hx
    · simp at h
  · simp at h

theorem sls_string {t : TypeId} {k : Nat} {x d : D} {v : Value} {lo hi : Option D} {LO HI : Option Value} (ht : C.P.underlying t = some .string) (h : slsD mem true k x lo hi = some d)
    (hx : Rep w S φ x v) (hlo : OptRep w S φ lo LO) (hhi : OptRep w S φ hi HI) : ∃ r, Rep w S φ d r ∧ (Instr.sliceAt t v LO HI none).run C.P w = .ok r w := by
  unfold slsD at h
  split at h
  · simp at h
  · simp at h
  · rename_i b
    simp only [if_true] at h
    split at h
    · rename_i l hh h1 h2
      simp only [Option.ite_none_right_eq_some, Option.some.injEq] at h
      obtain ⟨⟨q1, q2, q3⟩, rfl⟩ := h
      simp only [Rep] at hx; subst hx
      refine ⟨_, by simp only [Rep]; rfl, ?_⟩
      simp [Instr.sliceAt, Instr.slice, run_underlying ht, sliceBounds_run h1 h2 hlo hhi q1 q2 q3 (Nat.le_refl _)]
    · simp at h
  · simp at h
  · simp at h
  · simp at h
end
end Go.Fx

/-
  Arrays behind addresses, bytes of texts, maps: one operation of the model's is what it is on deep values.
-/


set_option linter.all false
namespace Go.Fx
open Go
section
variable {C : Cfg} {w w' : World} {S : Nat → Prop} {φ : Locs} {a : Act} {env tl : Env} {mem : Mem} {nx id : Nat} {K : KD}

theorem fa_at {off : Nat} {x d : D} {v : Value} (h : faD mem off x = some d) (hx : Rep w S φ x v) (hm : MSim S φ mem nx w) : ∃ b o, v = .pointer (some ⟨b, o, none⟩) ∧ Rep w S φ d (.pointer (some ⟨b, o + off, none⟩)) := by
  cases x with
  | pt cs =>
    simp only [faD, Option.ite_none_right_eq_some, Option.some.injEq] at h
    obtain ⟨_, rfl⟩ := h
    simp only [Rep] at hx ⊢
    obtain ⟨b, o, rfl, hS, hc⟩ := hx
    exact ⟨b, o, rfl, b, o + off, rfl, hS, RepCs_drop _ _ _ _ hc⟩
  | opt i o =>
    simp only [faD, Option.some.injEq] at h; subst h
    simp only [Rep] at hx ⊢
    obtain ⟨l, hl, ha, rfl⟩ := hx
    exact ⟨_, _, rfl, l, hl, ha, by rw [Nat.add_assoc]⟩
  | oel i ver ix o =>
    simp only [faD, Option.ite_none_right_eq_some, Option.some.injEq] at h
    obtain ⟨hc, rfl⟩ := h
    obtain ⟨k, es, l, _, hl, hv, _, _⟩ := curv_out hc hm
    simp only [Rep] at hx ⊢
    obtain ⟨l', hl', hle, hsh, hx⟩ := hx
    rw [hl] at hl'; simp only [Option.some.injEq] at hl'; subst hl'
    obtain ⟨hr, rfl⟩ := hx hv
    exact ⟨_, _, rfl, l, hl, hle, ⟨_, rfl⟩, fun _ => ⟨hr, by rw [Nat.add_assoc]⟩⟩
  | _ => simp [faD] at h

theorem iaa_sound {t e : TypeId} {len : Nat} {g : Bool} {k : Nat} {x i d : D} {v u : Value} (ht : C.P.underlying t = some (.array len e)) (he : Program.tsz C.P e = some (g, k)) (h : iaaD mem len k x i = some d)
    (hx : Rep w S φ x v) (hi : Rep w S φ i u) (hm : MSim S φ mem nx w) : ∃ r, Rep w S φ d r ∧ (Instr.indexAt t v u).run C.P w = .ok r w := by
  obtain ⟨ds, inf, hu, hinf, hsz, _⟩ := tsz_out he
  unfold iaaD at h
  split at h
  · rename_i kk n
    simp only [Option.ite_none_right_eq_some] at h
    obtain ⟨⟨h0, h1⟩, h⟩ := h
    simp only [Rep] at hi; subst hi
    obtain ⟨b, o, rfl, hr⟩ := fa_at h hx hm
    refine ⟨_, hr, ?_⟩
    simp only [Instr.indexAt, Sem.run_bind, run_asIntOf, run_underlying ht, Result.andThen_ok, Instr.sureAddr, Sem.run_pure]
    rw [if_pos ⟨h0, h1⟩]
    simp only [Sem.run_bind, run_sizeOf hinf, Result.andThen_ok, Sem.run_pure, hsz, Addr.add_mid]
  · simp at h

theorem ixs_sound {t : TypeId} {x i d : D} {v u : Value} (ht : C.P.underlying t = some .string) (h : ixsD x i = some d) (hx : Rep w S φ x v) (hi : Rep w S φ i u) : ∃ r, Rep w S φ d r ∧ (Instr.index t v u).run C.P w = .ok r w := by
  unfold ixsD at h
  split at h
  · rename_i s kk n
    simp only [Rep] at hx hi; subst hx hi
    split at h
    · rename_i b hb
      simp only [Option.some.injEq] at h; subst h
      refine ⟨.int .u8 b.toNat, by simp only [Rep], ?_⟩
      simp only [Instr.index, Sem.run_bind, run_asIntOf, run_underlying ht, Result.andThen_ok, hb, Sem.run_pure]
    · simp at h
  · simp at h

/-! #### Maps -/
def KeyT (P : Program) (t : TypeId) (kd : Option IntKind) (d : TypeDesc) : Prop := P.underlying t = some d ∧ ((∃ k, kd = some k ∧ d = .int k) ∨ (kd = none ∧ d = .string))

theorem keyKind_out {t : TypeId} {kd : Option IntKind} (h : C.keyKind t = some kd) : ∃ d, KeyT C.P t kd d := by
  unfold Cfg.keyKind at h
  split at h
  · rename_i k hk
    simp only [Option.some.injEq] at h; subst h
    exact ⟨_, hk, .inl ⟨k, rfl, rfl⟩⟩
  · rename_i hk
    simp only [Option.some.injEq] at h; subst h
    exact ⟨_, hk, .inr ⟨rfl, rfl⟩⟩
  · simp at h

theorem kOk_isKey {t : TypeId} {kd : Option IntKind} {d : TypeDesc} {k : Value} (h : KeyT C.P t kd d) (hk : kOk kd k = true) : MapKept.IsKey d k := by
  obtain ⟨_, ⟨k0, rfl, rfl⟩ | ⟨rfl, rfl⟩⟩ := h
  · cases k <;> simp [kOk] at hk; simpa [MapKept.IsKey] using hk
  · cases k <;> simp [kOk] at hk; simp [MapKept.IsKey]

theorem same_now {t : TypeId} {kd : Option IntKind} {d : TypeDesc} {k j : Value} (h : KeyT C.P t kd d) (hk : kOk kd k = true) (hj : kOk kd j = true) : Instr.sameNow d k j = some (keyEq j k) ∧ (keyEq j k = true → j = k) := by
  have e : keyEq j k = true ↔ j = k := by
    cases kd <;> cases k <;> simp [kOk] at hk <;> cases j <;> simp [kOk] at hj
    · simp [keyEq]
    · subst hk hj; simp [keyEq]
  obtain ⟨r, h1, h2⟩ := MapKept.sameNow_of_keys (kOk_isKey h hk) (kOk_isKey h hj)
  refine ⟨?_, e.1⟩
  rw [h1]
  congr 1
  rw [Bool.eq_iff_iff, h2, e]
  exact eq_comm

theorem find_rep {t : TypeId} {kd : Option IntKind} {d : TypeDesc} {k : Value} (h : KeyT C.P t kd d) (hk : kOk kd k = true) : ∀ (es : List (Value × D)) (ms : List MapEntry) (i : Nat), RepMs w S φ es ms → es.all (fun e => kOk kd e.1) = true →
    (mfind k es = none ∧ Instr.findNow d k ms i = some none ∧ ∀ v, mput k v es = es ++ [(k, v)]) ∨
    ∃ j m dv, mfind k es = some dv ∧ Instr.findNow d k ms i = some (some (i + j, m.val)) ∧ ms[j]? = some m ∧ m.key = k ∧ Rep w S φ dv m.val ∧
      ∀ (w2 : World) (v : D) (x : Value), RepMs w2 S φ es ms → Rep w2 S φ v x → RepMs w2 S φ (mput k v es) (ms.set j { m with val := x })
  | [], ms, i, hr, _ => by
    simp only [RepMs] at hr; subst hr
    exact .inl ⟨rfl, rfl, fun v => rfl⟩
  | e :: es, ms, i, hr, ha => by
    obtain ⟨m, r, rfl, h1, h2, h3⟩ := hr
    simp only [List.all_cons, Bool.and_eq_true] at ha
    obtain ⟨s1, s2⟩ := same_now h hk ha.1
    cases hq : keyEq e.1 k with
    | true =>
      rw [hq] at s1
      refine .inr ⟨0, m, e.2, by simp [mfind, hq], by simp [Instr.findNow, h1, s1], rfl, by rw [h1]; exact s2 hq, h2, fun w2 v x hr2 hv => ?_⟩
      obtain ⟨m', r', e1, g1, g2, g3⟩ := hr2
      simp only [List.cons.injEq] at e1
      obtain ⟨rfl, rfl⟩ := e1
      simp only [mput, hq, if_true, List.set_cons_zero]
      exact ⟨_, _, rfl, by rw [g1]; exact s2 hq, hv, g3⟩
    | false =>
      rw [hq] at s1
      rcases find_rep h hk es r (i + 1) h3 ha.2 with ⟨g1, g2, g3⟩ | ⟨j, m', dv, g1, g2, g3, g4, g5, g6⟩
      · exact .inl ⟨by simp [mfind, hq, g1], by simp [Instr.findNow, h1, s1, g2], fun v => by simp [mput, hq, g3]⟩
      · refine .inr ⟨j + 1, m', dv, by simp [mfind, hq, g1], by simp [Instr.findNow, h1, s1, g2]; omega, by simpa using g3, g4, g5, fun w2 v x hr2 hv => ?_⟩
        obtain ⟨m2, r2, e1, k1, k2, k3⟩ := hr2
        simp only [List.cons.injEq] at e1
        obtain ⟨rfl, rfl⟩ := e1
        simp only [mput, hq, Bool.false_eq_true, if_false, List.set_cons_succ]
        exact ⟨_, _, rfl, k1, k2, g6 w2 v x k3 hv⟩

theorem RepMs_append : ∀ (es fs : List (Value × D)) (ms ns : List MapEntry), RepMs w S φ es ms → RepMs w S φ fs ns → RepMs w S φ (es ++ fs) (ms ++ ns)
  | [], fs, ms, ns, h, k => by simp only [RepMs] at h; subst h; exact k
  | e :: es, fs, ms, ns, ⟨m, r, h1, h2, h3, h4⟩, k => ⟨m, r ++ ns, by rw [h1]; rfl, h2, h3, RepMs_append es fs r ns h4 k⟩
theorem RepMs_length : ∀ (es : List (Value × D)) (ms : List MapEntry), RepMs w S φ es ms → ms.length = es.length
  | [], ms, h => by simp only [RepMs] at h; rw [h]; rfl
  | e :: es, ms, ⟨m, r, h1, h2, h3, h4⟩ => by rw [h1]; simp [RepMs_length es r h4]

theorem zD_rep (z : Value) : Rep w S φ (zD z) z := by
  unfold zD
  split
  · simp only [Rep]; exact ⟨_, rfl, RepVs_pl _⟩
  · simp only [Rep]

theorem map_at {i : Nat} {es : List (Value × D)} {v : Value} (hl : look mem i = some (.map es)) (hx : Rep w S φ (.omap i) v) (hm : MSim S φ mem nx w) :
    ∃ l ms clock, φ i = some l ∧ l.real = true ∧ l.arr = false ∧ v = .map (some l.b) ∧ w.heap[l.b]? = some (.map ms clock) ∧ RepMs w S φ es ms.toList := by
  simp only [Rep] at hx
  obtain ⟨l, h1, h2, rfl⟩ := hx
  obtain ⟨l', g1, g2, g3⟩ := hm.mem i _ hl
  rw [h1] at g1; simp only [Option.some.injEq] at g1; subst g1
  simp only [BRep] at g3
  obtain ⟨k1, k2, ms, clock, k3, k4⟩ := g3
  exact ⟨l, ms, clock, h1, k1, k2, rfl, k3, k4⟩

theorem lk_sound {t kt et : TypeId} {kd : Option IntKind} {inf : TypeInfo} {z : Value} {two : Bool} {m k d : D} {v u : Value} (ht : C.P.underlying t = some (.map kt et)) (hkd : C.keyKind kt = some kd)
    (hinf : C.P.info? et = some inf) (hz : inf.zero = some z) (h : lkD mem kd z two m k = some d) (hx : Rep w S φ m v) (hk : Rep w S φ k u) (hm : MSim S φ mem nx w) :
    ∃ r, Rep w S φ d r ∧ (Instr.lookup t v u two).run C.P w = .ok r w := by
  obtain ⟨td, htd⟩ := keyKind_out hkd
  unfold lkD at h
  split at h
  · rename_i kv es hes
    simp only [Option.ite_none_right_eq_some, Option.some.injEq] at h
    obtain ⟨hko, h⟩ := h
    simp only [Rep] at hk; subst hk
    have hzr : (zeroValue et).run C.P w = .ok z w := by
      simp [zeroValue, Sem.run_bind, run_typeInfo hinf, hz]
    have fin : ∀ (ms : List MapEntry), RepMs w S φ es ms → es.all (fun e => kOk kd e.1) = true →
        ∃ r fr, Rep w S φ d r ∧ (Instr.findKey kt u ms).run C.P w = .ok fr w ∧ r = (match fr with | some (_, v) => if two then .tuple #[v, .bool true] else v | none => if two then .tuple #[z, .bool false] else z) := by
      intro ms hrep hall
      rcases find_rep htd hko es ms 0 hrep hall with ⟨g1, g2, g3⟩ | ⟨j, m', dv, g1, g2, g3, g4, g5, g6⟩
      · rw [g1] at h
        simp only at h
        refine ⟨if two then .tuple #[z, .bool false] else z, none, ?_, MapKept.run_findKey htd.1 g2, rfl⟩
        subst h
        cases two
        · exact zD_rep z
        · simp only [if_true, Rep]
          exact ⟨_, rfl, by simp only [RepVs]; exact ⟨_, _, rfl, zD_rep z, _, _, rfl, by simp only [Rep], rfl⟩⟩
      · rw [g1] at h
        simp only at h
        refine ⟨if two then .tuple #[m'.val, .bool true] else m'.val, some (0 + j, m'.val), ?_, MapKept.run_findKey htd.1 g2, rfl⟩
        subst h
        cases two
        · exact g5
        · simp only [if_true, Rep]
          exact ⟨_, rfl, by simp only [RepVs]; exact ⟨_, _, rfl, g5, _, _, rfl, by simp only [Rep], rfl⟩⟩
    have hck := fun (e : Bool) (n : Nat) => MapKept.run_checkKey (w := w) htd.1 (kOk_isKey htd hko) e n
    unfold mapOf at hes
    split at hes
    · rename_i i
      split at hes
      · rename_i es' hl
        simp only [Option.ite_none_right_eq_some, Option.some.injEq] at hes
        obtain ⟨hall, rfl⟩ := hes
        obtain ⟨l, ms, clock, h1, h2, h3, rfl, h5, h6⟩ := map_at hl hx hm
        obtain ⟨r, fr, hr1, hr2, hr3⟩ := fin ms.toList h6 hall
        refine ⟨r, hr1, ?_⟩
        simp only [Instr.lookup, Sem.run_bind, run_underlying ht, Result.andThen_ok, MapKept.run_getObj_map h5, Sem.run_pure, hck, hr2]
        subst hr3
        cases fr with
        | none => simp only [hzr, Sem.run_bind, Result.andThen_ok, Sem.run_pure]
        | some p => simp only [Sem.run_bind, Result.andThen_ok, Sem.run_pure]
      · simp at hes
    · simp only [Option.some.injEq] at hes; subst hes
      simp only [Rep] at hx; subst hx
      obtain ⟨r, fr, hr1, hr2, hr3⟩ := fin [] rfl (by simp)
      refine ⟨r, hr1, ?_⟩
      simp only [Instr.lookup, Sem.run_bind, run_underlying ht, Result.andThen_ok, Sem.run_pure, hck, hr2]
      subst hr3
      cases fr with
      | none => simp only [hzr, Sem.run_bind, Result.andThen_ok, Sem.run_pure]
      | some p => simp only [Sem.run_bind, Result.andThen_ok, Sem.run_pure]
    · simp at hes
  · simp at h

theorem mkm_sound {t kt et : TypeId} {o : Oper} (ho : o.op = .makeMap t none) (hm : MSim S φ mem nx w) (hid : φ id = none) (hlt : id < nx) (hk : K (.omap id) ((id, .map []) :: mem) nx) : Does C.P o a w (Out S φ mem nx w id K) := by
  refine does_value (x := .map (some w.heap.size)) (w' := w.alloc (.map #[] 0)) ?_ ?_
  · unfold execOp
    simp only [ho, Instr.makeMap, Option.map_none, Sem.run_bind, run_newObj, Result.andThen_ok, Sem.run_pure]
    rfl
  · obtain ⟨φ', h1, h2, h3, h4, h5⟩ := alloc_own (l := ⟨false, true, w.heap.size, 0, 0, 0, 0⟩) (blk := .map []) hm (.map #[] 0) hid hlt rfl rfl (by
      intro φ' _
      simp only [BRep]
      exact ⟨trivial, trivial, #[], 0, alloc_new _, rfl⟩)
    refine ⟨.omap id, _, nx, S, φ', hk, Nat.le_refl _, ?_, h2, h3, h4, fun i hi _ hn => by rw [h5 i hi]; exact hn⟩
    simp only [Rep]
    exact ⟨_, h1, rfl, rfl⟩

theorem mup_sound {t kt et : TypeId} {kd : Option IntKind} {m k v d : D} {mem' : Mem} {um uk uv : Value} (ht : C.P.underlying t = some (.map kt et)) (hkd : C.keyKind kt = some kd) (h : mupM mem kd (some m) (some k) (some v) = some (d, mem'))
    (hx : Rep w S φ m um) (hk : Rep w S φ k uk) (hv : Rep w S φ v uv) (hm : MSim S φ mem nx w) :
    ∃ w', (Instr.mapUpdate t um uk uv).run C.P w = .ok () w' ∧ MSim S φ mem' nx w' ∧ Stays w S φ w' S φ ∧ Ext S φ mem w S φ mem' w' ∧ d = .top := by
  obtain ⟨td, htd⟩ := keyKind_out hkd
  unfold mupM at h
  split at h
  · rename_i i kv v' hm1 hk1 hv1
    simp only [Option.some.injEq] at hm1 hk1 hv1; subst hm1 hk1 hv1
    split at h
    · rename_i es hl
      simp only [Option.ite_none_right_eq_some, Option.some.injEq, Prod.mk.injEq] at h
      obtain ⟨⟨hko, hall⟩, rfl, rfl⟩ := h
      simp only [Rep] at hk; subst hk
      obtain ⟨l, ms, clock, h1, h2, h3, rfl, h5, h6⟩ := map_at hl hx hm
      have hkey := kOk_isKey htd hko
      have hblk : ∀ o : Obj, (∀ b, b ≠ l.b → (w.heap.setIfInBounds l.b o)[b]? = w.heap[b]?) ∧ (w.heap.setIfInBounds l.b o).size = w.heap.size ∧ (w.heap.setIfInBounds l.b o)[l.b]? = some o :=
        fun o => ⟨fun b hb => (MapKept.heap_set h5).2 b hb, by simp, (MapKept.heap_set h5).1⟩
      rcases find_rep htd hko es ms.toList 0 h6 hall with ⟨g1, g2, g3⟩ | ⟨j, m', dv, g1, g2, g3, g4, g5, g6⟩
      · obtain ⟨b1, b2, b3⟩ := hblk (.map (ms.push { key := uk, val := uv, born := clock }) (clock + 1))
        refine ⟨{ w with heap := w.heap.setIfInBounds l.b (.map (ms.push { key := uk, val := uv, born := clock }) (clock + 1)) }, ?_, ?_⟩
        · simp [Instr.mapUpdate, run_underlying ht, MapKept.run_getObj_map h5, MapKept.run_checkKey htd.1 hkey, MapKept.run_findKey htd.1 g2, MapKept.run_setObj_map _ h5, Result.andThen]
        · obtain ⟨q1, q2, q3⟩ := write_own (w' := { w with heap := w.heap.setIfInBounds l.b (.map (ms.push { key := uk, val := uv, born := clock }) (clock + 1)) }) (blk := .map (mput uk v es)) hm h1 h2 hl b1 b2 rfl rfl rfl (fun hst => by
            simp only [BRep]
            refine ⟨h2, h3, _, _, b3, ?_⟩
            rw [g3, Array.toList_push]
            exact RepMs_append _ _ _ _ (RepMs.mono hst _ _ h6) ⟨_, _, rfl, rfl, Rep.mono hst _ _ hv, rfl⟩)
          exact ⟨q1, q2, q3, rfl⟩
      · have hj : ms[j]? = some m' := by simpa using g3
        have hjs : j < ms.size := (Array.getElem?_eq_some_iff.1 hj).1
        obtain ⟨b1, b2, b3⟩ := hblk (.map (ms.modify j fun e => { e with key := uk, val := uv }) clock)
        refine ⟨{ w with heap := w.heap.setIfInBounds l.b (.map (ms.modify j fun e => { e with key := uk, val := uv }) clock) }, ?_, ?_⟩
        · simp [Instr.mapUpdate, run_underlying ht, MapKept.run_getObj_map h5, MapKept.run_checkKey htd.1 hkey, MapKept.run_findKey htd.1 g2, hj, g4, MapKept.run_keyThatStays hkey, MapKept.run_setObj_map _ h5, Result.andThen]
        · obtain ⟨q1, q2, q3⟩ := write_own (w' := { w with heap := w.heap.setIfInBounds l.b (.map (ms.modify j fun e => { e with key := uk, val := uv }) clock) }) (blk := .map (mput uk v es)) hm h1 h2 hl b1 b2 rfl rfl rfl (fun hst => by
            simp only [BRep]
            refine ⟨h2, h3, _, _, b3, ?_⟩
            have e : (ms.modify j fun e => { e with key := uk, val := uv }).toList = ms.toList.set j { m' with val := uv } := by
              rw [Array.toList_modify]
              apply List.ext_getElem?
              intro n
              rw [List.getElem?_modify, List.getElem?_set]
              by_cases hn : j = n
              · subst hn
                have hm2 : ms[j] = m' := by
                  have := Array.getElem?_eq_getElem hjs
                  rw [hj] at this; exact (Option.some.inj this).symm
                simp [hj, hjs, g4, hm2]
              · simp [hn]
            rw [e]
            exact g6 _ _ _ (RepMs.mono hst _ _ h6) (Rep.mono hst _ _ hv))
          exact ⟨q1, q2, q3, rfl⟩
    · simp at h
  · simp at h

theorem lnm_sound {ty : TypeId} {ts : Array TypeId} {t kt et : TypeId} {cs : Array Bool} {x d : D} {v : Value} (hts : ts[0]? = some t) (ht : C.P.underlying t = some (.map kt et)) (h : lnmD mem x = some d)
    (hx : Rep w S φ x v) (hm : MSim S φ mem nx w) : ∃ r, Rep w S φ d r ∧ (builtin .len ts ty cs #[v]).run C.P w = .ok (.value r) w := by
  unfold lnmD at h
  split at h
  · rename_i i
    split at h
    · rename_i es hl
      simp only [Option.some.injEq] at h; subst h
      obtain ⟨l, ms, clock, h1, h2, h3, rfl, h5, h6⟩ := map_at hl hx hm
      have hlen : ms.size = es.length := by have := RepMs_length _ _ h6; simpa using this
      refine ⟨.int .i64 es.length, by simp only [Rep], ?_⟩
      rw [← hlen]
      simp [builtin, Builtin.len_, hts, run_underlying ht, MapKept.run_getObj_map h5, goInt]
    · simp at h
  · simp only [Option.some.injEq] at h; subst h
    simp only [Rep] at hx; subst hx
    refine ⟨.int .i64 0, by simp only [Rep], ?_⟩
    simp [builtin, Builtin.len_, hts, run_underlying ht, goInt]
  · simp at h
end
end Go.Fx

/-
  Each operation that is resolved does what its condition says.
-/

set_option linter.all false
namespace Go.Fx
open Go
section
variable {C : Cfg} {w w' : World} {S : Nat → Prop} {φ : Locs} {a : Act} {env tl : Env} {mem : Mem} {nx id : Nat} {K : KD}

theorem does_of {o : Oper} {d : D} {r : Value} (hm : MSim S φ mem nx w) (hk : K d mem nx) (hr : Rep w S φ d r) (h : (execOp a.eval o).run C.P w = .ok (.value r) w) : Does C.P o a w (Out S φ mem nx w id K) :=
  does_value h (out_same hm hk hr)

theorem opdo_out {lo : Option Operand} {ylo : Option Opd} {dlo : Option D} (hk : Known C w S φ env tl a) (h : C.opdo lo = some ylo) (hr : roo tl env ylo = some dlo) : OptRep w S φ dlo (lo.map a.eval) := by
  cases lo with
  | none =>
    simp only [Cfg.opdo, Option.some.injEq] at h; subst h
    simp only [roo, Option.some.injEq] at hr; subst hr
    trivial
  | some x =>
    simp only [Cfg.opdo] at h
    split at h
    · rename_i y hy
      simp only [Option.some.injEq] at h; subst h
      simp only [roo] at hr
      split at hr
      · rename_i d hd
        simp only [Option.some.injEq] at hr; subst hr
        exact ro_sound hk hy hd
      · simp at hr
    · simp at h

theorem map_out {α β : Type} {f : α → β} {o : Option α} {y : β} (h : o.map f = some y) : ∃ x, o = some x ∧ f x = y := by
  cases o with
  | none => simp at h
  | some x => exact ⟨x, rfl, by simpa using h⟩

theorem opds_one {l : List Operand} {x : Opd} (h : C.opds l = some [x]) : ∃ X, l = [X] ∧ C.opd X = some x := by
  cases l with
  | nil => simp [Cfg.opds] at h
  | cons X l =>
    simp only [Cfg.opds, List.mapM_cons, Option.bind_eq_bind, Option.bind_eq_some_iff, Option.pure_def, Option.some.injEq] at h
    obtain ⟨y, hy, ys, hys, e⟩ := h
    simp only [List.cons.injEq] at e
    obtain ⟨rfl, rfl⟩ := e
    cases l with
    | nil => exact ⟨X, rfl, hy⟩
    | cons Z l =>
      simp only [List.mapM_cons, Option.bind_eq_bind, Option.bind_eq_some_iff, Option.pure_def, Option.some.injEq] at hys
      obtain ⟨_, _, _, _, e⟩ := hys
      simp at e

theorem opds_two {l : List Operand} {x y : Opd} (h : C.opds l = some [x, y]) : ∃ X Y, l = [X, Y] ∧ C.opd X = some x ∧ C.opd Y = some y := by
  cases l with
  | nil => simp [Cfg.opds] at h
  | cons X l =>
    simp only [Cfg.opds, List.mapM_cons, Option.bind_eq_bind, Option.bind_eq_some_iff, Option.pure_def, Option.some.injEq] at h
    obtain ⟨z, hy, ys, hys, e⟩ := h
    simp only [List.cons.injEq] at e
    obtain ⟨rfl, rfl⟩ := e
    obtain ⟨Y, rfl, h2⟩ := opds_one (C := C) (l := l) hys
    exact ⟨X, Y, rfl, hy, h2⟩

theorem call_sound {dst : Option Tmp} {c : Call} {type : TypeId} {pos : String} {after : Array Edge} {guard : Option (Nat × Bool)} {own : Bool} {i : I} (hi : C.call own c.callee c.args.toList c.argTypes.toList = some i) (hs : stepI C id i env tl mem nx K)
    (hk : Known C w S φ env tl a) (hm : MSim S φ mem nx w) (hid : φ id = none) (hlt : id < nx) : Does C.P ⟨dst, .call c, type, pos, after, guard⟩ a w (Out S φ mem nx w id K) := by
  simp only [Cfg.call, Option.bind_eq_bind, Option.bind_eq_some_iff] at hi
  obtain ⟨ys, hys, hi⟩ := hi
  split at hi
  · rename_i X hc
    simp only [Option.bind_eq_some_iff, Option.some.injEq] at hi
    obtain ⟨y, hy, rfl⟩ := hi
    cases own with
    | false =>
      simp only [Bool.false_eq_true, if_false] at hs
      obtain ⟨g, caps, ds, r, hf, hds, hp, himm, hK⟩ := pcK_out hs
      have hX := ro_sound hk hy hf
      simp only [Rep] at hX
      obtain ⟨vs, hX, hcaps⟩ := hX
      have hargs := opds_out c.args.toList ys ds hk hys hds
      rcases hp with hp | hp
      · refine does_call (by show (do let d ← resolve a.eval c type; invoke d.target d.args : Sem Next).run C.P w = _; exact call_run hp.1 hc hX) ?_
        exact pure_out hp himm (RepVs_append _ _ _ _ hargs hcaps) hm hK
      · obtain ⟨v, hv, hrun⟩ := hp S φ w _ (RepVs_append _ _ _ _ hargs hcaps)
        exact does_of hm hK hv (by show (do let d ← resolve a.eval c type; invoke d.target d.args : Sem Next).run C.P w = _; exact ext_run hc hX hrun)
    | true =>
      simp only [if_true] at hs
      obtain ⟨g, caps, ds, hf, hds, hp⟩ := clK_out hs
      have hX := ro_sound hk hy hf
      simp only [Rep] at hX
      obtain ⟨vs, hX, hcaps⟩ := hX
      have hargs := opds_out c.args.toList ys ds hk hys hds
      refine does_call (by show (do let d ← resolve a.eval c type; invoke d.target d.args : Sem Next).run C.P w = _; exact call_run hp.1 hc hX) ?_
      refine (hp.2 S φ w _ hm (RepVs_append _ _ _ _ hargs hcaps)).mono ?_
      rintro e w' ⟨v, d, mem', nx', S', φ', rfl, h1, h2, h3, h4, h5, h6, h7⟩
      exact ⟨v, rfl, d, mem', nx', S', φ', h1, h2, h4, h3, h5, h6, fun i _ hi hn => h7 i hi hn⟩
  · simp at hi
  · rename_i b hc
    have hrun : ∀ (xs : List Value) (r : Value) (w' : World), c.args.toList.map a.eval = xs → (builtin b c.argTypes type (c.args.map fun | .const _ => true | _ => false) xs.toArray).run C.P w = .ok (.value r) w' →
        (execOp a.eval ⟨dst, .call c, type, pos, after, guard⟩).run C.P w = .ok (.value r) w' := by
      intro xs r w' hxs hb
      have e : c.args.map a.eval = xs.toArray := by apply Array.ext'; simp [hxs]
      show (do let d ← resolve a.eval c type; invoke d.target d.args : Sem Next).run C.P w = _
      simp only [resolve, hc, Sem.run_bind, Sem.run_pure, Result.andThen_ok, invoke, e]
      exact hb
    split at hi
    · rename_i x t ts hts
      have hts0 : c.argTypes[0]? = some t := by rw [← Array.getElem?_toList, hts]; rfl
      obtain ⟨X, hX, hy⟩ := opds_one hys
      split at hi
      · rename_i hu
        simp only [Option.some.injEq] at hi; subst hi
        obtain ⟨d, r, h1, h2, h3⟩ := k1_out hs
        obtain ⟨v, hv, hl⟩ := len_sound (ty := type) (ts := c.argTypes) (cs := c.args.map fun | .const _ => true | _ => false) hts0 (.inl ⟨rfl, hu⟩) h2 (ro_sound hk hy h1) hm
        exact does_of hm h3 hv (hrun [a.eval X] v w (by rw [hX]; rfl) hl)
      · rename_i e hu
        simp only [Option.some.injEq] at hi; subst hi
        obtain ⟨d, r, h1, h2, h3⟩ := k1_out hs
        obtain ⟨v, hv, hl⟩ := len_sound (ty := type) (ts := c.argTypes) (cs := c.args.map fun | .const _ => true | _ => false) hts0 (.inr ⟨rfl, e, hu⟩) h2 (ro_sound hk hy h1) hm
        exact does_of hm h3 hv (hrun [a.eval X] v w (by rw [hX]; rfl) hl)
      · rename_i kt et hu
        simp only [Option.some.injEq] at hi; subst hi
        obtain ⟨d, r, h1, h2, h3⟩ := k1_out hs
        obtain ⟨v, hv, hl⟩ := lnm_sound (ty := type) (ts := c.argTypes) (cs := c.args.map fun | .const _ => true | _ => false) hts0 hu h2 (ro_sound hk hy h1) hm
        exact does_of hm h3 hv (hrun [a.eval X] v w (by rw [hX]; rfl) hl)
      · simp at hi
    · rename_i x1 y1 t u ts hts
      have hts0 : c.argTypes[0]? = some t := by rw [← Array.getElem?_toList, hts]; rfl
      have hts1 : c.argTypes[1]? = some u := by rw [← Array.getElem?_toList, hts]; rfl
      obtain ⟨X, Y, hX, hx1, hy1⟩ := opds_two hys
      split at hi
      · rename_i e e2 ht hu
        split at hi
        · rename_i g k inf z hsz hinf hz
          simp only [Option.ite_none_right_eq_some, Option.some.injEq] at hi
          obtain ⟨⟨q1, q2, q3, q4⟩, rfl⟩ := hi
          obtain ⟨ds, inf', _, hinf', hsz', _⟩ := tsz_out hsz
          have hA : App C.P k c.argTypes e inf z := ⟨⟨t, hts0, ht⟩, ⟨u, e2, hts1, hu⟩, hinf, by rw [hinf] at hinf'; rw [Option.some.inj hinf']; exact hsz', hz, q1, q2, q3, q4⟩
          cases own with
          | true =>
            simp only [if_true] at hs
            obtain ⟨d, m, h1, hK⟩ := km_out hs
            cases hdx : ro tl env x1 with
            | none => simp [hdx, appM, apnM] at h1
            | some dx =>
              cases hdy : ro tl env y1 with
              | none => rw [hdx, hdy] at h1; cases dx <;> simp [appM, apnM] at h1
              | some dy =>
                rw [hdx, hdy] at h1
                obtain ⟨r, w', hr, hout⟩ := app_sound (ty := type) hA h1 (ro_sound hk hx1 hdx) (ro_sound hk hy1 hdy) hm hid hlt hK
                refine does_value (hrun [a.eval X, a.eval Y] r w' (by rw [hX]; rfl) ?_) hout
                simp only [builtin, Sem.run_bind, hr, Result.andThen_ok, Sem.run_pure]
          | false =>
            simp only [Bool.false_eq_true, if_false] at hs
            obtain ⟨d, m, h1, hK⟩ := km_out hs
            cases hdx : ro tl env x1 with
            | none => simp [hdx, apnM] at h1
            | some dx =>
              cases hdy : ro tl env y1 with
              | none => simp [hdx, hdy, apnM] at h1
              | some dy =>
                rw [hdx, hdy] at h1
                obtain ⟨r, w', hr, hout⟩ := apn_sound (ty := type) hA h1 (ro_sound hk hx1 hdx) (ro_sound hk hy1 hdy) hm hid hlt hK
                refine does_value (hrun [a.eval X, a.eval Y] r w' (by rw [hX]; rfl) ?_) hout
                simp only [builtin, Sem.run_bind, hr, Result.andThen_ok, Sem.run_pure]
        · simp at hi
      · simp at hi
    all_goals
      first
      | (simp at hi; done)
      | (simp only [Option.some.injEq] at hi; subst hi
         obtain ⟨ds, r, h1, h2, h3⟩ := kl_out hs
         obtain ⟨v, hv, hl⟩ := bi_sound (ty := type) (ts := c.argTypes) (cs := c.args.map fun | .const _ => true | _ => false) h2 (opds_out _ _ _ hk hys h1)
         exact does_of hm h3 hv (hrun _ v w rfl hl))

theorem pick_sound {X A B : Operand} {x aa bb : Opd} {o : Oper} (ho : o.op = .pick X A B) (hk : Known C w S φ env tl a) (hX : C.opd X = some x) (hA : C.opd A = some aa) (hB : C.opd B = some bb) (hm : MSim S φ mem nx w)
    (hs : k1 (ro tl env x) (pickD (ro tl env aa) (ro tl env bb)) mem nx K) : Does C.P o a w (Out S φ mem nx w id K) := by
  obtain ⟨d, r, h1, h2, h3⟩ := k1_out hs
  have hx := ro_sound hk hX h1
  cases d with
  | pl u =>
    simp only [Rep] at hx
    cases u with
    | bool c =>
      cases c with
      | true =>
        refine does_of hm h3 (ro_sound hk hA h2) ?_
        unfold execOp; simp [ho, hx, asBool]
      | false =>
        refine does_of hm h3 (ro_sound hk hB h2) ?_
        unfold execOp; simp [ho, hx, asBool]
    | _ => simp [pickD] at h2
  | _ => simp [pickD] at h2

theorem bs_sound {dst : Option Tmp} {t e : TypeId} {len : Nat} {ps : Array (Nat × Operand)} {type : TypeId} {pos : String} {after : Array Edge} {guard : Option (Nat × Bool)} {own g : Bool} {k : Nat} {z : List Value} {q : List (Nat × Nat × Opd)}
    (ht : C.P.underlying t = some (.slice e)) (he : Program.tsz C.P e = some (g, k)) (hz : Program.zeroOf C.P e = some z) (h0 : len ≠ 0) (hlen : len * k ≤ 2 ^ 24) (hkp : 0 < k) (hzk : z.length = k) (hq : C.parts (fun i => some (i * k, k)) ps.toList = some q)
    (hs : stepI C id (if own then .bso k len z q else .bsl k len z q) env tl mem nx K) (hk : Known C w S φ env tl a) (hm : MSim S φ mem nx w) (hid : φ id = none) (hlt : id < nx) : Does C.P ⟨dst, .buildSlice t len ps, type, pos, after, guard⟩ a w (Out S φ mem nx w id K) := by
  cases own with
  | false =>
    simp only [Bool.false_eq_true, if_false] at hs
    obtain ⟨ds, d, h1, h2, h3⟩ := kl_out hs
    obtain ⟨es, h4, rfl⟩ := map_out h2
    obtain ⟨cs, hrun, hsz, hesl, _, out, hout, hol, rfl⟩ := bs_run (w := w) hk ht he hz h0 hlen hkp hzk hq h1 h4
    refine does_value (x := .slice (some ⟨w.heap.size, 0, none⟩) len len) (w' := w.alloc (.cells cs e)) ?_ ?_
    · unfold execOp; simp only [Sem.run_bind, hrun, Result.andThen_ok, Sem.run_pure]
    · have hnew := range_new (w := w) cs e (0, 0)
      obtain ⟨g1, g2, g3⟩ := alloc_imm hm (.cells cs e)
      refine ⟨_, mem, nx, _, φ, h3, Nat.le_refl _, ?_, g1, g2, g3, fun i _ _ hn => hn⟩
      simp only [Rep]
      exact .inr ⟨_, 0, len, k, by rw [chunks_length], by rw [chunks_length]; exact Nat.le_refl _, .inr rfl, chunks_rep k _ len out 0 hol (RepCs_of_vals _ _ _ _ (RepVs.mono g2 _ _ hout) hnew)⟩
  | true =>
    simp only [if_true] at hs
    obtain ⟨d, m, h1, h3⟩ := km_out hs
    cases hr : rps tl env q with
    | none => simp [hr, bsoM] at h1
    | some ds =>
      rw [hr] at h1
      simp only [bsoM] at h1
      split at h1
      · rename_i es h4
        simp only [Option.some.injEq, Prod.mk.injEq] at h1
        obtain ⟨rfl, rfl⟩ := h1
        obtain ⟨cs, hrun, hsz, hesl, _, out, hout, hol, rfl⟩ := bs_run (w := w) hk ht he hz h0 hlen hkp hzk hq hr h4
        refine does_value (x := .slice (some ⟨w.heap.size, 0, none⟩) len len) (w' := w.alloc (.cells cs e)) ?_ ?_
        · unfold execOp; simp only [Sem.run_bind, hrun, Result.andThen_ok, Sem.run_pure]
        · have hnew := range_new (w := w) cs e (0, 0)
          obtain ⟨φ', g1, g2, g3, g4, g5⟩ := alloc_own (l := ⟨true, true, w.heap.size, 0, k, 0, len * k⟩) (blk := .arr 0 k (chunks k len out)) hm (.cells cs e) hid hlt rfl rfl (by
            intro φ' hst'
            simp only [BRep]
            exact ⟨trivial, trivial, trivial, .inr ⟨trivial, ⟨cs, e, alloc_new _, hsz⟩, by rw [chunks_length]; simp, chunks_rep k _ len out 0 hol (RepCs_of_vals _ _ _ _ (RepVs.mono hst' _ _ hout) hnew)⟩⟩)
          refine ⟨_, _, nx, S, φ', h3, Nat.le_refl _, ?_, g2, g3, g4, fun i hi _ hn => by rw [g5 i hi]; exact hn⟩
          simp only [Rep]
          exact ⟨_, g1, Nat.le_refl _, ⟨_, _, _, rfl⟩, fun _ => .inr ⟨rfl, len, by simp, Nat.le_refl _, by simp⟩⟩
      · simp at h1

theorem out_bytes {e : TypeId} {u : ByteArray} (hm : MSim S φ mem nx w) (hk : K (.sl (byteCells u.data.toList)) mem nx) : Out S φ mem nx w id K (.slice (some ⟨w.heap.size, 0, none⟩) u.size (grownCap w u.size 0 e))
    (w.drew.alloc (.cells (bytesRow u (grownCap w u.size 0 e)) e ((bytesRow u (grownCap w u.size 0 e)).size, (bytesRow u (grownCap w u.size 0 e)).size + 1))) := by
  obtain ⟨m1, m2, m3⟩ := MSim.of_heap (w := w) (w1 := w.drew) rfl rfl rfl rfl hm
  generalize hc : grownCap w u.size 0 e = cap
  have hcap : u.size ≤ cap := by rw [← hc]; exact grownCap_ge w u.size 0 e
  obtain ⟨g1, g2, g3⟩ := alloc_imm m1 (.cells (bytesRow u cap) e ((bytesRow u cap).size, (bytesRow u cap).size + 1))
  refine ⟨_, mem, nx, _, φ, hk, Nat.le_refl _, ?_, g1, m2.trans g2, m3.trans g3, fun i _ _ hn => hn⟩
  have hnew := range_new (w := w.drew) (bytesRow u cap) e ((bytesRow u cap).size, (bytesRow u cap).size + 1)
  have hsz : u.size = (byteCells u.data.toList).length := by unfold byteCells; rw [List.length_map, Array.length_toList]; rfl
  simp only [Rep]
  refine .inr ⟨w.heap.size, 0, cap, 1, by rw [← hsz], by rw [← hsz]; exact hcap, .inr rfl, RepEs_of_flat _ _ _ _ (fun c hc => ?_) ?_⟩
  · simp only [byteCells, List.mem_map] at hc
    obtain ⟨b, _, rfl⟩ := hc
    rfl
  · have hfl : (byteCells u.data.toList).flatten = u.data.toList.map fun b => D.pl (.int .u8 b.toNat) := by
      unfold byteCells
      generalize u.data.toList = l
      induction l with
      | nil => rfl
      | cons a l ih => simp [List.flatten_cons, ih]
    rw [hfl]
    refine RepCs_of_vals _ (u.data.toList.map fun b => Value.int .u8 b.toNat) _ _ ?_ ?_
    · generalize u.data.toList = l
      induction l with
      | nil => simp [RepVs]
      | cons a l ih => simp only [List.map_cons, RepVs]; exact ⟨_, _, rfl, by simp [Rep], ih⟩
    · have : (bytesRow u cap).toList = (u.data.toList.map fun b => Value.int .u8 b.toNat) ++ List.replicate (cap - u.size) (.int .u8 0) := by simp [bytesRow]
      rw [this] at hnew
      exact (rangeAt_app hnew).1

theorem freeze_heap {b n : Nat} {c : Array Value} {t : TypeId} (h : w.heap[b]? = some (.cells c t (0, 0))) : (w.freeze ⟨b, n, none⟩ 1).heap[b]? = some (.cells c t (n, n + 1)) ∧ ∀ j, j ≠ b → (w.freeze ⟨b, n, none⟩ 1).heap[j]? = w.heap[j]? := by
  unfold World.freeze
  rw [if_neg (by decide)]
  refine ⟨?_, fun j hj => ?_⟩
  · simp [Array.getElem?_modify, h]
  · simp only [Array.getElem?_modify]
    rw [if_neg (fun g => hj g.symm)]
theorem freeze_cell {b n : Nat} {c : Array Value} {t : TypeId} (h : w.heap[b]? = some (.cells c t (0, 0))) (j o : Nat) : (w.freeze ⟨b, n, none⟩ 1).cell? ⟨j, o, none⟩ = w.cell? ⟨j, o, none⟩ := by
  obtain ⟨h1, h2⟩ := freeze_heap (n := n) h
  unfold World.cell?
  by_cases g : j = b
  · subst g; simp only [h1, h]
  · simp only [h2 j g]
theorem freeze_size {b n : Nat} : (w.freeze ⟨b, n, none⟩ 1).heap.size = w.heap.size := by
  unfold World.freeze
  rw [if_neg (by decide)]
  simp
theorem cvo_sound {s e : TypeId} (hs : C.P.underlying s = some (.slice e)) (he : C.P.underlying e = some (.int .u8)) {i ver : Nat} {es : List (List D)} {v : Value} (hl : look mem i = some (.arr ver 1 es)) (hne : es ≠ []) (hx : Rep w S φ (.osl i ver 0 es.length) v) (hm : MSim S φ mem nx w) :
    ∃ w' S' φ', (convert s s v).run C.P w = .ok v w' ∧ Rep w' S' φ' (.sl es) v ∧ MSim S' φ' (upd mem i (.arr (ver + 1) 1 [])) nx w' ∧ Stays w S φ w' S' φ' ∧ Ext S φ mem w S' φ' (upd mem i (.arr (ver + 1) 1 [])) w' ∧ ∀ j, φ j = none → φ' j = none := by
  obtain ⟨l, hφ, hnS, hB⟩ := hm.mem i _ hl
  simp only [BRep] at hB
  obtain ⟨ha, hv, hk, hB⟩ := hB
  rcases hB with ⟨_, rfl⟩ | ⟨hreal, ⟨c, t, hc, hcs⟩, hsz, hes⟩
  · exact absurd rfl hne
  simp only [Rep] at hx
  obtain ⟨l', hφ', _, _, hx⟩ := hx
  rw [hφ] at hφ'
  simp only [Option.some.injEq] at hφ'
  subst hφ'
  rcases hx hv with ⟨hr, _⟩ | ⟨_, cap, rfl, hcap, hroom⟩
  · rw [hreal] at hr; simp at hr
  have hi : i < nx := by
    rcases Nat.lt_or_ge i nx with g | g
    · exact g
    · rw [hm.fresh i g] at hφ; simp at hφ
  simp only [Nat.zero_mul, Nat.add_zero] at *
  have hsh : w.shape? l.b = some (t, c.size) := by unfold World.shape?; rw [hc]
  obtain ⟨f1, f2⟩ := freeze_heap (n := c.size) hc
  have hcell := fun j o => freeze_cell (n := c.size) hc j o
  have hsize : (w.freeze ⟨l.b, c.size, none⟩ 1).heap.size = w.heap.size := freeze_size
  have hst : Stays w S φ (w.freeze ⟨l.b, c.size, none⟩ 1) (fun b => S b ∨ b = l.b) (fun j => if j = i then some { l with real := false, ver := l.ver + 1 } else φ j) :=
    ⟨fun b hb => .inl hb, fun b _ o => hcell b o, fun j m hj => by
      by_cases g : j = i
      · subst g
        rw [hφ] at hj
        simp only [Option.some.injEq] at hj
        subst hj
        exact ⟨_, if_pos rfl, .inr ⟨ha, ha, Nat.lt_succ_self _⟩⟩
      · exact ⟨m, (if_neg g).trans hj, .inl rfl⟩⟩
  refine ⟨w.freeze ⟨l.b, c.size, none⟩ 1, _, _, ?_, ?_, ⟨?_, ?_, ?_, ?_, ?_⟩, hst, ⟨fun b hb => .inl hb, ?_, Nat.le_of_eq hsize.symm, ?_, ?_, ?_, ?_, ?_⟩, ?_⟩
  · simp [convert, run_underlying hs, run_underlying he, markStringish, hsh]
  · simp only [Rep]
    refine .inr ⟨l.b, l.base, cap, 1, rfl, hcap, .inr rfl, ?_⟩
    exact RepEs.mono hst es 1 l.b l.base (fun o => hcell l.b o) hes
  · intro j blk hj
    by_cases g : j = i
    · subst g
      rw [look_upd_same _ _ _ _ hl] at hj
      simp only [Option.some.injEq] at hj
      subst hj
      exact ⟨_, if_pos rfl, fun h => by simp at h, by simp [BRep, ha, hv, hk]⟩
    · rw [look_upd_ne _ g] at hj
      obtain ⟨m, g1, g2, g3⟩ := hm.mem j blk hj
      have hne2 : m.real = true → m.b ≠ l.b := fun hr e => g (hm.inj j i m l g1 hφ hr hreal e)
      refine ⟨m, (if_neg g).trans g1, fun hr hb => hb.elim (g2 hr) (hne2 hr), g3.mono hst fun hr => f2 _ (hne2 hr)⟩
  · intro j k m n h1 h2 r1 r2 e
    replace h1 : (if j = i then some { l with real := false, ver := l.ver + 1 } else φ j) = some m := h1
    replace h2 : (if k = i then some { l with real := false, ver := l.ver + 1 } else φ k) = some n := h2
    by_cases g : j = i
    · rw [if_pos g] at h1
      simp only [Option.some.injEq] at h1
      subst h1
      simp at r1
    · by_cases g2 : k = i
      · rw [if_pos g2] at h2
        simp only [Option.some.injEq] at h2
        subst h2
        simp at r2
      · rw [if_neg g] at h1
        rw [if_neg g2] at h2
        exact hm.inj j k m n h1 h2 r1 r2 e
  · intro j m h1 r
    replace h1 : (if j = i then some { l with real := false, ver := l.ver + 1 } else φ j) = some m := h1
    by_cases g : j = i
    · rw [if_pos g] at h1
      simp only [Option.some.injEq] at h1
      subst h1
      simp at r
    · rw [if_neg g] at h1
      rw [hsize]; exact hm.lt j m h1 r
  · intro j hj
    show (if j = i then _ else φ j) = none
    rw [if_neg (by omega)]
    exact hm.fresh j hj
  · intro b hb
    rw [hsize]
    rcases hb with hb | rfl
    · exact hm.sub b hb
    · exact hm.lt i l hφ hreal
  · intro b hb ho
    exact f2 b (fun e => ho ⟨i, _, l, hl, hφ, hreal, e.symm⟩)
  · rintro b hb ⟨j, blk, m, g1, g2, g3, g4⟩
    replace g2 : (if j = i then some { l with real := false, ver := l.ver + 1 } else φ j) = some m := g2
    by_cases g : j = i
    · rw [if_pos g] at g2
      simp only [Option.some.injEq] at g2
      subst g2
      simp at g3
    · rw [if_neg g] at g2
      rw [look_upd_ne _ g] at g1
      exact ⟨j, blk, m, g1, g2, g3, g4⟩
  · rintro b (hb | rfl)
    · exact .inl hb
    · exact .inr (.inr ⟨i, _, l, hl, hφ, hreal, rfl⟩)
  · unfold World.freeze; rw [if_neg (by decide)]
  · unfold World.freeze; rw [if_neg (by decide)]
  · unfold World.freeze; rw [if_neg (by decide)]
  · intro j hj
    show (if j = i then _ else φ j) = none
    by_cases g : j = i
    · subst g; rw [hφ] at hj; simp at hj
    · rw [if_neg g]; exact hj
theorem step_sound {o : Oper} {own : Bool} {i : I} (hi : C.op own o.op = some i) (hs : stepI C id i env tl mem nx K) (hk : Known C w S φ env tl a) (hm : MSim S φ mem nx w) (hid : φ id = none) (hlt : id < nx) :
    Does C.P o a w (Out S φ mem nx w id K) := by
  obtain ⟨dst, op, type, pos, after, guard⟩ := o
  cases op with
  | move x =>
    obtain ⟨y, hy, rfl⟩ := map_out hi
    obtain ⟨d, h1, h2⟩ := k0_out hs
    exact does_of hm h2 (ro_sound hk hy h1) (by unfold execOp; simp)
  | assign x =>
    obtain ⟨y, hy, rfl⟩ := map_out hi
    obtain ⟨d, h1, h2⟩ := k0_out hs
    exact does_of hm h2 (ro_sound hk hy h1) (by unfold execOp; simp)
  | pick x y z =>
    simp only [Cfg.op, Option.bind_eq_bind, Option.bind_eq_some_iff, Option.some.injEq] at hi
    obtain ⟨x', hx, y', hy, z', hz, rfl⟩ := hi
    exact pick_sound rfl hk hx hy hz hm hs
  | alloc e =>
    obtain ⟨z, hz, rfl⟩ := map_out hi
    exact al_sound rfl hz hm hid hlt hs
  | box e x =>
    obtain ⟨y, hy, hi⟩ := map_out hi
    cases own with
    | true =>
      simp only [if_true] at hi; subst hi
      obtain ⟨d, m, h1, h2⟩ := km_out hs
      cases hd : ro tl env y with
      | none => simp [hd, bxM] at h1
      | some dd =>
        rw [hd] at h1
        simp only [bxM, Option.ite_none_right_eq_some, Option.some.injEq, Prod.mk.injEq] at h1
        obtain ⟨h3, rfl, rfl⟩ := h1
        exact bx_sound rfl h3 (ro_sound hk hy hd) hm hid hlt h2
    | false =>
      simp only [Bool.false_eq_true, if_false] at hi; subst hi
      obtain ⟨d, r, h1, h2, h3⟩ := k1_out hs
      simp only [bxiD, Option.ite_none_right_eq_some, Option.some.injEq] at h2
      obtain ⟨h4, rfl⟩ := h2
      exact bxi_sound rfl h4 (ro_sound hk hy h1) hm h3
  | build t ps =>
    simp only [Cfg.op] at hi
    split at hi
    · rename_i z fs hz ht
      simp only [Option.ite_none_right_eq_some] at hi
      obtain ⟨hall, hi⟩ := hi
      obtain ⟨q, hq, rfl⟩ := map_out hi
      obtain ⟨ds, r, h1, h2, h3⟩ := kl_out hs
      obtain ⟨v, hv, hrun⟩ := bld_struct (w := w) (S := S) (φ := φ) hk hz ht hall hq h1 h2
      exact does_of hm h3 hv (by unfold execOp; simp only [Sem.run_bind, hrun, Result.andThen_ok, Sem.run_pure])
    · rename_i z len e hz ht
      split at hi
      · rename_i g k he
        obtain ⟨q, hq, rfl⟩ := map_out hi
        obtain ⟨ds, r, h1, h2, h3⟩ := kl_out hs
        obtain ⟨v, hv, hrun⟩ := bld_array (w := w) (S := S) (φ := φ) hk hz ht he hq h1 h2
        exact does_of hm h3 hv (by unfold execOp; simp only [Sem.run_bind, hrun, Result.andThen_ok, Sem.run_pure])
      · simp at hi
    · simp at hi
  | buildSlice t len ps =>
    simp only [Cfg.op] at hi
    split at hi
    · rename_i e ht
      split at hi
      · rename_i g k z he hz
        split at hi
        · rename_i h0
          simp only [Option.ite_none_right_eq_some, Option.some.injEq] at hi
          obtain ⟨hps, rfl⟩ := hi
          obtain ⟨ds, inf, _, hinf, hsz, _⟩ := tsz_out he
          have hp : ps = #[] := by simpa using hps
          subst h0 hp
          obtain ⟨g1, g2, g3⟩ := alloc_imm hm (.cells #[] e)
          refine does_value (x := .slice (some ⟨w.heap.size, 0, none⟩) 0 0) (w' := w.alloc (.cells #[] e)) ?_ ⟨_, mem, nx, _, φ, hs, Nat.le_refl _, ?_, g1, g2, g3, fun i _ _ hn => hn⟩
          · unfold execOp
            have hemp : ∀ f : Nat → Value, Array.map f (Array.range 0) = #[] := by intro f; simp
            simp only [Instr.buildSlice, Sem.run_bind, run_underlying ht, Result.andThen_ok, run_sizeOf hinf, Nat.zero_mul]
            rw [if_neg (by omega)]
            simp only [if_true, Sem.run_bind, Sem.run_pure, Result.andThen_ok, hemp]
            simp only [Array.map_empty, Instr.fill, Sem.run_bind, newRow, run_newObj, Result.andThen_ok, Sem.run_pure]
            rfl
          · simp only [Rep]
            exact .inr ⟨_, rfl⟩
        · rename_i h0
          simp only [Option.ite_none_right_eq_some] at hi
          obtain ⟨⟨h1, h2, h3⟩, hi⟩ := hi
          obtain ⟨q, hq, rfl⟩ := map_out hi
          exact bs_sound ht he hz h0 h1 h2 h3 hq hs hk hm hid hlt
      · simp at hi
    · simp at hi
  | load t x =>
    simp only [Cfg.op] at hi
    split at hi
    · rename_i g n ht
      obtain ⟨y, hy, rfl⟩ := map_out hi
      obtain ⟨d, r, h1, h2, h3⟩ := k1_out hs
      obtain ⟨v, hv, hrun⟩ := ld_sound ht h2 hm (ro_sound hk hy h1)
      exact does_of hm h3 hv (by unfold execOp; simp only [Sem.run_bind, hrun, Result.andThen_ok, Sem.run_pure])
    · simp at hi
  | store t x y =>
    simp only [Cfg.op] at hi
    split at hi
    · rename_i g n ht
      simp only [Option.bind_eq_bind, Option.bind_eq_some_iff, Option.some.injEq] at hi
      obtain ⟨x', hx, y', hy, rfl⟩ := hi
      obtain ⟨d, m, h1, h2⟩ := km_out hs
      cases hdx : ro tl env x' with
      | none => simp [hdx, stM] at h1
      | some dx =>
        cases hdy : ro tl env y' with
        | none => simp [hdx, hdy, stM] at h1
        | some dy =>
          rw [hdx, hdy] at h1
          simp only [stM] at h1
          split at h1
          · rename_i m' hw
            simp only [Option.some.injEq, Prod.mk.injEq] at h1
            obtain ⟨rfl, rfl⟩ := h1
            obtain ⟨w', hrun, g1, g2, g3⟩ := wrc_sound ht hw hm (ro_sound hk hx hdx) (ro_sound hk hy hdy)
            refine does_skip (w' := w') (by unfold execOp; simp only [Sem.run_bind, hrun, Result.andThen_ok, Sem.run_pure]) ⟨_, _, nx, S, φ, h2, Nat.le_refl _, by simp [Rep], g1, g2, g3, fun _ _ _ h => h⟩
          · simp at h1
    · simp at hi
  | nilCheck x =>
    obtain ⟨y, hy, rfl⟩ := map_out hi
    obtain ⟨d, r, h1, h2, h3⟩ := k1_out hs
    obtain ⟨v, hv, hrun⟩ := chk_sound (C := C) (o := ⟨dst, .nilCheck x, type, pos, after, guard⟩) rfl h2 (ro_sound hk hy h1)
    exact does_of hm h3 hv hrun
  | binOp b t x y yt =>
    simp only [Cfg.op, Option.bind_eq_bind, Option.bind_eq_some_iff, Option.some.injEq] at hi
    obtain ⟨x', hx, y', hy, rfl⟩ := hi
    obtain ⟨dx, dy, r, h1, h2, h3, h4⟩ := k2_out hs
    obtain ⟨v, hv, hrun⟩ := bin_sound (X := x) (Y := y) h3 (ro_sound hk hx h1) (ro_sound hk hy h2)
    exact does_of hm h4 hv (by unfold execOp; simp only [Sem.run_bind] at hrun ⊢; simp only [hrun, Result.andThen_ok, Sem.run_pure])
  | unOp u t x =>
    obtain ⟨y, hy, rfl⟩ := map_out hi
    obtain ⟨d, r, h1, h2, h3⟩ := k1_out hs
    obtain ⟨v, hv, hrun⟩ := un_sound h2 (ro_sound hk hy h1)
    exact does_of hm h3 hv (by unfold execOp; simp only [Sem.run_bind, hrun, Result.andThen_ok, Sem.run_pure])
  | convert s t x =>
    simp only [Cfg.op] at hi
    split at hi
    · rename_i hc
      simp only [Bool.and_eq_true, beq_iff_eq] at hc
      obtain ⟨_, rfl, hb⟩ := hc
      obtain ⟨e, g1, g2⟩ := isBytes_out hb
      obtain ⟨y, hy, rfl⟩ := map_out hi
      obtain ⟨d, m, h1, h2⟩ := km_out hs
      cases hd : ro tl env y with
      | none => simp [hd, cvoM] at h1
      | some dd =>
        rw [hd] at h1
        have hx := ro_sound hk hy hd
        unfold cvoM at h1
        split at h1
        · rename_i i ver n heq
          simp only [Option.some.injEq] at heq
          subst heq
          split at h1
          · rename_i v k es hl
            split at h1
            · rename_i hcc
              obtain ⟨⟨rfl, rfl, rfl⟩, hne⟩ := hcc
              simp only [Option.some.injEq, Prod.mk.injEq] at h1
              obtain ⟨rfl, rfl⟩ := h1
              obtain ⟨w', S', φ', hrun, q1, q2, q3, q4, q5⟩ := cvo_sound g1 g2 hl (by intro h; subst h; simp at hne) hx hm
              exact does_value (by unfold execOp; simp only [Sem.run_bind, hrun, Result.andThen_ok, Sem.run_pure]) ⟨_, _, nx, S', φ', h2, Nat.le_refl _, q1, q2, q3, q4, fun j _ _ hj => q5 j hj⟩
            · simp at h1
          · simp at h1
        · simp at h1
    obtain ⟨y, hy, rfl⟩ := map_out hi
    obtain ⟨d, r, h1, h2, h3⟩ := k1_out hs
    rcases cv_sound h2 (ro_sound hk hy h1) with ⟨v, hv, hrun⟩ | ⟨u, e, hu, k1, k2, k3, rfl⟩
    · exact does_of hm h3 hv (by unfold execOp; simp only [Sem.run_bind, hrun, Result.andThen_ok, Sem.run_pure])
    · have hrun := run_bytes_of_string (P := C.P) w s t e u k1 k2 k3
      rw [← hu] at hrun
      exact does_value (x := .slice (some ⟨w.heap.size, 0, none⟩) u.size (grownCap w u.size 0 e))
        (w' := w.drew.alloc (.cells (bytesRow u (grownCap w u.size 0 e)) e ((bytesRow u (grownCap w u.size 0 e)).size, (bytesRow u (grownCap w u.size 0 e)).size + 1)))
        (by unfold execOp; simp only [Sem.run_bind, hrun, Result.andThen_ok, Sem.run_pure]) (out_bytes hm h3)
  | makeFunc fn first caps =>
    cases fn with
    | func f =>
      simp only [Cfg.op, Option.ite_none_right_eq_some] at hi
      obtain ⟨hf, hi⟩ := hi
      obtain ⟨ys, hys, rfl⟩ := map_out hi
      obtain ⟨ds, r, h1, h2, h3⟩ := kl_out hs
      simp only [mkfD, Option.some.injEq] at h2; subst h2
      have hfe : first = #[] := by simpa using hf
      subst hfe
      refine does_of (r := .func (.func f) #[] (caps.map a.eval)) hm h3 ?_ ?_
      · simp only [Rep]
        exact ⟨_, rfl, by simpa using opds_out _ _ _ hk hys h1⟩
      · unfold execOp; simp [Instr.makeFunc]
    | _ => simp [Cfg.op] at hi
  | makeSlice t l c =>
    simp only [Cfg.op] at hi
    split at hi
    · rename_i e ht
      have fin : ∀ (g : Bool) (k : Nat) (inf : TypeInfo) (z : List Value) (y : Opd), Program.tsz C.P e = some (g, k) → C.P.info? e = some inf → Program.zeroOf C.P e = some z → 0 < k → z.length = k → 0 < inf.bytes → C.opd l = some y → a.eval l = a.eval c →
          i = (if own then .mks k inf.bytes z y else .mki k inf.bytes z y) → Does C.P ⟨dst, .makeSlice t l c, type, pos, after, guard⟩ a w (Out S φ mem nx w id K) := by
        intro g k inf z y he hinf hz hkp hzk hb hy hlc hi'
        subst hi'
        cases own with
        | true =>
          simp only [if_true] at hs
          obtain ⟨d, m, h1, h2⟩ := km_out hs
          unfold mksM at h1
          split at h1
          · rename_i n hro
            simp only [Option.ite_none_right_eq_some, Option.some.injEq, Prod.mk.injEq] at h1
            obtain ⟨⟨h3, h4⟩, rfl, rfl⟩ := h1
            have hv := ro_sound hk hy hro
            simp only [Rep] at hv
            exact mks_sound rfl ht he hinf hz hkp hzk hb hv (by rw [← hlc]; exact hv) h3 h4 hm hid hlt h2
          · simp at h1
        | false =>
          simp only [Bool.false_eq_true, if_false] at hs
          obtain ⟨d, r, h1, h2, h3⟩ := k1_out hs
          unfold mkiD at h2
          split at h2
          · rename_i n
            simp only [Option.ite_none_right_eq_some, Option.some.injEq] at h2
            obtain ⟨⟨h4, h5⟩, rfl⟩ := h2
            have hv := ro_sound hk hy h1
            simp only [Rep] at hv
            exact mki_sound rfl ht he hinf hz hkp hzk hb hv (by rw [← hlc]; exact hv) h4 h5 hm h3
          · simp at h2
      split at hi
      · rename_i g k inf z i1 i2 he hinf hz
        simp only [Option.ite_none_right_eq_some] at hi
        obtain ⟨⟨rfl, h2, h3, h4⟩, hi⟩ := hi
        obtain ⟨y, hy, hi⟩ := map_out hi
        exact fin g k inf z y he hinf hz h2 h3 h4 hy rfl hi.symm
      · rename_i g k inf z i1 i2 he hinf hz
        simp only [Option.ite_none_right_eq_some] at hi
        obtain ⟨⟨rfl, h2, h3, h4⟩, hi⟩ := hi
        obtain ⟨y, hy, hi⟩ := map_out hi
        exact fin g k inf z y he hinf hz h2 h3 h4 hy rfl hi.symm
      · simp at hi
    · simp at hi
  | slice t x lo hi' mx =>
    cases mx with
    | some m => simp [Cfg.op] at hi
    | none =>
      simp only [Cfg.op] at hi
      have hopt : ∀ (yx : Opd) (ylo yhi : Option Opd) (s : Bool) (k : Nat) (d : D), slsO mem s k (ro tl env yx) (roo tl env ylo) (roo tl env yhi) = some d →
          ∃ dx dlo dhi, ro tl env yx = some dx ∧ roo tl env ylo = some dlo ∧ roo tl env yhi = some dhi ∧ slsD mem s k dx dlo dhi = some d := by
        intro yx ylo yhi s k d h
        unfold slsO at h
        split at h
        · exact ⟨_, _, _, by assumption, by assumption, by assumption, h⟩
        · simp at h
      split at hi
      · rename_i ht
        simp only [Option.bind_eq_bind, Option.bind_eq_some_iff, Option.some.injEq] at hi
        obtain ⟨yx, hyx, ylo, hylo, yhi, hyhi, rfl⟩ := hi
        obtain ⟨d, h1, h2⟩ := k0_out hs
        obtain ⟨dx, dlo, dhi, e1, e2, e3, h3⟩ := hopt _ _ _ _ _ _ h1
        obtain ⟨v, hv, hrun⟩ := sls_string (C := C) ht h3 (ro_sound hk hyx e1) (opdo_out hk hylo e2) (opdo_out hk hyhi e3)
        exact does_of hm h2 hv (by unfold execOp; simp only [Sem.run_bind, Option.map_none, hrun, Result.andThen_ok, Sem.run_pure])
      · rename_i e ht
        split at hi
        · rename_i g k he
          simp only [Option.bind_eq_bind, Option.bind_eq_some_iff, Option.some.injEq] at hi
          obtain ⟨yx, hyx, ylo, hylo, yhi, hyhi, rfl⟩ := hi
          obtain ⟨d, h1, h2⟩ := k0_out hs
          obtain ⟨dx, dlo, dhi, e1, e2, e3, h3⟩ := hopt _ _ _ _ _ _ h1
          obtain ⟨v, hv, hrun⟩ := sls_slice ht he h3 (ro_sound hk hyx e1) (opdo_out hk hylo e2) (opdo_out hk hyhi e3) hm
          exact does_of hm h2 hv (by unfold execOp; simp only [Sem.run_bind, Option.map_none, hrun, Result.andThen_ok, Sem.run_pure])
        · simp at hi
      · simp at hi
  | fieldAddr s x f =>
    simp only [Cfg.op] at hi
    split at hi
    · rename_i fs hs'
      split at hi
      · rename_i fd hf
        split at hi
        · rename_i g n ht
          split at hi
          · simp at hi
          · rename_i hn
            obtain ⟨y, hy, rfl⟩ := map_out hi
            obtain ⟨d, r, h1, h2, h3⟩ := k1_out hs
            obtain ⟨v, hv, hrun⟩ := fa_sound hs' hf ht hn h2 (ro_sound hk hy h1) hm
            exact does_of hm h3 hv (by unfold execOp; simp only [Sem.run_bind, hrun, Result.andThen_ok, Sem.run_pure])
        · simp at hi
      · simp at hi
    · simp at hi
  | field s x f =>
    simp only [Cfg.op] at hi
    split at hi
    · rename_i fs hs'
      split at hi
      · rename_i fd hf
        split at hi
        · rename_i g n ht
          obtain ⟨y, hy, rfl⟩ := map_out hi
          obtain ⟨d, r, h1, h2, h3⟩ := k1_out hs
          obtain ⟨v, hv, hrun⟩ := fld_sound hs' hf ht h2 (ro_sound hk hy h1)
          exact does_of hm h3 hv (by unfold execOp; simp only [Sem.run_bind, hrun, Result.andThen_ok, Sem.run_pure])
        · simp at hi
      · simp at hi
    · simp at hi
  | indexAddr t x y =>
    simp only [Cfg.op] at hi
    split at hi
    · rename_i e ht
      split at hi
      · rename_i g k he
        simp only [Option.bind_eq_bind, Option.bind_eq_some_iff, Option.some.injEq] at hi
        obtain ⟨x', hx, y', hy, rfl⟩ := hi
        obtain ⟨dx, dy, r, h1, h2, h3, h4⟩ := k2_out hs
        obtain ⟨v, hv, hrun⟩ := ia_sound ht he h3 (ro_sound hk hx h1) (ro_sound hk hy h2) hm
        exact does_of hm h4 hv (by unfold execOp; simp only [Sem.run_bind, hrun, Result.andThen_ok, Sem.run_pure])
      · simp at hi
    · split at hi
      · rename_i g k he
        simp only [Option.bind_eq_bind, Option.bind_eq_some_iff, Option.some.injEq] at hi
        obtain ⟨x', hx, y', hy, rfl⟩ := hi
        obtain ⟨dx, dy, r, h1, h2, h3, h4⟩ := k2_out hs
        obtain ⟨v, hv, hrun⟩ := iaa_sound (by assumption) he h3 (ro_sound hk hx h1) (ro_sound hk hy h2) hm
        exact does_of hm h4 hv (by unfold execOp; simp only [Sem.run_bind, hrun, Result.andThen_ok, Sem.run_pure])
      · simp at hi
    · simp at hi
  | index t x y =>
    simp only [Cfg.op] at hi
    split at hi
    · rename_i ht
      simp only [Option.bind_eq_bind, Option.bind_eq_some_iff, Option.some.injEq] at hi
      obtain ⟨x', hx, y', hy, rfl⟩ := hi
      obtain ⟨dx, dy, r, h1, h2, h3, h4⟩ := k2_out hs
      obtain ⟨v, hv, hrun⟩ := ixs_sound (C := C) ht h3 (ro_sound hk hx h1) (ro_sound hk hy h2)
      exact does_of hm h4 hv (by unfold execOp; simp only [Sem.run_bind, hrun, Result.andThen_ok, Sem.run_pure])
    · simp at hi
  | makeMap t r =>
    cases r with
    | some r => simp [Cfg.op] at hi
    | none =>
      simp only [Cfg.op] at hi
      split at hi
      · simp only [Option.some.injEq] at hi; subst hi
        exact mkm_sound (t := t) (kt := 0) (et := 0) rfl hm hid hlt hs
      · simp at hi
  | lookup t x y two =>
    simp only [Cfg.op] at hi
    split at hi
    · rename_i kt et ht
      split at hi
      · rename_i kd inf hkd hinf
        split at hi
        · rename_i z hz
          simp only [Option.bind_eq_bind, Option.bind_eq_some_iff, Option.some.injEq] at hi
          obtain ⟨x', hx, y', hy, rfl⟩ := hi
          obtain ⟨dx, dy, r, h1, h2, h3, h4⟩ := k2_out hs
          obtain ⟨v, hv, hrun⟩ := lk_sound ht hkd hinf hz h3 (ro_sound hk hx h1) (ro_sound hk hy h2) hm
          exact does_of hm h4 hv (by unfold execOp; simp only [Sem.run_bind, hrun, Result.andThen_ok, Sem.run_pure])
        · simp at hi
      · simp at hi
    · simp at hi
  | mapUpdate t x y z =>
    simp only [Cfg.op] at hi
    split at hi
    · rename_i kt et ht
      split at hi
      · rename_i kd hkd
        simp only [Option.bind_eq_bind, Option.bind_eq_some_iff, Option.some.injEq] at hi
        obtain ⟨x', hx, y', hy, z', hz, rfl⟩ := hi
        obtain ⟨d, m, h1, h2⟩ := km_out hs
        cases hdx : ro tl env x' with
        | none => simp [hdx, mupM] at h1
        | some dx =>
          cases hdy : ro tl env y' with
          | none => simp [hdy, mupM] at h1
          | some dy =>
            cases hdz : ro tl env z' with
            | none => simp [hdz, mupM] at h1
            | some dz =>
              rw [hdx, hdy, hdz] at h1
              obtain ⟨w', hrun, g1, g2, g3, rfl⟩ := mup_sound ht hkd h1 (ro_sound hk hx hdx) (ro_sound hk hy hdy) (ro_sound hk hz hdz) hm
              refine does_skip (w' := w') (by unfold execOp; simp only [Sem.run_bind, hrun, Result.andThen_ok, Sem.run_pure]) ⟨_, _, nx, S, φ, h2, Nat.le_refl _, by simp [Rep], g1, g2, g3, fun _ _ _ h => h⟩
      · simp at hi
    · simp at hi
  | extract x j =>
    obtain ⟨y, hy, rfl⟩ := map_out hi
    obtain ⟨d, r, h1, h2, h3⟩ := k1_out hs
    obtain ⟨v, hv, hrun⟩ := ext_sound (C := C) h2 (ro_sound hk hy h1)
    exact does_of hm h3 hv (by unfold execOp; simp only [Sem.run_bind, hrun, Result.andThen_ok, Sem.run_pure])
  | call c => exact call_sound hi hs hk hm hid hlt
  | _ => simp [Cfg.op] at hi
end
end Go.Fx

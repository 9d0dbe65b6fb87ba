/-
  Structs, rows and variables that are made.
-/
import Derived.Test.YtaiklblnfebdfaaX6
import Derived.IntWalk
set_option linter.all false
namespace Go.Fx
open Go
section
variable {C : Cfg} {w w' : World} {S : Nat → Prop} {φ : Locs} {a : Act} {env tl : Env} {mem : Mem} {nx id : Nat} {K : KD}

theorem cell_one {d : D} {v : Value} (hr : Rep w S φ d v) (hc : d.cell = true) : v.oneCell' = true := by
  cases d with
  | pl u => simp only [Rep] at hr; subst hr; cases v <;> simp [D.cell] at hc <;> rfl
  | sl es =>
    simp only [Rep] at hr
    rcases hr with ⟨_, rfl | ⟨p, rfl⟩⟩ | ⟨b, o, cap, k, rfl, _⟩ <;> rfl
  | zs => simp only [Rep] at hr; rcases hr with rfl | ⟨p, rfl⟩ <;> rfl
  | pt cs => simp only [Rep] at hr; obtain ⟨b, o, rfl, _⟩ := hr; rfl
  | opt i off => simp only [Rep] at hr; obtain ⟨l, _, _, rfl⟩ := hr; rfl
  | osl i v lo n => simp only [Rep] at hr; obtain ⟨l, _, _, ⟨p, m, c, rfl⟩, _⟩ := hr; rfl
  | oel i v lo n => simp only [Rep] at hr; obtain ⟨l, _, _, ⟨p, rfl⟩, _⟩ := hr; rfl
  | omap i => simp only [Rep] at hr; obtain ⟨l, _, _, rfl⟩ := hr; rfl
  | fn f cs => simp only [Rep] at hr; obtain ⟨vs, rfl, _⟩ := hr; rfl
  | _ => simp [D.cell] at hc

theorem cells_rep {d : D} {v : Value} (hr : Rep w S φ d v) (hc : d.solid = true) : RepVs w S φ d.cells v.cells.toList := by
  cases d with
  | agg cs =>
    simp only [Rep] at hr
    obtain ⟨vs, rfl, h⟩ := hr
    exact h
  | _ =>
    all_goals
      have h1 := cell_one hr (by simpa [D.solid] using hc)
      have : v.cells = #[v] := by cases v <;> first | rfl | simp [Value.oneCell'] at h1
      rw [this]
      simp only [D.cells, RepVs]
      exact ⟨v, [], rfl, hr, rfl⟩

theorem cells_one : ∀ (cs : List D) (vs : List Value), RepVs w S φ cs vs → cs.all D.cell = true → ∀ u ∈ vs, u.oneCell' = true
  | [], vs, h, _ => by simp only [RepVs] at h; simp [h]
  | c :: cs, vs, h, hc => by
    simp only [RepVs] at h
    obtain ⟨x, r, rfl, h1, h2⟩ := h
    simp only [List.all_cons, Bool.and_eq_true] at hc
    intro u hu
    rcases List.mem_cons.1 hu with rfl | hu
    · exact cell_one h1 hc.1
    · exact cells_one cs r h2 hc.2 u hu

theorem solid_of_all {d : D} (h : d.cells.all D.cell = true) : d.solid = true := by
  cases d <;> first | rfl | simpa [D.cells, D.solid] using h

/-- What lies in a new block. -/
theorem range_new (vs : Array Value) (t : TypeId) (fr : Nat × Nat) : (w.alloc (.cells vs t fr)).rangeAt w.heap.size 0 vs.toList := by
  intro j v hj
  have hs : (w.alloc (.cells vs t fr)).heap[w.heap.size]? = some (.cells vs t fr) := alloc_new _
  simp only [World.cell?, hs, Option.isSome_none, Bool.false_eq_true, if_false, Nat.zero_add]
  simpa using hj

theorem RepCs_of_get : ∀ (cs : List D) (b o : Nat), (∀ m d, cs[m]? = some d → ∃ x, w.cell? ⟨b, o + m, none⟩ = some x ∧ Rep w S φ d x) → RepCs w S φ cs b o
  | [], b, o, _ => by simp [RepCs]
  | c :: cs, b, o, h => by
    simp only [RepCs]
    refine ⟨h 0 c rfl, RepCs_of_get cs b (o + 1) fun m d hd => ?_⟩
    have := h (m + 1) d (by simpa using hd)
    rwa [show o + (m + 1) = o + 1 + m by omega] at this

theorem RepEs_of_get : ∀ (es : List (List D)) (k b o : Nat), (∀ i e, es[i]? = some e → e.length = k ∧ RepCs w S φ e b (o + i * k)) → RepEs w S φ es k b o
  | [], k, b, o, _ => by simp [RepEs]
  | e :: es, k, b, o, h => by
    simp only [RepEs]
    have h0 := h 0 e rfl
    refine ⟨h0.1, by simpa using h0.2, RepEs_of_get es k b (o + k) fun i e' he => ?_⟩
    have := h (i + 1) e' (by simpa using he)
    rwa [show o + (i + 1) * k = o + k + i * k by rw [Nat.succ_mul]; omega] at this

theorem RepVs_pl : ∀ (vs : List Value), RepVs w S φ (vs.map .pl) vs
  | [] => by simp [RepVs]
  | v :: vs => by simp only [List.map_cons, RepVs, Rep]; exact ⟨v, vs, rfl, rfl, RepVs_pl vs⟩

theorem zero_out {P : Program} {t : TypeId} {z : List Value} (h : Program.zeroOf P t = some z) (w : World) : ∃ v, (zeroValue t).run P w = .ok v w ∧ v.cells.toList = z := by
  unfold Program.zeroOf at h
  split at h
  · rename_i i hi
    split at h
    · rename_i v hv
      simp only [Option.some.injEq] at h
      exact ⟨v, by simp [zeroValue, typeInfo, hi, hv], h⟩
    · simp at h
  · simp at h

theorem al_sound {e : TypeId} {z : List Value} {o : Oper} (ho : o.op = .alloc e) (hz : Program.zeroOf C.P e = some z) (hm : MSim S φ mem nx w) (hid : φ id = none) (hlt : id < nx) (hk : K (.opt id 0) ((id, .box (z.map .pl)) :: mem) nx) :
    Does C.P o a w (Out S φ mem nx w id K) := by
  obtain ⟨v, hv, hvz⟩ := zero_out hz w
  refine does_value (x := .pointer (some ⟨w.heap.size, 0, none⟩)) (w' := w.alloc (.cells v.cells e)) ?_ ?_
  · unfold execOp
    simp only [ho, Instr.alloc, Sem.run_bind, hv, Result.andThen_ok, newVar, newRow, run_newObj, Sem.run_pure]
    rfl
  · have hnew := range_new (w := w) v.cells e (0, 0)
    obtain ⟨φ', h1, h2, h3, h4, h5⟩ := alloc_own (l := ⟨false, true, w.heap.size, 0, 0, 0, 0⟩) (blk := .box (z.map .pl)) hm (.cells v.cells e) hid hlt rfl rfl (by
      intro φ' _
      simp only [BRep]
      refine ⟨trivial, trivial, trivial, ⟨v.cells, e, alloc_new _, by simp [← hvz]⟩, RepCs_of_vals _ _ _ _ ?_ hnew⟩
      rw [hvz]; exact RepVs_pl z)
    refine ⟨.opt id 0, _, nx, S, φ', hk, Nat.le_refl _, ?_, h2, h3, h4, fun i hi _ hn => by rw [h5 i hi]; exact hn⟩
    simp only [Rep]
    exact ⟨_, h1, rfl, rfl⟩

theorem bx_sound {e : TypeId} {X : Operand} {d : D} {o : Oper} (ho : o.op = .box e X) (hd : d.cells.all D.cell = true) (hx : Rep w S φ d (a.eval X)) (hm : MSim S φ mem nx w) (hid : φ id = none) (hlt : id < nx)
    (hk : K (.opt id 0) ((id, .box d.cells) :: mem) nx) : Does C.P o a w (Out S φ mem nx w id K) := by
  refine does_value (x := .pointer (some ⟨w.heap.size, 0, none⟩)) (w' := w.alloc (.cells (a.eval X).cells e)) ?_ ?_
  · unfold execOp
    simp only [ho, Instr.box, Sem.run_bind, Result.andThen_ok, newVar, newRow, run_newObj, Sem.run_pure]
    rfl
  · have hnew := range_new (w := w) (a.eval X).cells e (0, 0)
    have hc := cells_rep hx (solid_of_all hd)
    obtain ⟨φ', h1, h2, h3, h4, h5⟩ := alloc_own (l := ⟨false, true, w.heap.size, 0, 0, 0, 0⟩) (blk := .box d.cells) hm (.cells (a.eval X).cells e) hid hlt rfl rfl (by
      intro φ' hst
      simp only [BRep]
      refine ⟨trivial, trivial, trivial, ⟨_, e, alloc_new _, by rw [← Array.length_toList, RepVs_length _ _ hc]⟩, RepCs_of_vals _ _ _ _ (RepVs.mono hst _ _ hc) hnew⟩)
    refine ⟨.opt id 0, _, nx, S, φ', hk, Nat.le_refl _, ?_, h2, h3, h4, fun i hi _ hn => by rw [h5 i hi]; exact hn⟩
    simp only [Rep]
    exact ⟨_, h1, rfl, rfl⟩

theorem bxi_sound {e : TypeId} {X : Operand} {d : D} {o : Oper} (ho : o.op = .box e X) (hd : d.cells.all D.cell = true) (hx : Rep w S φ d (a.eval X)) (hm : MSim S φ mem nx w)
    (hk : K (.pt d.cells) mem nx) : Does C.P o a w (Out S φ mem nx w id K) := by
  refine does_value (x := .pointer (some ⟨w.heap.size, 0, none⟩)) (w' := w.alloc (.cells (a.eval X).cells e)) ?_ ?_
  · unfold execOp
    simp only [ho, Instr.box, Sem.run_bind, Result.andThen_ok, newVar, newRow, run_newObj, Sem.run_pure]
    rfl
  · have hnew := range_new (w := w) (a.eval X).cells e (0, 0)
    have hc := cells_rep hx (solid_of_all hd)
    obtain ⟨h1, h2, h3⟩ := alloc_imm hm (.cells (a.eval X).cells e)
    refine ⟨.pt d.cells, mem, nx, _, φ, hk, Nat.le_refl _, ?_, h1, h2, h3, fun i _ _ hn => hn⟩
    simp only [Rep]
    exact ⟨_, 0, rfl, .inr rfl, RepCs_of_vals _ _ _ _ (RepVs.mono h2 _ _ hc) hnew⟩

/-! #### make([]T, n) -/
theorem wrap_in {n : Int} (h0 : 0 ≤ n) (h : n ≤ 2 ^ 48) : IntKind.i64.wrap n = n := IntWalk.i64_in n (by omega)

theorem make_run {t e : TypeId} {g : Bool} {k : Nat} {inf : TypeInfo} {z : List Value} {n : Int} (ht : C.P.underlying t = some (.slice e)) (he : Program.tsz C.P e = some (g, k)) (hi : C.P.info? e = some inf) (hz : Program.zeroOf C.P e = some z)
    (hk : 0 < k) (hzk : z.length = k) (hb : 0 < inf.bytes) (h0 : 0 ≤ n) (h1 : n * inf.bytes ≤ 2 ^ 47) (w : World) :
    ∃ cs : Array Value, (Instr.makeSlice t (.int .i64 n) (.int .i64 n)).run C.P w = .ok (.slice (some ⟨w.heap.size, 0, none⟩) n.toNat n.toNat) (w.alloc (.cells cs e)) ∧ cs.size = n.toNat * k ∧
      ∀ j, j < n.toNat * k → cs[j]? = z[j % k]? := by
  obtain ⟨ds, inf', hu, hinf, hsz, _⟩ := tsz_out he
  have hsz : inf.size = k := by rw [hi] at hinf; rw [Option.some.inj hinf]; exact hsz
  have hinf := hi
  obtain ⟨v, hv, hvz⟩ := zero_out hz w
  have hn : n ≤ 2 ^ 47 := Int.le_trans (by have : n * 1 ≤ n * inf.bytes := Int.mul_le_mul_of_nonneg_left (by exact_mod_cast hb) h0; omega) h1
  have hw := wrap_in h0 (by omega)
  have hbn : (inf.bytes : Int) * n ≤ 2 ^ 47 := by rw [Int.mul_comm]; exact h1
  have c1 : ¬ n < 0 := by omega
  have c2 : ¬ ((inf.bytes : Int) * n > 2 ^ 48) := by omega
  have hvs : v.cells.size = k := by rw [← Array.length_toList, hvz, hzk]
  have c0 : (decide (n < 0) || decide ((inf.bytes : Int) * n > 2 ^ 48) || decide (n < 0) || decide (n > n)) = false := by
    rw [decide_eq_false c1, decide_eq_false c2, decide_eq_false (Int.lt_irrefl n)]; rfl
  by_cases hz0 : n.toNat * k = 0
  · refine ⟨#[], ?_, by simp [hz0], fun j hj => by omega⟩
    simp only [Instr.makeSlice, Sem.run_bind, run_underlying ht, Result.andThen_ok, asInt, asIntOf, Sem.run_pure, typeInfo, run_program, hi, hw]
    rw [if_neg (by rw [c0]; simp)]
    simp only [Sem.run_bind, run_askRoom, Result.andThen_ok, run_sizeOf hi, hsz, hz0, if_true, Sem.run_pure, newRow, run_newObj]
    have hemp : ∀ f : Nat → Value, Array.map f (Array.range 0) = #[] := by intro f; simp
    rw [hemp]; rfl
  · refine ⟨(Array.range (n.toNat * k)).map (v.cells[· % v.cells.size]!), ?_, by simp, fun j hj => ?_⟩
    · simp only [Instr.makeSlice, Sem.run_bind, run_underlying ht, Result.andThen_ok, asInt, asIntOf, Sem.run_pure, typeInfo, run_program, hi, hw]
      rw [if_neg (by rw [c0]; simp)]
      simp only [Sem.run_bind, run_askRoom, Result.andThen_ok, run_sizeOf hi, hsz, hz0, if_false, Sem.run_pure, newRow, run_newObj, hv]
      rfl
    · have h1 : j % k < v.cells.size := by rw [hvs]; exact Nat.mod_lt _ hk
      rw [← hvz]
      simp only [Array.getElem?_map, Array.getElem?_range, hj, if_true, Option.map_some, hvs]
      rw [Array.getElem?_toList, getElem!_pos v.cells (j % k) h1, Array.getElem?_eq_getElem h1]

/-- A row of noughts in a new block. -/
theorem RepEs_zeros {n k b : Nat} {z : List Value} {cs : Array Value} (hzk : z.length = k) (hcs : ∀ j, j < n * k → cs[j]? = z[j % k]?) (hsz : cs.size = n * k) (hr : w.rangeAt b 0 cs.toList) :
    RepEs w S φ (List.replicate n (z.map .pl)) k b 0 := by
  refine RepEs_of_get _ _ _ _ fun i e he => ?_
  obtain ⟨hi, rfl⟩ : i < n ∧ e = z.map .pl := by
    rw [List.getElem?_replicate] at he
    split at he
    · rename_i h; simp only [Option.some.injEq] at he; exact ⟨h, he.symm⟩
    · simp at he
  refine ⟨by simp [hzk], RepCs_of_get _ _ _ fun m d hd => ?_⟩
  rw [List.getElem?_map] at hd
  obtain ⟨v, hv, rfl⟩ : ∃ v, z[m]? = some v ∧ D.pl v = d := by
    cases h : z[m]? with
    | none => simp [h] at hd
    | some v => rw [h] at hd; exact ⟨v, rfl, by simpa using hd⟩
  have hm : m < k := by rw [← hzk]; exact (List.getElem?_eq_some_iff.1 hv).1
  have hj : i * k + m < n * k := by
    have : (i + 1) * k ≤ n * k := Nat.mul_le_mul_right k hi
    rw [Nat.succ_mul] at this; omega
  have hc := hcs (i * k + m) hj
  rw [Nat.mul_add_mod_self_right, Nat.mod_eq_of_lt hm, hv] at hc
  refine ⟨v, ?_, by simp [Rep]⟩
  have := hr (i * k + m) v (by simpa using hc)
  rwa [Nat.zero_add] at this ⊢

theorem mki_sound {t e : TypeId} {X Y : Operand} {g : Bool} {k : Nat} {inf : TypeInfo} {z : List Value} {n : Int} {o : Oper} (ho : o.op = .makeSlice t X Y) (ht : C.P.underlying t = some (.slice e)) (he : Program.tsz C.P e = some (g, k)) (hi : C.P.info? e = some inf)
    (hz : Program.zeroOf C.P e = some z) (hk : 0 < k) (hzk : z.length = k) (hb : 0 < inf.bytes) (hX : a.eval X = .int .i64 n) (hY : a.eval Y = .int .i64 n) (h0 : 0 ≤ n) (h1 : n * inf.bytes ≤ 2 ^ 47) (hm : MSim S φ mem nx w)
    (hK : K (.sl (List.replicate n.toNat (z.map .pl))) mem nx) : Does C.P o a w (Out S φ mem nx w id K) := by
  obtain ⟨cs, hrun, hsz, hcs⟩ := make_run ht he hi hz hk hzk hb h0 h1 w
  refine does_value (x := .slice (some ⟨w.heap.size, 0, none⟩) n.toNat n.toNat) (w' := w.alloc (.cells cs e)) ?_ ?_
  · unfold execOp
    simp only [ho, hX, hY, Sem.run_bind, hrun, Result.andThen_ok, Sem.run_pure]
  · have hnew := range_new (w := w) cs e (0, 0)
    obtain ⟨h1, h2, h3⟩ := alloc_imm hm (.cells cs e)
    refine ⟨_, mem, nx, _, φ, hK, Nat.le_refl _, ?_, h1, h2, h3, fun i _ _ hn => hn⟩
    simp only [Rep]
    exact .inr ⟨_, 0, n.toNat, k, by simp, by simp, .inr rfl, RepEs_zeros hzk hcs hsz hnew⟩

theorem mks_sound {t e : TypeId} {X Y : Operand} {g : Bool} {k : Nat} {inf : TypeInfo} {z : List Value} {n : Int} {o : Oper} (ho : o.op = .makeSlice t X Y) (ht : C.P.underlying t = some (.slice e)) (he : Program.tsz C.P e = some (g, k)) (hi : C.P.info? e = some inf)
    (hz : Program.zeroOf C.P e = some z) (hk : 0 < k) (hzk : z.length = k) (hb : 0 < inf.bytes) (hX : a.eval X = .int .i64 n) (hY : a.eval Y = .int .i64 n) (h0 : 0 ≤ n) (h1 : n * inf.bytes ≤ 2 ^ 47) (hm : MSim S φ mem nx w) (hid : φ id = none) (hlt : id < nx)
    (hK : K (.osl id 0 0 n.toNat) ((id, .arr 0 k (List.replicate n.toNat (z.map .pl))) :: mem) nx) : Does C.P o a w (Out S φ mem nx w id K) := by
  obtain ⟨cs, hrun, hsz, hcs⟩ := make_run ht he hi hz hk hzk hb h0 h1 w
  refine does_value (x := .slice (some ⟨w.heap.size, 0, none⟩) n.toNat n.toNat) (w' := w.alloc (.cells cs e)) ?_ ?_
  · unfold execOp
    simp only [ho, hX, hY, Sem.run_bind, hrun, Result.andThen_ok, Sem.run_pure]
  · have hnew := range_new (w := w) cs e (0, 0)
    obtain ⟨φ', h1, h2, h3, h4, h5⟩ := alloc_own (l := ⟨true, true, w.heap.size, 0, k, 0, n.toNat * k⟩) (blk := .arr 0 k (List.replicate n.toNat (z.map .pl))) hm (.cells cs e) hid hlt rfl rfl (by
      intro φ' _
      simp only [BRep]
      exact ⟨trivial, trivial, trivial, .inr ⟨trivial, ⟨cs, e, alloc_new _, hsz⟩, by simp, RepEs_zeros hzk hcs hsz hnew⟩⟩)
    refine ⟨_, _, nx, S, φ', hK, Nat.le_refl _, ?_, h2, h3, h4, fun i hi _ hn => by rw [h5 i hi]; exact hn⟩
    simp only [Rep]
    exact ⟨_, h1, Nat.le_refl _, ⟨_, _, _, rfl⟩, fun _ => .inr ⟨rfl, n.toNat, by simp, Nat.le_refl _, by simp⟩⟩
end
end Go.Fx

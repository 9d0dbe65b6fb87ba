/-
  Appends, slices of slices, calls.
-/
import Derived.Test.YtaiklblnfebdfaaX9
set_option linter.all false
namespace Go.Fx
open Go
section
variable {C : Cfg} {w w' : World} {S : Nat → Prop} {φ : Locs} {a : Act} {env tl : Env} {mem : Mem} {nx id : Nat} {K : KD}

theorem RepCs_flatten : ∀ (es : List (List D)) (k b o : Nat), RepEs w S φ es k b o → RepCs w S φ es.flatten b o ∧ es.flatten.length = es.length * k
  | [], k, b, o, _ => by simp [RepCs]
  | e :: es, k, b, o, h => by
    simp only [RepEs] at h
    obtain ⟨h1, h2⟩ := RepCs_flatten es k b (o + k) h.2.2
    simp only [List.flatten_cons, List.length_append, List.length_cons, Nat.succ_mul]
    exact ⟨RepCs_append _ _ _ _ h.2.1 (by rw [h.1]; exact h1), by rw [h2, h.1]; omega⟩

theorem RepEs_of_flat (k b : Nat) : ∀ (es : List (List D)) (o : Nat), (∀ e ∈ es, e.length = k) → RepCs w S φ es.flatten b o → RepEs w S φ es k b o
  | [], o, _, _ => by simp [RepEs]
  | e :: es, o, hk, h => by
    simp only [List.flatten_cons] at h
    simp only [RepEs]
    have he := hk e (by simp)
    have h1 := RepCs_take e.length _ b o h
    have h2 := RepCs_drop e.length _ b o h
    rw [List.take_left] at h1
    rw [List.drop_left, he] at h2
    exact ⟨he, h1, RepEs_of_flat k b es (o + k) (fun e h => hk e (by simp [h])) h2⟩

theorem RepEs_lens : ∀ (es : List (List D)) (k b o : Nat), RepEs w S φ es k b o → ∀ e ∈ es, e.length = k
  | [], k, b, o, _, e, he => by simp at he
  | x :: es, k, b, o, h, e, he => by
    simp only [RepEs] at h
    rcases List.mem_cons.1 he with rfl | he
    · exact h.1
    · exact RepEs_lens es k b (o + k) h.2.2 e he

theorem rangeAt_of_heap {w1 : World} (h : w1.heap = w.heap) {b o : Nat} {cs : List Value} (hr : w.rangeAt b o cs) : w1.rangeAt b o cs := by
  intro j v hj
  have := hr j v hj
  simp only [World.cell?, h] at this ⊢
  exact this

/-- The cells of a slice that lies at an address, read in any world with the same memory. -/
theorem firstCells_run {P : Program} {k n cap b o : Nat} {vs : List Value} {w1 : World} (h : w1.heap = w.heap) (hr : w.rangeAt b o vs) (hl : vs.length = n * k) :
    (Builtin.firstCells k n (.slice (some ⟨b, o, none⟩) n cap)).run P w1 = .ok vs.toArray w1 := by
  simp only [Builtin.firstCells, ← hl]
  exact run_loadCells_list (P := P) w1 ⟨b, o, none⟩ vs fun j v hv => by rw [Addr.add_mid]; exact rangeAt_of_heap h hr j v hv

theorem all_cells {es : List (List D)} (h : es.all (fun e => e.all D.cell) = true) : es.flatten.all D.cell = true := by
  rw [List.all_flatten]; exact h

theorem els_sound {k : Nat} {y : D} {new : List (List D)} {v : Value} (h : els mem k y = some new) (hy : Rep w S φ y v) (hm : MSim S φ mem nx w) :
    ∃ p c, v = .slice p new.length c ∧ ∃ ns : Array Value, (∀ w1 : World, w1.heap = w.heap → (Builtin.firstCells k new.length v).run C.P w1 = .ok ns w1) ∧ RepVs w S φ new.flatten ns.toList ∧ (∀ u ∈ ns.toList, u.oneCell' = true) ∧ ∀ e ∈ new, e.length = k := by
  cases y with
  | sl es =>
    simp only [els, Option.ite_none_right_eq_some, Option.some.injEq] at h
    obtain ⟨hall, rfl⟩ := h
    have hk : ∀ e ∈ es, e.length = k := fun e he => by have := List.all_eq_true.1 hall e he; simp at this; exact this.1
    have hc : es.flatten.all D.cell = true := all_cells (List.all_eq_true.2 fun e he => by have := List.all_eq_true.1 hall e he; simp only [Bool.and_eq_true] at this; exact this.2)
    simp only [Rep] at hy
    rcases hy with ⟨rfl, rfl | ⟨p, rfl⟩⟩ | ⟨b, o, cap, k', rfl, hcap, hS, hes⟩
    · exact ⟨none, 0, rfl, #[], fun w1 _ => rfl, by simp [RepVs], by simp, by simp⟩
    · exact ⟨some p, 0, rfl, #[], fun w1 _ => by simp [Builtin.firstCells, loadCells, loadCellsFrom], by simp [RepVs], by simp, by simp⟩
    · obtain ⟨hf, hfl⟩ := RepCs_flatten es k' b o hes
      obtain ⟨vs, hl, hrg, hvs⟩ := RepCs_vals _ b o hf
      have hlen : es.flatten.length = es.length * k := by
        clear hf hfl hl hvs hc hes hcap hall
        induction es with
        | nil => simp
        | cons e es ih =>
          simp only [List.flatten_cons, List.length_append, List.length_cons, Nat.succ_mul]
          rw [ih (fun e h => hk e (by simp [h])), hk e (by simp)]; omega
      refine ⟨_, _, rfl, vs.toArray, fun w1 h1 => firstCells_run h1 hrg (by rw [hl, hlen]), by simpa using hvs, ?_, hk⟩
      simpa using cells_one _ _ hvs hc
  | pl u =>
    simp only [Rep] at hy; subst hy
    cases v with
    | slice p n c =>
      cases p with
      | some _ => simp [els] at h
      | none =>
        cases n with
        | succ _ => simp [els] at h
        | zero =>
          cases c with
          | succ _ => simp [els] at h
          | zero =>
            simp only [els, Option.some.injEq] at h; subst h
            exact ⟨none, 0, rfl, #[], fun w1 _ => rfl, by simp [RepVs], by simp, by simp⟩
    | _ => simp [els] at h
  | zs =>
    simp only [els, Option.some.injEq] at h; subst h
    simp only [Rep] at hy
    rcases hy with rfl | ⟨p, rfl⟩
    · exact ⟨none, 0, rfl, #[], fun w1 _ => rfl, by simp [RepVs], by simp, by simp⟩
    · exact ⟨some p, 0, rfl, #[], fun w1 _ => by simp [Builtin.firstCells, loadCells, loadCellsFrom], by simp [RepVs], by simp, by simp⟩
  | osl i ver lo n =>
    simp only [els] at h
    split at h
    · rename_i v' k' es hl
      simp only [Option.ite_none_right_eq_some, Option.some.injEq] at h
      obtain ⟨⟨hv, hk', hln, hall⟩, rfl⟩ := h
      subst hv hk'
      obtain ⟨l, hφ, hS, hb⟩ := hm.mem i _ hl
      simp only [Rep] at hy
      obtain ⟨l', hφ', _, _, hx⟩ := hy
      rw [hφ] at hφ'; simp only [Option.some.injEq] at hφ'; subst hφ'
      simp only [BRep] at hb
      obtain ⟨ha, hver, hk, hb⟩ := hb
      have hlen : ((es.drop lo).take n).length = n := by simp; omega
      rw [hlen]
      rcases hx hver with ⟨hr, rfl, rfl, hz⟩ | ⟨hr, cap, rfl, hc1, hc2⟩
      · rcases hz with rfl | ⟨p, rfl⟩
        · exact ⟨none, 0, rfl, #[], fun w1 _ => rfl, by simp [RepVs], by simp, by simp⟩
        · exact ⟨some p, 0, rfl, #[], fun w1 _ => by simp [Builtin.firstCells, loadCells, loadCellsFrom], by simp [RepVs], by simp, by simp⟩
      · rcases hb with hb | ⟨_, ⟨c, t, hc, hcs⟩, hbd, hes⟩
        · simp [hb.1] at hr
        · have hes' := RepEs_take n _ _ _ _ (RepEs_drop lo es _ _ _ hes)
          obtain ⟨hf, hfl⟩ := RepCs_flatten _ _ _ _ hes'
          obtain ⟨vs, hvl, hrg, hvs⟩ := RepCs_vals _ _ _ hf
          have hcell : ((es.drop lo).take n).flatten.all D.cell = true := all_cells (List.all_eq_true.2 fun e he => List.all_eq_true.1 hall e (List.mem_of_mem_drop (List.mem_of_mem_take he)))
          refine ⟨_, _, rfl, vs.toArray, fun w1 h1 => firstCells_run h1 (by rw [hk]; exact hrg) (by rw [hvl, hfl, hlen]), by simpa using hvs, ?_, RepEs_lens _ _ _ _ hes'⟩
          simpa using cells_one _ _ hvs hcell
    · simp at h
  | _ => simp [els] at h

theorem growBy_le (n : Nat) : ∀ (r c : Nat), c ≤ n + (n + 768) / 4 → Builtin.growBy n r c ≤ n + (n + 768) / 4
  | 0, c, h => h
  | r + 1, c, h => by
    simp only [Builtin.growBy]
    split
    · exact h
    · exact growBy_le n r _ (by omega)

theorem nextcap_le {n c bytes : Nat} (h1 : c < n) (h2 : n * bytes ≤ 3 * 2 ^ 46) (h3 : bytes ≤ 2 ^ 20) : Builtin.nextslicecap n c * bytes ≤ 2 ^ 48 := by
  have hle : Builtin.nextslicecap n c ≤ n + (n + 768) / 4 + 512 := by
    unfold Builtin.nextslicecap
    split
    · omega
    · split
      · omega
      · have := growBy_le n 4 c (by omega); omega
  have h4 : Builtin.nextslicecap n c * bytes ≤ (n + (n + 768) / 4 + 512) * bytes := Nat.mul_le_mul_right _ hle
  have h5 : 4 * ((n + (n + 768) / 4 + 512) * bytes) ≤ (5 * n + 2816) * bytes := by
    rw [← Nat.mul_assoc]
    exact Nat.mul_le_mul_right _ (by omega)
  have h6 : (5 * n + 2816) * bytes = 5 * (n * bytes) + 2816 * bytes := by rw [Nat.add_mul, Nat.mul_assoc]
  omega

theorem MSim.of_heap {w1 : World} (h : w1.heap = w.heap) (hos : w1.os = w.os) (hout : w1.output = w.output) (htp : w1.tape = w.tape) (hm : MSim S φ mem nx w) :
    MSim S φ mem nx w1 ∧ Stays w S φ w1 S φ ∧ Ext S φ mem w S φ mem w1 := by
  have hst : Stays w S φ w1 S φ := Stays.of_heap (fun b h => h) (fun b _ => by rw [h]) (fun _ _ h => h)
  refine ⟨⟨fun i blk hi => ?_, hm.inj, fun i l h1 hr => by rw [h]; exact hm.lt i l h1 hr, hm.fresh, fun b hb => by rw [h]; exact hm.sub b hb⟩, hst,
    ⟨fun b h => h, fun b _ _ => by rw [h], by rw [h]; exact Nat.le_refl _, fun b _ h => h, fun b h => .inl h, hos, hout, htp⟩⟩
  obtain ⟨l, h1, h2, h3⟩ := hm.mem i blk hi
  exact ⟨l, h1, h2, h3.mono hst fun _ => by rw [h]⟩

theorem run_typeInfo {P : Program} {t : TypeId} {i : TypeInfo} (h : P.info? t = some i) (w : World) : (typeInfo t).run P w = .ok i w := by
  simp [typeInfo, h]

/-- What an append comes to that has no room: a new block. -/
theorem append_new {P : Program} {st xt e k n cap m : Nat} {ts : Array TypeId} {ty : TypeId} {inf : TypeInfo} {z : List Value} {p q : Option Addr} {c2 : Nat} {os ns : Array Value} (hts : ts[0]? = some st) (hxs : ts[1]? = some xt) (hst : P.underlying st = some (.slice e)) {e2 : TypeId} (hxt : P.underlying xt = some (.slice e2))
    (hi : P.info? e = some inf) (hsz : inf.size = k) (hz : Program.zeroOf P e = some z) (hzk : z.length = k) (hb0 : 0 < inf.bytes) (hb1 : inf.bytes ≤ 2 ^ 20) (hnr : cap < n + m) (hbd : (n + m) * inf.bytes ≤ 3 * 2 ^ 46)
    (hold : ∀ w1 : World, w1.heap = w.heap → (Builtin.firstCells k n (.slice p n cap)).run P w1 = .ok os w1) (hnew : ∀ w1 : World, w1.heap = w.heap → (Builtin.firstCells k m (.slice q m c2)).run P w1 = .ok ns w1) :
    ∃ (newCap : Nat) (w1 : World) (rest : Array Value), n + m ≤ newCap ∧ w1.heap = w.heap ∧ w1.os = w.os ∧ w1.output = w.output ∧ w1.tape = w.tape ∧ rest.size = (newCap - (n + m)) * k ∧
      (Builtin.append_ ts ty #[.slice p n cap, .slice q m c2]).run P w = .ok (.slice (some ⟨w1.heap.size, 0, none⟩) (n + m) newCap) (w1.alloc (.cells (os ++ ns ++ rest) e)) := by
  let w1 : World := { w with drawn := w.drawn + 1 }
  obtain ⟨v, hv, hvz⟩ := zero_out hz w1
  let newCap := (Question.appendCap (n + m) cap e).cut (w.tape w.drawn (.appendCap (n + m) cap e))
  refine ⟨newCap, w1, Builtin.zeroCells v.cells (newCap - (n + m)), by simp [newCap, Question.cut], rfl, rfl, rfl, rfl, ?_, ?_⟩
  · have : v.cells.size = k := by rw [← Array.length_toList, hvz, hzk]
    simp [Builtin.zeroCells, this]
  · have hlt : ¬ ((n + m : Int) > IntKind.i64.max ∧ (false = true ∨ inf.bytes = 0)) := by simp; omega
    have hcap := nextcap_le hnr hbd hb1
    have g1 : ¬ (n + m ≤ cap) := by omega
    have g2 : ¬ (Builtin.nextslicecap (n + m) cap * inf.bytes > 2 ^ 48) := by omega
    have g3 : ¬ inf.bytes = 0 := by omega
    have d1 := hold w1 rfl
    have d2 := hnew w1 rfl
    simp only [Builtin.append_, List.getElem?_toArray, hts, hxs, Sem.run_bind, run_underlying hst, run_underlying hxt, Result.andThen_ok, run_sizeOf hi, hsz, Sem.run_pure, List.getElem?_cons_zero, List.getElem?_cons_succ]
    simp only [Bool.false_eq_true, if_false, Builtin.lenOf, Sem.run_bind, Sem.run_pure, Result.andThen_ok, g1, run_typeInfo hi, Bool.not_false, if_true]
    rw [if_neg (by simp; omega)]
    simp only [Sem.run_bind, run_typeInfo hi, Result.andThen_ok]
    rw [if_neg g2]
    have hch : (choose (.appendCap (n + m) cap e)).run P w = .ok newCap w1 := by
      rw [run_choose, if_neg (by simp [Question.forced])]
    simp only [Sem.run_bind, hch, Result.andThen_ok, run_typeInfo hi, run_askRoom, d1, d2, hv, Sem.run_pure, newRow, run_newObj]
    rfl

/-- An append that has room: in place. -/
theorem append_room {P : Program} {st xt e k n cap m : Nat} {ts : Array TypeId} {ty : TypeId} {inf : TypeInfo} {b o : Nat} {q : Option Addr} {c2 : Nat} {ns : Array Value} (hts : ts[0]? = some st) (hxs : ts[1]? = some xt) (hst : P.underlying st = some (.slice e)) {e2 : TypeId} (hxt : P.underlying xt = some (.slice e2))
    (hi : P.info? e = some inf) (hsz : inf.size = k) (hr : n + m ≤ cap) (hnew : (Builtin.firstCells k m (.slice q m c2)).run P w = .ok ns w) (ht : w.there b (o + n * k) ns.toList.length) (h1 : ∀ u ∈ ns.toList, u.oneCell' = true) :
    (Builtin.append_ ts ty #[.slice (some ⟨b, o, none⟩) n cap, .slice q m c2]).run P w = .ok (.slice (some ⟨b, o, none⟩) (n + m) cap) (w.setCells b (o + n * k) ns.toList) := by
  simp only [Builtin.append_, List.getElem?_toArray, hts, hxs, Sem.run_bind, run_underlying hst, run_underlying hxt, Result.andThen_ok, run_sizeOf hi, hsz, Sem.run_pure, List.getElem?_cons_zero, List.getElem?_cons_succ]
  simp only [Bool.false_eq_true, if_false, Builtin.lenOf, Sem.run_bind, Sem.run_pure, Result.andThen_ok, hr, Bool.not_false, if_true, hnew, Addr.add_mid]
  have := run_storeCells_cells (P := P) b (o + n * k) ns.toList 0 w (fun j hj => by simpa using (ht j hj).1) (fun j hj => by simpa using (ht j hj).2) h1
  simp only [Nat.add_zero] at this
  rw [this]; rfl

/-- An append of nothing to a slice without room. -/
theorem append_none {P : Program} {st xt e k : Nat} {ts : Array TypeId} {ty : TypeId} {inf : TypeInfo} {p q : Option Addr} {c2 : Nat} {ns : Array Value} (hts : ts[0]? = some st) (hxs : ts[1]? = some xt) (hst : P.underlying st = some (.slice e)) {e2 : TypeId} (hxt : P.underlying xt = some (.slice e2))
    (hi : P.info? e = some inf) (hsz : inf.size = k) (hnew : (Builtin.firstCells k 0 (.slice q 0 c2)).run P w = .ok ns w) (hn : ns = #[]) :
    (Builtin.append_ ts ty #[.slice p 0 0, .slice q 0 c2]).run P w = .ok (.slice p 0 0) w := by
  subst hn
  simp only [Builtin.append_, List.getElem?_toArray, hts, hxs, Sem.run_bind, run_underlying hst, run_underlying hxt, Result.andThen_ok, run_sizeOf hi, hsz, Sem.run_pure, List.getElem?_cons_zero, List.getElem?_cons_succ]
  simp only [Bool.false_eq_true, if_false, Builtin.lenOf, Sem.run_bind, Sem.run_pure, Result.andThen_ok, Nat.add_zero, Nat.le_refl, Bool.not_false, if_true, hnew]
  cases p <;> simp [storeCells]

theorem zs_slice {x : Value} (h : Zs S x) : ∃ p, x = .slice p 0 0 := by
  rcases h with rfl | ⟨p, rfl⟩
  · exact ⟨none, rfl⟩
  · exact ⟨_, rfl⟩

theorem roomless_zs {d : D} {x : Value} (h : d.roomless = true) (hr : Rep w S φ d x) : Zs S x := by
  cases d with
  | zs => simpa [Rep] using hr
  | pl u =>
    simp only [Rep] at hr; subst hr
    cases x with
    | slice p n c => cases p <;> cases n <;> cases c <;> simp [D.roomless] at h; exact .inl rfl
    | _ => simp [D.roomless] at h
  | _ => simp [D.roomless] at h

theorem rangeAt_app {b o : Nat} {xs ys : List Value} (h : w.rangeAt b o (xs ++ ys)) : w.rangeAt b o xs ∧ w.rangeAt b (o + xs.length) ys := by
  constructor
  · intro j v hj
    exact h j v (by rw [List.getElem?_append_left (List.getElem?_eq_some_iff.1 hj).1]; exact hj)
  · intro j v hj
    have := h (xs.length + j) v (by rw [List.getElem?_append_right (by omega), Nat.add_sub_cancel_left]; exact hj)
    rwa [← Nat.add_assoc] at this

structure App (P : Program) (k : Nat) (ts : Array TypeId) (e : TypeId) (inf : TypeInfo) (z : List Value) : Prop where
  t0 : ∃ st, ts[0]? = some st ∧ P.underlying st = some (.slice e)
  t1 : ∃ xt e2, ts[1]? = some xt ∧ P.underlying xt = some (.slice e2)
  hinf : P.info? e = some inf
  size : inf.size = k
  zero : Program.zeroOf P e = some z
  kpos : 0 < k
  zlen : z.length = k
  bpos : 0 < inf.bytes
  bmax : inf.bytes ≤ 2 ^ 20

theorem apn_sound {k : Nat} {ts : Array TypeId} {e ty : TypeId} {inf : TypeInfo} {z : List Value} {x y d : D} {u v : Value} {m : Mem} (hA : App C.P k ts e inf z) (h : apnM id mem k inf.bytes (some x) (some y) = some (d, m)) (hx : Rep w S φ x u) (hy : Rep w S φ y v)
    (hm : MSim S φ mem nx w) (hid : φ id = none) (hlt : id < nx) (hk : K d m nx) : ∃ r w', (Builtin.append_ ts ty #[u, v]).run C.P w = .ok r w' ∧ Out S φ mem nx w id K r w' := by
  simp only [apnM, Option.ite_none_right_eq_some] at h
  obtain ⟨hrl, h⟩ := h
  split at h
  · rename_i es hes
    simp only [Option.ite_none_right_eq_some, Option.some.injEq, Prod.mk.injEq] at h
    obtain ⟨hbd, rfl, rfl⟩ := h
    have hz := roomless_zs hrl hx
    obtain ⟨p, rfl⟩ := zs_slice hz
    obtain ⟨q, c2, rfl, ns, hns, hnv, hn1, hek⟩ := els_sound hes hy hm
    obtain ⟨st, hst0, hst⟩ := hA.t0
    obtain ⟨xt, e2, hxt0, hxt⟩ := hA.t1
    have hnl := RepVs_length _ _ hnv
    cases es with
    | nil =>
      have hn0 : ns = #[] := by simpa using hnl
      refine ⟨_, _, append_none hst0 hxt0 hst hxt hA.hinf hA.size (hns w rfl) hn0, ?_⟩
      obtain ⟨φ', h1, h2, h3, h4, h5⟩ := own_nil hm hid hlt k
      refine ⟨_, _, nx, S, φ', hk, Nat.le_refl _, ?_, h2, h3, h4, fun i hi _ hn => by rw [h5 i hi]; exact hn⟩
      simp only [Rep]
      exact ⟨_, h1, Nat.le_refl _, ⟨_, _, _, rfl⟩, fun _ => .inl ⟨rfl, trivial, rfl, hz⟩⟩
    | cons e0 es0 =>
      obtain ⟨newCap, w1, rest, g1, g2, g3, g4, g5, g6, hrun⟩ := append_new (w := w) (n := 0) (cap := 0) (m := (e0 :: es0).length) (p := p) (q := q) (c2 := c2) (ty := ty) (os := #[]) (ns := ns) hst0 hxt0 hst hxt hA.hinf hA.size hA.zero hA.zlen hA.bpos hA.bmax (by simp) (by simpa using hbd)
        (fun w1 _ => by cases p <;> simp [Builtin.firstCells, loadCells, loadCellsFrom]) (fun w1 h => hns w1 h)
      refine ⟨_, _, hrun, ?_⟩
      obtain ⟨m1, m2, m3⟩ := MSim.of_heap g2 g3 g4 g5 hm
      have hnew := range_new (w := w1) (#[] ++ ns ++ rest) e (0, 0)
      have hfl : (e0 :: es0).flatten.length = (e0 :: es0).length * k := by
        have : ∀ l : List (List D), (∀ e ∈ l, e.length = k) → l.flatten.length = l.length * k := by
          intro l hl
          induction l with
          | nil => simp
          | cons a l ih => simp only [List.flatten_cons, List.length_append, List.length_cons, Nat.succ_mul]; rw [ih (fun e h => hl e (by simp [h])), hl a (by simp)]; omega
        exact this _ hek
      have hsz : (#[] ++ ns ++ rest : Array Value).size = newCap * k := by
        have e1 : ns.size = (e0 :: es0).length * k := by rw [← Array.length_toList, hnl, hfl]
        simp only [Array.size_append, Array.size_empty, e1, g6, Nat.zero_add]
        rw [← Nat.add_mul]; congr 1; omega
      obtain ⟨φ', h1, h2, h3, h4, h5⟩ := alloc_own (l := ⟨true, true, w1.heap.size, 0, k, 0, newCap * k⟩) (blk := .arr 0 k (e0 :: es0)) m1 (.cells (#[] ++ ns ++ rest) e) hid hlt rfl rfl (by
        intro φ' hst'
        simp only [BRep]
        refine ⟨trivial, trivial, trivial, .inr ⟨trivial, ⟨_, e, alloc_new _, hsz⟩, ?_, RepEs_of_flat _ _ _ _ hek (RepCs_of_vals _ ns.toList _ _ (RepVs.mono (m2.trans hst') _ _ hnv) ?_)⟩⟩
        · rw [Nat.zero_add]; exact Nat.mul_le_mul_right k (by omega)
        · have := hnew
          simp only [Array.toList_append, Array.toList_empty, List.nil_append] at this
          exact (rangeAt_app this).1)
      refine ⟨_, _, nx, S, φ', hk, Nat.le_refl _, ?_, h2, m2.trans h3, m3.trans h4, fun i hi _ hn => by rw [h5 i hi]; exact hn⟩
      simp only [Rep]
      refine ⟨_, h1, Nat.le_refl _, ⟨_, _, _, rfl⟩, fun _ => .inr ⟨rfl, newCap, by simp, by omega, by simp⟩⟩
  · simp at h

theorem flatten_len {k : Nat} : ∀ l : List (List D), (∀ e ∈ l, e.length = k) → l.flatten.length = l.length * k := by
  intro l hl
  induction l with
  | nil => simp
  | cons a l ih => simp only [List.flatten_cons, List.length_append, List.length_cons, Nat.succ_mul]; rw [ih (fun e h => hl e (by simp [h])), hl a (by simp)]; omega

theorem app_sound {k : Nat} {ts : Array TypeId} {e ty : TypeId} {inf : TypeInfo} {z : List Value} {x y d : D} {u v : Value} {m : Mem} (hA : App C.P k ts e inf z) (h : appM id mem k inf.bytes (some x) (some y) = some (d, m)) (hx : Rep w S φ x u) (hy : Rep w S φ y v)
    (hm : MSim S φ mem nx w) (hid : φ id = none) (hlt : id < nx) (hk : K d m nx) : ∃ r w', (Builtin.append_ ts ty #[u, v]).run C.P w = .ok r w' ∧ Out S φ mem nx w id K r w' := by
  unfold appM at h
  split at h
  · rename_i i ver lo n y' hx' hy'
    simp only [Option.some.injEq] at hx' hy'
    subst hx' hy'
    split at h
    · rename_i v' k' es new hl hes
      simp only [Option.ite_none_right_eq_some, Option.some.injEq, Prod.mk.injEq] at h
      obtain ⟨⟨hv, hk', hln, hbd⟩, rfl, rfl⟩ := h
      subst hv hk'
      obtain ⟨st, hst0, hst⟩ := hA.t0
      obtain ⟨xt, e2, hxt0, hxt⟩ := hA.t1
      obtain ⟨q, c2, rfl, ns, hns, hnv, hn1, hek⟩ := els_sound hes hy hm
      have hnl := RepVs_length _ _ hnv
      have hnsz : ns.toList.length = new.length * k' := by rw [hnl, flatten_len new hek]
      obtain ⟨l, hφ, hS, hb⟩ := hm.mem i _ hl
      simp only [Rep] at hx
      obtain ⟨l0, hφ0, _, _, hx⟩ := hx
      rw [hφ] at hφ0; simp only [Option.some.injEq] at hφ0; subst hφ0
      have hb0 := hb
      simp only [BRep] at hb
      obtain ⟨ha, hver, hkk, hb⟩ := hb
      have hsub : ((es.drop lo).take n).length = n := by simp; omega
      have hne : ∀ i' : Nat, i' ≠ id → i' < nx → φ i' = none → i' ≠ i := by rintro i' _ _ h rfl; rw [hφ] at h; simp at h
      rcases hx hver with ⟨hr, rfl, rfl, hzs⟩ | ⟨hr, cap, rfl, hc1, hc2⟩
      · -- a slice without a block
        have hes0 : es = [] := by rcases hb with hb | hb; exact hb.2; simp [hr] at hb
        subst hes0
        obtain ⟨p, rfl⟩ := zs_slice hzs
        cases new with
        | nil =>
          have hn0 : ns = #[] := by simpa using hnsz
          refine ⟨_, _, append_none hst0 hxt0 hst hxt hA.hinf hA.size (hns w rfl) hn0, ?_⟩
          obtain ⟨φ', h1, h2, h3, h4, h5⟩ := bump_own (l' := { l with ver := v' + 1 }) (blk := .arr (v' + 1) k' ((([] : List (List D)).drop 0).take 0 ++ [])) (w' := w) hm hφ ha ha (by rw [hver]; exact Nat.lt_succ_self _) hl rfl rfl (fun _ _ => rfl) rfl rfl rfl rfl (by
            intro φ' _ _
            simp only [BRep]
            exact ⟨ha, trivial, hkk, .inl ⟨hr, by simp⟩⟩)
          refine ⟨_, _, nx, S, φ', hk, Nat.le_refl _, ?_, h2, h3, h4, fun i' g1 g2 g3 => by rw [h5 i' (hne i' g1 g2 g3)]; exact g3⟩
          simp only [Rep]
          exact ⟨_, h1, Nat.le_refl _, ⟨_, _, _, rfl⟩, fun _ => .inl ⟨hr, trivial, rfl, hzs⟩⟩
        | cons e0 es0 =>
          obtain ⟨newCap, w1, rest, g1, g2, g3, g4, g5, g6, hrun⟩ := append_new (w := w) (n := 0) (cap := 0) (m := (e0 :: es0).length) (p := p) (q := q) (c2 := c2) (ty := ty) (os := #[]) (ns := ns) hst0 hxt0 hst hxt hA.hinf hA.size hA.zero hA.zlen hA.bpos hA.bmax (by simp) (by simpa using hbd)
            (fun w1 _ => by cases p <;> simp [Builtin.firstCells, loadCells, loadCellsFrom]) (fun w1 h => hns w1 h)
          refine ⟨_, _, hrun, ?_⟩
          obtain ⟨m1, m2, m3⟩ := MSim.of_heap g2 g3 g4 g5 hm
          have hnew := range_new (w := w1) (#[] ++ ns ++ rest) e (0, 0)
          have hsz : (#[] ++ ns ++ rest : Array Value).size = newCap * k' := by
            have e1 : ns.size = (e0 :: es0).length * k' := by rw [← Array.length_toList, hnsz]
            simp only [Array.size_append, Array.size_empty, e1, g6, Nat.zero_add]
            rw [← Nat.add_mul]; congr 1; omega
          obtain ⟨φ', h1, h2, h3, h4, h5⟩ := move_own (l' := ⟨true, true, w1.heap.size, 0, k', v' + 1, newCap * k'⟩) (blk := .arr (v' + 1) k' ((([] : List (List D)).drop 0).take 0 ++ (e0 :: es0))) m1 hφ ha rfl (by rw [hver]; exact Nat.lt_succ_self _) hl (.cells (#[] ++ ns ++ rest) e) rfl rfl (by
            intro φ' _ hst'
            simp only [BRep]
            refine ⟨trivial, trivial, trivial, .inr ⟨trivial, ⟨_, e, alloc_new _, hsz⟩, ?_, ?_⟩⟩
            · simp only [List.drop_nil, List.take_nil, List.nil_append, Nat.zero_add]; exact Nat.mul_le_mul_right k' (by omega)
            · simp only [List.drop_nil, List.take_nil, List.nil_append]
              refine RepEs_of_flat _ _ _ _ hek (RepCs_of_vals _ ns.toList _ _ (RepVs.mono (m2.trans hst') _ _ hnv) ?_)
              have := hnew
              simp only [Array.toList_append, Array.toList_empty, List.nil_append] at this
              exact (rangeAt_app this).1)
          refine ⟨_, _, nx, S, φ', hk, Nat.le_refl _, ?_, h2, m2.trans h3, m3.trans h4, fun i' q1 q2 q3 => by rw [h5 i' (hne i' q1 q2 q3)]; exact q3⟩
          simp only [Rep]
          refine ⟨_, h1, Nat.le_refl _, ⟨_, _, _, rfl⟩, fun _ => .inr ⟨rfl, newCap, by simp, by omega, by simp⟩⟩
      · -- a slice of a block
        rcases hb with hb | ⟨_, ⟨c, t, hc, hcs⟩, hbd2, hes2⟩
        · simp [hb.1] at hr
        have hbase : l.base + lo * l.k = l.base + lo * k' := by rw [hkk]
        have hc2' : l.base + (lo + cap) * k' ≤ l.size := by rw [← hkk]; exact hc2
        have hold := RepEs_take n _ _ _ _ (RepEs_drop lo es _ _ _ hes2)
        by_cases hroom : n + new.length ≤ cap
        · -- in place
          have hin : l.base + lo * k' + n * k' + new.length * k' ≤ l.size := by
            have e1 : (lo + (n + new.length)) * k' ≤ (lo + cap) * k' := Nat.mul_le_mul_right k' (by omega)
            rw [Nat.add_mul, Nat.add_mul] at e1; omega
          have hth : w.there l.b (l.base + lo * k' + n * k') ns.toList.length := there_of_block hc (by rw [hnsz, hcs]; exact hin)
          have hrun := append_room (w := w) (b := l.b) (o := l.base + lo * k') (n := n) (cap := cap) (m := new.length) (q := q) (c2 := c2) (ty := ty) (ns := ns) hst0 hxt0 hst hxt hA.hinf hA.size hroom (hns w rfl) hth hn1
          rw [hbase]
          refine ⟨_, _, hrun, ?_⟩
          obtain ⟨f1, f2, f3, f4, f5, f6⟩ := setCells_facts l.b ns.toList (l.base + lo * k' + n * k') w
          obtain ⟨c', hc', hs'⟩ := f6 _ _ _ hc
          obtain ⟨φ', h1, h2, h3, h4, h5⟩ := bump_own (l' := { l with ver := v' + 1, base := l.base + lo * k' }) (blk := .arr (v' + 1) k' ((es.drop lo).take n ++ new)) (w' := w.setCells l.b (l.base + lo * k' + n * k') ns.toList) hm hφ ha ha (by rw [hver]; exact Nat.lt_succ_self _) hl rfl rfl (fun b hb => f1 b (hb hr)) f2 f3 f4 f5 (by
            intro φ' _ hst'
            simp only [BRep]
            refine ⟨ha, trivial, hkk, .inr ⟨hr, ⟨c', t, hc', by rw [hs', hcs]⟩, ?_, ?_⟩⟩
            · rw [List.length_append, hsub, Nat.add_mul]; omega
            · refine RepEs_append _ _ _ _ _ ?_ ?_
              · refine RepEs_of_get _ _ _ _ fun j e' he' => ?_
                obtain ⟨q1, q2⟩ := RepEs_get _ _ _ _ _ _ hold he'
                have hj : j < n := by have := (List.getElem?_eq_some_iff.1 he').1; omega
                refine ⟨q1, RepCs_of_get _ _ _ fun m' d hd => ?_⟩
                have hm' : m' < e'.length := (List.getElem?_eq_some_iff.1 hd).1
                obtain ⟨x, hx, hr'⟩ := RepCs_get _ _ _ _ _ q2 hd
                refine ⟨x, ?_, Rep.mono hst' _ _ hr'⟩
                have e1 : (j + 1) * k' ≤ n * k' := Nat.mul_le_mul_right k' hj
                rw [Nat.succ_mul] at e1
                rw [World.cell?_setCells_out _ _ _ _ _ (fun _ _ => .inl (by show l.base + lo * k' + j * k' + m' < l.base + lo * k' + n * k'; omega))]; exact hx
              · rw [hsub]
                refine RepEs_of_flat _ _ _ _ hek (RepCs_of_vals _ ns.toList _ _ (RepVs.mono hst' _ _ hnv) ?_)
                exact World.rangeAt_setCells_same _ _ _ _ hth)
          refine ⟨_, _, nx, S, φ', hk, Nat.le_refl _, ?_, h2, h3, h4, fun i' q1 q2 q3 => by rw [h5 i' (hne i' q1 q2 q3)]; exact q3⟩
          simp only [Rep]
          refine ⟨_, h1, Nat.le_refl _, ⟨_, _, _, rfl⟩, fun _ => .inr ⟨hr, cap, by simp, hroom, ?_⟩⟩
          show l.base + lo * k' + (0 + cap) * l.k ≤ l.size
          rw [hkk, Nat.zero_add]
          rw [Nat.add_mul] at hc2'; omega
        · -- a new block
          obtain ⟨vs, hvl, hrg, hvs⟩ := RepCs_vals _ _ _ (RepCs_flatten _ _ _ _ hold).1
          have hvl2 : vs.length = n * k' := by rw [hvl, (RepCs_flatten _ _ _ _ hold).2, hsub]
          obtain ⟨newCap, w1, rest, g1, g2, g3, g4, g5, g6, hrun⟩ := append_new (w := w) (n := n) (cap := cap) (m := new.length) (p := some ⟨l.b, l.base + lo * k', none⟩) (q := q) (c2 := c2) (ty := ty) (os := vs.toArray) (ns := ns) hst0 hxt0 hst hxt hA.hinf hA.size hA.zero hA.zlen hA.bpos hA.bmax (by omega) hbd
            (fun w1 h => firstCells_run h hrg hvl2) (fun w1 h => hns w1 h)
          rw [hbase]
          refine ⟨_, _, hrun, ?_⟩
          obtain ⟨m1, m2, m3⟩ := MSim.of_heap g2 g3 g4 g5 hm
          have hnew := range_new (w := w1) (vs.toArray ++ ns ++ rest) e (0, 0)
          have hsz : (vs.toArray ++ ns ++ rest : Array Value).size = newCap * k' := by
            have e1 : ns.size = new.length * k' := by rw [← Array.length_toList, hnsz]
            simp only [Array.size_append, List.size_toArray, hvl2, e1, g6]
            rw [← Nat.add_mul, ← Nat.add_mul]; congr 1; omega
          obtain ⟨φ', h1, h2, h3, h4, h5⟩ := move_own (l' := ⟨true, true, w1.heap.size, 0, k', v' + 1, newCap * k'⟩) (blk := .arr (v' + 1) k' ((es.drop lo).take n ++ new)) m1 hφ ha rfl (by rw [hver]; exact Nat.lt_succ_self _) hl (.cells (vs.toArray ++ ns ++ rest) e) rfl rfl (by
            intro φ' _ hst'
            simp only [BRep]
            refine ⟨trivial, trivial, trivial, .inr ⟨trivial, ⟨_, e, alloc_new _, hsz⟩, ?_, ?_⟩⟩
            · rw [List.length_append, hsub, Nat.zero_add]; exact Nat.mul_le_mul_right k' (by omega)
            · have hn' := hnew
              simp only [Array.toList_append] at hn'
              obtain ⟨r1, _⟩ := rangeAt_app hn'
              refine RepEs_of_flat _ _ _ _ (fun e' he' => ?_) (RepCs_of_vals _ (vs ++ ns.toList) _ _ ?_ r1)
              · rcases List.mem_append.1 he' with he' | he'
                · exact RepEs_lens _ _ _ _ hold e' he'
                · exact hek e' he'
              · rw [List.flatten_append]
                exact RepVs_append _ _ _ _ (RepVs.mono (m2.trans hst') _ _ hvs) (RepVs.mono (m2.trans hst') _ _ hnv))
          refine ⟨_, _, nx, S, φ', hk, Nat.le_refl _, ?_, h2, m2.trans h3, m3.trans h4, fun i' q1 q2 q3 => by rw [h5 i' (hne i' q1 q2 q3)]; exact q3⟩
          simp only [Rep]
          refine ⟨_, h1, Nat.le_refl _, ⟨_, _, _, rfl⟩, fun _ => .inr ⟨rfl, newCap, by simp, by omega, by simp⟩⟩
    · simp at h
  · exact apn_sound hA h hx hy hm hid hlt hk
end
end Go.Fx

/-
  What an argument reads as, as a deep value: by its type's shape.
-/
import Derived.Test.YtaiklblnfebdfaaX17
import Derived.ChangeOld
import Derived.ChangeBears
import Derived.Handed
import Derived.DataReads
import Derived.OpenShut
set_option linter.all false
namespace Go.Fx
open Go

def WtS (R : TypeId → List D → Prop) : List TypeId → List D → Prop
  | [], ds => ds = []
  | t :: ts, ds => ∃ c r, ds = c ++ r ∧ R t c ∧ WtS R ts r

/-- The cells of a value of type t, as deep values. -/
def Wt (P : Program) : Nat → TypeId → List D → Prop
  | 0, _, _ => False
  | n + 1, t, ds => match P.underlying t with
    | some .bool => ∃ b, ds = [.pl (.bool b)]
    | some (.int k) => ∃ x, ds = [.pl (.int k x)] ∧ (Lit.int k x).wf = true
    | some (.float k) => ∃ b, ds = [.pl (.float k b)] ∧ (Lit.float k b).wf = true
    | some .string => ∃ s, ds = [.pl (.string s)] ∧ s.size ≤ reachBytes
    | some (.pointer e) => ds = [.pl (.pointer none)] ∨ ∃ cs, ds = [.pt cs] ∧ Wt P n e cs
    | some (.slice e) => ∃ es : List (List D), ds = [.sl es] ∧ es.length * P.bytesOf e ≤ reachBytes ∧ ∀ c ∈ es, Wt P n e c
    | some (.struct fs) => WtS (Wt P n) (fs.toList.map (·.type)) ds
    | some (.array m e) => WtS (Wt P n) (List.replicate m e) ds
    | _ => ds = [.top]

section
variable {H : Type} {enc : TypeId × Value → H} {P : Program} {w : World} {S : Nat → Prop} {φ : Locs}

theorem cells?_out {base n : Nat} {a : Addr} {cs : List Value} (h : w.cells? base a n = some cs) : cs.length = n ∧ ∀ i, i < n → w.cell? (a.add i) = cs[i]? := by
  unfold World.cells? at h
  split at h
  · exact ⟨by simpa using mapM_some_length h, fun i hi => mapM_some_get h i i (by simp [hi])⟩
  · simp at h

theorem cell?_lt {a : Addr} {v : Value} (h : w.cell? a = some v) : a.block < w.heap.size ∧ a.spot = none := by
  unfold World.cell? at h
  split at h
  · rename_i c _ _ hc
    split at h
    · simp at h
    · rename_i hs
      exact ⟨(Array.getElem?_eq_some_iff.1 hc).1, by simpa using hs⟩
  · simp at h

theorem RepCs_of {b : Nat} : ∀ (ds : List D) (cs : List Value) (o : Nat), RepVs w S φ ds cs → (∀ i, i < cs.length → w.cell? ⟨b, o + i, none⟩ = cs[i]?) → RepCs w S φ ds b o
  | [], cs, o, _, _ => by simp [RepCs]
  | d :: ds, cs, o, h, hc => by
    simp only [RepVs] at h
    obtain ⟨x, r, rfl, h1, h2⟩ := h
    simp only [RepCs]
    exact ⟨⟨x, by simpa using hc 0 (by simp), h1⟩, RepCs_of ds r (o + 1) h2 fun i hi => by
      have := hc (i + 1) (by simpa using hi)
      rw [show o + (i + 1) = o + 1 + i by omega] at this
      simpa using this⟩

theorem RepVs_app : ∀ (ds es : List D) (xs ys : List Value), RepVs w S φ ds xs → RepVs w S φ es ys → RepVs w S φ (ds ++ es) (xs ++ ys)
  | [], es, xs, ys, h, k => by simp only [RepVs] at h; subst h; simpa using k
  | d :: ds, es, xs, ys, h, k => by
    simp only [RepVs, List.cons_append] at h ⊢
    obtain ⟨x, r, rfl, h1, h2⟩ := h
    exact ⟨x, r ++ ys, rfl, h1, RepVs_app ds es r ys h2 k⟩

/-- Cells that follow one another, part by part. -/
theorem parts_read {T : TypeId → Prop} {R : TypeId → List D → Prop} {W : TypeId → DataW H → Prop} {rd : TypeId → List Value → Option (DataW H × List MemPlace)}
    (ih : ∀ (t : TypeId) (cs : List Value) (x : DataW H × List MemPlace), rd t cs = some x → W t x.1 → T t → ∃ ds, R t ds ∧ RepVs w S φ ds cs) :
    ∀ (ts : List TypeId) (xs : List (DataW H × List MemPlace)) (cs : List Value), xs.length = ts.length → cs.length = (ts.map P.cellsOf).sum → (∀ t ∈ ts, T t) →
      (∀ (i : Nat) (t : TypeId) (x : DataW H × List MemPlace), ts[i]? = some t → xs[i]? = some x → W t x.1) →
      (∀ (i : Nat) (t : TypeId), ts[i]? = some t → rd t ((cs.drop ((ts.take i).map P.cellsOf).sum).take (P.cellsOf t)) = xs[i]?) → ∃ ds, WtS R ts ds ∧ RepVs w S φ ds cs
  | [], xs, cs, _, hl, _, _, _ => ⟨[], rfl, by
      simp only [List.map_nil, List.sum_nil] at hl
      simp [RepVs, List.eq_nil_of_length_eq_zero hl]⟩
  | t :: ts, [], cs, hx, _, _, _, _ => by simp at hx
  | t :: ts, x :: xs, cs, hx, hl, hv, hw, h => by
    have h0 := h 0 t rfl
    simp only [List.take_zero, List.map_nil, List.sum_nil, List.drop_zero, List.getElem?_cons_zero] at h0
    obtain ⟨c, hc, hr⟩ := ih _ _ _ h0 (hw 0 t x rfl rfl) (hv t (by simp))
    obtain ⟨r, hr1, hr2⟩ := parts_read ih ts xs (cs.drop (P.cellsOf t)) (by simpa using hx) (by simp at hl ⊢; omega) (fun u hu => hv u (by simp [hu])) (fun i u x h1 h2 => hw (i + 1) u x (by simpa using h1) (by simpa using h2)) (fun i u hu => by
      have := h (i + 1) u (by simpa using hu)
      simpa [List.take_succ_cons, List.map_cons, List.sum_cons, List.drop_drop] using this)
    refine ⟨c ++ r, ⟨c, r, rfl, hc, hr1⟩, ?_⟩
    have := RepVs_app _ _ _ _ hr hr2
    simpa [List.take_append_drop] using this

theorem weights_each {n : Nat} : ∀ (ts : List TypeId) (ds : List (DataW H)), (DataW.weightsEach P ts ds).all (· ≤ n) = true → ∀ (i : Nat) (t : TypeId) (x : DataW H), ts[i]? = some t → ds[i]? = some x → (x.weights P t).all (· ≤ n) = true
  | [], _, _, i, t, x, h, _ => by simp at h
  | _ :: _, [], _, i, t, x, _, h => by simp at h
  | t :: ts, d :: ds, hw, 0, u, x, h1, h2 => by
    simp only [List.getElem?_cons_zero, Option.some.injEq] at h1 h2; subst h1 h2
    simp only [DataW.weightsEach, List.all_append, Bool.and_eq_true] at hw
    exact hw.1
  | t :: ts, d :: ds, hw, i + 1, u, x, h1, h2 => by
    simp only [DataW.weightsEach, List.all_append, Bool.and_eq_true] at hw
    exact weights_each ts ds hw.2 i u x (by simpa using h1) (by simpa using h2)

theorem weights_all {n : Nat} {e : TypeId} : ∀ (ds : List (DataW H)), (DataW.weightsAll P e ds).all (· ≤ n) = true → ∀ x ∈ ds, (x.weights P e).all (· ≤ n) = true
  | [], _, x, h => by simp at h
  | d :: ds, hw, x, h => by
    simp only [DataW.weightsAll, List.all_append, Bool.and_eq_true] at hw
    rcases List.mem_cons.1 h with rfl | h
    · exact hw.1
    · exact weights_all ds hw.2 x h

/-- The elements of a slice. -/
theorem elems_read {R : List D → Prop} {W : DataW H → Prop} {rd : List Value → Option (DataW H × List MemPlace)} {k b : Nat}
    (ih : ∀ (cs : List Value) (x : DataW H × List MemPlace), rd cs = some x → W x.1 → ∃ ds, R ds ∧ RepVs w S φ ds cs) :
    ∀ (xs : List (DataW H × List MemPlace)) (o : Nat), (∀ x ∈ xs, W x.1) →
      (∀ i, i < xs.length → (w.cells? 0 ⟨b, o + i * k, none⟩ k).bind rd = xs[i]?) → ∃ es : List (List D), es.length = xs.length ∧ (∀ c ∈ es, R c) ∧ RepEs w S φ es k b o
  | [], o, _, _ => ⟨[], rfl, by simp, by simp [RepEs]⟩
  | x :: xs, o, hw, h => by
    have h0 := h 0 (by simp)
    simp only [Nat.zero_mul, Nat.add_zero, List.getElem?_cons_zero, Option.bind_eq_some_iff] at h0
    obtain ⟨cs, hcs, hrd⟩ := h0
    obtain ⟨hl, hc⟩ := cells?_out hcs
    obtain ⟨ds, hR, hrep⟩ := ih _ _ hrd (hw x (by simp))
    obtain ⟨es, h1, h2, h3⟩ := elems_read ih xs (o + k) (fun y hy => hw y (by simp [hy])) (fun i hi => by
      have := h (i + 1) (by simpa using hi)
      rw [show o + (i + 1) * k = o + k + i * k by rw [Nat.succ_mul]; omega] at this
      simpa using this)
    refine ⟨ds :: es, by simp [h1], by simpa using ⟨hR, h2⟩, ?_⟩
    simp only [RepEs]
    exact ⟨(RepVs_length _ _ hrep).symm.trans hl, RepCs_of _ _ _ hrep (fun i hi => by simpa [Addr.add_mid] using hc i (by omega)), h3⟩

set_option maxHeartbeats 2000000 in
theorem read_ds (hl : laidOutB P = true) {t0 : TypeId} (hp : P.readableRec t0 = true) : ∀ (n : Nat) (t : TypeId) (cs : List Value) (x : DataW H × List MemPlace), DataW.trod enc P w 0 (fun _ => true) true n t cs = some x →
    (x.1.weights P t).all (· ≤ reachBytes) = true → isVar P t = true ∧ t ∈ P.book t0 → ∃ ds, Wt P n t ds ∧ RepVs w (· < w.heap.size) φ ds cs
  | 0, t, cs, x, h, _, _ => by simp [DataW.trod] at h
  | n + 1, t, cs, x, h, hw, hv => by
    obtain ⟨hv, hbk⟩ := hv
    have hkid : P.fineRow t = true ∧ ∀ u ∈ P.partsOf t, u ∈ P.book t0 := by
      have := List.all_eq_true.1 hp t hbk
      simp only [Bool.and_eq_true, List.all_eq_true, List.contains_iff_mem] at this
      exact ⟨this.1, fun u hu => by simpa using this.2 u hu⟩
    have hlt : t < P.types.size := by simp only [isVar, Bool.and_eq_true, decide_eq_true_eq] at hv; exact hv.1
    have hfine := rowFine_of hl hlt
    have ih := read_ds hl hp n
    simp only [Wt]
    cases hu : P.underlying t with
    | none => simp [isVar, hu, kindOk] at hv
    | some td =>
      cases td with
      | bool =>
        obtain ⟨b, rfl, rfl⟩ := DataW.trod_bool hu h
        exact ⟨_, ⟨b, rfl⟩, by simp [RepVs, Rep]⟩
      | int k =>
        obtain ⟨z, rfl, rfl, hz⟩ := DataW.trod_int hu h
        exact ⟨_, ⟨z, rfl, hz⟩, by simp [RepVs, Rep]⟩
      | float k =>
        have : ∃ b, cs = [.float k b] ∧ (Lit.float k b).wf = true := by
          unfold DataW.trod at h
          rw [hu] at h
          split at h <;> simp_all
        obtain ⟨b, rfl, hb⟩ := this
        exact ⟨_, ⟨b, rfl, hb⟩, by simp [RepVs, Rep]⟩
      | string =>
        obtain ⟨s, rfl, rfl, hs⟩ := DataW.trod_string hu h
        exact ⟨_, ⟨s, rfl, by simpa [DataW.weights] using hw⟩, by simp [RepVs, Rep]⟩
      | pointer e =>
        rcases DataW.trod_pointer hu h with ⟨rfl, rfl⟩ | ⟨a, cs', y, m, hm, rfl, rfl, hc, hy⟩
        · exact ⟨_, .inl rfl, by simp [RepVs, Rep]⟩
        · simp only [Nat.add_right_cancel_iff] at hm; subst hm
          obtain ⟨hcl, hcc⟩ := cells?_out hc
          simp only [rowFine, hv, hu, Bool.not_true, Bool.false_or, Bool.and_eq_true] at hfine
          obtain ⟨ds, h1, h2⟩ := ih e cs' y hy (by simpa [DataW.weights, hu] using hw) ⟨hfine.1, hkid.2 e (by simp [Program.partsOf, hu])⟩
          have hpos : 0 < P.cellsOf e := by
            have := hkid.1
            simpa [Program.fineRow, hu] using this
          have h0 := hcc 0 hpos
          rw [List.getElem?_eq_getElem (by omega)] at h0
          obtain ⟨hb, hsp⟩ := cell?_lt h0
          obtain ⟨b, o, sp⟩ := a
          have hsp' : sp = none := by simpa [Addr.add] using hsp
          subst hsp'
          have hb' : b < w.heap.size := by simpa [Addr.add_mid] using hb
          refine ⟨_, .inr ⟨ds, rfl, h1⟩, ?_⟩
          simp only [RepVs, Rep]
          exact ⟨_, [], rfl, ⟨b, o, rfl, hb', RepCs_of _ _ _ h2 fun i hi => by simpa [Addr.add_mid] using hcc i (by omega)⟩, rfl⟩
      | slice e =>
        simp only [rowFine, hv, hu, Bool.not_true, Bool.false_or, Bool.and_eq_true] at hfine
        have hpos : 0 < P.cellsOf e := by
          have := hkid.1
          simpa [Program.fineRow, hu] using this
        have hbe : e ∈ P.book t0 := hkid.2 e (by simp [Program.partsOf, hu])
        rcases DataW.trod_slice hu h with ⟨rfl, rfl⟩ | ⟨a, len, cap, elems, rest, m, hm, rfl, rfl, _, hlc, _, hel, helem, hrest, _⟩
        · exact ⟨_, ⟨[], rfl, by simp, by simp⟩, by simp [RepVs, Rep, Zs]⟩
        · simp only [Nat.add_right_cancel_iff] at hm; subst hm
          simp only [DataW.weights, hu, List.all_cons, List.all_append, Bool.and_eq_true, decide_eq_true_eq, List.length_map] at hw
          obtain ⟨hwl, hwe, _⟩ := hw
          by_cases h0 : cap = 0
          · subst h0
            obtain rfl : len = 0 := by omega
            exact ⟨_, ⟨[], rfl, by simp, by simp⟩, by simp [RepVs, Rep, Zs]⟩
          · obtain ⟨v, hv0⟩ : ∃ v, w.cell? a = some v := by
              have key : ∀ y, (w.cells? 0 (a.add (0 * P.cellsOf e)) (P.cellsOf e)).bind (DataW.trod enc P w 0 (fun _ => true) true n e) = some y → ∃ v, w.cell? a = some v := by
                intro y hy
                simp only [Option.bind_eq_some_iff] at hy
                obtain ⟨c, hc, _⟩ := hy
                obtain ⟨hcl, hcc⟩ := cells?_out hc
                have := hcc 0 hpos
                simp only [Nat.zero_mul, Addr.add, Nat.add_zero] at this
                rw [List.getElem?_eq_getElem (by omega)] at this
                exact ⟨_, this⟩
              by_cases hl0 : len = 0
              · obtain ⟨hr1, hr2⟩ := hrest rfl
                have := hr2 0 (by omega)
                rw [hl0, List.getElem?_eq_getElem (by omega)] at this
                exact key _ this
              · have := helem 0 (by omega)
                rw [List.getElem?_eq_getElem (by omega)] at this
                exact key _ this
            obtain ⟨hb, hsp⟩ := cell?_lt hv0
            obtain ⟨b, o, sp⟩ := a
            simp only at hb hsp; subst hsp
            obtain ⟨es, h1, h2, h3⟩ := elems_read (φ := φ) (S := (· < w.heap.size)) (k := P.cellsOf e) (b := b) (R := Wt P n e) (W := fun x => (x.weights P e).all (· ≤ reachBytes) = true) (fun cs x hx hwx => ih e cs x hx hwx ⟨hfine.1, hbe⟩) elems o
              (fun x hx => weights_all _ (by simpa using hwe) x.1 (List.mem_map.2 ⟨x, hx, rfl⟩)) (fun i hi => by simpa [Addr.add_mid] using helem i (by omega))
            refine ⟨_, ⟨es, rfl, ?_, h2⟩, ?_⟩
            · rw [h1]
              exact Nat.le_trans (Nat.mul_le_mul_right _ (by omega)) hwl
            · simp only [RepVs, Rep]
              exact ⟨_, [], rfl, .inr ⟨b, o, cap, _, by rw [h1, hel], by omega, hb, h3⟩, rfl⟩
      | struct fs =>
        simp only [rowFine, hv, hu, Bool.not_true, Bool.false_or, Bool.and_eq_true, beq_iff_eq] at hfine
        obtain ⟨⟨hf1, hf2⟩, hf3⟩ := hfine
        obtain ⟨xs, m, hm, rfl, hcl, hxl, hx⟩ := DataW.trod_struct hu h
        simp only [Nat.add_right_cancel_iff] at hm; subst hm
        simp only [DataW.weights, hu] at hw
        refine parts_read (P := P) (T := fun t => isVar P t = true ∧ t ∈ P.book t0) (W := fun t x => (x.weights P t).all (· ≤ reachBytes) = true) (rd := DataW.trod enc P w 0 (fun _ => true) true n) (fun t cs x hx hwx hvx => ih t cs x hx hwx hvx) (fs.toList.map (·.type)) xs cs (by simpa using hxl) (by rw [hcl, hf2]; simp [List.map_map, Function.comp_def])
          (fun u huu => by
            obtain ⟨f, hf, rfl⟩ := List.mem_map.1 huu
            exact ⟨List.all_eq_true.1 hf1 f hf, hkid.2 f.type (by simp only [Program.partsOf, hu]; exact List.mem_map.2 ⟨f, hf, rfl⟩)⟩)
          (fun i u x h1 h2 => weights_each _ _ hw i u x.1 h1 (by simp [h2])) (fun i u hi => ?_)
        simp only [List.getElem?_map, Option.map_eq_some_iff] at hi
        obtain ⟨f, hf, rfl⟩ := hi
        have h3 := List.all_eq_true.1 hf3 i (by simp; exact (List.getElem?_eq_some_iff.1 hf).1)
        rw [hf] at h3
        simp only [beq_iff_eq] at h3
        have := hx i f (by simpa using hf)
        rw [h3] at this
        rw [← List.map_take, List.map_map]
        exact this
      | array m e =>
        simp only [rowFine, hv, hu, Bool.not_true, Bool.false_or, Bool.and_eq_true, beq_iff_eq] at hfine
        obtain ⟨hf1, hf2⟩ := hfine
        have htk : ∀ i : Nat, ((List.replicate m e).take i).map P.cellsOf = List.replicate (min i m) (P.cellsOf e) := by intro i; simp
        obtain ⟨xs, m', hm', rfl, hcl, hxl, hx⟩ := DataW.trod_array hu h
        simp only [Nat.add_right_cancel_iff] at hm'; subst hm'
        simp only [DataW.weights, hu] at hw
        have hwx : ∀ x ∈ xs, (x.1.weights P e).all (· ≤ reachBytes) = true := fun x hx => weights_all _ hw x.1 (List.mem_map.2 ⟨x, hx, rfl⟩)
        refine parts_read (P := P) (T := fun t => isVar P t = true ∧ t ∈ P.book t0) (W := fun t x => (x.weights P t).all (· ≤ reachBytes) = true) (rd := DataW.trod enc P w 0 (fun _ => true) true n) (fun t cs x hx hwx hvx => ih t cs x hx hwx hvx) (List.replicate m e) xs cs (by simpa using hxl) (by rw [hcl, hf2]; simp)
          (fun u hu => by rw [List.mem_replicate] at hu; rw [hu.2]; exact ⟨hf1, hkid.2 e (by simp [Program.partsOf, *])⟩)
          (fun i u x h1 h2 => by
            rw [List.getElem?_replicate] at h1
            split at h1
            · simp only [Option.some.injEq] at h1; subst h1
              exact hwx x (List.mem_of_getElem? h2)
            · simp at h1) (fun i u hi => ?_)
        rw [List.getElem?_replicate] at hi
        split at hi
        · rename_i him
          simp only [Option.some.injEq] at hi; subst hi
          rw [htk]
          have : min i m = i := by omega
          rw [this]
          simpa using hx i him
        · simp at hi
      | _ =>
        cases cs with
        | nil => simp only [DataW.trod, hu] at h; cases h
        | cons c r =>
          cases r with
          | nil => exact ⟨[.top], rfl, by simp [RepVs, Rep]⟩
          | cons c2 r =>
            exfalso
            first
            | (simp only [DataW.trod, hu] at h; cases h)
            | (simp [isVar, hu, kindOk] at hv)
end
end Go.Fx

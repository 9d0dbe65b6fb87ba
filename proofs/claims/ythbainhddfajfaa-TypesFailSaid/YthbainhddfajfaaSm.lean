/-
  fathomref04.Same of a program and itself.
-/
import Derived.Test.YthbainhddfajfaaPE
import Derived.Test.YthbainhddfajfaaSaB
import Derived.Test.YthbainhddfajfaaCodeSame
set_option linter.all false
set_option maxRecDepth 100000
set_option maxHeartbeats 4000000
namespace Go.Fx.Ythbainhddfajfaa
open Go Go.Fx Go.Proofs Go.Fx.Flt
def nS (z : Cx) : Prop := eqF z.re z.re = true ∧ eqF z.im z.im = true
mutual
def Nm : Ex → Prop
  | .mk _ _ _ _ z args _ => nS z ∧ Nms args
def Nms : List Ex → Prop
  | [] => True
  | e :: es => Nm e ∧ Nms es
end
theorem nS_zf {a b : Int} (ha : a.natAbs ≤ 16777216) (hb : b.natAbs ≤ 16777216) : nS ⟨zf a, zf b⟩ := by
  have e : ∀ {a : Int}, a.natAbs ≤ 16777216 → eqF (zf a) (zf a) = true := fun {a} h => by
    have : zf a = Fi a := ofInt_Fi (by omega)
    rw [this, eqF_Fi (by omega) (by omega)]; simp
  exact ⟨e ha, e hb⟩
theorem nS_0 : nS ⟨0, 0⟩ := ⟨by decide, by decide⟩
theorem nS_parse (s : List UInt8) : nS ⟨zf (parseN s).1, zf (parseN s).2⟩ := by
  refine nS_zf ?_ ?_ <;>
  · unfold parseN
    split
    · rename_i h
      unfold numOk at h
      simp only [Bool.and_eq_true] at h
      have := h.2.1
      unfold inB at this
      simp only [Bool.and_eq_true, decide_eq_true_eq] at this
      omega
    · decide
theorem nS_one (t : List UInt8) (p : Nat) : nS (oneF t p).1.num := by
  unfold oneF
  split
  · exact nS_parse _
  · split
    · exact nS_0
    · split <;> exact nS_0
def NumMs (ms : List Mk) : Prop := ∀ m ∈ ms, nS m.num
theorem marksF_num : ∀ (f : Nat) (t : List UInt8) (p : Nat) (out : List Mk), NumMs out → NumMs (marksF f t p out).1
  | 0, t, p, out, h => by intro m hm; simp [marksF] at hm
  | f + 1, t, p, out, h => by
    have happ : ∀ m : Mk, nS m.num → NumMs (out ++ [m]) := fun m hm x hx => by
      rw [List.mem_append, List.mem_singleton] at hx
      rcases hx with hx | rfl
      · exact h x hx
      · exact hm
    unfold marksF
    split
    · split
      · exact marksF_num f _ _ _ h
      · split
        · exact marksF_num f _ _ _ h
        · split
          · exact marksF_num f _ _ _ (happ _ (nS_one t p))
          · intro m hm; simp at hm
    · exact happ _ nS_0
theorem next_num {r : Rd} (h : NumMs r.ms) : nS r.next.num := by
  unfold Rd.next
  by_cases hi : r.at' < r.ms.length
  · rw [List.getElem?_eq_getElem hi]; exact h _ (List.getElem_mem hi)
  · rw [List.getElem?_eq_none (by omega)]; exact nS_0
namespace Rd
theorem fail_ms {r : Rd} {w : Int} : (r.fail w).ms = r.ms := by unfold fail; split <;> rfl
theorem want_ms {r : Rd} {s : List UInt8} : (r.want s).ms = r.ms := by
  unfold want; split
  · rfl
  · exact fail_ms
theorem name_ms {r : Rd} : r.name.2.ms = r.ms := by
  unfold name; split
  · exact fail_ms
  · rfl
theorem typ_ms {r : Rd} : r.typ.2.ms = r.ms := by
  unfold typ
  split
  · rfl
  · split
    · rfl
    · split
      · rfl
      · exact fail_ms
end Rd
/-- A run that keeps the marks and makes what p says. -/
def Gr {α : Type} (p : α → Prop) (ms : List Mk) (o : Option (α × Rd)) : Prop := ∀ x, o = some x → p x.1 ∧ x.2.ms = ms
theorem Gr_none {α : Type} {p : α → Prop} {ms : List Mk} : Gr p ms none := fun x h => by simp at h
theorem Gr_some {α : Type} {p : α → Prop} {ms : List Mk} {a : α} {q : Rd} (h : p a) (h2 : q.ms = ms) : Gr p ms (some (a, q)) := fun x hx => by
  simp only [Option.some.injEq] at hx
  subst hx
  exact ⟨h, h2⟩
theorem Gr_bind {α β : Type} {p : α → Prop} {p2 : β → Prop} {ms : List Mk} {o : Option (α × Rd)} {f : α × Rd → Option (β × Rd)} (h : Gr p ms o) (h2 : ∀ a q, p a → q.ms = ms → Gr p2 ms (f (a, q))) : Gr p2 ms (o.bind f) := fun x hx => by
  cases o with
  | none => simp at hx
  | some y => exact h2 y.1 y.2 (h y rfl).1 (h y rfl).2 x hx
theorem Gr_map {α β : Type} {p : α → Prop} {p2 : β → Prop} {ms : List Mk} {o : Option (α × Rd)} {f : α × Rd → β × Rd} (h : Gr p ms o) (h2 : ∀ a q, p a → q.ms = ms → p2 (f (a, q)).1 ∧ (f (a, q)).2.ms = ms) : Gr p2 ms (o.map f) := fun x hx => by
  cases o with
  | none => simp at hx
  | some y =>
    simp only [Option.map_some, Option.some.injEq] at hx
    subst hx
    exact h2 y.1 y.2 (h y rfl).1 (h y rfl).2
theorem Nms_app : ∀ {l k : List Ex}, Nms l → Nms k → Nms (l ++ k)
  | [], _, _, h => h
  | e :: es, k, h, g => by
    unfold Nms at h
    show Nms (e :: (es ++ k))
    unfold Nms
    exact ⟨h.1, Nms_app h.2 g⟩
theorem Nms_one {e : Ex} (h : Nm e) : Nms [e] := by unfold Nms Nms; exact ⟨h, trivial⟩
theorem Nm_two {op : Int} {a b : Ex} {m : Mk} (ha : Nm a) (hb : Nm b) : Nm (two op a b m) := by
  unfold two Nm Nms
  exact ⟨nS_0, ha, Nms_one hb⟩
theorem Nm_mk0 {op ty p : Int} {n t : List UInt8} {l : List Ex} (h : Nms l) : Nm (.mk op n t ty ⟨0, 0⟩ l p) := by
  unfold Nm; exact ⟨nS_0, h⟩
theorem Nms_nil : Nms [] := by unfold Nms; trivial
theorem Nm_0 : Nm ex0 := Nm_mk0 Nms_nil
structure Num (n : Nat) (ms : List Mk) : Prop where
  expr : ∀ r, r.ms = ms → Gr Nm ms (exprF n r)
  cons : ∀ r, r.ms = ms → Gr Nm ms (consF n r)
  comp : ∀ r, r.ms = ms → Gr Nm ms (compF n r)
  sum : ∀ r, r.ms = ms → Gr Nm ms (sumF n r)
  sumL : ∀ a r, Nm a → r.ms = ms → Gr Nm ms (sumLF n a r)
  term : ∀ r, r.ms = ms → Gr Nm ms (termF n r)
  termL : ∀ a r, Nm a → r.ms = ms → Gr Nm ms (termLF n a r)
  unit : ∀ r, r.ms = ms → Gr Nm ms (unitF n r)
  named : ∀ m r, r.ms = ms → Gr Nm ms (namedF n m r)
  namedL : ∀ l r, Nms l → r.ms = ms → Gr Nms ms (namedLF n l r)
  parts : ∀ ss r, r.ms = ms → Gr Nms ms (partsF n ss r)
  branches : ∀ r p, r.ms = ms → Gr Nm ms (branchesF n r p)
theorem num_all {ms : List Mk} (hms : NumMs ms) : ∀ n, Num n ms
  | 0 => ⟨fun _ _ => by unfold exprF; exact Gr_none, fun _ _ => by unfold consF; exact Gr_none, fun _ _ => by unfold compF; exact Gr_none, fun _ _ => by unfold sumF; exact Gr_none, fun _ _ _ _ => by unfold sumLF; exact Gr_none, fun _ _ => by unfold termF; exact Gr_none, fun _ _ _ _ => by unfold termLF; exact Gr_none, fun _ _ => by unfold unitF; exact Gr_none, fun _ _ _ => by unfold namedF; exact Gr_none, fun _ _ _ _ => by unfold namedLF; exact Gr_none, fun ss _ _ => by cases ss <;> (unfold partsF; exact Gr_none), fun _ _ _ => by unfold branchesF; exact Gr_none⟩
  | n + 1 => by
    have ih := num_all hms n
    have two' : ∀ {op : Int} {a b : Ex} {m : Mk} {q : Rd}, Nm a → Nm b → q.ms = ms → Nm (two op a b m, q).1 ∧ (two op a b m, q).2.ms = ms := fun ha hb hq => ⟨Nm_two ha hb, hq⟩
    refine ⟨fun r hr => ?_, fun r hr => ?_, fun r hr => ?_, fun r hr => ?_, fun a r ha hr => ?_, fun r hr => ?_, fun a r ha hr => ?_, fun r hr => ?_, fun m r hr => ?_, fun l r hl hr => ?_, fun ss r hr => ?_, fun r p hr => ?_⟩
    · unfold exprF
      have h1 : (if (binds r && decide (r.lN ≤ r.nest)) = true then r.fail 23 else r).ms = ms := by
        split
        · rw [Rd.fail_ms]; exact hr
        · exact hr
      dsimp only
      generalize (if (binds r && decide (r.lN ≤ r.nest)) = true then r.fail 23 else r) = r1 at *
      have h2 : (if binds r = true then { r1 with nest := r1.nest + 1 } else r1).adv.ms = ms := by
        split <;> exact h1
      generalize (if binds r = true then { r1 with nest := r1.nest + 1 } else r1).adv = r2 at *
      split
      · exact Gr_some Nm_0 h1
      · split
        · exact ih.cons _ h1
        · refine Gr_map (p := Nm) ?_ (fun e q he hq => ⟨he, by dsimp only; split <;> exact hq⟩)
          split
          · exact Gr_map (ih.parts _ _ h2) (fun l q hl hq => ⟨Nm_mk0 hl, hq⟩)
          · split
            · exact ih.branches _ _ h2
            · exact Gr_map (ih.parts _ _ (by rw [Rd.typ_ms, Rd.name_ms]; exact h2)) (fun l q hl hq => ⟨Nm_mk0 hl, hq⟩)
    · unfold consF
      refine Gr_bind (ih.comp r hr) (fun a q ha hq => ?_)
      dsimp only
      split
      · exact Gr_map (ih.cons _ hq) (fun b q2 hb hq2 => two' ha hb hq2)
      · exact Gr_some ha hq
    · unfold compF
      refine Gr_bind (ih.sum r hr) (fun a q ha hq => ?_)
      dsimp only
      split
      · exact Gr_map (ih.sum _ hq) (fun b q2 hb hq2 => two' ha hb hq2)
      · exact Gr_some ha hq
    · unfold sumF
      exact Gr_bind (ih.term r hr) (fun a q ha hq => ih.sumL _ _ ha hq)
    · unfold sumLF
      split
      · exact Gr_bind (ih.term _ hr) (fun b q hb hq => ih.sumL _ _ (Nm_two ha hb) hq)
      · exact Gr_some ha hr
    · unfold termF
      exact Gr_bind (ih.unit r hr) (fun a q ha hq => ih.termL _ _ ha hq)
    · unfold termLF
      split
      · exact Gr_bind (ih.unit _ hr) (fun b q hb hq => ih.termL _ _ (Nm_two ha hb) hq)
      · exact Gr_some ha hr
    · unfold unitF
      split
      · exact Gr_some Nm_0 hr
      · split
        · refine Gr_some ?_ hr
          unfold Nm
          exact ⟨next_num (by rw [hr]; exact hms), Nms_nil⟩
        · split
          · exact ih.named _ _ hr
          · split
            · exact Gr_map (ih.expr _ hr) (fun e q he hq => ⟨he, by rw [Rd.want_ms]; exact hq⟩)
            · split
              · exact Gr_some Nm_0 (by rw [Rd.fail_ms]; exact hr)
              · split
                · exact Gr_some (Nm_mk0 Nms_nil) (by rw [Rd.typ_ms]; exact hr)
                · split
                  · exact Gr_map (ih.expr _ (by rw [Rd.want_ms]; exact hr)) (fun e q he hq => ⟨Nm_mk0 (Nms_one he), by rw [Rd.want_ms]; exact hq⟩)
                  · exact Gr_some (Nm_mk0 Nms_nil) hr
    · unfold namedF
      split
      · exact Gr_map (ih.namedL _ _ Nms_nil hr) (fun l q hl hq => ⟨Nm_mk0 hl, by rw [Rd.want_ms]; exact hq⟩)
      · exact Gr_some (Nm_mk0 Nms_nil) hr
    · unfold namedLF
      split
      · refine Gr_bind (ih.expr _ ?_) (fun x q hx hq => ih.namedL _ _ (Nms_app hl (Nms_one hx)) hq)
        split
        · exact hr
        · rw [Rd.want_ms]; exact hr
      · exact Gr_some hl hr
    · cases ss with
      | nil => unfold partsF; exact Gr_some Nms_nil hr
      | cons s ss =>
        unfold partsF
        refine Gr_bind (ih.expr _ ?_) (fun x q hx hq => Gr_map (ih.parts _ _ hq) (fun l q2 hl hq2 => ⟨?_, hq2⟩))
        · split
          · exact hr
          · rw [Rd.want_ms]; exact hr
        · dsimp only; unfold Nms; exact ⟨hx, hl⟩
    · unfold branchesF
      refine Gr_bind (ih.expr r hr) (fun x q hx hq => Gr_bind (ih.expr _ (by rw [Rd.want_ms, Rd.want_ms, Rd.want_ms]; exact hq)) (fun a q2 ha hq2 => ?_))
      dsimp only
      refine Gr_map (ih.expr _ (by rw [Rd.want_ms, Rd.name_ms, Rd.want_ms, Rd.name_ms, Rd.want_ms]; exact hq2)) (fun b q3 hb hq3 => ⟨Nm_mk0 ?_, hq3⟩)
      unfold Nms Nms
      exact ⟨hx, ha, Nms_one hb⟩
theorem params_ms {ms : List Mk} : ∀ n l r, r.ms = ms → Gr (fun _ => True) ms (paramsF n l r)
  | 0, l, r, h => by unfold paramsF; exact Gr_none
  | n + 1, l, r, h => by
    unfold paramsF
    split
    · refine params_ms n _ _ ?_
      rw [Rd.typ_ms, Rd.name_ms]
      unfold pf pw
      repeat' split
      all_goals first | exact h | (simp only [Rd.fail_ms, Rd.want_ms]; exact h)
    · exact Gr_some trivial h
theorem def_num {ms : List Mk} (hms : NumMs ms) {n : Nat} {r : Rd} {c : Nat} (h : r.ms = ms) : Gr (fun f => Nm f.body) ms (defF n r c) := by
  unfold defF
  refine Gr_bind (params_ms n _ _ ?_) (fun ps q _ hq => Gr_map ((num_all hms n).expr _ (by rw [Rd.want_ms, Rd.typ_ms, Rd.want_ms, Rd.want_ms]; exact hq)) (fun b q2 hb hq2 => ⟨hb, by rw [Rd.want_ms]; exact hq2⟩))
  rw [Rd.want_ms, Rd.name_ms]
  unfold df
  split
  · rw [Rd.fail_ms]; exact h
  · exact h
def NmF (L : List Fn) : Prop := ∀ f ∈ L, Nm f.body
theorem prog_num {ms : List Mk} (hms : NumMs ms) : ∀ n l r, NmF l → r.ms = ms → Gr NmF ms (progF n l r)
  | 0, l, r, hl, h => by unfold progF; exact Gr_none
  | n + 1, l, r, hl, h => by
    unfold progF
    split
    · refine Gr_bind (def_num hms h) (fun f q hf hq => prog_num hms n _ _ (fun g hg => ?_) hq)
      rw [List.mem_append, List.mem_singleton] at hg
      rcases hg with hg | rfl
      · exact hl g hg
      · exact hf
    · exact Gr_some hl h
/-- What a text is read as; its numbers are numbers. -/
theorem read_nm (t : List UInt8) (ht : t.length < 2 ^ 48) : ∃ L w p, ReadAs t L w p ∧ NmF L := by
  by_cases h1 : 32768 < t.length
  · exact ⟨[], 22, 32768, ⟨Parse_big t ht h1, fun h => absurd h (by decide), fun _ => rfl⟩, fun f hf => by simp at hf⟩
  · by_cases h2 : (marksL t).2 < 0
    · have hk := rd0_ok (t := t) (lt := 32768) (lF := 32768) (lA := 32768) (lN := 32768) (by omega) h2 (by decide)
      obtain ⟨L, q, hq, kq⟩ := prog_ends hk
      have hc := Parse_ok t (by omega) h2 (by decide) hq
      have hnum : NmF L := (prog_num (ms := (marksL t).1) (marksF_num _ t 0 [] (fun m hm => by simp at hm)) _ _ _ (fun f hf => by simp at hf) rfl _ hq).1
      by_cases h3 : q.why = 0
      · rw [if_pos h3] at hc
        obtain ⟨g1, g2, k, g3, g4, g5⟩ := made_prog _ _ _ L q hq h3
        simp only [List.nil_append] at g3
        subst g3
        refine ⟨L, 0, 0, ⟨hc, fun _ => ⟨(marksL t).1, 0, q.at', hk.ms, hk.len, ?_, ?_, g4, g5 rfl⟩, fun h => absurd rfl h⟩, hnum⟩
        · exact marksF_rising _ t 0 [] (by omega) (fun i j _ h => by simp at h) (fun i h => by simp at h) h2
        · have := kq.lt
          rw [g2] at this; exact this
      · rw [if_neg h3] at hc
        exact ⟨[], q.why, q.wh, ⟨hc, fun h => absurd h h3, fun _ => rfl⟩, fun f hf => by simp at hf⟩
    · have hc := Parse_bad t (by omega) h2
      refine ⟨[], 20, (marksL t).2, ⟨hc, fun h => absurd h (by decide), fun _ => rfl⟩, fun f hf => by simp at hf⟩
theorem Nm_eq (e : Ex) : Nm e = (nS e.num ∧ Nms e.args) := by
  cases e; rw [Nm]; rfl
theorem size_eq (e : Ex) : size e = 1 + sizes e.args := by
  cases e; rw [size]; rfl
theorem Nms_mem {x : Ex} : ∀ {l : List Ex}, Nms l → x ∈ l → Nm x
  | [], _, h => by simp at h
  | e :: es, h, hx => by
    unfold Nms at h
    rcases List.mem_cons.1 hx with rfl | hx
    · exact h.1
    · exact Nms_mem h.2 hx
theorem sizes_in {x : Ex} : ∀ {l : List Ex}, x ∈ l → size x ≤ sizes l
  | [], h => by simp at h
  | e :: es, hx => by
    unfold sizes
    rcases List.mem_cons.1 hx with rfl | hx
    · omega
    · have := sizes_in hx; omega
theorem sizes_ge : ∀ (l : List Ex), l.length ≤ sizes l
  | [] => by simp
  | e :: es => by
    unfold sizes
    have := sizes_ge es
    have := size_eq e
    simp only [List.length_cons]; omega
theorem sameE_c : ∀ (n : Nat) (e : Ex), size e ≤ n → n ≤ 2 ^ 40 → Nm e → Pure Try.prog 44 [.agg (encEx e), .agg (encEx e), B true] (B true)
  | 0, e, h, _, _ => by have := size_eq e; omega
  | n + 1, e, h, hn, hm => by
    have hs := size_eq e
    rw [Nm_eq] at hm
    obtain ⟨⟨m1, m2⟩, m3⟩ := hm
    have hl := sizes_ge e.args
    refine pu44 (by simp) ?_
    simp only [encEx_eq]
    simp -implicitDefEqProofs [ac44, m1, m2]
    refine lp44_0 (α := Nat) (fun s _ => [(6, .top), (7, I s)]) (fun s _ => []) (fun s k => s ≤ e.args.length) (fun s => e.args.length - s) 0 (by simp) (by simp) (memLe_nil _) ?_
    rintro s k hi
    by_cases hlt : s < e.args.length
    · obtain ⟨x, hx⟩ : ∃ x, e.args[s] = x := ⟨_, rfl⟩
      have hmem : x ∈ e.args := hx ▸ List.getElem_mem hlt
      have w1 := wr64 (x := (s : Int) + 1) (by omega) (by omega)
      have ih := sameE_c n x (by have := sizes_in hmem; omega) (by omega) (Nms_mem m3 hmem)
      simp only [encEx_eq] at ih
      simp -implicitDefEqProofs [lb44_0, hlt, hx]
      refine pcK_of ih (by simp) ?_
      simp -implicitDefEqProofs [w1]
      exact again_of (s + 1) (by omega) (by omega) (by simp) (memLe_nil _)
    · simp -implicitDefEqProofs [lb44_0, hlt]
theorem sameF_c (f : Fn) (hs : size f.body ≤ 2 ^ 40) (hp : f.params.length ≤ 2 ^ 40) (hm : Nm f.body) : Pure Try.prog 26 [.agg (encFn f), .agg (encFn f), B true] (B true) := by
  refine pu26 (by simp) ?_
  have hb := sameE_c (2 ^ 40) f.body hs (by omega) hm
  simp only [encEx_eq] at hb
  simp -implicitDefEqProofs [ac26, encFn_eq]
  refine lp26_0 (α := Nat) (fun s _ => [(6, .top), (7, I s), (8, .top), (9, .top)]) (fun s _ => []) (fun s k => s ≤ f.params.length) (fun s => f.params.length - s) 0 (by simp) (by simp) (memLe_nil _) ?_
  rintro s k hi
  by_cases hlt : s < f.params.length
  · obtain ⟨x, hx⟩ : ∃ x, f.params[s] = x := ⟨_, rfl⟩
    have w1 := wr64 (x := (s : Int) + 1) (by omega) (by omega)
    simp -implicitDefEqProofs [lb26_0, hlt, hx, w1]
    exact again_of (s + 1) (by omega) (by omega) (by simp) (memLe_nil _)
  · simp -implicitDefEqProofs [lb26_0, hlt]
    refine pcK_of (hb) (by simp) ?_
    simp -implicitDefEqProofs
theorem same_c {L : List Fn} (hL : L.length ≤ 2 ^ 40) (h : ∀ f ∈ L, size f.body ≤ 2 ^ 40 ∧ f.params.length ≤ 2 ^ 40 ∧ Nm f.body) : Pure Try.prog 14 [.agg [.sl (em encFn L)], .agg [.sl (em encFn L)], B true] (B true) := by
  refine pu14 (by simp) ?_
  simp -implicitDefEqProofs [ac14]
  refine lp14_0 (α := Nat) (fun s _ => [(6, .top), (7, I s)]) (fun s _ => []) (fun s k => s ≤ L.length) (fun s => L.length - s) 0 (by simp) (by simp) (memLe_nil _) ?_
  rintro s k hi
  by_cases hlt : s < L.length
  · obtain ⟨x, hx⟩ : ∃ x, L[s] = x := ⟨_, rfl⟩
    have hmem : x ∈ L := hx ▸ List.getElem_mem hlt
    have w1 := wr64 (x := (s : Int) + 1) (by omega) (by omega)
    obtain ⟨h1, h2, h3⟩ := h x hmem
    have hf := sameF_c x h1 h2 h3
    simp only [encFn_eq] at hf
    simp -implicitDefEqProofs [lb14_0, hlt, hx, encFn_eq]
    refine pcK_of hf (by simp) ?_
    simp -implicitDefEqProofs [w1]
    exact again_of (s + 1) (by omega) (by omega) (by simp) (memLe_nil _)
  · simp -implicitDefEqProofs [lb14_0, hlt]
end Go.Fx.Ythbainhddfajfaa

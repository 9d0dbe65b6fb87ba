/-
  Stores, appends, slices of slices.
-/
import Derived.Test.YtaiklblnfebdfaaX8
set_option linter.all false
namespace Go.Fx
open Go
section
variable {C : Cfg} {w w' : World} {S : Nat → Prop} {φ : Locs} {a : Act} {env tl : Env} {mem : Mem} {nx id : Nat} {K : KD}

theorem setCells_facts (b : Nat) : ∀ (vs : List Value) (o : Nat) (w : World), (∀ b', b' ≠ b → (w.setCells b o vs).heap[b']? = w.heap[b']?) ∧ (w.setCells b o vs).heap.size = w.heap.size ∧
    (w.setCells b o vs).os = w.os ∧ (w.setCells b o vs).output = w.output ∧ (w.setCells b o vs).tape = w.tape ∧
    ∀ c t fr, w.heap[b]? = some (.cells c t fr) → ∃ c', (w.setCells b o vs).heap[b]? = some (.cells c' t fr) ∧ c'.size = c.size
  | [], o, w => ⟨fun _ _ => rfl, rfl, rfl, rfl, rfl, fun c t fr h => ⟨c, h, rfl⟩⟩
  | v :: vs, o, w => by
    obtain ⟨h1, h2, h3, h4, h5, h6⟩ := setCells_facts b vs (o + 1) (w.setCell ⟨b, o, none⟩ v)
    rw [World.setCells]
    refine ⟨fun b' hb => (h1 b' hb).trans ?_, h2.trans ?_, h3, h4, h5, fun c t fr h => ?_⟩
    · simp only [World.setCell, Array.getElem?_modify]
      rw [if_neg (by omega)]
    · simp [World.setCell]
    · have : (w.setCell ⟨b, o, none⟩ v).heap[b]? = some (.cells (c.setIfInBounds o v) t fr) := by
        simp only [World.setCell, Array.getElem?_modify, if_true, h, Option.map_some, Option.isSome_none, Bool.false_eq_true, if_false]
      obtain ⟨c', hc, hs⟩ := h6 _ _ _ this
      exact ⟨c', hc, by rw [hs]; simp⟩

theorem there_of_block {b : Nat} {c : Array Value} {t : TypeId} (h : w.heap[b]? = some (.cells c t (0, 0))) {o n : Nat} (hn : o + n ≤ c.size) : w.there b o n := by
  intro j hj
  constructor
  · simp only [World.cell?, h, Option.isSome_none, Bool.false_eq_true, if_false]
    simp; omega
  · simp [World.frozen?, h]

theorem run_storeAt_any {t : TypeId} {b o n : Nat} {v : Value} {i : TypeInfo} {P : Program} (hi : P.info? t = some i) (hn : i.size = n) (hv : v.cells.size = n) (ht : w.there b o n) (h1 : ∀ u ∈ v.cells.toList, u.oneCell' = true) :
    (Instr.storeAt t (.pointer (some ⟨b, o, none⟩)) v).run P w = .ok () (w.setCells b o v.cells.toList) := by
  have h := run_storeAt_mid (P := P) w b o t v.cells (by rw [hv]; exact ht) (by rw [hi]; simp; omega) (Array.all_eq_true_iff_forall_mem.2 fun u hu => h1 u (by simpa using hu))
  rw [show Instr.storeAt t (.pointer (some ⟨b, o, none⟩)) v = Instr.storeAt t (.pointer (some ⟨b, o, none⟩)) (.agg v.cells) from rfl]
  exact h

theorem RepCs_get : ∀ (cs : List D) (b o m : Nat) (d : D), RepCs w S φ cs b o → cs[m]? = some d → ∃ x, w.cell? ⟨b, o + m, none⟩ = some x ∧ Rep w S φ d x
  | [], b, o, m, d, _, h => by simp at h
  | c :: cs, b, o, 0, d, h, hd => by
    simp only [List.getElem?_cons_zero, Option.some.injEq] at hd; subst hd
    simp only [RepCs] at h
    exact h.1
  | c :: cs, b, o, m + 1, d, h, hd => by
    simp only [List.getElem?_cons_succ] at hd
    simp only [RepCs] at h
    have := RepCs_get cs b (o + 1) m d h.2 hd
    rwa [show o + 1 + m = o + (m + 1) by omega] at this

/-- Behind a store: the cells that were stored, and all others as they were. -/
theorem RepCs_stored {cs new : List D} {b o off : Nat} {ns : List Value} (hst : Stays w S φ (w.setCells b (o + off) ns) S φ) (h : RepCs w S φ cs b o) (hn : RepVs w S φ new ns) (hl : off + new.length ≤ cs.length)
    (ht : w.there b (o + off) ns.length) : RepCs (w.setCells b (o + off) ns) S φ (place off cs new) b o := by
  have hlen := RepVs_length _ _ hn
  refine RepCs_of_get _ _ _ fun m d hd => ?_
  unfold place at hd
  by_cases h1 : m < off
  · rw [List.append_assoc, List.getElem?_append_left (by simp; omega), List.getElem?_take_of_lt h1] at hd
    obtain ⟨x, hx, hr⟩ := RepCs_get cs b o m d h hd
    refine ⟨x, ?_, Rep.mono hst _ _ hr⟩
    rw [World.cell?_setCells_out _ _ _ _ _ (fun _ _ => .inl (by show o + m < o + off; omega))]; exact hx
  · by_cases h2 : m < off + new.length
    · rw [List.append_assoc, List.getElem?_append_right (by simp; omega), List.getElem?_append_left (by simp; omega)] at hd
      have hmin : (cs.take off).length = off := by simp; omega
      rw [hmin] at hd
      obtain ⟨x, hx, hr⟩ := RepVs_get _ _ _ _ hn hd
      have hj : m - off < ns.length := by omega
      have := World.cell?_setCells_in b ns (o + off) w (fun j hj => (ht j hj).1) (m - off) hj
      rw [show o + off + (m - off) = o + m by omega] at this
      refine ⟨x, ?_, Rep.mono hst _ _ hr⟩
      rw [this, ← hx, List.getElem?_eq_getElem hj]
    · have hmin : (cs.take off ++ new).length = off + new.length := by simp; omega
      rw [List.getElem?_append_right (by rw [hmin]; omega), hmin, List.getElem?_drop] at hd
      rw [show off + new.length + (m - (off + new.length)) = m by omega] at hd
      obtain ⟨x, hx, hr⟩ := RepCs_get cs b o m d h hd
      refine ⟨x, ?_, Rep.mono hst _ _ hr⟩
      rw [World.cell?_setCells_out _ _ _ _ _ (fun _ _ => .inr (by show o + off + ns.length ≤ o + m; omega))]; exact hx

theorem RepCs_apart {cs : List D} {b o s : Nat} {ns : List Value} (hst : Stays w S φ (w.setCells b s ns) S φ) (h : RepCs w S φ cs b o) (hl : o + cs.length ≤ s ∨ s + ns.length ≤ o) : RepCs (w.setCells b s ns) S φ cs b o := by
  refine RepCs_of_get _ _ _ fun m d hd => ?_
  have hm : m < cs.length := (List.getElem?_eq_some_iff.1 hd).1
  obtain ⟨x, hx, hr⟩ := RepCs_get cs b o m d h hd
  refine ⟨x, ?_, Rep.mono hst _ _ hr⟩
  have hs : o + m < s ∨ s + ns.length ≤ o + m := by omega
  rw [World.cell?_setCells_out _ _ _ _ _ (fun _ _ => hs)]; exact hx

theorem wrc_sound {t : TypeId} {g : Bool} {n : Nat} {x y : D} {v u : Value} {mem' : Mem} (ht : Program.tsz C.P t = some (g, n)) (h : wrc mem n x y.cells = some mem') (hm : MSim S φ mem nx w) (hx : Rep w S φ x v) (hu : Rep w S φ y u) :
    ∃ w', (Instr.storeAt t v u).run C.P w = .ok () w' ∧ MSim S φ mem' nx w' ∧ Stays w S φ w' S φ ∧ Ext S φ mem w S φ mem' w' := by
  obtain ⟨ds, inf, hun, hi, hsz, _⟩ := tsz_out ht
  unfold wrc at h
  simp only [Option.ite_none_right_eq_some] at h
  obtain ⟨⟨hlen, hcell⟩, h⟩ := h
  have hvs := cells_rep hu (solid_of_all hcell)
  have hvl : u.cells.size = n := by rw [← Array.length_toList, RepVs_length _ _ hvs, hlen]
  have h1 := cells_one _ _ hvs hcell
  split at h
  · rename_i i off
    split at h
    · rename_i cs hl
      simp only [Option.ite_none_right_eq_some, Option.some.injEq] at h
      obtain ⟨hle, rfl⟩ := h
      obtain ⟨l, hφ, hS, hb⟩ := hm.mem i _ hl
      simp only [Rep] at hx
      obtain ⟨l', hφ', _, rfl⟩ := hx
      rw [hφ] at hφ'; simp only [Option.some.injEq] at hφ'; subst hφ'
      have hb0 := hb
      simp only [BRep] at hb
      obtain ⟨hr, ha, hbase, ⟨c, t', hc, hcs⟩, hrep⟩ := hb
      have hth : w.there l.b (l.base + off) n := there_of_block hc (by omega)
      refine ⟨_, run_storeAt_any hi hsz hvl hth h1, ?_⟩
      obtain ⟨f1, f2, f3, f4, f5, f6⟩ := setCells_facts l.b u.cells.toList (l.base + off) w
      refine write_own hm hφ hr hl f1 f2 f3 f4 f5 fun hst => ?_
      obtain ⟨c', hc', hs'⟩ := f6 _ _ _ hc
      simp only [BRep]
      have hpl : (place off cs y.cells).length = cs.length := by simp [place]; omega
      refine ⟨hr, ha, hbase, ⟨c', t', hc', by rw [hs', hcs, hpl]⟩, ?_⟩
      rw [hbase] at hst hth ⊢
      exact RepCs_stored hst hrep hvs (by omega) (by simpa [hvl] using hth)
    · simp at h
  · rename_i i ver ix off
    split at h
    · rename_i v' k es hl
      split at h
      · rename_i hv
        split at h
        · rename_i e he
          simp only [Option.ite_none_right_eq_some, Option.some.injEq] at h
          obtain ⟨hle, rfl⟩ := h
          obtain ⟨l, hφ, hS, hb⟩ := hm.mem i _ hl
          simp only [Rep] at hx
          obtain ⟨l', hφ', _, _, hx⟩ := hx
          rw [hφ] at hφ'; simp only [Option.some.injEq] at hφ'; subst hφ'
          simp only [BRep] at hb
          obtain ⟨ha, hver, hk, hb⟩ := hb
          obtain ⟨hr, rfl⟩ := hx (by omega)
          rcases hb with hb | ⟨_, ⟨c, t', hc, hcs⟩, hbd, hes⟩
          · simp [hb.2] at he
          · obtain ⟨hek, hec⟩ := RepEs_get es k l.b l.base ix e hes he
            have hix : ix < es.length := (List.getElem?_eq_some_iff.1 he).1
            have hbd2 : (ix + 1) * k ≤ es.length * k := Nat.mul_le_mul_right k hix
            rw [Nat.succ_mul] at hbd2
            have hth : w.there l.b (l.base + ix * l.k + off) n := there_of_block hc (by rw [hk]; omega)
            refine ⟨_, run_storeAt_any hi hsz hvl hth h1, ?_⟩
            obtain ⟨f1, f2, f3, f4, f5, f6⟩ := setCells_facts l.b u.cells.toList (l.base + ix * l.k + off) w
            refine write_own hm hφ hr hl f1 f2 f3 f4 f5 fun hst => ?_
            obtain ⟨c', hc', hs'⟩ := f6 _ _ _ hc
            simp only [BRep]
            refine ⟨ha, hver, hk, .inr ⟨hr, ⟨c', t', hc', by rw [hs', hcs]⟩, by simpa using hbd, ?_⟩⟩
            rw [hk] at hst hth ⊢
            refine RepEs_of_get _ _ _ _ fun j e' he' => ?_
            rw [List.getElem?_set] at he'
            split at he'
            · rename_i hij
              subst hij
              simp only [hix, if_true, Option.some.injEq] at he'; subst he'
              exact ⟨by simp [place]; omega, RepCs_stored hst hec hvs (by omega) (by simpa [hvl] using hth)⟩
            · rename_i hij
              obtain ⟨q1, q2⟩ := RepEs_get es k l.b l.base j e' hes he'
              refine ⟨q1, RepCs_apart hst q2 ?_⟩
              have hul : u.cells.toList.length = n := by simpa using hvl
              rcases Nat.lt_or_gt_of_ne hij with hlt | hgt
              · right
                have : (ix + 1) * k ≤ j * k := Nat.mul_le_mul_right k hlt
                rw [Nat.succ_mul] at this; omega
              · left
                have : (j + 1) * k ≤ ix * k := Nat.mul_le_mul_right k hgt
                rw [Nat.succ_mul] at this; omega
        · simp at h
      · simp at h
    · simp at h
  · simp at h
end
end Go.Fx

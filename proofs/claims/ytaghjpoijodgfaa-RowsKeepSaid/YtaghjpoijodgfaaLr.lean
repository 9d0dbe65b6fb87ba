/-
  RowsKeep: six rows of their own memory in a slice.
-/
import Derived.Test.YtaghjpoijodgfaaLLat
import Derived.Test.YtaghjpoijodgfaaRn
import Derived.Test.YtaghjpoijodgfaaXH
import Derived.Test.YtaghjpoijodgfaaCodeL02k
set_option linter.all false
set_option maxRecDepth 100000
set_option maxHeartbeats 4000000
namespace Go.Fx.Ytaghjpoijodgfaa
open Go Go.Fx Go.Proofs
/-- A row's length, its words as they are held, the block, the words. -/
structure Rw where
  n : Int
  d : D
  id : Nat
  l : List Int
instance : Inhabited Rw := ⟨⟨0, .pl (.slice none 0 0), 0, []⟩⟩
def encR (r : Rw) : List D := [I r.n, r.d]
/-- Nil, or a block of its own. -/
def SlJ (mem : Mem) (d : D) (l : List Int) (id : Nat) : Prop := (d = .pl (.slice none 0 0) ∧ l = []) ∨ ∃ ver, d = .osl id ver 0 l.length ∧ look mem id = some (.arr ver 1 (em encU l))
theorem SlJ.mono {mem mem' : Mem} {d : D} {l : List Int} {id : Nat} (h : SlJ mem d l id) (hk : ∀ b, look mem id = some b → look mem' id = look mem id) : SlJ mem' d l id := by
  rcases h with h | ⟨v, h1, h2⟩
  · exact .inl h
  · exact .inr ⟨v, h1, by rw [hk _ h2, h2]⟩
structure Al (base aid : Nat) (mem0 mem : Mem) (nx : Nat) (rs : List Rw) : Prop where
  a : ∃ v, look mem aid = some (.arr v 2 (em encR rs)) ∧ v = 0
  s : ∀ k, (h : k < rs.length) → SlJ mem rs[k].d rs[k].l rs[k].id
  id : ∀ k, (h : k < rs.length) → base ≤ rs[k].id ∧ rs[k].id < nx ∧ rs[k].id ≠ aid
  dj : ∀ i j, (hi : i < rs.length) → (hj : j < rs.length) → i ≠ j → rs[i].id ≠ rs[j].id
  b : base ≤ aid
  ax : aid < nx
  old : ∀ i, i < base → look mem i = look mem0 i
  len : ∀ k, (h : k < rs.length) → rs[k].l.length ≤ 200
section
variable {base aid : Nat} {mem0 mem : Mem} {nx : Nat} {rs : List Rw}
theorem Al.later (h : Al base aid mem0 mem nx rs) {n : Nat} (hn : nx ≤ n) : Al base aid mem0 mem n rs :=
  { h with id := fun k hk => ⟨(h.id k hk).1, Nat.lt_of_lt_of_le (h.id k hk).2.1 hn, (h.id k hk).2.2⟩, ax := Nat.lt_of_lt_of_le h.ax hn }
theorem set_encR {k : Nat} {r : Rw} (hk : k < rs.length) (h : encR r = encR rs[k]) : em encR (rs.set k r) = em encR rs := by
  rw [← em_set, h]
  unfold em
  rw [← List.getElem_map (f := encR) (h := by simpa using hk)]
  exact List.set_getElem_self _
theorem SlJ.other {d : D} {l : List Int} {id q : Nat} {b : Blk} (h : SlJ mem d l id) (hq : id ≠ q) : SlJ (upd mem q b) d l id := h.mono fun _ _ => look_upd_ne b hq mem
/-- A word of one row is written. -/
theorem Al.write (h : Al base aid mem0 mem nx rs) {k ver : Nat} (hk : k < rs.length) {l' : List Int} (hd : rs[k].d = .osl rs[k].id ver 0 rs[k].l.length) (hl : look mem rs[k].id = some (.arr ver 1 (em encU rs[k].l))) (he : l'.length = rs[k].l.length) :
    Al base aid mem0 (upd mem rs[k].id (.arr ver 1 (em encU l'))) nx (rs.set k ⟨rs[k].n, rs[k].d, rs[k].id, l'⟩) := by
  have hset : ∀ j (hj : j < (rs.set k ⟨rs[k].n, rs[k].d, rs[k].id, l'⟩).length), (rs.set k ⟨rs[k].n, rs[k].d, rs[k].id, l'⟩)[j] = if k = j then ⟨rs[k].n, rs[k].d, rs[k].id, l'⟩ else rs[j]'(by simpa using hj) := fun j hj => List.getElem_set hj
  have hid : ∀ j (hj : j < (rs.set k ⟨rs[k].n, rs[k].d, rs[k].id, l'⟩).length), (rs.set k ⟨rs[k].n, rs[k].d, rs[k].id, l'⟩)[j].id = (rs[j]'(by simpa using hj)).id := fun j hj => by
    rw [hset]; split
    · rename_i e; subst e; rfl
    · rfl
  obtain ⟨v, ha, hv⟩ := h.a
  refine ⟨⟨v, ?_, hv⟩, fun j hj => ?_, fun j hj => ?_, fun i j hi hj hne => ?_, h.b, h.ax, fun i hi => ?_, fun j hj => ?_⟩
  · rw [look_upd_ne _ (Ne.symm (h.id k hk).2.2), set_encR (r := ⟨rs[k].n, rs[k].d, rs[k].id, l'⟩) hk rfl]; rw [hv] at ha ⊢; exact ha
  · rw [hset]
    split
    · rename_i e; subst e
      exact .inr ⟨ver, by rw [hd, he], look_upd_same _ _ _ _ hl⟩
    · rename_i e
      exact (h.s j (by simpa using hj)).other (h.dj _ _ _ _ (fun g => e g.symm))
  · rw [hid]; exact h.id j (by simpa using hj)
  · rw [hid, hid]; exact h.dj i j _ _ hne
  · rw [look_upd_ne _ (by have := (h.id k hk).1; omega)]; exact h.old i hi
  · rw [hset]
    split
    · simp only [he]; exact h.len k hk
    · exact h.len j _
/-- One row grows by a word: its block is its own, or new. -/
theorem Al.grow (h : Al base aid mem0 mem nx rs) {k : Nat} (hk : k < rs.length) {mem' : Mem} {nx' q : Nat} {d : D} {l' : List Int} (hn : nx ≤ nx') (hq : q = rs[k].id ∨ nx ≤ q ∧ q < nx') (hs : SlJ mem' d l' q) (ha : look mem' aid = some (.arr 0 2 (em encR (rs.set k ⟨rs[k].n, d, q, l'⟩))))
    (hko : ∀ i, i < nx → i ≠ aid → i ≠ rs[k].id → look mem' i = look mem i) (hl : l'.length ≤ 200) : Al base aid mem0 mem' nx' (rs.set k ⟨rs[k].n, d, q, l'⟩) := by
  have hset : ∀ j (hj : j < (rs.set k ⟨rs[k].n, d, q, l'⟩).length), (rs.set k ⟨rs[k].n, d, q, l'⟩)[j] = if k = j then ⟨rs[k].n, d, q, l'⟩ else rs[j]'(by simpa using hj) := fun j hj => List.getElem_set hj
  have hqk := h.id k hk
  have hb := h.b
  have hax := h.ax
  refine ⟨⟨0, ha, rfl⟩, fun j hj => ?_, fun j hj => ?_, fun i j hi hj hne => ?_, h.b, by omega, fun i hi => ?_, fun j hj => ?_⟩
  · rw [hset]
    split
    · exact hs
    · rename_i e
      have hj' : j < rs.length := by simpa using hj
      have g := h.id j hj'
      exact (h.s j hj').mono fun _ _ => hko _ g.2.1 g.2.2 (h.dj j k hj' hk (fun g => e g.symm))
  · rw [hset]
    split
    · simp only []; omega
    · have := h.id j (by simpa using hj); omega
  · rw [hset, hset]
    by_cases e1 : k = i
    · by_cases e2 : k = j
      · omega
      · rw [if_pos e1, if_neg e2]
        have hj' : j < rs.length := by simpa using hj
        have g := h.id j hj'
        have g2 := h.dj k j hk hj' e2
        simp only []; omega
    · by_cases e2 : k = j
      · rw [if_neg e1, if_pos e2]
        have hi' : i < rs.length := by simpa using hi
        have g := h.id i hi'
        have g2 := h.dj i k hi' hk (fun g => e1 g.symm)
        simp only []; omega
      · rw [if_neg e1, if_neg e2]; exact h.dj i j _ _ hne
  · rw [hko i (by omega) (by omega) (by omega)]; exact h.old i hi
  · rw [hset]
    split
    · exact hl
    · exact h.len j _
end
/-- What is written into row k. -/
def tl (k m : Nat) : List Int := (List.range m).map (fun q : Nat => 100 * (k : Int) + (q : Int)) ++ [9000 + (k : Int)]
def Dn (k : Nat) (rs : List Rw) : Prop := ∀ j, (h : j < rs.length) → j < k → ∃ m, m ≤ 199 ∧ rs[j].l = tl j m
def Pt (k p : Nat) (rs : List Rw) : Prop := ∀ (h : k < rs.length) q, q < p → rs[k].l[q]? = some (100 * (k : Int) + q)
theorem pt_full {K p : Nat} {l : List Int} (h : ∀ q, q < p → l[q]? = some (100 * (K : Int) + q)) (hp : p = l.length) : l ++ [9000 + (K : Int)] = tl K p := by
  unfold tl
  congr 1
  refine List.ext_getElem? fun q => ?_
  by_cases hq : q < p
  · rw [h q hq, List.getElem?_map, List.getElem?_range hq]; rfl
  · rw [List.getElem?_eq_none (by omega), List.getElem?_eq_none (by simp; omega)]
theorem set_get {rs : List Rw} {K j : Nat} {r : Rw} (hj : j < (rs.set K r).length) : (rs.set K r)[j] = if K = j then r else rs[j]'(by simpa using hj) := List.getElem_set hj
theorem dn_set {rs : List Rw} {K m : Nat} {r : Rw} (h : Dn K rs) (hr : r.l = tl K m) (hm : m ≤ 199) : Dn (K + 1) (rs.set K r) := fun j hj hk => by
  rw [set_get hj]
  by_cases e : K = j
  · subst e; rw [if_pos rfl]; exact ⟨m, hm, hr⟩
  · rw [if_neg e]; exact h j (by simpa using hj) (by omega)
theorem dn_in {rs : List Rw} {K : Nat} {r : Rw} (h : Dn K rs) : Dn K (rs.set K r) := fun j hj hk => by
  rw [set_get hj, if_neg (by omega)]; exact h j (by simpa using hj) hk
theorem sh_set {rs : List Rw} {K : Nat} {r : Rw} (h : ∀ j, (h : j < rs.length) → K ≤ j → rs[j].l.length ≤ 199) : ∀ j, (h : j < (rs.set K r).length) → K + 1 ≤ j → (rs.set K r)[j].l.length ≤ 199 := fun j hj hk => by
  rw [set_get hj, if_neg (by omega)]; exact h j (by simpa using hj) (by omega)
theorem sh_in {rs : List Rw} {K : Nat} {r : Rw} (h : ∀ j, (h : j < rs.length) → K ≤ j → rs[j].l.length ≤ 199) (hr : r.l.length ≤ 199) : ∀ j, (h : j < (rs.set K r).length) → K ≤ j → (rs.set K r)[j].l.length ≤ 199 := fun j hj hk => by
  rw [set_get hj]
  split
  · exact hr
  · exact h j (by simpa using hj) hk
structure L3 where
  k : Nat
  mem : Mem
  rs : List Rw
structure L3Ok (aid : Nat) (mem0 : Mem) (x : L3) (nx : Nat) : Prop where
  al : Al 26 aid mem0 x.mem nx x.rs
  len : x.rs.length = 6
  k : x.k ≤ 6
  dn : Dn x.k x.rs
  sh : ∀ j, (h : j < x.rs.length) → x.k ≤ j → x.rs[j].l.length ≤ 199
theorem ia_R {aid : Nat} {mem : Mem} {v : Nat} {rs : List Rw} (h : look mem aid = some (.arr v 2 (em encR rs))) {j : IntKind} {i : Int} : iaD mem 2 (.osl aid v 0 6) (.pl (.int j i)) = if 0 ≤ i ∧ i < 6 then some (.oel aid v i.toNat 0) else none := by
  have e : cur mem aid v 2 = true := by unfold cur; rw [h]; simp
  simp only [iaD, e, if_true]
  by_cases h1 : 0 ≤ i ∧ i < 6
  · rw [if_pos h1, if_pos (by simpa using h1), Nat.zero_add]
  · rw [if_neg h1, if_neg (by simpa using h1)]
/-- What the calls answer: a row of new memory, or none. -/
def RowA (nx : Nat) : KD := fun d m k => (∃ n l e, l.length ≤ 199 ∧ RowN n l e nx d m k) ∨ ∃ e, RowZ e d m k
theorem rowA_call {P : Program} {f : FuncId} {args args' : List D} {mem mf : Mem} {nx : Nat} {K : KD} (hc : CallT P f args' [] nx (RowA nx)) (hsub : memSub mem mf) (hfr : frzs mf 100 args = some args') (hnew : ∀ i, nx ≤ i → look mem i = none)
    (hk : ∀ (r : Rw) e mem' n', nx ≤ n' → (∀ i, i < nx → look mem' i = look mem i) → SlJ mem' r.d r.l r.id → nx ≤ r.id → r.id ≤ n' → r.l.length ≤ 199 → (∀ i, n' ≤ i → look mem' i = none) → K (.tup [.agg [I r.n, r.d], I e]) mem' n') : CallT P f args mem nx K := by
  refine CallT_new hsub hfr hc ?_
  rintro d m n' hn h
  rcases h with ⟨n, l, e, hl, id, ver, h1, h2, rfl, rfl⟩ | ⟨e, rfl, rfl⟩
  · refine ⟨by simp [D.cln, D.clns, look], fun i b hb => ?_, ?_⟩
    · rw [look_cons] at hb
      split at hb
      · simp only [Option.some.injEq] at hb; subst hb
        exact em_cln l
      · simp [look] at hb
    · refine hk ⟨n, .osl id ver 0 l.length, id, l⟩ e _ n' hn (fun i hi => ?_) (.inr ⟨ver, rfl, ?_⟩) h1 (by simp; omega) hl (fun i hi => ?_)
      · rw [List.singleton_append, look_cons, if_neg (by omega)]
      · rw [List.singleton_append, look_cons, if_pos rfl]
      · rw [List.singleton_append, look_cons, if_neg (by omega)]; exact hnew i (by omega)
  · refine ⟨by simp [D.cln, D.clns], fun i b hb => by simp [look] at hb, ?_⟩
    exact hk ⟨0, .pl (.slice none 0 0), nx, []⟩ e _ n' hn (fun i hi => rfl) (.inl ⟨rfl, rfl⟩) (Nat.le_refl _) hn (by simp) (fun i hi => hnew i (by omega))
theorem good_len9 {n : Int} {l : List Int} (h : Good n l) : l.length ≤ 199 := by have := h.2.1; have := h.2.2.1; omega
theorem putA (n i v : Int) (l : List Int) (nx : Nat) : CallT Try.prog 17 [row n l, I i, I v] [] nx (RowA nx) :=
  CallT_mono (Put_n n i v l nx) fun d m k h => by
    unfold PutK at h
    split at h
    · rename_i hg
      split at h
      · exact .inl ⟨_, _, _, by unfold putL; rw [List.length_set]; exact good_len9 hg, h⟩
      · exact .inr ⟨_, h⟩
    · exact .inr ⟨_, h⟩
theorem bothA {h : Int → Int → Int} {n m : Int} {l k : List Int} {nx : Nat} {d : D} {mm : Mem} {kk : Nat} (hb : BothK h n l m k nx d mm kk) : RowA nx d mm kk := by
  unfold BothK at hb
  split at hb
  · rename_i ht
    exact .inl ⟨_, _, _, by have := good_len9 ht.1; simp; omega, hb⟩
  · exact .inr ⟨_, hb⟩
theorem joinA (n m : Int) (l k : List Int) (nx : Nat) : CallT Try.prog 18 [row n l, row m k] [] nx (RowA nx) := CallT_mono (Join_n n m l k nx) fun d m k h => bothA h
theorem meetA (n m : Int) (l k : List Int) (nx : Nat) : CallT Try.prog 19 [row n l, row m k] [] nx (RowA nx) := CallT_mono (Meet_n n m l k nx) fun d m k h => bothA h
theorem newA (n : Int) (nx : Nat) : CallT Try.prog 11 [I n] [] nx (RowA nx) :=
  CallT_mono (New_n n nx) fun d m k h => by
    unfold NewK at h
    split at h
    · exact .inl ⟨_, _, _, by simp; omega, h⟩
    · exact .inr ⟨_, h⟩
theorem law_RowsKeep_at (n m i v : Int) (l k : List Int) (hl : l.length * 8 ≤ reachBytes) (hk : k.length * 8 ≤ reachBytes) (wl : AllW l) : Pure Try.prog 4 [row n l, row m k, I i, I v] (B true) := by
  have hl4 : l.length ≤ 2 ^ 44 := by unfold reachBytes at hl; omega
  have hk4 : k.length ≤ 2 ^ 44 := by unfold reachBytes at hk; omega
  refine Own.pu4 (by simp) ?_
  have b1 : l.length * 8 ≤ 3 * 2 ^ 46 := by omega
  have b2 : (l.length + 2) * 8 ≤ 3 * 2 ^ 46 := by omega
  simp -implicitDefEqProofs [Own.ac4, row]
  have hlit : bslI 1 2 [.int .u64 0] [(0, 1, .pl (.int .u64 71)), (1, 1, .pl (.int .u64 72))] = some (.sl (em encU [71, 72])) := rfl
  have hsl : slsD [(8, .arr 1 1 (em encU (l ++ [71, 72])))] false 1 (.osl 8 1 0 (l.length + 2)) none (some (.pl (.int .i64 l.length))) = some (.osl 8 1 0 l.length) := by
    simp [slsD, curv, bound, look]
    omega
  refine pcK_of (awake_c) (by simp) ?_
  simp -implicitDefEqProofs [-bslI, hlit, b1, b2, hsl]
  refine pcK_of (copied_c m k hk) (by simp) ?_
  simp -implicitDefEqProofs
  have hf1 : frzs [(24, Blk.box [I m, D.sl (em encU k)]), (20, Blk.box [I n, D.osl 8 1 0 l.length]), (8, Blk.arr 1 1 (em encU (l ++ [71, 72])))] 100 [.agg [I n, .osl 8 1 0 l.length], I i, I v] = some [row n l, I i, I v] := by
    simp [frzs, frz, look]
  have hf2 : frzs [(24, Blk.box [I m, D.sl (em encU k)]), (20, Blk.box [I n, D.osl 8 1 0 l.length]), (8, Blk.arr 1 1 (em encU (l ++ [71, 72])))] 100 [.agg [I n, .osl 8 1 0 l.length], .agg [I m, .sl (em encU k)]] = some [row n l, row m k] := by
    simp [frzs, frz, look]
  have hf3 : frzs [(24, Blk.box [I m, D.sl (em encU k)]), (20, Blk.box [I n, D.osl 8 1 0 l.length]), (8, Blk.arr 1 1 (em encU (l ++ [71, 72])))] 100 [.agg [I m, .sl (em encU k)], .agg [I n, .osl 8 1 0 l.length]] = some [row m k, row n l] := by
    simp [frzs, frz, look]
  have hf4 : ∀ m0, frzs m0 100 [I n] = some [I n] := fun m0 => by simp [frzs, frz]
  have h20 : look [(24, Blk.box [I m, D.sl (em encU k)]), (20, Blk.box [I n, D.osl 8 1 0 l.length]), (8, Blk.arr 1 1 (em encU (l ++ [71, 72])))] 20 = some (.box [I n, D.osl 8 1 0 l.length]) := rfl
  have h24 : look [(24, Blk.box [I m, D.sl (em encU k)]), (20, Blk.box [I n, D.osl 8 1 0 l.length]), (8, Blk.arr 1 1 (em encU (l ++ [71, 72])))] 24 = some (.box [I m, D.sl (em encU k)]) := rfl
  have h8 : look [(24, Blk.box [I m, D.sl (em encU k)]), (20, Blk.box [I n, D.osl 8 1 0 l.length]), (8, Blk.arr 1 1 (em encU (l ++ [71, 72])))] 8 = some (.arr 1 1 (em encU (l ++ [71, 72]))) := rfl
  have hf5 : frzs [(24, Blk.box [I m, D.sl (em encU k)]), (20, Blk.box [I n, D.osl 8 1 0 l.length]), (8, Blk.arr 1 1 (em encU (l ++ [71, 72])))] 100 [.agg [I n, .osl 8 1 0 l.length], row n l] = some [row n l, row n l] := by
    simp [frzs, frz, look]
  have hf6 : frzs [(24, Blk.box [I m, D.sl (em encU k)]), (20, Blk.box [I n, D.osl 8 1 0 l.length]), (8, Blk.arr 1 1 (em encU (l ++ [71, 72])))] 100 [row m k, row m k] = some [row m k, row m k] := by
    simp [frzs, frz, look]
  have hno : ∀ i, 26 ≤ i → look [(24, Blk.box [I m, D.sl (em encU k)]), (20, Blk.box [I n, D.osl 8 1 0 l.length]), (8, Blk.arr 1 1 (em encU (l ++ [71, 72])))] i = none := fun i hi => by
    simp only [look]; rw [if_neg (by omega), if_neg (by omega), if_neg (by omega)]
  have hms : ∀ {mem : Mem}, (∀ i, i < 26 → look mem i = look [(24, Blk.box [I m, D.sl (em encU k)]), (20, Blk.box [I n, D.osl 8 1 0 l.length]), (8, Blk.arr 1 1 (em encU (l ++ [71, 72])))] i) → memSub mem [(24, Blk.box [I m, D.sl (em encU k)]), (20, Blk.box [I n, D.osl 8 1 0 l.length]), (8, Blk.arr 1 1 (em encU (l ++ [71, 72])))] := fun h i b hb => by
    rcases Nat.lt_or_ge i 26 with g | g
    · rw [h i g]; exact hb
    · rw [hno i g] at hb; simp at hb
  generalize [(24, Blk.box [I m, D.sl (em encU k)]), (20, Blk.box [I n, D.osl 8 1 0 l.length]), (8, Blk.arr 1 1 (em encU (l ++ [71, 72])))] = mem0 at *
  refine clK_of (rowA_call (putA n i v l _) (memSub_refl _) hf1 (fun i hi => hno i (by omega)) (fun r0 e0 m1 n1 g1 a1 s1 c1 d1 l1 f1 => ?_))
  have o1 : ∀ i, i < 26 → look m1 i = look mem0 i := fun i hi => a1 i (by omega)
  have p20_1 : look m1 20 = some (.box [I n, D.osl 8 1 0 l.length]) := by rw [o1 20 (by omega), h20]
  have p24_1 : look m1 24 = some (.box [I m, D.sl (em encU k)]) := by rw [o1 24 (by omega), h24]
  have zz1 : ∀ c, c < 36 → (n1 = c) = False := fun c hc => eq_false (by omega)
  simp -implicitDefEqProofs [p20_1, p24_1, zz1]
  refine ⟨by rcases s1 with ⟨e, _⟩ | ⟨_, e, _⟩ <;> rw [e], ?_⟩
  refine clK_of (rowA_call (putA n i v l _) (hms (fun i hi => by rw [look_cons, if_neg (by omega)]; exact o1 i hi)) (hf1) (fun i hi => by rw [look_cons, if_neg (by omega)]; exact f1 i (by omega)) (fun r1 e1 m2 n2 g2 a2 s2 c2 d2 l2 f2 => ?_))
  have o2 : ∀ i, i < 26 → look m2 i = look mem0 i := fun i hi => by rw [a2 i (by omega), look_cons, if_neg (by omega)]; exact o1 i hi
  have p20_2 : look m2 20 = some (.box [I n, D.osl 8 1 0 l.length]) := by rw [o2 20 (by omega), h20]
  have p24_2 : look m2 24 = some (.box [I m, D.sl (em encU k)]) := by rw [o2 24 (by omega), h24]
  have zz2 : ∀ c, c < 36 → (n2 = c) = False := fun c hc => eq_false (by omega)
  simp -implicitDefEqProofs [p20_2, p24_2, zz1, zz2]
  refine ⟨by rcases s2 with ⟨e, _⟩ | ⟨_, e, _⟩ <;> rw [e], ?_⟩
  refine clK_of (rowA_call (joinA n m l k _) (hms (fun i hi => by rw [look_cons, if_neg (by omega)]; exact o2 i hi)) (hf2) (fun i hi => by rw [look_cons, if_neg (by omega)]; exact f2 i (by omega)) (fun r2 e2 m3 n3 g3 a3 s3 c3 d3 l3 f3 => ?_))
  have o3 : ∀ i, i < 26 → look m3 i = look mem0 i := fun i hi => by rw [a3 i (by omega), look_cons, if_neg (by omega)]; exact o2 i hi
  have p20_3 : look m3 20 = some (.box [I n, D.osl 8 1 0 l.length]) := by rw [o3 20 (by omega), h20]
  have p24_3 : look m3 24 = some (.box [I m, D.sl (em encU k)]) := by rw [o3 24 (by omega), h24]
  have zz3 : ∀ c, c < 36 → (n3 = c) = False := fun c hc => eq_false (by omega)
  simp -implicitDefEqProofs [p20_3, p24_3, zz1, zz2, zz3]
  refine ⟨by rcases s3 with ⟨e, _⟩ | ⟨_, e, _⟩ <;> rw [e], ?_⟩
  refine clK_of (rowA_call (meetA m n k l _) (hms (fun i hi => by rw [look_cons, if_neg (by omega)]; exact o3 i hi)) (hf3) (fun i hi => by rw [look_cons, if_neg (by omega)]; exact f3 i (by omega)) (fun r3 e3 m4 n4 g4 a4 s4 c4 d4 l4 f4 => ?_))
  have o4 : ∀ i, i < 26 → look m4 i = look mem0 i := fun i hi => by rw [a4 i (by omega), look_cons, if_neg (by omega)]; exact o3 i hi
  have p20_4 : look m4 20 = some (.box [I n, D.osl 8 1 0 l.length]) := by rw [o4 20 (by omega), h20]
  have p24_4 : look m4 24 = some (.box [I m, D.sl (em encU k)]) := by rw [o4 24 (by omega), h24]
  have zz4 : ∀ c, c < 36 → (n4 = c) = False := fun c hc => eq_false (by omega)
  simp -implicitDefEqProofs [p20_4, p24_4, zz1, zz2, zz3, zz4]
  refine ⟨by rcases s4 with ⟨e, _⟩ | ⟨_, e, _⟩ <;> rw [e], ?_⟩
  refine clK_of (rowA_call (newA n _) (hms (fun i hi => by rw [look_cons, if_neg (by omega)]; exact o4 i hi)) (hf4 _) (fun i hi => by rw [look_cons, if_neg (by omega)]; exact f4 i (by omega)) (fun r4 e4 m5 n5 g5 a5 s5 c5 d5 l5 f5 => ?_))
  have o5 : ∀ i, i < 26 → look m5 i = look mem0 i := fun i hi => by rw [a5 i (by omega), look_cons, if_neg (by omega)]; exact o4 i hi
  have p20_5 : look m5 20 = some (.box [I n, D.osl 8 1 0 l.length]) := by rw [o5 20 (by omega), h20]
  have p24_5 : look m5 24 = some (.box [I m, D.sl (em encU k)]) := by rw [o5 24 (by omega), h24]
  have zz5 : ∀ c, c < 36 → (n5 = c) = False := fun c hc => eq_false (by omega)
  simp -implicitDefEqProofs [p20_5, p24_5, zz1, zz2, zz3, zz4, zz5]
  refine ⟨by rcases s5 with ⟨e, _⟩ | ⟨_, e, _⟩ <;> rw [e], ?_⟩
  refine clK_of (rowA_call (newA n _) (hms (fun i hi => by rw [look_cons, if_neg (by omega)]; exact o5 i hi)) (hf4 _) (fun i hi => by rw [look_cons, if_neg (by omega)]; exact f5 i (by omega)) (fun r5 e5 m6 n6 g6 a6 s6 c6 d6 l6 f6 => ?_))
  have o6 : ∀ i, i < 26 → look m6 i = look mem0 i := fun i hi => by rw [a6 i (by omega), look_cons, if_neg (by omega)]; exact o5 i hi
  have p20_6 : look m6 20 = some (.box [I n, D.osl 8 1 0 l.length]) := by rw [o6 20 (by omega), h20]
  have p24_6 : look m6 24 = some (.box [I m, D.sl (em encU k)]) := by rw [o6 24 (by omega), h24]
  have zz6 : ∀ c, c < 36 → (n6 = c) = False := fun c hc => eq_false (by omega)
  have x0 : look m6 (33) = some (.box [I r0.n, r0.d]) := by repeat (first | rw [look_cons, if_pos rfl] | rw [look_cons, if_neg (by omega)] | rw [a6 _ (by omega)] | rw [a5 _ (by omega)] | rw [a4 _ (by omega)] | rw [a3 _ (by omega)] | rw [a2 _ (by omega)])
  have x1 : look m6 (n1 + 7) = some (.box [I r1.n, r1.d]) := by repeat (first | rw [look_cons, if_pos rfl] | rw [look_cons, if_neg (by omega)] | rw [a6 _ (by omega)] | rw [a5 _ (by omega)] | rw [a4 _ (by omega)] | rw [a3 _ (by omega)] | rw [a2 _ (by omega)])
  have x2 : look m6 (n2 + 6) = some (.box [I r2.n, r2.d]) := by repeat (first | rw [look_cons, if_pos rfl] | rw [look_cons, if_neg (by omega)] | rw [a6 _ (by omega)] | rw [a5 _ (by omega)] | rw [a4 _ (by omega)] | rw [a3 _ (by omega)] | rw [a2 _ (by omega)])
  have x3 : look m6 (n3 + 6) = some (.box [I r3.n, r3.d]) := by repeat (first | rw [look_cons, if_pos rfl] | rw [look_cons, if_neg (by omega)] | rw [a6 _ (by omega)] | rw [a5 _ (by omega)] | rw [a4 _ (by omega)] | rw [a3 _ (by omega)] | rw [a2 _ (by omega)])
  have x4 : look m6 (n4 + 6) = some (.box [I r4.n, r4.d]) := by repeat (first | rw [look_cons, if_pos rfl] | rw [look_cons, if_neg (by omega)] | rw [a6 _ (by omega)] | rw [a5 _ (by omega)] | rw [a4 _ (by omega)] | rw [a3 _ (by omega)] | rw [a2 _ (by omega)])
  have t0 : ∀ (x y : Blk), SlJ ((n6 + 6, x) :: (n5 + 6, y) :: m6) r0.d r0.l r0.id := fun x y => s1.mono fun b hb => by
    have : r0.id < n1 := by
      rcases Nat.lt_or_ge r0.id n1 with g | g
      · exact g
      · rw [f1 _ g] at hb; simp at hb
    rw [look_cons, if_neg (by omega), look_cons, if_neg (by omega), a6 _ (by omega), look_cons, if_neg (by omega), a5 _ (by omega), look_cons, if_neg (by omega), a4 _ (by omega), look_cons, if_neg (by omega), a3 _ (by omega), look_cons, if_neg (by omega), a2 _ (by omega), look_cons, if_neg (by omega)]
  have t1 : ∀ (x y : Blk), SlJ ((n6 + 6, x) :: (n5 + 6, y) :: m6) r1.d r1.l r1.id := fun x y => s2.mono fun b hb => by
    have : r1.id < n2 := by
      rcases Nat.lt_or_ge r1.id n2 with g | g
      · exact g
      · rw [f2 _ g] at hb; simp at hb
    rw [look_cons, if_neg (by omega), look_cons, if_neg (by omega), a6 _ (by omega), look_cons, if_neg (by omega), a5 _ (by omega), look_cons, if_neg (by omega), a4 _ (by omega), look_cons, if_neg (by omega), a3 _ (by omega), look_cons, if_neg (by omega)]
  have t2 : ∀ (x y : Blk), SlJ ((n6 + 6, x) :: (n5 + 6, y) :: m6) r2.d r2.l r2.id := fun x y => s3.mono fun b hb => by
    have : r2.id < n3 := by
      rcases Nat.lt_or_ge r2.id n3 with g | g
      · exact g
      · rw [f3 _ g] at hb; simp at hb
    rw [look_cons, if_neg (by omega), look_cons, if_neg (by omega), a6 _ (by omega), look_cons, if_neg (by omega), a5 _ (by omega), look_cons, if_neg (by omega), a4 _ (by omega), look_cons, if_neg (by omega)]
  have t3 : ∀ (x y : Blk), SlJ ((n6 + 6, x) :: (n5 + 6, y) :: m6) r3.d r3.l r3.id := fun x y => s4.mono fun b hb => by
    have : r3.id < n4 := by
      rcases Nat.lt_or_ge r3.id n4 with g | g
      · exact g
      · rw [f4 _ g] at hb; simp at hb
    rw [look_cons, if_neg (by omega), look_cons, if_neg (by omega), a6 _ (by omega), look_cons, if_neg (by omega), a5 _ (by omega), look_cons, if_neg (by omega)]
  have t4 : ∀ (x y : Blk), SlJ ((n6 + 6, x) :: (n5 + 6, y) :: m6) r4.d r4.l r4.id := fun x y => s5.mono fun b hb => by
    have : r4.id < n5 := by
      rcases Nat.lt_or_ge r4.id n5 with g | g
      · exact g
      · rw [f5 _ g] at hb; simp at hb
    rw [look_cons, if_neg (by omega), look_cons, if_neg (by omega), a6 _ (by omega), look_cons, if_neg (by omega)]
  have t5 : ∀ (x y : Blk), SlJ ((n6 + 6, x) :: (n5 + 6, y) :: m6) r5.d r5.l r5.id := fun x y => s6.mono fun b hb => by
    have : r5.id < n6 := by
      rcases Nat.lt_or_ge r5.id n6 with g | g
      · exact g
      · rw [f6 _ g] at hb; simp at hb
    rw [look_cons, if_neg (by omega), look_cons, if_neg (by omega)]
  simp -implicitDefEqProofs [p20_6, p24_6, zz1, zz2, zz3, zz4, zz5, zz6, x0]
  refine ⟨by rcases s6 with ⟨e, _⟩ | ⟨_, e, _⟩ <;> rw [e], ?_⟩
  have y1 : (n5 = n1 + 1) = False := eq_false (by omega)
  have y2 : (n5 = n2) = False := eq_false (by omega)
  have y3 : (n5 = n3) = False := eq_false (by omega)
  have y4 : (n5 = n4) = False := eq_false (by omega)
  simp -implicitDefEqProofs [x0, x1, x2, x3, x4, y1, y2, y3, y4, zz1, zz2, zz3, zz4, zz5, zz6]
  have hal : Al 26 (n6 + 6) mem0 ((n6 + 6, .arr 0 2 (em encR [r0, r1, r2, r3, r4, r5])) :: (n5 + 6, .box [I r5.n, r5.d]) :: m6) (n6 + 8) [r0, r1, r2, r3, r4, r5] := by
    refine ⟨⟨0, by rw [look_cons, if_pos rfl], rfl⟩, fun j hj => ?_, fun j hj => ?_, fun i j hi hj hne => ?_, by omega, by omega, fun i hi => ?_, fun j hj => ?_⟩
    · match j, hj with
      | 0, _ => exact t0 _ _
      | 1, _ => exact t1 _ _
      | 2, _ => exact t2 _ _
      | 3, _ => exact t3 _ _
      | 4, _ => exact t4 _ _
      | 5, _ => exact t5 _ _
      | j + 6, hj => simp at hj; omega
    · match j, hj with
      | 0, _ => simp; omega
      | 1, _ => simp; omega
      | 2, _ => simp; omega
      | 3, _ => simp; omega
      | 4, _ => simp; omega
      | 5, _ => simp; omega
      | j + 6, hj => simp at hj; omega
    · have key : ∀ i j, (hi : i < 6) → (hj : j < 6) → i < j → ([r0, r1, r2, r3, r4, r5][i]).id < ([r0, r1, r2, r3, r4, r5][j]).id := fun i j hi hj hij => by
        have hi' : i = 0 ∨ i = 1 ∨ i = 2 ∨ i = 3 ∨ i = 4 ∨ i = 5 := by omega
        have hj' : j = 0 ∨ j = 1 ∨ j = 2 ∨ j = 3 ∨ j = 4 ∨ j = 5 := by omega
        rcases hi' with rfl | rfl | rfl | rfl | rfl | rfl <;> rcases hj' with rfl | rfl | rfl | rfl | rfl | rfl <;> first | omega | (simp; omega)
      rcases Nat.lt_or_ge i j with g | g
      · have := key i j hi hj g; omega
      · have := key j i hj hi (by omega); omega
    · rw [look_cons, if_neg (by omega), look_cons, if_neg (by omega)]; exact o6 i hi
    · match j, hj with
      | 0, _ => simp; omega
      | 1, _ => simp; omega
      | 2, _ => simp; omega
      | 3, _ => simp; omega
      | 4, _ => simp; omega
      | 5, _ => simp; omega
      | j + 6, hj => simp at hj; omega
  have hbase : L3Ok (n6 + 6) mem0 ⟨0, _, _⟩ (n6 + 8 + 1) := ⟨hal.later (by omega), rfl, by simp, fun j hj h => by simp only at h; omega, fun j hj h => by
    simp only at hj ⊢
    match j, hj with
    | 0, _ => simpa using l1
    | 1, _ => simpa using l2
    | 2, _ => simpa using l3
    | 3, _ => simpa using l4
    | 4, _ => simpa using l5
    | 5, _ => simpa using l6
    | j + 6, hj => simp at hj; omega⟩
  clear hal t0 t1 t2 t3 t4 t5 x0 x1 x2 x3 x4 y1 y2 y3 y4 s1 s2 s3 s4 s5 s6
  refine Own.lp4_3 (α := L3) (fun x _ => [(25, I x.k), (26, .top)]) (fun x _ => x.mem) (fun x nx => L3Ok (n6 + 6) mem0 x nx) (fun x => 6 - x.k) _ hbase (by simp) (by simp; exact memLe_refl _) ?_
  have haid : 26 ≤ n6 + 6 := by omega
  generalize n6 + 6 = aid at *
  rintro ⟨K, mem, rs⟩ nx ⟨al, len, hk6, dn, sh⟩
  simp only at al len hk6 dn sh
  by_cases hK : K < 6
  · have hK2 : (K : Int) < 6 := by omega
    have w1 := wr64 (x := (K : Int) + 1) (by omega) (by omega)
    have w2 := wr64 (x := 100 * (K : Int)) (by omega) (by omega)
    have w3 := wr64 (x := 9000 + (K : Int)) (by omega) (by omega)
    have w4 : IntKind.u64.wrap (9000 + (K : Int)) = 9000 + (K : Int) := wru64 (by omega) (by omega)
    obtain ⟨v0, ha0, rfl⟩ := al.a
    have hlen0 : lenD mem false (.osl aid 0 0 6) = some (I 6) := by simp [lenD, curv, ha0]
    simp -implicitDefEqProofs [-lenD, hlen0, Own.lb4_3, hK2]
    refine Own.lp4_2 (α := L3) (fun x _ => [(26, I x.k)]) (fun x _ => x.mem) (fun x nx => Al 26 aid mem0 x.mem nx x.rs ∧ x.rs.length = 6 ∧ Dn K x.rs ∧ (∀ j, (h : j < x.rs.length) → K ≤ j → x.rs[j].l.length ≤ 199) ∧ Pt K x.k x.rs ∧ x.k ≤ 199 ∧ ∀ (h : K < x.rs.length), x.k ≤ x.rs[K].l.length) (fun x => 200 - x.k) ⟨0, mem, rs⟩ ⟨al.later (by omega), len, dn, sh, fun h q hq => by simp only at hq; omega, by simp, fun h => by simp⟩ (by simp) (memLe_refl _) ?_
    clear al len dn sh ha0 hlen0
    rintro ⟨p, mem, rs⟩ nx2 ⟨al, len, dn, sh, pt, hp9, hpl⟩
    simp only at al len dn sh pt hp9 hpl
    obtain ⟨v0, ha0, rfl⟩ := al.a
    have hKr : K < rs.length := by omega
    obtain ⟨r, hr⟩ : ∃ r, rs[K] = r := ⟨_, rfl⟩
    have hr? : rs[K]? = some r := by rw [List.getElem?_eq_getElem hKr, hr]
    have sr := al.s K hKr
    have shr := sh K hKr (Nat.le_refl _)
    have hplr := hpl hKr
    have hir := al.id K hKr
    rw [hr] at sr shr hplr hir
    have hcur : cur mem aid 0 2 = true := by simp [cur, ha0]
    have w5 := wr64 (x := (p : Int) + 1) (by omega) (by omega)
    have w6 := wr64 (x := 100 * (K : Int) + (p : Int)) (by omega) (by omega)
    have w7 : IntKind.u64.wrap (100 * (K : Int) + (p : Int)) = 100 * (K : Int) + (p : Int) := wru64 (by omega) (by omega)
    have hiaK : iaD mem 2 (.osl aid 0 0 6) (I K) = some (.oel aid 0 K 0) := by
      rw [ia_R ha0, if_pos ⟨by omega, hK2⟩]; simp
    rcases sr with ⟨hd, hl0⟩ | ⟨ver, hd, hlk⟩
    · have hp0 : p = 0 := by rw [hl0] at hplr; simpa using hplr
      subst hp0
      have hlenz : lenD mem false (.pl (.slice none 0 0)) = some (I 0) := rfl
      have hax := al.ax
      have z1 : (nx2 + 8 + 11 = aid) = False := eq_false (by omega)
      have hset : (em encR rs).set K [I r.n, .osl (nx2 + 8 + 11) 0 0 1] = em encR (rs.set K ⟨r.n, .osl (nx2 + 8 + 11) 0 0 1, nx2 + 8 + 11, [9000 + (K : Int)]⟩) := em_set (enc := encR) (x := ⟨r.n, .osl (nx2 + 8 + 11) 0 0 1, nx2 + 8 + 11, [9000 + (K : Int)]⟩)
      simp -implicitDefEqProofs [-lenD, Own.lb4_2, hiaK, ha0, hr, hr?, encR, hd, hKr, hlenz, w1, w2, w3, w4, z1, hK2, hset]
      have hg := al.grow hKr (nx' := nx2 + 8 + 15 + 3) (q := nx2 + 8 + 11) (d := .osl (nx2 + 8 + 11) 0 0 1) (l' := [9000 + (K : Int)]) (mem' := (nx2 + 8 + 11, .arr 0 1 (em encU [9000 + (K : Int)])) :: upd mem aid (.arr 0 2 (em encR (rs.set K ⟨r.n, .osl (nx2 + 8 + 11) 0 0 1, nx2 + 8 + 11, [9000 + (K : Int)]⟩)))) (by omega) (.inr ⟨by omega, by omega⟩) (.inr ⟨0, rfl, by rw [look_cons, if_pos rfl]⟩) (by rw [look_cons, if_neg (by omega), hr]; exact look_upd_same _ _ _ _ ha0) (fun i h1 h2 h3 => by rw [look_cons, if_neg (by omega), look_upd_ne _ h2]) (by simp)
      rw [hr] at hg
      exact again_of ⟨K + 1, _, _⟩ ⟨hg, by simpa using len, by simp only; omega, dn_set dn (m := 0) rfl (by omega), sh_set sh⟩ (by simp only; omega) (by simp) (memLe_refl _)
    · have hleno : lenD mem false (.osl r.id ver 0 r.l.length) = some (I r.l.length) := by simp [lenD, curv, hlk]
      by_cases hpl2 : p < r.l.length
      · have hpl3 : (p : Int) < (r.l.length : Int) := by omega
        simp -implicitDefEqProofs [-lenD, Own.lb4_2, hiaK, ha0, hr, hr?, encR, hd, hlk, hpl2, hpl3, hKr, hleno, w2, w3, w4, w5, w6, w7]
        have hwr := al.write hKr (ver := ver) (l' := r.l.set p (100 * (K : Int) + p)) (by rw [hr]; exact hd) (by rw [hr]; exact hlk) (by rw [hr]; simp)
        rw [hr] at hwr
        refine again_of ⟨p + 1, _, _⟩ ⟨hwr.later (by omega), by simpa using len, dn_in dn, sh_in sh (by simpa using shr), fun h q hq => ?_, by simp only; omega, fun h => by rw [set_get h, if_pos rfl]; simp; omega⟩ (by simp only; omega) (by simp) (memLe_refl _)
        rw [set_get h, if_pos rfl]
        simp only at hq ⊢
        by_cases e : q = p
        · subst e; rw [List.getElem?_set_self (by omega)]
        · rw [List.getElem?_set_ne (by omega)]
          have := pt hKr q (by omega)
          rw [hr] at this; exact this
      · have hpl3 : ¬ (p : Int) < (r.l.length : Int) := by omega
        have hu1 : ∀ B, look (upd mem r.id B) aid = some (.arr 0 2 (em encR rs)) := fun B => by rw [look_upd_ne _ (Ne.symm hir.2.2), ha0]
        have b3 : (r.l.length + 1) * 8 ≤ 3 * 2 ^ 46 := by omega
        have hset : (em encR rs).set K [I r.n, .osl r.id (ver + 1) 0 (r.l.length + 1)] = em encR (rs.set K ⟨r.n, .osl r.id (ver + 1) 0 (r.l.length + 1), r.id, r.l ++ [9000 + (K : Int)]⟩) := em_set (enc := encR) (x := ⟨r.n, .osl r.id (ver + 1) 0 (r.l.length + 1), r.id, r.l ++ [9000 + (K : Int)]⟩)
        simp -implicitDefEqProofs [-lenD, Own.lb4_2, hiaK, ha0, hr, hr?, encR, hd, hlk, hpl2, hpl3, hKr, hleno, w1, w2, w3, w4, w5, w6, w7, hu1, b3, hK2, hset]
        have hpe : p = r.l.length := by omega
        have hfull := pt_full (K := K) (p := p) (l := r.l) (fun q hq => by have := pt hKr q hq; rw [hr] at this; exact this) hpe
        have hg := al.grow hKr (nx' := nx2 + 8 + 15 + 3) (q := r.id) (d := .osl r.id (ver + 1) 0 (r.l.length + 1)) (l' := r.l ++ [9000 + (K : Int)]) (mem' := upd (upd mem r.id (.arr (ver + 1) 1 (em encU (r.l ++ [9000 + (K : Int)])))) aid (.arr 0 2 (em encR (rs.set K ⟨r.n, .osl r.id (ver + 1) 0 (r.l.length + 1), r.id, r.l ++ [9000 + (K : Int)]⟩)))) (by omega) (.inl (by rw [hr])) (.inr ⟨ver + 1, by simp, by rw [look_upd_ne _ hir.2.2, look_upd_same _ _ _ _ hlk]⟩) (by rw [hr]; exact look_upd_same _ _ _ _ (hu1 _)) (fun i h1 h2 h3 => by rw [hr] at h3; rw [look_upd_ne _ h2, look_upd_ne _ h3]) (by simp; omega)
        rw [hr] at hg
        exact again_of ⟨K + 1, _, _⟩ ⟨hg, by simpa using len, by simp only; omega, dn_set dn (m := p) hfull (by omega), sh_set sh⟩ (by simp only; omega) (by simp) (memLe_refl _)
  · have hK6 : K = 6 := by omega
    subst hK6
    obtain ⟨v0, ha0, rfl⟩ := al.a
    have hlen0 : lenD mem false (.osl aid 0 0 6) = some (I 6) := by simp [lenD, curv, ha0]
    have q20 : look mem 20 = some (.box [I n, D.osl 8 1 0 l.length]) := by rw [al.old 20 (by omega), h20]
    have q24 : look mem 24 = some (.box [I m, D.sl (em encU k)]) := by rw [al.old 24 (by omega), h24]
    have q8 : look mem 8 = some (.arr 1 1 (em encU (l ++ [71, 72]))) := by rw [al.old 8 (by omega), h8]
    have hsub := hms al.old
    simp -implicitDefEqProofs [-lenD, hlen0, Own.lb4_3]
    refine Own.lp4_1 (α := Nat) (fun x _ => [(8, .top), (27, I x), (28, .top)]) (fun _ _ => mem) (fun x _ => x ≤ 6) (fun x => 6 - x) 0 (by omega) (by simp) (memLe_refl _) ?_
    intro K nx2 hK6
    by_cases hK : K < 6
    · have hK2 : (K : Int) < 6 := by omega
      have w1 := wr64 (x := (K : Int) + 1) (by omega) (by omega)
      have w2 := wr64 (x := 100 * (K : Int)) (by omega) (by omega)
      have hKr : K < rs.length := by omega
      obtain ⟨r, hr⟩ : ∃ r, rs[K] = r := ⟨_, rfl⟩
      obtain ⟨M, hM, hrl⟩ := dn K hKr hK
      have sr := al.s K hKr
      rw [hr] at sr hrl
      have hrlen : r.l.length = M + 1 := by rw [hrl]; simp [tl]
      have hiaK : iaD mem 2 (.osl aid 0 0 6) (I K) = some (.oel aid 0 K 0) := by
        rw [ia_R ha0, if_pos ⟨by omega, hK2⟩]; simp
      obtain ⟨ver, hd, hlk⟩ : ∃ ver, r.d = .osl r.id ver 0 r.l.length ∧ look mem r.id = some (.arr ver 1 (em encU r.l)) := by
        rcases sr with ⟨_, h⟩ | h
        · rw [h] at hrlen; simp at hrlen
        · exact h
      have hleno : lenD mem false (.osl r.id ver 0 r.l.length) = some (I r.l.length) := by simp [lenD, curv, hlk]
      simp -implicitDefEqProofs [-lenD, hlen0, Own.lb4_1, hK2]
      refine Own.lp4_0 (α := Nat) (fun x _ => [(8, .top), (28, I x)]) (fun _ _ => mem) (fun x _ => x ≤ M) (fun x => M - x) 0 (by omega) (by simp) (memLe_refl _) ?_
      intro p nx3 hp
      have w5 := wr64 (x := (p : Int) + 1) (by omega) (by omega)
      have w6 := wr64 (x := 100 * (K : Int) + (p : Int)) (by omega) (by omega)
      have w7 : IntKind.u64.wrap (100 * (K : Int) + (p : Int)) = 100 * (K : Int) + (p : Int) := wru64 (by omega) (by omega)
      by_cases hpm : p < M
      · have hpl : (p : Int) + 1 < (r.l.length : Int) := by omega
        have hpl2 : p < r.l.length := by omega
        have hget : r.l[p] = 100 * (K : Int) + p := by
          have : r.l[p]? = some (100 * (K : Int) + p) := by
            rw [hrl]; unfold tl
            rw [List.getElem?_append_left (by simpa using hpm), List.getElem?_map, List.getElem?_range hpm]; rfl
          rw [List.getElem?_eq_getElem hpl2] at this
          exact Option.some.inj this
        simp -implicitDefEqProofs [-lenD, Own.lb4_0, hiaK, ha0, hr, encR, hd, hlk, hpl, hpl2, hKr, hleno, w2, w5, w6, w7, hget]
        exact again_of (p + 1) (by omega) (by omega) (by simp) (memLe_refl _)
      · have hpl : ¬ (p : Int) + 1 < (r.l.length : Int) := by omega
        simp -implicitDefEqProofs [-lenD, Own.lb4_0, hiaK, ha0, hr, encR, hd, hlk, hpl, hKr, hleno, w1, w2, w5, w6, w7]
        exact again_of (K + 1) (by omega) (by omega) (by simp) (memLe_refl _)
    · have hK2 : ¬ (K : Int) < 6 := by omega
      simp -implicitDefEqProofs [-lenD, hlen0, Own.lb4_1, hK2, q20]
      refine clK_of (CallT_flat (d0 := B (decide (n = n ∧ l = l))) rfl hsub (hf5) (Same_c n n l l (by omega)) ?_)
      simp -implicitDefEqProofs [q24]
      refine clK_of (CallT_flat (d0 := B (decide (m = m ∧ k = k))) rfl hsub (hf6) (Same_c m m k k (by omega)) ?_)
      simp -implicitDefEqProofs [q8]
      have w9 := wr64 (x := (l.length : Int) + 1) (by omega) (by omega)
      rw [w9]
      refine ⟨by omega, ⟨by omega, by omega⟩, by omega, ?_⟩
      rw [show ((l.length : Int) + 1).toNat = l.length + 1 by omega, List.getElem?_append_right (by omega), show l.length + 1 - l.length = 1 by omega]
      rfl
theorem law_RowsKeep : ∀ xs, Args Try.prog Try.f4.params.toList xs → Pure Try.prog 4 xs (B true) := by
  intro xs h
  rw [Try.params4] at h
  simp only [Args] at h
  obtain ⟨x, r, rfl, hx, y, r2, rfl, hy, z, r3, rfl, hz, u, r4, rfl, hu, rfl⟩ := h
  obtain ⟨n, l, rfl, _, hl0, hlb⟩ := arg_row hx
  obtain ⟨m, k, rfl, _, hk0, hkb⟩ := arg_row hy
  obtain ⟨i, rfl, _⟩ := arg_int hz
  obtain ⟨v, rfl, _⟩ := arg_int hu
  exact law_RowsKeep_at n m i v l k hlb hkb (fun u hu => wfW (hl0 u hu))
end Go.Fx.Ytaghjpoijodgfaa

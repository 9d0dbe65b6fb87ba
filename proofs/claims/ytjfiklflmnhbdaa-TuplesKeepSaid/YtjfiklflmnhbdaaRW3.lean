import Derived.Test.YtjfiklflmnhbdaaRW2
set_option linter.all false
namespace Go.Fx.Ytjfiklflmnhbdaa
open Go Go.Fx Go.Proofs Go.Fx.Rows

def AllW (l : List Int) : Prop := ∀ u ∈ l, W64 u
theorem wfW {u : Int} (h : (Lit.int .u64 u).wf = true) : W64 u := by
  have := u64_bounds h
  exact ⟨this.1, by omega⟩
theorem Wwf {u : Int} (h : W64 u) : (Lit.int .u64 u).wf = true := by
  unfold W64 at h
  simp [Lit.wf, IntKind.min, IntKind.max, IntKind.signed, IntKind.bits]; omega
def leL (l k : List Int) : Bool := (List.zipWith gW l k).all (· == 0)
abbrev jn := List.zipWith joinW
abbrev mt := List.zipWith meetW

theorem AllW_zip {f : Int → Int → Int} (hf : ∀ x y, W64 x → W64 y → W64 (f x y)) : ∀ {l k : List Int}, AllW l → AllW k → AllW (List.zipWith f l k)
  | [], _, _, _ => fun u h => by simp at h
  | _ :: _, [], _, _ => fun u h => by simp at h
  | a :: l, b :: k, h1, h2 => fun u h => by
    rcases List.mem_cons.1 (show u ∈ f a b :: List.zipWith f l k from h) with rfl | h
    · exact hf a b (h1 a (by simp)) (h2 b (by simp))
    · exact AllW_zip hf (fun v hv => h1 v (by simp [hv])) (fun v hv => h2 v (by simp [hv])) u h
theorem AllW_tl {a : Int} {l : List Int} (h : AllW (a :: l)) : W64 a ∧ AllW l := ⟨h a (by simp), fun u hu => h u (by simp [hu])⟩

theorem jn_comm : ∀ {l k : List Int}, AllW l → AllW k → jn l k = jn k l
  | [], [], _, _ => rfl
  | [], _ :: _, _, _ => rfl
  | _ :: _, [], _, _ => rfl
  | a :: l, b :: k, h1, h2 => by
    simp only [jn, List.zipWith_cons_cons, join_comm (AllW_tl h1).1 (AllW_tl h2).1]
    rw [show List.zipWith joinW l k = List.zipWith joinW k l from jn_comm (AllW_tl h1).2 (AllW_tl h2).2]
theorem mt_comm : ∀ {l k : List Int}, AllW l → AllW k → mt l k = mt k l
  | [], [], _, _ => rfl
  | [], _ :: _, _, _ => rfl
  | _ :: _, [], _, _ => rfl
  | a :: l, b :: k, h1, h2 => by
    simp only [mt, List.zipWith_cons_cons, meet_comm (AllW_tl h1).1 (AllW_tl h2).1]
    rw [show List.zipWith meetW l k = List.zipWith meetW k l from mt_comm (AllW_tl h1).2 (AllW_tl h2).2]
theorem leL_jn : ∀ {l k : List Int}, l.length = k.length → AllW l → AllW k → leL l (jn l k) = true
  | [], _, _, _, _ => rfl
  | a :: l, b :: k, hl, h1, h2 => by
    have ih := leL_jn (l := l) (k := k) (by simpa using hl) (AllW_tl h1).2 (AllW_tl h2).2
    simp only [leL, jn, List.zipWith_cons_cons, List.all_cons, le_join (AllW_tl h1).1 (AllW_tl h2).1] at ih ⊢
    simp [ih]
  | _ :: _, [], hl, _, _ => by simp at hl
theorem mt_leL : ∀ {l k : List Int}, l.length = k.length → AllW l → AllW k → leL (mt l k) l = true
  | [], _, _, _, _ => rfl
  | a :: l, b :: k, hl, h1, h2 => by
    have ih := mt_leL (l := l) (k := k) (by simpa using hl) (AllW_tl h1).2 (AllW_tl h2).2
    simp only [leL, mt, List.zipWith_cons_cons, List.all_cons, meet_le (AllW_tl h1).1 (AllW_tl h2).1] at ih ⊢
    simp [ih]
  | _ :: _, [], hl, _, _ => by simp at hl
theorem mt_jn : ∀ {l k : List Int}, l.length = k.length → AllW l → AllW k → mt l (jn l k) = l
  | [], _, _, _, _ => rfl
  | a :: l, b :: k, hl, h1, h2 => by
    simp only [mt, jn, List.zipWith_cons_cons, meet_join (AllW_tl h1).1 (AllW_tl h2).1]
    rw [show List.zipWith meetW l (List.zipWith joinW l k) = l from mt_jn (by simpa using hl) (AllW_tl h1).2 (AllW_tl h2).2]
  | _ :: _, [], hl, _, _ => by simp at hl
theorem jn_mt : ∀ {l k : List Int}, l.length = k.length → AllW l → AllW k → jn l (mt l k) = l
  | [], _, _, _, _ => rfl
  | a :: l, b :: k, hl, h1, h2 => by
    simp only [mt, jn, List.zipWith_cons_cons, join_meet (AllW_tl h1).1 (AllW_tl h2).1]
    rw [show List.zipWith joinW l (List.zipWith meetW l k) = l from jn_mt (by simpa using hl) (AllW_tl h1).2 (AllW_tl h2).2]
  | _ :: _, [], hl, _, _ => by simp at hl
theorem leL_cons {a b : Int} {l k : List Int} : leL (a :: l) (b :: k) = true ↔ gW a b = 0 ∧ leL l k = true := by simp [leL]
theorem jn_le : ∀ {l k z : List Int}, l.length = k.length → l.length = z.length → AllW l → AllW k → AllW z → (leL (jn l k) z = true ↔ leL l z = true ∧ leL k z = true)
  | [], [], _, _, _, _, _, _ => by simp [leL]
  | a :: l, b :: k, c :: z, hl, hz, h1, h2, h3 => by
    have ih := jn_le (l := l) (k := k) (z := z) (by simpa using hl) (by simpa using hz) (AllW_tl h1).2 (AllW_tl h2).2 (AllW_tl h3).2
    have h0 := join_le (AllW_tl h1).1 (AllW_tl h2).1 (AllW_tl h3).1
    simp only [jn, List.zipWith_cons_cons, leL_cons] at ih ⊢
    rw [h0, ih]
    exact ⟨fun ⟨⟨x, y⟩, z, w⟩ => ⟨⟨x, z⟩, y, w⟩, fun ⟨⟨x, z⟩, y, w⟩ => ⟨⟨x, y⟩, z, w⟩⟩
  | _ :: _, _ :: _, [], _, hz, _, _, _ => by simp at hz
  | _ :: _, [], _, hl, _, _, _, _ => by simp at hl
  | [], _ :: _, _, hl, _, _, _, _ => by simp at hl
theorem le_mt : ∀ {l k z : List Int}, l.length = k.length → l.length = z.length → AllW l → AllW k → AllW z → (leL z (mt l k) = true ↔ leL z l = true ∧ leL z k = true)
  | [], [], _, _, _, _, _, _ => by simp [leL]
  | a :: l, b :: k, c :: z, hl, hz, h1, h2, h3 => by
    have ih := le_mt (l := l) (k := k) (z := z) (by simpa using hl) (by simpa using hz) (AllW_tl h1).2 (AllW_tl h2).2 (AllW_tl h3).2
    have h0 := le_meet (AllW_tl h1).1 (AllW_tl h2).1 (AllW_tl h3).1
    simp only [mt, List.zipWith_cons_cons, leL_cons] at ih ⊢
    rw [h0, ih]
    exact ⟨fun ⟨⟨x, y⟩, z, w⟩ => ⟨⟨x, z⟩, y, w⟩, fun ⟨⟨x, z⟩, y, w⟩ => ⟨⟨x, y⟩, z, w⟩⟩
  | _ :: _, _ :: _, [], _, hz, _, _, _ => by simp at hz
  | _ :: _, [], _, hl, _, _, _, _ => by simp at hl
  | [], _ :: _, _, hl, _, _, _, _ => by simp at hl
theorem leL_refl : ∀ {l : List Int}, AllW l → leL l l = true
  | [], _ => rfl
  | a :: l, h => leL_cons.2 ⟨le_refl' (AllW_tl h).1, leL_refl (AllW_tl h).2⟩
theorem leL_anti : ∀ {l k : List Int}, l.length = k.length → AllW l → AllW k → leL l k = true → leL k l = true → l = k
  | [], [], _, _, _, _, _ => rfl
  | a :: l, b :: k, hl, h1, h2, g1, g2 => by
    rw [leL_cons] at g1 g2
    rw [le_antisymm' (AllW_tl h1).1 (AllW_tl h2).1 g1.1 g2.1, leL_anti (by simpa using hl) (AllW_tl h1).2 (AllW_tl h2).2 g1.2 g2.2]
  | _ :: _, [], hl, _, _, _, _ => by simp at hl
  | [], _ :: _, hl, _, _, _, _ => by simp at hl
theorem leL_trans : ∀ {l k z : List Int}, l.length = k.length → k.length = z.length → AllW l → AllW k → AllW z → leL l k = true → leL k z = true → leL l z = true
  | [], [], _, _, _, _, _, _, _, _ => by simp [leL]
  | a :: l, b :: k, c :: z, hl, hz, h1, h2, h3, g1, g2 => by
    rw [leL_cons] at g1 g2 ⊢
    exact ⟨le_trans' (AllW_tl h1).1 (AllW_tl h2).1 (AllW_tl h3).1 g1.1 g2.1, leL_trans (by simpa using hl) (by simpa using hz) (AllW_tl h1).2 (AllW_tl h2).2 (AllW_tl h3).2 g1.2 g2.2⟩
  | _ :: _, _ :: _, [], _, hz, _, _, _, _, _ => by simp at hz
  | _ :: _, [], _, hl, _, _, _, _, _, _ => by simp at hl
  | [], _ :: _, _, hl, _, _, _, _, _, _ => by simp at hl
/-- Being below, by the join and by the meet. -/
theorem leL_iff_jn {l k : List Int} (hl : l.length = k.length) (h1 : AllW l) (h2 : AllW k) : leL l k = true ↔ jn l k = k := by
  have hj : (jn l k).length = k.length := by simp [jn]; omega
  have hw : AllW (jn l k) := AllW_zip (fun x y h1 h2 => joinW_W h1 h2) h1 h2
  constructor
  · intro h
    refine leL_anti hj hw h2 ((jn_le hl hl h1 h2 h2).2 ⟨h, leL_refl h2⟩) ?_
    rw [jn_comm h1 h2]; exact leL_jn hl.symm h2 h1
  · intro h
    have := leL_jn hl h1 h2
    rw [h] at this; exact this
theorem leL_iff_mt {l k : List Int} (hl : l.length = k.length) (h1 : AllW l) (h2 : AllW k) : leL l k = true ↔ mt l k = l := by
  have hj : (mt l k).length = l.length := by simp [mt]; omega
  have hw : AllW (mt l k) := AllW_zip (fun x y h1 h2 => meetW_W h1 h2) h1 h2
  constructor
  · intro h
    exact leL_anti hj hw h1 (mt_leL hl h1 h2) ((le_mt hl rfl h1 h2 h1).2 ⟨leL_refl h1, h⟩)
  · intro h
    have := mt_leL hl.symm h2 h1
    rw [mt_comm h2 h1, h] at this; exact this

theorem cell_zero {u : Int} (h : W64 u) (j : Nat) : u / 4 ^ j % 4 = 0 ↔ bt u (2 * j) = false ∧ bt u (2 * j + 1) = false := by
  rw [cell_bits h.1]
  cases bt u (2 * j) <;> cases bt u (2 * j + 1) <;> simp
theorem good_zip {f : Int → Int → Int} (hf : ∀ x y, W64 x → W64 y → W64 (f x y)) (hz : ∀ x y, W64 x → W64 y → ∀ j, j < 32 → bt x (2 * j) = false ∧ bt x (2 * j + 1) = false → bt y (2 * j) = false ∧ bt y (2 * j + 1) = false → bt (f x y) (2 * j) = false ∧ bt (f x y) (2 * j + 1) = false)
    {n : Int} {l k : List Int} (h1 : AllW l) (h2 : AllW k) (g1 : Good n l) (g2 : Good n k) : Good n (List.zipWith f l k) := by
  rw [good_cells fun u hu => Wwf (AllW_zip hf h1 h2 u hu)]
  rw [good_cells fun u hu => Wwf (h1 u hu)] at g1
  rw [good_cells fun u hu => Wwf (h2 u hu)] at g2
  obtain ⟨a1, a2, a3, a4⟩ := g1
  obtain ⟨b1, b2, b3, b4⟩ := g2
  refine ⟨a1, a2, by simp; omega, fun i hi hlt => ?_⟩
  have hl : i < 32 * l.length := by simp at hlt; omega
  have hk : i < 32 * k.length := by simp at hlt; omega
  have c1 := a4 i hi hl
  have c2 := b4 i hi hk
  unfold cellN at c1 c2 ⊢
  have il : i / 32 < l.length := by omega
  have ik : i / 32 < k.length := by omega
  rw [List.getElem?_eq_getElem il] at c1
  rw [List.getElem?_eq_getElem ik] at c2
  rw [List.getElem?_zipWith, List.getElem?_eq_getElem il, List.getElem?_eq_getElem ik]
  simp only [Option.getD_some] at c1 c2 ⊢
  have w1 := h1 _ (List.getElem_mem il)
  have w2 := h2 _ (List.getElem_mem ik)
  rw [cell_zero w1] at c1
  rw [cell_zero w2] at c2
  exact (cell_zero (hf _ _ w1 w2) _).2 (hz _ _ w1 w2 _ (by omega) c1 c2)
theorem good_jn {n : Int} {l k : List Int} (h1 : AllW l) (h2 : AllW k) (g1 : Good n l) (g2 : Good n k) : Good n (jn l k) :=
  good_zip (fun _ _ => joinW_W) (fun x y hx hy j hj a b => by obtain ⟨c, d⟩ := join_bits hx hy hj; rw [c, d, a.1, a.2, b.1, b.2]; simp) h1 h2 g1 g2
theorem good_mt {n : Int} {l k : List Int} (h1 : AllW l) (h2 : AllW k) (g1 : Good n l) (g2 : Good n k) : Good n (mt l k) :=
  good_zip (fun _ _ => meetW_W) (fun x y hx hy j hj a b => by obtain ⟨c, d⟩ := meet_bits hx hy hj; rw [c, d, a.1, a.2, b.1, b.2]; simp) h1 h2 g1 g2
end Go.Fx.Ytjfiklflmnhbdaa

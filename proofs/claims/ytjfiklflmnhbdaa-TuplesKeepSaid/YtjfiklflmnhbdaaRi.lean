/-
  Cells of rows: the plain law.
-/
import Derived.Test.YtjfiklflmnhbdaaRg
set_option linter.all false
namespace Go.Fx.Ytjfiklflmnhbdaa
open Go Go.Fx Go.Proofs Go.Fx.Rows
section
variable {n m : Int} {l k : List Int}
theorem cl_get {i : Nat} (h : i < n.toNat) : (cl n l)[i]? = some (cellN l i) := by simp [cl, h]
theorem cl_getD {i : Nat} (h : i < n.toNat) : (cl n l)[i]?.getD 0 = cellN l i := by rw [cl_get h]; rfl
theorem cl_cell : ∀ c ∈ cl n l, Cell4 c := by
  intro c hc
  unfold cl at hc
  obtain ⟨i, _, rfl⟩ := List.mem_map.1 hc
  have := cellN_b l i
  exact ⟨this.1, by omega⟩
theorem cl_ext {cs : List Int} (hl : cs.length = n.toNat) (h : ∀ i, i < n.toNat → cs[i]?.getD 0 = cellN l i) : cs = cl n l := by
  apply List.ext_getElem?
  intro i
  by_cases hi : i < n.toNat
  · rw [cl_get hi, ← h i hi, List.getElem?_eq_getElem (by omega)]; rfl
  · rw [List.getElem?_eq_none (by omega), List.getElem?_eq_none (by rw [cl_len]; omega)]

theorem good_pos (h : Good n l) : n.toNat ≤ 32 * l.length := by have := h.1; have := h.2.2.1; omega

theorem pack_cl (g : Good n l) (w : AllW l) : packL (cl n l) = l := by
  have hc := (good_cells (n := n) fun u hu => Wwf (w u hu)).1 g
  apply List.ext_getElem?
  intro q
  have h0 := g.1
  have h2 := g.2.2.1
  by_cases hq : q < l.length
  · rw [packL_get _ _ (by rw [cl_len]; omega), List.getElem?_eq_getElem hq]
    congr 1
    have hw := w _ (List.getElem_mem hq)
    have e : ((cl n l).drop (32 * q)).take 32 = (List.range (min 32 (n.toNat - 32 * q))).map (fun j => l[q] / 4 ^ j % 4) := by
      apply List.ext_getElem?
      intro j
      by_cases hj : j < min 32 (n.toNat - 32 * q)
      · rw [List.getElem?_take, if_pos (by omega), List.getElem?_drop, cl_get (by omega)]
        simp only [List.getElem?_map, List.getElem?_range hj, Option.map_some]
        unfold cellN
        rw [show (32 * q + j) / 32 = q by omega, show (32 * q + j) % 32 = j by omega, List.getElem?_eq_getElem hq]
        rfl
      · rw [List.getElem?_eq_none (by simp [cl_len]; omega), List.getElem?_eq_none (by simp; omega)]
    rw [e]
    refine wd_digits _ _ hw.1 ?_
    by_cases h32 : 32 ≤ n.toNat - 32 * q
    · rw [Nat.min_eq_left h32]
      have : (4 : Int) ^ 32 = 18446744073709551616 := by decide
      rw [this]; exact hw.2
    · have hq1 : q = l.length - 1 := by omega
      have hp : 0 < n % 32 := by omega
      have h3 := g.2.2.2 hp
      rw [← hq1, List.getElem?_eq_getElem hq] at h3
      simp only [Option.getD_some] at h3
      rw [Nat.min_eq_right (by omega), show n.toNat - 32 * q = (n % 32).toNat by omega]
      have hpos : (0 : Int) < 4 ^ (n % 32).toNat := Int.pow_pos (by decide)
      apply Classical.byContradiction
      intro hlt
      have : 1 ≤ l[q] / 4 ^ (n % 32).toNat := by
        rw [Int.le_ediv_iff_mul_le hpos]; omega
      omega
  · rw [List.getElem?_eq_none (by rw [packL_len, cl_len]; omega), List.getElem?_eq_none (by omega)]

/-- A row is known by its cells. -/
theorem row_ext (g1 : Good n l) (g2 : Good n k) (w1 : AllW l) (w2 : AllW k) (h : cl n l = cl n k) : l = k := by
  rw [← pack_cl g1 w1, ← pack_cl g2 w2, h]

theorem cellN_word {i : Nat} (h : i < 32 * l.length) : ∃ hq : i / 32 < l.length, cellN l i = l[i / 32] / 4 ^ (i % 32) % 4 := by
  refine ⟨by omega, ?_⟩
  unfold cellN
  rw [List.getElem?_eq_getElem (by omega : i / 32 < l.length)]; rfl

theorem join_cell {x y : Int} (hx : W64 x) (hy : W64 y) {j : Nat} (hj : j < 32) : joinW x y / 4 ^ j % 4 = max (x / 4 ^ j % 4) (y / 4 ^ j % 4) := by
  obtain ⟨h1, h2⟩ := join_bits hx hy hj
  rw [cell_bits (joinW_W hx hy).1, cell_bits hx.1, cell_bits hy.1, h1, h2]
  unfold gt
  cases bt x (2 * j) <;> cases bt x (2 * j + 1) <;> cases bt y (2 * j) <;> cases bt y (2 * j + 1) <;> simp <;> decide
theorem meet_cell {x y : Int} (hx : W64 x) (hy : W64 y) {j : Nat} (hj : j < 32) : meetW x y / 4 ^ j % 4 = min (x / 4 ^ j % 4) (y / 4 ^ j % 4) := by
  obtain ⟨h1, h2⟩ := meet_bits hx hy hj
  rw [cell_bits (meetW_W hx hy).1, cell_bits hx.1, cell_bits hy.1, h1, h2]
  unfold gt
  cases bt x (2 * j) <;> cases bt x (2 * j + 1) <;> cases bt y (2 * j) <;> cases bt y (2 * j + 1) <;> simp <;> decide

theorem zip_cell {f g : Int → Int → Int} (hf : ∀ x y, W64 x → W64 y → ∀ j, j < 32 → f x y / 4 ^ j % 4 = g (x / 4 ^ j % 4) (y / 4 ^ j % 4)) (h1 : AllW l) (h2 : AllW k) (hl : l.length = k.length) {i : Nat} (hi : i < 32 * l.length) :
    cellN (List.zipWith f l k) i = g (cellN l i) (cellN k i) := by
  obtain ⟨a1, a2⟩ := cellN_word hi
  obtain ⟨b1, b2⟩ := cellN_word (l := k) (i := i) (by omega)
  obtain ⟨c1, c2⟩ := cellN_word (l := List.zipWith f l k) (i := i) (by simp; omega)
  rw [a2, b2, c2, List.getElem_zipWith]
  exact hf _ _ (h1 _ (List.getElem_mem _)) (h2 _ (List.getElem_mem _)) _ (by omega)
theorem jn_cell (h1 : AllW l) (h2 : AllW k) (hl : l.length = k.length) {i : Nat} (hi : i < 32 * l.length) : cellN (jn l k) i = max (cellN l i) (cellN k i) := zip_cell (g := max) (fun _ _ hx hy _ hj => join_cell hx hy hj) h1 h2 hl hi
theorem mt_cell (h1 : AllW l) (h2 : AllW k) (hl : l.length = k.length) {i : Nat} (hi : i < 32 * l.length) : cellN (mt l k) i = min (cellN l i) (cellN k i) := zip_cell (g := min) (fun _ _ hx hy _ hj => meet_cell hx hy hj) h1 h2 hl hi

theorem cl_jn (g1 : Good n l) (g2 : Good n k) (h1 : AllW l) (h2 : AllW k) : List.zipWith max (cl n l) (cl n k) = cl n (jn l k) := by
  refine cl_ext (by simp [cl_len]) fun i hi => ?_
  rw [jn_cell h1 h2 (good_same g1 g2) (by have := good_pos g1; omega), List.getElem?_zipWith, cl_get hi, cl_get hi]; rfl
theorem cl_mt (g1 : Good n l) (g2 : Good n k) (h1 : AllW l) (h2 : AllW k) : List.zipWith min (cl n l) (cl n k) = cl n (mt l k) := by
  refine cl_ext (by simp [cl_len]) fun i hi => ?_
  rw [mt_cell h1 h2 (good_same g1 g2) (by have := good_pos g1; omega), List.getElem?_zipWith, cl_get hi, cl_get hi]; rfl

theorem leL_cells (g1 : Good n l) (g2 : Good n k) (h1 : AllW l) (h2 : AllW k) : leL l k = true ↔ ∀ i, i < n.toNat → cellN l i ≤ cellN k i := by
  have hl := good_same g1 g2
  rw [leL_iff_jn hl h1 h2]
  refine ⟨fun h i hi => ?_, fun h => ?_⟩
  · have := jn_cell h1 h2 hl (i := i) (by have := good_pos g1; omega)
    rw [h] at this; omega
  · refine row_ext (good_jn h1 h2 g1 g2) g2 (AllW_zip (fun _ _ => joinW_W) h1 h2) h2 ?_
    rw [← cl_jn g1 g2 h1 h2]
    refine cl_ext (by simp [cl_len]) fun i hi => ?_
    rw [List.getElem?_zipWith, cl_get hi, cl_get hi]
    have := h i hi
    simp; omega

/-! #### A cell put -/
theorem putW_W {u v : Int} {j : Nat} : W64 (putW u j v) := W_or
theorem bt_small {v : Int} (h0 : 0 ≤ v) (h3 : v ≤ 3) {t : Nat} (ht : 2 ≤ t) : bt v t = false := by
  unfold bt
  apply Nat.testBit_lt_two_pow
  have : 2 ^ 2 ≤ 2 ^ t := Nat.pow_le_pow_right (by decide) ht
  omega
theorem put_cell {u v : Int} (hu : W64 u) (h0 : 0 ≤ v) (h3 : v ≤ 3) {j i : Nat} (hj : j < 32) (hi : i < 32) : putW u j v / 4 ^ i % 4 = if i = j then v else u / 4 ^ i % 4 := by
  have hv : W64 v := ⟨h0, by omega⟩
  have h33 : W64 3 := ⟨by decide, by decide⟩
  have key : ∀ t, t < 64 → bt (putW u j v) t = ((bt u t && !(!decide (t < 2 * j) && bt 3 (t - 2 * j))) || (!decide (t < 2 * j) && bt v (t - 2 * j))) := by
    intro t ht
    unfold putW
    have w1 := W_shl h33 (k := 2 * j) (by omega)
    have w2 := W_shl hv (k := 2 * j) (by omega)
    rw [bt_or W_clr w2, bt_clr hu w1 ht, bt_shl h33 (by omega), bt_shl hv (by omega)]
    simp [ht]
  have k1 := key (2 * i) (by omega)
  have k2 := key (2 * i + 1) (by omega)
  rw [cell_bits putW_W.1, k1, k2]
  by_cases hij : i = j
  · subst hij
    have e : v = (if bt v 1 then 2 else 0) + (if bt v 0 then 1 else 0) := by
      have := cell_bits h0 0
      simp at this
      omega
    have b0 : bt 3 0 = true := by decide
    have b1 : bt 3 1 = true := by decide
    simp only [if_true]
    rw [show 2 * i + 1 - 2 * i = 1 by omega, Nat.sub_self, b0, b1]
    conv => rhs; rw [e]
    have hn : ¬ 2 * i + 1 < 2 * i := by omega
    simp [hn]
  · rw [if_neg hij, cell_bits hu.1]
    by_cases hlt : i < j
    · have d1 : 2 * i < 2 * j := by omega
      have d2 : 2 * i + 1 < 2 * j := by omega
      simp [d1, d2]
    · have d1 : ¬ 2 * i < 2 * j := by omega
      have d2 : ¬ 2 * i + 1 < 2 * j := by omega
      rw [bt_small (v := 3) (by decide) (by decide) (by omega), bt_small (v := 3) (by decide) (by decide) (by omega), bt_small h0 h3 (by omega), bt_small h0 h3 (by omega)]
      simp

theorem putL_W {v : Int} {i : Nat} (h : AllW l) : AllW (putL l i v) := by
  intro u hu
  rcases List.mem_or_eq_of_mem_set hu with h1 | rfl
  · exact h u h1
  · exact putW_W
theorem putL_cell {v : Int} (h : AllW l) (h0 : 0 ≤ v) (h3 : v ≤ 3) {i j : Nat} (hi : i < 32 * l.length) (hj : j < 32 * l.length) : cellN (putL l j v) i = if i = j then v else cellN l i := by
  obtain ⟨a1, a2⟩ := cellN_word hi
  obtain ⟨b1, b2⟩ := cellN_word (l := putL l j v) (i := i) (by simpa [putL] using hi)
  rw [a2, b2]
  simp only [putL, List.getElem_set]
  have hj2 : j / 32 < l.length := by omega
  by_cases hq : j / 32 = i / 32
  · rw [if_pos hq]
    have e : l[j / 32]?.getD 0 = l[i / 32] := by rw [hq, List.getElem?_eq_getElem a1]; rfl
    rw [e, put_cell (h _ (List.getElem_mem _)) h0 h3 (by omega) (by omega)]
    by_cases hij : i = j
    · subst hij; simp
    · rw [if_neg hij, if_neg (by omega)]
  · rw [if_neg hq, if_neg (by rintro rfl; exact hq rfl)]
theorem putL_good {v : Int} (w : AllW l) (g : Good n l) (h0 : 0 ≤ v) (h3 : v ≤ 3) {i : Nat} (hi : i < n.toNat) : Good n (putL l i v) := by
  have hc := (good_cells (n := n) fun u hu => Wwf (w u hu)).1 g
  refine (good_cells (n := n) fun u hu => Wwf (putL_W w u hu)).2 ⟨hc.1, hc.2.1, by simpa [putL] using hc.2.2.1, fun j hj hlt => ?_⟩
  have hlt' : j < 32 * l.length := by simpa [putL] using hlt
  rw [putL_cell w h0 h3 hlt' (by have := good_pos g; omega), if_neg (by omega)]
  exact hc.2.2.2 j hj hlt'
theorem cl_put {v : Int} (w : AllW l) (g : Good n l) (h0 : 0 ≤ v) (h3 : v ≤ 3) {i : Nat} (hi : i < n.toNat) : (cl n l).set i v = cl n (putL l i v) := by
  have hp := good_pos g
  refine cl_ext (by simp [cl_len]) fun j hj => ?_
  rw [putL_cell w h0 h3 (by omega) (by omega), List.getElem?_set]
  by_cases e : i = j
  · subst e
    rw [if_pos rfl, if_pos (by rw [cl_len]; exact hi), if_pos rfl]; rfl
  · rw [if_neg e, cl_get hj, if_neg (fun h => e h.symm)]; rfl

theorem zero_good {n : Int} (h0 : 0 ≤ n) (h1 : n ≤ 4096) : Good n (List.replicate ((n + 31) / 32).toNat 0) := by
  refine ⟨h0, h1, by simp; omega, fun hp => ?_⟩
  rw [List.getElem?_replicate]
  split <;> simp
theorem zero_W (q : Nat) : AllW (List.replicate q 0) := by
  intro u hu; rw [List.mem_replicate] at hu; rw [hu.2]; exact W_zero
theorem zero_cell {q i : Nat} : cellN (List.replicate q 0) i = 0 := by
  unfold cellN
  rw [List.getElem?_replicate]
  split <;> simp
end
end Go.Fx.Ytjfiklflmnhbdaa

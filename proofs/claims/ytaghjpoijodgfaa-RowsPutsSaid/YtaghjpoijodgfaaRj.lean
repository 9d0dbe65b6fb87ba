import Derived.Test.YtaghjpoijodgfaaRi
import Derived.Test.YtaghjpoijodgfaaRh
set_option linter.all false
namespace Go.Fx.Ytaghjpoijodgfaa
open Go Go.Fx Go.Proofs Go.Fx.Rows
section
variable {n m : Int} {l k : List Int}
theorem good_ok (w : AllW l) : Good n l ↔ CellsOk n l := good_cells (n := n) fun u hu => Wwf (w u hu)
theorem Cells_y (w : AllW l) (g : Good n l) : Pure Try.prog 13 [row n l] (.tup [.sl (em encI (cl n l)), B true]) := by
  have := Cells_c n l; rwa [cellsF_yes ((good_ok w).1 g)] at this
theorem Cells_n (w : AllW l) (g : ¬ Good n l) : Pure Try.prog 13 [row n l] (.tup [.sl [], B false]) := by
  have := Cells_c n l; rwa [cellsF_no fun h => g ((good_ok w).2 h)] at this

theorem refGet_c (w : AllW l) (i : Int) : Pure Try.prog 26 [row n l, I i] (getF n l i) := by
  refine pu26 (by simp) ?_
  simp -implicitDefEqProofs [ac26, row]
  by_cases g : Good n l
  · refine pcK_of (Cells_y w g) (by simp) ?_
    simp -implicitDefEqProofs
    have h0 := g.1
    have hN := Int.max_eq_left h0
    by_cases h1 : 0 ≤ i
    · by_cases h2 : i < n
      · have e : ¬ n ≤ i := by omega
        simp -implicitDefEqProofs [h1, e, getF, g, h2, hN, Int.ofNat_toNat]
        rw [cl_getD (by omega)]
      · have e : n ≤ i := by omega
        simp -implicitDefEqProofs [h1, e, getF, g, h2, hN, Int.ofNat_toNat]
    · simp -implicitDefEqProofs [h1, getF, g]
  · refine pcK_of (Cells_n w g) (by simp) ?_
    simp -implicitDefEqProofs
    simp -implicitDefEqProofs [getF, g]

theorem refPut_c (w : AllW l) (i v : Int) : Pure Try.prog 27 [row n l, I i, I v] (putF n l i v) := by
  refine pu27 (by simp) ?_
  simp -implicitDefEqProofs [ac27, row]
  refine clK_of (Cells_t n l (fun hok id ver nx' h1 h2 => ?_) fun hno nx' h1 => ?_)
  · have g := (good_ok w).2 hok
    have h0 := g.1
    have hN := Int.max_eq_left h0
    have hid : ¬ id = 1 := by omega
    simp -implicitDefEqProofs
    by_cases h1 : 0 ≤ i
    · have hi0 := Int.max_eq_left h1
      have e1 : ¬ i < 0 := by omega
      by_cases h2 : i < n
      · by_cases h3 : 0 ≤ v
        · have e5 : ¬ v < 0 := by omega
          by_cases h4 : v ≤ 3
          · have e : ¬ n ≤ i := by omega
            have e2 : i.toNat < n.toNat := by omega
            have e3 : ¬ 3 < v := by omega
            simp -implicitDefEqProofs [h1, h2, h3, h4, e, e1, e2, e3, e5, hN, hid, hi0]
            refine clK_of (CallT_frz (mf := [(id, .arr ver 1 (em encI ((cl n l).set i.toNat v)))]) (mk := [(1, .box [I 0, .pl (.slice none 0 0)])]) (memSub_cons (memSub_nil _)) (memSub_skip (memSub_refl _) (by simp; omega)) (fun j => by simp only [look]; by_cases e : id = j <;> simp [e]; omega) (args' := [.sl (em encI ((cl n l).set i.toNat v))]) (by simp [List.take_of_length_le]) (cl_put w g h3 h4 e2 ▸ Pack_c _ cl_cell (by simp; have := g.2.1; omega)) ?_)
            simp -implicitDefEqProofs [putF, g, h1, h2, h3, h4, tup2, hN]
            rw [cl_put w g h3 h4 e2, pack_cl (putL_good w g h3 h4 e2) (putL_W w)]
          · have e : ¬ n ≤ i := by omega
            have e3 : 3 < v := by omega
            simp -implicitDefEqProofs [h1, h2, h3, h4, e, e1, e3, e5, hN, hid, putF, g, tup2]
        · have e : ¬ n ≤ i := by omega
          simp -implicitDefEqProofs [h1, h2, h3, e, e1, hN, hid, putF, g, tup2]
      · have e : n ≤ i := by omega
        simp -implicitDefEqProofs [h1, h2, e, e1, hN, hid, putF, g, tup2]
    · have e1 : i < 0 := by omega
      simp -implicitDefEqProofs [h1, e1, hN, hid, putF, g, tup2]
  · have g : ¬ Good n l := fun g => hno ((good_ok w).1 g)
    simp -implicitDefEqProofs [putF, g, tup2]

/-- The cells of two rows; the first ones are the caller's own. -/
theorem two_t (w1 : AllW l) (w2 : AllW k) {mem : Mem} {nx : Nat} {K : KD} (hy : Two n l m k → ∀ id ver nx', nx ≤ id → id < nx' → K (.tup [.osl id ver 0 n.toNat, .sl (em encI (cl n k)), B true]) ((id, .arr ver 1 (em encI (cl n l))) :: mem) nx')
    (hn : ¬ Two n l m k → ∀ d e nx', nx ≤ nx' → K (.tup [d, e, B false]) mem nx') : CallT Try.prog 37 [row n l, row m k] mem nx K := by
  refine ct37 (by simp) fun hfr => ?_
  simp -implicitDefEqProofs [ac37, row]
  refine clK_of (Cells_t n l (fun hok id ver nx' h1 h2 => ?_) fun hno nx' h1 => ?_)
  · have g := (good_ok w1).2 hok
    have h0 := g.1
    simp -implicitDefEqProofs
    by_cases hk : Good m k
    · refine pcK_of (Cells_y w2 hk) (by simp) ?_
      simp -implicitDefEqProofs
      have h0' := hk.1
      rw [Int.max_eq_left h0, Int.max_eq_left h0']
      by_cases hnm : n = m
      · subst hnm
        simp -implicitDefEqProofs []
        exact ⟨_, memSub_refl _, hy ⟨g, hk, rfl⟩ _ _ _ (by omega) (by omega)⟩
      · simp -implicitDefEqProofs [hnm]
        exact ⟨_, memSub_skip (memSub_refl _) (hfr _ (by omega)), hn (fun h => hnm h.2.2) _ _ _ (by omega)⟩
    · refine pcK_of (Cells_n w2 hk) (by simp) ?_
      simp -implicitDefEqProofs
      exact ⟨_, memSub_skip (memSub_refl _) (hfr _ (by omega)), hn (fun h => hk h.2.1) _ _ _ (by omega)⟩
  · have g : ¬ Good n l := fun g => hno ((good_ok w1).1 g)
    simp -implicitDefEqProofs
    by_cases hk : Good m k
    · refine pcK_of (Cells_y w2 hk) (by simp) ?_
      simp -implicitDefEqProofs
      exact ⟨_, memSub_refl _, hn (fun h => g h.1) _ _ _ (by omega)⟩
    · refine pcK_of (Cells_n w2 hk) (by simp) ?_
      simp -implicitDefEqProofs
      exact ⟨_, memSub_refl _, hn (fun h => g h.1) _ _ _ (by omega)⟩

theorem refBelow_c (w1 : AllW l) (w2 : AllW k) : Pure Try.prog 22 [row n l, row m k] (belowF n l m k) := by
  refine pu22 (by simp) ?_
  simp -implicitDefEqProofs [ac22, row]
  refine clK_of (two_t w1 w2 (fun ht id ver nx' h1 h2 => ?_) fun hno d e nx' h1 => ?_)
  · have hB : belowF n l m k = .tup [B (decide (∀ i, i < n.toNat → cellN l i ≤ cellN k i)), I 0] := by
      obtain ⟨g1, g2, rfl⟩ := ht
      have := leL_cells g1 g2 w1 w2
      unfold belowF
      rw [if_pos ⟨g1, g2, rfl⟩]
      congr 3
      rw [Bool.eq_iff_iff, decide_eq_true_eq]; exact this
    have h0 := ht.1.1
    have h3 := ht.1.2.1
    rw [hB]
    simp -implicitDefEqProofs
    refine lp22_0 (α := Nat) (fun i _ => [(9, I i)]) (fun _ _ => [(id, .arr ver 1 (em encI (cl n l)))]) (fun i _ => i ≤ n.toNat ∧ ∀ j, j < i → cellN l j ≤ cellN k j) (fun i => n.toNat - i) 0 ⟨by omega, by omega⟩ (by simp) (by simp) ?_
    rintro i nx ⟨hi, hall⟩
    simp -implicitDefEqProofs [lb22_0, Int.max_eq_left h0]
    refine ⟨fun hlt => ⟨hlt, fun hgt => ?_, fun hle => ?_⟩, fun hge j hj => hall j (by omega)⟩
    · rw [cl_getD (by omega), cl_getD (by omega)] at hgt
      exact ⟨i, hlt, hgt⟩
    · rw [cl_getD (by omega), cl_getD (by omega)] at hle
      refine again_of (i + 1) ⟨by omega, fun j hj => ?_⟩ (by omega) (by simp [wr64 (x := (i : Int) + 1) (by omega) (by omega)]) (by simp)
      by_cases e : j = i
      · rw [e]; exact hle
      · exact hall j (by omega)
  · have hB : belowF n l m k = .tup [B false, I 3] := by unfold belowF; rw [if_neg hno]
    simp -implicitDefEqProofs [hB]

theorem refJoin_c (w1 : AllW l) (w2 : AllW k) : Pure Try.prog 23 [row n l, row m k] (bothF joinW n l m k) := by
  refine pu23 (by simp) ?_
  simp -implicitDefEqProofs [ac23, row]
  refine clK_of (two_t w1 w2 (fun ht id ver nx' h1 h2 => ?_) fun hno d e nx' h1 => ?_)
  · have h0 := ht.1.1
    have h3 := ht.1.2.1
    have hid : ¬ id = 2 := by omega
    obtain ⟨g1, g2, rfl⟩ := ht
    have hzl : (List.zipWith max (cl n l) (cl n k)).length = n.toNat := by simp
    simp -implicitDefEqProofs
    refine lp23_0 (α := Nat) (fun i _ => [(9, I i)]) (fun i _ => [(id, .arr ver 1 (em encI ((List.zipWith max (cl n l) (cl n k)).take i ++ (cl n l).drop i))), (2, .box [I 0, .pl (.slice none 0 0)])]) (fun i _ => i ≤ n.toNat) (fun i => n.toNat - i) 0 (by omega) (by simp) (by simp) ?_
    rintro i nx hi
    simp -implicitDefEqProofs [lb23_0, Int.max_eq_left h0]
    refine ⟨fun hlt => ?_, fun hge => ?_⟩
    · have hi2 : i < n.toNat := by omega
      have hm : i < min i n.toNat + (n.toNat - i) := by omega
      have hl1 : ((List.zipWith max (cl n l) (cl n k)).take i).length = i := by simp; omega
      have e1 : ((List.zipWith max (cl n l) (cl n k)).take i ++ (cl n l).drop i)[i]?.getD 0 = cellN l i := by
        rw [List.getElem?_append_right (by omega), hl1, List.getElem?_drop, Nat.sub_self, Nat.add_zero, cl_getD hi2]
      have e2 : ((List.zipWith max (cl n l) (cl n k)).take i ++ (cl n l).drop i).set i (max (cellN l i) (cellN k i)) = (List.zipWith max (cl n l) (cl n k)).take (i + 1) ++ (cl n l).drop (i + 1) := by
        rw [List.set_append_right _ _ (by omega), hl1, Nat.sub_self, List.drop_eq_getElem_cons (by simp; omega), List.set_cons_zero, List.take_succ_eq_append_getElem (by omega), List.append_assoc, List.singleton_append]
        congr 2
        rw [List.getElem_zipWith]
        have a1 := cl_get (n := n) (l := l) hi2
        have a2 := cl_get (n := n) (l := k) hi2
        rw [List.getElem?_eq_getElem (by simp; omega)] at a1 a2
        rw [Option.some.inj a1, Option.some.inj a2]
      refine ⟨hlt, hm, hlt, hm, ?_⟩
      rw [e1, cl_getD hi2, e2]
      exact again_of (i + 1) (by omega) (by omega) (by simp [wr64 (x := (i : Int) + 1) (by omega) (by omega)]) (by simp)
    · have e : (List.zipWith max (cl n l) (cl n k)).take i ++ (cl n l).drop i = cl n (jn l k) := by
        rw [List.take_of_length_le (by omega), List.drop_eq_nil_of_le (by simp; omega), List.append_nil, cl_jn g1 g2 w1 w2]
      rw [e]
      refine clK_of (CallT_frz (mf := [(id, .arr ver 1 (em encI (cl n (jn l k))))]) (mk := [(2, .box [I 0, .pl (.slice none 0 0)])]) (memSub_cons (memSub_nil _)) (memSub_skip (memSub_refl _) (by simp; omega)) (fun j => by simp only [look]; by_cases e : id = j <;> simp [e]; omega) (args' := [.sl (em encI (cl n (jn l k)))]) (by simp [List.take_of_length_le]) (Pack_c _ cl_cell (by simp; omega)) ?_)
      simp -implicitDefEqProofs [bothF, Two, g1, g2, tup2, pack_cl (good_jn w1 w2 g1 g2) (AllW_zip (fun _ _ => joinW_W) w1 w2), Int.max_eq_left h0, jn]
  · simp -implicitDefEqProofs [bothF, hno, tup2]

theorem refMeet_c (w1 : AllW l) (w2 : AllW k) : Pure Try.prog 24 [row n l, row m k] (bothF meetW n l m k) := by
  refine pu24 (by simp) ?_
  simp -implicitDefEqProofs [ac24, row]
  refine clK_of (two_t w1 w2 (fun ht id ver nx' h1 h2 => ?_) fun hno d e nx' h1 => ?_)
  · have h0 := ht.1.1
    have h3 := ht.1.2.1
    have hid : ¬ id = 2 := by omega
    obtain ⟨g1, g2, rfl⟩ := ht
    have hzl : (List.zipWith min (cl n l) (cl n k)).length = n.toNat := by simp
    simp -implicitDefEqProofs
    refine lp24_0 (α := Nat) (fun i _ => [(9, I i)]) (fun i _ => [(id, .arr ver 1 (em encI ((List.zipWith min (cl n l) (cl n k)).take i ++ (cl n l).drop i))), (2, .box [I 0, .pl (.slice none 0 0)])]) (fun i _ => i ≤ n.toNat) (fun i => n.toNat - i) 0 (by omega) (by simp) (by simp) ?_
    rintro i nx hi
    simp -implicitDefEqProofs [lb24_0, Int.max_eq_left h0]
    refine ⟨fun hlt => ?_, fun hge => ?_⟩
    · have hi2 : i < n.toNat := by omega
      have hm : i < min i n.toNat + (n.toNat - i) := by omega
      have hl1 : ((List.zipWith min (cl n l) (cl n k)).take i).length = i := by simp; omega
      have e1 : ((List.zipWith min (cl n l) (cl n k)).take i ++ (cl n l).drop i)[i]?.getD 0 = cellN l i := by
        rw [List.getElem?_append_right (by omega), hl1, List.getElem?_drop, Nat.sub_self, Nat.add_zero, cl_getD hi2]
      have e2 : ((List.zipWith min (cl n l) (cl n k)).take i ++ (cl n l).drop i).set i (min (cellN l i) (cellN k i)) = (List.zipWith min (cl n l) (cl n k)).take (i + 1) ++ (cl n l).drop (i + 1) := by
        rw [List.set_append_right _ _ (by omega), hl1, Nat.sub_self, List.drop_eq_getElem_cons (by simp; omega), List.set_cons_zero, List.take_succ_eq_append_getElem (by omega), List.append_assoc, List.singleton_append]
        congr 2
        rw [List.getElem_zipWith]
        have a1 := cl_get (n := n) (l := l) hi2
        have a2 := cl_get (n := n) (l := k) hi2
        rw [List.getElem?_eq_getElem (by simp; omega)] at a1 a2
        rw [Option.some.inj a1, Option.some.inj a2]
      refine ⟨hlt, hm, hlt, hm, ?_⟩
      rw [e1, cl_getD hi2, e2]
      exact again_of (i + 1) (by omega) (by omega) (by simp [wr64 (x := (i : Int) + 1) (by omega) (by omega)]) (by simp)
    · have e : (List.zipWith min (cl n l) (cl n k)).take i ++ (cl n l).drop i = cl n (mt l k) := by
        rw [List.take_of_length_le (by omega), List.drop_eq_nil_of_le (by simp; omega), List.append_nil, cl_mt g1 g2 w1 w2]
      rw [e]
      refine clK_of (CallT_frz (mf := [(id, .arr ver 1 (em encI (cl n (mt l k))))]) (mk := [(2, .box [I 0, .pl (.slice none 0 0)])]) (memSub_cons (memSub_nil _)) (memSub_skip (memSub_refl _) (by simp; omega)) (fun j => by simp only [look]; by_cases e : id = j <;> simp [e]; omega) (args' := [.sl (em encI (cl n (mt l k)))]) (by simp [List.take_of_length_le]) (Pack_c _ cl_cell (by simp; omega)) ?_)
      simp -implicitDefEqProofs [bothF, Two, g1, g2, tup2, pack_cl (good_mt w1 w2 g1 g2) (AllW_zip (fun _ _ => meetW_W) w1 w2), Int.max_eq_left h0, mt]
  · simp -implicitDefEqProofs [bothF, hno, tup2]

end
end Go.Fx.Ytaghjpoijodgfaa

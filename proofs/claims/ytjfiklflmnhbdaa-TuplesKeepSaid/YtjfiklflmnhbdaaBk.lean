/-
  slices.Backward over a list of types: the function that it answers hands over the list from its end.
-/
import Derived.Test.YtjfiklflmnhbdaaCodeBack
import Derived.Test.YtjfiklflmnhbdaaXL
import Derived.Test.YtjfiklflmnhbdaaK0
set_option linter.all false
set_option maxRecDepth 1000000
set_option maxHeartbeats 4000000
namespace Go.Fx.Ytjfiklflmnhbdaa
open Go Go.Fx Go.Proofs
theorem back_c (l : List Int) : Pure Try.prog 36 [.sl (em encI l)] (.fn 55 [.pt [.sl (em encI l)]]) := by
  refine pu36 (by simp) ?_
  simp -implicitDefEqProofs [ac36]
noncomputable def bkBody : Code := Try.f55.body.getD .skip
noncomputable def bkO0 : Array Oper := match bkBody with | .seq (.region _ o _) _ => o | _ => #[]
noncomputable def bkL : Code := match bkBody with | .seq _ (.block _ (.loop x)) => x | _ => .skip
noncomputable def bkO1 : Array Oper := match bkL with | .seq (.seq (.region _ o _) _) _ => o | _ => #[]
noncomputable def bkO3 : Array Oper := match bkL with | .seq _ (.seq (.block _ (.seq (.region _ o _) _)) _) => o | _ => #[]
noncomputable def bkO2 : Array Oper := match bkL with | .seq _ (.seq _ (.region _ o _)) => o | _ => #[]
theorem bk_eq : Try.f55.body = some (.seq (.region 0 bkO0 false) (.block 0 (.loop (.seq (.seq (.region 1 bkO1 false) (.cond (.tmp 8) .skip (.exit 0))) (.seq (.block 1 (.seq (.region 3 bkO3 false) (.cond (.tmp 18) .ret .skip))) (.region 2 bkO2 false)))))) := by kernel_rfl
theorem bk_c0 : cf55.comp (.region 0 bkO0 false) = some (.reg [.mk (.t 4) none (.ld false 1 (.g 1)), .mk (.t 5) none (.len false (.t 4)), .mk (.t 6) none (.bin .sub 3 (.t 5) (.c (.int .i64 1))), .mk (.g 3) none (.mv (.t 6))]) := by kernel_rfl
theorem bk_c1 : cf55.comp (.region 1 bkO1 false) = some (.reg [.mk (.t 7) none (.mv (.g 3)), .mk (.t 8) none (.bin .geq 3 (.t 7) (.c (.int .i64 0)))]) := by kernel_rfl
theorem bk_c2 : cf55.comp (.region 2 bkO2 false) = some (.reg [.mk (.t 9) none (.mv (.g 3)), .mk (.t 10) none (.bin .sub 3 (.t 9) (.c (.int .i64 1))), .mk (.g 3) none (.mv (.t 10))]) := by kernel_rfl
theorem bk_c3 : bkO3.toList.mapM (cf55.ins bkO3) = some [.mk (.t 11) none (.mv (.g 0)), .mk (.t 12) none (.mv (.g 3)), .mk (.t 13) none (.ld false 1 (.g 1)), .mk (.t 14) none (.mv (.g 3)), .mk (.t 15) none (.ia 1 (.t 13) (.t 14)), .mk (.t 16) none (.ld false 1 (.t 15)), .mk (.t 17) none (.pc (.t 11) [.t 12, .t 16]), .mk (.t 18) none (.un .not (.t 17))] := by kernel_rfl
theorem bk_y : ∃ o c, bkO3[6]? = some o ∧ o.guard = none ∧ o.op = .call c ∧ c.callee = .value (.tmp 11) ∧ c.args = #[.tmp 12, .tmp 16] ∧ o.dst = some 17 := ⟨_, _, rfl, rfl, rfl, rfl, rfl, rfl⟩
theorem bk_n3 : bkO3.size = 8 := by kernel_rfl
def backs (l : List Int) : List (List D) := (List.range l.length).reverse.map fun (i : Nat) => [I i, I (l[i]?.getD 0)]
theorem backs_len (l : List Int) : (backs l).length = l.length := by simp [backs]
theorem backs_at (l : List Int) {i : Nat} (h : i < l.length) : (backs l)[i]? = some [I ((l.length - 1 - i : Nat) : Int), I (l[l.length - 1 - i]?.getD 0)] := by
  unfold backs
  have e : (List.range l.length).reverse[i]? = some (l.length - 1 - i) := by
    rw [List.getElem?_reverse (by simpa using h), List.length_range, List.getElem?_range (by omega)]
  rw [List.getElem?_map, e]
  rfl
abbrev yv (l : Nat) : Value := .func (.yield l) #[] #[]
def bkE (y : Nat) (l : List Int) (z : Int) : Env := [(0, .pl (yv y)), (1, .pt [.sl (em encI l)]), (3, I z)]
def bkMu (a : Act) (_ : World) : Nat := match a.tmps.getD 3 undef with | .int _ z => (z + 1).toNat | _ => 0
theorem back_iter (l : List Int) (hl : l.length < 2 ^ 48) : Iter Try.prog 55 [.pt [.sl (em encI l)]] (backs l) := by
  refine ⟨⟨Try.f55, Try.func55, by kernel_rfl, by rw [bk_eq]; rfl⟩, ?_⟩
  intro w S φ vs hvs hS
  simp only [RepVs] at hvs
  obtain ⟨p, r, rfl, hp, rfl⟩ := hvs
  refine ⟨(List.range l.length).reverse.map fun (i : Nat) => [.int .i64 i, .int .i64 (l[i]?.getD 0)], by simp [backs], fun i y v hy hv => ?_, ?_⟩
  · unfold backs at hy
    rw [List.getElem?_map, Option.map_eq_some_iff] at hy hv
    obtain ⟨j, h1, rfl⟩ := hy
    obtain ⟨k, h2, rfl⟩ := hv
    rw [h1] at h2
    simp only [Option.some.injEq] at h2
    subst h2
    simp [RepVs, Rep]
  intro y J Jx hJ hJx hZ hy Z W hJ0 hWs hWS
  obtain ⟨S1, hS1⟩ : ∃ S1, S1 = SF S φ [] := ⟨_, rfl⟩
  have hSS : ∀ b, S1 b → S b := fun b hb => by
    rw [hS1] at hb
    rcases hb with h | ⟨i, blk, lc, h, _⟩
    · exact h
    · simp [look] at h
  have hSS2 : ∀ b, S b → S1 b := fun b hb => by rw [hS1]; exact .inl hb
  have hp1 : Rep w S1 noLocs (.pt [.sl (em encI l)]) p := by rw [hS1]; exact imm_SF (by simp [D.imm, D.imms]) hp
  have hp2 : Rep W S1 noLocs (.pt [.sl (em encI l)]) p := Rep.mono (Stays.of_heap (fun _ h => h) (fun b hb => hWS b (hSS b hb)) (fun _ _ h => h)) _ _ hp1
  have hm0 : MSim S1 noLocs [] 0 W := ⟨fun i blk h => by simp [look] at h, fun i j l m h => by simp [noLocs] at h, fun i l h => by simp [noLocs] at h, fun _ _ => rfl, fun b hb => Nat.lt_of_lt_of_le (hS b (hSS b hb)) hWs⟩
  have hfn := Try.func55
  refine callsIn_of_wp (F := FrR none) hfn bk_eq trivial ?_
  obtain ⟨R, hR⟩ : ∃ R : Ending → World → Prop, R = fun e W' => (∃ v, e = .returned v) ∧ ((∃ Z', J (backs l).length Z' W') ∨ Jx W') := ⟨_, rfl⟩
  rw [← hR]
  have hRo : ∀ w, ¬ R .outgrown w := fun w h => by
    rw [hR] at h
    obtain ⟨⟨v, hv⟩, _⟩ := h
    cases hv
  obtain ⟨x, hx⟩ : ∃ x : Rx, x = ⟨none, W.heap.size⟩ := ⟨_, rfl⟩
  have hs0 := start_sim (C := cf55) (B := W.heap.size) (n := Try.f55.ntmps) (args := [.pl (yv y), .pt [.sl (em encI l)]]) (xs := [yv y, p]) (by rfl) (by show 2 ≤ 19; decide) (by simp only [RepVs]; exact ⟨_, _, rfl, by simp [Rep], _, _, rfl, hp2, rfl⟩) hm0
  rw [← hx] at hs0
  have e0 : env0 cf55.gs [.pl (yv y), .pt [.sl (em encI l)]] = [(0, .pl (yv y)), (1, .pt [.sl (em encI l)]), (3, .pl undef)] := rfl
  rw [e0] at hs0
  show Code.wpIn (FrR none) 0 Try.prog _ _ { tmps := [yv y, p].toArray ++ Array.replicate (Try.f55.ntmps - [yv y, p].toArray.size) undef, defers := [] } W
  have hd0 : ({ tmps := [yv y, p].toArray ++ Array.replicate (Try.f55.ntmps - [yv y, p].toArray.size) undef, defers := [] } : Act).defers = [] := rfl
  generalize ({ tmps := [yv y, p].toArray ++ Array.replicate (Try.f55.ntmps - [yv y, p].toArray.size) undef, defers := [] } : Act) = a0 at *
  have grown : ∀ {S2 S3 : Nat → Prop} {φ2 φ3 : Locs} {W2 W3 : World}, Ext S2 φ2 [] W2 S3 φ3 [] W3 → Grown W2 W3 := fun h => ⟨h.size, fun b hb => h.keep b hb (by rintro ⟨i, blk, lc, h1, _⟩; simp [look] at h1), h.os, h.output, h.tape⟩
  have news : ∀ {S2 S3 : Nat → Prop} {φ2 φ3 : Locs} {W2 W3 : World}, Ext S2 φ2 [] W2 S3 φ3 [] W3 → ∀ b, S3 b → S2 b ∨ W2.heap.size ≤ b := fun h b hb => by
    rcases h.news b hb with g | g | ⟨i, blk, lc, h1, _⟩
    · exact .inl g
    · exact .inr g
    · simp [look] at h1
  have hnb : l.length < 2 ^ 48 := hl
  -- what holds at the loop's head
  let Inv : Act → World → Prop := fun a W2 => ∃ (i : Nat) (Z2 : Nat → Prop) (S2 : Nat → Prop) (φ2 : Locs) (nx2 : Nat), i ≤ l.length ∧ J i Z2 W2 ∧ Sim cf55 x S2 φ2 ⟨bkE y l ((l.length : Int) - 1 - i), [], [], nx2⟩ a W2 ∧ a.defers = [] ∧ (∀ b, Z2 b → ¬ S2 b) ∧ W.heap.size ≤ W2.heap.size
  have w0 := wr64 (x := (l.length : Int) - 1) (by omega) (by omega)
  refine wpIn_seq (region_in (C := cf55) (is := _) (K := fun e t m n => e = bkE y l ((l.length : Int) - 1) ∧ m = []) (fun a w h => hRo w h) bk_c0 hs0 ?_ ?_)
  · simp -implicitDefEqProofs [w0, bkE]
  rintro env1 tl1 mem1 nx1 S2 φ2 a1 W1 ⟨rfl, rfl⟩ hh1 hx1 hd1
  refine wpIn_block (wpIn_loop Inv bkMu ⟨0, Z, S2, φ2, nx1, by omega, hJ 0 Z W W1 hJ0 (grown hx1), ⟨hh1.size, hh1.defers, by simpa using hh1.known.env, fun j d _ h => by simp [look] at h, hh1.m⟩, hd1.trans hd0, fun b hb hS => ?_, hx1.size⟩ ?_)
  · obtain ⟨g1, g2⟩ := hZ 0 Z W hJ0 b hb
    rcases news hx1 b hS with h | h
    · exact g2 (hSS b h)
    · omega
  -- one round
  rintro a2 W2 ⟨i, Z2, S3, φ3, nx3, hi, hJ2, hs2, hd2, hZ2, hW2⟩
  have hmu : bkMu a2 W2 = l.length - i := by
    have := hs2.env 3 (I ((l.length : Int) - 1 - i)) (by show 3 ∈ [0, 1, 3]; decide) rfl
    simp only [Rep] at this
    unfold bkMu
    rw [this]
    simp only
    omega
  have w1 := wr64 (x := (l.length : Int) - 1 - i - 1) (by omega) (by omega)
  refine wpIn_seq (wpIn_seq (region_in (C := cf55) (is := _) (K := fun e t m n => e = bkE y l ((l.length : Int) - 1 - i) ∧ m = [] ∧ look t 8 = some (B (decide (0 ≤ (l.length : Int) - 1 - i)))) (fun a w h => hRo w h) bk_c1 hs2 ?_ ?_))
  · simp -implicitDefEqProofs [bkE]
  rintro env4 tl4 mem4 nx4 S4 φ4 a4 W4 ⟨rfl, rfl, ht4⟩ hh4 hx4 hd4
  have hc8 := hh4.known.tl 8 _ (by show 8 ∉ [0, 1, 3]; decide) ht4
  simp only [Rep] at hc8
  have hZ4 : ∀ b, Z2 b → ¬ S4 b := fun b hb hS => by
    rcases news hx4 b hS with h | h
    · exact hZ2 b hb h
    · have := (hZ i Z2 W2 hJ2 b hb).1
      omega
  have hJ4 := hJ i Z2 W2 W4 hJ2 (grown hx4)
  have hW4 := Nat.le_trans hW2 hx4.size
  refine wpIn_cond (t := decide (0 ≤ (l.length : Int) - 1 - i)) hc8 ?_
  by_cases hlt : i < l.length
  · rw [if_pos (by simp; omega)]
    refine wpIn_skip ?_
    obtain ⟨o6, c6, ho6, hg6, hop6, hcv6, hca6, hdst6⟩ := bk_y
    have hx0 : i < (backs l).length := by rw [backs_len]; exact hlt
    have hzi : (l.length : Int) - 1 - i = ((l.length - 1 - i : Nat) : Int) := by omega
    have hj : l.length - 1 - i < l.length := by omega
    have hval : ((List.range l.length).reverse.map fun (i : Nat) => [Value.int .i64 i, .int .i64 (l[i]?.getD 0)])[i]? = some [.int .i64 ((l.length - 1 - i : Nat) : Int), .int .i64 (l[l.length - 1 - i]?.getD 0)] := by
      have e : (List.range l.length).reverse[i]? = some (l.length - 1 - i) := by
        rw [List.getElem?_reverse (by simpa using hlt), List.length_range, List.getElem?_range (by omega)]
      rw [List.getElem?_map, e]
      rfl
    refine wpIn_seq (wpIn_block (wpIn_seq (wpIn_region ?_)))
    have hr8 : List.range bkO3.size = List.range' 0 6 ++ [6, 7] := by rw [bk_n3]; rfl
    rw [hr8]
    have hins : ∀ (k : Nat) (z : Ins), [Ins.mk (.t 11) none (.mv (.g 0)), .mk (.t 12) none (.mv (.g 3)), .mk (.t 13) none (.ld false 1 (.g 1)), .mk (.t 14) none (.mv (.g 3)), .mk (.t 15) none (.ia 1 (.t 13) (.t 14)), .mk (.t 16) none (.ld false 1 (.t 15)), .mk (.t 17) none (.pc (.t 11) [.t 12, .t 16]), .mk (.t 18) none (.un .not (.t 17))][k]? = some z → ∃ o, bkO3[k]? = some o ∧ cf55.ins bkO3 o = some z := fun k z hz => by
      obtain ⟨o, h1, h2⟩ := mapM_get bk_c3 k z hz
      exact ⟨o, by simpa using h1, h2⟩
    refine run_prefix (C := cf55) (x := x) (rd := none) (base := nx4) (K := fun e t m n => e = bkE y l ((l.length : Int) - 1 - i) ∧ m = [] ∧ look t 11 = some (.pl (yv y)) ∧ look t 12 = some (I ((l.length : Int) - 1 - i)) ∧ look t 16 = some (I (l[l.length - 1 - i]?.getD 0))) (no_defer bk_c3) ?_
      [Ins.mk (.t 11) none (.mv (.g 0)), .mk (.t 12) none (.mv (.g 3)), .mk (.t 13) none (.ld false 1 (.g 1)), .mk (.t 14) none (.mv (.g 3)), .mk (.t 15) none (.ia 1 (.t 13) (.t 14)), .mk (.t 16) none (.ld false 1 (.t 15))] 0 (bkE y l ((l.length : Int) - 1 - i)) [] [] (nx4 + 6) S4 φ4 a4 W4 (fun k z hz => ?_) ?_ ?_ (fun k _ _ => hh4.m.fresh _ (by omega)) (by simp) ?_
    · intro a w h; exact hRo w h
    · rw [Nat.zero_add]
      refine hins k z ?_
      match k, hz with
      | 0, hz => exact hz
      | 1, hz => exact hz
      | 2, hz => exact hz
      | 3, hz => exact hz
      | 4, hz => exact hz
      | 5, hz => exact hz
      | k + 6, hz => simp at hz
    · rw [hzi]
      simp -implicitDefEqProofs [bkE, hj]
    · exact ⟨⟨hh4.known.env, fun j d _ h => by simp [look] at h⟩, hh4.size, hh4.defers, ⟨hh4.m.mem, hh4.m.inj, hh4.m.lt, fun k hk => hh4.m.fresh k (by omega), hh4.m.sub⟩⟩
    rintro env5 tl5 mem5 nx5 S5 φ5 a5 W5 ⟨rfl, rfl, t11, t12, t16⟩ hh5 hx5 hd5
    have q11 := hh5.known.tl 11 _ (by show 11 ∉ [0, 1, 3]; decide) t11
    have q12 := hh5.known.tl 12 _ (by show 12 ∉ [0, 1, 3]; decide) t12
    have q16 := hh5.known.tl 16 _ (by show 16 ∉ [0, 1, 3]; decide) t16
    simp only [Rep] at q11 q12 q16
    have hJ5 := hJ i Z2 W4 W5 hJ4 (grown hx5)
    have hW5 := Nat.le_trans hW4 hx5.size
    have hd5' : a5.defers = [] := hd5.trans (hd4.trans hd2)
    have hZ5 : ∀ b, Z2 b → ¬ S5 b := fun b hb hS => by
      rcases news hx5 b hS with h | h
      · exact hZ4 b hb h
      · have := (hZ i Z2 W4 hJ4 b hb).1
        omega
    rw [wpOpsIn_cons]
    have hargs : c6.args.map a5.eval = [Value.int .i64 ((l.length - 1 - i : Nat) : Int), .int .i64 (l[l.length - 1 - i]?.getD 0)].toArray := by
      rw [hca6]
      simp only [List.map_toArray, List.map_cons, List.map_nil, Act.eval, q12, q16, hzi]
    refine yield_op ho6 hg6 hop6 hcv6 (by simpa only [Act.eval] using q11) (by rw [hargs]; exact hy i _ Z2 W5 hval hJ5) ?_
    rw [hdst6]
    have h7 : ∃ o, bkO3[7]? = some o ∧ cf55.ins bkO3 o = some (.mk (.t 18) none (.un .not (.t 17))) := hins 7 _ rfl
    have hsz5 : ∀ bv : Bool, (a5.put (some 17) (.bool bv)).tmps.size = cf55.n := fun bv => by simpa [Act.put] using hh5.size
    have hsz6 : 17 < a5.tmps.size := by rw [hh5.size]; show 17 < 19; decide
    have h17 : ∀ bv : Bool, (a5.put (some 17) (.bool bv)).tmps.getD 17 undef = .bool bv := fun bv => by simp only [Act.put]; exact getD_set_eq _ hsz6
    have hne : ∀ (bv : Bool) (j : Nat), j ≠ 17 → (a5.put (some 17) (.bool bv)).tmps.getD j undef = a5.tmps.getD j undef := fun bv j hj => by simp only [Act.put]; exact getD_set_ne _ hj
    rintro e W6 (⟨rfl, hz6, hk6, Z6, hJ6, hZ6⟩ | ⟨rfl, hJ6⟩)
    · refine ⟨.bool true, rfl, ?_⟩
      have hS6 : ∀ b, S5 b → W6.heap[b]? = W5.heap[b]? := fun b hb => hk6 b (hh5.m.sub b hb) fun hz => hZ5 b hz hb
      have hst6 : Stays W5 S5 φ5 W6 S5 φ5 := Stays.of_heap (fun _ h => h) hS6 (fun _ _ h => h)
      have hh6 : Here cf55 x S5 φ5 (bkE y l ((l.length : Int) - 1 - i)) [(17, B true)] [] (nx5 + 8) (a5.put (some 17) (.bool true)) W6 := by
        refine ⟨⟨fun j d hj hl => ?_, fun j d hj hl => ?_⟩, hsz5 true, by show Dfr x _ W6 a5.defers; rw [hd5', hx]; exact Dfr.nil, ⟨fun k blk h => by simp [look] at h, hh5.m.inj, fun k lc h1 h2 => Nat.lt_of_lt_of_le (hh5.m.lt k lc h1 h2) hz6, fun k hk => hh5.m.fresh k (by omega), fun b hb => Nat.lt_of_lt_of_le (hh5.m.sub b hb) hz6⟩⟩
        · have hj17 : j ≠ 17 := by
            rintro rfl
            have : (17 : Nat) ∈ [0, 1, 3] := hj
            simp at this
          rw [hne true j hj17]
          exact Rep.mono hst6 _ _ (hh5.known.env j d hj hl)
        · simp only [look] at hl
          split at hl
          · rename_i e; subst e
            simp only [Option.some.injEq] at hl
            subst hl
            rw [h17 true]
            simp [Rep]
          · simp at hl
      have e7 : ([7] : List Nat) = List.range' 7 [Ins.mk (.t 18) none (.un .not (.t 17))].length ++ [] := rfl
      rw [e7]
      refine run_prefix (C := cf55) (x := x) (rd := none) (base := nx5) (K := fun e t m n => e = bkE y l ((l.length : Int) - 1 - i) ∧ m = [] ∧ look t 18 = some (B false)) (no_defer bk_c3) ?_ _ 7 _ _ _ _ S5 φ5 _ W6 (fun k z hz => ?_) ?_ hh6 (fun k _ _ => hh5.m.fresh _ (by omega)) (by simp) ?_
      · intro a w h; exact hRo w h
      · match k, hz with
        | 0, hz => simp only [List.getElem?_cons_zero, Option.some.injEq] at hz; subst hz; exact h7
        | k + 1, hz => simp at hz
      · simp -implicitDefEqProofs
      rintro env7 tl7 mem7 nx7 S7 φ7 a7 W7 ⟨rfl, rfl, t18⟩ hh7 hx7 hd7
      have q18 := hh7.known.tl 18 _ (by show 18 ∉ [0, 1, 3]; decide) t18
      simp only [Rep] at q18
      show Code.wpIn _ _ _ _ _ _ _
      refine wpIn_cond_false (by simpa only [Act.eval] using q18) (wpIn_skip ?_)
      have hd7' : a7.defers = [] := hd7.trans hd5'
      have hJ7 := hJ (i + 1) Z6 W6 W7 hJ6 (grown hx7)
      have hW7 := Nat.le_trans hW5 (Nat.le_trans hz6 hx7.size)
      have hZ7 : ∀ b, Z6 b → ¬ S7 b := fun b hb hS => by
        rcases news hx7 b hS with h | h
        · rcases hZ6 b hb with g | g
          · exact hZ5 b g h
          · have := hh5.m.sub b h
            omega
        · have := (hZ (i + 1) Z6 W6 hJ6 b hb).1
          omega
      refine region_in (C := cf55) (x := x) (env := bkE y l ((l.length : Int) - 1 - i)) (tl := []) (mem := []) (nx := nx7) (is := _) (K := fun e t m n => e = bkE y l ((l.length : Int) - 1 - (i + 1 : Nat)) ∧ m = []) (fun a w h => hRo w h) bk_c2 ⟨hh7.size, hh7.defers, hh7.known.env, fun j d _ h => by simp [look] at h, hh7.m⟩ ?_ ?_
      · simp -implicitDefEqProofs [bkE, w1]
        omega
      rintro env8 tl8 mem8 nx8 S8 φ8 a8 W8 ⟨rfl, rfl⟩ hh8 hx8 hd8
      have hJ8 := hJ (i + 1) Z6 W7 W8 hJ7 (grown hx8)
      have hs8 : Sim cf55 x S8 φ8 ⟨bkE y l ((l.length : Int) - 1 - (i + 1 : Nat)), [], [], nx8⟩ a8 W8 := ⟨hh8.size, hh8.defers, hh8.known.env, fun j d _ h => by simp [look] at h, hh8.m⟩
      refine ⟨⟨i + 1, Z6, S8, φ8, nx8, by omega, hJ8, hs8, hd8.trans hd7', fun b hb hS => ?_, Nat.le_trans hW7 hx8.size⟩, ?_⟩
      · rcases news hx8 b hS with h | h
        · exact hZ7 b hb h
        · have := (hZ (i + 1) Z6 W7 hJ7 b hb).1
          omega
      · rw [hmu]
        have := hs8.env 3 (I ((l.length : Int) - 1 - (i + 1 : Nat))) (by show 3 ∈ [0, 1, 3]; decide) rfl
        simp only [Rep] at this
        unfold bkMu
        rw [this]
        simp only
        omega
    · refine ⟨.bool false, rfl, ?_⟩
      have hh6 : Here cf55 x (fun _ => False) noLocs [] [(17, B false)] [] 1 (a5.put (some 17) (.bool false)) W6 := by
        refine ⟨⟨fun j d hj hl => by simp [look] at hl, fun j d hj hl => ?_⟩, hsz5 false, by show Dfr x _ W6 a5.defers; rw [hd5', hx]; exact Dfr.nil, ⟨fun k blk h => by simp [look] at h, fun i j l m h => by simp [noLocs] at h, fun i l h => by simp [noLocs] at h, fun _ _ => rfl, fun b hb => hb.elim⟩⟩
        simp only [look] at hl
        split at hl
        · rename_i e; subst e
          simp only [Option.some.injEq] at hl
          subst hl
          rw [h17 false]
          simp [Rep]
        · simp at hl
      have e7 : ([7] : List Nat) = List.range' 7 [Ins.mk (.t 18) none (.un .not (.t 17))].length ++ [] := rfl
      rw [e7]
      refine run_prefix (C := cf55) (x := x) (rd := none) (base := 0) (K := fun e t m n => m = [] ∧ look t 18 = some (B true)) (no_defer bk_c3) ?_ _ 7 _ _ _ 8 (fun _ => False) noLocs _ W6 (fun k z hz => ?_) ?_ ⟨hh6.known, hh6.size, hh6.defers, ⟨hh6.m.mem, hh6.m.inj, hh6.m.lt, fun _ _ => rfl, hh6.m.sub⟩⟩ (fun k _ _ => rfl) (by simp) ?_
      · intro a w h; exact hRo w h
      · match k, hz with
        | 0, hz => simp only [List.getElem?_cons_zero, Option.some.injEq] at hz; subst hz; exact h7
        | k + 1, hz => simp at hz
      · simp -implicitDefEqProofs
      rintro env7 tl7 mem7 nx7 S7 φ7 a7 W7 ⟨rfl, t18⟩ hh7 hx7 hd7
      have q18 := hh7.known.tl 18 _ (by show 18 ∉ [0, 1, 3]; decide) t18
      simp only [Rep] at q18
      show Code.wpIn _ _ _ _ _ _ _
      refine wpIn_cond_true (by simpa only [Act.eval] using q18) (wpIn_ret ?_)
      show a7.defers = [] ∧ _
      refine ⟨hd7.trans hd5', ?_⟩
      obtain ⟨v, hv, hrun⟩ := results_run (C := cf55) (fn := Try.f55) (xs := []) (ds := []) hh7.known hh7.m (by kernel_rfl) rfl
      refine ⟨v, hrun, ?_⟩
      rw [hR]
      exact ⟨⟨v, rfl⟩, .inr (hJx W6 W7 hJ6 (grown hx7))⟩
  · rw [if_neg (by simp; omega)]
    refine wpIn_exit ?_
    have hil : i = l.length := by omega
    subst hil
    show a4.defers = [] ∧ _
    refine ⟨hd4.trans hd2, ?_⟩
    obtain ⟨v, hv, hrun⟩ := results_run (C := cf55) (fn := Try.f55) (xs := []) (ds := []) hh4.known hh4.m (by kernel_rfl) rfl
    refine ⟨v, hrun, ?_⟩
    rw [hR]
    exact ⟨⟨v, rfl⟩, .inl ⟨Z2, by rw [backs_len]; exact hJ4⟩⟩
end Go.Fx.Ytjfiklflmnhbdaa

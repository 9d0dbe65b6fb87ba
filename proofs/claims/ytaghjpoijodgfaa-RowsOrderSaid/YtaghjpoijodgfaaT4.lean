import Derived.Test.YtaghjpoijodgfaaT3
set_option linter.all false
namespace Go.Fx.Ytaghjpoijodgfaa
open Go Go.Fx Go.Proofs
def cellN (l : List Int) (i : Nat) : Int := (l[i / 32]?.getD 0 / 4 ^ (i % 32)) % 4
def CellsOk (n : Int) (l : List Int) : Prop := 0 ≤ n ∧ n ≤ 4096 ∧ (l.length : Int) = (n + 31) / 32 ∧ (∀ i : Nat, n ≤ i → i < 32 * l.length → cellN l i = 0)
open Classical in
noncomputable def cellsF (n : Int) (l : List Int) : D := if CellsOk n l then .tup [.sl (em encI ((List.range n.toNat).map (cellN l))), B true] else .tup [.sl [], B false]
theorem cellsF_no {n : Int} {l : List Int} (h : ¬ CellsOk n l) : cellsF n l = .tup [.sl [], B false] := by simp [cellsF, h]
theorem cellsF_yes {n : Int} {l : List Int} (h : CellsOk n l) : cellsF n l = .tup [.sl (em encI ((List.range n.toNat).map (cellN l))), B true] := by simp [cellsF, h]
@[simp] theorem cfP13 : cf13.P = Try.prog := (rfl)

theorem Cells_c (n : Int) (l : List Int) : Pure Try.prog 13 [row n l] (cellsF n l) := by
  refine pu13 (by simp) ?_
  simp -implicitDefEqProofs [ac13, row]
  refine ⟨fun h0 => ⟨fun h1 => ?_, fun h1 => ?_⟩, fun h0 => ?_⟩
  · rw [wr64 (x := n + 31) (by omega) (by omega), Int.tdiv_eq_ediv_of_nonneg (by omega), wr64 (by omega) (by omega)]
    refine ⟨fun h2 => by rw [cellsF_no fun h => h2 h.2.2.1], fun h2 => ?_⟩
    have hlen : l.length ≤ 128 := by omega
    refine A_loop_wk (α := Nat) (fun i _ => [(0, D.agg [I n, D.sl (em encU l)]), (1, D.pt [I n, D.sl (em encU l)]), (2, D.pl (Value.slice none 0 0)), (3, B false), (4, .osl 23 (min i n.toNat) 0 (min i n.toNat)), (5, I i), (6, .top)])
      (fun i _ => [(23, .arr (min i n.toNat) 1 (em encI ((List.range (min i n.toNat)).map (cellN l))))]) (fun i _ => i ≤ 32 * l.length ∧ ∀ j : Nat, n ≤ j → j < i → cellN l j = 0) (fun i => 32 * l.length - i)
      ⟨0, 24, by simp, (Wk_own (j := 4) (k := 1) rfl (.inl rfl)).trans (Wk_to ⟨rfl, .inl rfl, rfl, .inl rfl, rfl, .inl rfl, rfl, .inl rfl, rfl, .inl (by simp), rfl, .inl rfl, rfl, .inr (.inl rfl), trivial⟩ (by simp; exact memLe_refl _) (Nat.le_refl _))⟩ ?_
    rintro i nx ⟨hi, hz⟩
    simp -implicitDefEqProofs [cv_int Try.underlying3 Try.underlying60, cv_int Try.underlying38 Try.underlying3]
    have hc : i < 32 * l.length → bAnd .u64 (bShr .u64 (l[(IntKind.i64.wrap (i / 32 : Int)).toNat]?.getD 0) (IntKind.u64.wrap (IntKind.i64.wrap (2 * (i : Int).tmod 32)))) 3 = cellN l i := by
      intro hlt
      have e1 : (IntKind.i64.wrap (i / 32 : Int)).toNat = i / 32 := by rw [wr64 (by omega) (by omega)]; omega
      have e2 : (2 : Int) * (i : Int).tmod 32 = ((2 * (i % 32) : Nat) : Int) := by rw [Int.tmod_eq_emod_of_nonneg (by omega)]; omega
      rw [bAnd3, e1, e2, wr64 (by omega) (by omega), wru64 (by omega) (by omega), shr_nonneg _ _ rfl (by simp only [IntKind.bits]; omega), Int.pow_mul]
      rfl
    have hcb : ∀ j, 0 ≤ cellN l j ∧ cellN l j < 4 := fun j => ⟨Int.emod_nonneg _ (by decide), Int.emod_lt_of_pos _ (by decide)⟩
    have hcb' := hcb i
    have e32 : IntKind.i64.wrap (32 * (l.length : Int)) = 32 * l.length := wr64 (by omega) (by omega)
    have e3 : IntKind.i64.wrap ((i : Int) / 32) = i / 32 := wr64 (by omega) (by omega)
    have e4 : IntKind.i64.wrap ((i : Int) + 1) = ((i + 1 : Nat) : Int) := by rw [wr64 (by omega) (by omega)]; omega
    have e5 : 0 ≤ IntKind.u64.wrap (IntKind.i64.wrap (2 * (i : Int).tmod 32)) := by
      rw [Int.tmod_eq_emod_of_nonneg (by omega), wr64 (by omega) (by omega), wru64 (by omega) (by omega)]; omega
    rw [e32]
    refine ⟨fun hlt => ?_, fun hge => ?_⟩
    · rw [hc (by omega), wr64 (x := cellN l i) (by omega) (by omega), e3, e4]
      refine ⟨by omega, e5, fun hin => ⟨by omega, ?_⟩, fun hin => ⟨fun hne => ?_, fun heq => ?_⟩⟩
      · have hem : min i n.toNat = i := by omega
        have hem' : min (i + 1) n.toNat = i + 1 := by omega
        refine again_of (i + 1) ⟨by omega, fun j h1 h2 => hz j h1 (by omega)⟩ (by omega) ⟨rfl, .inl rfl, rfl, .inl rfl, rfl, .inl rfl, rfl, .inl rfl, rfl, .inl (by rw [hem, hem']), rfl, .inl rfl, rfl, .inr (.inl rfl), trivial⟩ ?_
        rw [hem, hem', List.take_of_length_le (by simp), List.range_succ]
        simp
        exact memLe_refl _
      · rw [cellsF_no]; intro h; exact hne (h.2.2.2 i hin (by omega))
      · have hem : min (i + 1) n.toNat = min i n.toNat := by omega
        refine again_of (i + 1) ⟨by omega, fun j h1 h2 => ?_⟩ (by omega) ⟨rfl, .inl rfl, rfl, .inl rfl, rfl, .inl rfl, rfl, .inl rfl, rfl, .inl (by rw [hem]), rfl, .inl rfl, rfl, .inr (.inl rfl), trivial⟩ (by rw [hem]; exact memLe_refl _)
        by_cases e : j = i
        · rw [e]; exact heq
        · exact hz j h1 (by omega)
    · have hok : CellsOk n l := ⟨h0, h1, h2, fun j h3 h4 => hz j h3 (by omega)⟩
      have hem : min i n.toNat = n.toNat := by omega
      rw [cellsF_yes hok, hem, List.take_of_length_le (by simp)]
  · rw [cellsF_no]; intro h; have := h.2.1; omega
  · rw [cellsF_no]; intro h; have := h.1; omega
end Go.Fx.Ytaghjpoijodgfaa

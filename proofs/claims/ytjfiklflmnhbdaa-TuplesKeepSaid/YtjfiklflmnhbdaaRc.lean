import Derived.Test.YtjfiklflmnhbdaaRb
set_option linter.all false
namespace Go.Fx.Ytjfiklflmnhbdaa
open Go Go.Fx Go.Proofs
def cellN (l : List Int) (i : Nat) : Int := (l[i / 32]?.getD 0 / 4 ^ (i % 32)) % 4
def CellsOk (n : Int) (l : List Int) : Prop := 0 ≤ n ∧ n ≤ 4096 ∧ (l.length : Int) = (n + 31) / 32 ∧ (∀ i : Nat, n ≤ i → i < 32 * l.length → cellN l i = 0)
open Classical in
noncomputable def cellsF (n : Int) (l : List Int) : D := if CellsOk n l then .tup [.sl (em encI ((List.range n.toNat).map (cellN l))), B true] else .tup [.sl [], B false]
theorem cellsF_no {n : Int} {l : List Int} (h : ¬ CellsOk n l) : cellsF n l = .tup [.sl [], B false] := by simp [cellsF, h]
theorem cellsF_yes {n : Int} {l : List Int} (h : CellsOk n l) : cellsF n l = .tup [.sl (em encI ((List.range n.toNat).map (cellN l))), B true] := by simp [cellsF, h]

theorem cellN_b (l : List Int) (j : Nat) : 0 ≤ cellN l j ∧ cellN l j < 4 := ⟨Int.emod_nonneg _ (by decide), Int.emod_lt_of_pos _ (by decide)⟩
theorem cell_get (l : List Int) (i : Nat) (h : i < 32 * l.length) (hl : l.length ≤ 128) : bAnd .u64 (bShr .u64 (l[i / 32]?.getD 0) (IntKind.u64.wrap (IntKind.i64.wrap (2 * (i : Int).tmod 32)))) 3 = cellN l i := by
  have e2 : (2 : Int) * (i : Int).tmod 32 = ((2 * (i % 32) : Nat) : Int) := by rw [Int.tmod_eq_emod_of_nonneg (by omega)]; omega
  rw [bAnd3, e2, wr64 (by omega) (by omega), wru64 (by omega) (by omega), shr_nonneg _ _ rfl (by simp only [IntKind.bits]; omega), Int.pow_mul]
  rfl
def cl (n : Int) (l : List Int) : List Int := (List.range n.toNat).map (cellN l)
@[simp] theorem cl_len {n : Int} {l : List Int} : (cl n l).length = n.toNat := by simp [cl]

/-- The cells of a row, as a slice that is the caller's own. -/
theorem Cells_t (n : Int) (l : List Int) {mem : Mem} {nx : Nat} {K : KD} (hy : CellsOk n l → ∀ id ver nx', nx ≤ id → id < nx' → K (.tup [.osl id ver 0 n.toNat, B true]) ((id, .arr ver 1 (em encI (cl n l))) :: mem) nx')
    (hn : ¬ CellsOk n l → ∀ nx', nx ≤ nx' → K (.tup [.pl (.slice none 0 0), B false]) mem nx') : CallT Try.prog 41 [row n l] mem nx K := by
  refine ct41 (by simp) fun hfr => ?_
  simp -implicitDefEqProofs [ac41, row]
  refine ⟨fun h0 => ⟨fun h1 => ?_, fun h1 => ?_⟩, fun h0 => ?_⟩
  · rw [wr64 (x := n + 31) (by omega) (by omega), Int.tdiv_eq_ediv_of_nonneg (by omega), wr64 (by omega) (by omega)]
    refine ⟨fun h2 => ⟨mem, memSub_refl _, hn (fun h => h2 h.2.2.1) _ (by omega)⟩, fun h2 => ?_⟩
    have hlen : l.length ≤ 128 := by omega
    refine A_loop_own (j := 4) (k := 1) rfl (.inl rfl) ?_
    generalize hN : nx + 20 + 1 + 1 + 1 = N
    have hNn : nx < N := by omega
    clear hN
    refine lp41_0 (α := Nat) (fun i _ => [(3, B false), (4, .osl N (min i n.toNat) 0 (min i n.toNat)), (5, I i)]) (fun i _ => (N, .arr (min i n.toNat) 1 (em encI ((List.range (min i n.toNat)).map (cellN l)))) :: mem)
      (fun i m => N < m ∧ i ≤ 32 * l.length ∧ ∀ j : Nat, n ≤ j → j < i → cellN l j = 0) (fun i => 32 * l.length - i) 0 ⟨by omega, by omega, by omega⟩ (by simp) (by simp) ?_
    rintro i m ⟨hm, hi, hz⟩
    simp -implicitDefEqProofs [lb41_0]
    have hcb := cellN_b l i
    have e32 : IntKind.i64.wrap (32 * (l.length : Int)) = 32 * l.length := wr64 (by omega) (by omega)
    have e3 : IntKind.i64.wrap ((i : Int) / 32) = i / 32 := wr64 (by omega) (by omega)
    have e4 : IntKind.i64.wrap ((i : Int) + 1) = ((i + 1 : Nat) : Int) := by rw [wr64 (by omega) (by omega)]; omega
    have e5 : 0 ≤ IntKind.u64.wrap (IntKind.i64.wrap (2 * (i : Int).tmod 32)) := by
      rw [Int.tmod_eq_emod_of_nonneg (by omega), wr64 (by omega) (by omega), wru64 (by omega) (by omega)]; omega
    have e6 : ((i : Int) / 32).toNat = i / 32 := by omega
    rw [e32]
    refine ⟨fun hlt => ?_, fun hge => ?_⟩
    · rw [e3, e6, cell_get l i (by omega) hlen, wr64 (x := cellN l i) (by omega) (by omega), e4]
      refine ⟨by omega, e5, fun hin => ⟨by omega, ?_⟩, fun hin => ⟨fun hne => ?_, fun heq => ?_⟩⟩
      · have hem : min i n.toNat = i := by omega
        have hem' : min (i + 1) n.toNat = i + 1 := by omega
        refine again_of (i + 1) ⟨by omega, by omega, fun j h1 h2 => hz j h1 (by omega)⟩ (by omega) (by simp [hem, hem']) ?_
        simp [hem, hem', List.take_of_length_le, List.range_succ]
      · exact ⟨mem, memSub_skip (memSub_refl _) (hfr N (by omega)), hn (fun h => hne (h.2.2.2 i hin (by omega))) _ (by omega)⟩
      · have hem : min (i + 1) n.toNat = min i n.toNat := by omega
        refine again_of (i + 1) ⟨by omega, by omega, fun j h1 h2 => ?_⟩ (by omega) (by simp [hem]) (by simp [hem])
        by_cases e : j = i
        · rw [e]; exact heq
        · exact hz j h1 (by omega)
    · have hok : CellsOk n l := ⟨h0, h1, h2, fun j h3 h4 => hz j h3 (by omega)⟩
      have hem : min i n.toNat = n.toNat := by omega
      rw [hem]
      have hy := hy hok
      unfold cl at hy
      exact ⟨_, memSub_refl _, hy _ _ _ (by omega) (by omega)⟩
  · exact ⟨mem, memSub_refl _, hn (fun h => by have := h.2.1; omega) _ (by omega)⟩
  · exact ⟨mem, memSub_refl _, hn (fun h => by have := h.1; omega) _ (by omega)⟩

theorem Cells_c (n : Int) (l : List Int) : Pure Try.prog 41 [row n l] (cellsF n l) := by
  refine Pure_of_CallT (by simp [row]) (Cells_t n l (fun hok id ver nx' _ _ => ?_) fun hno nx' _ => ?_)
  · rw [cellsF_yes hok]; simp [look, List.take_of_length_le, cl]
  · rw [cellsF_no hno]; simp
end Go.Fx.Ytjfiklflmnhbdaa

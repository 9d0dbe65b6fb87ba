import Derived.Test.YtjfiklflmnhbdaaRe2
import Derived.Test.YtjfiklflmnhbdaaXF
set_option linter.all false
namespace Go.Fx.Ytjfiklflmnhbdaa
open Go Go.Fx Go.Proofs Go.Fx.Rows
attribute [local simp] lb50_0
def low : Int := 6148914691236517205
def oneW (x y : Int) : Int := bAnd .u64 (bOr .u64 (bAnd .u64 (bShr .u64 (bClr .u64 x y) 1) low) (bAnd .u64 (bAnd .u64 (bShr .u64 (bNot .u64 (bXor .u64 x y)) 1) low) (bClr .u64 x y))) low
def gW (x y : Int) : Int := bOr .u64 (oneW x y) (bShl .u64 (oneW x y) 1)
def joinW (x y : Int) : Int := bOr .u64 (bAnd .u64 x (gW x y)) (bClr .u64 y (gW x y))
def meetW (x y : Int) : Int := bOr .u64 (bAnd .u64 y (gW x y)) (bClr .u64 x (gW x y))

theorem greater_c (x y : Int) : Pure Try.prog 52 [U x, U y] (U (gW x y)) := by
  refine pu52 (by simp) ?_
  simp -implicitDefEqProofs [ac52, gW, oneW, low]
theorem join1_c (x y : Int) : Pure Try.prog 51 [U x, U y] (U (joinW x y)) := by
  refine pu51 (by simp) ?_
  simp -implicitDefEqProofs [ac51]
  refine pcK_of (greater_c x y) (by simp) ?_
  simp -implicitDefEqProofs [joinW]
theorem meet1_c (x y : Int) : Pure Try.prog 53 [U x, U y] (U (meetW x y)) := by
  refine pu53 (by simp) ?_
  simp -implicitDefEqProofs [ac53]
  refine pcK_of (greater_c x y) (by simp) ?_
  simp -implicitDefEqProofs [meetW]

def Two (n : Int) (l : List Int) (m : Int) (k : List Int) : Prop := Good n l ∧ Good m k ∧ n = m
instance (n : Int) (l : List Int) (m : Int) (k : List Int) : Decidable (Two n l m k) := by unfold Two; infer_instance
def pairF (n : Int) (l : List Int) (m : Int) (k : List Int) : Int := if Two n l m k then 0 else 3
theorem pairF_ok {n m : Int} {l k : List Int} : pairF n l m k = 0 ↔ Two n l m k := by unfold pairF; split <;> simp [*]
theorem pair_c (n m : Int) (l k : List Int) : Pure Try.prog 59 [row n l, row m k] (I (pairF n l m k)) := by
  refine pu59 (by simp) ?_
  simp -implicitDefEqProofs [ac59]
  refine pcK_of (Check_c n l) (by simp) ?_
  simp -implicitDefEqProofs [checkF_ok]
  refine ⟨fun hg => ?_, fun hg => ?_⟩
  · refine pcK_of (Check_c m k) (by simp) ?_
    simp -implicitDefEqProofs [checkF_ok]
    refine ⟨fun hk => ⟨fun hne => ?_, fun he => ?_⟩, fun hk => ?_⟩
    · simp [pairF, Two, hg, hk, hne]
    · subst he; simp [pairF, Two, hg, hk]
    · simp [pairF, Two, hg, hk]
  · simp [pairF, Two, hg]
def bothF (h : Int → Int → Int) (n : Int) (l : List Int) (m : Int) (k : List Int) : D := if Two n l m k then tup2 n (List.zipWith h l k) 0 else tup2 0 [] 3
theorem both_c {f : FuncId} {h : Int → Int → Int} (hf : ∀ x y, Pure Try.prog f [U x, U y] (U (h x y))) (n m : Int) (l k : List Int) : Pure Try.prog 50 [row n l, row m k, .fn f []] (bothF h n l m k) := by
  refine pu50 (by simp) ?_
  simp -implicitDefEqProofs [ac50]
  refine pcK_of (pair_c n m l k) (by simp) ?_
  simp -implicitDefEqProofs [pairF_ok]
  refine ⟨fun hn => ?_, fun ht => ?_⟩
  · simp [bothF, tup2, hn, pairF]
  obtain ⟨hg, hk, hnm⟩ := ht
  have hlen : l.length = k.length := by
    have h1 := hg.2.2.1
    have h2 := hk.2.2.1
    subst hnm; omega
  have hmax : l.length ≤ 128 := by have := hg.2.1; have := hg.2.2.1; omega
  have hz : (List.zipWith h l k).length = l.length := by simp; omega
  refine A_loop_wk (α := Nat) (fun i _ => [(0, row n l), (1, row m k), (2, D.fn f []), (3, D.pt [I n, D.sl (em encU l)]), (4, D.pt [I m, D.sl (em encU k)]), (6, D.opt 2 0), (7, I 0), (8, I (pairF n l m k)), (9, D.opt 13 0), (10, .top), (11, .top), (23, D.sl (em encU l)), (24, I l.length), (25, I i)])
    (fun i _ => [(19, .arr i 1 (em encU ((List.zipWith h l k).take i))), (13, .box [I n, .osl 19 i 0 i]), (2, .box [I 0, .pl (.slice none 0 0)])])
    (fun i _ => i ≤ l.length) (fun i => l.length - i)
    ⟨0, 20, Nat.zero_le _, (Wk_ownM (id := 13) (off := 1) (k := 1) rfl rfl (.inl rfl)).trans (Wk_to ⟨rfl, .inl rfl, rfl, .inl rfl, rfl, .inl rfl, rfl, .inl rfl, rfl, .inl rfl, rfl, .inl rfl, rfl, .inl rfl, rfl, .inl rfl, rfl, .inl rfl, rfl, .inr (.inl rfl), rfl, .inr (.inl rfl), rfl, .inl rfl, rfl, .inl rfl, rfl, .inl rfl, trivial⟩ (by simp) (Nat.le_refl _))⟩ ?_
  rintro i nx hi
  have htl : ((List.zipWith h l k).take i).length = i := by simp; omega
  simp -implicitDefEqProofs [htl]
  refine ⟨fun hlt => ?_, fun hge => ?_⟩
  · refine ⟨hlt, by omega, ?_⟩
    refine pcK_of (hf _ _) (by simp) ?_
    simp -implicitDefEqProofs [htl]
    have e4 : IntKind.i64.wrap ((i : Int) + 1) = ((i + 1 : Nat) : Int) := by rw [wr64 (by omega) (by omega)]; omega
    have e5 : (List.zipWith h l k).take i ++ [h (l[i]?.getD 0) (k[i]?.getD 0)] = (List.zipWith h l k).take (i + 1) := by
      rw [List.take_succ, List.getElem?_zipWith, List.getElem?_eq_getElem hlt, List.getElem?_eq_getElem (by omega : i < k.length)]
      rfl
    refine ⟨by omega, ?_⟩
    rw [e4, List.take_of_length_le (Nat.le_of_eq htl), e5]
    exact again_of (i + 1) (by omega) (by omega) ⟨rfl, .inl rfl, rfl, .inl rfl, rfl, .inl rfl, rfl, .inl rfl, rfl, .inl rfl, rfl, .inl rfl, rfl, .inl rfl, rfl, .inl rfl, rfl, .inl rfl, rfl, .inr (.inl rfl), rfl, .inr (.inl rfl), rfl, .inl rfl, rfl, .inl rfl, rfl, .inl rfl, trivial⟩ (memLe_refl _)
  · have e : i = l.length := by omega
    have ht : Two n l m k := ⟨hg, hk, hnm⟩
    rw [List.take_of_length_le (Nat.le_of_eq htl), List.take_of_length_le (by omega)]
    simp [bothF, tup2, ht]

theorem Join_c (n m : Int) (l k : List Int) : Pure Try.prog 30 [row n l, row m k] (bothF joinW n l m k) := by
  obtain ⟨a, r, e, he⟩ : ∃ a r e, bothF joinW n l m k = tup2 a r e := by unfold bothF; split <;> exact ⟨_, _, _, rfl⟩
  rw [he]
  refine pu30 (by simp) ?_
  simp -implicitDefEqProofs [ac30]
  refine pcK_of (he ▸ both_c join1_c n m l k) (by simp) ?_
  simp -implicitDefEqProofs [tup2]
theorem Meet_c (n m : Int) (l k : List Int) : Pure Try.prog 31 [row n l, row m k] (bothF meetW n l m k) := by
  obtain ⟨a, r, e, he⟩ : ∃ a r e, bothF meetW n l m k = tup2 a r e := by unfold bothF; split <;> exact ⟨_, _, _, rfl⟩
  rw [he]
  refine pu31 (by simp) ?_
  simp -implicitDefEqProofs [ac31]
  refine pcK_of (he ▸ both_c meet1_c n m l k) (by simp) ?_
  simp -implicitDefEqProofs [tup2]
def belowF (n : Int) (l : List Int) (m : Int) (k : List Int) : D := if Two n l m k then .tup [B ((List.zipWith gW l k).all (· == 0)), I 0] else .tup [B false, I 3]
end Go.Fx.Ytjfiklflmnhbdaa

/-
  Rows: the answers of New, Put, Join and Meet are new memory.
-/
import Derived.Test.YtjfiklflmnhbdaaRf
import Derived.Test.YtjfiklflmnhbdaaRe
import Derived.Test.YtjfiklflmnhbdaaXM
import Derived.Test.YtjfiklflmnhbdaaCodeRowsn
set_option linter.all false
namespace Go.Fx.Ytjfiklflmnhbdaa
open Go Go.Fx Go.Proofs
theorem memSub_one {m : Mem} {id : Nat} {b : Blk} (h : look m id = some b) : memSub m [(id, b)] := fun i b' hb => by
  rw [look_cons] at hb
  split at hb
  · rename_i e; subst e; rw [h, ← hb]
  · simp [look] at hb
/-- A row whose words are the answer's own. -/
def RowN (n : Int) (l : List Int) (e : Int) (nx : Nat) : KD := fun d m k => ∃ id ver, nx ≤ id ∧ id < k ∧ d = .tup [.agg [I n, .osl id ver 0 l.length], I e] ∧ m = [(id, .arr ver 1 (em encU l))]
/-- No row. -/
def RowZ (e : Int) : KD := fun d m _ => d = .tup [.agg [I 0, .pl (.slice none 0 0)], I e] ∧ m = []
def NewK (n : Int) (nx : Nat) : KD := fun d m k => if 0 ≤ n ∧ n ≤ 4096 then RowN n (List.replicate ((n + 31) / 32).toNat 0) 0 nx d m k else RowZ 2 d m k
theorem New_n (n : Int) (nx : Nat) : CallT Try.prog 37 [I n] [] nx (NewK n nx) := by
  refine Own.ct37 (by simp) fun hfr => ?_
  simp -implicitDefEqProofs [Own.ac37, row]
  refine ⟨fun h0 => ⟨fun h1 => ?_, fun h1 => ?_⟩, fun h0 => ?_⟩
  · have : ¬ n ≤ 4096 := by omega
    refine ⟨[], memSub_nil _, ?_⟩
    simp [NewK, RowZ, this]
  · refine pcK_of (words_c h0 h1) (by simp) ?_
    have w1 : (((n + 31) / 32).toNat : Int) = (n + 31) / 32 := by omega
    have z1 : (nx + 2 + 6 + 3 = nx) = False := eq_false (by omega)
    simp -implicitDefEqProofs [h0, h1, z1]
    refine ⟨⟨by omega, by omega⟩, [(nx + 2 + 6 + 3, .arr 0 1 (em encU (List.replicate ((n + 31) / 32).toNat 0)))], ?_, ?_⟩
    · exact memSub_one (by rw [look_cons, if_pos rfl])
    · simp only [NewK, h0, h1, and_self, if_true]
      exact ⟨_, 0, by omega, by omega, by simp, rfl⟩
  · have : ¬ 0 ≤ n := by omega
    refine ⟨[], memSub_nil _, ?_⟩
    simp [NewK, RowZ, this]
def PutK (n i v : Int) (l : List Int) (nx : Nat) : KD := fun d m k => if Good n l then (if 0 ≤ i ∧ i < n ∧ 0 ≤ v ∧ v ≤ 3 then RowN n (putL l i.toNat v) 0 nx d m k else RowZ 2 d m k) else RowZ 3 d m k
theorem Put_n (n i v : Int) (l : List Int) (nx : Nat) : CallT Try.prog 47 [row n l, I i, I v] [] nx (PutK n i v l nx) := by
  refine ct47 (by simp) fun hfr => ?_
  simp -implicitDefEqProofs [ac47, row]
  refine pcK_of (Check_c n l) (by simp) ?_
  simp -implicitDefEqProofs [cv_int Try.underlying3 Try.underlying68, checkF_ok]
  refine ⟨fun hg => ?_, fun hg => ⟨fun h0 => ⟨fun h1 => ⟨fun h2 => ⟨fun h3 => ?_, fun h3 => ?_⟩, fun h2 => ?_⟩, fun h1 => ?_⟩, fun h0 => ?_⟩⟩
  · refine ⟨[], memSub_nil _, ?_⟩
    simp [PutK, RowZ, hg, checkF]
  · have : ¬ v ≤ 3 := by omega
    refine ⟨[], memSub_nil _, ?_⟩
    simp [PutK, RowZ, hg, this]
  · have hg' := hg
    obtain ⟨g1, g2, g3, _⟩ := hg'
    have e1 : i.tdiv 32 = i / 32 := Int.tdiv_eq_ediv_of_nonneg h0
    have e2 : i.tmod 32 = i % 32 := Int.tmod_eq_emod_of_nonneg h0
    have e3 : (i / 32).toNat = i.toNat / 32 := by omega
    have e4 : (2 : Int) * (i % 32) = ((2 * (i.toNat % 32) : Nat) : Int) := by omega
    rw [e1, e2, wr64 (x := i / 32) (by omega) (by omega), wr64 (x := 2 * (i % 32)) (by omega) (by omega), e3, e4, wru64 h2 (by omega)]
    refine ⟨by omega, ⟨by omega, by omega⟩, by omega, by omega, ⟨by omega, by omega⟩, by omega, [(nx + 3 + 3 + 2 + 16 + 4, .arr 0 1 (em encU (putL l i.toNat v)))], ?_, ?_⟩
    · refine memSub_one ?_
      rw [look_cons, if_neg (by omega), look_cons, if_pos rfl]
      rfl
    · have hl : (putL l i.toNat v).length = l.length := by unfold putL; simp
      simp only [PutK, hg, h0, h1, h2, h3, and_self, if_true]
      exact ⟨_, 0, by omega, by omega, by rw [hl], rfl⟩
  · have : ¬ 0 ≤ v := by omega
    refine ⟨[], memSub_nil _, ?_⟩
    simp [PutK, RowZ, hg, this]
  · have : ¬ i < n := by omega
    refine ⟨[], memSub_nil _, ?_⟩
    simp [PutK, RowZ, hg, this]
  · have : ¬ 0 ≤ i := by omega
    refine ⟨[], memSub_nil _, ?_⟩
    simp [PutK, RowZ, hg, this]
def BothK (h : Int → Int → Int) (n : Int) (l : List Int) (m : Int) (k : List Int) (nx : Nat) : KD := fun d mm kk => if Two n l m k then RowN n (List.zipWith h l k) 0 nx d mm kk else RowZ 3 d mm kk
theorem both_n {f : FuncId} {h : Int → Int → Int} (hf : ∀ x y, Pure Try.prog f [U x, U y] (U (h x y))) (n m : Int) (l k : List Int) (nx : Nat) : CallT Try.prog 50 [row n l, row m k, .fn f []] [] nx (BothK h n l m k nx) := by
  refine ct50 (by simp) fun hfr => ?_
  simp -implicitDefEqProofs [ac50]
  refine pcK_of (pair_c n m l k) (by simp) ?_
  simp -implicitDefEqProofs [pairF_ok]
  refine ⟨fun hn => ?_, fun ht => ?_⟩
  · refine ⟨[], memSub_nil _, ?_⟩
    simp [BothK, RowZ, hn, pairF]
  obtain ⟨hg, hk, hnm⟩ := ht
  have hlen : l.length = k.length := by
    have h1 := hg.2.2.1
    have h2 := hk.2.2.1
    subst hnm; omega
  have hmax : l.length ≤ 128 := by have := hg.2.1; have := hg.2.2.1; omega
  have hz : (List.zipWith h l k).length = l.length := by simp; omega
  refine A_loop_ownM (id := nx + 4 + 4 + 2 + 3) (off := 1) (k := 1) (by rw [look_cons, if_pos rfl]) rfl (.inl rfl) ?_
  simp only [upd_cons, if_true, List.set]
  have q1 : nx + 2 < nx + 4 + 4 + 2 + 3 := by omega
  have q2 : nx + 4 + 4 + 2 + 3 < nx + 4 + 4 + 2 + 5 + 4 := by omega
  have q3 : nx ≤ nx + 2 := by omega
  generalize nx + 4 + 4 + 2 + 5 + 4 = N at *
  generalize nx + 4 + 4 + 2 + 3 = q at *
  generalize nx + 2 = p at *
  have z1 : (N = q) = False := eq_false (by omega)
  have z2 : (q = N) = False := eq_false (by omega)
  have z3 : (N = p) = False := eq_false (by omega)
  have z4 : (p = N) = False := eq_false (by omega)
  have z5 : (q = p) = False := eq_false (by omega)
  have z6 : (p = q) = False := eq_false (by omega)
  refine lp50_0 (α := Nat) (fun i _ => [(10, .top), (11, .top), (25, I i)]) (fun i _ => [(N, .arr i 1 (em encU ((List.zipWith h l k).take i))), (q, .box [I n, .osl N i 0 i]), (p, .box [I 0, .pl (.slice none 0 0)])]) (fun i m => N < m ∧ i ≤ l.length) (fun i => l.length - i) 0 ⟨by omega, by omega⟩ (by simp) (by simp) ?_
  rintro i nx1 ⟨hnx, hi⟩
  have htl : ((List.zipWith h l k).take i).length = i := by simp; omega
  by_cases hlt : i < l.length
  · have hik : i < k.length := by omega
    have e5 : (List.zipWith h l k).take i ++ [h l[i] k[i]] = (List.zipWith h l k).take (i + 1) := by
      rw [List.take_succ, List.getElem?_zipWith, List.getElem?_eq_getElem hlt, List.getElem?_eq_getElem hik]
      rfl
    have w1 := wr64 (x := (i : Int) + 1) (by omega) (by omega)
    obtain ⟨x, hx⟩ : ∃ x, l[i] = x := ⟨_, rfl⟩
    obtain ⟨y, hy⟩ : ∃ y, k[i] = y := ⟨_, rfl⟩
    rw [hx, hy] at e5
    have hfx := hf x y
    simp -implicitDefEqProofs [lb50_0, hlt, hik, hx, hy, htl, z1, z2, z3, z4, z5, z6]
    refine pcK_of hfx (by simp) ?_
    have b1 : (i + 1) * 8 ≤ 3 * 2 ^ 46 := by omega
    simp -implicitDefEqProofs [htl, z1, z2, z3, z4, z5, z6, b1, w1]
    rw [List.take_of_length_le (Nat.le_of_eq htl), e5]
    exact again_of (i + 1) ⟨by omega, by omega⟩ (by omega) (by simp) (memLe_refl _)
  · have e : i = l.length := by omega
    have ht : Two n l m k := ⟨hg, hk, hnm⟩
    have hlt2 : ¬ (i : Int) < (l.length : Int) := by omega
    rw [List.take_of_length_le (by omega)]
    simp -implicitDefEqProofs [lb50_0, hlt, hlt2, z1, z2, z3, z4, z5, z6]
    refine ⟨[(N, .arr i 1 (em encU (List.zipWith h l k)))], memSub_one ?_, ?_⟩
    · rw [look_cons, if_pos rfl]
    · simp only [BothK, ht, if_true]
      exact ⟨N, i, by omega, by omega, by rw [hz, ← e], rfl⟩
theorem em_cln {m : Mem} (l : List Int) : (em encU l).all (D.clns m) = true := by
  induction l with
  | nil => rfl
  | cons x l ih =>
    show (D.clns m (encU x) && (em encU l).all (D.clns m)) = true
    rw [ih]; rfl
section
variable {P : Program} {f : FuncId} {args args' : List D} {mem mf : Mem} {nx : Nat} {K : KD} {n e : Int} {l : List Int}
theorem rowN_call (hc : CallT P f args' [] nx (RowN n l e nx)) (hsub : memSub mem mf) (hfr : frzs mf 100 args = some args')
    (hk : ∀ id ver n', nx ≤ id → id < n' → K (.tup [.agg [I n, .osl id ver 0 l.length], I e]) ((id, .arr ver 1 (em encU l)) :: mem) n') : CallT P f args mem nx K := by
  refine CallT_new hsub hfr hc ?_
  rintro d m n' hn ⟨id, ver, h1, h2, rfl, rfl⟩
  refine ⟨by simp [D.cln, D.clns, look], fun i b hb => ?_, hk id ver n' h1 h2⟩
  rw [look_cons] at hb
  split at hb
  · simp only [Option.some.injEq] at hb; subst hb
    exact em_cln l
  · simp [look] at hb
theorem rowZ_call (hc : CallT P f args' [] nx (RowZ e)) (hsub : memSub mem mf) (hfr : frzs mf 100 args = some args')
    (hk : ∀ n', nx ≤ n' → K (.tup [.agg [I 0, .pl (.slice none 0 0)], I e]) mem n') : CallT P f args mem nx K := by
  refine CallT_new hsub hfr hc ?_
  rintro d m n' hn ⟨rfl, rfl⟩
  exact ⟨by simp [D.cln, D.clns], fun i b hb => by simp [look] at hb, hk n' hn⟩
end
theorem both_yes {f : FuncId} {h : Int → Int → Int} (hf : ∀ x y, Pure Try.prog f [U x, U y] (U (h x y))) {n m : Int} {l k : List Int} (ht : Two n l m k) (nx : Nat) : CallT Try.prog 50 [row n l, row m k, .fn f []] [] nx (RowN n (List.zipWith h l k) 0 nx) :=
  CallT_mono (both_n hf n m l k nx) fun d mm kk hk => by simpa only [BothK, ht, if_true] using hk
theorem both_no {f : FuncId} {h : Int → Int → Int} (hf : ∀ x y, Pure Try.prog f [U x, U y] (U (h x y))) {n m : Int} {l k : List Int} (ht : ¬ Two n l m k) (nx : Nat) : CallT Try.prog 50 [row n l, row m k, .fn f []] [] nx (RowZ 3) :=
  CallT_mono (both_n hf n m l k nx) fun d mm kk hk => by simpa only [BothK, ht, if_false] using hk
theorem frz_two {mf : Mem} {n m : Int} {l k : List Int} {f : FuncId} : frzs mf 100 [row n l, row m k, .fn f []] = some [row n l, row m k, .fn f []] := by simp [frzs, frz]
theorem Join_n (n m : Int) (l k : List Int) (nx : Nat) : CallT Try.prog 30 [row n l, row m k] [] nx (BothK joinW n l m k nx) := by
  refine Own.ct30 (by simp) fun hfr => ?_
  simp -implicitDefEqProofs [Own.ac30]
  by_cases ht : Two n l m k
  · refine clK_of (rowN_call (both_yes join1_c ht _) (memSub_nil _) frz_two (fun id ver n' h1 h2 => ?_))
    have z1 : (id = nx + 2) = False := eq_false (by omega)
    simp -implicitDefEqProofs [z1]
    refine ⟨[(id, .arr ver 1 (em encU (List.zipWith joinW l k)))], memSub_one (by rw [look_cons, if_pos rfl]), ?_⟩
    simp only [BothK, ht, if_true]
    exact ⟨id, ver, by omega, by omega, by simp, rfl⟩
  · refine clK_of (rowZ_call (both_no join1_c ht _) (memSub_nil _) frz_two (fun n' h1 => ?_))
    simp -implicitDefEqProofs []
    refine ⟨[], memSub_nil _, ?_⟩
    simp [BothK, ht, RowZ]
theorem Meet_n (n m : Int) (l k : List Int) (nx : Nat) : CallT Try.prog 31 [row n l, row m k] [] nx (BothK meetW n l m k nx) := by
  refine Own.ct31 (by simp) fun hfr => ?_
  simp -implicitDefEqProofs [Own.ac31]
  by_cases ht : Two n l m k
  · refine clK_of (rowN_call (both_yes meet1_c ht _) (memSub_nil _) frz_two (fun id ver n' h1 h2 => ?_))
    have z1 : (id = nx + 2) = False := eq_false (by omega)
    simp -implicitDefEqProofs [z1]
    refine ⟨[(id, .arr ver 1 (em encU (List.zipWith meetW l k)))], memSub_one (by rw [look_cons, if_pos rfl]), ?_⟩
    simp only [BothK, ht, if_true]
    exact ⟨id, ver, by omega, by omega, by simp, rfl⟩
  · refine clK_of (rowZ_call (both_no meet1_c ht _) (memSub_nil _) frz_two (fun n' h1 => ?_))
    simp -implicitDefEqProofs []
    refine ⟨[], memSub_nil _, ?_⟩
    simp [BothK, ht, RowZ]
end Go.Fx.Ytjfiklflmnhbdaa

/-
  Layer 6: names. scope.Check's parts.
  scope.walk.
-/
import Derived.Test.YthbainhddfajfaaCodeScope7
import Derived.Test.YthbainhddfajfaaPE
import Derived.Test.YthbainhddfajfaaXI
set_option linter.all false
set_option maxRecDepth 100000
set_option maxHeartbeats 4000000
namespace Go.Fx.Ythbainhddfajfaa
open Go Go.Fx Go.Proofs Go.Fx.Flt
def boundO (op : Int) (n t : List UInt8) (i : Int) : List (List UInt8) := if op = 21 ∨ (op = 22 ∧ i = 1) then [n] else if op = 20 ∧ i = 2 then [n, t] else []
def boundF (e : Ex) (i : Int) : List (List UInt8) := boundO e.op e.name e.tail i
theorem em_T1 (a : List UInt8) : [[Tx a]] = em encT [a] := rfl
theorem em_T2 (a b : List UInt8) : [[Tx a], [Tx b]] = em encT [a, b] := rfl
theorem bound_c (e : Ex) (i : Int) : Pure Try.prog 50 [.agg (encEx e), I i] (.sl (em encT (boundF e i))) := by
  refine pu50 (by simp) ?_
  simp only [encEx_eq, boundF]
  generalize e.op = op
  unfold boundO
  by_cases h1 : op = 21
  · simp -implicitDefEqProofs [ac50, h1]; rfl
  · by_cases h2 : op = 22
    · by_cases h3 : i = 1
      · simp -implicitDefEqProofs [ac50, h1, h2, h3]; rfl
      · simp -implicitDefEqProofs [ac50, h1, h2, h3]
    · by_cases h4 : op = 20
      · by_cases h3 : i = 2
        · simp -implicitDefEqProofs [ac50, h1, h2, h3, h4]; rfl
        · simp -implicitDefEqProofs [ac50, h1, h2, h3, h4]
      · simp -implicitDefEqProofs [ac50, h1, h2, h4]
abbrev Ft := Int × Int
/-- The least fault of two. -/
def tellF (s : Ft) (w p : Int) : Ft := if s.1 = 0 ∨ p < s.2 then (w, p) else s
theorem tell_c (s : Ft) (w p : Int) {fid : Nat} {mem : Mem} {nx : Nat} {K : KD} (hl : look mem fid = some (.box [I s.1, I s.2])) (hi : fid < nx) (hk : ∀ nx', nx ≤ nx' → K (.tup []) (upd mem fid (.box [I (tellF s w p).1, I (tellF s w p).2])) nx') :
    CallT Try.prog 30 [I w, I p, .opt fid 0] mem nx K := by
  refine ct30 (by simp) fun hfr => ?_
  unfold tellF at hk
  by_cases h1 : s.1 = 0
  · rw [if_pos (.inl h1)] at hk
    simp -implicitDefEqProofs [ac30, hl, h1]
    exact ⟨_, memSub_refl _, hk _ (by omega)⟩
  · by_cases h2 : p < s.2
    · rw [if_pos (.inr h2)] at hk
      simp -implicitDefEqProofs [ac30, hl, h1, h2]
      exact ⟨_, memSub_refl _, hk _ (by omega)⟩
    · rw [if_neg (by omega), upd_self hl] at hk
      simp -implicitDefEqProofs [ac30, hl, h1, h2]
      exact ⟨_, memSub_refl _, hk _ (by omega)⟩
def visitF (P : List Fn) (pl : Sm) (op p : Int) (n : List UInt8) (k : Nat) (m : Sm) (s : Ft) : Ft :=
  if op = 6 ∧ getS m n = 0 then tellF s 31 p else if op = 7 ∧ getS pl n = 0 then tellF s 32 p else
  if op = 7 ∧ ((P[(getS pl n).toNat - 1]?.getD default).params.length ≠ k) then tellF s 33 p else s
/-- The blocks that the walk through a program looks at: the names bound around ('mid'), the least fault ('fid'), the functions' places, what tells a fault, the program. -/
structure E6 (mem : Mem) (nx mid fid b5 pid b4 b1 : Nat) (P : List Fn) (pl : Sm) (m : Sm) (s : Ft) : Prop where
  lm : look mem mid = some (.map (encSm m))
  lf : look mem fid = some (.box [I s.1, I s.2])
  l5 : look mem b5 = some (.box [.omap pid])
  lp : look mem pid = some (.map (encSm pl))
  l4 : look mem b4 = some (.box [.fn 30 [.opt fid 0]])
  l1 : look mem b1 = some (.box [.sl (em encFn P)])
  im : mid < nx
  if' : fid < nx
  i5 : b5 < nx
  ip : pid < nx
  i4 : b4 < nx
  i1 : b1 < nx
  mf : mid ≠ fid
  m5 : b5 ≠ mid
  mp : pid ≠ mid
  m4 : b4 ≠ mid
  m1 : b1 ≠ mid
  f5 : b5 ≠ fid
  fp : pid ≠ fid
  f4 : b4 ≠ fid
  f1 : b1 ≠ fid
/-- The blocks behind a walk. -/
def memS (mem : Mem) (mid fid : Nat) (m : Sm) (s : Ft) : Mem := upd (upd mem fid (.box [I s.1, I s.2])) mid (.map (encSm m))
theorem E6.cons {mem : Mem} {nx nx' mid fid b5 pid b4 b1 k : Nat} {P : List Fn} {pl m : Sm} {s : Ft} {b : Blk} (h : E6 mem nx mid fid b5 pid b4 b1 P pl m s) (hk : nx ≤ k) (hn : nx ≤ nx') : E6 ((k, b) :: mem) nx' mid fid b5 pid b4 b1 P pl m s := by
  have e : ∀ j, j < nx → look ((k, b) :: mem) j = look mem j := fun j hj => by
    simp only [look]; rw [if_neg (by omega)]
  exact ⟨(e _ h.im).trans h.lm, (e _ h.if').trans h.lf, (e _ h.i5).trans h.l5, (e _ h.ip).trans h.lp, (e _ h.i4).trans h.l4, (e _ h.i1).trans h.l1, Nat.lt_of_lt_of_le h.im hn, Nat.lt_of_lt_of_le h.if' hn, Nat.lt_of_lt_of_le h.i5 hn, Nat.lt_of_lt_of_le h.ip hn, Nat.lt_of_lt_of_le h.i4 hn, Nat.lt_of_lt_of_le h.i1 hn, h.mf, h.m5, h.mp, h.m4, h.m1, h.f5, h.fp, h.f4, h.f1⟩
theorem E6.up {mem : Mem} {nx nx' mid fid b5 pid b4 b1 : Nat} {P : List Fn} {pl m : Sm} {s : Ft} (h : E6 mem nx mid fid b5 pid b4 b1 P pl m s) (hn : nx ≤ nx') (m' : Sm) (s' : Ft) : E6 (memS mem mid fid m' s') nx' mid fid b5 pid b4 b1 P pl m' s' := by
  have e : ∀ j, j ≠ fid → j ≠ mid → look (memS mem mid fid m' s') j = look mem j := fun j h1 h2 => by
    unfold memS; rw [look_updN h2, look_updN h1]
  refine ⟨?_, ?_, (e _ h.f5 h.m5).trans h.l5, (e _ h.fp h.mp).trans h.lp, (e _ h.f4 h.m4).trans h.l4, (e _ h.f1 h.m1).trans h.l1, Nat.lt_of_lt_of_le h.im hn, Nat.lt_of_lt_of_le h.if' hn, Nat.lt_of_lt_of_le h.i5 hn, Nat.lt_of_lt_of_le h.ip hn, Nat.lt_of_lt_of_le h.i4 hn, Nat.lt_of_lt_of_le h.i1 hn, h.mf, h.m5, h.mp, h.m4, h.m1, h.f5, h.fp, h.f4, h.f1⟩
  · unfold memS; rw [look_updI, look_updN h.mf, h.lm]; rfl
  · unfold memS; rw [look_updN (Ne.symm h.mf), look_updI, h.lf]; rfl
theorem memS_same {mem : Mem} {nx mid fid b5 pid b4 b1 : Nat} {P : List Fn} {pl m : Sm} {s : Ft} (h : E6 mem nx mid fid b5 pid b4 b1 P pl m s) : memS mem mid fid m s = mem := by
  unfold memS; rw [upd_self h.lf, upd_self h.lm]
theorem memS_memS {mem : Mem} {mid fid : Nat} (h : mid ≠ fid) {m m' : Sm} {s s' : Ft} : memS (memS mem mid fid m s) mid fid m' s' = memS mem mid fid m' s' := by
  unfold memS; rw [upd_comm (i := mid) (j := fid) h, upd_upd, upd_upd]
theorem memS_f {mem : Mem} {nx mid fid b5 pid b4 b1 : Nat} {P : List Fn} {pl m : Sm} {s : Ft} (h : E6 mem nx mid fid b5 pid b4 b1 P pl m s) (s' : Ft) : upd mem fid (.box [I s'.1, I s'.2]) = memS mem mid fid m s' := by
  have : look (upd mem fid (.box [I s'.1, I s'.2])) mid = some (.map (encSm m)) := (look_updN h.mf).trans h.lm
  unfold memS; exact (upd_self this).symm
def plOk (P : List Fn) (pl : Sm) : Prop := ∀ n, 0 ≤ getS pl n ∧ getS pl n ≤ P.length
theorem ia_Fn {l : List Fn} {mem : Mem} {j : IntKind} {i : Int} : iaD mem 11 (.sl (em encFn l)) (.pl (.int j i)) = if 0 ≤ i ∧ i < l.length then some (.pt [Tx (l[i.toNat]?.getD default).name, .sl (em encPm (l[i.toNat]?.getD default).params), I (l[i.toNat]?.getD default).type, I (l[i.toNat]?.getD default).body.op, Tx (l[i.toNat]?.getD default).body.name, Tx (l[i.toNat]?.getD default).body.tail, I (l[i.toNat]?.getD default).body.type, CX (l[i.toNat]?.getD default).body.num.re (l[i.toNat]?.getD default).body.num.im, .sl (em encEx (l[i.toNat]?.getD default).body.args), I (l[i.toNat]?.getD default).body.at', I (l[i.toNat]?.getD default).at']) else none := by
  rw [← encFn_eq]
  exact em_ia fun f => by rw [encFn_eq]; rfl
attribute [simp] ia_Fn
theorem visit_c (e : Ex) {mem : Mem} {nx mid fid b5 pid b4 b1 : Nat} {P : List Fn} {pl m : Sm} {s : Ft} {K : KD} (h : E6 mem nx mid fid b5 pid b4 b1 P pl m s) (hp : plOk P pl) (hP : P.length < 2 ^ 40)
    (hk : ∀ nx', nx ≤ nx' → K (.tup []) (memS mem mid fid m (visitF P pl e.op e.at' e.name e.args.length m s)) nx') :
    CallT Try.prog 32 [.agg (encEx e), .omap mid, .opt b5 0, .opt b4 0, .opt b1 0] mem nx K := by
  refine ct32 (by simp) fun hfr => ?_
  have ht : ∀ (w p : Int) (nx2 : Nat), nx ≤ nx2 → ∀ K : KD, (∀ nx', nx2 ≤ nx' → K (.tup []) (memS mem mid fid m (tellF s w p)) nx') → CallT Try.prog 30 [I w, I p, .opt fid 0] mem nx2 K := fun w p nx2 hn K hk2 =>
    tell_c s w p h.lf (Nat.lt_of_lt_of_le h.if' hn) (fun nx' hn' => by rw [memS_f h]; exact hk2 nx' hn')
  simp only [encEx_eq]
  unfold visitF at hk
  obtain ⟨hp0, hp1⟩ := hp e.name
  have w := wr64 (x := getS pl e.name - 1) (by omega) (by omega)
  by_cases h1 : e.op = 6
  · by_cases h2 : getS m e.name = 0
    · rw [if_pos ⟨h1, h2⟩] at hk
      simp -implicitDefEqProofs [ac32, h.lm, h.l5, h.lp, h.l4, h.l1, h1, h2]
      refine clK_caps (ht _ _ _ (by omega) _ (fun n1 hn1 => ?_))
      simp -implicitDefEqProofs
      exact ⟨_, memSub_refl _, hk _ (by omega)⟩
    · rw [if_neg (fun g => h2 g.2), if_neg (fun g => by omega), if_neg (fun g => by omega), memS_same h] at hk
      simp -implicitDefEqProofs [ac32, h.lm, h.l5, h.lp, h.l4, h.l1, h1, h2]
      exact ⟨_, memSub_refl _, hk _ (by omega)⟩
  · rw [if_neg (fun g => h1 g.1)] at hk
    by_cases h3 : e.op = 7
    · by_cases h4 : getS pl e.name = 0
      · rw [if_pos ⟨h3, h4⟩] at hk
        simp -implicitDefEqProofs [ac32, h.lm, h.l5, h.lp, h.l4, h.l1, h1, h3, h4]
        refine clK_caps (ht _ _ _ (by omega) _ (fun n1 hn1 => ?_))
        simp -implicitDefEqProofs
        exact ⟨_, memSub_refl _, hk _ (by omega)⟩
      · rw [if_neg (fun g => h4 g.2)] at hk
        have b1 : (1 : Int) ≤ getS pl e.name := by omega
        have b2 : getS pl e.name - 1 < (P.length : Int) := by omega
        generalize hQ : (P[(getS pl e.name).toNat - 1]?.getD default) = Q at *
        by_cases h5 : Q.params.length = e.args.length
        · rw [if_neg (fun g => g.2 h5), memS_same h] at hk
          simp -implicitDefEqProofs [ac32, h.lm, h.l5, h.lp, h.l4, h.l1, h1, h3, h4, w, b1, b2, hQ, h5]
          exact ⟨_, memSub_refl _, hk _ (by omega)⟩
        · rw [if_pos ⟨h3, h5⟩] at hk
          have h6 : ¬ (Q.params.length : Int) = (e.args.length : Int) := by omega
          simp -implicitDefEqProofs [ac32, h.lm, h.l5, h.lp, h.l4, h.l1, h1, h3, h4, w, b1, b2, hQ, h5, h6]
          refine clK_caps (ht _ _ _ (by omega) _ (fun n1 hn1 => ?_))
          simp -implicitDefEqProofs
          exact ⟨_, memSub_refl _, hk _ (by omega)⟩
    · rw [if_neg (fun g => h3 g.1), if_neg (fun g => h3 g.1), memS_same h] at hk
      simp -implicitDefEqProofs [ac32, h.lm, h.l5, h.lp, h.l4, h.l1, h1, h3]
      exact ⟨_, memSub_refl _, hk _ (by omega)⟩
end Go.Fx.Ythbainhddfajfaa
namespace Go.Fx.Ythbainhddfajfaa
open Go Go.Fx Go.Proofs Go.Fx.Flt
def incM (m : Sm) (n : List UInt8) : Sm := putS m n (IntKind.i64.wrap (getS m n + 1))
def decM (m : Sm) (n : List UInt8) : Sm := putS m n (IntKind.i64.wrap (getS m n - 1))
mutual
def walkF (P : List Fn) (pl : Sm) : Ex → Sm → Ft → Sm × Ft
  | .mk op n t _ _ args p, m, s => walkFs P pl op n t 0 args m (visitF P pl op p n args.length m s)
def walkFs (P : List Fn) (pl : Sm) (op : Int) (n t : List UInt8) (i : Nat) : List Ex → Sm → Ft → Sm × Ft
  | [], m, s => (m, s)
  | x :: xs, m, s => walkFs P pl op n t (i + 1) xs ((boundO op n t i).foldl decM (walkF P pl x ((boundO op n t i).foldl incM m) s).1) (walkF P pl x ((boundO op n t i).foldl incM m) s).2
end
def WC (e : Ex) : Prop := ∀ ⦃mem : Mem⦄ ⦃nx mid fid b5 pid b4 b1 : Nat⦄ ⦃P : List Fn⦄ ⦃pl m : Sm⦄ ⦃s : Ft⦄ ⦃K : KD⦄, E6 mem nx mid fid b5 pid b4 b1 P pl m s → plOk P pl → P.length < 2 ^ 40 → size e ≤ 2 ^ 40 →
  (∀ nx', nx ≤ nx' → K (.tup []) (memS mem mid fid (walkF P pl e m s).1 (walkF P pl e m s).2) nx') → CallT Try.prog 31 [.agg (encEx e), .omap mid, .fn 32 [.opt b5 0, .opt b4 0, .opt b1 0]] mem nx K
theorem bound_len (op : Int) (n t : List UInt8) (i : Int) : (boundO op n t i).length ≤ 2 := by
  unfold boundO
  split
  · simp
  · split <;> simp
theorem size_len : ∀ (l : List Ex), l.length ≤ sizes l
  | [] => by simp [sizes]
  | .mk .. :: es => by
    have := size_len es
    simp only [sizes, size, List.length_cons]; omega
theorem size_mem : ∀ {l : List Ex} {x : Ex}, x ∈ l → size x ≤ sizes l
  | e :: es, x, h => by
    simp only [sizes]
    rcases List.mem_cons.1 h with rfl | h
    · omega
    · have := size_mem h; omega
theorem walk_s (op : Int) (n t : List UInt8) (ty : Int) (z : Cx) (args : List Ex) (p : Int) (ih : ∀ x ∈ args, WC x) : WC (.mk op n t ty z args p) := by
  intro mem nx mid fid b5 pid b4 b1 P pl m s K h hp hP hsz hk
  have hal : args.length ≤ 2 ^ 40 := by
    have := size_len args
    simp only [size] at hsz; omega
  have hv := fun (K : KD) (nx2 : Nat) (hn : nx ≤ nx2) (hk2 : ∀ nx', nx2 ≤ nx' → K (.tup []) (memS mem mid fid m (visitF P pl op p n args.length m s)) nx') => visit_c (.mk op n t ty z args p) (mem := mem) (nx := nx2) (K := K) ((memS_same h) ▸ E6.up h hn m s) hp hP hk2
  have hR : walkF P pl (.mk op n t ty z args p) m s = walkFs P pl op n t 0 args m (visitF P pl op p n args.length m s) := by simp only [walkF]
  rw [hR] at hk
  clear hR
  generalize visitF P pl op p n args.length m s = s1 at *
  generalize hRR : walkFs P pl op n t 0 args m s1 = R at hk
  have hE : ∀ (nx' : Nat), nx ≤ nx' → ∀ m' s', E6 (memS mem mid fid m' s') nx' mid fid b5 pid b4 b1 P pl m' s' := fun nx' hn m' s' => E6.up h hn m' s'
  have hL : ∀ m' s', look (memS mem mid fid m' s') mid = some (.map (encSm m')) := fun m' s' => (hE nx (Nat.le_refl _) m' s').lm
  have hU : ∀ m' s' m2, upd (memS mem mid fid m' s') mid (.map (encSm m2)) = memS mem mid fid m2 s' := fun m' s' m2 => by unfold memS; rw [upd_upd]
  have hM : ∀ m' s' m2 s2, memS (memS mem mid fid m' s') mid fid m2 s2 = memS mem mid fid m2 s2 := fun m' s' m2 s2 => memS_memS h.mf
  have hfr' : ∀ (hfr : ∀ i, nx ≤ i → look mem i = none) (i : Nat), nx ≤ i → ∀ m' s', look (memS mem mid fid m' s') i = none := fun hfr i hi m' s' => by unfold memS; exact look_upd_none (look_upd_none (hfr i hi))
  have hB := bound_c (.mk op n t ty z args p)
  have hbF : ∀ i, boundF (.mk op n t ty z args p) i = boundO op n t i := fun i => rfl
  simp only [hbF] at hB
  simp only [encEx_mk] at hv hB ⊢
  refine ct31 (by simp) fun hfr => ?_
  simp -implicitDefEqProofs [ac31]
  refine clK_caps (hv _ _ (by omega) (fun n1 hn1 => ?_))
  simp -implicitDefEqProofs
  refine lp31_2 (α := Nat × Sm × Ft) (fun s _ => [(20, I s.1)]) (fun s _ => memS mem mid fid s.2.1 s.2.2) (fun s k => n1 ≤ k ∧ s.1 ≤ args.length ∧ walkFs P pl op n t s.1 (args.drop s.1) s.2.1 s.2.2 = R) (fun s => args.length - s.1) (0, m, s1) ⟨by omega, by simp, hRR⟩ (by simp) (by simp) ?_
  rintro ⟨i, m1, s2⟩ k ⟨hk1, hi, hw⟩
  simp only at hi hw
  by_cases hlt : i < args.length
  · have hd : args.drop i = args[i] :: args.drop (i + 1) := List.drop_eq_getElem_cons hlt
    have hg : args[i]?.getD default = args[i] := by rw [List.getElem?_eq_getElem hlt]; rfl
    have hmem : args[i] ∈ args := List.getElem_mem hlt
    rw [hd] at hw
    unfold walkFs at hw
    obtain ⟨x, hxe⟩ : ∃ x, args[i] = x := ⟨_, rfl⟩
    rw [hxe] at hmem hw
    have hx := ih _ hmem
    have hsx : size x ≤ 2 ^ 40 := by
      have := size_mem hmem
      simp only [size] at hsz; omega
    have hbl := bound_len op n t i
    have hBi := hB i
    generalize boundO op n t i = N at *
    have w1 := wr64 (x := (i : Int) + 1) (by omega) (by omega)
    unfold WC at hx
    simp only [encEx_eq] at hx
    simp -implicitDefEqProofs [lb31_2, hlt, hxe]
    refine pcK_of (hBi) (by simp) ?_
    simp -implicitDefEqProofs
    have hb1 := h.im
    have hb2 := h.if'
    generalize hb7 : k + 1 + 3 = b7
    have hbm : ¬ b7 = mid := by omega
    have hbf : ¬ b7 = fid := by omega
    have hMc : ∀ (M : Mem) (b : Blk) (m' : Sm) (s' : Ft), memS ((b7, b) :: M) mid fid m' s' = (b7, b) :: memS M mid fid m' s' := fun M b m' s' => by
      unfold memS
      simp only [upd, hbm, hbf, if_false]
    have hEc : ∀ (b : Blk) (nx' : Nat), b7 < nx' → ∀ m' s', E6 ((b7, b) :: memS mem mid fid m' s') nx' mid fid b5 pid b4 b1 P pl m' s' := fun b nx' hn m' s' => E6.cons (hE nx (Nat.le_refl _) m' s') (by omega) (by omega)
    refine lp31_1 (α := Nat × Sm) (fun s _ => [(30, I s.1)]) (fun s _ => (b7, .box (encEx x)) :: memS mem mid fid s.2 s2) (fun s k2 => b7 + 1 ≤ k2 ∧ s.1 ≤ N.length ∧ (N.drop s.1).foldl incM s.2 = N.foldl incM m1) (fun s => N.length - s.1) (0, m1) ⟨by omega, by simp, rfl⟩ (by simp) (by simp [encEx_eq]) ?_
    rintro ⟨j, m2⟩ k2 ⟨hk2, hj, hfo⟩
    simp only at hj hfo
    by_cases hjl : j < N.length
    · have hd2 : N.drop j = N[j] :: N.drop (j + 1) := List.drop_eq_getElem_cons hjl
      rw [hd2] at hfo
      simp only [List.foldl_cons] at hfo
      have w2 := wr64 (x := (j : Int) + 1) (by omega) (by omega)
      simp -implicitDefEqProofs [lb31_1, hjl, hL, hbm, hU, w2]
      exact again_of (j + 1, incM m2 N[j]) ⟨by omega, hjl, hfo⟩ (by simp only; omega) (by simp) (by simp [incM])
    · rw [List.drop_eq_nil_of_le (by omega)] at hfo
      simp only [List.foldl_nil] at hfo
      subst hfo
      generalize List.foldl incM m1 N = m3 at *
      simp -implicitDefEqProofs [lb31_1, hjl, hbm, encEx_eq]
      refine clK_of (hx (hEc _ _ (by omega) _ _) hp hP hsx (fun n3 hn3 => ?_))
      generalize walkF P pl x m3 s2 = r3 at *
      simp -implicitDefEqProofs [hMc, hM]
      refine lp31_0 (α := Nat × Sm) (fun s _ => [(45, I s.1)]) (fun s _ => (b7, .box (encEx x)) :: memS mem mid fid s.2 r3.2) (fun s k2 => b7 + 1 ≤ k2 ∧ s.1 ≤ N.length ∧ (N.drop s.1).foldl decM s.2 = N.foldl decM r3.1) (fun s => N.length - s.1) (0, r3.1) ⟨by omega, by simp, rfl⟩ (by simp) (by simp [encEx_eq]) ?_
      rintro ⟨j2, m4⟩ k4 ⟨hk4, hj2, hfo2⟩
      simp only at hj2 hfo2
      by_cases hjl2 : j2 < N.length
      · have hd2 : N.drop j2 = N[j2] :: N.drop (j2 + 1) := List.drop_eq_getElem_cons hjl2
        rw [hd2] at hfo2
        simp only [List.foldl_cons] at hfo2
        have w2 := wr64 (x := (j2 : Int) + 1) (by omega) (by omega)
        simp -implicitDefEqProofs [lb31_0, hjl2, hL, hbm, hU, w2]
        exact again_of (j2 + 1, decM m4 N[j2]) ⟨by omega, hjl2, hfo2⟩ (by simp only; omega) (by simp) (by simp [decM])
      · rw [List.drop_eq_nil_of_le (by omega)] at hfo2
        simp only [List.foldl_nil] at hfo2
        subst hfo2
        simp -implicitDefEqProofs [lb31_0, hjl2, w1]
        refine again_of (i + 1, _, r3.2) ⟨by omega, hlt, hw⟩ (by simp only; omega) (by simp) (memLe_skip (memLe_refl _) (hfr' hfr _ (by omega) _ _))
  · have he : args.drop i = [] := List.drop_eq_nil_of_le (by omega)
    rw [he] at hw
    unfold walkFs at hw
    simp -implicitDefEqProofs [lb31_2, hlt]
    rw [← hw] at hk
    exact ⟨_, memSub_refl _, hk _ (by omega)⟩
mutual
theorem walk_c : ∀ (e : Ex), WC e
  | .mk op n t ty z args p => walk_s op n t ty z args p (walk_cs args)
theorem walk_cs : ∀ (l : List Ex), ∀ x ∈ l, WC x
  | [], x, h => by simp at h
  | e :: es, x, h => (List.mem_cons.1 h).elim (fun he => he ▸ walk_c e) (fun h => walk_cs es x h)
end
end Go.Fx.Ythbainhddfajfaa

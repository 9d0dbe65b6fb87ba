/-
  Layer 13: the heap's reads, as values: Look, Parts, Counts, cell.
-/
import Derived.Test.YtdjhlljgedknaaaV1
import Derived.Test.YtdjhlljgedknaaaXK
import Derived.Test.YtdjhlljgedknaaaXH
import Derived.Test.YtdjhlljgedknaaaCodeHeap
set_option linter.all false
set_option maxRecDepth 100000
set_option maxHeartbeats 4000000
namespace Go.Fx.Ytdjhlljgedknaaa
open Go Go.Fx Go.Proofs Go.Fx.Flt
@[simp] theorem hn_pt {cs : List D} : binD Try.prog .eql 24 (.pt cs) (.pl (.pointer none)) = some (.pl (.bool false)) := by simp only [binD, Try.underlying24]
@[simp] theorem hn_opt {id off : Nat} : binD Try.prog .eql 24 (.opt id off) (.pl (.pointer none)) = some (.pl (.bool false)) := by simp only [binD, Try.underlying24]
@[simp] theorem hn_nil : binD Try.prog .eql 24 (.pl (.pointer none)) (.pl (.pointer none)) = some (.pl (.bool true)) := by
  have h0 : Sem.look Try.prog (Op.equal 24 (.pointer none) (.pointer none)) = some true := by
    show Sem.look Try.prog (Op.equalIn (9999 + 1) 24 (.pointer none) (.pointer none)) = some true
    unfold Op.equalIn
    simp [underlying, program, Bind.bind, Sem.bind, Sem.look, Pure.pure, Try.underlying24]
  have h : Sem.look Try.prog (binOp .eql 24 (.pointer none) (.pointer none)) = some (.bool true) := by
    simp only [binOp, look_bind, h0, Option.bind_some]; rfl
  simp only [binD, lit, Bool.and_self, if_true, h, Option.map_some]
structure Ce where
  kind : Int
  re : Nat
  im : Nat
  b : Bool
  at' : Int
structure Nd where
  state : Int
  tag : Int
  cell : Ce
def ce0 : Ce := ⟨0, 0, 0, false, 0⟩
def nd0 : Nd := ⟨0, 0, ce0⟩
instance : Inhabited Ce := ⟨ce0⟩
instance : Inhabited Nd := ⟨nd0⟩
def encCe (c : Ce) : List D := [I c.kind, CX c.re c.im, B c.b, I c.at']
def encNd (n : Nd) : List D := [I n.state, I n.tag, I n.cell.kind, CX n.cell.re n.cell.im, B n.cell.b, I n.cell.at']
def encPr (p : Ce × Ce) : List D := [I p.1.kind, CX p.1.re p.1.im, B p.1.b, I p.1.at', I p.2.kind, CX p.2.re p.2.im, B p.2.b, I p.2.at']
theorem imm_Nd (l : List Nd) : D.immss (em encNd l) = true := em_imm fun _ => rfl
theorem imm_Pr (l : List (Ce × Ce)) : D.immss (em encPr l) = true := em_imm fun _ => rfl
theorem ia_Nd {l : List Nd} {mem : Mem} {j : IntKind} {i : Int} : iaD mem 6 (.sl (em encNd l)) (.pl (.int j i)) = if 0 ≤ i ∧ i < l.length then some (.pt [I (l[i.toNat]?.getD default).state, I (l[i.toNat]?.getD default).tag, I (l[i.toNat]?.getD default).cell.kind, CX (l[i.toNat]?.getD default).cell.re (l[i.toNat]?.getD default).cell.im, B (l[i.toNat]?.getD default).cell.b, I (l[i.toNat]?.getD default).cell.at']) else none := em_ia fun _ => rfl
theorem ia_Pr {l : List (Ce × Ce)} {mem : Mem} {j : IntKind} {i : Int} : iaD mem 8 (.sl (em encPr l)) (.pl (.int j i)) = if 0 ≤ i ∧ i < l.length then some (.pt [I (l[i.toNat]?.getD default).1.kind, CX (l[i.toNat]?.getD default).1.re (l[i.toNat]?.getD default).1.im, B (l[i.toNat]?.getD default).1.b, I (l[i.toNat]?.getD default).1.at', I (l[i.toNat]?.getD default).2.kind, CX (l[i.toNat]?.getD default).2.re (l[i.toNat]?.getD default).2.im, B (l[i.toNat]?.getD default).2.b, I (l[i.toNat]?.getD default).2.at']) else none := em_ia fun _ => rfl
attribute [simp] imm_Nd imm_Pr ia_Nd ia_Pr
/-- The heap as a value: what a pointer to it leads to. -/
abbrev hpC (ns : List Nd) (ps : List (Ce × Ce)) (th up : Int) : List D := [.sl (em encNd ns), .sl (em encPr ps), I th, I up]
def lookF (ns : List Nd) (i : Int) : Nd × Int := if 0 ≤ i ∧ i < ns.length then (ns[i.toNat]?.getD nd0, 0) else (nd0, 2)
def partsF (ps : List (Ce × Ce)) (i : Int) : (Ce × Ce) × Int := if 0 ≤ i ∧ i < ps.length then (ps[i.toNat]?.getD (ce0, ce0), 0) else ((ce0, ce0), 2)
theorem Look_c (ns : List Nd) (ps : List (Ce × Ce)) (th up i : Int) : Pure Try.prog 15 [.pt (hpC ns ps th up), I i] (.tup [.agg (encNd (lookF ns i).1), I (lookF ns i).2]) := by
  refine pu15 (by simp) ?_
  unfold lookF
  by_cases h1 : i < 0
  · rw [if_neg (by omega)]
    simp -implicitDefEqProofs [ac15, h1, encNd, nd0, ce0]
  · by_cases h2 : i < ns.length
    · have h3 : ¬ (ns.length : Int) ≤ i := by omega
      have h4 : 0 ≤ i := by omega
      have h5 : i.toNat < ns.length := by omega
      obtain ⟨x, hx⟩ : ∃ x, ns[i.toNat] = x := ⟨_, rfl⟩
      rw [if_pos ⟨h4, h2⟩, List.getElem?_eq_getElem h5, hx]
      simp -implicitDefEqProofs [ac15, h1, h2, h3, h4, h5, hx, encNd]
    · have h3 : (ns.length : Int) ≤ i := by omega
      rw [if_neg (by omega)]
      simp -implicitDefEqProofs [ac15, h1, h2, h3, encNd, nd0, ce0]
theorem Parts_c (ns : List Nd) (ps : List (Ce × Ce)) (th up i : Int) : Pure Try.prog 21 [.pt (hpC ns ps th up), I i] (.tup [.agg (encCe (partsF ps i).1.1), .agg (encCe (partsF ps i).1.2), I (partsF ps i).2]) := by
  refine pu21 (by simp) ?_
  unfold partsF
  by_cases h1 : i < 0
  · rw [if_neg (by omega)]
    simp -implicitDefEqProofs [ac21, h1, encCe, ce0]
  · by_cases h2 : i < ps.length
    · have h3 : ¬ (ps.length : Int) ≤ i := by omega
      have h4 : 0 ≤ i := by omega
      have h5 : i.toNat < ps.length := by omega
      obtain ⟨x, hx⟩ : ∃ x, ps[i.toNat] = x := ⟨_, rfl⟩
      rw [if_pos ⟨h4, h2⟩, List.getElem?_eq_getElem h5, hx]
      simp -implicitDefEqProofs [ac21, h1, h2, h3, h4, h5, hx, encCe]
    · have h3 : (ps.length : Int) ≤ i := by omega
      rw [if_neg (by omega)]
      simp -implicitDefEqProofs [ac21, h1, h2, h3, encCe, ce0]
theorem Counts_c (ns : List Nd) (ps : List (Ce × Ce)) (th up : Int) : Pure Try.prog 18 [.pt (hpC ns ps th up)] (.tup [I th, I up]) := by
  refine pu18 (by simp) ?_
  simp -implicitDefEqProofs [ac18]
/-! ### No heap -/
theorem New_t {mem : Mem} {nx : Nat} {K : KD} (hk : ∀ id nx', nx ≤ id → id < nx' → K (.opt id 0) ((id, .box [.pl (.slice none 0 0), .pl (.slice none 0 0), I 0, I 0]) :: mem) nx') : CallT Try.prog 8 [] mem nx K := by
  refine ct8 (by simp) fun hfr => ?_
  simp -implicitDefEqProofs [ac8]
  exact ⟨_, memSub_refl _, hk _ _ (by omega) (by omega)⟩
theorem Delay_n (tag : Int) : Pure Try.prog 10 [.pl (.pointer none), I tag] (.tup [I 0, I 1]) := by
  refine pu10 (by simp) ?_
  simp -implicitDefEqProofs [ac10]
theorem Look_n (i : Int) : Pure Try.prog 15 [.pl (.pointer none), I i] (.tup [.agg (encNd nd0), I 1]) := by
  refine pu15 (by simp) ?_
  simp -implicitDefEqProofs [ac15, encNd, nd0, ce0]
end Go.Fx.Ytdjhlljgedknaaa

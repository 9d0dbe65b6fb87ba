import Derived.Test.YtjfiklflmnhbdaaXD
import Derived.Test.YtjfiklflmnhbdaaXF
import Derived.Test.YtjfiklflmnhbdaaChecked
import Derived.KernelRfl
set_option linter.all false
set_option maxRecDepth 1000000
namespace Go.Fx.Ytjfiklflmnhbdaa
open Go Go.Fx Go.Proofs
abbrev I (n : Int) : D := .pl (.int .i64 n)
abbrev U (n : Int) : D := .pl (.int .u64 n)
abbrev B (b : Bool) : D := .pl (.bool b)
def encU (x : Int) : List D := [U x]
def encI (x : Int) : List D := [I x]
theorem set_U (l : List Int) (i : Nat) (x : Int) : (em encU l).set i [D.pl (.int .u64 x)] = em encU (l.set i x) := em_set
theorem set_I (l : List Int) (i : Nat) (x : Int) : (em encI l).set i [D.pl (.int .i64 x)] = em encI (l.set i x) := em_set
theorem app_U (l : List Int) (x : Int) : em encU l ++ [[D.pl (.int .u64 x)]] = em encU (l ++ [x]) := em_app
theorem app_I (l : List Int) (x : Int) : em encI l ++ [[D.pl (.int .i64 x)]] = em encI (l ++ [x]) := em_app
theorem rep_U (k : Nat) (x : Int) : List.replicate k [D.pl (.int .u64 x)] = em encU (List.replicate k x) := em_rep (enc := encU)
theorem rep_I (k : Nat) (x : Int) : List.replicate k [D.pl (.int .i64 x)] = em encI (List.replicate k x) := em_rep (enc := encI)
theorem imm_U (l : List Int) : D.immss (em encU l) = true := em_imm fun _ => rfl
theorem imm_I (l : List Int) : D.immss (em encI l) = true := em_imm fun _ => rfl
theorem cell_U (l : List Int) : (em encU l).all (fun e => e.all D.cell) = true := em_cell fun _ => rfl
theorem cell_I (l : List Int) : (em encI l).all (fun e => e.all D.cell) = true := em_cell fun _ => rfl
theorem els_U (l : List Int) : (em encU l).all (fun e => e.length == 1 && e.all D.cell) = true := em_els (fun _ => rfl) fun _ => rfl
theorem els_I (l : List Int) : (em encI l).all (fun e => e.length == 1 && e.all D.cell) = true := em_els (fun _ => rfl) fun _ => rfl
theorem ia_U {l : List Int} {mem : Mem} {j : IntKind} {i : Int} : iaD mem 1 (.sl (em encU l)) (.pl (.int j i)) = if 0 ≤ i ∧ i < l.length then some (.pt (encU (l[i.toNat]?.getD 0))) else none := em_ia fun _ => rfl
theorem ia_I {l : List Int} {mem : Mem} {j : IntKind} {i : Int} : iaD mem 1 (.sl (em encI l)) (.pl (.int j i)) = if 0 ≤ i ∧ i < l.length then some (.pt (encI (l[i.toNat]?.getD 0))) else none := em_ia fun _ => rfl
attribute [simp] set_U set_I app_U app_I rep_U rep_I imm_U imm_I cell_U cell_I els_U els_I ia_U ia_I encU encI

theorem wt_i64 {n : Nat} {ds : List D} (h : Wt Try.prog n 3 ds) : ∃ z, ds = [I z] ∧ (Lit.int .i64 z).wf = true := by
  cases n with
  | zero => exact h.elim
  | succ n => simpa only [Wt, Try.underlying3] using h
theorem arg_int {x : D} (h : Arg Try.prog 3 x) : ∃ n, x = I n ∧ (Lit.int .i64 n).wf = true := by
  obtain ⟨n, ds, h, k⟩ := h
  simp only [Try.underlying3] at k
  obtain ⟨z, rfl, hz⟩ := wt_i64 h
  exact ⟨z, by simpa using k.symm, hz⟩

end Go.Fx.Ytjfiklflmnhbdaa

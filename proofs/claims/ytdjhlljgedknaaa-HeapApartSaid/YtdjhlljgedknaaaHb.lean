/-
  Layer 13: the heap's writes: add, Delay, Poison.
-/
import Derived.Test.YtdjhlljgedknaaaHa
set_option linter.all false
set_option maxRecDepth 100000
set_option maxHeartbeats 4000000
namespace Go.Fx.Ytdjhlljgedknaaa
open Go Go.Fx Go.Proofs Go.Fx.Flt
theorem upd_swap {α : Type} {i j : Nat} (h : i ≠ j) {a b : α} : ∀ {m : List (Nat × α)}, upd (upd m i a) j b = upd (upd m j b) i a
  | [] => rfl
  | (k, x) :: m => by
    by_cases h1 : k = i
    · subst h1
      simp [upd, h]
    · by_cases h2 : k = j
      · subst h2
        simp [upd, h1]
      · simp only [upd, h1, h2, if_false]; rw [upd_swap h]
section
variable {mem : Mem} {nx hid nid ver : Nat} {ns : List Nd} {pd : D} {th up : Int} {K : KD}
theorem els_Nd1 {n : Nd} {mem : Mem} : els mem 6 (.sl [[I n.state, I n.tag, I n.cell.kind, CX n.cell.re n.cell.im, B n.cell.b, I n.cell.at']]) = some [[I n.state, I n.tag, I n.cell.kind, CX n.cell.re n.cell.im, B n.cell.b, I n.cell.at']] := rfl
theorem app_Nd {ns : List Nd} {n : Nd} : em encNd ns ++ [[I n.state, I n.tag, I n.cell.kind, CX n.cell.re n.cell.im, B n.cell.b, I n.cell.at']] = em encNd (ns ++ [n]) := em_app
theorem add_o (n : Nd) (hb : look mem hid = some (.box [.osl nid ver 0 ns.length, pd, I th, I up])) (hn : look mem nid = some (.arr ver 6 (em encNd ns))) (hne : nid ≠ hid) (hi : hid < nx) (hj : nid < nx) (hl : ns.length < 2 ^ 41)
    (hk : ∀ nx', nx ≤ nx' → K (.tup [I ns.length, I 0]) (upd (upd mem nid (.arr (ver + 1) 6 (em encNd (ns ++ [n])))) hid (.box [.osl nid (ver + 1) 0 (ns.length + 1), pd, I th, I up])) nx') :
    CallT Try.prog 23 [.opt hid 0, .agg (encNd n)] mem nx K := by
  refine ct23 (by simp) fun hfr => ?_
  have b1 : (ns.length + 1) * 56 ≤ 3 * 2 ^ 46 := by omega
  have w1 := wr64 (x := (ns.length : Int)) (by omega) (by omega)
  have hne2 : hid ≠ nid := Ne.symm hne
  simp -implicitDefEqProofs [-els, els_Nd1, ac23, encNd, hb, hn, hne, hne2, b1, w1, app_Nd, look_updI, look_updN]
  exact ⟨_, memSub_refl _, hk _ (by omega)⟩
abbrev nilD : D := .pl (.slice none 0 0)
theorem els_one {n : Nd} {mem : Mem} : els mem 6 (.sl (em encNd [n])) = some (em encNd [n]) := rfl
theorem add_n (n : Nd) (hb : look mem hid = some (.box [nilD, pd, I th, I up])) (hi : hid < nx)
    (hk : ∀ id nx', nx ≤ id → id < nx' → K (.tup [I 0, I 0]) ((id, .arr 0 6 (em encNd [n])) :: upd mem hid (.box [.osl id 0 0 1, pd, I th, I up])) nx') :
    CallT Try.prog 23 [.opt hid 0, .agg (encNd n)] mem nx K := by
  refine ct23 (by simp) fun hfr => ?_
  have e : [[I n.state, I n.tag, I n.cell.kind, CX n.cell.re n.cell.im, B n.cell.b, I n.cell.at']] = em encNd [n] := rfl
  have w1 := wr64 (x := (0 : Int)) (by omega) (by omega)
  have hq : (nx + 3 + 7 = hid) = False := eq_false (by omega)
  simp -implicitDefEqProofs [-els, els_one, ac23, encNd, hb, w1, e, hq]
  exact ⟨_, memSub_refl _, hk _ _ (by omega) (by omega)⟩
theorem Delay_o (tag : Int) (hb : look mem hid = some (.box [.osl nid ver 0 ns.length, pd, I th, I up])) (hn : look mem nid = some (.arr ver 6 (em encNd ns))) (hne : nid ≠ hid) (hi : hid < nx) (hj : nid < nx) (hl : ns.length < 2 ^ 41) (ht : 0 ≤ th) (ht2 : th < 2 ^ 62)
    (hk : ∀ nx', nx ≤ nx' → K (.tup [I ns.length, I 0]) (upd (upd mem nid (.arr (ver + 1) 6 (em encNd (ns ++ [⟨1, tag, ce0⟩])))) hid (.box [.osl nid (ver + 1) 0 (ns.length + 1), pd, I (th + 1), I up])) nx') :
    CallT Try.prog 10 [.opt hid 0, I tag] mem nx K := by
  refine ct10 (by simp) fun hfr => ?_
  have w1 := wr64 (x := th + 1) (by omega) (by omega)
  have hne2 : hid ≠ nid := Ne.symm hne
  simp -implicitDefEqProofs [ac10, hb, w1]
  refine clK_of (add_o (nid := nid) (ver := ver) (ns := ns) (pd := pd) (th := th + 1) (up := up) ⟨1, tag, ce0⟩ (by simp [hb]) (by rw [look_updN hne]; exact hn) hne (by omega) (by omega) hl (fun nx' hx => ?_))
  rw [upd_swap hne, upd_upd, ← upd_swap hne]
  simp -implicitDefEqProofs
  exact ⟨_, memSub_refl _, hk _ (by omega)⟩
theorem Delay_z (tag : Int) (hb : look mem hid = some (.box [nilD, pd, I th, I up])) (hi : hid < nx) (ht : 0 ≤ th) (ht2 : th < 2 ^ 62)
    (hk : ∀ id nx', nx ≤ id → id < nx' → K (.tup [I 0, I 0]) ((id, .arr 0 6 (em encNd [⟨1, tag, ce0⟩])) :: upd mem hid (.box [.osl id 0 0 1, pd, I (th + 1), I up])) nx') :
    CallT Try.prog 10 [.opt hid 0, I tag] mem nx K := by
  refine ct10 (by simp) fun hfr => ?_
  have w1 := wr64 (x := th + 1) (by omega) (by omega)
  simp -implicitDefEqProofs [ac10, hb, w1]
  refine clK_of (add_n (pd := pd) (th := th + 1) (up := up) ⟨1, tag, ce0⟩ (by simp [hb]) (by omega) (fun id nx' h1 h2 => ?_))
  simp -implicitDefEqProofs
  exact ⟨_, memSub_refl _, hk _ _ (by omega) (by omega)⟩
theorem Poison_o (hb : look mem hid = some (.box [.osl nid ver 0 ns.length, pd, I th, I up])) (hn : look mem nid = some (.arr ver 6 (em encNd ns))) (hne : nid ≠ hid) (hi : hid < nx) (hj : nid < nx) (hl : ns.length < 2 ^ 41)
    (hk : ∀ nx', nx ≤ nx' → K (.tup [I ns.length, I 0]) (upd (upd mem nid (.arr (ver + 1) 6 (em encNd (ns ++ [⟨4, 0, ce0⟩])))) hid (.box [.osl nid (ver + 1) 0 (ns.length + 1), pd, I th, I up])) nx') :
    CallT Try.prog 11 [.opt hid 0] mem nx K := by
  refine ct11 (by simp) fun hfr => ?_
  simp -implicitDefEqProofs [ac11]
  refine clK_of (add_o (nid := nid) (ver := ver) (ns := ns) (pd := pd) (th := th) (up := up) ⟨4, 0, ce0⟩ hb hn hne (by omega) (by omega) hl (fun nx' hx => ?_))
  simp -implicitDefEqProofs
  exact ⟨_, memSub_refl _, hk _ (by omega)⟩
theorem Poison_z (hb : look mem hid = some (.box [nilD, pd, I th, I up])) (hi : hid < nx)
    (hk : ∀ id nx', nx ≤ id → id < nx' → K (.tup [I 0, I 0]) ((id, .arr 0 6 (em encNd [⟨4, 0, ce0⟩])) :: upd mem hid (.box [.osl id 0 0 1, pd, I th, I up])) nx') :
    CallT Try.prog 11 [.opt hid 0] mem nx K := by
  refine ct11 (by simp) fun hfr => ?_
  simp -implicitDefEqProofs [ac11]
  refine clK_of (add_n (pd := pd) (th := th) (up := up) ⟨4, 0, ce0⟩ hb (by omega) (fun id nx' h1 h2 => ?_))
  simp -implicitDefEqProofs
  exact ⟨_, memSub_refl _, hk _ _ (by omega) (by omega)⟩
end
end Go.Fx.Ytdjhlljgedknaaa

/-
  Layer 7: TypesKeep.
-/
import Derived.Test.YthbainhddfajfaaLj
import Derived.Test.YthbainhddfajfaaXK
import Derived.Test.YthbainhddfajfaaSm
import Derived.Test.YthbainhddfajfaaCodeL7c
set_option linter.all false
set_option maxRecDepth 100000
set_option maxHeartbeats 4000000
namespace Go.Fx.Ythbainhddfajfaa
open Go Go.Fx Go.Proofs Go.Fx.Flt
theorem wt_strc {n : Nat} {ds : List D} (h : Wt Try.prog n 9 ds) : ∃ l : List UInt8, ds = [Tx l] := by
  cases n with
  | zero => exact h.elim
  | succ n =>
    simp only [Wt, Try.underlying9] at h
    obtain ⟨s, rfl, hl⟩ := h
    exact ⟨s.data.toList, rfl⟩
theorem wt_int7 {n : Nat} {ds : List D} (h : Wt Try.prog n 3 ds) : ∃ z, ds = [I z] := by
  cases n with
  | zero => exact h.elim
  | succ n =>
    simp only [Wt, Try.underlying3] at h
    obtain ⟨z, rfl, _⟩ := h
    exact ⟨z, rfl⟩
theorem wt_type7 {n : Nat} {ds : List D} (h : Wt Try.prog n 35 ds) : ∃ z, ds = [I z] := by
  cases n with
  | zero => exact h.elim
  | succ n =>
    simp only [Wt, Try.underlying35] at h
    obtain ⟨z, rfl, _⟩ := h
    exact ⟨z, rfl⟩
theorem wt_pm {n : Nat} {ds : List D} (h : Wt Try.prog n 47 ds) : ∃ p : Pm, ds = encPm p ∧ True := by
  cases n with
  | zero => exact h.elim
  | succ n =>
    simp only [Wt, Try.underlying47, WtS, List.map] at h
    obtain ⟨c, r, rfl, h1, c2, r2, rfl, h2, c3, r3, rfl, h3, rfl⟩ := h
    obtain ⟨a, rfl⟩ := wt_strc h1
    obtain ⟨b, rfl⟩ := wt_type7 h2
    obtain ⟨d, rfl⟩ := wt_int7 h3
    exact ⟨⟨a, b, d⟩, by simp [encPm], trivial⟩
theorem wt_pms {n : Nat} {ds : List D} (h : Wt Try.prog n 34 ds) : ∃ l : List Pm, ds = [.sl (em encPm l)] ∧ l.length < 2 ^ 42 := by
  cases n with
  | zero => exact h.elim
  | succ n =>
    simp only [Wt, Try.underlying34] at h
    obtain ⟨es, rfl, hl, he⟩ := h
    obtain ⟨l, rfl, _⟩ := lift_em (enc := encPm) (p := fun _ => True) fun c hc => wt_pm (he c hc)
    refine ⟨l, rfl, ?_⟩
    have hb : Try.prog.bytesOf 47 = 32 := by kernel_rfl
    rw [hb, em_len] at hl
    unfold reachBytes at hl
    omega
theorem arg_pms {x : D} (h : Arg Try.prog 34 x) : ∃ l : List Pm, x = .sl (em encPm l) ∧ l.length < 2 ^ 42 := by
  obtain ⟨n, ds, h, k⟩ := h
  simp only [Try.underlying34] at k
  obtain ⟨l, rfl, h1⟩ := wt_pms h
  simp only [List.cons.injEq, and_true] at k
  exact ⟨l, k.symm, h1⟩
theorem neParam {p q : Pm} : binD Try.prog .neq 47 (.agg [Tx p.name, I p.type, I p.at']) (.agg [Tx q.name, I q.type, I q.at']) = some (.pl (.bool (!decide (p.name = q.name ∧ p.type = q.type ∧ p.at' = q.at')))) := by
  refine (bin_eqlS (vs := [.string (ByteArray.mk (Array.mk p.name)), .int .i64 p.type, .int .i64 p.at']) (us := [.string (ByteArray.mk (Array.mk q.name)), .int .i64 q.type, .int .i64 q.at']) (r := decide (p.name = q.name ∧ p.type = q.type ∧ p.at' = q.at')) Try.underlying47 (by kernel_rfl) (by kernel_rfl) rfl rfl ?_).2
  simp [eqFs, scal, Try.underlying9, Try.underlying3, Try.underlying35]
  rw [Bool.eq_iff_iff]
  simp
  intro _ _
  show (Array.mk p.name == Array.mk q.name) = true ↔ _
  rw [beq_iff_eq]; simp
abbrev room : List D := [Tx [114, 111, 111, 109], I 0, I 0]
theorem els_room {mem : Mem} : els mem 3 (.sl [room, room]) = some [room, room] := rfl
theorem sls_own {id v k m n : Nat} {X : List (List D)} {rest : Mem} (h : m ≤ n) : slsD ((id, .arr v k X) :: rest) false k (.osl id v 0 n) none (some (.pl (.int .i64 m))) = some (.osl id v 0 m) := by
  have h1 : (m : Int) ≤ n := by omega
  simp [slsD, bound, curv, look, h1]
theorem imm_app2 : ∀ (a b : List (List D)), D.immss (a ++ b) = (D.immss a && D.immss b)
  | [], b => by simp [D.immss]
  | x :: a, b => by
    show D.immss (x :: (a ++ b)) = _
    simp only [D.immss, imm_app2 a b, Bool.and_assoc]
theorem imm_rm (M : List Pm) : D.immss (em encPm M ++ [room, room]) = true := by
  rw [imm_app2, imm_Pm]; rfl
theorem law_TypesKeep : ∀ xs, Args Try.prog Try.f6.params.toList xs → Pure Try.prog 6 xs (B true) := by
  intro xs h
  rw [Try.params6] at h
  simp only [Args] at h
  obtain ⟨x, r, rfl, hx, y, r2, rfl, hy, rfl⟩ := h
  obtain ⟨t, rfl, ht⟩ := arg_bytes hx
  obtain ⟨M, rfl, hM⟩ := arg_pms hy
  obtain ⟨L, w, p, hr, hnm⟩ := read_nm t ht
  have hc := read_c hr
  refine pu6 (by simp) ?_
  by_cases hw : w = 0
  · have hk := hr.2.1 hw
    obtain ⟨hPT, hPl, hPs⟩ := prog_sh hk
    have k1 := types_c (scope_ok hk).1 hPl hPs
    have k2 := (scope_ok hk).2
    have k3 := same_c (L := L) (by omega) (fun f hf => ⟨by have := (hPs f hf).1; omega, by have := (hPs f hf).2.1; omega, hnm f hf⟩)
    have hne : 0 < L.length := by
      obtain ⟨_, _, _, _, _, _, _, _, h⟩ := hk
      cases L with
      | nil => exact absurd rfl h
      | cons a l => simp
    obtain ⟨f, hf⟩ : ∃ f, L[0] = f := ⟨_, rfl⟩
    have hmem : f ∈ L := hf ▸ List.getElem_mem hne
    obtain ⟨z1, z2, z3⟩ := hPs f hmem
    have o1 := Of_c L M f.body hPl (by omega) z3
    simp only [encEx_eq] at o1
    generalize ofF L M f.body = T at *
    generalize typesF L = R at *
    generalize ckF L = R6 at *
    have hd : decide (w = 0) = true := by simp [hw]
    rw [hd] at hc
    have b1 : M.length * 32 ≤ 3 * 2 ^ 46 := by omega
    have b2 : (M.length + 2) * 32 ≤ 3 * 2 ^ 46 := by omega
    simp -implicitDefEqProofs [ac6]
    refine pcK_of (awake_c) (by simp) ?_
    simp -implicitDefEqProofs
    refine pcK_of (hc) (by simp) ?_
    simp -implicitDefEqProofs
    refine pcK_of hc (by simp) ?_
    simp -implicitDefEqProofs [-els, els_Pm, els_room, b1, b2, sls_own (Nat.le_add_right M.length 2)]
    refine pcK_of (k1) (by simp) ?_
    simp -implicitDefEqProofs
    refine pcK_of k2 (by simp) ?_
    have hf2 : L[0]?.getD default = f := by rw [List.getElem?_eq_getElem hne, hf]; rfl
    have wM := wr64 (x := (M.length : Int) + 1) (by omega) (by omega)
    have hm2 : (M.length : Int) < (M.length : Int) + 2 := by omega
    have hm3 : (M.length : Int) + 1 < (M.length : Int) + 2 := by omega
    have hm4 : 0 ≤ (M.length : Int) + 1 := by omega
    have hm5 : (em encPm M ++ [room, room])[M.length]? = some room := by
      rw [List.getElem?_append_right (by simp)]; simp
    have hm6 : (em encPm M ++ [room, room])[M.length + 1]? = some room := by
      rw [List.getElem?_append_right (by simp)]; simp
    have hm7 : ∀ h, (em encPm M ++ [room, room])[M.length]'h = room := fun h => by
      rw [List.getElem?_eq_getElem h] at hm5
      exact Option.some.inj hm5
    have hm8 : ∀ h, (em encPm M ++ [room, room])[M.length + 1]'h = room := fun h => by
      rw [List.getElem?_eq_getElem h] at hm6
      exact Option.some.inj hm6
    by_cases h6 : R6.1 = 0
    · simp -implicitDefEqProofs [h6, hne, hf, hf2]
      refine clK_of (CallT_flat (mf := [(36, .box [I R.1, I R.2]), (23, .arr 1 3 (em encPm M ++ [room, room])), (18, .box [.sl (em encFn L)]), (8, .box [.sl (em encFn L)])]) (args' := [.agg [.sl (em encFn L)], .sl (em encPm M), .agg [I f.body.op, Tx f.body.name, Tx f.body.tail, I f.body.type, CX f.body.num.re f.body.num.im, .sl (em encEx f.body.args), I f.body.at']]) (d0 := .tup [I T.1, I T.2]) rfl (memSub_refl _) (by simp [List.take_of_length_le, imm_rm]) o1 ?_)
      simp -implicitDefEqProofs
      refine lp6_0 (α := Nat) (fun s _ => [(4, .top), (12, I s)]) (fun s _ => [(36, .box [I R.1, I R.2]), (23, .arr 1 3 (em encPm M ++ [room, room])), (18, .box [.sl (em encFn L)]), (8, .box [.sl (em encFn L)])]) (fun s k => s ≤ M.length) (fun s => M.length - s) 0 (by simp) (by simp) (memLe_refl _) ?_
      rintro s k hi
      by_cases hlt : s < M.length
      · obtain ⟨x, hx⟩ : ∃ x, M[s] = x := ⟨_, rfl⟩
        have w1 := wr64 (x := (s : Int) + 1) (by omega) (by omega)
        have hs2 : (s : Int) < (M.length : Int) + 2 := by omega
        have hs3 : (em encPm M ++ [room, room])[s]? = some (encPm x) := by
          rw [List.getElem?_append_left (by simpa using hlt)]
          simp [em, hx, hlt]
        have hs4 : ∀ h, (em encPm M ++ [room, room])[s]'h = encPm x := fun h => by
          rw [List.getElem?_eq_getElem h] at hs3
          exact Option.some.inj hs3
        simp -implicitDefEqProofs [lb6_0, hlt, hx, w1, hs2, hs3, hs4, neParam, encPm]
        exact again_of (s + 1) (by omega) (by omega) (by simp) (memLe_refl _)
      · simp -implicitDefEqProofs [lb6_0, hlt, wM, hm2, hm3, hm4, hm5, hm6, hm7, hm8]
        refine pcK_of (k3) (by simp) ?_
        simp -implicitDefEqProofs
        refine pcK_of (k1) (by simp) ?_
        simp -implicitDefEqProofs [eqFault]
    · simp -implicitDefEqProofs [h6]
      refine lp6_0 (α := Nat) (fun s _ => [(4, .top), (12, I s)]) (fun s _ => [(36, .box [I R.1, I R.2]), (23, .arr 1 3 (em encPm M ++ [room, room])), (18, .box [.sl (em encFn L)]), (8, .box [.sl (em encFn L)])]) (fun s k => s ≤ M.length) (fun s => M.length - s) 0 (by simp) (by simp) (memLe_refl _) ?_
      rintro s k hi
      by_cases hlt : s < M.length
      · obtain ⟨x, hx⟩ : ∃ x, M[s] = x := ⟨_, rfl⟩
        have w1 := wr64 (x := (s : Int) + 1) (by omega) (by omega)
        have hs2 : (s : Int) < (M.length : Int) + 2 := by omega
        have hs3 : (em encPm M ++ [room, room])[s]? = some (encPm x) := by
          rw [List.getElem?_append_left (by simpa using hlt)]
          simp [em, hx, hlt]
        have hs4 : ∀ h, (em encPm M ++ [room, room])[s]'h = encPm x := fun h => by
          rw [List.getElem?_eq_getElem h] at hs3
          exact Option.some.inj hs3
        simp -implicitDefEqProofs [lb6_0, hlt, hx, w1, hs2, hs3, hs4, neParam, encPm]
        exact again_of (s + 1) (by omega) (by omega) (by simp) (memLe_refl _)
      · simp -implicitDefEqProofs [lb6_0, hlt, wM, hm2, hm3, hm4, hm5, hm6, hm7, hm8]
        refine pcK_of (k3) (by simp) ?_
        simp -implicitDefEqProofs
        refine pcK_of (k1) (by simp) ?_
        simp -implicitDefEqProofs [eqFault]
  · have hd : decide (w = 0) = false := by simp [hw]
    rw [hd] at hc
    simp -implicitDefEqProofs [ac6]
    refine pcK_of (awake_c) (by simp) ?_
    simp -implicitDefEqProofs
    refine pcK_of (hc) (by simp) ?_
    simp -implicitDefEqProofs
end Go.Fx.Ythbainhddfajfaa

/-
  The parser's definitions: contract.
-/
import Derived.Test.YthbainhddfajfaaP8
set_option linter.all false
set_option maxRecDepth 100000
set_option maxHeartbeats 4000000

namespace Go.Fx.Ythbainhddfajfaa
open Go Go.Fx Go.Proofs Go.Fx.Flt
def pw (r : Rd) (l : List Pm) : Rd := if l = [] then r else r.want [44]
def pf (r : Rd) (l : List Pm) : Rd := if r.why = 0 ∧ r.next.kind = 0 ∧ r.lA ≤ (l.length : Int) then r.fail 22 else r
def paramsF : Nat → List Pm → Rd → Option (List Pm × Rd)
  | 0, _, _ => none
  | n + 1, l, r => if r.why = 0 ∧ r.is [41] = false then
      paramsF n (l ++ [⟨(pf (pw r l) l).name.1.text, (pf (pw r l) l).name.2.typ.1, (pf (pw r l) l).name.1.at'⟩]) (pf (pw r l) l).name.2.typ.2
    else some (l, r)
def df (r : Rd) (cnt : Nat) : Rd := if r.next.kind = 0 ∧ r.lF ≤ (cnt : Int) then r.fail 22 else r
def defF (n : Nat) (r : Rd) (cnt : Nat) : Option (Fn × Rd) :=
  (paramsF n [] ((df r cnt).name.2.want [40])).bind fun (ps, r4) =>
    (exprF n (((r4.want [41]).want [58]).typ.2.want [61])).map fun (body, r9) =>
      (⟨(df r cnt).name.1.text, ps, ((r4.want [41]).want [58]).typ.1, body, (df r cnt).name.1.at'⟩, r9.want [59])
def progF : Nat → List Fn → Rd → Option (List Fn × Rd)
  | 0, _, _ => none
  | n + 1, l, r => if r.why = 0 ∧ (l = [] ∨ r.next.kind ≠ 4) then (defF n r l.length).bind fun (f, q) => progF n (l ++ [f]) q else some (l, r)
theorem ok_pw {r : Rd} (h : r.ok) (l : List Pm) : (pw r l).ok := by
  unfold pw; split
  · exact h
  · exact Rd.ok_want h _
theorem ok_pf {r : Rd} (h : r.ok) (l : List Pm) : (pf r l).ok := by
  unfold pf; split
  · exact Rd.ok_fail h _
  · exact h
theorem ok_df {r : Rd} (h : r.ok) (c : Nat) : (df r c).ok := by
  unfold df; split
  · exact Rd.ok_fail h _
  · exact h
theorem paramsF_ok : ∀ n l (r : Rd) L r', r.ok → paramsF n l r = some (L, r') → r'.ok
  | 0, l, r, L, r', _, h => by simp [paramsF] at h
  | n + 1, l, r, L, r', h, hrun => by
    unfold paramsF at hrun
    split at hrun
    · exact paramsF_ok n _ _ L r' (Rd.ok_typ (Rd.ok_name (ok_pf (ok_pw h l) l))) hrun
    · simp only [Option.some.injEq, Prod.mk.injEq] at hrun
      obtain ⟨_, rfl⟩ := hrun
      exact h
theorem encFn_eq (f : Fn) : encFn f = [Tx f.name, .sl (em encPm f.params), I f.type, I f.body.op, Tx f.body.name, Tx f.body.tail, I f.body.type, CX f.body.num.re f.body.num.im, .sl (em encEx f.body.args), I f.body.at', I f.at'] := by
  unfold encFn; rw [encEx_eq]; rfl
theorem imm_Fn (l : List Fn) : D.immss (em encFn l) = true := em_imm fun f => by rw [encFn_eq]; simp
theorem cell_Fn (l : List Fn) : (em encFn l).all (fun e => e.all D.cell) = true := em_cell fun f => by rw [encFn_eq]; rfl
theorem app_Fn (l : List Fn) (f : Fn) : em encFn l ++ [encFn f] = em encFn (l ++ [f]) := em_app
attribute [simp] imm_Fn cell_Fn
theorem params_loop {n : Nat} (hN : n ≤ 2 ^ 40) {id nx b5 b6 M : Nat} {mem : Mem} {s2 r4 : Rd} {nm : Mk} {ps : List Pm} {d1 d : D} {x0 : Blk} (hl : look mem id = some x0) (hi : id < nx) (h5 : nx + 1 ≤ b5) (h6 : b5 + 1 ≤ b6) (h7 : b6 + 1 ≤ M) (hfr : ∀ i, nx ≤ i → look mem i = none) (k2 : s2.ok) (hp : paramsF n [] s2 = some (ps, r4))
    (Q : Exit → St → Prop) (hq : ∀ m, M + 1 ≤ m → Q (.exit 0) ⟨[(0, .opt id 0), (1, d1), (4, d), (5, .opt b5 0), (6, .opt b6 0), (7, .top), (8, .top)], [], (M, .arr ps.length 3 (em encPm ps)) :: (b6, .box [Tx nm.text, .osl M ps.length 0 ps.length, I 0, I 0, Tx [], Tx [], I 0, CX 0 0, .pl (.slice none 0 0), I 0, I nm.at']) :: (b5, .box (encMk nm)) :: (nx, .box [Tx [], .pl (.slice none 0 0), I 0, I 0, Tx [], Tx [], I 0, CX 0 0, .pl (.slice none 0 0), I 0, I 0]) :: upd mem id (.box (encRd r4)), m⟩) :
    A cf49 (.loop lb49_0) Q [(0, .opt id 0), (1, d1), (4, d), (5, .opt b5 0), (6, .opt b6 0), (7, .pl undef), (8, .pl undef)]
      ((b6, .box [Tx nm.text, .pl (.slice none 0 0), I 0, I 0, Tx [], Tx [], I 0, CX 0 0, .pl (.slice none 0 0), I 0, I nm.at']) :: (b5, .box (encMk nm)) :: (nx, .box [Tx [], .pl (.slice none 0 0), I 0, I 0, Tx [], Tx [], I 0, CX 0 0, .pl (.slice none 0 0), I 0, I 0]) :: upd mem id (.box (encRd s2))) M := by
  refine A_loop_ownM (id := b6) (off := 1) (k := 3) (by rw [look_cons, if_pos rfl]) rfl (.inl rfl) ?_
  refine lp49_0 (α := Nat × List Pm × Rd) (fun _ _ => [(7, .top), (8, .top)]) (fun s _ => (M, .arr s.2.1.length 3 (em encPm s.2.1)) :: (b6, .box [Tx nm.text, .osl M s.2.1.length 0 s.2.1.length, I 0, I 0, Tx [], Tx [], I 0, CX 0 0, .pl (.slice none 0 0), I 0, I nm.at']) :: (b5, .box (encMk nm)) :: (nx, .box [Tx [], .pl (.slice none 0 0), I 0, I 0, Tx [], Tx [], I 0, CX 0 0, .pl (.slice none 0 0), I 0, I 0]) :: upd mem id (.box (encRd s.2.2)))
    (fun s m => M + 1 ≤ m ∧ s.1 + s.2.1.length ≤ n ∧ s.2.2.ok ∧ paramsF s.1 s.2.1 s.2.2 = some (ps, r4)) (fun s => s.1) (n, [], s2) ⟨by omega, by simp, k2, hp⟩ (by simp) (by simp) ?_
  rintro ⟨f, l, y⟩ m ⟨hm, hf, hy, hrun⟩
  simp only at hf hy hrun
  cases f with
  | zero => simp [paramsF] at hrun
  | succ f =>
    unfold paramsF at hrun
    have ci := is_c hy [41]
    by_cases g1 : y.why = 0
    · have hw := hy
      cases hi2 : y.is [41] <;> rw [hi2] at ci
      · rw [if_pos ⟨g1, hi2⟩] at hrun
        have kp := ok_pf (ok_pw hy l) l
        have cnm := name_c kp
        have kn := Rd.ok_name kp
        have cty := typ_c kn
        have kq := Rd.ok_typ kn
        have hpf : pf (pw y l) l = if (pw y l).why = 0 ∧ (pw y l).next.kind = 0 ∧ (pw y l).lA ≤ (l.length : Int) then (pw y l).fail 22 else pw y l := rfl
        have ky1 := ok_pw hy l
        have hpw : pw y l = if l = [] then y else y.want [44] := rfl
        generalize pf (pw y l) l = z at *
        generalize z.name.1 = x at *
        generalize z.name.2 = z2 at *
        generalize z2.typ.1 = t at *
        generalize z2.typ.2 = q at *
        generalize pw y l = y1 at *
        have cnx := next_c ky1
        have cfl := fail_c ky1 22
        simp only [encMk] at cnx cnm
        have cw := want_c hy [44]
        by_cases h0 : l = []
        · subst h0
          rw [if_pos rfl] at hpw
          subst hpw
          simp only [List.nil_append] at hrun
          by_cases a0 : y1.why = 0
          · have hu0 := a0
            by_cases a1 : y1.next.kind = 0
            · by_cases a2 : y1.lA ≤ 0
              · rw [if_pos ⟨a0, a1, by simpa using a2⟩] at hpf
                subst hpf
                simp -implicitDefEqProofs (maxDischargeDepth := 80) (maxSteps := 1000000) [lb49_0, hl, hi, neC hi, neA, ltA, encRd, encMk, encEx_eq, neE hm, ltF hm, neE h5, ltF h5, neE h6, ltF h6, neE h7, ltF h7, g1, a0]
                refine clK_of ((ci) (by simp -implicitDefEqProofs (maxDischargeDepth := 80) (maxSteps := 1000000) [hl, hi, neC hi, neA, ltA, encRd, encMk, encEx_eq, neE hm, ltF hm, neE h5, ltF h5, neE h6, ltF h6, neE h7, ltF h7, g1, a0]) (by omega) (fun m2 hm2 => ?_))
                have im2 : id < m2 := by omega
                simp -implicitDefEqProofs (maxDischargeDepth := 80) (maxSteps := 1000000) [hl, hi, neC hi, neA, ltA, encRd, encMk, encEx_eq, neE hm, ltF hm, neE h5, ltF h5, neE h6, ltF h6, neE h7, ltF h7, g1, a0, neE hm2, ltF hm2, a0]
                refine clK_of ((cnx) (by simp -implicitDefEqProofs (maxDischargeDepth := 80) (maxSteps := 1000000) [hl, hi, neC hi, neA, ltA, encRd, encMk, encEx_eq, neE hm, ltF hm, neE h5, ltF h5, neE h6, ltF h6, neE h7, ltF h7, g1, a0, neE hm2, ltF hm2]) (by omega) (fun m4 hm4 => ?_))
                have im4 : id < m4 := by omega
                simp -implicitDefEqProofs (maxDischargeDepth := 80) (maxSteps := 1000000) [hl, hi, neC hi, neA, ltA, encRd, encMk, encEx_eq, neE hm, ltF hm, neE h5, ltF h5, neE h6, ltF h6, neE h7, ltF h7, g1, a0, neE hm2, ltF hm2, neE hm4, ltF hm4, a1, a2]
                refine clK_of ((cfl) (by simp -implicitDefEqProofs (maxDischargeDepth := 80) (maxSteps := 1000000) [hl, hi, neC hi, neA, ltA, encRd, encMk, encEx_eq, neE hm, ltF hm, neE h5, ltF h5, neE h6, ltF h6, neE h7, ltF h7, g1, a0, neE hm2, ltF hm2, neE hm4, ltF hm4]) (by omega) (fun m5 hm5 => ?_))
                have im5 : id < m5 := by omega
                simp -implicitDefEqProofs (maxDischargeDepth := 80) (maxSteps := 1000000) [hl, hi, neC hi, neA, ltA, encRd, encMk, encEx_eq, neE hm, ltF hm, neE h5, ltF h5, neE h6, ltF h6, neE h7, ltF h7, g1, a0, neE hm2, ltF hm2, neE hm4, ltF hm4, neE hm5, ltF hm5]
                refine clK_of ((cnm) (by simp -implicitDefEqProofs (maxDischargeDepth := 80) (maxSteps := 1000000) [hl, hi, neC hi, neA, ltA, encRd, encMk, encEx_eq, neE hm, ltF hm, neE h5, ltF h5, neE h6, ltF h6, neE h7, ltF h7, g1, a0, neE hm2, ltF hm2, neE hm4, ltF hm4, neE hm5, ltF hm5]) (by omega) (fun m7 hm7 => ?_))
                have im7 : id < m7 := by omega
                simp -implicitDefEqProofs (maxDischargeDepth := 80) (maxSteps := 1000000) [hl, hi, neC hi, neA, ltA, encRd, encMk, encEx_eq, neE hm, ltF hm, neE h5, ltF h5, neE h6, ltF h6, neE h7, ltF h7, g1, a0, neE hm2, ltF hm2, neE hm4, ltF hm4, neE hm5, ltF hm5, neE hm7, ltF hm7]
                refine clK_of ((cty) (by simp -implicitDefEqProofs (maxDischargeDepth := 80) (maxSteps := 1000000) [hl, hi, neC hi, neA, ltA, encRd, encMk, encEx_eq, neE hm, ltF hm, neE h5, ltF h5, neE h6, ltF h6, neE h7, ltF h7, g1, a0, neE hm2, ltF hm2, neE hm4, ltF hm4, neE hm5, ltF hm5, neE hm7, ltF hm7]) (by omega) (fun m8 hm8 => ?_))
                have im8 : id < m8 := by omega
                simp -implicitDefEqProofs (maxDischargeDepth := 80) (maxSteps := 1000000) [hl, hi, neC hi, neA, ltA, encRd, encMk, encEx_eq, neE hm, ltF hm, neE h5, ltF h5, neE h6, ltF h6, neE h7, ltF h7, g1, a0, neE hm2, ltF hm2, neE hm4, ltF hm4, neE hm5, ltF hm5, neE hm7, ltF hm7, neE hm8, ltF hm8]
                refine again_of (f, [⟨x.text, t, x.at'⟩], q) ⟨by omega, by simp only [List.length_append, List.length_cons, List.length_nil] at hf ⊢; omega, kq, hrun⟩ (by simp only; omega) (by simp) ?_
                simp only [em_1, encPm, List.length_cons, List.length_nil, Nat.zero_add]
                exact (by repeat (first | exact memLe_refl _ | refine memLe_skip ?_ (by simp only [look]; repeat (first | rw [if_neg (by omega)] | exact look_upd_none (hfr _ (by omega)) | exact hfr _ (by omega)))))
              · rw [if_neg (fun h => a2 (by simpa using h.2.2))] at hpf
                subst hpf
                simp -implicitDefEqProofs (maxDischargeDepth := 80) (maxSteps := 1000000) [lb49_0, hl, hi, neC hi, neA, ltA, encRd, encMk, encEx_eq, neE hm, ltF hm, neE h5, ltF h5, neE h6, ltF h6, neE h7, ltF h7, g1, a0]
                refine clK_of ((ci) (by simp -implicitDefEqProofs (maxDischargeDepth := 80) (maxSteps := 1000000) [hl, hi, neC hi, neA, ltA, encRd, encMk, encEx_eq, neE hm, ltF hm, neE h5, ltF h5, neE h6, ltF h6, neE h7, ltF h7, g1, a0]) (by omega) (fun m2 hm2 => ?_))
                have im2 : id < m2 := by omega
                simp -implicitDefEqProofs (maxDischargeDepth := 80) (maxSteps := 1000000) [hl, hi, neC hi, neA, ltA, encRd, encMk, encEx_eq, neE hm, ltF hm, neE h5, ltF h5, neE h6, ltF h6, neE h7, ltF h7, g1, a0, neE hm2, ltF hm2, a0]
                refine clK_of ((cnx) (by simp -implicitDefEqProofs (maxDischargeDepth := 80) (maxSteps := 1000000) [hl, hi, neC hi, neA, ltA, encRd, encMk, encEx_eq, neE hm, ltF hm, neE h5, ltF h5, neE h6, ltF h6, neE h7, ltF h7, g1, a0, neE hm2, ltF hm2]) (by omega) (fun m4 hm4 => ?_))
                have im4 : id < m4 := by omega
                simp -implicitDefEqProofs (maxDischargeDepth := 80) (maxSteps := 1000000) [hl, hi, neC hi, neA, ltA, encRd, encMk, encEx_eq, neE hm, ltF hm, neE h5, ltF h5, neE h6, ltF h6, neE h7, ltF h7, g1, a0, neE hm2, ltF hm2, neE hm4, ltF hm4, a1, a2]
                refine clK_of ((cnm) (by simp -implicitDefEqProofs (maxDischargeDepth := 80) (maxSteps := 1000000) [hl, hi, neC hi, neA, ltA, encRd, encMk, encEx_eq, neE hm, ltF hm, neE h5, ltF h5, neE h6, ltF h6, neE h7, ltF h7, g1, a0, neE hm2, ltF hm2, neE hm4, ltF hm4]) (by omega) (fun m7 hm7 => ?_))
                have im7 : id < m7 := by omega
                simp -implicitDefEqProofs (maxDischargeDepth := 80) (maxSteps := 1000000) [hl, hi, neC hi, neA, ltA, encRd, encMk, encEx_eq, neE hm, ltF hm, neE h5, ltF h5, neE h6, ltF h6, neE h7, ltF h7, g1, a0, neE hm2, ltF hm2, neE hm4, ltF hm4, neE hm7, ltF hm7]
                refine clK_of ((cty) (by simp -implicitDefEqProofs (maxDischargeDepth := 80) (maxSteps := 1000000) [hl, hi, neC hi, neA, ltA, encRd, encMk, encEx_eq, neE hm, ltF hm, neE h5, ltF h5, neE h6, ltF h6, neE h7, ltF h7, g1, a0, neE hm2, ltF hm2, neE hm4, ltF hm4, neE hm7, ltF hm7]) (by omega) (fun m8 hm8 => ?_))
                have im8 : id < m8 := by omega
                simp -implicitDefEqProofs (maxDischargeDepth := 80) (maxSteps := 1000000) [hl, hi, neC hi, neA, ltA, encRd, encMk, encEx_eq, neE hm, ltF hm, neE h5, ltF h5, neE h6, ltF h6, neE h7, ltF h7, g1, a0, neE hm2, ltF hm2, neE hm4, ltF hm4, neE hm7, ltF hm7, neE hm8, ltF hm8]
                refine again_of (f, [⟨x.text, t, x.at'⟩], q) ⟨by omega, by simp only [List.length_append, List.length_cons, List.length_nil] at hf ⊢; omega, kq, hrun⟩ (by simp only; omega) (by simp) ?_
                simp only [em_1, encPm, List.length_cons, List.length_nil, Nat.zero_add]
                exact (by repeat (first | exact memLe_refl _ | refine memLe_skip ?_ (by simp only [look]; repeat (first | rw [if_neg (by omega)] | exact look_upd_none (hfr _ (by omega)) | exact hfr _ (by omega)))))
            · rw [if_neg (fun h => a1 h.2.1)] at hpf
              subst hpf
              simp -implicitDefEqProofs (maxDischargeDepth := 80) (maxSteps := 1000000) [lb49_0, hl, hi, neC hi, neA, ltA, encRd, encMk, encEx_eq, neE hm, ltF hm, neE h5, ltF h5, neE h6, ltF h6, neE h7, ltF h7, g1, a0]
              refine clK_of ((ci) (by simp -implicitDefEqProofs (maxDischargeDepth := 80) (maxSteps := 1000000) [hl, hi, neC hi, neA, ltA, encRd, encMk, encEx_eq, neE hm, ltF hm, neE h5, ltF h5, neE h6, ltF h6, neE h7, ltF h7, g1, a0]) (by omega) (fun m2 hm2 => ?_))
              have im2 : id < m2 := by omega
              simp -implicitDefEqProofs (maxDischargeDepth := 80) (maxSteps := 1000000) [hl, hi, neC hi, neA, ltA, encRd, encMk, encEx_eq, neE hm, ltF hm, neE h5, ltF h5, neE h6, ltF h6, neE h7, ltF h7, g1, a0, neE hm2, ltF hm2, a0]
              refine clK_of ((cnx) (by simp -implicitDefEqProofs (maxDischargeDepth := 80) (maxSteps := 1000000) [hl, hi, neC hi, neA, ltA, encRd, encMk, encEx_eq, neE hm, ltF hm, neE h5, ltF h5, neE h6, ltF h6, neE h7, ltF h7, g1, a0, neE hm2, ltF hm2]) (by omega) (fun m4 hm4 => ?_))
              have im4 : id < m4 := by omega
              simp -implicitDefEqProofs (maxDischargeDepth := 80) (maxSteps := 1000000) [hl, hi, neC hi, neA, ltA, encRd, encMk, encEx_eq, neE hm, ltF hm, neE h5, ltF h5, neE h6, ltF h6, neE h7, ltF h7, g1, a0, neE hm2, ltF hm2, neE hm4, ltF hm4, a1]
              refine clK_of ((cnm) (by simp -implicitDefEqProofs (maxDischargeDepth := 80) (maxSteps := 1000000) [hl, hi, neC hi, neA, ltA, encRd, encMk, encEx_eq, neE hm, ltF hm, neE h5, ltF h5, neE h6, ltF h6, neE h7, ltF h7, g1, a0, neE hm2, ltF hm2, neE hm4, ltF hm4]) (by omega) (fun m7 hm7 => ?_))
              have im7 : id < m7 := by omega
              simp -implicitDefEqProofs (maxDischargeDepth := 80) (maxSteps := 1000000) [hl, hi, neC hi, neA, ltA, encRd, encMk, encEx_eq, neE hm, ltF hm, neE h5, ltF h5, neE h6, ltF h6, neE h7, ltF h7, g1, a0, neE hm2, ltF hm2, neE hm4, ltF hm4, neE hm7, ltF hm7]
              refine clK_of ((cty) (by simp -implicitDefEqProofs (maxDischargeDepth := 80) (maxSteps := 1000000) [hl, hi, neC hi, neA, ltA, encRd, encMk, encEx_eq, neE hm, ltF hm, neE h5, ltF h5, neE h6, ltF h6, neE h7, ltF h7, g1, a0, neE hm2, ltF hm2, neE hm4, ltF hm4, neE hm7, ltF hm7]) (by omega) (fun m8 hm8 => ?_))
              have im8 : id < m8 := by omega
              simp -implicitDefEqProofs (maxDischargeDepth := 80) (maxSteps := 1000000) [hl, hi, neC hi, neA, ltA, encRd, encMk, encEx_eq, neE hm, ltF hm, neE h5, ltF h5, neE h6, ltF h6, neE h7, ltF h7, g1, a0, neE hm2, ltF hm2, neE hm4, ltF hm4, neE hm7, ltF hm7, neE hm8, ltF hm8]
              refine again_of (f, [⟨x.text, t, x.at'⟩], q) ⟨by omega, by simp only [List.length_append, List.length_cons, List.length_nil] at hf ⊢; omega, kq, hrun⟩ (by simp only; omega) (by simp) ?_
              simp only [em_1, encPm, List.length_cons, List.length_nil, Nat.zero_add]
              exact (by repeat (first | exact memLe_refl _ | refine memLe_skip ?_ (by simp only [look]; repeat (first | rw [if_neg (by omega)] | exact look_upd_none (hfr _ (by omega)) | exact hfr _ (by omega)))))
          · exact absurd g1 a0
        · rw [if_neg h0] at hpw
          have hpos := List.length_pos_iff.2 h0
          rw [← hpw] at cw
          by_cases a0 : y1.why = 0
          · have hu0 := a0
            by_cases a1 : y1.next.kind = 0
            · by_cases a2 : y1.lA ≤ (l.length : Int)
              · rw [if_pos ⟨a0, a1, a2⟩] at hpf
                subst hpf
                simp -implicitDefEqProofs (maxDischargeDepth := 80) (maxSteps := 1000000) [lb49_0, hl, hi, neC hi, neA, ltA, encRd, encMk, encEx_eq, neE hm, ltF hm, neE h5, ltF h5, neE h6, ltF h6, neE h7, ltF h7, g1, a0]
                refine clK_of ((ci) (by simp -implicitDefEqProofs (maxDischargeDepth := 80) (maxSteps := 1000000) [hl, hi, neC hi, neA, ltA, encRd, encMk, encEx_eq, neE hm, ltF hm, neE h5, ltF h5, neE h6, ltF h6, neE h7, ltF h7, g1, a0]) (by omega) (fun m2 hm2 => ?_))
                have im2 : id < m2 := by omega
                simp -implicitDefEqProofs (maxDischargeDepth := 80) (maxSteps := 1000000) [hl, hi, neC hi, neA, ltA, encRd, encMk, encEx_eq, neE hm, ltF hm, neE h5, ltF h5, neE h6, ltF h6, neE h7, ltF h7, g1, a0, neE hm2, ltF hm2, hpos]
                refine clK_of ((cw) (by simp -implicitDefEqProofs (maxDischargeDepth := 80) (maxSteps := 1000000) [hl, hi, neC hi, neA, ltA, encRd, encMk, encEx_eq, neE hm, ltF hm, neE h5, ltF h5, neE h6, ltF h6, neE h7, ltF h7, g1, a0, neE hm2, ltF hm2]) (by omega) (fun m3 hm3 => ?_))
                have im3 : id < m3 := by omega
                simp -implicitDefEqProofs (maxDischargeDepth := 80) (maxSteps := 1000000) [hl, hi, neC hi, neA, ltA, encRd, encMk, encEx_eq, neE hm, ltF hm, neE h5, ltF h5, neE h6, ltF h6, neE h7, ltF h7, g1, a0, neE hm2, ltF hm2, neE hm3, ltF hm3, a0]
                refine clK_of ((cnx) (by simp -implicitDefEqProofs (maxDischargeDepth := 80) (maxSteps := 1000000) [hl, hi, neC hi, neA, ltA, encRd, encMk, encEx_eq, neE hm, ltF hm, neE h5, ltF h5, neE h6, ltF h6, neE h7, ltF h7, g1, a0, neE hm2, ltF hm2, neE hm3, ltF hm3]) (by omega) (fun m4 hm4 => ?_))
                have im4 : id < m4 := by omega
                simp -implicitDefEqProofs (maxDischargeDepth := 80) (maxSteps := 1000000) [hl, hi, neC hi, neA, ltA, encRd, encMk, encEx_eq, neE hm, ltF hm, neE h5, ltF h5, neE h6, ltF h6, neE h7, ltF h7, g1, a0, neE hm2, ltF hm2, neE hm3, ltF hm3, neE hm4, ltF hm4, a1, a2]
                refine clK_of ((cfl) (by simp -implicitDefEqProofs (maxDischargeDepth := 80) (maxSteps := 1000000) [hl, hi, neC hi, neA, ltA, encRd, encMk, encEx_eq, neE hm, ltF hm, neE h5, ltF h5, neE h6, ltF h6, neE h7, ltF h7, g1, a0, neE hm2, ltF hm2, neE hm3, ltF hm3, neE hm4, ltF hm4]) (by omega) (fun m5 hm5 => ?_))
                have im5 : id < m5 := by omega
                simp -implicitDefEqProofs (maxDischargeDepth := 80) (maxSteps := 1000000) [hl, hi, neC hi, neA, ltA, encRd, encMk, encEx_eq, neE hm, ltF hm, neE h5, ltF h5, neE h6, ltF h6, neE h7, ltF h7, g1, a0, neE hm2, ltF hm2, neE hm3, ltF hm3, neE hm4, ltF hm4, neE hm5, ltF hm5]
                refine clK_of ((cnm) (by simp -implicitDefEqProofs (maxDischargeDepth := 80) (maxSteps := 1000000) [hl, hi, neC hi, neA, ltA, encRd, encMk, encEx_eq, neE hm, ltF hm, neE h5, ltF h5, neE h6, ltF h6, neE h7, ltF h7, g1, a0, neE hm2, ltF hm2, neE hm3, ltF hm3, neE hm4, ltF hm4, neE hm5, ltF hm5]) (by omega) (fun m7 hm7 => ?_))
                have im7 : id < m7 := by omega
                simp -implicitDefEqProofs (maxDischargeDepth := 80) (maxSteps := 1000000) [hl, hi, neC hi, neA, ltA, encRd, encMk, encEx_eq, neE hm, ltF hm, neE h5, ltF h5, neE h6, ltF h6, neE h7, ltF h7, g1, a0, neE hm2, ltF hm2, neE hm3, ltF hm3, neE hm4, ltF hm4, neE hm5, ltF hm5, neE hm7, ltF hm7]
                refine clK_of ((cty) (by simp -implicitDefEqProofs (maxDischargeDepth := 80) (maxSteps := 1000000) [hl, hi, neC hi, neA, ltA, encRd, encMk, encEx_eq, neE hm, ltF hm, neE h5, ltF h5, neE h6, ltF h6, neE h7, ltF h7, g1, a0, neE hm2, ltF hm2, neE hm3, ltF hm3, neE hm4, ltF hm4, neE hm5, ltF hm5, neE hm7, ltF hm7]) (by omega) (fun m8 hm8 => ?_))
                have im8 : id < m8 := by omega
                simp -implicitDefEqProofs (maxDischargeDepth := 80) (maxSteps := 1000000) [hl, hi, neC hi, neA, ltA, encRd, encMk, encEx_eq, neE hm, ltF hm, neE h5, ltF h5, neE h6, ltF h6, neE h7, ltF h7, g1, a0, neE hm2, ltF hm2, neE hm3, ltF hm3, neE hm4, ltF hm4, neE hm5, ltF hm5, neE hm7, ltF hm7, neE hm8, ltF hm8]
                have hap := app_Pm l ⟨x.text, t, x.at'⟩
                refine ⟨by omega, again_of (f, l ++ [⟨x.text, t, x.at'⟩], q) ⟨by omega, by simp only [List.length_append, List.length_cons, List.length_nil]; omega, kq, hrun⟩ (by simp only; omega) (by simp) ?_⟩
                simp only [] at hap
                rw [hap]
                simp only [List.length_append, List.length_cons, List.length_nil, Nat.zero_add]
                exact (by repeat (first | exact memLe_refl _ | refine memLe_skip ?_ (by simp only [look]; repeat (first | rw [if_neg (by omega)] | exact look_upd_none (hfr _ (by omega)) | exact hfr _ (by omega)))))
              · rw [if_neg (fun h => a2 (by simpa using h.2.2))] at hpf
                subst hpf
                simp -implicitDefEqProofs (maxDischargeDepth := 80) (maxSteps := 1000000) [lb49_0, hl, hi, neC hi, neA, ltA, encRd, encMk, encEx_eq, neE hm, ltF hm, neE h5, ltF h5, neE h6, ltF h6, neE h7, ltF h7, g1, a0]
                refine clK_of ((ci) (by simp -implicitDefEqProofs (maxDischargeDepth := 80) (maxSteps := 1000000) [hl, hi, neC hi, neA, ltA, encRd, encMk, encEx_eq, neE hm, ltF hm, neE h5, ltF h5, neE h6, ltF h6, neE h7, ltF h7, g1, a0]) (by omega) (fun m2 hm2 => ?_))
                have im2 : id < m2 := by omega
                simp -implicitDefEqProofs (maxDischargeDepth := 80) (maxSteps := 1000000) [hl, hi, neC hi, neA, ltA, encRd, encMk, encEx_eq, neE hm, ltF hm, neE h5, ltF h5, neE h6, ltF h6, neE h7, ltF h7, g1, a0, neE hm2, ltF hm2, hpos]
                refine clK_of ((cw) (by simp -implicitDefEqProofs (maxDischargeDepth := 80) (maxSteps := 1000000) [hl, hi, neC hi, neA, ltA, encRd, encMk, encEx_eq, neE hm, ltF hm, neE h5, ltF h5, neE h6, ltF h6, neE h7, ltF h7, g1, a0, neE hm2, ltF hm2]) (by omega) (fun m3 hm3 => ?_))
                have im3 : id < m3 := by omega
                simp -implicitDefEqProofs (maxDischargeDepth := 80) (maxSteps := 1000000) [hl, hi, neC hi, neA, ltA, encRd, encMk, encEx_eq, neE hm, ltF hm, neE h5, ltF h5, neE h6, ltF h6, neE h7, ltF h7, g1, a0, neE hm2, ltF hm2, neE hm3, ltF hm3, a0]
                refine clK_of ((cnx) (by simp -implicitDefEqProofs (maxDischargeDepth := 80) (maxSteps := 1000000) [hl, hi, neC hi, neA, ltA, encRd, encMk, encEx_eq, neE hm, ltF hm, neE h5, ltF h5, neE h6, ltF h6, neE h7, ltF h7, g1, a0, neE hm2, ltF hm2, neE hm3, ltF hm3]) (by omega) (fun m4 hm4 => ?_))
                have im4 : id < m4 := by omega
                simp -implicitDefEqProofs (maxDischargeDepth := 80) (maxSteps := 1000000) [hl, hi, neC hi, neA, ltA, encRd, encMk, encEx_eq, neE hm, ltF hm, neE h5, ltF h5, neE h6, ltF h6, neE h7, ltF h7, g1, a0, neE hm2, ltF hm2, neE hm3, ltF hm3, neE hm4, ltF hm4, a1, a2]
                refine clK_of ((cnm) (by simp -implicitDefEqProofs (maxDischargeDepth := 80) (maxSteps := 1000000) [hl, hi, neC hi, neA, ltA, encRd, encMk, encEx_eq, neE hm, ltF hm, neE h5, ltF h5, neE h6, ltF h6, neE h7, ltF h7, g1, a0, neE hm2, ltF hm2, neE hm3, ltF hm3, neE hm4, ltF hm4]) (by omega) (fun m7 hm7 => ?_))
                have im7 : id < m7 := by omega
                simp -implicitDefEqProofs (maxDischargeDepth := 80) (maxSteps := 1000000) [hl, hi, neC hi, neA, ltA, encRd, encMk, encEx_eq, neE hm, ltF hm, neE h5, ltF h5, neE h6, ltF h6, neE h7, ltF h7, g1, a0, neE hm2, ltF hm2, neE hm3, ltF hm3, neE hm4, ltF hm4, neE hm7, ltF hm7]
                refine clK_of ((cty) (by simp -implicitDefEqProofs (maxDischargeDepth := 80) (maxSteps := 1000000) [hl, hi, neC hi, neA, ltA, encRd, encMk, encEx_eq, neE hm, ltF hm, neE h5, ltF h5, neE h6, ltF h6, neE h7, ltF h7, g1, a0, neE hm2, ltF hm2, neE hm3, ltF hm3, neE hm4, ltF hm4, neE hm7, ltF hm7]) (by omega) (fun m8 hm8 => ?_))
                have im8 : id < m8 := by omega
                simp -implicitDefEqProofs (maxDischargeDepth := 80) (maxSteps := 1000000) [hl, hi, neC hi, neA, ltA, encRd, encMk, encEx_eq, neE hm, ltF hm, neE h5, ltF h5, neE h6, ltF h6, neE h7, ltF h7, g1, a0, neE hm2, ltF hm2, neE hm3, ltF hm3, neE hm4, ltF hm4, neE hm7, ltF hm7, neE hm8, ltF hm8]
                have hap := app_Pm l ⟨x.text, t, x.at'⟩
                refine ⟨by omega, again_of (f, l ++ [⟨x.text, t, x.at'⟩], q) ⟨by omega, by simp only [List.length_append, List.length_cons, List.length_nil]; omega, kq, hrun⟩ (by simp only; omega) (by simp) ?_⟩
                simp only [] at hap
                rw [hap]
                simp only [List.length_append, List.length_cons, List.length_nil, Nat.zero_add]
                exact (by repeat (first | exact memLe_refl _ | refine memLe_skip ?_ (by simp only [look]; repeat (first | rw [if_neg (by omega)] | exact look_upd_none (hfr _ (by omega)) | exact hfr _ (by omega)))))
            · rw [if_neg (fun h => a1 h.2.1)] at hpf
              subst hpf
              simp -implicitDefEqProofs (maxDischargeDepth := 80) (maxSteps := 1000000) [lb49_0, hl, hi, neC hi, neA, ltA, encRd, encMk, encEx_eq, neE hm, ltF hm, neE h5, ltF h5, neE h6, ltF h6, neE h7, ltF h7, g1, a0]
              refine clK_of ((ci) (by simp -implicitDefEqProofs (maxDischargeDepth := 80) (maxSteps := 1000000) [hl, hi, neC hi, neA, ltA, encRd, encMk, encEx_eq, neE hm, ltF hm, neE h5, ltF h5, neE h6, ltF h6, neE h7, ltF h7, g1, a0]) (by omega) (fun m2 hm2 => ?_))
              have im2 : id < m2 := by omega
              simp -implicitDefEqProofs (maxDischargeDepth := 80) (maxSteps := 1000000) [hl, hi, neC hi, neA, ltA, encRd, encMk, encEx_eq, neE hm, ltF hm, neE h5, ltF h5, neE h6, ltF h6, neE h7, ltF h7, g1, a0, neE hm2, ltF hm2, hpos]
              refine clK_of ((cw) (by simp -implicitDefEqProofs (maxDischargeDepth := 80) (maxSteps := 1000000) [hl, hi, neC hi, neA, ltA, encRd, encMk, encEx_eq, neE hm, ltF hm, neE h5, ltF h5, neE h6, ltF h6, neE h7, ltF h7, g1, a0, neE hm2, ltF hm2]) (by omega) (fun m3 hm3 => ?_))
              have im3 : id < m3 := by omega
              simp -implicitDefEqProofs (maxDischargeDepth := 80) (maxSteps := 1000000) [hl, hi, neC hi, neA, ltA, encRd, encMk, encEx_eq, neE hm, ltF hm, neE h5, ltF h5, neE h6, ltF h6, neE h7, ltF h7, g1, a0, neE hm2, ltF hm2, neE hm3, ltF hm3, a0]
              refine clK_of ((cnx) (by simp -implicitDefEqProofs (maxDischargeDepth := 80) (maxSteps := 1000000) [hl, hi, neC hi, neA, ltA, encRd, encMk, encEx_eq, neE hm, ltF hm, neE h5, ltF h5, neE h6, ltF h6, neE h7, ltF h7, g1, a0, neE hm2, ltF hm2, neE hm3, ltF hm3]) (by omega) (fun m4 hm4 => ?_))
              have im4 : id < m4 := by omega
              simp -implicitDefEqProofs (maxDischargeDepth := 80) (maxSteps := 1000000) [hl, hi, neC hi, neA, ltA, encRd, encMk, encEx_eq, neE hm, ltF hm, neE h5, ltF h5, neE h6, ltF h6, neE h7, ltF h7, g1, a0, neE hm2, ltF hm2, neE hm3, ltF hm3, neE hm4, ltF hm4, a1]
              refine clK_of ((cnm) (by simp -implicitDefEqProofs (maxDischargeDepth := 80) (maxSteps := 1000000) [hl, hi, neC hi, neA, ltA, encRd, encMk, encEx_eq, neE hm, ltF hm, neE h5, ltF h5, neE h6, ltF h6, neE h7, ltF h7, g1, a0, neE hm2, ltF hm2, neE hm3, ltF hm3, neE hm4, ltF hm4]) (by omega) (fun m7 hm7 => ?_))
              have im7 : id < m7 := by omega
              simp -implicitDefEqProofs (maxDischargeDepth := 80) (maxSteps := 1000000) [hl, hi, neC hi, neA, ltA, encRd, encMk, encEx_eq, neE hm, ltF hm, neE h5, ltF h5, neE h6, ltF h6, neE h7, ltF h7, g1, a0, neE hm2, ltF hm2, neE hm3, ltF hm3, neE hm4, ltF hm4, neE hm7, ltF hm7]
              refine clK_of ((cty) (by simp -implicitDefEqProofs (maxDischargeDepth := 80) (maxSteps := 1000000) [hl, hi, neC hi, neA, ltA, encRd, encMk, encEx_eq, neE hm, ltF hm, neE h5, ltF h5, neE h6, ltF h6, neE h7, ltF h7, g1, a0, neE hm2, ltF hm2, neE hm3, ltF hm3, neE hm4, ltF hm4, neE hm7, ltF hm7]) (by omega) (fun m8 hm8 => ?_))
              have im8 : id < m8 := by omega
              simp -implicitDefEqProofs (maxDischargeDepth := 80) (maxSteps := 1000000) [hl, hi, neC hi, neA, ltA, encRd, encMk, encEx_eq, neE hm, ltF hm, neE h5, ltF h5, neE h6, ltF h6, neE h7, ltF h7, g1, a0, neE hm2, ltF hm2, neE hm3, ltF hm3, neE hm4, ltF hm4, neE hm7, ltF hm7, neE hm8, ltF hm8]
              have hap := app_Pm l ⟨x.text, t, x.at'⟩
              refine ⟨by omega, again_of (f, l ++ [⟨x.text, t, x.at'⟩], q) ⟨by omega, by simp only [List.length_append, List.length_cons, List.length_nil]; omega, kq, hrun⟩ (by simp only; omega) (by simp) ?_⟩
              simp only [] at hap
              rw [hap]
              simp only [List.length_append, List.length_cons, List.length_nil, Nat.zero_add]
              exact (by repeat (first | exact memLe_refl _ | refine memLe_skip ?_ (by simp only [look]; repeat (first | rw [if_neg (by omega)] | exact look_upd_none (hfr _ (by omega)) | exact hfr _ (by omega)))))
          · rw [if_neg (fun h => a0 h.1)] at hpf
            subst hpf
            simp -implicitDefEqProofs (maxDischargeDepth := 80) (maxSteps := 1000000) [lb49_0, hl, hi, neC hi, neA, ltA, encRd, encMk, encEx_eq, neE hm, ltF hm, neE h5, ltF h5, neE h6, ltF h6, neE h7, ltF h7, g1]
            refine clK_of ((ci) (by simp -implicitDefEqProofs (maxDischargeDepth := 80) (maxSteps := 1000000) [hl, hi, neC hi, neA, ltA, encRd, encMk, encEx_eq, neE hm, ltF hm, neE h5, ltF h5, neE h6, ltF h6, neE h7, ltF h7, g1]) (by omega) (fun m2 hm2 => ?_))
            have im2 : id < m2 := by omega
            simp -implicitDefEqProofs (maxDischargeDepth := 80) (maxSteps := 1000000) [hl, hi, neC hi, neA, ltA, encRd, encMk, encEx_eq, neE hm, ltF hm, neE h5, ltF h5, neE h6, ltF h6, neE h7, ltF h7, g1, neE hm2, ltF hm2, hpos]
            refine clK_of ((cw) (by simp -implicitDefEqProofs (maxDischargeDepth := 80) (maxSteps := 1000000) [hl, hi, neC hi, neA, ltA, encRd, encMk, encEx_eq, neE hm, ltF hm, neE h5, ltF h5, neE h6, ltF h6, neE h7, ltF h7, g1, neE hm2, ltF hm2]) (by omega) (fun m3 hm3 => ?_))
            have im3 : id < m3 := by omega
            simp -implicitDefEqProofs (maxDischargeDepth := 80) (maxSteps := 1000000) [hl, hi, neC hi, neA, ltA, encRd, encMk, encEx_eq, neE hm, ltF hm, neE h5, ltF h5, neE h6, ltF h6, neE h7, ltF h7, g1, neE hm2, ltF hm2, neE hm3, ltF hm3, a0]
            refine clK_of ((cnm) (by simp -implicitDefEqProofs (maxDischargeDepth := 80) (maxSteps := 1000000) [hl, hi, neC hi, neA, ltA, encRd, encMk, encEx_eq, neE hm, ltF hm, neE h5, ltF h5, neE h6, ltF h6, neE h7, ltF h7, g1, neE hm2, ltF hm2, neE hm3, ltF hm3]) (by omega) (fun m7 hm7 => ?_))
            have im7 : id < m7 := by omega
            simp -implicitDefEqProofs (maxDischargeDepth := 80) (maxSteps := 1000000) [hl, hi, neC hi, neA, ltA, encRd, encMk, encEx_eq, neE hm, ltF hm, neE h5, ltF h5, neE h6, ltF h6, neE h7, ltF h7, g1, neE hm2, ltF hm2, neE hm3, ltF hm3, neE hm7, ltF hm7]
            refine clK_of ((cty) (by simp -implicitDefEqProofs (maxDischargeDepth := 80) (maxSteps := 1000000) [hl, hi, neC hi, neA, ltA, encRd, encMk, encEx_eq, neE hm, ltF hm, neE h5, ltF h5, neE h6, ltF h6, neE h7, ltF h7, g1, neE hm2, ltF hm2, neE hm3, ltF hm3, neE hm7, ltF hm7]) (by omega) (fun m8 hm8 => ?_))
            have im8 : id < m8 := by omega
            simp -implicitDefEqProofs (maxDischargeDepth := 80) (maxSteps := 1000000) [hl, hi, neC hi, neA, ltA, encRd, encMk, encEx_eq, neE hm, ltF hm, neE h5, ltF h5, neE h6, ltF h6, neE h7, ltF h7, g1, neE hm2, ltF hm2, neE hm3, ltF hm3, neE hm7, ltF hm7, neE hm8, ltF hm8]
            have hap := app_Pm l ⟨x.text, t, x.at'⟩
            refine ⟨by omega, again_of (f, l ++ [⟨x.text, t, x.at'⟩], q) ⟨by omega, by simp only [List.length_append, List.length_cons, List.length_nil]; omega, kq, hrun⟩ (by simp only; omega) (by simp) ?_⟩
            simp only [] at hap
            rw [hap]
            simp only [List.length_append, List.length_cons, List.length_nil, Nat.zero_add]
            exact (by repeat (first | exact memLe_refl _ | refine memLe_skip ?_ (by simp only [look]; repeat (first | rw [if_neg (by omega)] | exact look_upd_none (hfr _ (by omega)) | exact hfr _ (by omega)))))
      · rw [if_neg (by simp [hi2])] at hrun
        simp only [Option.some.injEq, Prod.mk.injEq] at hrun
        obtain ⟨rfl, rfl⟩ := hrun
        simp [encRd, encMk, g1] at hq
        simp -implicitDefEqProofs (maxDischargeDepth := 80) (maxSteps := 1000000) [lb49_0, hl, hi, neC hi, neA, ltA, encRd, encMk, encEx_eq, neE hm, ltF hm, neE h5, ltF h5, neE h6, ltF h6, neE h7, ltF h7, g1]
        refine clK_of ((ci) (by simp -implicitDefEqProofs (maxDischargeDepth := 80) (maxSteps := 1000000) [hl, hi, neC hi, neA, ltA, encRd, encMk, encEx_eq, neE hm, ltF hm, neE h5, ltF h5, neE h6, ltF h6, neE h7, ltF h7, g1]) (by omega) (fun m2 hm2 => ?_))
        have im2 : id < m2 := by omega
        simp -implicitDefEqProofs (maxDischargeDepth := 80) (maxSteps := 1000000) [hl, hi, neC hi, neA, ltA, encRd, encMk, encEx_eq, neE hm, ltF hm, neE h5, ltF h5, neE h6, ltF h6, neE h7, ltF h7, g1, neE hm2, ltF hm2]
        exact hq _ (by omega)
    · rw [if_neg (by simp [g1])] at hrun
      simp only [Option.some.injEq, Prod.mk.injEq] at hrun
      obtain ⟨rfl, rfl⟩ := hrun
      simp [encRd, encMk] at hq
      simp -implicitDefEqProofs (maxDischargeDepth := 80) (maxSteps := 1000000) [lb49_0, hl, hi, neC hi, neA, ltA, encRd, encMk, encEx_eq, neE hm, ltF hm, neE h5, ltF h5, neE h6, ltF h6, neE h7, ltF h7, g1]
      exact hq _ (by omega)
theorem def_s {n : Nat} (hN : n ≤ 2 ^ 40) (r : Rd) (h : r.ok) (cnt : Nat) (f : Fn) (r' : Rd) (hrun : defF n r cnt = some (f, r')) :
    r'.ok ∧ RC 49 [I cnt] r r' (.agg (encFn f)) := by
  unfold defF at hrun
  have kdf := ok_df h cnt
  have cdf : RC0 48 [] r (.agg (encMk r.next)) := next_c h
  have cff := fail_c h 22
  have w1 := name_c kdf
  have k1 := Rd.ok_name kdf
  have w2 := want_c k1 [40]
  have k2 := Rd.ok_want k1 [40]
  have hdf : df r cnt = if r.next.kind = 0 ∧ r.lF ≤ (cnt : Int) then r.fail 22 else r := rfl
  generalize df r cnt = s0 at *
  generalize s0.name.1 = nm at *
  generalize s0.name.2 = s1 at *
  generalize s1.want [40] = s2 at *
  cases hp : paramsF n [] s2 with
  | none => rw [hp] at hrun; simp at hrun
  | some q =>
    obtain ⟨ps, r4⟩ := q
    rw [hp] at hrun
    simp only [Option.bind_some, Option.map_eq_some_iff, Prod.mk.injEq] at hrun
    obtain ⟨⟨body, r9⟩, hb, rfl, rfl⟩ := hrun
    have k4 := paramsF_ok n [] s2 ps r4 k2 hp
    have w3 := want_c k4 [41]
    have k5 := Rd.ok_want k4 [41]
    have w4 := want_c k5 [58]
    have k6 := Rd.ok_want k5 [58]
    have w5 := typ_c k6
    have k7 := Rd.ok_typ k6
    have w6 := want_c k7 [61]
    have k8 := Rd.ok_want k7 [61]
    generalize r4.want [41] = s5 at *
    generalize s5.want [58] = s6 at *
    generalize s6.typ.1 = ty at *
    generalize s6.typ.2 = s7 at *
    generalize s7.want [61] = s8 at *
    obtain ⟨k9, _, w7⟩ := expr_c hN k8 hb
    have w8 := want_c k9 [59]
    have k10 := Rd.ok_want k9 [59]
    generalize r9.want [59] = s10 at *
    refine ⟨k10, ?_⟩
    intro id mem nx K hl hi hk
    simp only [encFn_eq] at hk
    simp only [encEx_eq] at w7
    simp only [encMk] at w1 cdf
    refine CallT_frzR ?_
    refine ct49 (by simp) fun hfr => ?_
    by_cases g0 : r.next.kind = 0
    · by_cases g1 : r.lF ≤ (cnt : Int)
      · rw [if_pos ⟨g0, g1⟩] at hdf
        subst hdf
        simp -implicitDefEqProofs (maxDischargeDepth := 80) (maxSteps := 1000000) [ac49, hl, hi, neC hi, neA, ltA, encRd, encMk, encEx_eq]
        refine clK_of ((cdf) (by simp -implicitDefEqProofs (maxDischargeDepth := 80) (maxSteps := 1000000) [hl, hi, neC hi, neA, ltA, encRd, encMk, encEx_eq]) (by omega) (fun m1 hm1 => ?_))
        have im1 : id < m1 := by omega
        simp -implicitDefEqProofs (maxDischargeDepth := 80) (maxSteps := 1000000) [hl, hi, neC hi, neA, ltA, encRd, encMk, encEx_eq, neE hm1, ltF hm1, g0, g1]
        refine clK_of ((cff) (by simp -implicitDefEqProofs (maxDischargeDepth := 80) (maxSteps := 1000000) [hl, hi, neC hi, neA, ltA, encRd, encMk, encEx_eq, neE hm1, ltF hm1]) (by omega) (fun m2 hm2 => ?_))
        have im2 : id < m2 := by omega
        simp -implicitDefEqProofs (maxDischargeDepth := 80) (maxSteps := 1000000) [hl, hi, neC hi, neA, ltA, encRd, encMk, encEx_eq, neE hm1, ltF hm1, neE hm2, ltF hm2]
        refine clK_of ((w1) (by simp -implicitDefEqProofs (maxDischargeDepth := 80) (maxSteps := 1000000) [hl, hi, neC hi, neA, ltA, encRd, encMk, encEx_eq, neE hm1, ltF hm1, neE hm2, ltF hm2]) (by omega) (fun m3 hm3 => ?_))
        have im3 : id < m3 := by omega
        simp -implicitDefEqProofs (maxDischargeDepth := 80) (maxSteps := 1000000) [hl, hi, neC hi, neA, ltA, encRd, encMk, encEx_eq, neE hm1, ltF hm1, neE hm2, ltF hm2, neE hm3, ltF hm3]
        refine clK_of ((w2) (by simp -implicitDefEqProofs (maxDischargeDepth := 80) (maxSteps := 1000000) [hl, hi, neC hi, neA, ltA, encRd, encMk, encEx_eq, neE hm1, ltF hm1, neE hm2, ltF hm2, neE hm3, ltF hm3]) (by omega) (fun m4 hm4 => ?_))
        have im4 : id < m4 := by omega
        simp -implicitDefEqProofs (maxDischargeDepth := 80) (maxSteps := 1000000) [hl, hi, neC hi, neA, ltA, encRd, encMk, encEx_eq, neE hm1, ltF hm1, neE hm2, ltF hm2, neE hm3, ltF hm3, neE hm4, ltF hm4]
        refine params_loop (b5 := m2 + 2) (b6 := m3 + 5) (M := m4) (nm := nm) (mem := mem) hN hl hi (by omega) (by omega) (by omega) hfr k2 hp _ (fun m hm => ?_)
        simp -implicitDefEqProofs (maxDischargeDepth := 80) (maxSteps := 1000000) [hl, hi, neC hi, neA, ltA, encRd, encMk, encEx_eq, neE hm1, ltF hm1, neE hm2, ltF hm2, neE hm3, ltF hm3, neE hm4, ltF hm4, neE hm, ltF hm]
        refine clK_of ((w3) (by simp -implicitDefEqProofs (maxDischargeDepth := 80) (maxSteps := 1000000) [hl, hi, neC hi, neA, ltA, encRd, encMk, encEx_eq, neE hm1, ltF hm1, neE hm2, ltF hm2, neE hm3, ltF hm3, neE hm4, ltF hm4, neE hm, ltF hm]) (by omega) (fun m5 hm5 => ?_))
        have im5 : id < m5 := by omega
        simp -implicitDefEqProofs (maxDischargeDepth := 80) (maxSteps := 1000000) [hl, hi, neC hi, neA, ltA, encRd, encMk, encEx_eq, neE hm1, ltF hm1, neE hm2, ltF hm2, neE hm3, ltF hm3, neE hm4, ltF hm4, neE hm, ltF hm, neE hm5, ltF hm5]
        refine clK_of ((w4) (by simp -implicitDefEqProofs (maxDischargeDepth := 80) (maxSteps := 1000000) [hl, hi, neC hi, neA, ltA, encRd, encMk, encEx_eq, neE hm1, ltF hm1, neE hm2, ltF hm2, neE hm3, ltF hm3, neE hm4, ltF hm4, neE hm, ltF hm, neE hm5, ltF hm5]) (by omega) (fun m6 hm6 => ?_))
        have im6 : id < m6 := by omega
        simp -implicitDefEqProofs (maxDischargeDepth := 80) (maxSteps := 1000000) [hl, hi, neC hi, neA, ltA, encRd, encMk, encEx_eq, neE hm1, ltF hm1, neE hm2, ltF hm2, neE hm3, ltF hm3, neE hm4, ltF hm4, neE hm, ltF hm, neE hm5, ltF hm5, neE hm6, ltF hm6]
        refine clK_of ((w5) (by simp -implicitDefEqProofs (maxDischargeDepth := 80) (maxSteps := 1000000) [hl, hi, neC hi, neA, ltA, encRd, encMk, encEx_eq, neE hm1, ltF hm1, neE hm2, ltF hm2, neE hm3, ltF hm3, neE hm4, ltF hm4, neE hm, ltF hm, neE hm5, ltF hm5, neE hm6, ltF hm6]) (by omega) (fun m7 hm7 => ?_))
        have im7 : id < m7 := by omega
        simp -implicitDefEqProofs (maxDischargeDepth := 80) (maxSteps := 1000000) [hl, hi, neC hi, neA, ltA, encRd, encMk, encEx_eq, neE hm1, ltF hm1, neE hm2, ltF hm2, neE hm3, ltF hm3, neE hm4, ltF hm4, neE hm, ltF hm, neE hm5, ltF hm5, neE hm6, ltF hm6, neE hm7, ltF hm7]
        refine clK_of ((w6) (by simp -implicitDefEqProofs (maxDischargeDepth := 80) (maxSteps := 1000000) [hl, hi, neC hi, neA, ltA, encRd, encMk, encEx_eq, neE hm1, ltF hm1, neE hm2, ltF hm2, neE hm3, ltF hm3, neE hm4, ltF hm4, neE hm, ltF hm, neE hm5, ltF hm5, neE hm6, ltF hm6, neE hm7, ltF hm7]) (by omega) (fun m8 hm8 => ?_))
        have im8 : id < m8 := by omega
        simp -implicitDefEqProofs (maxDischargeDepth := 80) (maxSteps := 1000000) [hl, hi, neC hi, neA, ltA, encRd, encMk, encEx_eq, neE hm1, ltF hm1, neE hm2, ltF hm2, neE hm3, ltF hm3, neE hm4, ltF hm4, neE hm, ltF hm, neE hm5, ltF hm5, neE hm6, ltF hm6, neE hm7, ltF hm7, neE hm8, ltF hm8]
        refine clK_of ((w7) (by simp -implicitDefEqProofs (maxDischargeDepth := 80) (maxSteps := 1000000) [hl, hi, neC hi, neA, ltA, encRd, encMk, encEx_eq, neE hm1, ltF hm1, neE hm2, ltF hm2, neE hm3, ltF hm3, neE hm4, ltF hm4, neE hm, ltF hm, neE hm5, ltF hm5, neE hm6, ltF hm6, neE hm7, ltF hm7, neE hm8, ltF hm8]) (by omega) (fun m9 hm9 => ?_))
        have im9 : id < m9 := by omega
        simp -implicitDefEqProofs (maxDischargeDepth := 80) (maxSteps := 1000000) [hl, hi, neC hi, neA, ltA, encRd, encMk, encEx_eq, neE hm1, ltF hm1, neE hm2, ltF hm2, neE hm3, ltF hm3, neE hm4, ltF hm4, neE hm, ltF hm, neE hm5, ltF hm5, neE hm6, ltF hm6, neE hm7, ltF hm7, neE hm8, ltF hm8, neE hm9, ltF hm9]
        refine clK_of ((w8) (by simp -implicitDefEqProofs (maxDischargeDepth := 80) (maxSteps := 1000000) [hl, hi, neC hi, neA, ltA, encRd, encMk, encEx_eq, neE hm1, ltF hm1, neE hm2, ltF hm2, neE hm3, ltF hm3, neE hm4, ltF hm4, neE hm, ltF hm, neE hm5, ltF hm5, neE hm6, ltF hm6, neE hm7, ltF hm7, neE hm8, ltF hm8, neE hm9, ltF hm9]) (by omega) (fun m10 hm10 => ?_))
        have im10 : id < m10 := by omega
        simp -implicitDefEqProofs (maxDischargeDepth := 80) (maxSteps := 1000000) [hl, hi, neC hi, neA, ltA, encRd, encMk, encEx_eq, neE hm1, ltF hm1, neE hm2, ltF hm2, neE hm3, ltF hm3, neE hm4, ltF hm4, neE hm, ltF hm, neE hm5, ltF hm5, neE hm6, ltF hm6, neE hm7, ltF hm7, neE hm8, ltF hm8, neE hm9, ltF hm9, neE hm10, ltF hm10]
        exact kfrz1 m4 _ (by simp -implicitDefEqProofs (maxDischargeDepth := 80) (maxSteps := 1000000) [hl, hi, neC hi, neA, ltA, encRd, encMk, encEx_eq, neE hm1, ltF hm1, neE hm2, ltF hm2, neE hm3, ltF hm3, neE hm4, ltF hm4, neE hm, ltF hm, neE hm5, ltF hm5, neE hm6, ltF hm6, neE hm7, ltF hm7, neE hm8, ltF hm8, neE hm9, ltF hm9, neE hm10, ltF hm10]; rfl) (by repeat (first | exact memSub_refl _ | refine memSub_skip ?_ (look_upd_none (hfr _ (by omega))) | refine memSub_skip ?_ (hfr _ (by omega)))) (look_upd_none (hfr _ (by omega))) (by simp [frz, look, List.take_of_length_le]) (hk _ (by omega))
      · rw [if_neg (fun h => g1 h.2)] at hdf
        subst hdf
        simp -implicitDefEqProofs (maxDischargeDepth := 80) (maxSteps := 1000000) [ac49, hl, hi, neC hi, neA, ltA, encRd, encMk, encEx_eq]
        refine clK_of ((cdf) (by simp -implicitDefEqProofs (maxDischargeDepth := 80) (maxSteps := 1000000) [hl, hi, neC hi, neA, ltA, encRd, encMk, encEx_eq]) (by omega) (fun m1 hm1 => ?_))
        have im1 : id < m1 := by omega
        simp -implicitDefEqProofs (maxDischargeDepth := 80) (maxSteps := 1000000) [hl, hi, neC hi, neA, ltA, encRd, encMk, encEx_eq, neE hm1, ltF hm1, g0, g1]
        refine clK_of ((w1) (by simp -implicitDefEqProofs (maxDischargeDepth := 80) (maxSteps := 1000000) [hl, hi, neC hi, neA, ltA, encRd, encMk, encEx_eq, neE hm1, ltF hm1]) (by omega) (fun m3 hm3 => ?_))
        have im3 : id < m3 := by omega
        simp -implicitDefEqProofs (maxDischargeDepth := 80) (maxSteps := 1000000) [hl, hi, neC hi, neA, ltA, encRd, encMk, encEx_eq, neE hm1, ltF hm1, neE hm3, ltF hm3]
        refine clK_of ((w2) (by simp -implicitDefEqProofs (maxDischargeDepth := 80) (maxSteps := 1000000) [hl, hi, neC hi, neA, ltA, encRd, encMk, encEx_eq, neE hm1, ltF hm1, neE hm3, ltF hm3]) (by omega) (fun m4 hm4 => ?_))
        have im4 : id < m4 := by omega
        simp -implicitDefEqProofs (maxDischargeDepth := 80) (maxSteps := 1000000) [hl, hi, neC hi, neA, ltA, encRd, encMk, encEx_eq, neE hm1, ltF hm1, neE hm3, ltF hm3, neE hm4, ltF hm4]
        refine params_loop (b5 := m1 + 2) (b6 := m3 + 5) (M := m4) (nm := nm) (mem := mem) hN hl hi (by omega) (by omega) (by omega) hfr k2 hp _ (fun m hm => ?_)
        simp -implicitDefEqProofs (maxDischargeDepth := 80) (maxSteps := 1000000) [hl, hi, neC hi, neA, ltA, encRd, encMk, encEx_eq, neE hm1, ltF hm1, neE hm3, ltF hm3, neE hm4, ltF hm4, neE hm, ltF hm]
        refine clK_of ((w3) (by simp -implicitDefEqProofs (maxDischargeDepth := 80) (maxSteps := 1000000) [hl, hi, neC hi, neA, ltA, encRd, encMk, encEx_eq, neE hm1, ltF hm1, neE hm3, ltF hm3, neE hm4, ltF hm4, neE hm, ltF hm]) (by omega) (fun m5 hm5 => ?_))
        have im5 : id < m5 := by omega
        simp -implicitDefEqProofs (maxDischargeDepth := 80) (maxSteps := 1000000) [hl, hi, neC hi, neA, ltA, encRd, encMk, encEx_eq, neE hm1, ltF hm1, neE hm3, ltF hm3, neE hm4, ltF hm4, neE hm, ltF hm, neE hm5, ltF hm5]
        refine clK_of ((w4) (by simp -implicitDefEqProofs (maxDischargeDepth := 80) (maxSteps := 1000000) [hl, hi, neC hi, neA, ltA, encRd, encMk, encEx_eq, neE hm1, ltF hm1, neE hm3, ltF hm3, neE hm4, ltF hm4, neE hm, ltF hm, neE hm5, ltF hm5]) (by omega) (fun m6 hm6 => ?_))
        have im6 : id < m6 := by omega
        simp -implicitDefEqProofs (maxDischargeDepth := 80) (maxSteps := 1000000) [hl, hi, neC hi, neA, ltA, encRd, encMk, encEx_eq, neE hm1, ltF hm1, neE hm3, ltF hm3, neE hm4, ltF hm4, neE hm, ltF hm, neE hm5, ltF hm5, neE hm6, ltF hm6]
        refine clK_of ((w5) (by simp -implicitDefEqProofs (maxDischargeDepth := 80) (maxSteps := 1000000) [hl, hi, neC hi, neA, ltA, encRd, encMk, encEx_eq, neE hm1, ltF hm1, neE hm3, ltF hm3, neE hm4, ltF hm4, neE hm, ltF hm, neE hm5, ltF hm5, neE hm6, ltF hm6]) (by omega) (fun m7 hm7 => ?_))
        have im7 : id < m7 := by omega
        simp -implicitDefEqProofs (maxDischargeDepth := 80) (maxSteps := 1000000) [hl, hi, neC hi, neA, ltA, encRd, encMk, encEx_eq, neE hm1, ltF hm1, neE hm3, ltF hm3, neE hm4, ltF hm4, neE hm, ltF hm, neE hm5, ltF hm5, neE hm6, ltF hm6, neE hm7, ltF hm7]
        refine clK_of ((w6) (by simp -implicitDefEqProofs (maxDischargeDepth := 80) (maxSteps := 1000000) [hl, hi, neC hi, neA, ltA, encRd, encMk, encEx_eq, neE hm1, ltF hm1, neE hm3, ltF hm3, neE hm4, ltF hm4, neE hm, ltF hm, neE hm5, ltF hm5, neE hm6, ltF hm6, neE hm7, ltF hm7]) (by omega) (fun m8 hm8 => ?_))
        have im8 : id < m8 := by omega
        simp -implicitDefEqProofs (maxDischargeDepth := 80) (maxSteps := 1000000) [hl, hi, neC hi, neA, ltA, encRd, encMk, encEx_eq, neE hm1, ltF hm1, neE hm3, ltF hm3, neE hm4, ltF hm4, neE hm, ltF hm, neE hm5, ltF hm5, neE hm6, ltF hm6, neE hm7, ltF hm7, neE hm8, ltF hm8]
        refine clK_of ((w7) (by simp -implicitDefEqProofs (maxDischargeDepth := 80) (maxSteps := 1000000) [hl, hi, neC hi, neA, ltA, encRd, encMk, encEx_eq, neE hm1, ltF hm1, neE hm3, ltF hm3, neE hm4, ltF hm4, neE hm, ltF hm, neE hm5, ltF hm5, neE hm6, ltF hm6, neE hm7, ltF hm7, neE hm8, ltF hm8]) (by omega) (fun m9 hm9 => ?_))
        have im9 : id < m9 := by omega
        simp -implicitDefEqProofs (maxDischargeDepth := 80) (maxSteps := 1000000) [hl, hi, neC hi, neA, ltA, encRd, encMk, encEx_eq, neE hm1, ltF hm1, neE hm3, ltF hm3, neE hm4, ltF hm4, neE hm, ltF hm, neE hm5, ltF hm5, neE hm6, ltF hm6, neE hm7, ltF hm7, neE hm8, ltF hm8, neE hm9, ltF hm9]
        refine clK_of ((w8) (by simp -implicitDefEqProofs (maxDischargeDepth := 80) (maxSteps := 1000000) [hl, hi, neC hi, neA, ltA, encRd, encMk, encEx_eq, neE hm1, ltF hm1, neE hm3, ltF hm3, neE hm4, ltF hm4, neE hm, ltF hm, neE hm5, ltF hm5, neE hm6, ltF hm6, neE hm7, ltF hm7, neE hm8, ltF hm8, neE hm9, ltF hm9]) (by omega) (fun m10 hm10 => ?_))
        have im10 : id < m10 := by omega
        simp -implicitDefEqProofs (maxDischargeDepth := 80) (maxSteps := 1000000) [hl, hi, neC hi, neA, ltA, encRd, encMk, encEx_eq, neE hm1, ltF hm1, neE hm3, ltF hm3, neE hm4, ltF hm4, neE hm, ltF hm, neE hm5, ltF hm5, neE hm6, ltF hm6, neE hm7, ltF hm7, neE hm8, ltF hm8, neE hm9, ltF hm9, neE hm10, ltF hm10]
        exact kfrz1 m4 _ (by simp -implicitDefEqProofs (maxDischargeDepth := 80) (maxSteps := 1000000) [hl, hi, neC hi, neA, ltA, encRd, encMk, encEx_eq, neE hm1, ltF hm1, neE hm3, ltF hm3, neE hm4, ltF hm4, neE hm, ltF hm, neE hm5, ltF hm5, neE hm6, ltF hm6, neE hm7, ltF hm7, neE hm8, ltF hm8, neE hm9, ltF hm9, neE hm10, ltF hm10]; rfl) (by repeat (first | exact memSub_refl _ | refine memSub_skip ?_ (look_upd_none (hfr _ (by omega))) | refine memSub_skip ?_ (hfr _ (by omega)))) (look_upd_none (hfr _ (by omega))) (by simp [frz, look, List.take_of_length_le]) (hk _ (by omega))
    · rw [if_neg (fun h => g0 h.1)] at hdf
      subst hdf
      simp -implicitDefEqProofs (maxDischargeDepth := 80) (maxSteps := 1000000) [ac49, hl, hi, neC hi, neA, ltA, encRd, encMk, encEx_eq]
      refine clK_of ((cdf) (by simp -implicitDefEqProofs (maxDischargeDepth := 80) (maxSteps := 1000000) [hl, hi, neC hi, neA, ltA, encRd, encMk, encEx_eq]) (by omega) (fun m1 hm1 => ?_))
      have im1 : id < m1 := by omega
      simp -implicitDefEqProofs (maxDischargeDepth := 80) (maxSteps := 1000000) [hl, hi, neC hi, neA, ltA, encRd, encMk, encEx_eq, neE hm1, ltF hm1, g0]
      refine clK_of ((w1) (by simp -implicitDefEqProofs (maxDischargeDepth := 80) (maxSteps := 1000000) [hl, hi, neC hi, neA, ltA, encRd, encMk, encEx_eq, neE hm1, ltF hm1]) (by omega) (fun m3 hm3 => ?_))
      have im3 : id < m3 := by omega
      simp -implicitDefEqProofs (maxDischargeDepth := 80) (maxSteps := 1000000) [hl, hi, neC hi, neA, ltA, encRd, encMk, encEx_eq, neE hm1, ltF hm1, neE hm3, ltF hm3]
      refine clK_of ((w2) (by simp -implicitDefEqProofs (maxDischargeDepth := 80) (maxSteps := 1000000) [hl, hi, neC hi, neA, ltA, encRd, encMk, encEx_eq, neE hm1, ltF hm1, neE hm3, ltF hm3]) (by omega) (fun m4 hm4 => ?_))
      have im4 : id < m4 := by omega
      simp -implicitDefEqProofs (maxDischargeDepth := 80) (maxSteps := 1000000) [hl, hi, neC hi, neA, ltA, encRd, encMk, encEx_eq, neE hm1, ltF hm1, neE hm3, ltF hm3, neE hm4, ltF hm4]
      refine params_loop (b5 := m1 + 2) (b6 := m3 + 5) (M := m4) (nm := nm) (mem := mem) hN hl hi (by omega) (by omega) (by omega) hfr k2 hp _ (fun m hm => ?_)
      simp -implicitDefEqProofs (maxDischargeDepth := 80) (maxSteps := 1000000) [hl, hi, neC hi, neA, ltA, encRd, encMk, encEx_eq, neE hm1, ltF hm1, neE hm3, ltF hm3, neE hm4, ltF hm4, neE hm, ltF hm]
      refine clK_of ((w3) (by simp -implicitDefEqProofs (maxDischargeDepth := 80) (maxSteps := 1000000) [hl, hi, neC hi, neA, ltA, encRd, encMk, encEx_eq, neE hm1, ltF hm1, neE hm3, ltF hm3, neE hm4, ltF hm4, neE hm, ltF hm]) (by omega) (fun m5 hm5 => ?_))
      have im5 : id < m5 := by omega
      simp -implicitDefEqProofs (maxDischargeDepth := 80) (maxSteps := 1000000) [hl, hi, neC hi, neA, ltA, encRd, encMk, encEx_eq, neE hm1, ltF hm1, neE hm3, ltF hm3, neE hm4, ltF hm4, neE hm, ltF hm, neE hm5, ltF hm5]
      refine clK_of ((w4) (by simp -implicitDefEqProofs (maxDischargeDepth := 80) (maxSteps := 1000000) [hl, hi, neC hi, neA, ltA, encRd, encMk, encEx_eq, neE hm1, ltF hm1, neE hm3, ltF hm3, neE hm4, ltF hm4, neE hm, ltF hm, neE hm5, ltF hm5]) (by omega) (fun m6 hm6 => ?_))
      have im6 : id < m6 := by omega
      simp -implicitDefEqProofs (maxDischargeDepth := 80) (maxSteps := 1000000) [hl, hi, neC hi, neA, ltA, encRd, encMk, encEx_eq, neE hm1, ltF hm1, neE hm3, ltF hm3, neE hm4, ltF hm4, neE hm, ltF hm, neE hm5, ltF hm5, neE hm6, ltF hm6]
      refine clK_of ((w5) (by simp -implicitDefEqProofs (maxDischargeDepth := 80) (maxSteps := 1000000) [hl, hi, neC hi, neA, ltA, encRd, encMk, encEx_eq, neE hm1, ltF hm1, neE hm3, ltF hm3, neE hm4, ltF hm4, neE hm, ltF hm, neE hm5, ltF hm5, neE hm6, ltF hm6]) (by omega) (fun m7 hm7 => ?_))
      have im7 : id < m7 := by omega
      simp -implicitDefEqProofs (maxDischargeDepth := 80) (maxSteps := 1000000) [hl, hi, neC hi, neA, ltA, encRd, encMk, encEx_eq, neE hm1, ltF hm1, neE hm3, ltF hm3, neE hm4, ltF hm4, neE hm, ltF hm, neE hm5, ltF hm5, neE hm6, ltF hm6, neE hm7, ltF hm7]
      refine clK_of ((w6) (by simp -implicitDefEqProofs (maxDischargeDepth := 80) (maxSteps := 1000000) [hl, hi, neC hi, neA, ltA, encRd, encMk, encEx_eq, neE hm1, ltF hm1, neE hm3, ltF hm3, neE hm4, ltF hm4, neE hm, ltF hm, neE hm5, ltF hm5, neE hm6, ltF hm6, neE hm7, ltF hm7]) (by omega) (fun m8 hm8 => ?_))
      have im8 : id < m8 := by omega
      simp -implicitDefEqProofs (maxDischargeDepth := 80) (maxSteps := 1000000) [hl, hi, neC hi, neA, ltA, encRd, encMk, encEx_eq, neE hm1, ltF hm1, neE hm3, ltF hm3, neE hm4, ltF hm4, neE hm, ltF hm, neE hm5, ltF hm5, neE hm6, ltF hm6, neE hm7, ltF hm7, neE hm8, ltF hm8]
      refine clK_of ((w7) (by simp -implicitDefEqProofs (maxDischargeDepth := 80) (maxSteps := 1000000) [hl, hi, neC hi, neA, ltA, encRd, encMk, encEx_eq, neE hm1, ltF hm1, neE hm3, ltF hm3, neE hm4, ltF hm4, neE hm, ltF hm, neE hm5, ltF hm5, neE hm6, ltF hm6, neE hm7, ltF hm7, neE hm8, ltF hm8]) (by omega) (fun m9 hm9 => ?_))
      have im9 : id < m9 := by omega
      simp -implicitDefEqProofs (maxDischargeDepth := 80) (maxSteps := 1000000) [hl, hi, neC hi, neA, ltA, encRd, encMk, encEx_eq, neE hm1, ltF hm1, neE hm3, ltF hm3, neE hm4, ltF hm4, neE hm, ltF hm, neE hm5, ltF hm5, neE hm6, ltF hm6, neE hm7, ltF hm7, neE hm8, ltF hm8, neE hm9, ltF hm9]
      refine clK_of ((w8) (by simp -implicitDefEqProofs (maxDischargeDepth := 80) (maxSteps := 1000000) [hl, hi, neC hi, neA, ltA, encRd, encMk, encEx_eq, neE hm1, ltF hm1, neE hm3, ltF hm3, neE hm4, ltF hm4, neE hm, ltF hm, neE hm5, ltF hm5, neE hm6, ltF hm6, neE hm7, ltF hm7, neE hm8, ltF hm8, neE hm9, ltF hm9]) (by omega) (fun m10 hm10 => ?_))
      have im10 : id < m10 := by omega
      simp -implicitDefEqProofs (maxDischargeDepth := 80) (maxSteps := 1000000) [hl, hi, neC hi, neA, ltA, encRd, encMk, encEx_eq, neE hm1, ltF hm1, neE hm3, ltF hm3, neE hm4, ltF hm4, neE hm, ltF hm, neE hm5, ltF hm5, neE hm6, ltF hm6, neE hm7, ltF hm7, neE hm8, ltF hm8, neE hm9, ltF hm9, neE hm10, ltF hm10]
      exact kfrz1 m4 _ (by simp -implicitDefEqProofs (maxDischargeDepth := 80) (maxSteps := 1000000) [hl, hi, neC hi, neA, ltA, encRd, encMk, encEx_eq, neE hm1, ltF hm1, neE hm3, ltF hm3, neE hm4, ltF hm4, neE hm, ltF hm, neE hm5, ltF hm5, neE hm6, ltF hm6, neE hm7, ltF hm7, neE hm8, ltF hm8, neE hm9, ltF hm9, neE hm10, ltF hm10]; rfl) (by repeat (first | exact memSub_refl _ | refine memSub_skip ?_ (look_upd_none (hfr _ (by omega))) | refine memSub_skip ?_ (hfr _ (by omega)))) (look_upd_none (hfr _ (by omega))) (by simp [frz, look, List.take_of_length_le]) (hk _ (by omega))
end Go.Fx.Ythbainhddfajfaa

/- Joined texts of this claim. No condition. -/
import Derived.Test.YtlhdpfaohphbaaaGreatMt3
set_option linter.all false
set_option maxRecDepth 100000
set_option maxHeartbeats 4000000
namespace Go.Fx.YtlhdpfaohphbaaaGreat
open Go Go.Fx Go.Proofs Go.Fx.Flt
def pw (r : Rd) (l : List Pm) : Rd := if l = [] then r else r.want [44]
def pf (r : Rd) (l : List Pm) : Rd := if r.why = 0 ∧ r.next.kind = 0 ∧ r.lA ≤ (l.length : Int) then r.fail 22 else r
def dY : Nat → List Pm → Rd → Option (List Pm × Rd)
 | 0, _, _ => none
 | n + 1, l, r => if r.why = 0 ∧ r.is [41] = false then
   dY n (l ++ [⟨(pf (pw r l) l).name.1.text, (pf (pw r l) l).name.2.typ.1, (pf (pw r l) l).name.1.at'⟩]) (pf (pw r l) l).name.2.typ.2
  else some (l, r)
def df (r : Rd) (cnt : Nat) : Rd := if r.next.kind = 0 ∧ r.lF ≤ (cnt : Int) then r.fail 22 else r
def kH (n : Nat) (r : Rd) (cnt : Nat) : Option (Fn × Rd) :=
 (dY n [] ((df r cnt).name.2.want [40])).bind fun (ps, r4) =>
  (bM n (((r4.want [41]).want [58]).typ.2.want [61])).map fun (body, r9) =>
   (⟨(df r cnt).name.1.text, ps, ((r4.want [41]).want [58]).typ.1, body, (df r cnt).name.1.at'⟩, r9.want [59])
def eP : Nat → List Fn → Rd → Option (List Fn × Rd)
 | 0, _, _ => none
 | n + 1, l, r => if r.why = 0 ∧ (l = [] ∨ r.next.kind ≠ 4) then (kH n r l.length).bind fun (f, q) => eP n (l ++ [f]) q else some (l, r)
theorem DM {r : Rd} (h : r.ok) (l : List Pm) : (pw r l).ok := by
 unfold pw; split
 ·exact h
 ·exact Rd.ok_want h _
theorem ok_pf {r : Rd} (h : r.ok) (l : List Pm) : (pf r l).ok := by
 unfold pf; split
 ·exact Rd.ok_fail h _
 ·exact h
theorem ok_df {r : Rd} (h : r.ok) (c : Nat) : (df r c).ok := by
 unfold df; split
 ·exact Rd.ok_fail h _
 ·exact h
theorem uL : ∀ n l (r : Rd) L r', r.ok → dY n l r = some (L, r') → r'.ok
 | 0, l, r, L, r', _, h => by simp [dY] at h
 | n + 1, l, r, L, r', h, hrun => by
  unfold dY at hrun
  split at hrun
  ·exact uL n _ _ L r' (Rd.ok_typ (Rd.ok_name (ok_pf (DM h l) l))) hrun
  ·simp only [Option.some.injEq, Prod.mk.injEq] at hrun
   obtain ⟨_, rfl⟩ := hrun
   exact h
theorem aR (f : Fn) : aY f = [Tx f.name, .sl (em bG f.params), I f.type, I f.body.op, Tx f.body.name, Tx f.body.tail, I f.body.type, CX f.body.num.re f.body.num.im, .sl (em aQ f.body.args), I f.body.at', I f.at'] := by
 unfold aY; rw [aA]; rfl
theorem imm_Fn (l : List Fn) : D.immss (em aY l) = true := gQ fun f => by rw [aR]; simp
theorem GS (l : List Fn) (f : Fn) : em aY l ++ [aY f] = em aY (l ++ [f]) := fP
attribute [simp] imm_Fn
theorem oP {n : Nat} (hN : n ≤ 2 ^ 40) {id nx b5 b6 M : Nat} {mem : Mem} {s2 r4 : Rd} {nm : Mk} {ps : List Pm} {d1 d : D} {x0 : Blk} (hl : look mem id = some x0) (hi : id < nx) (h5 : nx + 1 ≤ b5) (h6 : b5 + 1 ≤ b6) (h7 : b6 + 1 ≤ M) (hfr : ∀ i, nx ≤ i → look mem i = none) (k2 : s2.ok) (hp : dY n [] s2 = some (ps, r4))
  (Q : Exit → St → Prop) (hq : ∀ m, M + 1 ≤ m → Q (.exit 0) ⟨[(0, .opt id 0), (1, d1), (4, d), (5, .opt b5 0), (6, .opt b6 0), (7, .top), (8, .top)], [], (M, .arr ps.length 3 (em bG ps)) :: (b6, .box [Tx nm.text, .osl M ps.length 0 ps.length, I 0, I 0, Tx [], Tx [], I 0, CX 0 0, .pl (.slice none 0 0), I 0, I nm.at']) :: (b5, .box (aB nm)) :: (nx, .box [Tx [], .pl (.slice none 0 0), I 0, I 0, Tx [], Tx [], I 0, CX 0 0, .pl (.slice none 0 0), I 0, I 0]) :: upd mem id (.box (aC r4)), m⟩) :
  A cf92 (.loop lb92_0) Q [(0, .opt id 0), (1, d1), (4, d), (5, .opt b5 0), (6, .opt b6 0), (7, .pl undef), (8, .pl undef)]
   ((b6, .box [Tx nm.text, .pl (.slice none 0 0), I 0, I 0, Tx [], Tx [], I 0, CX 0 0, .pl (.slice none 0 0), I 0, I nm.at']) :: (b5, .box (aB nm)) :: (nx, .box [Tx [], .pl (.slice none 0 0), I 0, I 0, Tx [], Tx [], I 0, CX 0 0, .pl (.slice none 0 0), I 0, I 0]) :: upd mem id (.box (aC s2))) M := by
 refine oM (id := b6) (off := 1) (k := 3) (by rw [a8, if_pos rfl]) rfl (.inl rfl) ?_
 refine lpG cf92 lb92_0 [7, 8] (α := Nat × List Pm × Rd) (fun _ _ => [(7, .top), (8, .top)]) (fun s _ => (M, .arr s.2.1.length 3 (em bG s.2.1)) :: (b6, .box [Tx nm.text, .osl M s.2.1.length 0 s.2.1.length, I 0, I 0, Tx [], Tx [], I 0, CX 0 0, .pl (.slice none 0 0), I 0, I nm.at']) :: (b5, .box (aB nm)) :: (nx, .box [Tx [], .pl (.slice none 0 0), I 0, I 0, Tx [], Tx [], I 0, CX 0 0, .pl (.slice none 0 0), I 0, I 0]) :: upd mem id (.box (aC s.2.2)))
  (fun s m => M + 1 ≤ m ∧ s.1 + s.2.1.length ≤ n ∧ s.2.2.ok ∧ dY s.1 s.2.1 s.2.2 = some (ps, r4)) (fun s => s.1) (n, [], s2) ⟨by omega, by simp, k2, hp⟩ (by simp) (by simp) ?_
 rintro ⟨f, l, y⟩ m ⟨hm, hf, hy, hrun⟩
 have Km := nfc trivial hm
 have K5 := nfc Km h5
 have K6 := nfc K5 h6
 have K7 := nfc K6 h7
 simp only at hf hy hrun
 cases f with
 | zero => simp [dY] at hrun
 | succ f =>
  unfold dY at hrun
  have ci := mB hy [41]
  by_cases g1 : y.why = 0
  ·have hw := hy
   have KF1 := And.intro K7 (g1)
   cases hi2 : y.is [41] <;> rw [hi2] at ci
   ·rw [if_pos ⟨g1, hi2⟩] at hrun
    have kp := ok_pf (DM hy l) l
    have cnm := o9 kp
    have kn := Rd.ok_name kp
    have cty := uE kn
    have kq := Rd.ok_typ kn
    have hpf : pf (pw y l) l = if (pw y l).why = 0 ∧ (pw y l).next.kind = 0 ∧ (pw y l).lA ≤ (l.length : Int) then (pw y l).fail 22 else pw y l := rfl
    have ky1 := DM hy l
    have hpw : pw y l = if l = [] then y else y.want [44] := rfl
    generalize pf (pw y l) l = z at *
    generalize z.name.1 = x at *
    generalize z.name.2 = z2 at *
    generalize z2.typ.1 = t at *
    generalize z2.typ.2 = q at *
    generalize pw y l = y1 at *
    have cnx := gV ky1
    have cfl := nK ky1 22
    simp only [aB] at cnx cnm
    have cw := d_ hy [44]
    by_cases h0 : l = []
    ·subst h0
     rw [if_pos rfl] at hpw
     subst hpw
     simp only [List.nil_append] at hrun
     by_cases a0 : y1.why = 0
     ·have hu0 := a0
      have KF2 := And.intro KF1 (a0)
      by_cases a1 : y1.next.kind = 0
      ·by_cases a2 : y1.lA ≤ 0
       ·rw [if_pos ⟨a0, a1, by simpa using a2⟩] at hpf
        subst hpf
        simp -implicitDefEqProofs (maxDischargeDepth := 80) [lb92_0, hl, hi, neC hi, neA, ltA, aC, aB, aA, KF2]
        refine aD ((ci) (by simp -implicitDefEqProofs (maxDischargeDepth := 80) [hl, hi, neC hi, neA, ltA, aC, aB, aA, KF2]) (by omega) (fun m2 hm2 => ?_))
        have im2 : id < m2 := by omega
        have Km2 := nfc KF2 hm2
        simp -implicitDefEqProofs (maxDischargeDepth := 80) [hl, hi, neC hi, neA, ltA, aC, aB, aA, Km2, a0]
        refine aD ((cnx) (by simp -implicitDefEqProofs (maxDischargeDepth := 80) [hl, hi, neC hi, neA, ltA, aC, aB, aA, Km2]) (by omega) (fun m4 hm4 => ?_))
        have im4 : id < m4 := by omega
        have Km4 := nfc Km2 hm4
        simp -implicitDefEqProofs (maxDischargeDepth := 80) [hl, hi, neC hi, neA, ltA, aC, aB, aA, Km4, a1, a2]
        refine aD ((cfl) (by simp -implicitDefEqProofs (maxDischargeDepth := 80) [hl, hi, neC hi, neA, ltA, aC, aB, aA, Km4]) (by omega) (fun m5 hm5 => ?_))
        have im5 : id < m5 := by omega
        have Km5 := nfc Km4 hm5
        simp -implicitDefEqProofs (maxDischargeDepth := 80) [hl, hi, neC hi, neA, ltA, aC, aB, aA, Km5]
        refine aD ((cnm) (by simp -implicitDefEqProofs (maxDischargeDepth := 80) [hl, hi, neC hi, neA, ltA, aC, aB, aA, Km5]) (by omega) (fun m7 hm7 => ?_))
        have im7 : id < m7 := by omega
        have Km7 := nfc Km5 hm7
        simp -implicitDefEqProofs (maxDischargeDepth := 80) [hl, hi, neC hi, neA, ltA, aC, aB, aA, Km7]
        refine aD ((cty) (by simp -implicitDefEqProofs (maxDischargeDepth := 80) [hl, hi, neC hi, neA, ltA, aC, aB, aA, Km7]) (by omega) (fun m8 hm8 => ?_))
        have im8 : id < m8 := by omega
        have Km8 := nfc Km7 hm8
        simp -implicitDefEqProofs (maxDischargeDepth := 80) [hl, hi, neC hi, neA, ltA, aC, aB, aA, Km8]
        refine aI (f, [⟨x.text, t, x.at'⟩], q) ⟨by omega, by simp only [List.length_append, List.length_cons, List.length_nil] at hf ⊢; omega, kq, hrun⟩ (by simp only; omega) (by simp) ?_
        simp only [em_1, bG, List.length_cons, List.length_nil, Nat.zero_add]
        exact (by repeat (first | exact aK _ | refine aN ?_ (by simp only [look]; repeat (first | rw [if_neg (by omega)] | exact aH (hfr _ (by omega)) | exact hfr _ (by omega)))))
       ·rw [if_neg (fun h => a2 (by simpa using h.2.2))] at hpf
        subst hpf
        simp -implicitDefEqProofs (maxDischargeDepth := 80) [lb92_0, hl, hi, neC hi, neA, ltA, aC, aB, aA, KF2]
        refine aD ((ci) (by simp -implicitDefEqProofs (maxDischargeDepth := 80) [hl, hi, neC hi, neA, ltA, aC, aB, aA, KF2]) (by omega) (fun m2 hm2 => ?_))
        have im2 : id < m2 := by omega
        have Km2 := nfc KF2 hm2
        simp -implicitDefEqProofs (maxDischargeDepth := 80) [hl, hi, neC hi, neA, ltA, aC, aB, aA, Km2, a0]
        refine aD ((cnx) (by simp -implicitDefEqProofs (maxDischargeDepth := 80) [hl, hi, neC hi, neA, ltA, aC, aB, aA, Km2]) (by omega) (fun m4 hm4 => ?_))
        have im4 : id < m4 := by omega
        have Km4 := nfc Km2 hm4
        simp -implicitDefEqProofs (maxDischargeDepth := 80) [hl, hi, neC hi, neA, ltA, aC, aB, aA, Km4, a1, a2]
        refine aD ((cnm) (by simp -implicitDefEqProofs (maxDischargeDepth := 80) [hl, hi, neC hi, neA, ltA, aC, aB, aA, Km4]) (by omega) (fun m7 hm7 => ?_))
        have im7 : id < m7 := by omega
        have Km7 := nfc Km4 hm7
        simp -implicitDefEqProofs (maxDischargeDepth := 80) [hl, hi, neC hi, neA, ltA, aC, aB, aA, Km7]
        refine aD ((cty) (by simp -implicitDefEqProofs (maxDischargeDepth := 80) [hl, hi, neC hi, neA, ltA, aC, aB, aA, Km7]) (by omega) (fun m8 hm8 => ?_))
        have im8 : id < m8 := by omega
        have Km8 := nfc Km7 hm8
        simp -implicitDefEqProofs (maxDischargeDepth := 80) [hl, hi, neC hi, neA, ltA, aC, aB, aA, Km8]
        refine aI (f, [⟨x.text, t, x.at'⟩], q) ⟨by omega, by simp only [List.length_append, List.length_cons, List.length_nil] at hf ⊢; omega, kq, hrun⟩ (by simp only; omega) (by simp) ?_
        simp only [em_1, bG, List.length_cons, List.length_nil, Nat.zero_add]
        exact (by repeat (first | exact aK _ | refine aN ?_ (by simp only [look]; repeat (first | rw [if_neg (by omega)] | exact aH (hfr _ (by omega)) | exact hfr _ (by omega)))))
      ·rw [if_neg (fun h => a1 h.2.1)] at hpf
       subst hpf
       simp -implicitDefEqProofs (maxDischargeDepth := 80) [lb92_0, hl, hi, neC hi, neA, ltA, aC, aB, aA, KF2]
       refine aD ((ci) (by simp -implicitDefEqProofs (maxDischargeDepth := 80) [hl, hi, neC hi, neA, ltA, aC, aB, aA, KF2]) (by omega) (fun m2 hm2 => ?_))
       have im2 : id < m2 := by omega
       have Km2 := nfc KF2 hm2
       simp -implicitDefEqProofs (maxDischargeDepth := 80) [hl, hi, neC hi, neA, ltA, aC, aB, aA, Km2, a0]
       refine aD ((cnx) (by simp -implicitDefEqProofs (maxDischargeDepth := 80) [hl, hi, neC hi, neA, ltA, aC, aB, aA, Km2]) (by omega) (fun m4 hm4 => ?_))
       have im4 : id < m4 := by omega
       have Km4 := nfc Km2 hm4
       simp -implicitDefEqProofs (maxDischargeDepth := 80) [hl, hi, neC hi, neA, ltA, aC, aB, aA, Km4, a1]
       refine aD ((cnm) (by simp -implicitDefEqProofs (maxDischargeDepth := 80) [hl, hi, neC hi, neA, ltA, aC, aB, aA, Km4]) (by omega) (fun m7 hm7 => ?_))
       have im7 : id < m7 := by omega
       have Km7 := nfc Km4 hm7
       simp -implicitDefEqProofs (maxDischargeDepth := 80) [hl, hi, neC hi, neA, ltA, aC, aB, aA, Km7]
       refine aD ((cty) (by simp -implicitDefEqProofs (maxDischargeDepth := 80) [hl, hi, neC hi, neA, ltA, aC, aB, aA, Km7]) (by omega) (fun m8 hm8 => ?_))
       have im8 : id < m8 := by omega
       have Km8 := nfc Km7 hm8
       simp -implicitDefEqProofs (maxDischargeDepth := 80) [hl, hi, neC hi, neA, ltA, aC, aB, aA, Km8]
       refine aI (f, [⟨x.text, t, x.at'⟩], q) ⟨by omega, by simp only [List.length_append, List.length_cons, List.length_nil] at hf ⊢; omega, kq, hrun⟩ (by simp only; omega) (by simp) ?_
       simp only [em_1, bG, List.length_cons, List.length_nil, Nat.zero_add]
       exact (by repeat (first | exact aK _ | refine aN ?_ (by simp only [look]; repeat (first | rw [if_neg (by omega)] | exact aH (hfr _ (by omega)) | exact hfr _ (by omega)))))
     ·exact absurd g1 a0
    ·rw [if_neg h0] at hpw
     have hpos := List.length_pos_iff.2 h0
     rw [← hpw] at cw
     by_cases a0 : y1.why = 0
     ·have hu0 := a0
      have KF3 := And.intro KF1 (a0)
      by_cases a1 : y1.next.kind = 0
      ·by_cases a2 : y1.lA ≤ (l.length : Int)
       ·rw [if_pos ⟨a0, a1, a2⟩] at hpf
        subst hpf
        simp -implicitDefEqProofs (maxDischargeDepth := 80) [lb92_0, hl, hi, neC hi, neA, ltA, aC, aB, aA, KF3]
        refine aD ((ci) (by simp -implicitDefEqProofs (maxDischargeDepth := 80) [hl, hi, neC hi, neA, ltA, aC, aB, aA, KF3]) (by omega) (fun m2 hm2 => ?_))
        have im2 : id < m2 := by omega
        have Km2 := nfc KF3 hm2
        simp -implicitDefEqProofs (maxDischargeDepth := 80) [hl, hi, neC hi, neA, ltA, aC, aB, aA, Km2, hpos]
        refine aD ((cw) (by simp -implicitDefEqProofs (maxDischargeDepth := 80) [hl, hi, neC hi, neA, ltA, aC, aB, aA, Km2]) (by omega) (fun m3 hm3 => ?_))
        have im3 : id < m3 := by omega
        have Km3 := nfc Km2 hm3
        simp -implicitDefEqProofs (maxDischargeDepth := 80) [hl, hi, neC hi, neA, ltA, aC, aB, aA, Km3, a0]
        refine aD ((cnx) (by simp -implicitDefEqProofs (maxDischargeDepth := 80) [hl, hi, neC hi, neA, ltA, aC, aB, aA, Km3]) (by omega) (fun m4 hm4 => ?_))
        have im4 : id < m4 := by omega
        have Km4 := nfc Km3 hm4
        simp -implicitDefEqProofs (maxDischargeDepth := 80) [hl, hi, neC hi, neA, ltA, aC, aB, aA, Km4, a1, a2]
        refine aD ((cfl) (by simp -implicitDefEqProofs (maxDischargeDepth := 80) [hl, hi, neC hi, neA, ltA, aC, aB, aA, Km4]) (by omega) (fun m5 hm5 => ?_))
        have im5 : id < m5 := by omega
        have Km5 := nfc Km4 hm5
        simp -implicitDefEqProofs (maxDischargeDepth := 80) [hl, hi, neC hi, neA, ltA, aC, aB, aA, Km5]
        refine aD ((cnm) (by simp -implicitDefEqProofs (maxDischargeDepth := 80) [hl, hi, neC hi, neA, ltA, aC, aB, aA, Km5]) (by omega) (fun m7 hm7 => ?_))
        have im7 : id < m7 := by omega
        have Km7 := nfc Km5 hm7
        simp -implicitDefEqProofs (maxDischargeDepth := 80) [hl, hi, neC hi, neA, ltA, aC, aB, aA, Km7]
        refine aD ((cty) (by simp -implicitDefEqProofs (maxDischargeDepth := 80) [hl, hi, neC hi, neA, ltA, aC, aB, aA, Km7]) (by omega) (fun m8 hm8 => ?_))
        have im8 : id < m8 := by omega
        have Km8 := nfc Km7 hm8
        simp -implicitDefEqProofs (maxDischargeDepth := 80) [hl, hi, neC hi, neA, ltA, aC, aB, aA, Km8]
        have hap := o4 l ⟨x.text, t, x.at'⟩
        refine ⟨by omega, aI (f, l ++ [⟨x.text, t, x.at'⟩], q) ⟨by omega, by simp only [List.length_append, List.length_cons, List.length_nil]; omega, kq, hrun⟩ (by simp only; omega) (by simp) ?_⟩
        simp only [] at hap
        rw [hap]
        simp only [List.length_append, List.length_cons, List.length_nil, Nat.zero_add]
        exact (by repeat (first | exact aK _ | refine aN ?_ (by simp only [look]; repeat (first | rw [if_neg (by omega)] | exact aH (hfr _ (by omega)) | exact hfr _ (by omega)))))
       ·rw [if_neg (fun h => a2 (by simpa using h.2.2))] at hpf
        subst hpf
        simp -implicitDefEqProofs (maxDischargeDepth := 80) [lb92_0, hl, hi, neC hi, neA, ltA, aC, aB, aA, KF3]
        refine aD ((ci) (by simp -implicitDefEqProofs (maxDischargeDepth := 80) [hl, hi, neC hi, neA, ltA, aC, aB, aA, KF3]) (by omega) (fun m2 hm2 => ?_))
        have im2 : id < m2 := by omega
        have Km2 := nfc KF3 hm2
        simp -implicitDefEqProofs (maxDischargeDepth := 80) [hl, hi, neC hi, neA, ltA, aC, aB, aA, Km2, hpos]
        refine aD ((cw) (by simp -implicitDefEqProofs (maxDischargeDepth := 80) [hl, hi, neC hi, neA, ltA, aC, aB, aA, Km2]) (by omega) (fun m3 hm3 => ?_))
        have im3 : id < m3 := by omega
        have Km3 := nfc Km2 hm3
        simp -implicitDefEqProofs (maxDischargeDepth := 80) [hl, hi, neC hi, neA, ltA, aC, aB, aA, Km3, a0]
        refine aD ((cnx) (by simp -implicitDefEqProofs (maxDischargeDepth := 80) [hl, hi, neC hi, neA, ltA, aC, aB, aA, Km3]) (by omega) (fun m4 hm4 => ?_))
        have im4 : id < m4 := by omega
        have Km4 := nfc Km3 hm4
        simp -implicitDefEqProofs (maxDischargeDepth := 80) [hl, hi, neC hi, neA, ltA, aC, aB, aA, Km4, a1, a2]
        refine aD ((cnm) (by simp -implicitDefEqProofs (maxDischargeDepth := 80) [hl, hi, neC hi, neA, ltA, aC, aB, aA, Km4]) (by omega) (fun m7 hm7 => ?_))
        have im7 : id < m7 := by omega
        have Km7 := nfc Km4 hm7
        simp -implicitDefEqProofs (maxDischargeDepth := 80) [hl, hi, neC hi, neA, ltA, aC, aB, aA, Km7]
        refine aD ((cty) (by simp -implicitDefEqProofs (maxDischargeDepth := 80) [hl, hi, neC hi, neA, ltA, aC, aB, aA, Km7]) (by omega) (fun m8 hm8 => ?_))
        have im8 : id < m8 := by omega
        have Km8 := nfc Km7 hm8
        simp -implicitDefEqProofs (maxDischargeDepth := 80) [hl, hi, neC hi, neA, ltA, aC, aB, aA, Km8]
        have hap := o4 l ⟨x.text, t, x.at'⟩
        refine ⟨by omega, aI (f, l ++ [⟨x.text, t, x.at'⟩], q) ⟨by omega, by simp only [List.length_append, List.length_cons, List.length_nil]; omega, kq, hrun⟩ (by simp only; omega) (by simp) ?_⟩
        simp only [] at hap
        rw [hap]
        simp only [List.length_append, List.length_cons, List.length_nil, Nat.zero_add]
        exact (by repeat (first | exact aK _ | refine aN ?_ (by simp only [look]; repeat (first | rw [if_neg (by omega)] | exact aH (hfr _ (by omega)) | exact hfr _ (by omega)))))
      ·rw [if_neg (fun h => a1 h.2.1)] at hpf
       subst hpf
       simp -implicitDefEqProofs (maxDischargeDepth := 80) [lb92_0, hl, hi, neC hi, neA, ltA, aC, aB, aA, KF3]
       refine aD ((ci) (by simp -implicitDefEqProofs (maxDischargeDepth := 80) [hl, hi, neC hi, neA, ltA, aC, aB, aA, KF3]) (by omega) (fun m2 hm2 => ?_))
       have im2 : id < m2 := by omega
       have Km2 := nfc KF3 hm2
       simp -implicitDefEqProofs (maxDischargeDepth := 80) [hl, hi, neC hi, neA, ltA, aC, aB, aA, Km2, hpos]
       refine aD ((cw) (by simp -implicitDefEqProofs (maxDischargeDepth := 80) [hl, hi, neC hi, neA, ltA, aC, aB, aA, Km2]) (by omega) (fun m3 hm3 => ?_))
       have im3 : id < m3 := by omega
       have Km3 := nfc Km2 hm3
       simp -implicitDefEqProofs (maxDischargeDepth := 80) [hl, hi, neC hi, neA, ltA, aC, aB, aA, Km3, a0]
       refine aD ((cnx) (by simp -implicitDefEqProofs (maxDischargeDepth := 80) [hl, hi, neC hi, neA, ltA, aC, aB, aA, Km3]) (by omega) (fun m4 hm4 => ?_))
       have im4 : id < m4 := by omega
       have Km4 := nfc Km3 hm4
       simp -implicitDefEqProofs (maxDischargeDepth := 80) [hl, hi, neC hi, neA, ltA, aC, aB, aA, Km4, a1]
       refine aD ((cnm) (by simp -implicitDefEqProofs (maxDischargeDepth := 80) [hl, hi, neC hi, neA, ltA, aC, aB, aA, Km4]) (by omega) (fun m7 hm7 => ?_))
       have im7 : id < m7 := by omega
       have Km7 := nfc Km4 hm7
       simp -implicitDefEqProofs (maxDischargeDepth := 80) [hl, hi, neC hi, neA, ltA, aC, aB, aA, Km7]
       refine aD ((cty) (by simp -implicitDefEqProofs (maxDischargeDepth := 80) [hl, hi, neC hi, neA, ltA, aC, aB, aA, Km7]) (by omega) (fun m8 hm8 => ?_))
       have im8 : id < m8 := by omega
       have Km8 := nfc Km7 hm8
       simp -implicitDefEqProofs (maxDischargeDepth := 80) [hl, hi, neC hi, neA, ltA, aC, aB, aA, Km8]
       have hap := o4 l ⟨x.text, t, x.at'⟩
       refine ⟨by omega, aI (f, l ++ [⟨x.text, t, x.at'⟩], q) ⟨by omega, by simp only [List.length_append, List.length_cons, List.length_nil]; omega, kq, hrun⟩ (by simp only; omega) (by simp) ?_⟩
       simp only [] at hap
       rw [hap]
       simp only [List.length_append, List.length_cons, List.length_nil, Nat.zero_add]
       exact (by repeat (first | exact aK _ | refine aN ?_ (by simp only [look]; repeat (first | rw [if_neg (by omega)] | exact aH (hfr _ (by omega)) | exact hfr _ (by omega)))))
     ·rw [if_neg (fun h => a0 h.1)] at hpf
      subst hpf
      simp -implicitDefEqProofs (maxDischargeDepth := 80) [lb92_0, hl, hi, neC hi, neA, ltA, aC, aB, aA, KF1]
      refine aD ((ci) (by simp -implicitDefEqProofs (maxDischargeDepth := 80) [hl, hi, neC hi, neA, ltA, aC, aB, aA, KF1]) (by omega) (fun m2 hm2 => ?_))
      have im2 : id < m2 := by omega
      have Km2 := nfc KF1 hm2
      simp -implicitDefEqProofs (maxDischargeDepth := 80) [hl, hi, neC hi, neA, ltA, aC, aB, aA, Km2, hpos]
      refine aD ((cw) (by simp -implicitDefEqProofs (maxDischargeDepth := 80) [hl, hi, neC hi, neA, ltA, aC, aB, aA, Km2]) (by omega) (fun m3 hm3 => ?_))
      have im3 : id < m3 := by omega
      have Km3 := nfc Km2 hm3
      simp -implicitDefEqProofs (maxDischargeDepth := 80) [hl, hi, neC hi, neA, ltA, aC, aB, aA, Km3, a0]
      refine aD ((cnm) (by simp -implicitDefEqProofs (maxDischargeDepth := 80) [hl, hi, neC hi, neA, ltA, aC, aB, aA, Km3]) (by omega) (fun m7 hm7 => ?_))
      have im7 : id < m7 := by omega
      have Km7 := nfc Km3 hm7
      simp -implicitDefEqProofs (maxDischargeDepth := 80) [hl, hi, neC hi, neA, ltA, aC, aB, aA, Km7]
      refine aD ((cty) (by simp -implicitDefEqProofs (maxDischargeDepth := 80) [hl, hi, neC hi, neA, ltA, aC, aB, aA, Km7]) (by omega) (fun m8 hm8 => ?_))
      have im8 : id < m8 := by omega
      have Km8 := nfc Km7 hm8
      simp -implicitDefEqProofs (maxDischargeDepth := 80) [hl, hi, neC hi, neA, ltA, aC, aB, aA, Km8]
      have hap := o4 l ⟨x.text, t, x.at'⟩
      refine ⟨by omega, aI (f, l ++ [⟨x.text, t, x.at'⟩], q) ⟨by omega, by simp only [List.length_append, List.length_cons, List.length_nil]; omega, kq, hrun⟩ (by simp only; omega) (by simp) ?_⟩
      simp only [] at hap
      rw [hap]
      simp only [List.length_append, List.length_cons, List.length_nil, Nat.zero_add]
      exact (by repeat (first | exact aK _ | refine aN ?_ (by simp only [look]; repeat (first | rw [if_neg (by omega)] | exact aH (hfr _ (by omega)) | exact hfr _ (by omega)))))
   ·rw [if_neg (by simp [hi2])] at hrun
    simp only [Option.some.injEq, Prod.mk.injEq] at hrun
    obtain ⟨rfl, rfl⟩ := hrun
    simp [aC, aB, g1] at hq
    simp -implicitDefEqProofs (maxDischargeDepth := 80) [lb92_0, hl, hi, neC hi, neA, ltA, aC, aB, aA, KF1]
    refine aD ((ci) (by simp -implicitDefEqProofs (maxDischargeDepth := 80) [hl, hi, neC hi, neA, ltA, aC, aB, aA, KF1]) (by omega) (fun m2 hm2 => ?_))
    have im2 : id < m2 := by omega
    have Km2 := nfc KF1 hm2
    simp -implicitDefEqProofs (maxDischargeDepth := 80) [hl, hi, neC hi, neA, ltA, aC, aB, aA, Km2]
    exact hq _ (by omega)
  ·rw [if_neg (by simp [g1])] at hrun
   simp only [Option.some.injEq, Prod.mk.injEq] at hrun
   obtain ⟨rfl, rfl⟩ := hrun
   simp [aC, aB] at hq
   simp -implicitDefEqProofs (maxDischargeDepth := 80) [lb92_0, hl, hi, neC hi, neA, ltA, aC, aB, aA, K7, g1]
   exact hq _ (by omega)
theorem def_s {n : Nat} (hN : n ≤ 2 ^ 40) (r : Rd) (h : r.ok) (cnt : Nat) (f : Fn) (r' : Rd) (hrun : kH n r cnt = some (f, r')) :
  r'.ok ∧ RC 92 [I cnt] r r' (.agg (aY f)) := by
 unfold kH at hrun
 have kdf := ok_df h cnt
 have cdf : RC0 91 [] r (.agg (aB r.next)) := gV h
 have cff := nK h 22
 have w1 := o9 kdf
 have k1 := Rd.ok_name kdf
 have w2 := d_ k1 [40]
 have k2 := Rd.ok_want k1 [40]
 have hdf : df r cnt = if r.next.kind = 0 ∧ r.lF ≤ (cnt : Int) then r.fail 22 else r := rfl
 generalize df r cnt = s0 at *
 generalize s0.name.1 = nm at *
 generalize s0.name.2 = s1 at *
 generalize s1.want [40] = s2 at *
 cases hp : dY n [] s2 with
 | none => rw [hp] at hrun; simp at hrun
 | some q =>
  obtain ⟨ps, r4⟩ := q
  rw [hp] at hrun
  simp only [Option.bind_some, Option.map_eq_some_iff, Prod.mk.injEq] at hrun
  obtain ⟨⟨body, r9⟩, hb, rfl, rfl⟩ := hrun
  have k4 := uL n [] s2 ps r4 k2 hp
  have w3 := d_ k4 [41]
  have k5 := Rd.ok_want k4 [41]
  have w4 := d_ k5 [58]
  have k6 := Rd.ok_want k5 [58]
  have w5 := uE k6
  have k7 := Rd.ok_typ k6
  have w6 := d_ k7 [61]
  have k8 := Rd.ok_want k7 [61]
  generalize r4.want [41] = s5 at *
  generalize s5.want [58] = s6 at *
  generalize s6.typ.1 = ty at *
  generalize s6.typ.2 = s7 at *
  generalize s7.want [61] = s8 at *
  obtain ⟨k9, _, w7⟩ := F5 hN k8 hb
  have w8 := d_ k9 [59]
  have k10 := Rd.ok_want k9 [59]
  generalize r9.want [59] = s10 at *
  refine ⟨k10, ?_⟩
  intro id mem nx K hl hi hk
  simp only [aR] at hk
  simp only [aA] at w7
  simp only [aB] at w1 cdf
  refine bK ?_
  refine fi92.ct (by simp) fun hfr => ?_
  by_cases g0 : r.next.kind = 0
  ·by_cases g1 : r.lF ≤ (cnt : Int)
   ·rw [if_pos ⟨g0, g1⟩] at hdf
    subst hdf
    simp -implicitDefEqProofs (maxDischargeDepth := 80) [ac92, hl, hi, neC hi, neA, ltA, aC, aB, aA]
    refine aD ((cdf) (by simp -implicitDefEqProofs (maxDischargeDepth := 80) [hl, hi, neC hi, neA, ltA, aC, aB, aA]) (by omega) (fun m1 hm1 => ?_))
    have im1 : id < m1 := by omega
    have Km1 := nfc trivial hm1
    simp -implicitDefEqProofs (maxDischargeDepth := 80) [hl, hi, neC hi, neA, ltA, aC, aB, aA, Km1, g0, g1]
    refine aD ((cff) (by simp -implicitDefEqProofs (maxDischargeDepth := 80) [hl, hi, neC hi, neA, ltA, aC, aB, aA, Km1]) (by omega) (fun m2 hm2 => ?_))
    have im2 : id < m2 := by omega
    have Km2 := nfc Km1 hm2
    simp -implicitDefEqProofs (maxDischargeDepth := 80) [hl, hi, neC hi, neA, ltA, aC, aB, aA, Km2]
    refine aD ((w1) (by simp -implicitDefEqProofs (maxDischargeDepth := 80) [hl, hi, neC hi, neA, ltA, aC, aB, aA, Km2]) (by omega) (fun m3 hm3 => ?_))
    have im3 : id < m3 := by omega
    have Km3 := nfc Km2 hm3
    simp -implicitDefEqProofs (maxDischargeDepth := 80) [hl, hi, neC hi, neA, ltA, aC, aB, aA, Km3]
    refine aD ((w2) (by simp -implicitDefEqProofs (maxDischargeDepth := 80) [hl, hi, neC hi, neA, ltA, aC, aB, aA, Km3]) (by omega) (fun m4 hm4 => ?_))
    have im4 : id < m4 := by omega
    have Km4 := nfc Km3 hm4
    simp -implicitDefEqProofs (maxDischargeDepth := 80) [hl, hi, neC hi, neA, ltA, aC, aB, aA, Km4]
    refine oP (b5 := m2 + 2) (b6 := m3 + 5) (M := m4) (nm := nm) (mem := mem) hN hl hi (by omega) (by omega) (by omega) hfr k2 hp _ (fun m hm => ?_)
    have Km := nfc Km4 hm
    simp -implicitDefEqProofs (maxDischargeDepth := 80) [hl, hi, neC hi, neA, ltA, aC, aB, aA, Km]
    refine aD ((w3) (by simp -implicitDefEqProofs (maxDischargeDepth := 80) [hl, hi, neC hi, neA, ltA, aC, aB, aA, Km]) (by omega) (fun m5 hm5 => ?_))
    have im5 : id < m5 := by omega
    have Km5 := nfc Km hm5
    simp -implicitDefEqProofs (maxDischargeDepth := 80) [hl, hi, neC hi, neA, ltA, aC, aB, aA, Km5]
    refine aD ((w4) (by simp -implicitDefEqProofs (maxDischargeDepth := 80) [hl, hi, neC hi, neA, ltA, aC, aB, aA, Km5]) (by omega) (fun m6 hm6 => ?_))
    have im6 : id < m6 := by omega
    have Km6 := nfc Km5 hm6
    simp -implicitDefEqProofs (maxDischargeDepth := 80) [hl, hi, neC hi, neA, ltA, aC, aB, aA, Km6]
    refine aD ((w5) (by simp -implicitDefEqProofs (maxDischargeDepth := 80) [hl, hi, neC hi, neA, ltA, aC, aB, aA, Km6]) (by omega) (fun m7 hm7 => ?_))
    have im7 : id < m7 := by omega
    have Km7 := nfc Km6 hm7
    simp -implicitDefEqProofs (maxDischargeDepth := 80) [hl, hi, neC hi, neA, ltA, aC, aB, aA, Km7]
    refine aD ((w6) (by simp -implicitDefEqProofs (maxDischargeDepth := 80) [hl, hi, neC hi, neA, ltA, aC, aB, aA, Km7]) (by omega) (fun m8 hm8 => ?_))
    have im8 : id < m8 := by omega
    have Km8 := nfc Km7 hm8
    simp -implicitDefEqProofs (maxDischargeDepth := 80) [hl, hi, neC hi, neA, ltA, aC, aB, aA, Km8]
    refine aD ((w7) (by simp -implicitDefEqProofs (maxDischargeDepth := 80) [hl, hi, neC hi, neA, ltA, aC, aB, aA, Km8]) (by omega) (fun m9 hm9 => ?_))
    have im9 : id < m9 := by omega
    have Km9 := nfc Km8 hm9
    simp -implicitDefEqProofs (maxDischargeDepth := 80) [hl, hi, neC hi, neA, ltA, aC, aB, aA, Km9]
    refine aD ((w8) (by simp -implicitDefEqProofs (maxDischargeDepth := 80) [hl, hi, neC hi, neA, ltA, aC, aB, aA, Km9]) (by omega) (fun m10 hm10 => ?_))
    have im10 : id < m10 := by omega
    have Km10 := nfc Km9 hm10
    simp -implicitDefEqProofs (maxDischargeDepth := 80) [hl, hi, neC hi, neA, ltA, aC, aB, aA, Km10]
    exact nZ m4 _ (by simp -implicitDefEqProofs (maxDischargeDepth := 80) [hl, hi, neC hi, neA, ltA, aC, aB, aA, Km10]; rfl) (by repeat (first | exact aF _ | refine aE ?_ (aH (hfr _ (by omega))) | refine aE ?_ (hfr _ (by omega)))) (aH (hfr _ (by omega))) (by simp [frz, look, List.take_of_length_le]) (hk _ (by omega))
   ·rw [if_neg (fun h => g1 h.2)] at hdf
    subst hdf
    simp -implicitDefEqProofs (maxDischargeDepth := 80) [ac92, hl, hi, neC hi, neA, ltA, aC, aB, aA]
    refine aD ((cdf) (by simp -implicitDefEqProofs (maxDischargeDepth := 80) [hl, hi, neC hi, neA, ltA, aC, aB, aA]) (by omega) (fun m1 hm1 => ?_))
    have im1 : id < m1 := by omega
    have Km1 := nfc trivial hm1
    simp -implicitDefEqProofs (maxDischargeDepth := 80) [hl, hi, neC hi, neA, ltA, aC, aB, aA, Km1, g0, g1]
    refine aD ((w1) (by simp -implicitDefEqProofs (maxDischargeDepth := 80) [hl, hi, neC hi, neA, ltA, aC, aB, aA, Km1]) (by omega) (fun m3 hm3 => ?_))
    have im3 : id < m3 := by omega
    have Km3 := nfc Km1 hm3
    simp -implicitDefEqProofs (maxDischargeDepth := 80) [hl, hi, neC hi, neA, ltA, aC, aB, aA, Km3]
    refine aD ((w2) (by simp -implicitDefEqProofs (maxDischargeDepth := 80) [hl, hi, neC hi, neA, ltA, aC, aB, aA, Km3]) (by omega) (fun m4 hm4 => ?_))
    have im4 : id < m4 := by omega
    have Km4 := nfc Km3 hm4
    simp -implicitDefEqProofs (maxDischargeDepth := 80) [hl, hi, neC hi, neA, ltA, aC, aB, aA, Km4]
    refine oP (b5 := m1 + 2) (b6 := m3 + 5) (M := m4) (nm := nm) (mem := mem) hN hl hi (by omega) (by omega) (by omega) hfr k2 hp _ (fun m hm => ?_)
    have Km := nfc Km4 hm
    simp -implicitDefEqProofs (maxDischargeDepth := 80) [hl, hi, neC hi, neA, ltA, aC, aB, aA, Km]
    refine aD ((w3) (by simp -implicitDefEqProofs (maxDischargeDepth := 80) [hl, hi, neC hi, neA, ltA, aC, aB, aA, Km]) (by omega) (fun m5 hm5 => ?_))
    have im5 : id < m5 := by omega
    have Km5 := nfc Km hm5
    simp -implicitDefEqProofs (maxDischargeDepth := 80) [hl, hi, neC hi, neA, ltA, aC, aB, aA, Km5]
    refine aD ((w4) (by simp -implicitDefEqProofs (maxDischargeDepth := 80) [hl, hi, neC hi, neA, ltA, aC, aB, aA, Km5]) (by omega) (fun m6 hm6 => ?_))
    have im6 : id < m6 := by omega
    have Km6 := nfc Km5 hm6
    simp -implicitDefEqProofs (maxDischargeDepth := 80) [hl, hi, neC hi, neA, ltA, aC, aB, aA, Km6]
    refine aD ((w5) (by simp -implicitDefEqProofs (maxDischargeDepth := 80) [hl, hi, neC hi, neA, ltA, aC, aB, aA, Km6]) (by omega) (fun m7 hm7 => ?_))
    have im7 : id < m7 := by omega
    have Km7 := nfc Km6 hm7
    simp -implicitDefEqProofs (maxDischargeDepth := 80) [hl, hi, neC hi, neA, ltA, aC, aB, aA, Km7]
    refine aD ((w6) (by simp -implicitDefEqProofs (maxDischargeDepth := 80) [hl, hi, neC hi, neA, ltA, aC, aB, aA, Km7]) (by omega) (fun m8 hm8 => ?_))
    have im8 : id < m8 := by omega
    have Km8 := nfc Km7 hm8
    simp -implicitDefEqProofs (maxDischargeDepth := 80) [hl, hi, neC hi, neA, ltA, aC, aB, aA, Km8]
    refine aD ((w7) (by simp -implicitDefEqProofs (maxDischargeDepth := 80) [hl, hi, neC hi, neA, ltA, aC, aB, aA, Km8]) (by omega) (fun m9 hm9 => ?_))
    have im9 : id < m9 := by omega
    have Km9 := nfc Km8 hm9
    simp -implicitDefEqProofs (maxDischargeDepth := 80) [hl, hi, neC hi, neA, ltA, aC, aB, aA, Km9]
    refine aD ((w8) (by simp -implicitDefEqProofs (maxDischargeDepth := 80) [hl, hi, neC hi, neA, ltA, aC, aB, aA, Km9]) (by omega) (fun m10 hm10 => ?_))
    have im10 : id < m10 := by omega
    have Km10 := nfc Km9 hm10
    simp -implicitDefEqProofs (maxDischargeDepth := 80) [hl, hi, neC hi, neA, ltA, aC, aB, aA, Km10]
    exact nZ m4 _ (by simp -implicitDefEqProofs (maxDischargeDepth := 80) [hl, hi, neC hi, neA, ltA, aC, aB, aA, Km10]; rfl) (by repeat (first | exact aF _ | refine aE ?_ (aH (hfr _ (by omega))) | refine aE ?_ (hfr _ (by omega)))) (aH (hfr _ (by omega))) (by simp [frz, look, List.take_of_length_le]) (hk _ (by omega))
  ·rw [if_neg (fun h => g0 h.1)] at hdf
   subst hdf
   simp -implicitDefEqProofs (maxDischargeDepth := 80) [ac92, hl, hi, neC hi, neA, ltA, aC, aB, aA]
   refine aD ((cdf) (by simp -implicitDefEqProofs (maxDischargeDepth := 80) [hl, hi, neC hi, neA, ltA, aC, aB, aA]) (by omega) (fun m1 hm1 => ?_))
   have im1 : id < m1 := by omega
   have Km1 := nfc trivial hm1
   simp -implicitDefEqProofs (maxDischargeDepth := 80) [hl, hi, neC hi, neA, ltA, aC, aB, aA, Km1, g0]
   refine aD ((w1) (by simp -implicitDefEqProofs (maxDischargeDepth := 80) [hl, hi, neC hi, neA, ltA, aC, aB, aA, Km1]) (by omega) (fun m3 hm3 => ?_))
   have im3 : id < m3 := by omega
   have Km3 := nfc Km1 hm3
   simp -implicitDefEqProofs (maxDischargeDepth := 80) [hl, hi, neC hi, neA, ltA, aC, aB, aA, Km3]
   refine aD ((w2) (by simp -implicitDefEqProofs (maxDischargeDepth := 80) [hl, hi, neC hi, neA, ltA, aC, aB, aA, Km3]) (by omega) (fun m4 hm4 => ?_))
   have im4 : id < m4 := by omega
   have Km4 := nfc Km3 hm4
   simp -implicitDefEqProofs (maxDischargeDepth := 80) [hl, hi, neC hi, neA, ltA, aC, aB, aA, Km4]
   refine oP (b5 := m1 + 2) (b6 := m3 + 5) (M := m4) (nm := nm) (mem := mem) hN hl hi (by omega) (by omega) (by omega) hfr k2 hp _ (fun m hm => ?_)
   have Km := nfc Km4 hm
   simp -implicitDefEqProofs (maxDischargeDepth := 80) [hl, hi, neC hi, neA, ltA, aC, aB, aA, Km]
   refine aD ((w3) (by simp -implicitDefEqProofs (maxDischargeDepth := 80) [hl, hi, neC hi, neA, ltA, aC, aB, aA, Km]) (by omega) (fun m5 hm5 => ?_))
   have im5 : id < m5 := by omega
   have Km5 := nfc Km hm5
   simp -implicitDefEqProofs (maxDischargeDepth := 80) [hl, hi, neC hi, neA, ltA, aC, aB, aA, Km5]
   refine aD ((w4) (by simp -implicitDefEqProofs (maxDischargeDepth := 80) [hl, hi, neC hi, neA, ltA, aC, aB, aA, Km5]) (by omega) (fun m6 hm6 => ?_))
   have im6 : id < m6 := by omega
   have Km6 := nfc Km5 hm6
   simp -implicitDefEqProofs (maxDischargeDepth := 80) [hl, hi, neC hi, neA, ltA, aC, aB, aA, Km6]
   refine aD ((w5) (by simp -implicitDefEqProofs (maxDischargeDepth := 80) [hl, hi, neC hi, neA, ltA, aC, aB, aA, Km6]) (by omega) (fun m7 hm7 => ?_))
   have im7 : id < m7 := by omega
   have Km7 := nfc Km6 hm7
   simp -implicitDefEqProofs (maxDischargeDepth := 80) [hl, hi, neC hi, neA, ltA, aC, aB, aA, Km7]
   refine aD ((w6) (by simp -implicitDefEqProofs (maxDischargeDepth := 80) [hl, hi, neC hi, neA, ltA, aC, aB, aA, Km7]) (by omega) (fun m8 hm8 => ?_))
   have im8 : id < m8 := by omega
   have Km8 := nfc Km7 hm8
   simp -implicitDefEqProofs (maxDischargeDepth := 80) [hl, hi, neC hi, neA, ltA, aC, aB, aA, Km8]
   refine aD ((w7) (by simp -implicitDefEqProofs (maxDischargeDepth := 80) [hl, hi, neC hi, neA, ltA, aC, aB, aA, Km8]) (by omega) (fun m9 hm9 => ?_))
   have im9 : id < m9 := by omega
   have Km9 := nfc Km8 hm9
   simp -implicitDefEqProofs (maxDischargeDepth := 80) [hl, hi, neC hi, neA, ltA, aC, aB, aA, Km9]
   refine aD ((w8) (by simp -implicitDefEqProofs (maxDischargeDepth := 80) [hl, hi, neC hi, neA, ltA, aC, aB, aA, Km9]) (by omega) (fun m10 hm10 => ?_))
   have im10 : id < m10 := by omega
   have Km10 := nfc Km9 hm10
   simp -implicitDefEqProofs (maxDischargeDepth := 80) [hl, hi, neC hi, neA, ltA, aC, aB, aA, Km10]
   exact nZ m4 _ (by simp -implicitDefEqProofs (maxDischargeDepth := 80) [hl, hi, neC hi, neA, ltA, aC, aB, aA, Km10]; rfl) (by repeat (first | exact aF _ | refine aE ?_ (aH (hfr _ (by omega))) | refine aE ?_ (hfr _ (by omega)))) (aH (hfr _ (by omega))) (by simp [frz, look, List.take_of_length_le]) (hk _ (by omega))
theorem EJ {n : Nat} (hN : n ≤ 2 ^ 40) (r : Rd) (h : r.ok) (L : List Fn) (r' : Rd) (hp : eP n [] r = some (L, r')) : RC 62 [] r r' (.agg [.sl (em aY L)]) := by
 intro id mem nx K hl hi hk
 refine bK ?_
 refine fi62.ct (by simp) fun hfr => ?_
 simp -implicitDefEqProofs (maxDischargeDepth := 80) [ac62, hl, hi, neC hi, neA, ltA, aC, aB, aA]
 refine oM (id := nx + 1) (off := 0) (k := 11) (by rw [a8, if_pos rfl]) rfl (.inl rfl) ?_
 refine lpG cf62 lb62_0 [4] (α := Nat × List Fn × Rd) (fun _ _ => []) (fun s _ => (nx + 1 + 1, .arr s.2.1.length 11 (em aY s.2.1)) :: (nx + 1, .box [.osl (nx + 1 + 1) s.2.1.length 0 s.2.1.length]) :: (nx, .box [.pl (.slice none 0 0)]) :: upd mem id (.box (aC s.2.2)))
  (fun s m => nx + 1 + 2 ≤ m ∧ s.1 + s.2.1.length ≤ n ∧ s.2.2.ok ∧ eP s.1 s.2.1 s.2.2 = some (L, r')) (fun s => s.1) (n, [], r) ⟨by omega, by simp, h, hp⟩ (by simp) (by simp [cQ hl]) ?_
 rintro ⟨f, l, y⟩ m ⟨hm, hf, hy, hrun⟩
 have Km := nfc trivial hm
 simp only at hf hy hrun
 cases f with
 | zero => simp [eP] at hrun
 | succ f =>
  unfold eP at hrun
  have cnx := gV hy
  simp only [aB] at cnx
  have go : (y.why = 0 ∧ (l = [] ∨ y.next.kind ≠ 4)) → ∃ d q, kH f y l.length = some (d, q) ∧ eP f (l ++ [d]) q = some (L, r') ∧ q.ok ∧ RC 92 [I l.length] y q (.agg (aY d)) := fun hc => by
   rw [if_pos hc] at hrun
   cases hd : kH f y l.length with
   | none => rw [hd] at hrun; simp at hrun
   | some p =>
    rw [hd] at hrun
    obtain ⟨k1, k2⟩ := def_s (by omega) y hy _ p.1 p.2 hd
    exact ⟨p.1, p.2, rfl, hrun, k1, k2⟩
  have stop : ¬ (y.why = 0 ∧ (l = [] ∨ y.next.kind ≠ 4)) → l = L ∧ y = r' := fun hc => by
   rw [if_neg hc] at hrun
   simpa using hrun
  by_cases g1 : y.why = 0
  ·have hu := g1
   have KF1 := And.intro Km (g1)
   by_cases h0 : l = []
   ·obtain ⟨d, q, _, hrun2, kq, cd⟩ := go ⟨g1, .inl h0⟩
    subst h0
    have hap := GS [] d
    simp only [aR, List.length_nil] at cd
    simp -implicitDefEqProofs (maxDischargeDepth := 80) [lb62_0, hl, hi, neC hi, neA, ltA, aC, aB, aA, KF1]
    refine aD ((cd) (by simp -implicitDefEqProofs (maxDischargeDepth := 80) [hl, hi, neC hi, neA, ltA, aC, aB, aA, KF1]) (by omega) (fun m2 hm2 => ?_))
    have im2 : id < m2 := by omega
    have Km2 := nfc KF1 hm2
    simp -implicitDefEqProofs (maxDischargeDepth := 80) [hl, hi, neC hi, neA, ltA, aC, aB, aA, Km2]
    refine aI (f, [d], q) ⟨by omega, by simp only [List.length_nil, List.length_cons] at hf ⊢; omega, kq, hrun2⟩ (by simp only; omega) (by simp) ?_
    simp only [em_1, aR, List.length_cons, List.length_nil, Nat.zero_add]
    exact (by repeat (first | exact aK _ | refine aN ?_ (by simp only [look]; repeat (first | rw [if_neg (by omega)] | exact aH (hfr _ (by omega)) | exact hfr _ (by omega)))))
   ·have hpos := List.length_pos_iff.2 h0
    by_cases g2 : y.next.kind = 4
    ·obtain ⟨rfl, rfl⟩ := stop (by simp [h0, g2])
     simp only [aC, g1] at hk
     simp -implicitDefEqProofs (maxDischargeDepth := 80) [lb62_0, hl, hi, neC hi, neA, ltA, aC, aB, aA, KF1, h0]
     refine aD ((cnx) (by simp -implicitDefEqProofs (maxDischargeDepth := 80) [hl, hi, neC hi, neA, ltA, aC, aB, aA, KF1]) (by omega) (fun m2 hm2 => ?_))
     have im2 : id < m2 := by omega
     have Km2 := nfc KF1 hm2
     simp -implicitDefEqProofs (maxDischargeDepth := 80) [hl, hi, neC hi, neA, ltA, aC, aB, aA, Km2, g2]
     exact nZ (nx + 1 + 1) _ (by simp -implicitDefEqProofs (maxDischargeDepth := 80) [hl, hi, neC hi, neA, ltA, aC, aB, aA, Km2]; rfl) (by repeat (first | exact aF _ | refine aE ?_ (aH (hfr _ (by omega))) | refine aE ?_ (hfr _ (by omega)))) (aH (hfr _ (by omega))) (by simp [frz, look, List.take_of_length_le]) (hk _ (by omega))
    ·obtain ⟨d, q, _, hrun2, kq, cd⟩ := go ⟨g1, .inr g2⟩
     have hap := GS l d
     simp only [aR] at cd
     rw [aR d] at hap
     simp -implicitDefEqProofs (maxDischargeDepth := 80) [lb62_0, hl, hi, neC hi, neA, ltA, aC, aB, aA, KF1, h0]
     refine aD ((cnx) (by simp -implicitDefEqProofs (maxDischargeDepth := 80) [hl, hi, neC hi, neA, ltA, aC, aB, aA, KF1]) (by omega) (fun m2 hm2 => ?_))
     have im2 : id < m2 := by omega
     have Km2 := nfc KF1 hm2
     simp -implicitDefEqProofs (maxDischargeDepth := 80) [hl, hi, neC hi, neA, ltA, aC, aB, aA, Km2, g2]
     refine aD ((cd) (by simp -implicitDefEqProofs (maxDischargeDepth := 80) [hl, hi, neC hi, neA, ltA, aC, aB, aA, Km2]) (by omega) (fun m3 hm3 => ?_))
     have im3 : id < m3 := by omega
     have Km3 := nfc Km2 hm3
     simp -implicitDefEqProofs (maxDischargeDepth := 80) [hl, hi, neC hi, neA, ltA, aC, aB, aA, Km3]
     refine ⟨by omega, aI (f, l ++ [d], q) ⟨by omega, by simp only [List.length_append, List.length_cons, List.length_nil]; omega, kq, hrun2⟩ (by simp only; omega) (by simp) ?_⟩
     rw [hap]
     simp only [List.length_append, List.length_cons, List.length_nil, Nat.zero_add]
     exact (by repeat (first | exact aK _ | refine aN ?_ (by simp only [look]; repeat (first | rw [if_neg (by omega)] | exact aH (hfr _ (by omega)) | exact hfr _ (by omega)))))
  ·obtain ⟨rfl, rfl⟩ := stop (by simp [g1])
   simp -implicitDefEqProofs (maxDischargeDepth := 80) [lb62_0, hl, hi, neC hi, neA, ltA, aC, aB, aA, Km, g1]
   exact nZ (nx + 1 + 1) _ (by simp -implicitDefEqProofs (maxDischargeDepth := 80) [hl, hi, neC hi, neA, ltA, aC, aB, aA, Km]; rfl) (by repeat (first | exact aF _ | refine aE ?_ (aH (hfr _ (by omega))) | refine aE ?_ (hfr _ (by omega)))) (aH (hfr _ (by omega))) (by simp [frz, look, List.take_of_length_le]) (hk _ (by omega))
def rd0 (t : List UInt8) (lt lF lA lN : Int) : Rd := ⟨(dN t).1, 0, 0, 0, lt, lF, lA, lN, 0⟩
abbrev limD (a b c d : Int) : D := .agg [I a, I b, I c, I d]
abbrev resD (l : List Fn) (w p : Int) : D := .tup [.agg [.sl (em aY l)], .agg [I w, I p]]
theorem wide_c : Pure Tryz.prog 30 [] (limD 32768 32768 32768 32768) := by
 refine fi30.pu (by simp) ?_
 simp -implicitDefEqProofs [ac30]
theorem BG {t : List UInt8} {lt lF lA lN : Int} (ht : t.length ≤ 2 ^ 20) (hm : (dN t).2 < 0) (hN : lN ≤ 2 ^ 40) : (rd0 t lt lF lA lN).ok := by
 have h := oC (t.length + 1) t 0 [] hm
 have hl := mK (t.length + 1) t 0 [] (by omega) (by simp)
 exact ⟨h, h.1, by show (dN t).1.length ≤ 2 ^ 21; unfold dN; omega, by show (0 : Int) ≤ 0; omega, by show (0 : Int) ≤ 2 ^ 40; omega, hN⟩
theorem mm32 : min (max (32768 : Int) 0) 32768 = 32768 := by decide
theorem F6 (t : List UInt8) (ht : t.length < 2 ^ 48) (h : 32768 < t.length) : Pure Tryz.prog 29 [.sl (em dM t), limD 32768 32768 32768 32768] (resD [] 22 32768) := by
 refine fi29.pu (by simp) ?_
 have h1 : (32768 : Int) < t.length := by omega
 simp -implicitDefEqProofs [ac29, mm32, h1]
theorem E2 (t : List UInt8) (ht : t.length ≤ 32768) (hm : ¬ (dN t).2 < 0) : Pure Tryz.prog 29 [.sl (em dM t), limD 32768 32768 32768 32768] (resD [] 20 (dN t).2) := by
 refine fi29.pu (by simp) ?_
 have h1 : ¬ (32768 : Int) < t.length := by omega
 have h2 : (0 : Int) ≤ (dN t).2 := by omega
 have hc := CI t (by omega)
 simp -implicitDefEqProofs [ac29, mm32, h1]
 refine aG (hc) (by simp) ?_
 simp -implicitDefEqProofs [h2]
theorem AG (t : List UInt8) (ht : t.length ≤ 32768) (hm : (dN t).2 < 0) {n : Nat} (hN : n ≤ 2 ^ 40) {L : List Fn} {r : Rd} (hp : eP n [] (rd0 t 32768 32768 32768 32768) = some (L, r)) :
  Pure Tryz.prog 29 [.sl (em dM t), limD 32768 32768 32768 32768] (if r.why = 0 then resD L 0 0 else resD [] r.why r.wh) := by
 have h1 : ¬ (32768 : Int) < t.length := by omega
 have h2 : ¬ (0 : Int) ≤ (dN t).2 := by omega
 have hc := CI t (by omega)
 have hpr := EJ hN _ (BG (by omega) hm (by omega)) L r hp
 refine fi29.pu (by simp) ?_
 simp -implicitDefEqProofs [ac29, mm32, h1]
 refine aG (hc) (by simp) ?_
 simp -implicitDefEqProofs [h2]
 refine aD (hpr (by simp [look, aC, rd0]) (by omega) (fun m1 hm1 => ?_))
 by_cases hw : r.why = 0
 ·simp -implicitDefEqProofs [hw, aC]
 ·simp -implicitDefEqProofs [hw, aC]
def rem (r : Rd) : Nat := if r.why = 0 then r.ms.length - r.at' else 0
theorem nH {r : Rd} (h : r.why ≠ 0) : rem r = 0 := by unfold rem; rw [if_neg h]
theorem mZ {r : Rd} (h : r.ok) (h0 : r.why = 0) : 1 ≤ rem r := by
 have := h.lt
 unfold rem; rw [if_pos h0]; omega
theorem mX {r : Rd} (h : r.ok) (h0 : r.why = 0) : rem r.adv + 1 = rem r := by
 have := h.lt
 simp [rem, h0]; omega
theorem gN {r : Rd} {w : Int} (hw : w ≠ 0) : (r.fail w).why ≠ 0 := by
 unfold Rd.fail
 split
 ·exact hw
 ·assumption
theorem H8 {r : Rd} {w : Int} (hw : w ≠ 0) : rem (r.fail w) = 0 := nH (gN hw)
def Down (r q : Rd) : Prop := q.ok ∧ rem q ≤ rem r ∧ (q.why = 0 → rem q < rem r)
theorem iC {r : Rd} (h : r.ok) {w : Int} (hw : w ≠ 0) : Down r (r.fail w) := ⟨Rd.ok_fail h _, by rw [H8 hw]; omega, fun g => absurd g (gN hw)⟩
theorem m_ {r : Rd} (h : r.ok) (h0 : r.why = 0) (h4 : r.next.kind ≠ 4) : Down r r.adv := by
 have := mX h h0
 exact ⟨Rd.ok_adv h h4, by omega, fun _ => by omega⟩
theorem fD {r : Rd} (h : r.ok) {s : List UInt8} (hs : r.is s = true) : Down r r.adv := m_ h (Rd.is_kind hs).1 (Rd.is_4 hs)
theorem cK {r : Rd} (h : r.ok) (s : List UInt8) : Down r (r.want s) := by
 unfold Rd.want
 cases hs : r.is s
 ·exact iC h (by decide)
 ·exact fD h hs
theorem iD {r : Rd} (h : r.ok) : Down r r.name.2 := by
 unfold Rd.name
 cases hb : r.bad
 ·unfold Rd.bad at hb
  simp at hb
  exact m_ h hb.1 (by omega)
 ·exact iC h (by decide)
theorem qF {r : Rd} (h : r.ok) : Down r r.typ.2 := by
 unfold Rd.typ
 cases h1 : r.is [78]
 ·cases h2 : r.is [66]
  ·cases h3 : r.is [76]
   ·exact iC h (by decide)
   ·exact fD h h3
  ·exact fD h h2
 ·exact fD h h1
theorem Down.trans {r q s : Rd} (h : Down r q) (k : Down q s) : Down r s := ⟨k.1, by have := h.2.1; have := k.2.1; omega, fun g => by have := k.2.2 g; have := h.2.1; omega⟩
def Le (r q : Rd) : Prop := q.ok ∧ rem q ≤ rem r
theorem Down.le {r q : Rd} (h : Down r q) : Le r q := ⟨h.1, h.2.1⟩
theorem Le.refl {r : Rd} (h : r.ok) : Le r r := ⟨h, Nat.le_refl _⟩
theorem Down.after {r q s : Rd} (h : Down r q) (k : Le q s) : Down r s := ⟨k.1, by have := h.2.1; have := k.2; omega, fun g => by
 by_cases hq : q.why = 0
 ·have := h.2.2 hq; have := k.2; omega
 ·have := nH hq; have := k.2; have := mZ k.1 g; omega⟩
theorem Le.trans {r q s : Rd} (h : Le r q) (k : Le q s) : Le r s := ⟨k.1, by have := h.2; have := k.2; omega⟩
def mG (run : PR) (r : Rd) : Prop := ∃ e q, run = some (e, q) ∧ Down r q
def qU {α : Type} (run : Option (α × Rd)) (r : Rd) : Prop := ∃ e q, run = some (e, q) ∧ Le r q
theorem AU {N : Nat} (h1 : ∀ k, k < N → ∀ r, r.ok → 20 * rem r + 4 ≤ k → mG (eF k r) r) : ∀ n a (r : Rd), n ≤ N → r.ok → 20 * rem r + 1 ≤ n → qU (h9 n a r) r := by
 intro n
 induction n with
 | zero => intro a r _ _ h; omega
 | succ n ih =>
  intro a r hn h hf
  unfold h9
  split
  ·rename_i hs
   have d : Down r r.adv := by
    rcases Bool.or_eq_true_iff.1 hs with g | g
    ·exact fD h g
    ·exact fD h g
   have g0 : r.why = 0 := by
    rcases Bool.or_eq_true_iff.1 hs with g | g
    ·exact (Rd.is_kind g).1
    ·exact (Rd.is_kind g).1
   have ra := mX h g0
   obtain ⟨b, q, hq, dq⟩ := h1 n (by omega) r.adv d.1 (by omega)
   rw [hq]
   have := dq.2.1
   obtain ⟨e, s, hs2, ds⟩ := ih (two (if r.next.text = [45] then 9 else 8) a b r.next) q (by omega) dq.1 (by omega)
   exact ⟨e, s, hs2, (d.trans dq).le.trans ds⟩
  ·exact ⟨a, r, rfl, Le.refl h⟩
theorem xE {N : Nat} (h1 : ∀ k, k < N → ∀ r, r.ok → 20 * rem r + 3 ≤ k → mG (eD k r) r) : ∀ n a (r : Rd), n ≤ N → r.ok → 20 * rem r + 1 ≤ n → qU (fO n a r) r := by
 intro n
 induction n with
 | zero => intro a r _ _ h; omega
 | succ n ih =>
  intro a r hn h hf
  unfold fO
  split
  ·rename_i hs
   have d : Down r r.adv := by
    rcases Bool.or_eq_true_iff.1 hs with g | g
    ·exact fD h g
    ·exact fD h g
   have g0 : r.why = 0 := by
    rcases Bool.or_eq_true_iff.1 hs with g | g
    ·exact (Rd.is_kind g).1
    ·exact (Rd.is_kind g).1
   have ra := mX h g0
   obtain ⟨b, q, hq, dq⟩ := h1 n (by omega) r.adv d.1 (by omega)
   rw [hq]
   have := dq.2.1
   obtain ⟨e, s, hs2, ds⟩ := ih (two (if r.next.text = [47] then 11 else 10) a b r.next) q (by omega) dq.1 (by omega)
   exact ⟨e, s, hs2, (d.trans dq).le.trans ds⟩
  ·exact ⟨a, r, rfl, Le.refl h⟩
theorem D1 {N : Nat} (h1 : ∀ k, k < N → ∀ r, r.ok → 20 * rem r + 8 ≤ k → mG (bM k r) r) : ∀ n l (r : Rd), n ≤ N → r.ok → 20 * rem r + 9 ≤ n → qU (e_ n l r) r := by
 intro n
 induction n with
 | zero => intro a r _ _ h; omega
 | succ n ih =>
  intro l r hn h hf
  unfold e_
  split
  ·rename_i hs
   have rp := mZ h hs.1
   have d : Le r (if l = [] then r else r.want [44]) := by
    split
    ·exact Le.refl h
    ·exact (cK h _).le
   generalize (if l = [] then r else r.want [44]) = r1 at *
   have := d.2
   obtain ⟨b, q, hq, dq⟩ := h1 n (by omega) r1 d.1 (by omega)
   rw [hq]
   have hb : 20 * rem q + 9 ≤ n := by
    by_cases g : q.why = 0
    ·have := dq.2.2 g; omega
    ·have := nH g; omega
   obtain ⟨e, s, hs2, ds⟩ := ih (l ++ [b]) q (by omega) dq.1 hb
   exact ⟨e, s, hs2, d.trans (dq.le.trans ds)⟩
  ·exact ⟨l, r, rfl, Le.refl h⟩
theorem xD {N : Nat} (h1 : ∀ k, k < N → ∀ r, r.ok → 20 * rem r + 8 ≤ k → mG (bM k r) r) : ∀ ss n (r : Rd), n ≤ N → r.ok → 20 * rem r + 9 + ss.length ≤ n → qU (cL n ss r) r := by
 intro ss
 induction ss with
 | nil =>
  intro n r hn h hf
  obtain ⟨m, rfl⟩ : ∃ m, n = m + 1 := ⟨n - 1, by omega⟩
  exact ⟨[], r, by simp [cL], Le.refl h⟩
 | cons s ss ih =>
  intro n r hn h hf
  obtain ⟨m, rfl⟩ : ∃ m, n = m + 1 := ⟨n - 1, by omega⟩
  simp only [List.length_cons] at hf
  unfold cL
  have d : Le r (if s = [] then r else r.want s) := by
   split
   ·exact Le.refl h
   ·exact (cK h _).le
  generalize (if s = [] then r else r.want s) = r1 at *
  have := d.2
  obtain ⟨b, q, hq, dq⟩ := h1 m (by omega) r1 d.1 (by omega)
  rw [hq]
  have := dq.2.1
  obtain ⟨e, t, ht, dt⟩ := ih m q (by omega) dq.1 (by omega)
  simp only [Option.bind_some, ht, Option.map_some]
  exact ⟨b :: e, t, rfl, d.trans (dq.le.trans dt)⟩
theorem AF {N : Nat} (h1 : ∀ k, k < N → ∀ r, r.ok → 20 * rem r + 8 ≤ k → mG (bM k r) r) (n : Nat) (r : Rd) (p : Int) (hn : n ≤ N) (h : r.ok) (hf : 20 * rem r + 9 ≤ n) : qU (eJ n r p) r := by
 obtain ⟨m, rfl⟩ : ∃ m, n = m + 1 := ⟨n - 1, by omega⟩
 unfold eJ
 obtain ⟨x, r1, hx, d1⟩ := h1 m (by omega) r h (by omega)
 rw [hx]
 simp only [Option.bind_some]
 have d2 := cK d1.1 [111, 102]
 have d3 := cK d2.1 [110, 105, 108]
 have d4 := cK d3.1 [45, 62]
 have D := ((d1.trans d2).trans d3).trans d4
 generalize ((r1.want [111, 102]).want [110, 105, 108]).want [45, 62] = s at *
 have := D.2.1
 obtain ⟨a, r2, ha, d5⟩ := h1 m (by omega) s D.1 (by omega)
 rw [ha]
 simp only [Option.bind_some]
 have e1 := cK d5.1 [124]
 have e2 := iD e1.1
 have e3 := cK e2.1 [58]
 have e4 := iD e3.1
 have e5 := cK e4.1 [45, 62]
 have E := (((((D.trans d5).trans e1).trans e2).trans e3).trans e4).trans e5
 have := E.2.1
 obtain ⟨b, r3, hb, d6⟩ := h1 m (by omega) _ E.1 (by omega)
 rw [hb]
 exact ⟨_, r3, rfl, (E.trans d6).le⟩
structure Ends (n : Nat) (r : Rd) : Prop where
 expr : 20 * rem r + 8 ≤ n → mG (bM n r) r
 cons : 20 * rem r + 7 ≤ n → mG (iP n r) r
 comp : 20 * rem r + 6 ≤ n → mG (iZ n r) r
 sum : 20 * rem r + 5 ≤ n → mG (j0 n r) r
 term : 20 * rem r + 4 ≤ n → mG (eF n r) r
 unit : 20 * rem r + 3 ≤ n → mG (eD n r) r
 named : ∀ m, 20 * rem r + 12 ≤ n → qU (iE n m r) r
theorem IY : ∀ n, n ≤ 2 ^ 40 → ∀ (r : Rd), r.ok → Ends n r := by
 intro n
 induction n using Nat.strongRecOn with
 | _ n ih =>
  intro hn r h
  replace ih : ∀ m, m < n → ∀ r, r.ok → Ends m r := fun m hm => ih m hm (by omega)
  cases n with
  | zero => refine ⟨?_, ?_, ?_, ?_, ?_, ?_, ?_⟩ <;> (intros; omega)
  | succ n =>
   have he : ∀ k, k < n → ∀ r, r.ok → 20 * rem r + 8 ≤ k → mG (bM k r) r := fun k hk r h => (ih k (by omega) r h).expr
   refine ⟨fun hf => ?_, fun hf => ?_, fun hf => ?_, fun hf => ?_, fun hf => ?_, fun hf => ?_, fun m hf => ?_⟩
   ·suffices main : ∃ e q, bM (n + 1) r = some (e, q) ∧ rem q ≤ rem r ∧ (q.why = 0 → rem q < rem r) by
     obtain ⟨e, q, hq, g1, g2⟩ := main
     exact ⟨e, q, hq, (F5 hn h hq).1, g1, g2⟩
    unfold bM
    simp only
    by_cases c1 : (binds r && decide (r.lN ≤ r.nest)) = true
    ·rw [c1]
     simp only [if_true]
     rw [if_pos (gN (by decide))]
     exact ⟨ex0, _, rfl, (iC h (by decide)).2⟩
    ·simp only [Bool.not_eq_true] at c1
     rw [c1]
     simp only [Bool.false_eq_true, if_false]
     by_cases c2 : r.why = 0
     ·rw [if_neg (by simp [c2])]
      have rp := mZ h c2
      by_cases c3 : binds r = false ∧ r.is [105, 102] = false
      ·rw [if_pos c3]
       obtain ⟨e, q, hq, dq⟩ := (ih n (by omega) r h).cons (by omega)
       exact ⟨e, q, hq, dq.2⟩
      ·rw [if_neg c3]
       have h4 : r.next.kind ≠ 4 := by
        cases hb : binds r
        ·cases hi : r.is [105, 102]
         ·exact absurd ⟨hb, hi⟩ c3
         ·exact Rd.is_4 hi
        ·unfold binds at hb
         simp only [Bool.or_eq_true] at hb
         rcases hb with g | g | g
         ·exact Rd.is_4 g
         ·exact Rd.is_4 g
         ·exact Rd.is_4 g
       obtain ⟨r2, hr2⟩ : ∃ r2, r2 = (if binds r then { r with nest := r.nest + 1 } else r).adv := ⟨_, rfl⟩
       have h2 : r2.ok ∧ rem r2 + 1 = rem r := by
        have ra := mX h c2
        have ka := Rd.ok_adv h h4
        cases hb : binds r
        ·rw [hb] at hr2
         simp only [Bool.false_eq_true, if_false] at hr2
         rw [hr2]; exact ⟨ka, ra⟩
        ·rw [hb] at hr2 c1
         simp only [if_true, Bool.true_and, decide_eq_false_iff_not] at hr2 c1
         rw [hr2]
         have := h.n0
         have := h.l1
         exact ⟨⟨ka.ms, ka.lt, ka.len, by show 0 ≤ r.nest + 1; omega, by show r.nest + 1 ≤ 2 ^ 40; omega, ka.l1⟩, ra⟩
       rw [← hr2]
       have last : ∀ (res : PR), qU res r2 → ∃ e q, (res.map fun (e, q) => (e, if binds r then { q with nest := q.nest - 1 } else q)) = some (e, q) ∧ rem q ≤ rem r ∧ (q.why = 0 → rem q < rem r) := fun res hres => by
        obtain ⟨e, q, hq, dq⟩ := hres
        rw [hq]
        have h3 := dq.2
        have h4 := h2.2
        cases hb : binds r
        ·exact ⟨e, q, rfl, by omega, fun _ => by omega⟩
        ·refine ⟨e, _, rfl, ?_, fun _ => ?_⟩
         ·show rem q ≤ rem r
          omega
         ·show rem q < rem r
          omega
       apply last
       split
       ·obtain ⟨l, q, hl, dl⟩ := xD (N := n) he [[], [116, 104, 101, 110], [101, 108, 115, 101]] n r2 (Nat.le_refl _) h2.1 (by simp only [List.length_cons, List.length_nil]; omega)
        rw [hl]
        exact ⟨_, q, rfl, dl⟩
       ·split
        ·exact AF he n r2 _ (Nat.le_refl _) h2.1 (by omega)
        ·have d1 := iD h2.1
         have d2 := qF d1.1
         have D := d1.trans d2
         have := D.2.1
         obtain ⟨l, q, hl, dl⟩ := xD (N := n) he [[61], [105, 110]] n r2.name.2.typ.2 (Nat.le_refl _) D.1 (by simp only [List.length_cons, List.length_nil]; omega)
         rw [hl]
         exact ⟨_, q, rfl, D.le.trans dl⟩
     ·rw [if_pos c2]
      exact ⟨ex0, r, rfl, Nat.le_refl _, fun g => absurd g c2⟩
   ·unfold iP
    obtain ⟨a, r1, ha, d1⟩ := (ih n (by omega) r h).comp (by omega)
    rw [ha]
    simp only [Option.bind_some]
    cases hs : r1.is [58]
    ·exact ⟨a, r1, rfl, d1⟩
    ·have d2 := fD d1.1 hs
     have ra := mX d1.1 (Rd.is_kind hs).1
     have := d1.2.1
     obtain ⟨b, r2, hb, d3⟩ := (ih n (by omega) r1.adv d2.1).cons (by omega)
     rw [if_pos rfl, hb]
     exact ⟨_, r2, rfl, (d1.trans d2).trans d3⟩
   ·unfold iZ
    obtain ⟨a, r1, ha, d1⟩ := (ih n (by omega) r h).sum (by omega)
    rw [ha]
    simp only [Option.bind_some]
    cases hs : (r1.is [61, 61] || r1.is [60])
    ·exact ⟨a, r1, rfl, d1⟩
    ·have d2 : Down r1 r1.adv := by
      rcases Bool.or_eq_true_iff.1 hs with g | g
      ·exact fD d1.1 g
      ·exact fD d1.1 g
     have := d1.2.1
     have := d2.2.1
     obtain ⟨b, r2, hb, d3⟩ := (ih n (by omega) r1.adv d2.1).sum (by omega)
     rw [if_pos rfl, hb]
     exact ⟨_, r2, rfl, (d1.trans d2).trans d3⟩
   ·unfold j0
    obtain ⟨a, r1, ha, d1⟩ := (ih n (by omega) r h).term (by omega)
    rw [ha]
    simp only [Option.bind_some]
    by_cases g : r1.why = 0
    ·have := d1.2.2 g
     obtain ⟨e, q, hq, dq⟩ := AU (N := n) (fun k hk r h => (ih k (by omega) r h).term) n a r1 (Nat.le_refl _) d1.1 (by omega)
     exact ⟨e, q, hq, d1.after dq⟩
    ·have := nH g
     obtain ⟨e, q, hq, dq⟩ := AU (N := n) (fun k hk r h => (ih k (by omega) r h).term) n a r1 (Nat.le_refl _) d1.1 (by omega)
     exact ⟨e, q, hq, d1.after dq⟩
   ·unfold eF
    obtain ⟨a, r1, ha, d1⟩ := (ih n (by omega) r h).unit (by omega)
    rw [ha]
    simp only [Option.bind_some]
    by_cases g : r1.why = 0
    ·have := d1.2.2 g
     obtain ⟨e, q, hq, dq⟩ := xE (N := n) (fun k hk r h => (ih k (by omega) r h).unit) n a r1 (Nat.le_refl _) d1.1 (by omega)
     exact ⟨e, q, hq, d1.after dq⟩
    ·have := nH g
     obtain ⟨e, q, hq, dq⟩ := xE (N := n) (fun k hk r h => (ih k (by omega) r h).unit) n a r1 (Nat.le_refl _) d1.1 (by omega)
     exact ⟨e, q, hq, d1.after dq⟩
   ·unfold eD
    by_cases g1 : r.why = 0
    ·rw [if_neg (by simp [g1])]
     have rp := mZ h g1
     have ra := mX h g1
     by_cases g2 : r.next.kind = 2
     ·rw [if_pos g2]; exact ⟨_, _, rfl, m_ h g1 (by omega)⟩
     ·rw [if_neg g2]
      by_cases g3 : r.next.kind = 0
      ·rw [if_pos g3]
       have d := m_ h g1 (by omega)
       obtain ⟨e, q, hq, dq⟩ := (ih n (by omega) r.adv d.1).named r.next (by omega)
       exact ⟨e, q, hq, d.after dq⟩
      ·rw [if_neg g3]
       cases g4 : r.is [40]
       ·rw [if_neg (by decide)]
        by_cases g5 : ¬ r.next.kind = 1 ∨ b_ r.next.text = 0
        ·rw [if_pos g5]; exact ⟨_, _, rfl, iC h (by decide)⟩
        ·rw [if_neg g5]
         have k1 : r.next.kind = 1 := by
          by_cases k : r.next.kind = 1
          ·exact k
          ·exact absurd (.inl k) g5
         have d := m_ h g1 (by omega)
         by_cases g6 : b_ r.next.text = 5
         ·rw [if_pos g6]; exact ⟨_, _, rfl, d.trans (qF d.1)⟩
         ·rw [if_neg g6]
          by_cases g7 : 14 ≤ b_ r.next.text
          ·rw [if_pos g7]
           have d2 := cK d.1 [40]
           have := d2.2.1
           obtain ⟨x, q, hx, dx⟩ := (ih n (by omega) _ d2.1).expr (by omega)
           rw [hx]
           exact ⟨_, _, rfl, ((d.trans d2).trans dx).trans (cK dx.1 _)⟩
          ·rw [if_neg g7]; exact ⟨_, _, rfl, d⟩
       ·rw [if_pos rfl]
        have d := fD h g4
        obtain ⟨x, q, hx, dx⟩ := (ih n (by omega) r.adv d.1).expr (by omega)
        rw [hx]
        exact ⟨_, _, rfl, (d.trans dx).trans (cK dx.1 _)⟩
    ·rw [if_pos g1]
     exact ⟨ex0, r, rfl, h, Nat.le_refl _, fun g => absurd g g1⟩
   ·unfold iE
    cases hs : r.is [40]
    ·exact ⟨_, r, rfl, Le.refl h⟩
    ·rw [if_pos rfl]
     have d := fD h hs
     have := d.2.1
     obtain ⟨l, q, hl, dl⟩ := D1 (N := n) he n [] r.adv (Nat.le_refl _) d.1 (by omega)
     rw [hl]
     exact ⟨_, _, rfl, (d.le.trans dl).trans (cK dl.1 _).le⟩
theorem DU : ∀ n l (r : Rd), r.ok → rem r + 1 ≤ n → qU (dY n l r) r := by
 intro n
 induction n with
 | zero => intro l r _ h; omega
 | succ n ih =>
  intro l r h hf
  unfold dY
  split
  ·rename_i hs
   have rp := mZ h hs.1
   have d1 : Le r (pw r l) := by
    unfold pw; split
    ·exact Le.refl h
    ·exact (cK h _).le
   have d2 : Le (pw r l) (pf (pw r l) l) := by
    unfold pf; split
    ·exact (iC d1.1 (by decide)).le
    ·exact Le.refl d1.1
   have d3 := (d1.trans d2)
   have d4 := (iD d3.1).trans (qF (iD d3.1).1)
   have := d3.2
   have hb : rem (pf (pw r l) l).name.2.typ.2 + 1 ≤ n := by
    by_cases g : (pf (pw r l) l).name.2.typ.2.why = 0
    ·have := d4.2.2 g; omega
    ·have := nH g; omega
   obtain ⟨e, q, hq, dq⟩ := ih _ _ d4.1 hb
   exact ⟨e, q, hq, d3.trans (d4.le.trans dq)⟩
  ·exact ⟨l, r, rfl, Le.refl h⟩
theorem MP {n : Nat} (hn : n ≤ 2 ^ 40) (r : Rd) (h : r.ok) (c : Nat) (hf : 20 * rem r + 8 ≤ n) : ∃ f q, kH n r c = some (f, q) ∧ Down r q := by
 unfold kH
 have d0 : Le r (df r c) := by
  unfold df; split
  ·exact (iC h (by decide)).le
  ·exact Le.refl h
 have d1 := (iD d0.1).trans (cK (iD d0.1).1 [40])
 generalize (df r c).name.2.want [40] = s at *
 have := d0.2
 have := d1.2.1
 obtain ⟨ps, r4, hp, d2⟩ := DU n [] s d1.1 (by omega)
 rw [hp]
 simp only [Option.bind_some]
 have D : Down r r4 := ⟨d2.1, by have := d2.2; omega, fun g => by
  have a := (d1.after d2).2.2 g
  omega⟩
 have e1 := cK D.1 [41]
 have e2 := cK e1.1 [58]
 have e3 := qF e2.1
 have e4 := cK e3.1 [61]
 have E := (((D.trans e1).trans e2).trans e3).trans e4
 have := E.2.1
 obtain ⟨b, r9, hb, d3⟩ := (IY n hn _ E.1).expr (by omega)
 rw [hb]
 exact ⟨_, _, rfl, (E.trans d3).trans (cK d3.1 _)⟩
theorem IG : ∀ n l (r : Rd), n ≤ 2 ^ 40 → r.ok → 20 * rem r + 9 ≤ n → qU (eP n l r) r := by
 intro n
 induction n with
 | zero => intro l r _ _ h; omega
 | succ n ih =>
  intro l r hn h hf
  unfold eP
  split
  ·rename_i hs
   have rp := mZ h hs.1
   obtain ⟨f, q, hq, dq⟩ := MP (n := n) (by omega) r h l.length (by omega)
   rw [hq]
   have hb : 20 * rem q + 9 ≤ n := by
    by_cases g : q.why = 0
    ·have := dq.2.2 g; omega
    ·have := nH g; omega
   obtain ⟨e, s, hs2, ds⟩ := ih (l ++ [f]) q (by omega) dq.1 hb
   exact ⟨e, s, hs2, dq.le.trans ds⟩
  ·exact ⟨l, r, rfl, Le.refl h⟩
theorem FN {r : Rd} (h : r.ok) : ∃ L q, eP (2 ^ 30) [] r = some (L, q) ∧ q.ok := by
 have hr : rem r ≤ 2 ^ 21 := by
  have := h.len
  unfold rem
  split <;> omega
 obtain ⟨L, q, hq, dq⟩ := IG (2 ^ 30) [] r (by decide) h (by omega)
 exact ⟨L, q, hq, dq.1⟩
def a_ (t : Int) : Prop := t = 1 ∨ t = 2 ∨ t = 3
def cG (op ty : Int) (n : Nat) : Prop :=
 ((op = 1 ∨ op = 2 ∨ op = 3 ∨ op = 4 ∨ op = 6) ∧ n = 0) ∨ (op = 5 ∧ n = 0 ∧ a_ ty) ∨ op = 7 ∨ ((8 ≤ op ∧ op ≤ 13 ∨ op = 18) ∧ n = 2) ∨ (14 ≤ op ∧ op ≤ 17 ∧ n = 1) ∨ ((op = 19 ∨ op = 20) ∧ n = 3) ∨ ((op = 21 ∨ op = 22) ∧ n = 2 ∧ a_ ty)
def placeIn (ms : List Mk) (a b : Nat) (p : Int) : Prop := ∃ i, a ≤ i ∧ i < b ∧ p = (ms[i]?.getD default).at'
mutual
def size : Ex → Nat
 | .mk _ _ _ _ _ args _ => 1 + aV args
def aV : List Ex → Nat
 | [] => 0
 | e :: es => size e + aV es
end
mutual
def Wf (ms : List Mk) (a b : Nat) : Ex → Prop
 | .mk op _ _ ty _ args p => placeIn ms a b p ∧ cG op ty args.length ∧ Wfs ms a b args
def Wfs (ms : List Mk) (a b : Nat) : List Ex → Prop
 | [] => True
 | e :: es => Wf ms a b e ∧ Wfs ms a b es
end
theorem placeIn.mono {ms : List Mk} {a b c d : Nat} {p : Int} (h : placeIn ms a b p) (h1 : c ≤ a) (h2 : b ≤ d) : placeIn ms c d p := by
 obtain ⟨i, g1, g2, g3⟩ := h
 exact ⟨i, by omega, by omega, g3⟩
mutual
theorem Wf.mono {ms : List Mk} {a b c d : Nat} (h1 : c ≤ a) (h2 : b ≤ d) : ∀ (e : Ex), Wf ms a b e → Wf ms c d e
 | .mk op n t ty z args p, h => by
  unfold Wf at h ⊢
  exact ⟨h.1.mono h1 h2, h.2.1, Wfs.mono h1 h2 args h.2.2⟩
theorem Wfs.mono {ms : List Mk} {a b c d : Nat} (h1 : c ≤ a) (h2 : b ≤ d) : ∀ (l : List Ex), Wfs ms a b l → Wfs ms c d l
 | [], _ => by unfold Wfs; trivial
 | e :: es, h => by
  unfold Wfs at h ⊢
  exact ⟨Wf.mono h1 h2 e h.1, Wfs.mono h1 h2 es h.2⟩
end
theorem C3 {ms : List Mk} {a b : Nat} : ∀ {l k : List Ex}, Wfs ms a b l → Wfs ms a b k → Wfs ms a b (l ++ k)
 | [], _, _, h => h
 | e :: es, k, h, g => by
  unfold Wfs at h
  show Wfs ms a b (e :: (es ++ k))
  unfold Wfs
  exact ⟨h.1, C3 h.2 g⟩
theorem x3 : ∀ (l k : List Ex), aV (l ++ k) = aV l + aV k
 | [], k => by simp [aV]
 | e :: es, k => by
  show aV (e :: (es ++ k)) = _
  simp only [aV, x3 es k]; omega
def Step (r q : Rd) (k : Nat) : Prop := q.why = 0 → r.why = 0 ∧ q.ms = r.ms ∧ r.at' + k ≤ q.at'
theorem Step.trans {r q s : Rd} {j k : Nat} (h : Step r q j) (g : Step q s k) : Step r s (j + k) := fun hs => by
 obtain ⟨g1, g2, g3⟩ := g hs
 obtain ⟨h1, h2, h3⟩ := h g1
 exact ⟨h1, g2.trans h2, by omega⟩
theorem Step.refl {r : Rd} : Step r r 0 := fun h => ⟨h, rfl, by omega⟩
theorem step_adv {r : Rd} : Step r r.adv 1 := fun h => ⟨h, rfl, by simp⟩
theorem lY {r : Rd} {w : Int} (hw : w ≠ 0) {k : Nat} : Step r (r.fail w) k := fun h => absurd h (gN hw)
theorem step_want {r : Rd} {s : List UInt8} : Step r (r.want s) 1 := by
 unfold Rd.want
 split
 ·exact step_adv
 ·exact lY (by decide)
theorem step_name {r : Rd} : Step r r.name.2 1 := by
 unfold Rd.name
 split
 ·exact lY (by decide)
 ·exact step_adv
theorem vA {r : Rd} (h : r.name.2.why = 0) : r.name.1 = r.next := by
 unfold Rd.name at h ⊢
 split
 ·rename_i hb
  rw [if_pos hb] at h
  exact absurd h (gN (by decide))
 ·rfl
theorem qD {r : Rd} : Step r r.typ.2 1 := by
 unfold Rd.typ
 split
 ·exact step_adv
 ·split
  ·exact step_adv
  ·split
   ·exact step_adv
   ·exact lY (by decide)
theorem vQ {r : Rd} (h : r.typ.2.why = 0) : a_ r.typ.1 := by
 unfold Rd.typ at h ⊢
 split
 ·exact .inl rfl
 ·rename_i h1
  rw [if_neg h1] at h
  split
  ·exact .inr (.inl rfl)
  ·rename_i h2
   rw [if_neg h2] at h
   split
   ·exact .inr (.inr rfl)
   ·rename_i h3
    rw [if_neg h3] at h
    exact absurd h (gN (by decide))
def lB (run : PR) (r : Rd) : Prop := ∀ e q, run = some (e, q) → q.why = 0 → r.why = 0 ∧ q.ms = r.ms ∧ r.at' + 1 ≤ q.at' ∧ Wf r.ms r.at' q.at' e ∧ size e ≤ q.at' - r.at'
def MadeL (k : Nat) (run : Option (List Ex × Rd)) (r : Rd) : Prop := ∀ l q, run = some (l, q) → q.why = 0 → r.why = 0 ∧ q.ms = r.ms ∧ r.at' + k ≤ q.at' ∧ Wfs r.ms r.at' q.at' l ∧ aV l ≤ q.at' - r.at'
theorem iR {r : Rd} {b : Nat} (h : r.at' < b) : placeIn r.ms r.at' b r.next.at' := ⟨r.at', Nat.le_refl _, h, rfl⟩
theorem pK {r r1 r2 : Rd} {a b : Ex} {op : Int} (hop : 8 ≤ op ∧ op ≤ 13 ∨ op = 18) (m1 : r1.ms = r.ms) (l1 : r.at' + 1 ≤ r1.at') (w1 : Wf r.ms r.at' r1.at' a) (s1 : size a ≤ r1.at' - r.at')
  (l2 : r1.at' + 1 + 1 ≤ r2.at') (w2 : Wf r.ms (r1.at' + 1) r2.at' b) (s2 : size b ≤ r2.at' - (r1.at' + 1)) : Wf r.ms r.at' r2.at' (two op a b r1.next) ∧ size (two op a b r1.next) ≤ r2.at' - r.at' := by
 unfold two
 constructor
 ·unfold Wf Wfs Wfs Wfs
  refine ⟨?_, .inr (.inr (.inr (.inl ⟨hop, rfl⟩))), Wf.mono (Nat.le_refl _) (by omega) _ w1, Wf.mono (by omega) (Nat.le_refl _) _ w2, trivial⟩
  have := iR (r := r1) (b := r2.at') (by omega)
  rw [m1] at this
  exact this.mono (by omega) (Nat.le_refl _)
 ·simp only [size, aV]
  omega
theorem HB {N : Nat} (h1 : ∀ k, k < N → ∀ r, lB (eF k r) r) : ∀ n a (r0 r : Rd) e q, n ≤ N → h9 n a r = some (e, q) → q.why = 0 → (r.why = 0 → r.ms = r0.ms ∧ r0.at' + 1 ≤ r.at' ∧ Wf r0.ms r0.at' r.at' a ∧ size a ≤ r.at' - r0.at') →
  r.why = 0 ∧ q.ms = r0.ms ∧ r0.at' + 1 ≤ q.at' ∧ Wf r0.ms r0.at' q.at' e ∧ size e ≤ q.at' - r0.at' := by
 intro n
 induction n with
 | zero => intro a r0 r e q _ h; simp [h9] at h
 | succ n ih =>
  intro a r0 r e q hn hrun hq ha
  unfold h9 at hrun
  split at hrun
  ·cases hc : eF n r.adv with
   | none => rw [hc] at hrun; simp at hrun
   | some p =>
    obtain ⟨b, r2⟩ := p
    rw [hc] at hrun
    simp only [Option.bind_some] at hrun
    have hop : 8 ≤ (if r.next.text = [45] then (9 : Int) else 8) ∧ (if r.next.text = [45] then (9 : Int) else 8) ≤ 13 := by split <;> omega
    generalize (if r.next.text = [45] then (9 : Int) else 8) = op at *
    have key : r2.why = 0 → r.why = 0 ∧ (r2.ms = r0.ms ∧ r0.at' + 1 ≤ r2.at' ∧ Wf r0.ms r0.at' r2.at' (two op a b r.next) ∧ size (two op a b r.next) ≤ r2.at' - r0.at') := fun hw => by
     obtain ⟨g1, g2, g3, g4, g5⟩ := h1 n (by omega) r.adv b r2 hc hw
     simp only [Rd.adv_why, Rd.adv_ms, Rd.adv_at] at g1 g2 g3 g4 g5
     obtain ⟨k1, k2, k3, k4⟩ := ha g1
     rw [k1] at g4
     have := pK (r := r0) (r1 := r) (r2 := r2) (.inl hop) k1 k2 k3 k4 g3 g4 g5
     exact ⟨g1, g2.trans k1, by omega, this.1, this.2⟩
    obtain ⟨m1, m2⟩ := ih _ r0 r2 e q (by omega) hrun hq (fun hw => (key hw).2)
    exact ⟨(key m1).1, m2⟩
  ·simp only [Option.some.injEq, Prod.mk.injEq] at hrun
   obtain ⟨rfl, rfl⟩ := hrun
   obtain ⟨k1, k2, k3, k4⟩ := ha hq
   exact ⟨hq, k1, k2, k3, k4⟩
theorem D5 {N : Nat} (h1 : ∀ k, k < N → ∀ r, lB (eD k r) r) : ∀ n a (r0 r : Rd) e q, n ≤ N → fO n a r = some (e, q) → q.why = 0 → (r.why = 0 → r.ms = r0.ms ∧ r0.at' + 1 ≤ r.at' ∧ Wf r0.ms r0.at' r.at' a ∧ size a ≤ r.at' - r0.at') →
  r.why = 0 ∧ q.ms = r0.ms ∧ r0.at' + 1 ≤ q.at' ∧ Wf r0.ms r0.at' q.at' e ∧ size e ≤ q.at' - r0.at' := by
 intro n
 induction n with
 | zero => intro a r0 r e q _ h; simp [fO] at h
 | succ n ih =>
  intro a r0 r e q hn hrun hq ha
  unfold fO at hrun
  split at hrun
  ·cases hc : eD n r.adv with
   | none => rw [hc] at hrun; simp at hrun
   | some p =>
    obtain ⟨b, r2⟩ := p
    rw [hc] at hrun
    simp only [Option.bind_some] at hrun
    have hop : 8 ≤ (if r.next.text = [47] then (11 : Int) else 10) ∧ (if r.next.text = [47] then (11 : Int) else 10) ≤ 13 := by split <;> omega
    generalize (if r.next.text = [47] then (11 : Int) else 10) = op at *
    have key : r2.why = 0 → r.why = 0 ∧ (r2.ms = r0.ms ∧ r0.at' + 1 ≤ r2.at' ∧ Wf r0.ms r0.at' r2.at' (two op a b r.next) ∧ size (two op a b r.next) ≤ r2.at' - r0.at') := fun hw => by
     obtain ⟨g1, g2, g3, g4, g5⟩ := h1 n (by omega) r.adv b r2 hc hw
     simp only [Rd.adv_why, Rd.adv_ms, Rd.adv_at] at g1 g2 g3 g4 g5
     obtain ⟨k1, k2, k3, k4⟩ := ha g1
     rw [k1] at g4
     have := pK (r := r0) (r1 := r) (r2 := r2) (.inl hop) k1 k2 k3 k4 g3 g4 g5
     exact ⟨g1, g2.trans k1, by omega, this.1, this.2⟩
    obtain ⟨m1, m2⟩ := ih _ r0 r2 e q (by omega) hrun hq (fun hw => (key hw).2)
    exact ⟨(key m1).1, m2⟩
  ·simp only [Option.some.injEq, Prod.mk.injEq] at hrun
   obtain ⟨rfl, rfl⟩ := hrun
   obtain ⟨k1, k2, k3, k4⟩ := ha hq
   exact ⟨hq, k1, k2, k3, k4⟩
theorem BV {N : Nat} (h1 : ∀ k, k < N → ∀ r, lB (bM k r) r) : ∀ n l (r0 r : Rd) L q, n ≤ N → e_ n l r = some (L, q) → q.why = 0 → (r.why = 0 → r.ms = r0.ms ∧ r0.at' ≤ r.at' ∧ Wfs r0.ms r0.at' r.at' l ∧ aV l ≤ r.at' - r0.at') →
  r.why = 0 ∧ q.ms = r0.ms ∧ r0.at' ≤ q.at' ∧ Wfs r0.ms r0.at' q.at' L ∧ aV L ≤ q.at' - r0.at' := by
 intro n
 induction n with
 | zero => intro a r0 r e q _ h; simp [e_] at h
 | succ n ih =>
  intro l r0 r L q hn hrun hq ha
  unfold e_ at hrun
  split at hrun
  ·rename_i hs
   have st : Step r (if l = [] then r else r.want [44]) 0 := by
    split
    ·exact Step.refl
    ·intro h
     obtain ⟨g1, g2, g3⟩ := step_want h
     exact ⟨g1, g2, by omega⟩
   generalize (if l = [] then r else r.want [44]) = r1 at *
   cases hc : bM n r1 with
   | none => rw [hc] at hrun; simp at hrun
   | some p =>
    obtain ⟨b, r2⟩ := p
    rw [hc] at hrun
    simp only [Option.bind_some] at hrun
    obtain ⟨k1, k2, k3, k4⟩ := ha hs.1
    have key : r2.why = 0 → r2.ms = r0.ms ∧ r0.at' ≤ r2.at' ∧ Wfs r0.ms r0.at' r2.at' (l ++ [b]) ∧ aV (l ++ [b]) ≤ r2.at' - r0.at' := fun hw => by
     obtain ⟨g1, g2, g3, g4, g5⟩ := h1 n (by omega) r1 b r2 hc hw
     obtain ⟨j1, j2, j3⟩ := st g1
     rw [j2, k1] at g4
     refine ⟨g2.trans (j2.trans k1), by omega, C3 (Wfs.mono (Nat.le_refl _) (by omega) _ k3) ?_, ?_⟩
     ·unfold Wfs Wfs
      exact ⟨Wf.mono (by omega) (Nat.le_refl _) _ g4, trivial⟩
     ·rw [x3]
      simp only [aV]
      omega
    obtain ⟨m1, m2⟩ := ih _ r0 r2 L q (by omega) hrun hq key
    exact ⟨hs.1, m2⟩
  ·simp only [Option.some.injEq, Prod.mk.injEq] at hrun
   obtain ⟨rfl, rfl⟩ := hrun
   obtain ⟨k1, k2, k3, k4⟩ := ha hq
   exact ⟨hq, k1, k2, k3, k4⟩
theorem mT {N : Nat} (h1 : ∀ k, k < N → ∀ r, lB (bM k r) r) : ∀ ss n (r : Rd), n ≤ N → MadeL 0 (cL n ss r) r ∧ ∀ L q, cL n ss r = some (L, q) → L.length = ss.length := by
 intro ss
 induction ss with
 | nil =>
  intro n r hn
  cases n with
  | zero => exact ⟨fun l q h => by simp [cL] at h, fun l q h => by simp [cL] at h⟩
  | succ n =>
   refine ⟨fun l q h hq => ?_, fun l q h => ?_⟩
   ·simp only [cL, Option.some.injEq, Prod.mk.injEq] at h
    obtain ⟨rfl, rfl⟩ := h
    exact ⟨hq, rfl, by omega, by unfold Wfs; trivial, by simp [aV]⟩
   ·simp only [cL, Option.some.injEq, Prod.mk.injEq] at h
    obtain ⟨rfl, rfl⟩ := h
    rfl
 | cons s ss ih =>
  intro n r hn
  cases n with
  | zero => exact ⟨fun l q h => by simp [cL] at h, fun l q h => by simp [cL] at h⟩
  | succ n =>
   have st : Step r (if s = [] then r else r.want s) 0 := by
    split
    ·exact Step.refl
    ·intro h
     obtain ⟨g1, g2, g3⟩ := step_want h
     exact ⟨g1, g2, by omega⟩
   have split' : ∀ L q, cL (n + 1) (s :: ss) r = some (L, q) → ∃ b r2 l, bM n (if s = [] then r else r.want s) = some (b, r2) ∧ cL n ss r2 = some (l, q) ∧ L = b :: l := fun L q h => by
    unfold cL at h
    cases hc : bM n (if s = [] then r else r.want s) with
    | none => rw [hc] at h; simp at h
    | some p =>
     rw [hc] at h
     simp only [Option.bind_some, Option.map_eq_some_iff, Prod.mk.injEq] at h
     obtain ⟨q2, h2, rfl, rfl⟩ := h
     exact ⟨p.1, p.2, q2.1, rfl, h2, rfl⟩
   generalize (if s = [] then r else r.want s) = r1 at *
   refine ⟨fun L q h hq => ?_, fun L q h => ?_⟩
   ·obtain ⟨b, r2, l, e1, e2, rfl⟩ := split' L q h
    obtain ⟨a1, a2, a3, a4, a5⟩ := (ih n r2 (by omega)).1 l q e2 hq
    obtain ⟨g1, g2, g3, g4, g5⟩ := h1 n (by omega) r1 b r2 e1 a1
    obtain ⟨j1, j2, j3⟩ := st g1
    rw [g2, j2] at a4
    rw [j2] at g4
    refine ⟨j1, a2.trans (g2.trans j2), by omega, ?_, by simp only [aV]; omega⟩
    unfold Wfs
    exact ⟨Wf.mono (by omega) (by omega) _ g4, Wfs.mono (by omega) (Nat.le_refl _) _ a4⟩
   ·obtain ⟨b, r2, l, e1, e2, rfl⟩ := split' L q h
    have := (ih n r2 (by omega)).2 l q e2
    simp [this]
theorem yF {N : Nat} (h1 : ∀ k, k < N → ∀ r, lB (bM k r) r) (n : Nat) (hn : n ≤ N) (r : Rd) (p : Int) (e : Ex) (q : Rd) (hrun : eJ n r p = some (e, q)) (hq : q.why = 0) :
  r.why = 0 ∧ q.ms = r.ms ∧ r.at' ≤ q.at' ∧ ∃ h t x a b, e = .mk 20 h t 0 ⟨0, 0⟩ [x, a, b] p ∧ Wfs r.ms r.at' q.at' [x, a, b] ∧ aV [x, a, b] ≤ q.at' - r.at' := by
 cases n with
 | zero => simp [eJ] at hrun
 | succ n =>
  unfold eJ at hrun
  cases hc1 : bM n r with
  | none => rw [hc1] at hrun; simp at hrun
  | some p1 =>
   obtain ⟨x, r1⟩ := p1
   rw [hc1] at hrun
   simp only [Option.bind_some] at hrun
   have s1 : Step r1 (((r1.want [111, 102]).want [110, 105, 108]).want [45, 62]) 3 := (step_want.trans step_want).trans step_want
   generalize ((r1.want [111, 102]).want [110, 105, 108]).want [45, 62] = s3 at *
   cases hc2 : bM n s3 with
   | none => rw [hc2] at hrun; simp at hrun
   | some p2 =>
    obtain ⟨a, r2⟩ := p2
    rw [hc2] at hrun
    simp only [Option.bind_some, Option.map_eq_some_iff, Prod.mk.injEq] at hrun
    obtain ⟨⟨b, r3⟩, hc3, he1, he2⟩ := hrun
    simp only at he1 he2
    subst he1 he2
    have s2 : Step r2 ((((r2.want [124]).name.2.want [58]).name.2).want [45, 62]) 5 := (((step_want.trans step_name).trans step_want).trans step_name).trans step_want
    generalize (((r2.want [124]).name.2.want [58]).name.2).want [45, 62] = s8 at *
    obtain ⟨c1, c2, c3, c4, c5⟩ := h1 n (by omega) s8 b r3 hc3 hq
    obtain ⟨j1, j2, j3⟩ := s2 c1
    obtain ⟨b1, b2, b3, b4, b5⟩ := h1 n (by omega) s3 a r2 hc2 j1
    obtain ⟨i1, i2, i3⟩ := s1 b1
    obtain ⟨a1, a2, a3, a4, a5⟩ := h1 n (by omega) r x r1 hc1 i1
    rw [j2, b2, i2, a2] at c4
    rw [i2, a2] at b4
    refine ⟨a1, c2.trans (j2.trans (b2.trans (i2.trans a2))), by omega, _, _, x, a, b, rfl, ?_, by simp only [aV]; omega⟩
    unfold Wfs Wfs Wfs Wfs
    exact ⟨Wf.mono (Nat.le_refl _) (by omega) _ a4, Wf.mono (by omega) (by omega) _ b4, Wf.mono (by omega) (Nat.le_refl _) _ c4, trivial⟩
structure Makes (n : Nat) (r : Rd) : Prop where
 expr : lB (bM n r) r
 cons : lB (iP n r) r
 comp : lB (iZ n r) r
 sum : lB (j0 n r) r
 term : lB (eF n r) r
 unit : lB (eD n r) r
 named : ∀ r0 : Rd, r0.adv = r → r0.why = 0 → lB (iE n r0.next r) r0
theorem oE {r q : Rd} {op ty : Int} {n t : List UInt8} {z : Cx} (st : Step r q 1) (hq : q.why = 0) (hs : cG op ty 0) : r.why = 0 ∧ q.ms = r.ms ∧ r.at' + 1 ≤ q.at' ∧ Wf r.ms r.at' q.at' (.mk op n t ty z [] r.next.at') ∧ size (.mk op n t ty z [] r.next.at') ≤ q.at' - r.at' := by
 obtain ⟨g1, g2, g3⟩ := st hq
 refine ⟨g1, g2, g3, ?_, by simp only [size, aV]; omega⟩
 unfold Wf Wfs
 exact ⟨iR (by omega), hs, trivial⟩
theorem GX : ∀ n (r : Rd), Makes n r := by
 intro n
 induction n using Nat.strongRecOn with
 | _ n ih =>
  intro r
  cases n with
  | zero =>
   refine ⟨?_, ?_, ?_, ?_, ?_, ?_, ?_⟩
   ·intro e q h; simp [bM] at h
   ·intro e q h; simp [iP] at h
   ·intro e q h; simp [iZ] at h
   ·intro e q h; simp [j0] at h
   ·intro e q h; simp [eF] at h
   ·intro e q h; simp [eD] at h
   ·intro r0 _ _ e q h; simp [iE] at h
  | succ n =>
   have he : ∀ k, k < n → ∀ r, lB (bM k r) r := fun k hk r => (ih k (by omega) r).expr
   have gn := ih n (by omega)
   refine ⟨?_, ?_, ?_, ?_, ?_, ?_, ?_⟩
   ·intro e q hrun hq
    unfold bM at hrun
    simp only at hrun
    have hr1 : ∀ r1, r1 = (if (binds r && decide (r.lN ≤ r.nest)) = true then r.fail 23 else r) → r1.why = 0 → r1 = r := fun r1 h hw => by
     split at h
     ·rw [h] at hw; exact absurd hw (gN (by decide))
     ·exact h
    generalize hrr : (if (binds r && decide (r.lN ≤ r.nest)) = true then r.fail 23 else r) = r1 at *
    by_cases h0 : r1.why = 0
    ·have e1 := hr1 r1 rfl h0
     subst e1
     rw [if_neg (by simp [h0])] at hrun
     split at hrun
     ·exact (gn r1).cons e q hrun hq
     ·obtain ⟨r2, hr2⟩ : ∃ r2, r2 = (if binds r1 then { r1 with nest := r1.nest + 1 } else r1).adv := ⟨_, rfl⟩
      rw [← hr2] at hrun
      have s2 : r2.ms = r1.ms ∧ r2.at' = r1.at' + 1 ∧ r2.why = r1.why := by
       rw [hr2]
       cases binds r1
       ·exact ⟨rfl, rfl, rfl⟩
       ·exact ⟨rfl, rfl, rfl⟩
      obtain ⟨m2, a2, w2⟩ := s2
      clear hr2
      simp only [Option.map_eq_some_iff, Prod.mk.injEq] at hrun
      obtain ⟨⟨e', q'⟩, hres, he1, he2⟩ := hrun
      simp only at he1 he2
      subst he1
      have hq' : q'.why = 0 ∧ q.ms = q'.ms ∧ q.at' = q'.at' := by
       rw [← he2] at hq ⊢
       split at hq
       ·rename_i hb; rw [if_pos hb]; exact ⟨hq, rfl, rfl⟩
       ·rename_i hb; rw [if_neg hb]; exact ⟨hq, rfl, rfl⟩
      obtain ⟨hw, hm, hat⟩ := hq'
      rw [hm, hat]
      have fin : ∀ op n t ty (args : List Ex), e' = .mk op n t ty ⟨0, 0⟩ args r1.next.at' → cG op ty args.length → q'.ms = r2.ms → r2.at' ≤ q'.at' → Wfs r2.ms r2.at' q'.at' args → aV args ≤ q'.at' - r2.at' →
        r1.why = 0 ∧ q'.ms = r1.ms ∧ r1.at' + 1 ≤ q'.at' ∧ Wf r1.ms r1.at' q'.at' e' ∧ size e' ≤ q'.at' - r1.at' := fun op n t ty args he hs g1 g2 g3 g4 => by
       subst he
       rw [m2] at g3
       refine ⟨h0, g1.trans m2, by omega, ?_, by simp only [size]; omega⟩
       unfold Wf
       exact ⟨iR (by omega), hs, Wfs.mono (by omega) (Nat.le_refl _) _ g3⟩
      split at hres
      ·simp only [Option.map_eq_some_iff, Prod.mk.injEq] at hres
       obtain ⟨⟨l, q2⟩, hl, he1, he3⟩ := hres
       simp only at he1 he3
       subst he3
       obtain ⟨b1, b2, b3, b4, b5⟩ := (mT (N := n) he _ n r2 (Nat.le_refl _)).1 l q2 hl hw
       have hlen := (mT (N := n) he _ n r2 (Nat.le_refl _)).2 l q2 hl
       exact fin 19 [] [] 0 l he1.symm (.inr (.inr (.inr (.inr (.inr (.inl ⟨.inl rfl, hlen⟩)))))) b2 (by omega) b4 b5
      ·split at hres
       ·obtain ⟨b1, b2, b3, hd, tl, x, a, b, he1, b4, b5⟩ := yF (N := n) he n (Nat.le_refl _) r2 _ e' q' hres hw
        exact fin 20 hd tl 0 [x, a, b] he1 (.inr (.inr (.inr (.inr (.inr (.inl ⟨.inr rfl, rfl⟩)))))) b2 b3 b4 b5
       ·simp only [Option.map_eq_some_iff, Prod.mk.injEq] at hres
        obtain ⟨⟨l, q2⟩, hl, he1, he3⟩ := hres
        simp only at he1 he3
        subst he3
        obtain ⟨b1, b2, b3, b4, b5⟩ := (mT (N := n) he _ n r2.name.2.typ.2 (Nat.le_refl _)).1 l q2 hl hw
        have hlen := (mT (N := n) he _ n r2.name.2.typ.2 (Nat.le_refl _)).2 l q2 hl
        have st : Step r2 r2.name.2.typ.2 2 := step_name.trans qD
        obtain ⟨j1, j2, j3⟩ := st b1
        rw [j2] at b4
        refine fin _ _ [] r2.name.2.typ.1 l he1.symm (.inr (.inr (.inr (.inr (.inr (.inr ⟨?_, hlen, vQ b1⟩)))))) (b2.trans j2) (by omega) (Wfs.mono (by omega) (Nat.le_refl _) _ b4) (by omega)
        split
        ·exact .inr rfl
        ·exact .inl rfl
    ·rw [if_pos h0] at hrun
     simp only [Option.some.injEq, Prod.mk.injEq] at hrun
     obtain ⟨_, rfl⟩ := hrun
     exact absurd hq h0
   ·intro e q hrun hq
    unfold iP at hrun
    cases hc : iZ n r with
    | none => rw [hc] at hrun; simp at hrun
    | some p =>
     obtain ⟨a, r1⟩ := p
     rw [hc] at hrun
     simp only [Option.bind_some] at hrun
     split at hrun
     ·simp only [Option.map_eq_some_iff, Prod.mk.injEq] at hrun
      obtain ⟨⟨b, r2⟩, hb, he1, he2⟩ := hrun
      simp only at he1 he2
      subst he1 he2
      obtain ⟨g1, g2, g3, g4, g5⟩ := (gn r1.adv).cons b r2 hb hq
      simp only [Rd.adv_why, Rd.adv_ms, Rd.adv_at] at g1 g2 g3 g4 g5
      obtain ⟨k1, k2, k3, k4, k5⟩ := (gn r).comp a r1 hc g1
      rw [k2] at g4
      have := pK (r := r) (r1 := r1) (r2 := r2) (.inr rfl : 8 ≤ (18 : Int) ∧ (18 : Int) ≤ 13 ∨ (18 : Int) = 18) k2 k3 k4 k5 g3 g4 g5
      exact ⟨k1, g2.trans k2, by omega, this.1, this.2⟩
     ·simp only [Option.some.injEq, Prod.mk.injEq] at hrun
      obtain ⟨rfl, rfl⟩ := hrun
      exact (gn r).comp a r1 hc hq
   ·intro e q hrun hq
    unfold iZ at hrun
    cases hc : j0 n r with
    | none => rw [hc] at hrun; simp at hrun
    | some p =>
     obtain ⟨a, r1⟩ := p
     rw [hc] at hrun
     simp only [Option.bind_some] at hrun
     split at hrun
     ·simp only [Option.map_eq_some_iff, Prod.mk.injEq] at hrun
      obtain ⟨⟨b, r2⟩, hb, he1, he2⟩ := hrun
      simp only at he1 he2
      subst he1 he2
      obtain ⟨g1, g2, g3, g4, g5⟩ := (gn r1.adv).sum b r2 hb hq
      simp only [Rd.adv_why, Rd.adv_ms, Rd.adv_at] at g1 g2 g3 g4 g5
      obtain ⟨k1, k2, k3, k4, k5⟩ := (gn r).sum a r1 hc g1
      rw [k2] at g4
      have := pK (r := r) (r1 := r1) (r2 := r2) (op := if r1.is [60] then 13 else 12) (.inl (by split <;> omega)) k2 k3 k4 k5 g3 g4 g5
      exact ⟨k1, g2.trans k2, by omega, this.1, this.2⟩
     ·simp only [Option.some.injEq, Prod.mk.injEq] at hrun
      obtain ⟨rfl, rfl⟩ := hrun
      exact (gn r).sum a r1 hc hq
   ·intro e q hrun hq
    unfold j0 at hrun
    cases hc : eF n r with
    | none => rw [hc] at hrun; simp at hrun
    | some p =>
     obtain ⟨a, r1⟩ := p
     rw [hc] at hrun
     simp only [Option.bind_some] at hrun
     have key := HB (N := n) (fun k hk r => (ih k (by omega) r).term) n a r r1 e q (Nat.le_refl _) hrun hq (fun hw => ((gn r).term a r1 hc hw).2)
     exact ⟨((gn r).term a r1 hc key.1).1, key.2⟩
   ·intro e q hrun hq
    unfold eF at hrun
    cases hc : eD n r with
    | none => rw [hc] at hrun; simp at hrun
    | some p =>
     obtain ⟨a, r1⟩ := p
     rw [hc] at hrun
     simp only [Option.bind_some] at hrun
     have key := D5 (N := n) (fun k hk r => (ih k (by omega) r).unit) n a r r1 e q (Nat.le_refl _) hrun hq (fun hw => ((gn r).unit a r1 hc hw).2)
     exact ⟨((gn r).unit a r1 hc key.1).1, key.2⟩
   ·intro e q hrun hq
    unfold eD at hrun
    by_cases g1 : r.why = 0
    ·rw [if_neg (by simp [g1])] at hrun
     by_cases g2 : r.next.kind = 2
     ·rw [if_pos g2] at hrun
      simp only [Option.some.injEq, Prod.mk.injEq] at hrun
      obtain ⟨rfl, rfl⟩ := hrun
      exact oE step_adv hq (.inl ⟨.inl rfl, rfl⟩)
     ·rw [if_neg g2] at hrun
      by_cases g3 : r.next.kind = 0
      ·rw [if_pos g3] at hrun
       exact (gn r.adv).named r rfl g1 e q hrun hq
      ·rw [if_neg g3] at hrun
       cases g4 : r.is [40] <;> rw [g4] at hrun
       ·rw [if_neg (by decide)] at hrun
        by_cases g5 : ¬ r.next.kind = 1 ∨ b_ r.next.text = 0
        ·rw [if_pos g5] at hrun
         simp only [Option.some.injEq, Prod.mk.injEq] at hrun
         obtain ⟨_, rfl⟩ := hrun
         exact absurd hq (gN (by decide))
        ·rw [if_neg g5] at hrun
         by_cases g6 : b_ r.next.text = 5
         ·rw [if_pos g6] at hrun
          simp only [Option.some.injEq, Prod.mk.injEq] at hrun
          obtain ⟨rfl, rfl⟩ := hrun
          have st : Step r r.adv.typ.2 2 := step_adv.trans qD
          exact oE (fun h => by obtain ⟨a, b, c⟩ := st h; exact ⟨a, b, by omega⟩) hq (.inr (.inl ⟨rfl, rfl, vQ hq⟩))
         ·rw [if_neg g6] at hrun
          by_cases g7 : 14 ≤ b_ r.next.text
          ·rw [if_pos g7] at hrun
           simp only [Option.map_eq_some_iff, Prod.mk.injEq] at hrun
           obtain ⟨⟨x, q2⟩, hx, he1, he2⟩ := hrun
           simp only at he1 he2
           subst he1 he2
           obtain ⟨j1, j2, j3⟩ := step_want hq
           obtain ⟨b1, b2, b3, b4, b5⟩ := (gn _).expr x q2 hx j1
           have st : Step r (r.adv.want [40]) 2 := step_adv.trans step_want
           obtain ⟨i1, i2, i3⟩ := st b1
           rw [i2] at b4
           have hv := nJ r.next.text
           refine ⟨g1, j2.trans (b2.trans i2), by omega, ?_, by simp only [size, aV]; omega⟩
           unfold Wf Wfs Wfs
           exact ⟨iR (by omega), .inr (.inr (.inr (.inr (.inl ⟨g7, by omega, rfl⟩)))), Wf.mono (by omega) (by omega) _ b4, trivial⟩
          ·rw [if_neg g7] at hrun
           simp only [Option.some.injEq, Prod.mk.injEq] at hrun
           obtain ⟨rfl, rfl⟩ := hrun
           have hv := nJ r.next.text
           have h0 : b_ r.next.text ≠ 0 := fun h => g5 (.inr h)
           exact oE step_adv hq (.inl ⟨by omega, rfl⟩)
       ·rw [if_pos rfl] at hrun
        simp only [Option.map_eq_some_iff, Prod.mk.injEq] at hrun
        obtain ⟨⟨x, q2⟩, hx, he1, he2⟩ := hrun
        simp only at he1 he2
        subst he1 he2
        obtain ⟨j1, j2, j3⟩ := step_want hq
        obtain ⟨b1, b2, b3, b4, b5⟩ := (gn _).expr x q2 hx j1
        simp only [Rd.adv_why, Rd.adv_ms, Rd.adv_at] at b1 b2 b3 b4 b5
        exact ⟨g1, j2.trans b2, by omega, Wf.mono (by omega) (by omega) _ b4, by omega⟩
    ·rw [if_pos g1] at hrun
     simp only [Option.some.injEq, Prod.mk.injEq] at hrun
     obtain ⟨_, rfl⟩ := hrun
     exact absurd hq g1
   ·intro r0 h0 w0 e q hrun hq
    subst h0
    unfold iE at hrun
    split at hrun
    ·simp only [Option.map_eq_some_iff, Prod.mk.injEq] at hrun
     obtain ⟨⟨l, q2⟩, hl, he1, he2⟩ := hrun
     simp only at he1 he2
     subst he1 he2
     obtain ⟨j1, j2, j3⟩ := step_want hq
     obtain ⟨b1, b2, b3, b4, b5⟩ := BV (N := n) he n [] r0.adv.adv r0.adv.adv l q2 (Nat.le_refl _) hl j1 (fun _ => ⟨rfl, Nat.le_refl _, by unfold Wfs; trivial, by simp [aV]⟩)
     simp only [Rd.adv_why, Rd.adv_ms, Rd.adv_at] at b1 b2 b3 b4 b5
     refine ⟨w0, j2.trans b2, by omega, ?_, by simp only [size]; omega⟩
     unfold Wf
     exact ⟨iR (by omega), .inr (.inr (.inl rfl)), Wfs.mono (by omega) (by omega) _ b4⟩
    ·simp only [Option.some.injEq, Prod.mk.injEq] at hrun
     obtain ⟨rfl, rfl⟩ := hrun
     exact oE step_adv hq (.inl ⟨by simp, rfl⟩)
def PmOk (ms : List Mk) (a b : Nat) (p : Pm) : Prop := placeIn ms a b p.at' ∧ a_ p.type
structure FnOk (ms : List Mk) (a b : Nat) (f : Fn) : Prop where
 lt : a < b
 place : f.at' = (ms[a]?.getD default).at'
 type : a_ f.type
 params : ∀ p ∈ f.params, PmOk ms (a + 1) b p
 len : f.params.length ≤ b - a
 body : Wf ms (a + 1) b f.body
 size : size f.body ≤ b - a
def Fns (ms : List Mk) : Nat → List Fn → Nat → Prop
 | a, [], b => a ≤ b
 | a, f :: fs, b => ∃ c, FnOk ms a c f ∧ Fns ms c fs b
theorem BW : ∀ n l (r0 r : Rd) L q, dY n l r = some (L, q) → q.why = 0 → (r.why = 0 → r.ms = r0.ms ∧ r0.at' ≤ r.at' ∧ (∀ p ∈ l, PmOk r0.ms r0.at' r.at' p) ∧ l.length ≤ r.at' - r0.at') →
  r.why = 0 ∧ q.ms = r0.ms ∧ r0.at' ≤ q.at' ∧ (∀ p ∈ L, PmOk r0.ms r0.at' q.at' p) ∧ L.length ≤ q.at' - r0.at' := by
 intro n
 induction n with
 | zero => intro l r0 r L q h; simp [dY] at h
 | succ n ih =>
  intro l r0 r L q hrun hq ha
  unfold dY at hrun
  split at hrun
  ·rename_i hs
   obtain ⟨k1, k2, k3, k4⟩ := ha hs.1
   have s1 : Step r (pw r l) 0 := by
    unfold pw; split
    ·exact Step.refl
    ·intro h
     obtain ⟨g1, g2, g3⟩ := step_want h
     exact ⟨g1, g2, by omega⟩
   have s2 : Step (pw r l) (pf (pw r l) l) 0 := by
    unfold pf; split
    ·exact lY (by decide)
    ·exact Step.refl
   generalize pf (pw r l) l = z at *
   have key : z.name.2.typ.2.why = 0 → z.name.2.typ.2.ms = r0.ms ∧ r0.at' ≤ z.name.2.typ.2.at' ∧ (∀ p ∈ l ++ [⟨z.name.1.text, z.name.2.typ.1, z.name.1.at'⟩], PmOk r0.ms r0.at' z.name.2.typ.2.at' p) ∧ (l ++ [(⟨z.name.1.text, z.name.2.typ.1, z.name.1.at'⟩ : Pm)]).length ≤ z.name.2.typ.2.at' - r0.at' := fun hw => by
    have t := vQ hw
    obtain ⟨a1, a2, a3⟩ := qD hw
    have np := vA a1
    obtain ⟨b1, b2, b3⟩ := step_name a1
    obtain ⟨c1, c2, c3⟩ := (s1.trans s2) b1
    have hm : z.ms = r0.ms := c2.trans k1
    refine ⟨a2.trans (b2.trans hm), by omega, fun p hp => ?_, by simp only [List.length_append, List.length_cons, List.length_nil]; omega⟩
    rw [List.mem_append, List.mem_singleton] at hp
    rcases hp with hp | rfl
    ·obtain ⟨e1, e2⟩ := k3 p hp
     exact ⟨e1.mono (Nat.le_refl _) (by omega), e2⟩
    ·refine ⟨?_, t⟩
     simp only
     rw [np]
     have := iR (r := z) (b := z.name.2.typ.2.at') (by omega)
     rw [hm] at this
     exact this.mono (by omega) (Nat.le_refl _)
   obtain ⟨m1, m2⟩ := ih _ r0 _ L q hrun hq key
   exact ⟨hs.1, m2⟩
  ·simp only [Option.some.injEq, Prod.mk.injEq] at hrun
   obtain ⟨rfl, rfl⟩ := hrun
   obtain ⟨k1, k2, k3, k4⟩ := ha hq
   exact ⟨hq, k1, k2, k3, k4⟩
theorem KN {n : Nat} {r : Rd} {c : Nat} {f : Fn} {q : Rd} (hrun : kH n r c = some (f, q)) (hq : q.why = 0) : r.why = 0 ∧ q.ms = r.ms ∧ FnOk r.ms r.at' q.at' f := by
 unfold kH at hrun
 have s0 : Step r (df r c) 0 := by
  unfold df; split
  ·exact lY (by decide)
  ·exact Step.refl
 have hdf : (df r c).why = 0 → df r c = r := fun h => by
  unfold df at h ⊢
  split at h
  ·exact absurd h (gN (by decide))
  ·rename_i g; rw [if_neg g]
 have s1 : Step (df r c) ((df r c).name.2.want [40]) 2 := step_name.trans step_want
 cases hp : dY n [] ((df r c).name.2.want [40]) with
 | none => rw [hp] at hrun; simp at hrun
 | some p =>
  obtain ⟨ps, r4⟩ := p
  rw [hp] at hrun
  simp only [Option.bind_some, Option.map_eq_some_iff, Prod.mk.injEq] at hrun
  obtain ⟨⟨body, r9⟩, hb, he1, he2⟩ := hrun
  simp only at he1 he2
  subst he1 he2
  obtain ⟨a1, a2, a3⟩ := step_want hq
  obtain ⟨b1, b2, b3, b4, b5⟩ := (GX n _).expr body r9 hb a1
  have s2 : Step ((r4.want [41]).want [58]).typ.2 (((r4.want [41]).want [58]).typ.2.want [61]) 1 := step_want
  obtain ⟨c1, c2, c3⟩ := s2 b1
  have ht := vQ c1
  obtain ⟨d1, d2, d3⟩ := ((step_want.trans step_want).trans qD : Step r4 ((r4.want [41]).want [58]).typ.2 3) c1
  obtain ⟨e1, e2, e3, e4, e5⟩ := BW n [] _ _ ps r4 hp d1 (fun _ => ⟨rfl, Nat.le_refl _, fun p hp => by simp at hp, by simp⟩)
  obtain ⟨f1, f2, f3⟩ := s1 e1
  obtain ⟨g1, g2, g3⟩ := s0 f1
  have hr := hdf f1
  have hn1 : (df r c).name.2.why = 0 := (step_want e1).1
  have np := vA hn1
  have hm4 : r4.ms = r.ms := e2.trans (f2.trans g2)
  rw [f2, g2] at e4
  rw [c2, d2, hm4] at b4
  refine ⟨g1, a2.trans (b2.trans (c2.trans (d2.trans hm4))), ⟨by omega, ?_, ht, fun p hp => ?_, by simp only; omega, Wf.mono (by omega) (by omega) _ b4, by simp only; omega⟩⟩
  ·simp only
   rw [np, hr]; rfl
  ·obtain ⟨h1, h2⟩ := e4 p hp
   exact ⟨h1.mono (by omega) (by omega), h2⟩
theorem wZ : ∀ n l (r : Rd) L q, eP n l r = some (L, q) → q.why = 0 → r.why = 0 ∧ q.ms = r.ms ∧ ∃ k, L = l ++ k ∧ Fns r.ms r.at' k q.at' ∧ (l = [] → k ≠ []) := by
 intro n
 induction n with
 | zero => intro l r L q h; simp [eP] at h
 | succ n ih =>
  intro l r L q hrun hq
  unfold eP at hrun
  split at hrun
  ·rename_i hs
   cases hd : kH n r l.length with
   | none => rw [hd] at hrun; simp at hrun
   | some p =>
    obtain ⟨f, r2⟩ := p
    rw [hd] at hrun
    simp only [Option.bind_some] at hrun
    obtain ⟨a1, a2, k, a3, a4, _⟩ := ih _ r2 L q hrun hq
    obtain ⟨b1, b2, b3⟩ := KN hd a1
    rw [b2] at a4
    exact ⟨hs.1, a2.trans b2, f :: k, by rw [a3]; simp, ⟨r2.at', b3, a4⟩, fun _ => by simp⟩
  ·rename_i hs
   simp only [Option.some.injEq, Prod.mk.injEq] at hrun
   obtain ⟨rfl, rfl⟩ := hrun
   refine ⟨hq, rfl, [], by simp, Nat.le_refl _, fun h => ?_⟩
   exact absurd ⟨hq, .inl h⟩ hs
def o8 (ms : List Mk) : Prop := ∀ i j, i < j → j < ms.length → (ms[i]?.getD default).at' < (ms[j]?.getD default).at'
theorem tA {ms : List Mk} {m : Mk} (h : o8 ms) (hb : ∀ i, i < ms.length → (ms[i]?.getD default).at' < m.at') : o8 (ms ++ [m]) := by
 intro i j hij hj
 simp only [List.length_append, List.length_cons, List.length_nil] at hj
 have hi : i < ms.length := by omega
 rw [List.getElem?_append_left hi]
 by_cases e : j < ms.length
 ·rw [List.getElem?_append_left e]; exact h i j hij e
 ·have : j = ms.length := by omega
  subst this
  rw [List.getElem?_append_right (Nat.le_refl _)]
  simpa using hb i hi
theorem one_at {t : List UInt8} {p : Nat} : (gP t p).1.at' = p := by
 unfold gP
 split
 ·rfl
 ·split
  ·rfl
  ·split
   ·rfl
   ·rfl
theorem gR : ∀ (f : Nat) (t : List UInt8) (p : Nat) (out : List Mk), p ≤ t.length → o8 out → (∀ i, i < out.length → (out[i]?.getD default).at' < p) → (eN f t p out).2 < 0 → o8 (eN f t p out).1
 | 0, t, p, out, _, _, _, h => by simp [eN] at h
 | f + 1, t, p, out, hp, hr, hb, h => by
  unfold eN at h ⊢
  by_cases c1 : p < t.length
  ·rw [if_pos c1] at h ⊢
   by_cases c2 : nS (bt8 t p) = true
   ·rw [if_pos c2] at h ⊢
    exact gR f t _ out (by omega) hr (fun i hi => by have := hb i hi; omega) h
   ·rw [if_neg c2] at h ⊢
    by_cases c3 : bt8 t p = 35
    ·rw [if_pos c3] at h ⊢
     have hc := nC t.length t p hp
     exact gR f t _ out hc.2 hr (fun i hi => by have := hb i hi; omega) h
    ·rw [if_neg c3] at h ⊢
     by_cases c4 : (gP t p).2 = true
     ·rw [if_pos c4] at h ⊢
      obtain ⟨l1, l2⟩ := vY c1 c4
      have ha := one_at (t := t) (p := p)
      refine gR f t _ _ l2 (tA hr fun i hi => by have := hb i hi; omega) (fun i hi => ?_) h
      simp only [List.length_append, List.length_cons, List.length_nil] at hi
      by_cases e : i < out.length
      ·rw [List.getElem?_append_left e]
       have := hb i e; omega
      ·have : i = out.length := by omega
       subst this
       rw [List.getElem?_append_right (Nat.le_refl _)]
       simp only [Nat.sub_self, List.getElem?_cons_zero, Option.getD_some]
       omega
     ·rw [if_neg c4] at h; simp only at h; omega
  ·rw [if_neg c1] at h ⊢
   exact tA hr fun i hi => by
    have := hb i hi
    simp only [sG]; omega
def dT (L : List Fn) : Prop := ∃ ms a b, MOk ms ∧ ms.length ≤ 2 ^ 21 ∧ o8 ms ∧ b < ms.length ∧ Fns ms a L b ∧ L ≠ []
def vI (t : List UInt8) (L : List Fn) (w p : Int) : Prop :=
 Pure Tryz.prog 29 [.sl (em dM t), limD 32768 32768 32768 32768] (resD L w p) ∧ (w = 0 → dT L) ∧ (w ≠ 0 → L = [])
theorem M5 (t : List UInt8) (ht : t.length < 2 ^ 48) : ∃ L w p, vI t L w p := by
 by_cases h1 : 32768 < t.length
 ·exact ⟨[], 22, 32768, F6 t ht h1, fun h => absurd h (by decide), fun _ => rfl⟩
 ·by_cases h2 : (dN t).2 < 0
  ·have hk := BG (t := t) (lt := 32768) (lF := 32768) (lA := 32768) (lN := 32768) (by omega) h2 (by decide)
   obtain ⟨L, q, hq, kq⟩ := FN hk
   have hc := AG t (by omega) h2 (by decide) hq
   by_cases h3 : q.why = 0
   ·rw [if_pos h3] at hc
    obtain ⟨g1, g2, k, g3, g4, g5⟩ := wZ _ _ _ L q hq h3
    simp only [List.nil_append] at g3
    subst g3
    refine ⟨L, 0, 0, hc, fun _ => ⟨(dN t).1, 0, q.at', hk.ms, hk.len, ?_, ?_, g4, g5 rfl⟩, fun h => absurd rfl h⟩
    ·exact gR _ t 0 [] (by omega) (fun i j _ h => by simp at h) (fun i h => by simp at h) h2
    ·have := kq.lt
     rw [g2] at this; exact this
   ·rw [if_neg h3] at hc
    exact ⟨[], q.why, q.wh, hc, fun h => absurd h h3, fun _ => rfl⟩
  ·have hc := E2 t (by omega) h2
   refine ⟨[], 20, (dN t).2, hc, fun h => absurd h (by decide), fun _ => rfl⟩
end Go.Fx.YtlhdpfaohphbaaaGreat
namespace Go.Fx
open Go
abbrev Sm := List (List UInt8 × Int)
def bR (m : Sm) : List (Value × D) := m.map fun p => (.string (ByteArray.mk (Array.mk p.1)), .pl (.int .i64 p.2))
def g9 : Sm → List UInt8 → Option Int
 | [], _ => none
 | p :: m, k => if p.1 = k then some p.2 else g9 m k
def fK : Sm → List UInt8 → Int → Sm
 | [], k, v => [(k, v)]
 | p :: m, k, v => if p.1 = k then (k, v) :: m else p :: fK m k v
def dB (m : Sm) (k : List UInt8) : Int := (g9 m k).getD 0
theorem FU (m : Sm) (k j : List UInt8) (v : Int) : g9 (fK m k v) j = if k = j then some v else g9 m j := by
 induction m with
 | nil => simp [fK, g9]
 | cons p m ih =>
  by_cases h : p.1 = k
  ·by_cases h2 : k = j
   ·simp [fK, g9, h, h2]
   ·simp [fK, g9, h, h2]
  ·by_cases h2 : k = j
   ·subst h2
    simp only [fK, h, if_false, g9, ih, if_true]
   ·by_cases h3 : p.1 = j
    ·rw [fK, if_neg h, g9, if_pos h3, g9, if_pos h3, if_neg h2]
    ·simp only [fK, h, if_false, g9, h3, ih, h2]
theorem kZ (m : Sm) (k j : List UInt8) (v : Int) : dB (fK m k v) j = if k = j then v else dB m j := by
 unfold dB
 rw [FU]
 split <;> rfl
theorem sm_ok (m : Sm) : (bR m).all (fun e => kOk none e.1) = true := by
 unfold bR; simp [kOk]
theorem MB (m : Sm) (k : List UInt8) : lS (.string (ByteArray.mk (Array.mk k))) (bR m) = (g9 m k).map fun v => .pl (.int .i64 v) := by
 induction m with
 | nil => rfl
 | cons p m ih =>
  unfold bR at ih ⊢
  simp only [List.map_cons, lS, lP, g9, DK, decide_eq_true_eq]
  split
  ·rfl
  ·exact ih
theorem sm_put (m : Sm) (k : List UInt8) (v : Int) : kJ (.string (ByteArray.mk (Array.mk k))) (.pl (.int .i64 v)) (bR m) = bR (fK m k v) := by
 induction m with
 | nil => rfl
 | cons p m ih =>
  unfold bR at ih ⊢
  simp only [List.map_cons, kJ, lP, fK, DK, decide_eq_true_eq]
  split
  ·rfl
  ·rw [ih]; rfl
def mapE (kd : Option IntKind) : Option Blk → Option (List (Value × D))
 | some (.map es) => if es.all (fun e => kOk kd e.1) then some es else none
 | _ => none
def lkE (o : Option (List (Value × D))) (kd : Option IntKind) (z : Value) (two : Bool) (k : D) : Option D :=
 match k, o with
 | .pl k, some es => if kOk kd k then some (match lS k es with
  | some v => if two then .tup [v, .pl (.bool true)] else v
  | none => if two then .tup [zD z, .pl (.bool false)] else zD z) else none
 | _, _ => none
def mupE (o : Option Blk) (mem : Mem) (id : Nat) (kd : Option IntKind) (k : Value) (v : D) : Option (D × Mem) :=
 match o with
 | some (.map es) => if kOk kd k ∧ es.all (fun e => kOk kd e.1) then some (.top, upd mem id (.map (kJ k v es))) else none
 | _ => none
section
variable {mem : Mem} {id : Nat} {kd : Option IntKind} {z : Value} {two : Bool} {m k : D}
@[simp] theorem lkD_E : lkD mem kd z two m k = lkE (qO mem kd m) kd z two k := (rfl)
@[simp] theorem mapOf_E : qO mem kd (.omap id) = mapE kd (look mem id) := (rfl)
@[simp] theorem mupM_E {k : Value} {v : D} : nP mem kd (some (.omap id)) (some (.pl k)) (some v) = mupE (look mem id) mem id kd k v := (rfl)
@[simp] theorem mapE_S {m : Sm} : mapE none (some (.map (bR m))) = some (bR m) := by
 show (if (bR m).all (fun e => kOk none e.1) = true then some (bR m) else none) = _
 rw [if_pos (sm_ok m)]
@[simp] theorem mapE_0 : mapE none (some (.map [])) = some (bR []) := (rfl)
@[simp] theorem lkE_S {m : Sm} {k : List UInt8} : lkE (some (bR m)) none (.int .i64 0) false (Tx k) = some (.pl (.int .i64 (dB m k))) := by
 unfold lkE dB
 simp only [kOk, if_true, MB]
 cases g9 m k with
 | none => rfl
 | some v => rfl
@[simp] theorem mupE_S {m : Sm} {k : List UInt8} {v : Int} : mupE (some (.map (bR m))) mem id none (.string (ByteArray.mk (Array.mk k))) (.pl (.int .i64 v)) = some (.top, upd mem id (.map (bR (fK m k v)))) := by
 show (if kOk none (.string (ByteArray.mk (Array.mk k))) = true ∧ (bR m).all (fun e => kOk none e.1) = true then some (D.top, upd mem id (.map (kJ (.string (ByteArray.mk (Array.mk k))) (.pl (.int .i64 v)) (bR m)))) else none) = _
 rw [if_pos ⟨rfl, sm_ok m⟩, sm_put]
@[simp] theorem mupE_0 {k : List UInt8} {v : Int} : mupE (some (.map [])) mem id none (.string (ByteArray.mk (Array.mk k))) (.pl (.int .i64 v)) = some (.top, upd mem id (.map (bR (fK [] k v)))) := (rfl)
end
end Go.Fx
namespace Go.Fx.YtlhdpfaohphbaaaGreat
open Go Go.Fx Go.Proofs Go.Fx.Flt
def dV (op : Int) (n t : List UInt8) (i : Int) : List (List UInt8) := if op = 21 ∨ (op = 22 ∧ i = 1) then [n] else if op = 20 ∧ i = 2 then [n, t] else []
def o6 (e : Ex) (i : Int) : List (List UInt8) := dV e.op e.name e.tail i
theorem LV (e : Ex) (i : Int) : Pure Tryz.prog 141 [.agg (aQ e), I i] (.sl (em a9 (o6 e i))) := by
 refine fi141.pu (by simp) ?_
 simp only [aA, o6]
 generalize e.op = op
 unfold dV
 by_cases h1 : op = 21
 ·simp -implicitDefEqProofs [ac141, h1]; rfl
 ·by_cases h2 : op = 22
  ·by_cases h3 : i = 1
   ·simp -implicitDefEqProofs [ac141, h1, h2, h3]; rfl
   ·simp -implicitDefEqProofs [ac141, h1, h2, h3]
  ·by_cases h4 : op = 20
   ·by_cases h3 : i = 2
    ·simp -implicitDefEqProofs [ac141, h1, h2, h3, h4]; rfl
    ·simp -implicitDefEqProofs [ac141, h1, h2, h3, h4]
   ·simp -implicitDefEqProofs [ac141, h1, h2, h4]
abbrev Ft := Int × Int
def cO (s : Ft) (w p : Int) : Ft := if s.1 = 0 ∨ p < s.2 then (w, p) else s
theorem HM (s : Ft) (w p : Int) {fid : Nat} {mem : Mem} {nx : Nat} {K : KD} (hl : look mem fid = some (.box [I s.1, I s.2])) (hi : fid < nx) (hk : ∀ nx', nx ≤ nx' → K (.tup []) (upd mem fid (.box [I (cO s w p).1, I (cO s w p).2])) nx') :
  bO Tryz.prog 126 [I w, I p, .opt fid 0] mem nx K := by
 refine fi126.ct (by simp) fun hfr => ?_
 unfold cO at hk
 by_cases h1 : s.1 = 0
 ·rw [if_pos (.inl h1)] at hk
  simp -implicitDefEqProofs [ac126, hl, h1]
  exact ⟨_, aF _, hk _ (by omega)⟩
 ·by_cases h2 : p < s.2
  ·rw [if_pos (.inr h2)] at hk
   simp -implicitDefEqProofs [ac126, hl, h1, h2]
   exact ⟨_, aF _, hk _ (by omega)⟩
  ·rw [if_neg (by omega), cQ hl] at hk
   simp -implicitDefEqProofs [ac126, hl, h1, h2]
   exact ⟨_, aF _, hk _ (by omega)⟩
def j5 (P : List Fn) (pl : Sm) (op p : Int) (n : List UInt8) (k : Nat) (m : Sm) (s : Ft) : Ft :=
 if op = 6 ∧ dB m n = 0 then cO s 31 p else if op = 7 ∧ dB pl n = 0 then cO s 32 p else
 if op = 7 ∧ ((P[(dB pl n).toNat - 1]?.getD default).params.length ≠ k) then cO s 33 p else s
structure E6 (mem : Mem) (nx mid fid b5 pid b4 b1 : Nat) (P : List Fn) (pl : Sm) (m : Sm) (s : Ft) : Prop where
 lm : look mem mid = some (.map (bR m))
 lf : look mem fid = some (.box [I s.1, I s.2])
 l5 : look mem b5 = some (.box [.omap pid])
 lp : look mem pid = some (.map (bR pl))
 l4 : look mem b4 = some (.box [.fn 126 [.opt fid 0]])
 l1 : look mem b1 = some (.box [.sl (em aY P)])
 im : mid < nx
 if' : fid < nx
 i5 : b5 < nx
 ip : pid < nx
 i4 : b4 < nx
 i1 : b1 < nx
 mf : mid ≠ fid
 m5 : b5 ≠ mid
 mp : pid ≠ mid
 m4 : b4 ≠ mid
 m1 : b1 ≠ mid
 f5 : b5 ≠ fid
 fp : pid ≠ fid
 f4 : b4 ≠ fid
 f1 : b1 ≠ fid
def c9 (mem : Mem) (mid fid : Nat) (m : Sm) (s : Ft) : Mem := upd (upd mem fid (.box [I s.1, I s.2])) mid (.map (bR m))
theorem E6.cons {mem : Mem} {nx nx' mid fid b5 pid b4 b1 k : Nat} {P : List Fn} {pl m : Sm} {s : Ft} {b : Blk} (h : E6 mem nx mid fid b5 pid b4 b1 P pl m s) (hk : nx ≤ k) (hn : nx ≤ nx') : E6 ((k, b) :: mem) nx' mid fid b5 pid b4 b1 P pl m s := by
 have e : ∀ j, j < nx → look ((k, b) :: mem) j = look mem j := fun j hj => by
  simp only [look]; rw [if_neg (by omega)]
 exact ⟨(e _ h.im).trans h.lm, (e _ h.if').trans h.lf, (e _ h.i5).trans h.l5, (e _ h.ip).trans h.lp, (e _ h.i4).trans h.l4, (e _ h.i1).trans h.l1, Nat.lt_of_lt_of_le h.im hn, Nat.lt_of_lt_of_le h.if' hn, Nat.lt_of_lt_of_le h.i5 hn, Nat.lt_of_lt_of_le h.ip hn, Nat.lt_of_lt_of_le h.i4 hn, Nat.lt_of_lt_of_le h.i1 hn, h.mf, h.m5, h.mp, h.m4, h.m1, h.f5, h.fp, h.f4, h.f1⟩
theorem E6.up {mem : Mem} {nx nx' mid fid b5 pid b4 b1 : Nat} {P : List Fn} {pl m : Sm} {s : Ft} (h : E6 mem nx mid fid b5 pid b4 b1 P pl m s) (hn : nx ≤ nx') (m' : Sm) (s' : Ft) : E6 (c9 mem mid fid m' s') nx' mid fid b5 pid b4 b1 P pl m' s' := by
 have e : ∀ j, j ≠ fid → j ≠ mid → look (c9 mem mid fid m' s') j = look mem j := fun j h1 h2 => by
  unfold c9; rw [cB h2, cB h1]
 refine ⟨?_, ?_, (e _ h.f5 h.m5).trans h.l5, (e _ h.fp h.mp).trans h.lp, (e _ h.f4 h.m4).trans h.l4, (e _ h.f1 h.m1).trans h.l1, Nat.lt_of_lt_of_le h.im hn, Nat.lt_of_lt_of_le h.if' hn, Nat.lt_of_lt_of_le h.i5 hn, Nat.lt_of_lt_of_le h.ip hn, Nat.lt_of_lt_of_le h.i4 hn, Nat.lt_of_lt_of_le h.i1 hn, h.mf, h.m5, h.mp, h.m4, h.m1, h.f5, h.fp, h.f4, h.f1⟩
 ·unfold c9; rw [jO, cB h.mf, h.lm]; rfl
 ·unfold c9; rw [cB (Ne.symm h.mf), jO, h.lf]; rfl
theorem oD {mem : Mem} {nx mid fid b5 pid b4 b1 : Nat} {P : List Fn} {pl m : Sm} {s : Ft} (h : E6 mem nx mid fid b5 pid b4 b1 P pl m s) : c9 mem mid fid m s = mem := by
 unfold c9; rw [cQ h.lf, cQ h.lm]
theorem GV {mem : Mem} {mid fid : Nat} (h : mid ≠ fid) {m m' : Sm} {s s' : Ft} : c9 (c9 mem mid fid m s) mid fid m' s' = c9 mem mid fid m' s' := by
 unfold c9; rw [upd_comm (i := mid) (j := fid) h, jV, jV]
theorem memS_f {mem : Mem} {nx mid fid b5 pid b4 b1 : Nat} {P : List Fn} {pl m : Sm} {s : Ft} (h : E6 mem nx mid fid b5 pid b4 b1 P pl m s) (s' : Ft) : upd mem fid (.box [I s'.1, I s'.2]) = c9 mem mid fid m s' := by
 have : look (upd mem fid (.box [I s'.1, I s'.2])) mid = some (.map (bR m)) := (cB h.mf).trans h.lm
 unfold c9; exact (cQ this).symm
def plOk (P : List Fn) (pl : Sm) : Prop := ∀ n, 0 ≤ dB pl n ∧ dB pl n ≤ P.length
theorem ia_Fn {l : List Fn} {mem : Mem} {j : IntKind} {i : Int} : iaD mem 11 (.sl (em aY l)) (.pl (.int j i)) = if 0 ≤ i ∧ i < l.length then some (.pt [Tx (l[i.toNat]?.getD default).name, .sl (em bG (l[i.toNat]?.getD default).params), I (l[i.toNat]?.getD default).type, I (l[i.toNat]?.getD default).body.op, Tx (l[i.toNat]?.getD default).body.name, Tx (l[i.toNat]?.getD default).body.tail, I (l[i.toNat]?.getD default).body.type, CX (l[i.toNat]?.getD default).body.num.re (l[i.toNat]?.getD default).body.num.im, .sl (em aQ (l[i.toNat]?.getD default).body.args), I (l[i.toNat]?.getD default).body.at', I (l[i.toNat]?.getD default).at']) else none := by
 rw [← aR]
 exact iX fun f => by rw [aR]; rfl
attribute [simp] ia_Fn
theorem LX (e : Ex) {mem : Mem} {nx mid fid b5 pid b4 b1 : Nat} {P : List Fn} {pl m : Sm} {s : Ft} {K : KD} (h : E6 mem nx mid fid b5 pid b4 b1 P pl m s) (hp : plOk P pl) (hP : P.length < 2 ^ 40)
  (hk : ∀ nx', nx ≤ nx' → K (.tup []) (c9 mem mid fid m (j5 P pl e.op e.at' e.name e.args.length m s)) nx') :
  bO Tryz.prog 128 [.agg (aQ e), .omap mid, .opt b5 0, .opt b4 0, .opt b1 0] mem nx K := by
 refine fi128.ct (by simp) fun hfr => ?_
 have ht : ∀ (w p : Int) (nx2 : Nat), nx ≤ nx2 → ∀ K : KD, (∀ nx', nx2 ≤ nx' → K (.tup []) (c9 mem mid fid m (cO s w p)) nx') → bO Tryz.prog 126 [I w, I p, .opt fid 0] mem nx2 K := fun w p nx2 hn K hk2 =>
  HM s w p h.lf (Nat.lt_of_lt_of_le h.if' hn) (fun nx' hn' => by rw [memS_f h]; exact hk2 nx' hn')
 simp only [aA]
 unfold j5 at hk
 obtain ⟨hp0, hp1⟩ := hp e.name
 have w := aS (x := dB pl e.name - 1) (by omega) (by omega)
 by_cases h1 : e.op = 6
 ·by_cases h2 : dB m e.name = 0
  ·rw [if_pos ⟨h1, h2⟩] at hk
   simp -implicitDefEqProofs [ac128, h.lm, h.l5, h.lp, h.l4, h.l1, h1, h2]
   refine jL (ht _ _ _ (by omega) _ (fun n1 hn1 => ?_))
   simp -implicitDefEqProofs
   exact ⟨_, aF _, hk _ (by omega)⟩
  ·rw [if_neg (fun g => h2 g.2), if_neg (fun g => by omega), if_neg (fun g => by omega), oD h] at hk
   simp -implicitDefEqProofs [ac128, h.lm, h.l5, h.lp, h.l4, h.l1, h1, h2]
   exact ⟨_, aF _, hk _ (by omega)⟩
 ·rw [if_neg (fun g => h1 g.1)] at hk
  by_cases h3 : e.op = 7
  ·by_cases h4 : dB pl e.name = 0
   ·rw [if_pos ⟨h3, h4⟩] at hk
    simp -implicitDefEqProofs [ac128, h.lm, h.l5, h.lp, h.l4, h.l1, h1, h3, h4]
    refine jL (ht _ _ _ (by omega) _ (fun n1 hn1 => ?_))
    simp -implicitDefEqProofs
    exact ⟨_, aF _, hk _ (by omega)⟩
   ·rw [if_neg (fun g => h4 g.2)] at hk
    have b1 : (1 : Int) ≤ dB pl e.name := by omega
    have b2 : dB pl e.name - 1 < (P.length : Int) := by omega
    generalize hQ : (P[(dB pl e.name).toNat - 1]?.getD default) = Q at *
    by_cases h5 : Q.params.length = e.args.length
    ·rw [if_neg (fun g => g.2 h5), oD h] at hk
     simp -implicitDefEqProofs [ac128, h.lm, h.l5, h.lp, h.l4, h.l1, h1, h3, h4, w, b1, b2, hQ, h5]
     exact ⟨_, aF _, hk _ (by omega)⟩
    ·rw [if_pos ⟨h3, h5⟩] at hk
     have h6 : ¬ (Q.params.length : Int) = (e.args.length : Int) := by omega
     simp -implicitDefEqProofs [ac128, h.lm, h.l5, h.lp, h.l4, h.l1, h1, h3, h4, w, b1, b2, hQ, h5, h6]
     refine jL (ht _ _ _ (by omega) _ (fun n1 hn1 => ?_))
     simp -implicitDefEqProofs
     exact ⟨_, aF _, hk _ (by omega)⟩
  ·rw [if_neg (fun g => h3 g.1), if_neg (fun g => h3 g.1), oD h] at hk
   simp -implicitDefEqProofs [ac128, h.lm, h.l5, h.lp, h.l4, h.l1, h1, h3]
   exact ⟨_, aF _, hk _ (by omega)⟩
def i_ (m : Sm) (n : List UInt8) : Sm := fK m n (IntKind.i64.wrap (dB m n + 1))
def tK (m : Sm) (n : List UInt8) : Sm := fK m n (IntKind.i64.wrap (dB m n - 1))
mutual
def iT (P : List Fn) (pl : Sm) : Ex → Sm → Ft → Sm × Ft
 | .mk op n t _ _ args p, m, s => jB P pl op n t 0 args m (j5 P pl op p n args.length m s)
def jB (P : List Fn) (pl : Sm) (op : Int) (n t : List UInt8) (i : Nat) : List Ex → Sm → Ft → Sm × Ft
 | [], m, s => (m, s)
 | x :: xs, m, s => jB P pl op n t (i + 1) xs ((dV op n t i).foldl tK (iT P pl x ((dV op n t i).foldl i_ m) s).1) (iT P pl x ((dV op n t i).foldl i_ m) s).2
end
def WC (e : Ex) : Prop := ∀ ⦃mem : Mem⦄ ⦃nx mid fid b5 pid b4 b1 : Nat⦄ ⦃P : List Fn⦄ ⦃pl m : Sm⦄ ⦃s : Ft⦄ ⦃K : KD⦄, E6 mem nx mid fid b5 pid b4 b1 P pl m s → plOk P pl → P.length < 2 ^ 40 → size e ≤ 2 ^ 40 →
 (∀ nx', nx ≤ nx' → K (.tup []) (c9 mem mid fid (iT P pl e m s).1 (iT P pl e m s).2) nx') → bO Tryz.prog 127 [.agg (aQ e), .omap mid, .fn 128 [.opt b5 0, .opt b4 0, .opt b1 0]] mem nx K
theorem sC (op : Int) (n t : List UInt8) (i : Int) : (dV op n t i).length ≤ 2 := by
 unfold dV
 split
 ·simp
 ·split <;> simp
theorem kT : ∀ (l : List Ex), l.length ≤ aV l
 | [] => by simp [aV]
 | .mk .. :: es => by
  have := kT es
  simp only [aV, size, List.length_cons]; omega
theorem lE : ∀ {l : List Ex} {x : Ex}, x ∈ l → size x ≤ aV l
 | e :: es, x, h => by
  simp only [aV]
  rcases List.mem_cons.1 h with rfl | h
  ·omega
  ·have := lE h; omega
theorem walk_s (op : Int) (n t : List UInt8) (ty : Int) (z : Cx) (args : List Ex) (p : Int) (ih : ∀ x ∈ args, WC x) : WC (.mk op n t ty z args p) := by
 intro mem nx mid fid b5 pid b4 b1 P pl m s K h hp hP hsz hk
 have hal : args.length ≤ 2 ^ 40 := by
  have := kT args
  simp only [size] at hsz; omega
 have hv := fun (K : KD) (nx2 : Nat) (hn : nx ≤ nx2) (hk2 : ∀ nx', nx2 ≤ nx' → K (.tup []) (c9 mem mid fid m (j5 P pl op p n args.length m s)) nx') => LX (.mk op n t ty z args p) (mem := mem) (nx := nx2) (K := K) ((oD h) ▸ E6.up h hn m s) hp hP hk2
 have hR : iT P pl (.mk op n t ty z args p) m s = jB P pl op n t 0 args m (j5 P pl op p n args.length m s) := by simp only [iT]
 rw [hR] at hk
 clear hR
 generalize j5 P pl op p n args.length m s = s1 at *
 generalize hRR : jB P pl op n t 0 args m s1 = R at hk
 have hE : ∀ (nx' : Nat), nx ≤ nx' → ∀ m' s', E6 (c9 mem mid fid m' s') nx' mid fid b5 pid b4 b1 P pl m' s' := fun nx' hn m' s' => E6.up h hn m' s'
 have hL : ∀ m' s', look (c9 mem mid fid m' s') mid = some (.map (bR m')) := fun m' s' => (hE nx (Nat.le_refl _) m' s').lm
 have hU : ∀ m' s' m2, upd (c9 mem mid fid m' s') mid (.map (bR m2)) = c9 mem mid fid m2 s' := fun m' s' m2 => by unfold c9; rw [jV]
 have hM : ∀ m' s' m2 s2, c9 (c9 mem mid fid m' s') mid fid m2 s2 = c9 mem mid fid m2 s2 := fun m' s' m2 s2 => GV h.mf
 have hfr' : ∀ (hfr : ∀ i, nx ≤ i → look mem i = none) (i : Nat), nx ≤ i → ∀ m' s', look (c9 mem mid fid m' s') i = none := fun hfr i hi m' s' => by unfold c9; exact aH (aH (hfr i hi))
 have hB := LV (.mk op n t ty z args p)
 have hbF : ∀ i, o6 (.mk op n t ty z args p) i = dV op n t i := fun i => rfl
 simp only [hbF] at hB
 simp only [bE] at hv hB ⊢
 refine fi127.ct (by simp) fun hfr => ?_
 simp -implicitDefEqProofs [ac127]
 refine jL (hv _ _ (by omega) (fun n1 hn1 => ?_))
 simp -implicitDefEqProofs
 refine lpG cf127 lb127_2 [6, 7, 8, 10, 12, 20, 28, 29, 30, 43, 44, 45] (α := Nat × Sm × Ft) (fun s _ => [(20, I s.1)]) (fun s _ => c9 mem mid fid s.2.1 s.2.2) (fun s k => n1 ≤ k ∧ s.1 ≤ args.length ∧ jB P pl op n t s.1 (args.drop s.1) s.2.1 s.2.2 = R) (fun s => args.length - s.1) (0, m, s1) ⟨by omega, by simp, hRR⟩ (by simp) (by simp) ?_
 rintro ⟨i, m1, s2⟩ k ⟨hk1, hi, hw⟩
 simp only at hi hw
 by_cases hlt : i < args.length
 ·have hd : args.drop i = args[i] :: args.drop (i + 1) := List.drop_eq_getElem_cons hlt
  have hg : args[i]?.getD default = args[i] := by rw [List.getElem?_eq_getElem hlt]; rfl
  have hmem : args[i] ∈ args := List.getElem_mem hlt
  rw [hd] at hw
  unfold jB at hw
  obtain ⟨x, hxe⟩ : ∃ x, args[i] = x := ⟨_, rfl⟩
  rw [hxe] at hmem hw
  have hx := ih _ hmem
  have hsx : size x ≤ 2 ^ 40 := by
   have := lE hmem
   simp only [size] at hsz; omega
  have hbl := sC op n t i
  have hBi := hB i
  generalize dV op n t i = N at *
  have w1 := aS (x := (i : Int) + 1) (by omega) (by omega)
  unfold WC at hx
  simp only [aA] at hx
  simp -implicitDefEqProofs [lb127_2, hlt, hxe]
  refine aG (hBi) (by simp) ?_
  simp -implicitDefEqProofs
  have hb1 := h.im
  have hb2 := h.if'
  generalize hb7 : k + 1 + 3 = b7
  have hbm : ¬ b7 = mid := by omega
  have hbf : ¬ b7 = fid := by omega
  have hMc : ∀ (M : Mem) (b : Blk) (m' : Sm) (s' : Ft), c9 ((b7, b) :: M) mid fid m' s' = (b7, b) :: c9 M mid fid m' s' := fun M b m' s' => by
   unfold c9
   simp only [upd, hbm, hbf, if_false]
  have hEc : ∀ (b : Blk) (nx' : Nat), b7 < nx' → ∀ m' s', E6 ((b7, b) :: c9 mem mid fid m' s') nx' mid fid b5 pid b4 b1 P pl m' s' := fun b nx' hn m' s' => E6.cons (hE nx (Nat.le_refl _) m' s') (by omega) (by omega)
  refine lpG cf127 lb127_1 [10, 30] (α := Nat × Sm) (fun s _ => [(30, I s.1)]) (fun s _ => (b7, .box (aQ x)) :: c9 mem mid fid s.2 s2) (fun s k2 => b7 + 1 ≤ k2 ∧ s.1 ≤ N.length ∧ (N.drop s.1).foldl i_ s.2 = N.foldl i_ m1) (fun s => N.length - s.1) (0, m1) ⟨by omega, by simp, rfl⟩ (by simp) (by simp [aA]) ?_
  rintro ⟨j, m2⟩ k2 ⟨hk2, hj, hfo⟩
  simp only at hj hfo
  by_cases hjl : j < N.length
  ·have hd2 : N.drop j = N[j] :: N.drop (j + 1) := List.drop_eq_getElem_cons hjl
   rw [hd2] at hfo
   simp only [List.foldl_cons] at hfo
   have w2 := aS (x := (j : Int) + 1) (by omega) (by omega)
   simp -implicitDefEqProofs [lb127_1, hjl, hL, hbm, hU, w2]
   exact aI (j + 1, i_ m2 N[j]) ⟨by omega, hjl, hfo⟩ (by simp only; omega) (by simp) (by simp [i_])
  ·rw [List.drop_eq_nil_of_le (by omega)] at hfo
   simp only [List.foldl_nil] at hfo
   subst hfo
   generalize List.foldl i_ m1 N = m3 at *
   simp -implicitDefEqProofs [lb127_1, hjl, hbm, aA]
   refine aD (hx (hEc _ _ (by omega) _ _) hp hP hsx (fun n3 hn3 => ?_))
   generalize iT P pl x m3 s2 = r3 at *
   simp -implicitDefEqProofs [hMc, hM]
   refine lpG cf127 lb127_0 [12, 45] (α := Nat × Sm) (fun s _ => [(45, I s.1)]) (fun s _ => (b7, .box (aQ x)) :: c9 mem mid fid s.2 r3.2) (fun s k2 => b7 + 1 ≤ k2 ∧ s.1 ≤ N.length ∧ (N.drop s.1).foldl tK s.2 = N.foldl tK r3.1) (fun s => N.length - s.1) (0, r3.1) ⟨by omega, by simp, rfl⟩ (by simp) (by simp [aA]) ?_
   rintro ⟨j2, m4⟩ k4 ⟨hk4, hj2, hfo2⟩
   simp only at hj2 hfo2
   by_cases hjl2 : j2 < N.length
   ·have hd2 : N.drop j2 = N[j2] :: N.drop (j2 + 1) := List.drop_eq_getElem_cons hjl2
    rw [hd2] at hfo2
    simp only [List.foldl_cons] at hfo2
    have w2 := aS (x := (j2 : Int) + 1) (by omega) (by omega)
    simp -implicitDefEqProofs [lb127_0, hjl2, hL, hbm, hU, w2]
    exact aI (j2 + 1, tK m4 N[j2]) ⟨by omega, hjl2, hfo2⟩ (by simp only; omega) (by simp) (by simp [tK])
   ·rw [List.drop_eq_nil_of_le (by omega)] at hfo2
    simp only [List.foldl_nil] at hfo2
    subst hfo2
    simp -implicitDefEqProofs [lb127_0, hjl2, w1]
    refine aI (i + 1, _, r3.2) ⟨by omega, hlt, hw⟩ (by simp only; omega) (by simp) (aN (aK _) (hfr' hfr _ (by omega) _ _))
 ·have he : args.drop i = [] := List.drop_eq_nil_of_le (by omega)
  rw [he] at hw
  unfold jB at hw
  simp -implicitDefEqProofs [lb127_2, hlt]
  rw [← hw] at hk
  exact ⟨_, aF _, hk _ (by omega)⟩
mutual
theorem FX : ∀ (e : Ex), WC e
 | .mk op n t ty z args p => walk_s op n t ty z args p (CH args)
theorem CH : ∀ (l : List Ex), ∀ x ∈ l, WC x
 | [], x, h => by simp at h
 | e :: es, x, h => (List.mem_cons.1 h).elim (fun he => he ▸ FX e) (fun h => CH es x h)
end
end Go.Fx.YtlhdpfaohphbaaaGreat
namespace Go.Fx
open Go
section
variable {P : Program} {f : FuncId} {args args' : List D} {mem mf : Mem} {nx : Nat} {K : KD}
theorem sW {v0 : Value} (h1 : cD mem mf) (hfr : gL mf 100 args = some args') (hp : Pure P f args' (.pl v0)) (hk : K (.pl v0) mem nx) : bO P f args mem nx K := by
 refine ⟨hp.1, fun S φ w xs hm hx => ?_⟩
 have hmf : MSim S φ mf nx w := gA hm (gI h1) (Nat.le_refl _)
 have hargs := iU hmf 100 args args' xs hfr hx
 have hS2 : ∀ b, SF S φ mf b → b < w.heap.size := by
  rintro b (h | ⟨i, blk, l, _, g2, g3, rfl⟩)
  ·exact hm.sub b h
  ·exact hm.lt i l g2 g3
 refine (hp.2 (SF S φ mf) w xs hS2 hargs).mono ?_
 rintro e w' ⟨v, S', rfl, hr, hx', hS'⟩
 have hsame : ∀ b, b < w.heap.size → w'.heap[b]? = w.heap[b]? := fun b hb => hx'.keep b hb (by rintro ⟨i, blk, l, h1, _⟩; simp [look] at h1)
 have hst : Stays w S φ w' S φ := Stays.of_heap (fun _ h => h) (fun b hb => hsame b (hm.sub b hb)) (fun _ _ h => h)
 refine ⟨v, .pl v0, mem, nx, S, φ, rfl, hk, Nat.le_refl _, ⟨?_, hm.inj, ?_, hm.fresh, fun b hb => Nat.lt_of_lt_of_le (hm.sub b hb) hx'.size⟩, by simpa [Rep] using hr, hst,
  ⟨fun b hb => hb, fun b hb _ => hsame b hb, hx'.size, fun b _ h => h, fun b hb => .inl hb, hx'.os, hx'.output, hx'.tape⟩, fun _ _ h => h⟩
 ·intro i blk hi
  obtain ⟨l, g1, g2, g3⟩ := hm.mem i blk hi
  exact ⟨l, g1, g2, g3.mono hst fun hr => hsame _ (hm.lt i l g1 hr)⟩
 ·intro i l g1 g2
  exact Nat.lt_of_lt_of_le (hm.lt i l g1 g2) hx'.size
end
end Go.Fx
namespace Go.Fx.YtlhdpfaohphbaaaGreat
open Go Go.Fx Go.Proofs Go.Fx.Flt
theorem sK {α : Type} {enc : α → List D} {l : List α} {mem : Mem} {k : Nat} (h : ∀ x, (enc x).all D.cell = true) (hk : ∀ x, (enc x).length = k) : els mem k (.sl (em enc l)) = some (em enc l) := by
 show (if (em enc l).all (fun e => e.length == k && e.all D.cell) = true then some (em enc l) else none) = _
 rw [if_pos (FC h hk)]
theorem t_ {l : List (List UInt8)} {mem : Mem} : els mem 1 (.sl (em a9 l)) = some (em a9 l) := sK (fun x => rfl) (fun x => rfl)
attribute [simp 1200] t_
theorem imm_T (l : List (List UInt8)) : D.immss (em a9 l) = true := gQ fun f => by simp [a9]
attribute [simp] imm_T
def dR : List (List UInt8) → List UInt8 → Bool
 | [], _ => false
 | x :: xs, n => if x = n then true else dR xs n
theorem yK (l : List (List UInt8)) (n : List UInt8) (hl : l.length < 2 ^ 40) : Pure Tryz.prog 17 [.sl (em a9 l), Tx n] (.pl (.bool (dR l n))) := by
 refine fi17.pu (by simp) ?_
 simp -implicitDefEqProofs [ac17]
 generalize hR : dR l n = R
 refine lpG cf17 lb17_0 [4, 5] (α := Nat) (fun s _ => [(5, I s)]) (fun s _ => []) (fun s k => s ≤ l.length ∧ dR (l.drop s) n = R) (fun s => l.length - s) 0 ⟨by simp, hR⟩ (by simp) (by simp) ?_
 rintro i k ⟨hi, hr⟩
 by_cases hlt : i < l.length
 ·have hd : l.drop i = l[i] :: l.drop (i + 1) := List.drop_eq_getElem_cons hlt
  rw [hd] at hr
  unfold dR at hr
  have w1 := aS (x := (i : Int) + 1) (by omega) (by omega)
  by_cases hg : l[i] = n
  ·rw [if_pos hg] at hr
   subst hr
   simp -implicitDefEqProofs [lb17_0, hlt, hg]
  ·rw [if_neg hg] at hr
   simp -implicitDefEqProofs [lb17_0, hlt, hg, w1]
   exact aI (i + 1) ⟨hlt, hr⟩ (by omega) (by simp) (by simp)
 ·rw [List.drop_eq_nil_of_le (by omega)] at hr
  unfold dR at hr
  subst hr
  simp -implicitDefEqProofs [lb17_0, hlt]
theorem M9 (e : Ex) (i : Int) : Pure Tryz.prog 131 [.agg (aQ e), I i] (.sl (em a9 (o6 e i))) := by
 refine fi131.pu (by simp) ?_
 simp only [aA, o6]
 generalize e.op = op
 unfold dV
 by_cases h1 : op = 21
 ·simp -implicitDefEqProofs [ac131, h1]; rfl
 ·by_cases h2 : op = 22
  ·by_cases h3 : i = 1
   ·simp -implicitDefEqProofs [ac131, h1, h2, h3]; rfl
   ·simp -implicitDefEqProofs [ac131, h1, h2, h3]
  ·by_cases h4 : op = 20
   ·by_cases h3 : i = 2
    ·simp -implicitDefEqProofs [ac131, h1, h2, h3, h4]; rfl
    ·simp -implicitDefEqProofs [ac131, h1, h2, h3, h4]
   ·simp -implicitDefEqProofs [ac131, h1, h2, h4]
def aP : List Fn → Nat → List UInt8 → Int
 | [], _, _ => -1
 | f :: fs, k, n => if f.name = n then k else aP fs (k + 1) n
theorem CV (P : List Fn) (n : List UInt8) (hl : P.length < 2 ^ 40) : Pure Tryz.prog 108 [.agg [.sl (em aY P)], Tx n] (I (aP P 0 n)) := by
 refine fi108.pu (by simp) ?_
 simp -implicitDefEqProofs [ac108]
 generalize hR : aP P 0 n = R
 refine lpG cf108 lb108_0 [4, 5] (α := Nat) (fun s _ => [(5, I s)]) (fun s _ => []) (fun s k => s ≤ P.length ∧ aP (P.drop s) s n = R) (fun s => P.length - s) 0 ⟨by simp, hR⟩ (by simp) (by simp) ?_
 rintro i k ⟨hi, hr⟩
 by_cases hlt : i < P.length
 ·have hd : P.drop i = P[i] :: P.drop (i + 1) := List.drop_eq_getElem_cons hlt
  rw [hd] at hr
  unfold aP at hr
  obtain ⟨x, hxe⟩ : ∃ x, P[i] = x := ⟨_, rfl⟩
  rw [hxe] at hr
  have w1 := aS (x := (i : Int) + 1) (by omega) (by omega)
  by_cases hg : x.name = n
  ·rw [if_pos hg] at hr
   subst hr
   simp -implicitDefEqProofs [lb108_0, hlt, hxe, hg]
  ·rw [if_neg hg] at hr
   simp -implicitDefEqProofs [lb108_0, hlt, hxe, hg, w1]
   exact aI (i + 1) ⟨hlt, hr⟩ (by omega) (by simp) (by simp)
 ·rw [List.drop_eq_nil_of_le (by omega)] at hr
  unfold aP at hr
  subst hr
  simp -implicitDefEqProofs [lb108_0, hlt]
theorem GT (l k : List (List UInt8)) (hl : l.length < 2 ^ 40) (hk : k.length < 2 ^ 40) : Pure Tryz.prog 48 [.sl (em a9 l), .sl (em a9 k)] (.sl (em a9 (l ++ k))) := by
 refine fi48.pu (by simp) ?_
 have b1 : l.length * 16 ≤ 3 * 2 ^ 46 := by omega
 have b2 : (l.length + k.length) * 16 ≤ 3 * 2 ^ 46 := by omega
 simp -implicitDefEqProofs [-els, ac48, b1, b2]
 rw [List.take_of_length_le (by simp)]
abbrev Sn := Ex × Bool
def jG (s : Sn) : List D := aQ s.1 ++ [.pl (.bool s.2)]
theorem cA (s : Sn) : jG s = [I s.1.op, Tx s.1.name, Tx s.1.tail, I s.1.type, CX s.1.num.re s.1.num.im, .sl (em aQ s.1.args), I s.1.at', .pl (.bool s.2)] := by
 unfold jG; rw [aA]; rfl
theorem G_ {l : List Sn} {mem : Mem} : els mem 8 (.sl (em jG l)) = some (em jG l) := sK (fun x => by rw [cA]; rfl) (fun x => by rw [cA]; rfl)
attribute [simp 1200] G_
theorem imm_Sn (l : List Sn) : D.immss (em jG l) = true := gQ fun f => by rw [cA]; simp
attribute [simp] imm_Sn
theorem ia_Sn {l : List Sn} {mem : Mem} {j : IntKind} {i : Int} : iaD mem 8 (.sl (em jG l)) (.pl (.int j i)) = if 0 ≤ i ∧ i < l.length then some (.pt [I (l[i.toNat]?.getD default).1.op, Tx (l[i.toNat]?.getD default).1.name, Tx (l[i.toNat]?.getD default).1.tail, I (l[i.toNat]?.getD default).1.type, CX (l[i.toNat]?.getD default).1.num.re (l[i.toNat]?.getD default).1.num.im, .sl (em aQ (l[i.toNat]?.getD default).1.args), I (l[i.toNat]?.getD default).1.at', .pl (.bool (l[i.toNat]?.getD default).2)]) else none := by
 rw [← cA]
 exact iX fun f => by rw [cA]; rfl
attribute [simp] ia_Sn
mutual
def dX : Ex → List (List UInt8) → List Sn
 | .mk op n t ty z args p, N => (if op = 6 ∨ op = 7 then [(.mk op n t ty z args p, op = 6 && !dR N n)] else []) ++ dO op n t 0 args N
def dO (op : Int) (n t : List UInt8) (i : Nat) : List Ex → List (List UInt8) → List Sn
 | [], _ => []
 | x :: xs, N => dX x (N ++ dV op n t i) ++ dO op n t (i + 1) xs N
end
mutual
theorem oH : ∀ (e : Ex) (N : List (List UInt8)), (dX e N).length ≤ size e
 | .mk op n t ty z args p, N => by
  have := qC op n t 0 args N
  unfold dX size
  rw [List.length_append]
  split <;> simp <;> omega
theorem qC (op : Int) (n t : List UInt8) (i : Nat) : ∀ (l : List Ex) (N : List (List UInt8)), (dO op n t i l N).length ≤ aV l
 | [], N => by simp [dO, aV]
 | x :: xs, N => by
  have h1 := oH x (N ++ dV op n t i)
  have h2 := qC op n t (i + 1) xs N
  unfold dO aV
  rw [List.length_append]; omega
end
def SC (e : Ex) : Prop := ∀ ⦃N : List (List UInt8)⦄, N.length + 2 * size e < 2 ^ 39 → Pure Tryz.prog 109 [.agg (aQ e), .sl (em a9 N)] (.sl (em jG (dX e N)))
theorem seen_s (op : Int) (n t : List UInt8) (ty : Int) (z : Cx) (args : List Ex) (p : Int) (ih : ∀ x ∈ args, SC x) : SC (.mk op n t ty z args p) := by
 intro N hN
 have hal := kT args
 have hsl := qC op n t 0 args N
 have hR : dX (.mk op n t ty z args p) N = (if op = 6 ∨ op = 7 then [(.mk op n t ty z args p, op = 6 && !dR N n)] else []) ++ dO op n t 0 args N := by simp only [dX]
 have hlen : (dX (.mk op n t ty z args p) N).length ≤ 2 ^ 39 := by have := oH (.mk op n t ty z args p) N; omega
 simp only [size] at hN
 have hH := yK N n (by omega)
 have hB := M9 (.mk op n t ty z args p)
 have hbF : ∀ i, o6 (.mk op n t ty z args p) i = dV op n t i := fun i => rfl
 simp only [hbF] at hB
 generalize hRR : dX (.mk op n t ty z args p) N = R at *
 clear hRR
 simp only [bE] at hB ⊢
 -- the loop
 have loop : ∀ (id nx : Nat) (l0 : List Sn) (es : List (List D)) (n0 : Nat) (Q : Exit → St → Prop), es = em jG l0 → n0 = l0.length → id < nx → l0 ++ dO op n t 0 args N = R → (∀ v nx', Q (.exit 0) ⟨[(0, .agg [I op, Tx n, Tx t, I ty, CX z.re z.im, .sl (em aQ args), I p]), (1, .sl (em a9 N)), (2, .pt [I op, Tx n, Tx t, I ty, CX z.re z.im, .sl (em aQ args), I p]), (4, .pl (.slice none 0 0)), (5, .osl id v 0 R.length), (6, I args.length), (7, .top), (8, .top)], [], [(id, .arr v 8 (em jG R))], nx'⟩) →
   A cf109 (.loop lb109_0) Q [(0, .agg [I op, Tx n, Tx t, I ty, CX z.re z.im, .sl (em aQ args), I p]), (1, .sl (em a9 N)), (2, .pt [I op, Tx n, Tx t, I ty, CX z.re z.im, .sl (em aQ args), I p]), (4, .pl (.slice none 0 0)), (5, .osl id 0 0 n0), (6, I 0), (7, .pl undef), (8, .pl undef)] [(id, .arr 0 8 es)] nx := by
  rintro id nx l0 _ _ Q rfl rfl hid hl0 hq
  refine lpG cf109 lb109_0 [5, 6, 7, 8] (α := Nat × Nat × List Sn) (fun s _ => [(5, .osl id s.2.1 0 s.2.2.length), (6, I s.1), (7, .top), (8, .top)]) (fun s _ => [(id, .arr s.2.1 8 (em jG s.2.2))]) (fun s k => id < k ∧ s.1 ≤ args.length ∧ s.2.2 ++ dO op n t s.1 (args.drop s.1) N = R) (fun s => args.length - s.1) (0, 0, l0) ⟨hid, by simp, hl0⟩ (by simp) (by simp) ?_
  rintro ⟨i, v, l⟩ k ⟨hk, hi, hr⟩
  simp only at hi hr
  by_cases hlt : i < args.length
  ·have hd : args.drop i = args[i] :: args.drop (i + 1) := List.drop_eq_getElem_cons hlt
   have hmem : args[i] ∈ args := List.getElem_mem hlt
   rw [hd] at hr
   unfold dO at hr
   obtain ⟨x, hxe⟩ : ∃ x, args[i] = x := ⟨_, rfl⟩
   rw [hxe] at hr hmem
   have w1 := aS (x := (i : Int) + 1) (by omega) (by omega)
   have hbl := sC op n t i
   have hBi := hB i
   have hsx := lE hmem
   have hs1 : 1 ≤ size x := by cases x; simp only [size]; omega
   have hW := GT N (dV op n t i) (by omega) (by omega)
   generalize dV op n t i = M at *
   have hS := ih x hmem (N := N ++ M) (by rw [List.length_append]; omega)
   simp only [aA] at hS
   generalize dX x (N ++ M) = T at *
   have hb : (l.length + T.length) * 104 ≤ 3 * 2 ^ 46 := by
    have := congrArg List.length hr
    simp only [List.length_append] at this; omega
   simp -implicitDefEqProofs [-els, lb109_0, hlt, hxe]
   refine aG (hBi) (by simp) ?_
   simp -implicitDefEqProofs
   refine aG (hW) (by simp) ?_
   simp -implicitDefEqProofs [hlt, hxe]
   refine aG hS (by simp) ?_
   simp -implicitDefEqProofs [-els, G_, hb, w1]
   exact aI (i + 1, v + 1, l ++ T) ⟨by omega, hlt, by rw [List.append_assoc]; exact hr⟩ (by simp only; omega) (by simp) (by simp)
  ·rw [List.drop_eq_nil_of_le (by omega)] at hr
   unfold dO at hr
   rw [List.append_nil] at hr
   subst hr
   have hia : i = args.length := by omega
   subst hia
   simp -implicitDefEqProofs [lb109_0]
   exact hq _ _
 refine fi109.pu (by simp) ?_
 by_cases h6 : op = 6
 ·subst h6
  rw [if_pos (.inl rfl)] at hR
  simp -implicitDefEqProofs [ac109]
  refine aG (hH) (by simp) ?_
  simp -implicitDefEqProofs
  refine loop _ _ _ _ _ _ ?_ (by rfl) ?_ hR.symm (fun v nx2 => ?_) <;> first | omega | (simp [em, cA, Ex.op, Ex.name, Ex.tail, Ex.type, Ex.num, Ex.args, Ex.at']; done) | skip
  simp -implicitDefEqProofs
 ·by_cases h7 : op = 7
  ·subst h7
   rw [if_pos (.inr rfl)] at hR
   simp -implicitDefEqProofs [ac109]
   refine loop _ _ _ _ _ _ ?_ (by rfl) ?_ hR.symm (fun v nx2 => ?_) <;> first | omega | (simp [em, cA, Ex.op, Ex.name, Ex.tail, Ex.type, Ex.num, Ex.args, Ex.at']; done) | skip
   simp -implicitDefEqProofs
  ·rw [if_neg (by omega)] at hR
   simp -implicitDefEqProofs [ac109, h6, h7]
   refine cW (j := 5) (k := 8) rfl (.inl rfl) ?_
   simp -implicitDefEqProofs
   refine loop _ _ _ _ _ _ ?_ (by rfl) ?_ hR.symm (fun v nx2 => ?_) <;> first | omega | (simp [em, cA, Ex.op, Ex.name, Ex.tail, Ex.type, Ex.num, Ex.args, Ex.at']; done) | skip
   simp -implicitDefEqProofs
mutual
theorem F0 : ∀ (e : Ex), SC e
 | .mk op n t ty z args p => seen_s op n t ty z args p (CQ args)
theorem CQ : ∀ (l : List Ex), ∀ x ∈ l, SC x
 | [], x, h => by simp at h
 | e :: es, x, h => (List.mem_cons.1 h).elim (fun he => he ▸ F0 e) (fun h => CQ es x h)
end
abbrev gK (s : Ft) : List D := [I s.1, I s.2]
def bU : List Pm → List (List UInt8) → List Ft
 | [], _ => []
 | x :: xs, N => (if dR N x.name = true then [(30, x.at')] else []) ++ bU xs (N ++ [x.name])
def i6 (P : List Fn) (e : Ex) : List Ft := if e.op ≠ 7 then [] else if aP P 0 e.name < 0 then [(32, e.at')] else if (P[(aP P 0 e.name).toNat]?.getD default).params.length ≠ e.args.length then [(33, e.at')] else []
def aW (P : List Fn) : List Sn → List Ft
 | [] => []
 | s :: r => ((if s.2 = true then [(31, s.1.at')] else []) ++ i6 P s.1) ++ aW P r
def dE (f : Fn) : List (List UInt8) := f.params.map Pm.name
def fnF (P : List Fn) (i : Nat) (f : Fn) : List Ft := (if aP P 0 f.name < i then [(30, f.at')] else []) ++ bU f.params [] ++ aW P (dX f.body (dE f))
def fX (P : List Fn) : List Fn → Nat → List Ft
 | [], _ => []
 | f :: fs, i => fnF P i f ++ fX P fs (i + 1)
theorem eK (l : List Ft) (a b : Int) : em gK l ++ [[.pl (.int .i64 a), .pl (.int .i64 b)]] = em gK (l ++ [(a, b)]) := fP (enc := gK) (x := (a, b))
theorem hJ {α : Type} (l : List α) (a : α) : List.take (l.length + 1) (l ++ [a]) = l ++ [a] := List.take_of_length_le (by simp)
theorem snocT (l : List (List UInt8)) (a : List UInt8) : em a9 l ++ [[Tx a]] = em a9 (l ++ [a]) := fP (enc := a9) (x := a)
theorem imm_Ft (l : List Ft) : D.immss (em gK l) = true := gQ fun f => by simp [gK]
attribute [simp] imm_Ft
theorem HH : ∀ (e : Ex), e.args.length ≤ size e
 | .mk op n t ty z args p => by
  have := kT args
  simp only [size, Ex.args]; omega
theorem eT : ∀ (l : List Fn) (k : Nat) (n : List UInt8), aP l k n = -1 ∨ (k : Int) ≤ aP l k n ∧ aP l k n < k + l.length
 | [], k, n => .inl rfl
 | f :: fs, k, n => by
  unfold aP
  split
  ·right; simp only [List.length_cons]; omega
  ·have := eT fs (k + 1) n
   simp only [List.length_cons]; omega
abbrev env6 (P : List Fn) (i : Nat) (a b c d e f g h : D) : Env := [(0, .agg [.sl (em aY P)]), (1, .pt [.sl (em aY P)]), (2, .pl (.slice none 0 0)), (3, a), (4, I i), (5, b), (6, c), (7, d), (8, e), (9, f), (10, g), (11, h)]
theorem BF {P : List Fn} {i id nx b5 v : Nat} {x : Fn} {l : List Ft} {n0 : Nat} {Q : Exit → St → Prop} (h0 : n0 = l.length) (h1 : id < b5) (h2 : b5 < nx) (hx : x.params.length ≤ 2 ^ 40) (hl : (l ++ bU x.params []).length * 16 ≤ 3 * 2 ^ 46)
  (hq : ∀ v' nx', nx ≤ nx' → Q (.exit 2) ⟨env6 P i (.osl id v' 0 (l ++ bU x.params []).length) (.opt b5 0) (.sl (em a9 (dE x))) (I x.params.length) .top .top .top .top, [], [(b5, .box (aY x)), (id, .arr v' 2 (em gK (l ++ bU x.params [])))], nx'⟩) :
  A cf78 (.loop lb78_1) Q (env6 P i (.osl id v 0 n0) (.opt b5 0) (.pl (.slice none 0 0)) (I 0) .top .top .top .top) [(b5, .box (aY x)), (id, .arr v 2 (em gK l))] nx := by
 subst h0
 refine cW (j := 6) (k := 1) rfl (.inl rfl) ?_
 refine jD ?_
 have hbid : (b5 = id) = False := eq_false (by omega)
 generalize hR : l ++ bU x.params [] = R at *
 refine lpG cf78 lb78_1 [3, 6, 7] (α := Nat × Nat × List Ft × Nat × List (List UInt8)) (fun s _ => [(3, .osl id s.2.1 0 s.2.2.1.length), (6, .osl nx s.2.2.2.1 0 s.2.2.2.2.length), (7, I s.1)]) (fun s _ => [(nx, .arr s.2.2.2.1 1 (em a9 s.2.2.2.2)), (b5, .box (aY x)), (id, .arr s.2.1 2 (em gK s.2.2.1))]) (fun s k => nx < k ∧ s.1 ≤ x.params.length ∧ s.2.2.2.2 = (dE x).take s.1 ∧ s.2.2.1 ++ bU (x.params.drop s.1) s.2.2.2.2 = R) (fun s => x.params.length - s.1) (0, v, l, 0, []) ⟨by omega, by simp, by simp, hR⟩ (by simp [upd]) (by simp) ?_
 rintro ⟨j, v1, l1, v2, N⟩ k ⟨hk, hj, hN, hr⟩
 simp only at hj hN hr
 have g1 : id < nx := by omega
 have g2 : id < k := by omega
 have g3 : b5 < k := by omega
 have g4 : (nx = id) = False := eq_false (by omega)
 have g5 : (nx = b5) = False := eq_false (by omega)
 have hNl : N.length = j := by rw [hN, List.length_take]; simp [dE]; omega
 by_cases hlt : j < x.params.length
 ·have hd : x.params.drop j = x.params[j] :: x.params.drop (j + 1) := List.drop_eq_getElem_cons hlt
  have hN1 : N ++ [x.params[j].name] = (dE x).take (j + 1) := by
   rw [hN, List.take_add_one]; simp [dE, hlt]
  rw [hd] at hr
  unfold bU at hr
  obtain ⟨y, hye⟩ : ∃ y, x.params[j] = y := ⟨_, rfl⟩
  rw [hye] at hr hN1
  have w1 := aS (x := (j : Int) + 1) (by omega) (by omega)
  have hH := yK N y.name (by omega)
  have hb2 : (N.length + 1) * 16 ≤ 3 * 2 ^ 46 := by omega
  by_cases hg : dR N y.name = true
  ·rw [if_pos hg] at hr
   rw [hg] at hH
   have hb : (l1.length + 1) * 16 ≤ 3 * 2 ^ 46 := by
    have := congrArg List.length hr
    simp only [List.length_append, List.length_cons, List.length_nil] at this; omega
   simp -implicitDefEqProofs [lb78_1, aR, g2, g3, g4, g5, hk, neC g2, neC g3, neC hk, neA, ltA, hbid, hlt, hye]
   refine aD (sW (aF _) (by simp [gL, frz, g4, g5, hbid]) hH ?_)
   simp -implicitDefEqProofs [aR, g2, g3, g4, g5, hk, neC g2, neC g3, neC hk, neA, ltA, hbid, hlt, hye, hb, hb2, w1, eK, snocT]
   exact aI (j + 1, v1 + 1, l1 ++ [(30, y.at')], v2 + 1, N ++ [y.name]) ⟨by omega, hlt, hN1, by rw [List.append_assoc]; exact hr⟩ (by simp only; omega) (by simp) (by simp [aR])
  ·rw [if_neg hg, List.nil_append] at hr
   have hg' : dR N y.name = false := by simpa using hg
   rw [hg'] at hH
   simp -implicitDefEqProofs [lb78_1, aR, g2, g3, g4, g5, hk, neC g2, neC g3, neC hk, neA, ltA, hbid, hlt, hye]
   refine aD (sW (aF _) (by simp [gL, frz, g4, g5, hbid]) hH ?_)
   simp -implicitDefEqProofs [aR, g2, g3, g4, g5, hk, neC g2, neC g3, neC hk, neA, ltA, hbid, hlt, hye, hb2, w1, eK, snocT]
   exact aI (j + 1, v1, l1, v2 + 1, N ++ [y.name]) ⟨by omega, hlt, hN1, hr⟩ (by simp only; omega) (by simp) (by simp [aR])
 ·have hje : j = x.params.length := by omega
  subst hje
  rw [List.drop_eq_nil_of_le (Nat.le_refl _)] at hr
  unfold bU at hr
  rw [List.append_nil] at hr
  have hNn : N = dE x := by rw [hN]; exact List.take_of_length_le (by simp [dE])
  subst hNn
  subst hr
  simp -implicitDefEqProofs [lb78_1, aR, g2, g3, g4, g5, hk, neC g2, neC g3, neC hk, neA, ltA, hbid]
  refine mH (j := 6) (d' := .sl (em a9 (dE x))) [(nx, .arr v2 1 (em a9 (dE x)))] [(b5, .box (aY x)), (id, .arr v1 2 (em gK l1))] rfl (by simp [frz, look]) ?_ ?_ ?_ (by simpa [upd] using hq v1 _ (by omega))
  ·exact lL (iO _)
  ·rw [aR]; exact aE (aF _) (by simp only [look]; rw [if_neg (by omega), if_neg (by omega)])
  ·intro m
   by_cases hm : nx = m
   ·subst hm; right; simp only [look]; rw [if_neg (by omega), if_neg (by omega)]
   ·left; simp [look, hm]
theorem AZ {P : List Fn} {i id nx b5 v : Nat} {x : Fn} {l : List Ft} {T : List Sn} {c d : D} {n0 : Nat} {Q : Exit → St → Prop} (h0 : n0 = l.length) (hP : P.length < 2 ^ 40) (h1 : id < b5) (h2 : b5 < nx) (hT : T.length ≤ 2 ^ 40) (hTa : ∀ s ∈ T, s.1.args.length ≤ 2 ^ 40) (hl : (l ++ aW P T).length * 16 ≤ 3 * 2 ^ 46)
  (hq : ∀ v' nx', nx ≤ nx' → Q (.exit 4) ⟨env6 P i (.osl id v' 0 (l ++ aW P T).length) (.opt b5 0) c d (.sl (em jG T)) (I T.length) .top .top, [], [(b5, .box (aY x)), (id, .arr v' 2 (em gK (l ++ aW P T)))], nx'⟩) :
  A cf78 (.loop lb78_0) Q (env6 P i (.osl id v 0 n0) (.opt b5 0) c d (.sl (em jG T)) (I 0) .top .top) [(b5, .box (aY x)), (id, .arr v 2 (em gK l))] nx := by
 subst h0
 have hbid : (b5 = id) = False := eq_false (by omega)
 generalize hR : l ++ aW P T = R at *
 refine lpG cf78 lb78_0 [3, 9, 10, 11] (α := Nat × Nat × List Ft) (fun s _ => [(3, .osl id s.2.1 0 s.2.2.length), (9, I s.1), (10, .top), (11, .top)]) (fun s _ => [(b5, .box (aY x)), (id, .arr s.2.1 2 (em gK s.2.2))]) (fun s k => nx ≤ k ∧ s.1 ≤ T.length ∧ s.2.2 ++ aW P (T.drop s.1) = R) (fun s => T.length - s.1) (0, v, l) ⟨by omega, by simp, hR⟩ (by simp) (by simp) ?_
 rintro ⟨j, v1, l1⟩ k ⟨hk, hj, hr⟩
 simp only at hj hr
 have g2 : id < k := by omega
 have g3 : b5 < k := by omega
 by_cases hlt : j < T.length
 ·have hd : T.drop j = T[j] :: T.drop (j + 1) := List.drop_eq_getElem_cons hlt
  have hmem : T[j] ∈ T := List.getElem_mem hlt
  rw [hd] at hr
  unfold aW at hr
  obtain ⟨y, hye⟩ : ∃ y, T[j] = y := ⟨_, rfl⟩
  rw [hye] at hr hmem
  have w1 := aS (x := (j : Int) + 1) (by omega) (by omega)
  have hb : ∀ z : List Ft, z.length ≤ ((if y.2 = true then [(31, y.1.at')] else []) ++ i6 P y.1).length → (l1.length + z.length) * 16 ≤ 3 * 2 ^ 46 := by
   intro z hz
   have := congrArg List.length hr
   simp only [List.length_append] at this hz; omega
  have hH := CV P y.1.name hP
  have hha := hTa y hmem
  have hhl := eT P 0 y.1.name
  unfold i6 at hr hb
  generalize aP P 0 y.1.name = at' at *
  cases hy2 : y.2 with
  | true =>
   by_cases h7 : y.1.op = 7
   ·by_cases ha : at' < 0
    ·simp only [hy2, h7, ha, if_true, if_false, ne_eq, not_true, not_false_eq_true, Bool.false_eq_true, reduceIte, List.nil_append, List.append_nil, List.cons_append] at hr hb
     have b1 := hb [(31, y.1.at')] (by simp)
     have b2 := hb [(31, y.1.at'), (32, y.1.at')] (by simp)
     simp only [List.length_cons, List.length_nil] at b1 b2
     simp -implicitDefEqProofs [lb78_0, aR, cA, g2, g3, neC g2, neC g3, neA, ltA, hbid, hlt, hye, hy2, h7, b1, b2, eK, hJ, List.append_assoc, w1]
     refine aG hH (by simp) ?_
     simp -implicitDefEqProofs [aR, cA, g2, g3, neC g2, neC g3, neA, ltA, hbid, hlt, hye, hy2, h7, ha, b1, b2, eK, hJ, List.append_assoc, w1]
     exact aI (j + 1, v1 + 2, l1 ++ [(31, y.1.at'), (32, y.1.at')]) ⟨by omega, hlt, by rw [List.append_assoc]; exact hr⟩ (by simp only; omega) (by simp) (by simp only [aR]; exact aN (aK _) (by simp only [look]; rw [if_neg (by omega), if_neg (by omega)]))
    ·have na : at' < P.length := by omega
     have na0 : 0 ≤ at' := by omega
     have hil : at'.toNat < P.length := by omega
     obtain ⟨q, hq1⟩ : ∃ q, P[at'.toNat] = q := ⟨_, rfl⟩
     have hq2 : P[at'.toNat]?.getD default = q := by rw [List.getElem?_eq_getElem hil]; exact hq1
     simp only [hq2] at hr hb
     by_cases hcn : q.params.length = y.1.args.length
     ·have hc : (q.params.length : Int) = (y.1.args.length : Int) := by omega
      simp only [hy2, h7, ha, hcn, if_true, if_false, ne_eq, not_true, not_false_eq_true, Bool.false_eq_true, reduceIte, List.nil_append, List.append_nil, List.cons_append] at hr hb
      have b1 := hb [(31, y.1.at')] (by simp)
      simp only [List.length_cons, List.length_nil] at b1
      simp -implicitDefEqProofs [lb78_0, aR, cA, g2, g3, neC g2, neC g3, neA, ltA, hbid, hlt, hye, hy2, h7, b1, eK, hJ, List.append_assoc, w1]
      refine aG hH (by simp) ?_
      simp -implicitDefEqProofs [aR, cA, g2, g3, neC g2, neC g3, neA, ltA, hbid, hlt, hye, hy2, h7, ha, hc, na, na0, hq1, hq2, b1, eK, hJ, List.append_assoc, w1]
      exact aI (j + 1, v1 + 1, l1 ++ [(31, y.1.at')]) ⟨by omega, hlt, by rw [List.append_assoc]; exact hr⟩ (by simp only; omega) (by simp) (by simp only [aR]; exact aN (aK _) (by simp only [look]; rw [if_neg (by omega), if_neg (by omega)]))
     ·have hc : ¬ (q.params.length : Int) = (y.1.args.length : Int) := by omega
      simp only [hy2, h7, ha, hcn, if_true, if_false, ne_eq, not_true, not_false_eq_true, Bool.false_eq_true, reduceIte, List.nil_append, List.append_nil, List.cons_append] at hr hb
      have b1 := hb [(31, y.1.at')] (by simp)
      have b2 := hb [(31, y.1.at'), (33, y.1.at')] (by simp)
      simp only [List.length_cons, List.length_nil] at b1 b2
      simp -implicitDefEqProofs [lb78_0, aR, cA, g2, g3, neC g2, neC g3, neA, ltA, hbid, hlt, hye, hy2, h7, b1, b2, eK, hJ, List.append_assoc, w1]
      refine aG hH (by simp) ?_
      simp -implicitDefEqProofs [aR, cA, g2, g3, neC g2, neC g3, neA, ltA, hbid, hlt, hye, hy2, h7, ha, hc, na, na0, hq1, hq2, b1, b2, eK, hJ, List.append_assoc, w1]
      exact aI (j + 1, v1 + 2, l1 ++ [(31, y.1.at'), (33, y.1.at')]) ⟨by omega, hlt, by rw [List.append_assoc]; exact hr⟩ (by simp only; omega) (by simp) (by simp only [aR]; exact aN (aK _) (by simp only [look]; rw [if_neg (by omega), if_neg (by omega)]))
   ·simp only [hy2, h7, if_true, if_false, ne_eq, not_true, not_false_eq_true, Bool.false_eq_true, reduceIte, List.nil_append, List.append_nil, List.cons_append] at hr hb
    have b1 := hb [(31, y.1.at')] (by simp)
    simp only [List.length_cons, List.length_nil] at b1
    simp -implicitDefEqProofs [lb78_0, aR, cA, g2, g3, neC g2, neC g3, neA, ltA, hbid, hlt, hye, hy2, h7, b1, eK, hJ, List.append_assoc, w1]
    exact aI (j + 1, v1 + 1, l1 ++ [(31, y.1.at')]) ⟨by omega, hlt, by rw [List.append_assoc]; exact hr⟩ (by simp only; omega) (by simp) (by simp only [aR]; exact aN (aK _) (by simp only [look]; rw [if_neg (by omega), if_neg (by omega)]))
  | false =>
   by_cases h7 : y.1.op = 7
   ·by_cases ha : at' < 0
    ·simp only [hy2, h7, ha, if_true, if_false, ne_eq, not_true, not_false_eq_true, Bool.false_eq_true, reduceIte, List.nil_append, List.append_nil, List.cons_append] at hr hb
     have b1 := hb [(32, y.1.at')] (by simp)
     simp only [List.length_cons, List.length_nil] at b1
     simp -implicitDefEqProofs [lb78_0, aR, cA, g2, g3, neC g2, neC g3, neA, ltA, hbid, hlt, hye, hy2, h7, b1, eK, hJ, List.append_assoc, w1]
     refine aG hH (by simp) ?_
     simp -implicitDefEqProofs [aR, cA, g2, g3, neC g2, neC g3, neA, ltA, hbid, hlt, hye, hy2, h7, ha, b1, eK, hJ, List.append_assoc, w1]
     exact aI (j + 1, v1 + 1, l1 ++ [(32, y.1.at')]) ⟨by omega, hlt, by rw [List.append_assoc]; exact hr⟩ (by simp only; omega) (by simp) (by simp only [aR]; exact aN (aK _) (by simp only [look]; rw [if_neg (by omega), if_neg (by omega)]))
    ·have na : at' < P.length := by omega
     have na0 : 0 ≤ at' := by omega
     have hil : at'.toNat < P.length := by omega
     obtain ⟨q, hq1⟩ : ∃ q, P[at'.toNat] = q := ⟨_, rfl⟩
     have hq2 : P[at'.toNat]?.getD default = q := by rw [List.getElem?_eq_getElem hil]; exact hq1
     simp only [hq2] at hr hb
     by_cases hcn : q.params.length = y.1.args.length
     ·have hc : (q.params.length : Int) = (y.1.args.length : Int) := by omega
      simp only [hy2, h7, ha, hcn, if_true, if_false, ne_eq, not_true, not_false_eq_true, Bool.false_eq_true, reduceIte, List.nil_append, List.append_nil, List.cons_append] at hr hb
      simp -implicitDefEqProofs [lb78_0, aR, cA, g2, g3, neC g2, neC g3, neA, ltA, hbid, hlt, hye, hy2, h7, eK, hJ, List.append_assoc, w1]
      refine aG hH (by simp) ?_
      simp -implicitDefEqProofs [aR, cA, g2, g3, neC g2, neC g3, neA, ltA, hbid, hlt, hye, hy2, h7, ha, hc, na, na0, hq1, hq2, eK, hJ, List.append_assoc, w1]
      exact aI (j + 1, v1, l1) ⟨by omega, hlt, by exact hr⟩ (by simp only; omega) (by simp) (by simp only [aR]; exact aN (aK _) (by simp only [look]; rw [if_neg (by omega), if_neg (by omega)]))
     ·have hc : ¬ (q.params.length : Int) = (y.1.args.length : Int) := by omega
      simp only [hy2, h7, ha, hcn, if_true, if_false, ne_eq, not_true, not_false_eq_true, Bool.false_eq_true, reduceIte, List.nil_append, List.append_nil, List.cons_append] at hr hb
      have b1 := hb [(33, y.1.at')] (by simp)
      simp only [List.length_cons, List.length_nil] at b1
      simp -implicitDefEqProofs [lb78_0, aR, cA, g2, g3, neC g2, neC g3, neA, ltA, hbid, hlt, hye, hy2, h7, b1, eK, hJ, List.append_assoc, w1]
      refine aG hH (by simp) ?_
      simp -implicitDefEqProofs [aR, cA, g2, g3, neC g2, neC g3, neA, ltA, hbid, hlt, hye, hy2, h7, ha, hc, na, na0, hq1, hq2, b1, eK, hJ, List.append_assoc, w1]
      exact aI (j + 1, v1 + 1, l1 ++ [(33, y.1.at')]) ⟨by omega, hlt, by rw [List.append_assoc]; exact hr⟩ (by simp only; omega) (by simp) (by simp only [aR]; exact aN (aK _) (by simp only [look]; rw [if_neg (by omega), if_neg (by omega)]))
   ·simp only [hy2, h7, if_true, if_false, ne_eq, not_true, not_false_eq_true, Bool.false_eq_true, reduceIte, List.nil_append, List.append_nil, List.cons_append] at hr hb
    simp -implicitDefEqProofs [lb78_0, aR, cA, g2, g3, neC g2, neC g3, neA, ltA, hbid, hlt, hye, hy2, h7, eK, hJ, List.append_assoc, w1]
    exact aI (j + 1, v1, l1) ⟨by omega, hlt, by exact hr⟩ (by simp only; omega) (by simp) (by simp only [aR]; exact aN (aK _) (by simp only [look]; rw [if_neg (by omega), if_neg (by omega)]))
 ·have hje : j = T.length := by omega
  subst hje
  rw [List.drop_eq_nil_of_le (Nat.le_refl _)] at hr
  unfold aW at hr
  rw [List.append_nil] at hr
  subst hr
  simp -implicitDefEqProofs [lb78_0, aR, g2, g3, neC g2, neC g3, neA, ltA, hbid]
  rw [aR] at hq
  exact hq _ _ (by omega)
mutual
theorem x5 : ∀ (e : Ex) (N : List (List UInt8)), ∀ s ∈ dX e N, size s.1 ≤ size e
 | .mk op n t ty z args p, N, s, h => by
  unfold dX at h
  rcases List.mem_append.1 h with h | h
  ·split at h
   ·simp only [List.mem_cons, List.not_mem_nil, or_false] at h
    subst h; exact Nat.le_refl _
   ·simp at h
  ·have := u7 op n t 0 args N s h
   simp only [size]; omega
theorem u7 (op : Int) (n t : List UInt8) (i : Nat) : ∀ (l : List Ex) (N : List (List UInt8)), ∀ s ∈ dO op n t i l N, size s.1 ≤ aV l
 | [], N, s, h => by simp [dO] at h
 | x :: xs, N, s, h => by
  unfold dO at h
  simp only [aV]
  rcases List.mem_append.1 h with h | h
  ·have := x5 x _ s h; omega
  ·have := u7 op n t (i + 1) xs N s h; omega
end
theorem H0 (P : List Fn) (hP : P.length < 2 ^ 40) (hf : ∀ f ∈ P, size f.body ≤ 2 ^ 37 ∧ f.params.length ≤ 2 ^ 37) (hn : (fX P P 0).length * 16 ≤ 3 * 2 ^ 46) : Pure Tryz.prog 78 [.agg [.sl (em aY P)]] (.sl (em gK (fX P P 0))) := by
 refine fi78.pu (by simp) ?_
 simp -implicitDefEqProofs [ac78]
 refine cW (j := 3) (k := 2) rfl (.inl rfl) ?_
 generalize hR : fX P P 0 = R at *
 simp -implicitDefEqProofs
 refine lpG cf78 lb78_2 [3, 4, 5, 6, 7, 8, 9, 10, 11] (α := Nat × Nat × List Ft) (fun s _ => [(3, .osl 4 s.2.1 0 s.2.2.length), (4, I s.1), (5, .top), (6, .top), (7, .top), (8, .top), (9, .top), (10, .top), (11, .top)]) (fun s _ => [(4, .arr s.2.1 2 (em gK s.2.2))]) (fun s k => 4 < k ∧ s.1 ≤ P.length ∧ s.2.2 ++ fX P (P.drop s.1) s.1 = R) (fun s => P.length - s.1) (0, 0, []) ⟨by omega, by simp, hR⟩ (by simp) (by simp) ?_
 rintro ⟨i, v, l⟩ k ⟨hk, hi, hr⟩
 simp only at hi hr
 by_cases hlt : i < P.length
 ·have hd : P.drop i = P[i] :: P.drop (i + 1) := List.drop_eq_getElem_cons hlt
  have hmem : P[i] ∈ P := List.getElem_mem hlt
  rw [hd] at hr
  unfold fX fnF at hr
  obtain ⟨x, hxe⟩ : ∃ x, P[i] = x := ⟨_, rfl⟩
  rw [hxe] at hr hmem
  have w1 := aS (x := (i : Int) + 1) (by omega) (by omega)
  have hH := CV P x.name hP
  obtain ⟨hs, hp⟩ := hf x hmem
  have hS := F0 x.body (N := dE x) (by simp only [dE, List.length_map]; omega)
  have hT : (dX x.body (dE x)).length ≤ 2 ^ 40 := by have := oH x.body (dE x); omega
  have hTa : ∀ s ∈ dX x.body (dE x), s.1.args.length ≤ 2 ^ 40 := fun s hs' => by
   have h1 := x5 x.body (dE x) s hs'
   have h2 := HH s.1
   omega
  simp only [aA] at hS
  generalize dX x.body (dE x) = T at *
  have hlen := congrArg List.length hr
  simp only [List.length_append] at hlen
  have hk4 : (k + 5 + 5 = 4) = False := eq_false (by omega)
  by_cases hg : aP P 0 x.name < i
  ·rw [if_pos hg] at hr hlen
   simp only [List.length_cons, List.length_nil] at hlen
   have hb : (l.length + 1) * 16 ≤ 3 * 2 ^ 46 := by omega
   simp -implicitDefEqProofs [lb78_2, hlt, hxe]
   refine aG hH (by simp) ?_
   simp -implicitDefEqProofs [hg, Int.not_le.2 hg, hb, eK, hk4]
   rw [← aR]
   refine BF (by simp) (by omega) (by omega) (by omega) (by simp only [List.length_append, List.length_cons, List.length_nil]; omega) (fun v2 n2 hn2 => ?_)
   simp -implicitDefEqProofs [hk4, aR]
   refine aG hS (by simp) ?_
   simp -implicitDefEqProofs [hk4]
   rw [← aR]
   refine AZ (by simp) hP (by omega) (by omega) hT hTa (by simp only [List.length_append, List.length_cons, List.length_nil]; omega) (fun v3 n3 hn3 => ?_)
   simp -implicitDefEqProofs [hk4, w1]
   exact aI (i + 1, v3, l ++ [(30, x.at')] ++ bU x.params [] ++ aW P T) ⟨by omega, hlt, by simpa using hr⟩ (by simp only; omega) (by simp) (aN (by simp) (by simp only [look]; rw [if_neg (by omega)]))
  ·rw [if_neg hg, List.nil_append] at hr
   rw [if_neg hg] at hlen
   simp only [List.length_nil] at hlen
   simp -implicitDefEqProofs [lb78_2, hlt, hxe]
   refine aG hH (by simp) ?_
   simp -implicitDefEqProofs [hg, Int.not_lt.1 hg, hk4]
   rw [← aR]
   refine BF (by simp) (by omega) (by omega) (by omega) (by simp only [List.length_append, List.length_cons, List.length_nil]; omega) (fun v2 n2 hn2 => ?_)
   simp -implicitDefEqProofs [hk4, aR]
   refine aG hS (by simp) ?_
   simp -implicitDefEqProofs [hk4]
   rw [← aR]
   refine AZ (by simp) hP (by omega) (by omega) hT hTa (by simp only [List.length_append, List.length_cons, List.length_nil]; omega) (fun v3 n3 hn3 => ?_)
   simp -implicitDefEqProofs [hk4, w1]
   exact aI (i + 1, v3, l ++ bU x.params [] ++ aW P T) ⟨by omega, hlt, by simpa using hr⟩ (by simp only; omega) (by simp) (aN (by simp) (by simp only [look]; rw [if_neg (by omega)]))
 ·rw [List.drop_eq_nil_of_le (by omega)] at hr
  unfold fX at hr
  rw [List.append_nil] at hr
  subst hr
  simp -implicitDefEqProofs [lb78_2, hlt]
def bQ : List Ft → Ft → Ft
 | [], s => s
 | x :: xs, s => bQ xs (cO s x.1 x.2)
theorem ia_Ft {l : List Ft} {mem : Mem} {j : IntKind} {i : Int} : iaD mem 2 (.sl (em gK l)) (.pl (.int j i)) = if 0 ≤ i ∧ i < l.length then some (.pt [I (l[i.toNat]?.getD default).1, I (l[i.toNat]?.getD default).2]) else none := iX fun f => rfl
attribute [simp] ia_Ft
theorem ref6_c (P : List Fn) (hP : P.length < 2 ^ 40) (hf : ∀ f ∈ P, size f.body ≤ 2 ^ 37 ∧ f.params.length ≤ 2 ^ 37) (hn : (fX P P 0).length * 16 ≤ 3 * 2 ^ 46) : Pure Tryz.prog 44 [.agg [.sl (em aY P)]] (.agg [I (bQ (fX P P 0) (0, 0)).1, I (bQ (fX P P 0) (0, 0)).2]) := by
 refine fi44.pu (by simp) ?_
 have hF := H0 P hP hf hn
 have hl : (fX P P 0).length < 2 ^ 62 := by omega
 generalize fX P P 0 = l at *
 simp -implicitDefEqProofs [ac44]
 refine aG hF (by simp) ?_
 simp -implicitDefEqProofs
 generalize hR : bQ l (0, 0) = R
 refine lpG cf44 lb44_0 [5] (α := Nat × Ft) (fun s _ => [(5, I s.1)]) (fun s _ => [(5, .box [I s.2.1, I s.2.2]), (1, .box [I 0, I 0])]) (fun s k => s.1 ≤ l.length ∧ bQ (l.drop s.1) s.2 = R) (fun s => l.length - s.1) (0, (0, 0)) ⟨by simp, hR⟩ (by simp) (aK _) ?_
 rintro ⟨i, s⟩ k ⟨hi, hr⟩
 simp only at hi hr
 by_cases hlt : i < l.length
 ·have hd : l.drop i = l[i] :: l.drop (i + 1) := List.drop_eq_getElem_cons hlt
  rw [hd] at hr
  unfold bQ at hr
  obtain ⟨x, hxe⟩ : ∃ x, l[i] = x := ⟨_, rfl⟩
  rw [hxe] at hr
  have w1 := aS (x := (i : Int) + 1) (by omega) (by omega)
  unfold cO at hr
  by_cases h0 : s.1 = 0
  ·rw [if_pos (.inl h0)] at hr
   simp -implicitDefEqProofs [lb44_0, hlt, hxe, h0, w1]
   exact aI (i + 1, x) ⟨hlt, hr⟩ (by simp only; omega) (by simp) (by simp)
  ·by_cases h1 : x.2 < s.2
   ·rw [if_pos (.inr h1)] at hr
    simp -implicitDefEqProofs [lb44_0, hlt, hxe, h0, h1, w1]
    exact aI (i + 1, x) ⟨hlt, hr⟩ (by simp only; omega) (by simp) (by simp)
   ·rw [if_neg (by omega)] at hr
    simp -implicitDefEqProofs [lb44_0, hlt, hxe, h0, h1, w1]
    exact aI (i + 1, s) ⟨hlt, hr⟩ (by simp only; omega) (by simp) (by simp)
 ·rw [List.drop_eq_nil_of_le (by omega)] at hr
  unfold bQ at hr
  subst hr
  simp -implicitDefEqProofs [lb44_0, hlt]
def fA : List Fn → Nat → Sm → Ft → Sm × Ft
 | [], _, pl, s => (pl, s)
 | f :: fs, i, pl, s => if dB pl f.name > 0 then fA fs (i + 1) pl (cO s 30 f.at') else fA fs (i + 1) (fK pl f.name (i + 1)) s
def jE : List Pm → Sm → Ft → Sm × Ft
 | [], m, s => (m, s)
 | x :: xs, m, s => jE xs (i_ m x.name) (if dB m x.name > 0 then cO s 30 x.at' else s)
def kA (P : List Fn) (pl : Sm) : List Fn → Ft → Ft
 | [], s => s
 | f :: fs, s => kA P pl fs (iT P pl f.body (jE f.params [] s).1 (jE f.params [] s).2).2
def oX (P : List Fn) : Ft := kA P (fA P 0 [] (0, 0)).1 P (fA P 0 [] (0, 0)).2
theorem qL (P : List Fn) : ∀ (l : List Fn) (i : Nat) (pl : Sm) (s : Ft), i + l.length ≤ P.length → plOk P pl → plOk P (fA l i pl s).1
 | [], i, pl, s, _, h => h
 | f :: fs, i, pl, s, hl, h => by
  simp only [List.length_cons] at hl
  unfold fA
  split
  ·exact qL P fs _ _ _ (by omega) h
  ·refine qL P fs _ _ _ (by omega) fun n => ?_
   rw [kZ]
   split
   ·omega
   ·exact h n
theorem qM (n : List UInt8) : dB [] n = 0 := rfl
theorem FJ (s : Ft) (w p : Int) {fid : Nat} {mem : Mem} {nx : Nat} {K : KD} (hl : look mem fid = some (.box [I s.1, I s.2])) (hi : fid < nx) (hk : ∀ nx', nx ≤ nx' → K (.tup []) (upd mem fid (.box [I (cO s w p).1, I (cO s w p).2])) nx') :
  clK Tryz.prog (some (.fn 126 [.opt fid 0])) (some [I w, I p]) mem nx K := jL (HM s w p hl hi hk)
theorem M7 (P : List Fn) (hP : P.length < 2 ^ 40) (hf : ∀ f ∈ P, size f.body ≤ 2 ^ 40 ∧ f.params.length ≤ 2 ^ 40) : Pure Tryz.prog 93 [.agg [.sl (em aY P)]] (.agg [I (oX P).1, I (oX P).2]) := by
 refine fi93.pu (by simp) ?_
 simp -implicitDefEqProofs (maxDischargeDepth := 80) [ac93]
 generalize hR : fA P 0 [] (0, 0) = R
 have hplR : plOk P R.1 := hR ▸ qL P P 0 [] (0, 0) (by omega) (fun n => by rw [qM]; omega)
 have hfin : oX P = kA P R.1 P R.2 := by unfold oX; rw [hR]
 rw [hfin]
 clear hfin
 refine lpG cf93 lb93_2 [6, 7, 18] (α := Nat × Sm × Ft) (fun s _ => [(6, .top), (7, .top), (18, I s.1)]) (fun s _ => [(7, .box [.omap 6]), (6, .map (bR s.2.1)), (4, .box [.fn 126 [.opt 2 0]]), (2, .box [I s.2.2.1, I s.2.2.2]), (1, .box [I 0, I 0]), (0, .box [.sl (em aY P)])]) (fun s k => 13 ≤ k ∧ s.1 ≤ P.length ∧ fA (P.drop s.1) s.1 s.2.1 s.2.2 = R) (fun s => P.length - s.1) (0, [], (0, 0)) ⟨by omega, by simp, hR⟩ (by simp) (aK _) ?_
 rintro ⟨i, pl, s⟩ k ⟨hk, hi, hr⟩
 simp only at hi hr
 have Kk := nfc trivial hk
 by_cases hlt : i < P.length
 ·have hd : P.drop i = P[i] :: P.drop (i + 1) := List.drop_eq_getElem_cons hlt
  rw [hd] at hr
  unfold fA at hr
  obtain ⟨x, hxe⟩ : ∃ x, P[i] = x := ⟨_, rfl⟩
  rw [hxe] at hr
  have w1 := aS (x := (i : Int) + 1) (by omega) (by omega)
  by_cases hg : dB pl x.name > 0
  ·rw [if_pos hg] at hr
   simp -implicitDefEqProofs (maxDischargeDepth := 80) [neA, ltA, Kk, lb93_2, hlt, hxe, hg]
   refine FJ s 30 x.at' (by simp -implicitDefEqProofs (maxDischargeDepth := 80) [neA, ltA, Kk]) (by omega) (fun n1 hn1 => ?_)
   simp -implicitDefEqProofs (maxDischargeDepth := 80) [neA, ltA, Kk, w1]
   exact aI (i + 1, pl, cO s 30 x.at') ⟨by omega, hlt, hr⟩ (by simp only; omega) (by simp) (aN (aK _) (by simp only [look]; repeat rw [if_neg (by omega)]))
  ·rw [if_neg hg] at hr
   simp -implicitDefEqProofs (maxDischargeDepth := 80) [neA, ltA, Kk, lb93_2, hlt, hxe, hg, w1]
   exact aI (i + 1, fK pl x.name (i + 1), s) ⟨by omega, hlt, hr⟩ (by simp only; omega) (by simp) (aN (aK _) (by simp only [look]; repeat rw [if_neg (by omega)]))
 ·rw [List.drop_eq_nil_of_le (by omega)] at hr
  unfold fA at hr
  subst hr
  simp -implicitDefEqProofs (maxDischargeDepth := 80) [neA, ltA, Kk, lb93_2, hlt]
  have hn : 13 ≤ k + 1 + 4 := by omega
  generalize k + 1 + 4 = nx at *
  generalize hQ : kA P pl P s = Q
  refine lpG cf93 lb93_1 [9, 10, 12, 41, 47, 48, 49] (α := Nat × Ft) (fun s _ => [(9, .top), (10, .top), (12, .top), (41, I s.1), (47, .top), (48, .top), (49, .top)]) (fun s _ => [(7, .box [.omap 6]), (6, .map (bR pl)), (4, .box [.fn 126 [.opt 2 0]]), (2, .box [I s.2.1, I s.2.2]), (1, .box [I 0, I 0]), (0, .box [.sl (em aY P)])]) (fun s k => 13 ≤ k ∧ s.1 ≤ P.length ∧ kA P pl (P.drop s.1) s.2 = Q) (fun s => P.length - s.1) (0, s) ⟨by omega, by simp, hQ⟩ (by simp) (aK _) ?_
  clear hQ hR hk hn
  rintro ⟨i, s⟩ k ⟨hk, hi, hr⟩
  simp only at hi hr
  have Kk := nfc Kk hk
  by_cases hlt : i < P.length
  ·have hd : P.drop i = P[i] :: P.drop (i + 1) := List.drop_eq_getElem_cons hlt
   have hmem : P[i] ∈ P := List.getElem_mem hlt
   rw [hd] at hr
   unfold kA at hr
   obtain ⟨x, hxe⟩ : ∃ x, P[i] = x := ⟨_, rfl⟩
   rw [hxe] at hr hmem
   have w1 := aS (x := (i : Int) + 1) (by omega) (by omega)
   simp -implicitDefEqProofs (maxDischargeDepth := 80) [neA, ltA, Kk, lb93_1, hlt, hxe]
   obtain ⟨hsx, hpx⟩ := hf x hmem
   have hm1 : 13 ≤ k + 5 := by omega
   have hb9 : 13 ≤ k + 1 + 2 := by omega
   have hmb : (k + 1 + 2 = k + 5) = False := eq_false (by omega)
   have hmb2 : (k + 5 = k + 1 + 2) = False := eq_false (by omega)
   have hk1 : k + 5 < k + 1 + 4 + 2 + 4 ∧ k + 1 + 2 < k + 1 + 4 + 2 + 4 := ⟨by omega, by omega⟩
   generalize k + 1 + 4 + 2 + 4 = k1 at *
   generalize hme : k + 5 = mid at *
   generalize hbe : k + 1 + 2 = b9 at *
   generalize hR2 : jE x.params [] s = R2 at *
   refine lpG cf93 lb93_0 [12, 49] (α := Nat × Sm × Ft) (fun s _ => [(12, .top), (49, I s.1)]) (fun s _ => [(mid, .map (bR s.2.1)), (b9, .box (aY x)), (7, .box [.omap 6]), (6, .map (bR pl)), (4, .box [.fn 126 [.opt 2 0]]), (2, .box [I s.2.2.1, I s.2.2.2]), (1, .box [I 0, I 0]), (0, .box [.sl (em aY P)])]) (fun s k2 => k1 ≤ k2 ∧ s.1 ≤ x.params.length ∧ jE (x.params.drop s.1) s.2.1 s.2.2 = R2) (fun s => x.params.length - s.1) (0, [], s) ⟨by omega, by simp, hR2⟩ (by simp) (by rw [aR]; exact aK _) ?_
   rintro ⟨j, m, s2⟩ k2 ⟨hk2, hj, hr2⟩
   simp only at hj hr2
   have g2 : 13 ≤ k2 := by omega
   have g3 : mid < k2 := by omega
   have g4 : b9 < k2 := by omega
   by_cases hjl : j < x.params.length
   ·have hd2 : x.params.drop j = x.params[j] :: x.params.drop (j + 1) := List.drop_eq_getElem_cons hjl
    rw [hd2] at hr2
    unfold jE at hr2
    obtain ⟨y, hye⟩ : ∃ y, x.params[j] = y := ⟨_, rfl⟩
    rw [hye] at hr2
    have w2 := aS (x := (j : Int) + 1) (by omega) (by omega)
    by_cases hg : dB m y.name > 0
    ·rw [if_pos hg] at hr2
     simp -implicitDefEqProofs (maxDischargeDepth := 80) [neA, ltA, Kk, lb93_0, hjl, hye, hg, neE g2, neE hm1, neE hb9, hmb, hmb2, g3, g4, neC g3, neC g4, aR]
     refine FJ s2 30 y.at' (by simp -implicitDefEqProofs (maxDischargeDepth := 80) [neA, ltA, Kk, neE g2, neE hm1, neE hb9, hmb, hmb2, g3, g4, neC g3, neC g4, aR]) (by omega) (fun n1 hn1 => ?_)
     simp -implicitDefEqProofs (maxDischargeDepth := 80) [neA, ltA, Kk, w2, neE g2, neE hm1, neE hb9, hmb, hmb2, g3, g4, neC g3, neC g4, aR]
     exact aI (j + 1, i_ m y.name, cO s2 30 y.at') ⟨by omega, hjl, hr2⟩ (by simp only; omega) (by simp) (by simp only [i_, aR]; exact aN (aK _) (by simp only [look]; repeat rw [if_neg (by omega)]))
    ·rw [if_neg hg] at hr2
     simp -implicitDefEqProofs (maxDischargeDepth := 80) [neA, ltA, Kk, lb93_0, hjl, hye, hg, neE g2, neE hm1, neE hb9, hmb, hmb2, g3, g4, neC g3, neC g4, aR, w2]
     exact aI (j + 1, i_ m y.name, s2) ⟨by omega, hjl, hr2⟩ (by simp only; omega) (by simp) (by simp only [i_, aR]; exact aN (aK _) (by simp only [look]; repeat rw [if_neg (by omega)]))
   ·rw [List.drop_eq_nil_of_le (by omega)] at hr2
    unfold jE at hr2
    subst hr2
    have hx := FX x.body
    unfold WC at hx
    simp only [aA] at hx
    simp -implicitDefEqProofs (maxDischargeDepth := 80) [neA, ltA, Kk, lb93_0, hjl, neE g2, neE hm1, neE hb9, hmb, hmb2, g3, g4, neC g3, neC g4, aR]
    refine aD (hx (mid := mid) (fid := 2) (b5 := 7) (pid := 6) (b4 := 4) (b1 := 0) (P := P) (pl := pl) (m := m) (s := s2) ?_ hplR hP hsx (fun n3 hn3 => ?_))
    ·constructor <;> first | omega | simp -implicitDefEqProofs (maxDischargeDepth := 80) [neA, ltA, Kk, neE g2, neE hm1, neE hb9, hmb, hmb2, g3, g4, neC g3, neC g4, aR]
    ·generalize iT P pl x.body m s2 = r3 at *
     simp -implicitDefEqProofs (maxDischargeDepth := 80) [neA, ltA, Kk, c9, w1, neE g2, neE hm1, neE hb9, hmb, hmb2, g3, g4, neC g3, neC g4, aR]
     exact aI (i + 1, r3.2) ⟨by omega, hlt, hr⟩ (by simp only; omega) (by simp) (aN (aN (aK _) (by simp only [look]; repeat rw [if_neg (by omega)])) (by simp only [look]; repeat rw [if_neg (by omega)]))
  ·rw [List.drop_eq_nil_of_le (by omega)] at hr
   unfold kA at hr
   subst hr
   simp -implicitDefEqProofs (maxDischargeDepth := 80) [neA, ltA, Kk, lb93_1, hlt]
theorem cV : ∀ (a b : List Ft) (s : Ft), bQ (a ++ b) s = bQ b (bQ a s)
 | [], b, s => rfl
 | x :: xs, b, s => cV xs b _
theorem gD (P : List Fn) : ∀ (a b : List Sn), aW P (a ++ b) = aW P a ++ aW P b
 | [], b => rfl
 | x :: xs, b => by
  show _ ++ aW P (xs ++ b) = _ ++ aW P xs ++ _
  rw [gD P xs b]; simp only [List.append_assoc]
def Rm (m : Sm) (N : List (List UInt8)) : Prop := ∀ n, dB m n = (N.count n : Int)
theorem tO : ∀ (N : List (List UInt8)) (n : List UInt8), dR N n = true ↔ 0 < N.count n
 | [], n => by simp [dR]
 | x :: xs, n => by
  unfold dR
  rw [List.count_cons]
  by_cases h : x = n
  ·simp [h]
  ·rw [if_neg h, tO xs n]; simp [h]
theorem Rm.inc {m : Sm} {N : List (List UInt8)} (h : Rm m N) (hN : N.length < 2 ^ 62) (x : List UInt8) : Rm (i_ m x) (N ++ [x]) := fun n => by
 have hc := List.count_le_length (a := x) (l := N)
 unfold i_
 rw [kZ, List.count_append, h x, aS (by omega) (by omega)]
 by_cases e : x = n
 ·subst e; simp
 ·rw [if_neg e, h n]
  simp [e]
theorem Rm.incs : ∀ (M : List (List UInt8)) {m : Sm} {N : List (List UInt8)}, Rm m N → N.length + M.length < 2 ^ 62 → Rm (M.foldl i_ m) (N ++ M)
 | [], m, N, h, _ => by simpa using h
 | x :: xs, m, N, h, hl => by
  simp only [List.length_cons] at hl
  have := Rm.incs xs (h.inc (by omega) x) (by simp only [List.length_append, List.length_cons, List.length_nil]; omega)
  simpa using this
theorem Rm.decs : ∀ (M : List (List UInt8)) {m : Sm} {N : List (List UInt8)}, Rm m (N ++ M) → N.length + M.length < 2 ^ 62 → Rm (M.foldl tK m) N
 | [], m, N, h, _ => by simpa using h
 | x :: xs, m, N, h, hl => by
  simp only [List.length_cons] at hl
  refine Rm.decs xs (fun n => ?_) (by omega)
  have hx := h x
  rw [List.count_append, List.count_cons_self] at hx
  have hc := List.count_le_length (a := x) (l := N)
  have hc2 := List.count_le_length (a := x) (l := xs)
  unfold tK
  rw [kZ, hx, aS (by omega) (by omega)]
  by_cases e : x = n
  ·subst e; rw [if_pos rfl, List.count_append]; omega
  ·rw [if_neg e, h n, List.count_append, List.count_append, List.count_cons_of_ne e]
def Rp (P : List Fn) (pl : Sm) : Prop := ∀ n, dB pl n = aP P 0 n + 1
theorem HW {P : List Fn} {pl m : Sm} {N : List (List UInt8)} (h : Rm m N) (hp : Rp P pl) (op : Int) (n t : List UInt8) (ty : Int) (z : Cx) (args : List Ex) (p : Int) (s : Ft) (L : List Sn) (hL : L = if op = 6 ∨ op = 7 then [(.mk op n t ty z args p, op = 6 && !dR N n)] else []) :
  j5 P pl op p n args.length m s = bQ (aW P L) s := by
 unfold j5
 have hg : (dB m n = 0) ↔ dR N n = false := by
  rw [h n]
  have := tO N n
  cases hh : dR N n with
  | true =>
   have := this.1 hh
   exact ⟨fun k => by omega, fun k => by simp at k⟩
  | false =>
   refine ⟨fun _ => rfl, fun _ => ?_⟩
   rw [hh] at this
   have h0 : ¬ 0 < N.count n := fun g => by simpa using this.2 g
   omega
 have hh := eT P 0 n
 rw [hp n]
 by_cases h6 : op = 6
 ·have h7 : ¬ op = 7 := by omega
  rw [if_pos (.inl h6)] at hL
  subst hL
  by_cases g : dR N n = false
  ·rw [if_pos ⟨h6, hg.2 g⟩]; simp [aW, bQ, h6, g, i6, Ex.op, Ex.at']
  ·rw [if_neg (fun k => g (hg.1 k.2)), if_neg (fun k => h7 k.1), if_neg (fun k => h7 k.1)]
   have g' : dR N n = true := by simpa using g
   simp [aW, bQ, h6, g', i6, Ex.op, Ex.at']
 ·by_cases h7 : op = 7
  ·rw [if_pos (.inr h7)] at hL
   subst hL
   rw [if_neg (fun k => h6 k.1)]
   by_cases g : aP P 0 n < 0
   ·rw [if_pos ⟨h7, by omega⟩]; simp [aW, bQ, h7, g, i6, Ex.op, Ex.at', Ex.name]
   ·rw [if_neg (by omega)]
    have e : (aP P 0 n + 1).toNat - 1 = (aP P 0 n).toNat := by omega
    rw [e]
    by_cases g2 : (P[(aP P 0 n).toNat]?.getD default).params.length = args.length
    ·rw [if_neg (fun k => k.2 g2)]; simp [aW, bQ, h7, g, g2, i6, Ex.op, Ex.at', Ex.name, Ex.args]
    ·rw [if_pos ⟨h7, g2⟩]; simp [aW, bQ, h7, g, g2, i6, Ex.op, Ex.at', Ex.name, Ex.args]
  ·rw [if_neg (by omega)] at hL
   subst hL
   rw [if_neg (fun k => h6 k.1), if_neg (fun k => h7 k.1), if_neg (fun k => h7 k.1)]; rfl
mutual
theorem CL {P : List Fn} {pl : Sm} (hp : Rp P pl) : ∀ (e : Ex) (m : Sm) (N : List (List UInt8)) (s : Ft), Rm m N → N.length + 2 * size e < 2 ^ 62 → Rm (iT P pl e m s).1 N ∧ (iT P pl e m s).2 = bQ (aW P (dX e N)) s
 | .mk op n t ty z args p, m, N, s, h, hl => by
  simp only [size] at hl
  have := zF hp op n t 0 args m N (j5 P pl op p n args.length m s) h (by omega)
  unfold iT dX
  rw [gD, cV, ← HW h hp op n t ty z args p s _ rfl]
  exact this
theorem zF {P : List Fn} {pl : Sm} (hp : Rp P pl) (op : Int) (n t : List UInt8) (i : Nat) : ∀ (l : List Ex) (m : Sm) (N : List (List UInt8)) (s : Ft), Rm m N → N.length + 2 + 2 * aV l < 2 ^ 62 → Rm (jB P pl op n t i l m s).1 N ∧ (jB P pl op n t i l m s).2 = bQ (aW P (dO op n t i l N)) s
 | [], m, N, s, h, _ => ⟨h, rfl⟩
 | x :: xs, m, N, s, h, hl => by
  have hb := sC op n t i
  simp only [aV] at hl
  have hs1 : 1 ≤ size x := by cases x; simp only [size]; omega
  have h1 := CL hp x _ (N ++ dV op n t i) s (Rm.incs (dV op n t i) h (by omega)) (by rw [List.length_append]; omega)
  have h2 := zF hp op n t (i + 1) xs _ N (iT P pl x ((dV op n t i).foldl i_ m) s).2 (Rm.decs (dV op n t i) h1.1 (by omega)) (by omega)
  unfold jB dO
  rw [gD, cV, ← h1.2]
  exact h2
end
theorem Rm_pos {m : Sm} {N : List (List UInt8)} (h : Rm m N) (n : List UInt8) : (dB m n > 0) ↔ dR N n = true := by
 rw [tO, h n]; omega
theorem vW : ∀ (l : List Pm) (m : Sm) (N : List (List UInt8)) (s : Ft), Rm m N → N.length + l.length < 2 ^ 62 → Rm (jE l m s).1 (N ++ l.map Pm.name) ∧ (jE l m s).2 = bQ (bU l N) s
 | [], m, N, s, h, _ => by simpa [jE, bU, bQ] using h
 | x :: xs, m, N, s, h, hl => by
  simp only [List.length_cons] at hl
  have hi := h.inc (by omega) x.name
  have hp := Rm_pos h x.name
  unfold jE bU
  by_cases g : dB m x.name > 0
  ·rw [if_pos g, if_pos (hp.1 g)]
   have := vW xs _ _ (cO s 30 x.at') hi (by simp only [List.length_append, List.length_cons, List.length_nil]; omega)
   simp only [List.map_cons]
   rw [List.append_assoc] at this
   exact this
  ·rw [if_neg g, if_neg (fun k => g (hp.2 k))]
   have := vW xs _ _ s hi (by simp only [List.length_append, List.length_cons, List.length_nil]; omega)
   simp only [List.map_cons]
   rw [List.append_assoc] at this
   exact this
def kB (P : List Fn) (f : Fn) : List Ft := bU f.params [] ++ aW P (dX f.body (dE f))
def e9 (P : List Fn) : List Fn → List Ft
 | [] => []
 | f :: fs => kB P f ++ e9 P fs
theorem Rm_nil : Rm [] [] := fun n => by rw [qM]; simp
theorem zB {P : List Fn} {pl : Sm} (hp : Rp P pl) : ∀ (l : List Fn) (s : Ft), (∀ f ∈ l, size f.body ≤ 2 ^ 37 ∧ f.params.length ≤ 2 ^ 37) → kA P pl l s = bQ (e9 P l) s
 | [], s, _ => rfl
 | f :: fs, s, h => by
  obtain ⟨h1, h2⟩ := h f (by simp)
  have a := vW f.params [] [] s Rm_nil (by simp only [List.length_nil]; omega)
  rw [List.nil_append] at a
  have b := CL hp f.body _ (dE f) (jE f.params [] s).2 a.1 (by simp only [dE, List.length_map]; omega)
  unfold kA e9 kB
  rw [b.2, a.2, cV, cV]
  exact zB hp fs _ (fun g hg => h g (by simp [hg]))
def fS (P : List Fn) : List Fn → Nat → List Ft
 | [], _ => []
 | f :: fs, i => (if aP P 0 f.name < i then [(30, f.at')] else []) ++ fS P fs (i + 1)
theorem rD (n : List UInt8) : ∀ (a b : List Fn) (k : Nat), aP (a ++ b) k n = if aP a k n = -1 then aP b (k + a.length) n else aP a k n
 | [], b, k => by simp [aP]
 | f :: fs, b, k => by
  have hc : ∀ l, aP (f :: l) k n = if f.name = n then (k : Int) else aP l (k + 1) n := fun l => rfl
  rw [List.cons_append, hc, hc]
  by_cases h : f.name = n
  ·rw [if_pos h, if_pos h, if_neg (by omega)]
  ·rw [if_neg h, if_neg h, rD n fs b (k + 1)]
   simp only [List.length_cons, Nat.add_assoc, Nat.add_comm 1 fs.length]
theorem rG (P : List Fn) : ∀ (l A : List Fn) (pl : Sm) (s : Ft), P = A ++ l → (∀ n, dB pl n = aP A 0 n + 1) → (∀ n, dB (fA l A.length pl s).1 n = aP P 0 n + 1) ∧ (fA l A.length pl s).2 = bQ (fS P l A.length) s
 | [], A, pl, s, hP, h => by
  rw [List.append_nil] at hP
  subst hP
  exact ⟨h, rfl⟩
 | f :: fs, A, pl, s, hP, h => by
  have hA := eT A 0 f.name
  have hh : aP P 0 f.name = if aP A 0 f.name = -1 then (A.length : Int) else aP A 0 f.name := by
   rw [hP, rD]
   by_cases g : aP A 0 f.name = -1
   ·rw [if_pos g, if_pos g]; unfold aP; rw [if_pos rfl]; simp
   ·rw [if_neg g, if_neg g]
  have hP2 : P = (A ++ [f]) ++ fs := by rw [hP]; simp
  have hl : (A ++ [f]).length = A.length + 1 := by simp
  have hs : ∀ n, aP (A ++ [f]) 0 n = if aP A 0 n = -1 then (if f.name = n then (A.length : Int) else -1) else aP A 0 n := fun n => by
   rw [rD]
   simp [aP]
  unfold fA fS
  rw [hh, h f.name]
  by_cases g : aP A 0 f.name = -1
  ·rw [if_neg (by omega), if_pos g, if_neg (by omega)]
   have := rG P fs (A ++ [f]) (fK pl f.name (A.length + 1)) s hP2 (fun n => by
    rw [kZ, hs n]
    by_cases e : f.name = n
    ·subst e; rw [if_pos rfl, if_pos g, if_pos rfl]
    ·rw [if_neg e, h n]
     by_cases g2 : aP A 0 n = -1
     ·rw [if_pos g2, if_neg e, g2]
     ·rw [if_neg g2])
   rw [hl] at this
   exact this
  ·rw [if_pos (by omega), if_neg g, if_pos (by omega)]
   have := rG P fs (A ++ [f]) pl (cO s 30 f.at') hP2 (fun n => by
    rw [hs n, h n]
    by_cases g2 : aP A 0 n = -1
    ·rw [if_pos g2]
     by_cases e : f.name = n
     ·subst e; exact absurd g2 g
     ·rw [if_neg e, g2]
    ·rw [if_neg g2])
   rw [hl] at this
   exact this
theorem wI {x y : Ft} (hx : x.1 ≠ 0) (hy : y.1 ≠ 0) (h : x.2 ≠ y.2) (s : Ft) : cO (cO s x.1 x.2) y.1 y.2 = cO (cO s y.1 y.2) x.1 x.2 := by
 unfold cO
 by_cases h0 : s.1 = 0
 ·by_cases g : y.2 < x.2
  ·have : ¬ x.2 < y.2 := by omega
   simp [h0, hx, hy, g, this]
  ·have : x.2 < y.2 := by omega
   simp [h0, hx, hy, g, this]
 ·by_cases g1 : x.2 < s.2
  ·by_cases g2 : y.2 < s.2
   ·by_cases g : y.2 < x.2
    ·have : ¬ x.2 < y.2 := by omega
     simp [h0, hx, hy, g, this, g1, g2]
    ·have : x.2 < y.2 := by omega
     simp [h0, hx, hy, g, this, g1, g2]
   ·have : ¬ y.2 < x.2 := by omega
    simp [h0, hx, hy, this, g1, g2]
  ·by_cases g2 : y.2 < s.2
   ·have : ¬ x.2 < y.2 := by omega
    simp [h0, hx, hy, this, g1, g2]
   ·simp [h0, g1, g2]
theorem x8 {x : Ft} (hx : x.1 ≠ 0) : ∀ (B : List Ft) (s : Ft), (∀ y ∈ B, y.1 ≠ 0 ∧ x.2 ≠ y.2) → bQ B (cO s x.1 x.2) = cO (bQ B s) x.1 x.2
 | [], s, _ => rfl
 | y :: ys, s, h => by
  obtain ⟨h1, h2⟩ := h y (by simp)
  unfold bQ
  rw [wI hx h1 h2]
  exact x8 hx ys _ (fun z hz => h z (by simp [hz]))
theorem vE : ∀ (A B : List Ft) (s : Ft), (∀ x ∈ A, x.1 ≠ 0) → (∀ y ∈ B, y.1 ≠ 0) → (∀ x ∈ A, ∀ y ∈ B, x.2 ≠ y.2) → bQ (A ++ B) s = bQ (B ++ A) s
 | [], B, s, _, _, _ => by simp
 | x :: xs, B, s, h1, h2, h3 => by
  have := vE xs B (cO s x.1 x.2) (fun z hz => h1 z (by simp [hz])) h2 (fun z hz => h3 z (by simp [hz]))
  show bQ (xs ++ B) (cO s x.1 x.2) = _
  rw [this, cV, cV, x8 (h1 x (by simp)) B s (fun y hy => ⟨h2 y hy, h3 x (by simp) y hy⟩)]
  rfl
def FtIn (ms : List Mk) (a b : Nat) (l : List Ft) : Prop := ∀ x ∈ l, x.1 ≠ 0 ∧ placeIn ms a b x.2
theorem FtIn.app {ms : List Mk} {a b : Nat} {l k : List Ft} (h : FtIn ms a b l) (g : FtIn ms a b k) : FtIn ms a b (l ++ k) := fun x hx => (List.mem_append.1 hx).elim (h x) (g x)
theorem FtIn.mono {ms : List Mk} {a b c d : Nat} {l : List Ft} (h : FtIn ms a b l) (h1 : c ≤ a) (h2 : b ≤ d) : FtIn ms c d l := fun x hx => ⟨(h x hx).1, (h x hx).2.mono h1 h2⟩
theorem FtIn.ite {ms : List Mk} {a b : Nat} {p : Prop} [Decidable p] {w q : Int} (hw : w ≠ 0) (h : placeIn ms a b q) : FtIn ms a b (if p then [(w, q)] else []) := by
 split
 ·intro x hx
  simp only [List.mem_cons, List.not_mem_nil, or_false] at hx
  subst hx; exact ⟨hw, h⟩
 ·intro x hx; simp at hx
theorem FK {ms : List Mk} {a b : Nat} : ∀ (l : List Pm) (N : List (List UInt8)), (∀ p ∈ l, PmOk ms a b p) → FtIn ms a b (bU l N)
 | [], N, _ => fun x hx => by simp [bU] at hx
 | p :: ps, N, h => by
  unfold bU
  exact (FtIn.ite (by decide) (h p (by simp)).1).app (FK ps _ (fun q hq => h q (by simp [hq])))
theorem L_ {ms : List Mk} {a b : Nat} {P : List Fn} {e : Ex} (h : placeIn ms a b e.at') : FtIn ms a b (i6 P e) := by
 unfold i6
 split
 ·intro x hx; simp at hx
 ·split
  ·intro x hx
   simp only [List.mem_cons, List.not_mem_nil, or_false] at hx
   subst hx; exact ⟨by simp, h⟩
  ·exact FtIn.ite (by decide) h
theorem zJ {ms : List Mk} {a b : Nat} {P : List Fn} : ∀ (l : List Sn), (∀ s ∈ l, placeIn ms a b s.1.at') → FtIn ms a b (aW P l)
 | [], _ => fun x hx => by simp [aW] at hx
 | s :: r, h => by
  unfold aW
  exact ((FtIn.ite (by decide) (h s (by simp))).app (L_ (h s (by simp)))).app (zJ r (fun q hq => h q (by simp [hq])))
mutual
theorem BI {ms : List Mk} {a b : Nat} : ∀ (e : Ex) (N : List (List UInt8)), Wf ms a b e → ∀ s ∈ dX e N, placeIn ms a b s.1.at'
 | .mk op n t ty z args p, N, hw, s, h => by
  unfold Wf at hw
  unfold dX at h
  rcases List.mem_append.1 h with h | h
  ·split at h
   ·simp only [List.mem_cons, List.not_mem_nil, or_false] at h
    subst h; exact hw.1
   ·simp at h
  ·exact wX op n t 0 args N hw.2.2 s h
theorem wX {ms : List Mk} {a b : Nat} (op : Int) (n t : List UInt8) (i : Nat) : ∀ (l : List Ex) (N : List (List UInt8)), Wfs ms a b l → ∀ s ∈ dO op n t i l N, placeIn ms a b s.1.at'
 | [], N, _, s, h => by simp [dO] at h
 | x :: xs, N, hw, s, h => by
  unfold Wfs at hw
  unfold dO at h
  rcases List.mem_append.1 h with h | h
  ·exact BI x _ hw.1 s h
  ·exact wX op n t (i + 1) xs N hw.2 s h
end
theorem CO {ms : List Mk} {a b : Nat} {P : List Fn} {f : Fn} (h : FnOk ms a b f) : FtIn ms (a + 1) b (kB P f) :=
 (FK f.params [] h.params).app (zJ _ (BI f.body _ h.body))
theorem rP {ms : List Mk} : ∀ {l : List Fn} {a b : Nat}, Fns ms a l b → a ≤ b
 | [], a, b, h => h
 | f :: fs, a, b, h => by
  unfold Fns at h
  obtain ⟨c, hf, hs⟩ := h
  have := rP hs
  have := hf.lt
  omega
theorem pF {ms : List Mk} {P : List Fn} : ∀ (l : List Fn) (a b i : Nat), Fns ms a l b → b < ms.length → FtIn ms a b (fS P l i)
 | [], a, b, i, _, _ => fun x hx => by simp [fS] at hx
 | f :: fs, a, b, i, h, hb => by
  unfold Fns at h
  obtain ⟨c, hf, hs⟩ := h
  have hcb : c ≤ b := rP hs
  unfold fS
  refine (FtIn.ite (by decide) ⟨a, Nat.le_refl _, Nat.lt_of_lt_of_le hf.lt hcb, hf.place⟩).app ((pF fs c b (i + 1) hs hb).mono (Nat.le_of_lt hf.lt) (Nat.le_refl _))
theorem uN {ms : List Mk} {P : List Fn} (hr : o8 ms) : ∀ (l : List Fn) (a b i : Nat) (s : Ft), Fns ms a l b → b < ms.length → bQ (fX P l i) s = bQ (fS P l i ++ e9 P l) s
 | [], a, b, i, s, _, _ => rfl
 | f :: fs, a, b, i, s, h, hb => by
  unfold Fns at h
  obtain ⟨c, hf, hs⟩ := h
  have hcb : c ≤ b := rP hs
  have e : fX P (f :: fs) i = (if aP P 0 f.name < i then [(30, f.at')] else []) ++ (kB P f ++ fX P fs (i + 1)) := by
   simp only [fX, fnF, kB, List.append_assoc]
  have e2 : fS P (f :: fs) i ++ e9 P (f :: fs) = (if aP P 0 f.name < i then [(30, f.at')] else []) ++ ((fS P fs (i + 1) ++ kB P f) ++ e9 P fs) := by
   simp only [fS, e9, List.append_assoc]
  have hB := CO (P := P) hf
  have hT := pF (P := P) fs c b (i + 1) hs hb
  have key : ∀ s1, bQ (kB P f ++ fX P fs (i + 1)) s1 = bQ ((fS P fs (i + 1) ++ kB P f) ++ e9 P fs) s1 := fun s1 => by
   rw [cV, uN hr fs c b (i + 1) _ hs hb, ← cV, ← List.append_assoc, cV]
   rw [vE (kB P f) (fS P fs (i + 1)) s1 (fun x hx => (hB x hx).1) (fun x hx => (hT x hx).1) (fun x hx y hy he => by
    obtain ⟨j, j1, j2, j3⟩ := (hB x hx).2
    obtain ⟨k, k1, k2, k3⟩ := (hT y hy).2
    have := hr j k (by omega) (by omega)
    omega), ← cV]
  rw [e, e2, cV, key, ← cV]
theorem CZ : ∀ (l : List Pm) (N : List (List UInt8)), (bU l N).length ≤ l.length
 | [], N => by simp [bU]
 | p :: ps, N => by
  have := CZ ps (N ++ [p.name])
  unfold bU
  rw [List.length_append, List.length_cons]
  split <;> simp <;> omega
theorem KW (P : List Fn) (e : Ex) : (i6 P e).length ≤ 1 := by
 unfold i6
 split
 ·simp
 ·split
  ·simp
  ·split <;> simp
theorem xI (P : List Fn) : ∀ (l : List Sn), (aW P l).length ≤ 2 * l.length
 | [] => by simp [aW]
 | s :: r => by
  have h1 := xI P r
  have h2 := KW P s.1
  unfold aW
  rw [List.length_append, List.length_append, List.length_cons]
  split <;> simp <;> omega
theorem B_ {ms : List Mk} {P : List Fn} : ∀ (l : List Fn) (a b i : Nat), Fns ms a l b → (fX P l i).length ≤ 4 * (b - a)
 | [], a, b, i, _ => by simp [fX]
 | f :: fs, a, b, i, h => by
  unfold Fns at h
  obtain ⟨c, hf, hs⟩ := h
  have hcb : c ≤ b := rP hs
  have h1 := B_ (P := P) fs c b (i + 1) hs
  have h2 := CZ f.params []
  have h3 := xI P (dX f.body (dE f))
  have h4 := oH f.body (dE f)
  have := hf.lt; have := hf.len; have := hf.size
  unfold fX fnF
  simp only [List.length_append]
  split <;> simp <;> omega
def ckF (P : List Fn) : Ft := bQ (fX P P 0) (0, 0)
theorem mL {ms : List Mk} : ∀ (l : List Fn) (a b : Nat), Fns ms a l b → l.length ≤ b - a ∧ ∀ f ∈ l, size f.body ≤ b - a ∧ f.params.length ≤ b - a
 | [], a, b, _ => by simp
 | f :: fs, a, b, h => by
  unfold Fns at h
  obtain ⟨c, hf, hs⟩ := h
  have hcb : c ≤ b := rP hs
  obtain ⟨h1, h2⟩ := mL fs c b hs
  have := hf.lt; have := hf.len; have := hf.size
  refine ⟨by simp only [List.length_cons]; omega, fun g hg => ?_⟩
  rcases List.mem_cons.1 hg with rfl | hg
  ·exact ⟨by omega, by omega⟩
  ·have := h2 g hg; omega
theorem y8 {P : List Fn} (h : dT P) : Pure Tryz.prog 93 [.agg [.sl (em aY P)]] (.agg [I (ckF P).1, I (ckF P).2]) ∧ Pure Tryz.prog 44 [.agg [.sl (em aY P)]] (.agg [I (ckF P).1, I (ckF P).2]) := by
 obtain ⟨ms, a, b, _, hl, hr, hb, hF, _⟩ := h
 obtain ⟨k1, k2⟩ := mL P a b hF
 have hn := B_ (P := P) P a b 0 hF
 have hs : ∀ f ∈ P, size f.body ≤ 2 ^ 37 ∧ f.params.length ≤ 2 ^ 37 := fun f hf => by have := k2 f hf; omega
 refine ⟨?_, ref6_c P (by omega) hs (by omega)⟩
 have e : oX P = ckF P := by
  obtain ⟨p1, p2⟩ := rG P P [] [] (0, 0) rfl (fun n => by rw [qM]; rfl)
  unfold oX ckF
  rw [uN hr P a b 0 _ hF hb, cV]
  simp only [List.length_nil] at p1 p2
  rw [← p2]
  exact zB p1 P _ hs
 rw [← e]
 exact M7 P (by omega) (fun f hf => by have := hs f hf; omega)
structure C7 where
 cid : Nat
 eid : Nat
 hid : Nat
 fid : Nat
 P : List Fn
 hd : Sm
 F : FuncId
 enc : Ft → List D
 step : Ft → Int → Ft
def C7.box (c : C7) (env : List Pm) (ver : Nat) : Blk := .box [.omap c.hid, .sl (em aY c.P), .osl c.eid ver 0 env.length, .fn c.F [.opt c.fid 0]]
def C7.arr (env : List Pm) (ver : Nat) (X : List (List D)) : Blk := .arr ver 3 (em bG env ++ X)
def bW (c : C7) (mem : Mem) (env : List Pm) (ver : Nat) (X : List (List D)) (s : Ft) : Mem := upd (upd (upd mem c.fid (.box (c.enc s))) c.eid (C7.arr env ver X)) c.cid (c.box env ver)
structure Wr (c : C7) : Prop where
 call : ∀ (s : Ft) (p : Int) ⦃mem : Mem⦄ ⦃nx : Nat⦄ ⦃K : KD⦄, look mem c.fid = some (.box (c.enc s)) → c.fid < nx → (∀ nx', nx ≤ nx' → K (.tup []) (upd mem c.fid (.box (c.enc (c.step s p)))) nx') → bO Tryz.prog c.F [I p, .opt c.fid 0] mem nx K
structure E7 (c : C7) (mem : Mem) (nx : Nat) (env : List Pm) (ver : Nat) (X : List (List D)) (s : Ft) : Prop where
 lc : look mem c.cid = some (c.box env ver)
 le : look mem c.eid = some (C7.arr env ver X)
 lf : look mem c.fid = some (.box (c.enc s))
 lh : look mem c.hid = some (.map (bR c.hd))
 ic : c.cid < nx
 ie : c.eid < nx
 if' : c.fid < nx
 ih : c.hid < nx
 ce : c.cid ≠ c.eid
 cf : c.cid ≠ c.fid
 ef : c.eid ≠ c.fid
 hc : c.hid ≠ c.cid
 he : c.hid ≠ c.eid
 hf : c.hid ≠ c.fid
section
variable {c : C7} {mem : Mem} {nx nx' ver ver' : Nat} {env env' : List Pm} {X X' : List (List D)} {s s' : Ft}
theorem lR {j : Nat} (h1 : j ≠ c.cid) (h2 : j ≠ c.eid) (h3 : j ≠ c.fid) : look (bW c mem env ver X s) j = look mem j := by
 unfold bW; rw [cB h1, cB h2, cB h3]
theorem E7.up (h : E7 c mem nx env ver X s) (hn : nx ≤ nx') : E7 c (bW c mem env' ver' X' s') nx' env' ver' X' s' := by
 refine ⟨?_, ?_, ?_, (lR h.hc h.he h.hf).trans h.lh, Nat.lt_of_lt_of_le h.ic hn, Nat.lt_of_lt_of_le h.ie hn, Nat.lt_of_lt_of_le h.if' hn, Nat.lt_of_lt_of_le h.ih hn, h.ce, h.cf, h.ef, h.hc, h.he, h.hf⟩
 ·unfold bW; rw [jO, cB h.ce, cB h.cf, h.lc]; rfl
 ·unfold bW; rw [cB (Ne.symm h.ce), jO, cB h.ef, h.le]; rfl
 ·unfold bW; rw [cB (Ne.symm h.cf), cB (Ne.symm h.ef), jO, h.lf]; rfl
theorem E7.cons {k : Nat} {b : Blk} (h : E7 c mem nx env ver X s) (hk : nx ≤ k) (hn : nx ≤ nx') : E7 c ((k, b) :: mem) nx' env ver X s := by
 have e : ∀ j, j < nx → look ((k, b) :: mem) j = look mem j := fun j hj => by
  simp only [look]; rw [if_neg (by omega)]
 exact ⟨(e _ h.ic).trans h.lc, (e _ h.ie).trans h.le, (e _ h.if').trans h.lf, (e _ h.ih).trans h.lh, Nat.lt_of_lt_of_le h.ic hn, Nat.lt_of_lt_of_le h.ie hn, Nat.lt_of_lt_of_le h.if' hn, Nat.lt_of_lt_of_le h.ih hn, h.ce, h.cf, h.ef, h.hc, h.he, h.hf⟩
theorem E7.le_nx (h : E7 c mem nx env ver X s) (hn : nx ≤ nx') : E7 c mem nx' env ver X s :=
 ⟨h.lc, h.le, h.lf, h.lh, Nat.lt_of_lt_of_le h.ic hn, Nat.lt_of_lt_of_le h.ie hn, Nat.lt_of_lt_of_le h.if' hn, Nat.lt_of_lt_of_le h.ih hn, h.ce, h.cf, h.ef, h.hc, h.he, h.hf⟩
theorem jP (h : E7 c mem nx env ver X s) : bW c mem env ver X s = mem := by
 unfold bW; rw [cQ h.lf, cQ h.le, cQ h.lc]
theorem lX {k : Nat} {b : Blk} (h1 : k ≠ c.cid) (h2 : k ≠ c.eid) (h3 : k ≠ c.fid) : bW c ((k, b) :: mem) env ver X s = (k, b) :: bW c mem env ver X s := by
 unfold bW
 simp only [upd, h1, h2, h3, if_false]
theorem eZ (h1 : c.cid ≠ c.eid) (h2 : c.cid ≠ c.fid) (h3 : c.eid ≠ c.fid) : bW c (bW c mem env ver X s) env' ver' X' s' = bW c mem env' ver' X' s' := by
 unfold bW
 rw [upd_comm (i := c.cid) (j := c.fid) h2, upd_comm (i := c.cid) (j := c.eid) h1, jV, upd_comm (i := c.eid) (j := c.fid) h3, jV, jV]
theorem mem7_f (h : E7 c mem nx env ver X s) : upd mem c.fid (.box (c.enc s')) = bW c mem env ver X s' := by
 have h1 : look (upd mem c.fid (.box (c.enc s'))) c.eid = some (C7.arr env ver X) := (cB h.ef).trans h.le
 have h2 : look (upd mem c.fid (.box (c.enc s'))) c.cid = some (c.box env ver) := (cB h.cf).trans h.lc
 unfold bW
 rw [cQ h1, cQ h2]
theorem KC (h : E7 c mem nx env ver X s) : upd (upd mem c.eid (C7.arr env' ver' X')) c.cid (c.box env' ver') = bW c mem env' ver' X' s := by
 unfold bW
 rw [cQ h.lf]
end
def d9 (s : Ft) (p : Int) : Ft := cO s 34 p
def qJ (s : Ft) (_ : Int) : Ft := (IntKind.i64.wrap (s.1 + 1), 0)
theorem ck_wr (c : C7) (hF : c.F = 94) (he : c.enc = fun s => [I s.1, I s.2]) (hs : c.step = d9) : Wr c := by
 refine ⟨fun s p mem nx K hl hi hk => ?_⟩
 rw [he] at hl
 rw [he, hs] at hk
 rw [hF]
 generalize c.fid = fid at *
 simp only at hl hk
 refine fi94.ct (by simp) fun hfr => ?_
 unfold d9 cO at hk
 by_cases h1 : s.1 = 0
 ·rw [if_pos (.inl h1)] at hk
  simp -implicitDefEqProofs [ac94, hl, h1]
  exact ⟨_, aF _, hk _ (by omega)⟩
 ·by_cases h2 : p < s.2
  ·rw [if_pos (.inr h2)] at hk
   simp -implicitDefEqProofs [ac94, hl, h1, h2]
   exact ⟨_, aF _, hk _ (by omega)⟩
  ·rw [if_neg (by omega), cQ hl] at hk
   simp -implicitDefEqProofs [ac94, hl, h1, h2]
   exact ⟨_, aF _, hk _ (by omega)⟩
theorem of_wr (c : C7) (hF : c.F = 69) (he : c.enc = fun s => [I s.1]) (hs : c.step = qJ) : Wr c := by
 refine ⟨fun s p mem nx K hl hi hk => ?_⟩
 rw [he] at hl
 rw [he, hs] at hk
 rw [hF]
 generalize c.fid = fid at *
 simp only at hl hk
 refine fi69.ct (by simp) fun hfr => ?_
 unfold qJ at hk
 simp -implicitDefEqProofs [ac69, hl]
 exact ⟨_, aF _, hk _ (by omega)⟩
theorem vK {l : List Pm} {mem : Mem} : els mem 3 (.sl (em bG l)) = some (em bG l) := sK (fun x => rfl) (fun x => rfl)
theorem in_c {c : C7} {mem : Mem} {nx ver : Nat} {env M : List Pm} {X : List (List D)} {s s' : Ft} {F' : FuncId} {caps : List D} {K : KD} (h : E7 c mem nx env ver X s) (hl : env.length + M.length ≤ 6 * 2 ^ 40)
  (hdo : ∀ (ver1 : Nat) (nx1 : Nat) (K' : KD), nx ≤ nx1 → (∀ ver2 X2 nx2, nx1 ≤ nx2 → K' (.tup []) (bW c mem (env ++ M) ver2 X2 s') nx2) → bO Tryz.prog F' caps (bW c mem (env ++ M) ver1 [] s) nx1 K')
  (hk : ∀ ver2 X2 nx2, nx ≤ nx2 → K (.tup []) (bW c mem env ver2 X2 s') nx2) :
  bO Tryz.prog 97 [.opt c.cid 0, .fn F' caps, .sl (em bG M)] mem nx K := by
 refine fi97.ct (by simp) fun hfr => ?_
 have lc := h.lc
 have le := h.le
 unfold C7.box at lc
 unfold C7.arr at le
 have hb : (env.length + M.length) * 32 ≤ 3 * 2 ^ 46 := by omega
 have n1 := h.ce
 have lc2 : ∀ b, look (upd mem c.eid b) c.cid = some (.box [.omap c.hid, .sl (em aY c.P), .osl c.eid ver 0 env.length, .fn c.F [.opt c.fid 0]]) := fun b => (cB h.ce).trans lc
 have hm : upd (upd mem c.eid (.arr (ver + 1) 3 (em bG (env ++ M)))) c.cid (.box [.omap c.hid, .sl (em aY c.P), .osl c.eid (ver + 1) 0 (env.length + M.length), .fn c.F [.opt c.fid 0]]) = bW c mem (env ++ M) (ver + 1) [] s := by
  have := KC (env' := env ++ M) (ver' := ver + 1) (X' := []) h
  simpa [C7.arr, C7.box] using this
 simp -implicitDefEqProofs [-els, vK, ac97, lc, le, hb, lc2, hm]
 refine jL (hdo _ _ _ (by omega) (fun ver2 X2 nx2 hn2 => ?_))
 have hE := h.up (nx' := nx2) (env' := env ++ M) (ver' := ver2) (X' := X2) (s' := s') (by omega)
 have lc3 := hE.lc
 have le3 := hE.le
 unfold C7.box at lc3
 unfold C7.arr at le3
 have hm2 : upd (bW c mem (env ++ M) ver2 X2 s') c.cid (.box [.omap c.hid, .sl (em aY c.P), .osl c.eid ver2 0 env.length, .fn c.F [.opt c.fid 0]]) = bW c mem env ver2 (em bG M ++ X2) s' := by
  unfold bW C7.box C7.arr
  rw [jV, ← LU, List.append_assoc]
 have hb2 : (env.length : Int) ≤ (env.length : Int) + (M.length : Int) := by omega
 have hs : gJ (bW c mem (env ++ M) ver2 X2 s') false 3 (.osl c.eid ver2 0 (env.length + M.length)) none (some (I env.length)) = some (.osl c.eid ver2 0 env.length) := by
  simp [gJ, mA, le3, dP, hb2]
 simp -implicitDefEqProofs [lc3, le3, hb2, hm2, hs]
 exact ⟨_, aF _, hk _ _ _ (by omega)⟩
def hdF (P : List Fn) (n : List UInt8) : Fn := P[(aP P 0 n).toNat]?.getD default
def dC (P : List Fn) (n : List UInt8) (k : Nat) : Prop := aP P 0 n < 0 ∨ (hdF P n).params.length ≠ k
instance (P : List Fn) (n : List UInt8) (k : Nat) : Decidable (dC P n k) := by unfold dC; infer_instance
def eU : List Pm → List UInt8 → Int
 | [], _ => 0
 | x :: xs, n => if x.name = n then x.type else eU xs n
def eQ (env : List Pm) (n : List UInt8) : Int := eU env.reverse n
def aL (P : List Fn) (op : Int) (n : List UInt8) (ty : Int) (i : Nat) (t : Int) : Int :=
 if op = 14 then 2 else if op = 18 then (if i = 1 then 3 else 1) else if op = 7 then ((hdF P n).params[i]?.getD default).type else
 if op = 19 then (if i = 0 then 2 else t) else if op = 20 then (if i = 0 then 3 else t) else if op = 21 ∨ op = 22 then (if i = 0 then ty else t) else 1
def aM (env : List Pm) (op : Int) (n tl : List UInt8) (ty : Int) (i : Nat) : List Pm :=
 if op = 21 ∨ (op = 22 ∧ i = 1) then env ++ [⟨n, ty, 0⟩] else if op = 20 ∧ i = 2 then env ++ [⟨n, 1, 0⟩, ⟨tl, 3, 0⟩] else env
def bL (P : List Fn) (env : List Pm) (op : Int) (n : List UInt8) (ty : Int) (k : Nat) : Int :=
 if op = 2 ∨ op = 3 then 2 else if op = 4 then 3 else if op = 5 then ty else if op = 6 then eQ env n else
 if op = 7 then (if dC P n k then 0 else (hdF P n).type) else if op = 14 then 2 else if op = 18 then 3 else if op = 12 ∨ op = 13 then 2 else 1
def bX (op : Int) : Prop := op = 19 ∨ op = 20 ∨ op = 21 ∨ op = 22
instance (op : Int) : Decidable (bX op) := by unfold bX; infer_instance
mutual
def a7 (P : List Fn) : List Pm → Ex → Int → List Int
 | env, .mk op n tl ty _ args p, t => (if op = 7 ∧ dC P n args.length then [] else bB P env op n tl ty t 0 args) ++ (if bX op ∨ bL P env op n ty args.length = t then [] else [p])
def bB (P : List Fn) (env : List Pm) (op : Int) (n tl : List UInt8) (ty t : Int) (i : Nat) : List Ex → List Int
 | [] => []
 | x :: xs => a7 P (aM env op n tl ty i) x (aL P op n ty i t) ++ bB P env op n tl ty t (i + 1) xs
end
mutual
def Sh : Ex → Prop
 | .mk op _ _ ty _ args _ => cG op ty args.length ∧ Shs args
def Shs : List Ex → Prop
 | [] => True
 | e :: es => Sh e ∧ Shs es
end
theorem mY : ∀ {l : List Ex} {x : Ex}, Shs l → x ∈ l → Sh x
 | e :: es, x, h, hx => by
  unfold Shs at h
  rcases List.mem_cons.1 hx with rfl | hx
  ·exact h.1
  ·exact mY h.2 hx
structure Cok (c : C7) : Prop where
 wr : Wr c
 rp : Rp c.P c.hd
 len : c.P.length < 2 ^ 40
def WT (e : Ex) : Prop := ∀ ⦃c : C7⦄ ⦃mem : Mem⦄ ⦃nx ver : Nat⦄ ⦃env : List Pm⦄ ⦃X : List (List D)⦄ ⦃s : Ft⦄ ⦃t : Int⦄ ⦃K : KD⦄, Cok c → E7 c mem nx env ver X s → env.length + 2 * size e ≤ 5 * 2 ^ 40 → Sh e →
 (∀ ver' X' nx', nx ≤ nx' → K (.tup []) (bW c mem env ver' X' ((a7 c.P env e t).foldl c.step s)) nx') → bO Tryz.prog 70 [.opt c.cid 0, .agg (aQ e), I t] mem nx K
theorem FP (t : Int) (l : List Ex) (ih : ∀ x ∈ l, WT x) ⦃c : C7⦄ ⦃mem : Mem⦄ ⦃nx ver : Nat⦄ ⦃env : List Pm⦄ ⦃X : List (List D)⦄ ⦃s : Ft⦄ ⦃K : KD⦄ (hc : Cok c) (h : E7 c mem nx env ver X s) (hl : ∀ x ∈ l, env.length + 2 * size x ≤ 5 * 2 ^ 40) (hll : l.length ≤ 5 * 2 ^ 40) (hs : ∀ x ∈ l, Sh x)
  (hk : ∀ ver' X' nx', nx ≤ nx' → K (.tup []) (bW c mem env ver' X' ((l.flatMap (fun x => a7 c.P env x t)).foldl c.step s)) nx') :
  bO Tryz.prog 96 [.opt c.cid 0, I t, .sl (em aQ l)] mem nx K := by
 refine fi96.ct (by simp) fun hfr => ?_
 generalize hR : (l.flatMap (fun x => a7 c.P env x t)).foldl c.step s = R at hk
 simp -implicitDefEqProofs [ac96]
 refine lpG cf96 lb96_0 [7, 10] (α := Nat × Nat × List (List D) × Ft) (fun s _ => [(7, .top), (10, I s.1)]) (fun s _ => bW c mem env s.2.1 s.2.2.1 s.2.2.2) (fun s k => nx ≤ k ∧ s.1 ≤ l.length ∧ ((l.drop s.1).flatMap (fun x => a7 c.P env x t)).foldl c.step s.2.2.2 = R) (fun s => l.length - s.1) (0, ver, X, s) ⟨by omega, by simp, hR⟩ (by simp) (by simp [jP h]) ?_
 rintro ⟨i, v1, X1, s1⟩ k ⟨hk1, hi, hr⟩
 simp only at hi hr
 by_cases hlt : i < l.length
 ·have hd : l.drop i = l[i] :: l.drop (i + 1) := List.drop_eq_getElem_cons hlt
  have hmem : l[i] ∈ l := List.getElem_mem hlt
  rw [hd] at hr
  obtain ⟨x, hxe⟩ : ∃ x, l[i] = x := ⟨_, rfl⟩
  rw [hxe] at hr hmem
  rw [List.flatMap_cons, List.foldl_append] at hr
  have w1 := aS (x := (i : Int) + 1) (by omega) (by omega)
  have hE : E7 c (bW c mem env v1 X1 s1) k env v1 X1 s1 := h.up hk1
  have hx := fun (K : KD) (b : Nat) (n : Nat) (hb : k ≤ b) (hn : b < n) => ih x hmem hc (hE.cons (k := b) (b := .box (aQ x)) (nx' := n) hb (by omega)) (hl x hmem) (hs x hmem) (t := t) (K := K)
  simp only [aA] at hx
  simp -implicitDefEqProofs [lb96_0, hlt, hxe]
  have h1 := h.ic
  have h2 := h.ie
  have h3 := h.if'
  refine aD (hx _ _ _ (by omega) (by omega) (fun v2 X2 n2 hn2 => ?_))
  rw [lX (by omega) (by omega) (by omega), eZ h.ce h.cf h.ef]
  simp -implicitDefEqProofs [w1]
  refine aI (i + 1, v2, X2, _) ⟨by omega, hlt, hr⟩ (by simp only; omega) (by simp) (aN (aK _) ?_)
  rw [lR (by omega) (by omega) (by omega)]
  exact hfr _ (by omega)
 ·have hi2 : l.drop i = [] := List.drop_eq_nil_of_le (by omega)
  rw [hi2] at hr
  simp only [List.flatMap_nil, List.foldl_nil] at hr
  subst hr
  simp -implicitDefEqProofs [lb96_0, hlt]
  exact ⟨_, aF _, hk _ _ _ (by omega)⟩
theorem LZ (n tl : List UInt8) (ty : Int) (z : Cx) (args : List Ex) (p t : Int) (ih : ∀ x ∈ args, WT x) ⦃c : C7⦄ ⦃mem : Mem⦄ ⦃nx ver : Nat⦄ ⦃env : List Pm⦄ ⦃X : List (List D)⦄ ⦃s : Ft⦄ ⦃K : KD⦄ (hc : Cok c) (h : E7 c mem nx env ver X s) (hl : ∀ x ∈ args, env.length + 2 * size x ≤ 5 * 2 ^ 40) (hll : args.length ≤ 5 * 2 ^ 40) (hs : ∀ x ∈ args, Sh x)
  (hk : ∀ ver' X' nx', nx ≤ nx' → K (I (if dC c.P n args.length then 0 else (hdF c.P n).type)) (bW c mem env ver' X' ((if dC c.P n args.length then [] else bB c.P env 7 n tl ty t 0 args).foldl c.step s)) nx') :
  bO Tryz.prog 130 [.opt c.cid 0, .agg (aQ (.mk 7 n tl ty z args p))] mem nx K := by
 refine fi130.ct (by simp) fun hfr => ?_
 have hlen := hc.len
 have hrp := hc.rp n
 have hh := eT c.P 0 n
 have lc := h.lc
 have lh := h.lh
 unfold C7.box at lc
 generalize hQ : hdF c.P n = q at hk
 unfold hdF at hQ
 generalize hat : aP c.P 0 n = at' at *
 have w1 : IntKind.i64.wrap (at' + 1 - 1) = at' := by rw [aS (by omega) (by omega)]; omega
 have w2 : IntKind.i64.wrap at' = at' := aS (by omega) (by omega)
 simp only [bE]
 by_cases hb : at' < 0
 ·have e0 : at' + 1 = 0 := by omega
  have hbad : dC c.P n args.length := .inl (by omega)
  rw [if_pos hbad, if_pos hbad] at hk
  simp -implicitDefEqProofs [ac130, lc, lh, hrp, e0]
  exact ⟨_, aF _, by simpa [jP h] using hk ver X _ (by omega)⟩
 ·have e0 : ¬ at' + 1 = 0 := by omega
  have b1 : 0 ≤ at' := by omega
  have b2 : at' < c.P.length := by omega
  have hil : at'.toNat < c.P.length := by omega
  have hq2 : c.P[at'.toNat]?.getD default = q := hQ
  have hq1 : c.P[at'.toNat] = q := by rw [List.getElem?_eq_getElem hil] at hQ; exact hQ
  have hq3 : hdF c.P n = q := by unfold hdF; rw [hat]; exact hQ
  by_cases hln : q.params.length = args.length
  ·have hl2 : (q.params.length : Int) = (args.length : Int) := by omega
   have hbad : ¬ dC c.P n args.length := by unfold dC; rw [hq3]; omega
   rw [if_neg hbad, if_neg hbad] at hk
   simp -implicitDefEqProofs [ac130, lc, lh, hrp, e0, b1, b2, hq1, hq2, w1, w2, hl2]
   have hwi : ∀ i, aM env 7 n tl ty i = env := fun i => by simp [aM]
   have hwt : ∀ i, aL c.P 7 n ty i t = (q.params[i]?.getD default).type := fun i => by simp [aL, hq3]
   generalize hR : (bB c.P env 7 n tl ty t 0 args).foldl c.step s = R at hk
   have h1 := h.ic
   have h2 := h.ie
   have h3 := h.if'
   refine lpG cf130 lb130_0 [6, 7, 43] (α := Nat × Nat × List (List D) × Ft) (fun s _ => [(6, .top), (7, .top), (43, I s.1)]) (fun s _ => bW c mem env s.2.1 s.2.2.1 s.2.2.2) (fun s k => nx ≤ k ∧ s.1 ≤ args.length ∧ (bB c.P env 7 n tl ty t s.1 (args.drop s.1)).foldl c.step s.2.2.2 = R) (fun s => args.length - s.1) (0, ver, X, s) ⟨by omega, by simp, hR⟩ (by simp) (by simp [jP h]) ?_
   rintro ⟨i, v1, X1, s1⟩ k ⟨hk1, hi, hr⟩
   simp only at hi hr
   have hE : E7 c (bW c mem env v1 X1 s1) k env v1 X1 s1 := h.up hk1
   by_cases hlt : i < args.length
   ·have hd : args.drop i = args[i] :: args.drop (i + 1) := List.drop_eq_getElem_cons hlt
    have hmem : args[i] ∈ args := List.getElem_mem hlt
    have hltp : i < q.params.length := by omega
    rw [hd] at hr
    obtain ⟨x, hxe⟩ : ∃ x, args[i] = x := ⟨_, rfl⟩
    obtain ⟨y, hye⟩ : ∃ y, q.params[i] = y := ⟨_, rfl⟩
    have hye2 : q.params[i]?.getD default = y := by rw [List.getElem?_eq_getElem hltp]; exact hye
    rw [hxe] at hr hmem
    unfold bB at hr
    rw [List.foldl_append, hwi, hwt, hye2] at hr
    have w3 := aS (x := (i : Int) + 1) (by omega) (by omega)
    have hx := fun (K : KD) (b : Nat) (n : Nat) (hb : k ≤ b) (hn : b < n) => ih x hmem hc (hE.cons (k := b) (b := .box (bG y)) (nx' := n) hb (by omega)) (hl x hmem) (hs x hmem) (t := y.type) (K := K)
    simp only [aA] at hx
    have hlt2 : (i : Int) < (q.params.length : Int) := by omega
    have hlt3 : (i : Int) < (args.length : Int) := by omega
    simp -implicitDefEqProofs [lb130_0, hlt, hltp, hxe, hye, hlt2, hlt3]
    refine aD (hx _ _ _ (by omega) (by omega) (fun v2 X2 n2 hn2 => ?_))
    rw [lX (by omega) (by omega) (by omega), eZ h.ce h.cf h.ef]
    simp -implicitDefEqProofs [w3]
    refine aI (i + 1, v2, X2, _) ⟨by omega, hlt, hr⟩ (by simp only; omega) (by simp) (aN (aK _) ?_)
    rw [lR (by omega) (by omega) (by omega)]
    exact hfr _ (by omega)
   ·have hi2 : args.drop i = [] := List.drop_eq_nil_of_le (by omega)
    rw [hi2] at hr
    unfold bB at hr
    simp only [List.foldl_nil] at hr
    subst hr
    have lc3 := hE.lc
    unfold C7.box at lc3
    have hlt2 : ¬ (i : Int) < (q.params.length : Int) := by omega
    have hlt3 : ¬ i < q.params.length := by omega
    simp -implicitDefEqProofs [lb130_0, hlt, hlt2, hlt3, lc3, b1, b2, hq1, hq2, w1, w2]
    exact ⟨_, aF _, hk _ _ _ (by omega)⟩
  ·have hl2 : ¬ (q.params.length : Int) = (args.length : Int) := by omega
   have hbad : dC c.P n args.length := by unfold dC; rw [hq3]; exact .inr hln
   rw [if_pos hbad, if_pos hbad] at hk
   simp -implicitDefEqProofs [ac130, lc, lh, hrp, e0, b1, b2, hq1, hq2, w1, w2, hl2]
   exact ⟨_, aF _, by simpa [jP h] using hk ver X _ (by omega)⟩
theorem uM {P : List Fn} {env : List Pm} {op : Int} {n tl : List UInt8} {ty t T : Int} : ∀ (l : List Ex) (i : Nat), (∀ j, aM env op n tl ty j = env ∧ aL P op n ty j t = T) → bB P env op n tl ty t i l = l.flatMap (fun x => a7 P env x T)
 | [], i, _ => rfl
 | x :: xs, i, h => by
  unfold bB
  rw [(h i).1, (h i).2, uM xs (i + 1) h, List.flatMap_cons]
theorem own7_c (op : Int) (n tl : List UInt8) (ty : Int) (z : Cx) (args : List Ex) (p t : Int) (ih : ∀ x ∈ args, WT x) (hctl : ¬ bX op) (hsh : cG op ty args.length) ⦃c : C7⦄ ⦃mem : Mem⦄ ⦃nx ver : Nat⦄ ⦃env : List Pm⦄ ⦃X : List (List D)⦄ ⦃s : Ft⦄ ⦃K : KD⦄ (hc : Cok c) (h : E7 c mem nx env ver X s) (hel : env.length ≤ 5 * 2 ^ 40) (hl : ∀ x ∈ args, env.length + 2 * size x ≤ 5 * 2 ^ 40) (hll : args.length ≤ 5 * 2 ^ 40) (hs : ∀ x ∈ args, Sh x)
  (hk : ∀ ver' X' nx', nx ≤ nx' → K (I (bL c.P env op n ty args.length)) (bW c mem env ver' X' ((if op = 7 ∧ dC c.P n args.length then [] else bB c.P env op n tl ty t 0 args).foldl c.step s)) nx') :
  bO Tryz.prog 101 [.opt c.cid 0, .agg (aQ (.mk op n tl ty z args p))] mem nx K := by
 refine fi101.ct (by simp) fun hfr => ?_
 have lc := h.lc
 have le := h.le
 unfold C7.box at lc
 unfold C7.arr at le
 have h1 := h.ic
 have h2 := h.ie
 have h3 := h.if'
 have hnil : ∀ (v : Int), args = [] → op ≠ 7 → bL c.P env op n ty args.length = v → ∀ nx', nx ≤ nx' → ∃ mem', cD mem mem' ∧ K (I v) mem' nx' := by
  intro v ha h7 hv nx' hn
  subst ha
  have := hk ver X nx' hn
  rw [if_neg (fun g => h7 g.1), hv] at this
  unfold bB at this
  rw [List.foldl_nil, jP h] at this
  exact ⟨_, aF _, this⟩
 have hal : ∀ (T v : Int), op ≠ 7 → (∀ j, aM env op n tl ty j = env ∧ aL c.P op n ty j t = T) → bL c.P env op n ty args.length = v → ∀ (nx0 : Nat) (K' : KD), nx ≤ nx0 → (∀ ver' X' nx', nx0 ≤ nx' → (∀ nx2, nx' ≤ nx2 → K (I v) (bW c mem env ver' X' ((args.flatMap (fun x => a7 c.P env x T)).foldl c.step s)) nx2) → K' (.tup []) (bW c mem env ver' X' ((args.flatMap (fun x => a7 c.P env x T)).foldl c.step s)) nx') → bO Tryz.prog 96 [.opt c.cid 0, I T, .sl (em aQ args)] mem nx0 K' := by
  intro T v h7 hw hv nx0 K' hn hK
  refine FP T args ih hc (h.le_nx hn) hl hll hs (fun ver' X' nx' hn' => hK ver' X' nx' hn' (fun nx2 hn2 => ?_))
  have := hk ver' X' nx2 (by omega)
  rw [if_neg (fun g => h7 g.1), hv, uM args 0 hw] at this
  exact this
 unfold bX at hctl
 simp only [bE]
 unfold cG at hsh
 by_cases e2 : op = 2
 ·subst e2
  have ha : args = [] := List.eq_nil_of_length_eq_zero (by omega)
  simp -implicitDefEqProofs [ac101]
  exact hnil 2 ha (by decide) (by simp [bL]) _ (by omega)
 by_cases e3 : op = 3
 ·subst e3
  have ha : args = [] := List.eq_nil_of_length_eq_zero (by omega)
  simp -implicitDefEqProofs [ac101]
  exact hnil 2 ha (by decide) (by simp [bL]) _ (by omega)
 by_cases e4 : op = 4
 ·subst e4
  have ha : args = [] := List.eq_nil_of_length_eq_zero (by omega)
  simp -implicitDefEqProofs [ac101]
  exact hnil 3 ha (by decide) (by simp [bL]) _ (by omega)
 by_cases e5 : op = 5
 ·subst e5
  have ha : args = [] := List.eq_nil_of_length_eq_zero (by omega)
  simp -implicitDefEqProofs [ac101]
  exact hnil ty ha (by decide) (by simp [bL]) _ (by omega)
 by_cases e6 : op = 6
 ·subst e6
  have ha : args = [] := List.eq_nil_of_length_eq_zero (by omega)
  have w0 := aS (x := (env.length : Int) - 1) (by omega) (by omega)
  simp -implicitDefEqProofs [ac101, lc, le, w0]
  have hown : bL c.P env 6 n ty args.length = eU env.reverse n := by simp [bL, eQ]
  have hfin := fun nx2 hn2 => hnil _ ha (by decide) hown nx2 hn2
  generalize hR : eU env.reverse n = R at *
  refine lpG cf101 lb101_0 [4, 5] (α := Nat) (fun s _ => [(4, .top), (5, I ((s : Int) - 1))]) (fun s _ => mem) (fun s k => nx ≤ k ∧ s ≤ env.length ∧ eU (env.take s).reverse n = R) (fun s => s) env.length ⟨by omega, by simp, by rw [List.take_of_length_le (Nat.le_refl _)]; exact hR⟩ (by simp) (by simp) ?_
  rintro i k ⟨hk1, hi, hr⟩
  cases i with
  | zero =>
   simp only [List.take_zero, List.reverse_nil, eU] at hr
   subst hr
   simp -implicitDefEqProofs [lb101_0]
   exact hfin _ (by omega)
  | succ j =>
   have hj : j < env.length := by omega
   have ht : (env.take (j + 1)).reverse = env[j] :: (env.take j).reverse := by
    rw [List.take_succ_eq_append_getElem hj, List.reverse_append]; rfl
   rw [ht] at hr
   unfold eU at hr
   have hix : (em bG env ++ X)[j]? = some [Tx env[j].name, I env[j].type, I env[j].at'] := by
    rw [List.getElem?_append_left (by simpa using hj)]; simp [em, hj, bG]
   have hji : ((j + 1 : Nat) : Int) - 1 = j := by omega
   have w3 := aS (x := (j : Int) - 1) (by omega) (by omega)
   generalize env[j] = y at *
   by_cases hy : y.name = n
   ·rw [if_pos hy] at hr
    subst hr
    simp -implicitDefEqProofs [lb101_0, hji, lc, le, hix, hy, hj]
    exact hfin _ (by omega)
   ·rw [if_neg hy] at hr
    simp -implicitDefEqProofs [lb101_0, hji, lc, le, hix, hy, w3, hj]
    exact aI j ⟨by omega, by omega, hr⟩ (by omega) (by simp) (by simp)
 by_cases e7 : op = 7
 ·subst e7
  have hcall := fun (K : KD) (nx0 : Nat) (hn : nx ≤ nx0) => LZ n tl ty z args p t ih (K := K) hc (h.le_nx hn) hl hll hs
  simp only [bE] at hcall
  simp -implicitDefEqProofs [ac101]
  refine aD (hcall _ _ (by omega) (fun v2 X2 n2 hn2 => ?_))
  simp -implicitDefEqProofs
  exact ⟨_, aF _, by simpa [bL] using hk v2 X2 n2 (by omega)⟩
 by_cases e14 : op = 14
 ·subst e14
  simp -implicitDefEqProofs [ac101]
  refine aD (hal 2 2 (by decide) (fun j => by simp [aM, aL]) (by simp [bL]) _ _ (by omega) (fun v2 X2 n2 hn2 hK => ?_))
  simp -implicitDefEqProofs
  exact ⟨_, aF _, hK _ (by omega)⟩
 by_cases e18 : op = 18
 ·subst e18
  obtain ⟨a, b, rfl⟩ : ∃ a b, args = [a, b] := by
   match args, hsh with
   | [], hsh => simp at hsh
   | [a], hsh => simp at hsh
   | [a, b], _ => exact ⟨a, b, rfl⟩
   | a :: b :: c :: d, hsh => simp at hsh
  have ha := fun (K : KD) (nx0 : Nat) (hn : nx ≤ nx0) => ih a (by simp) (K := K) (t := 1) hc (h.le_nx hn) (hl a (by simp)) (hs a (by simp))
  have hb := fun (K : KD) (nx0 v1 : Nat) (X1 : List (List D)) (s1 : Ft) (hn : nx ≤ nx0) => ih b (by simp) (K := K) (t := 3) hc (h.up (nx' := nx0) (env' := env) (ver' := v1) (X' := X1) (s' := s1) hn) (hl b (by simp)) (hs b (by simp))
  simp only [aA] at ha hb
  simp -implicitDefEqProofs [ac101]
  refine aD (ha _ _ (by omega) (fun v2 X2 n2 hn2 => ?_))
  simp -implicitDefEqProofs
  refine aD (hb _ _ _ _ _ (by omega) (fun v3 X3 n3 hn3 => ?_))
  rw [eZ h.ce h.cf h.ef]
  simp -implicitDefEqProofs
  exact ⟨_, aF _, by simpa [bL, bB, aM, aL] using hk v3 X3 (n3 + 1) (by omega)⟩
 simp -implicitDefEqProofs [ac101, e2, e3, e4, e5, e6, e7, e14, e18]
 have hwi : ∀ j, aM env op n tl ty j = env ∧ aL c.P op n ty j t = 1 := fun j => by
  have e19 : ¬ op = 19 := fun g => hctl (.inl g)
  have e20 : ¬ op = 20 := fun g => hctl (.inr (.inl g))
  have e21 : ¬ op = 21 := fun g => hctl (.inr (.inr (.inl g)))
  have e22 : ¬ op = 22 := fun g => hctl (.inr (.inr (.inr g)))
  simp [aM, aL, e7, e14, e18, e19, e20, e21, e22]
 refine aD (hal 1 _ e7 hwi rfl _ _ (by omega) (fun v2 X2 n2 hn2 hK => ?_))
 by_cases e12 : op = 12
 ·have : bL c.P env op n ty args.length = 2 := by subst e12; simp [bL]
  rw [this] at hK
  simp -implicitDefEqProofs [e12]
  exact ⟨_, aF _, hK _ (by omega)⟩
 by_cases e13 : op = 13
 ·have : bL c.P env op n ty args.length = 2 := by subst e13; simp [bL]
  rw [this] at hK
  simp -implicitDefEqProofs [e12, e13]
  exact ⟨_, aF _, hK _ (by omega)⟩
 have : bL c.P env op n ty args.length = 1 := by simp [bL, e2, e3, e4, e5, e6, e7, e14, e18, e12, e13]
 rw [this] at hK
 simp -implicitDefEqProofs [e12, e13]
 exact ⟨_, aF _, hK _ (by omega)⟩
section
variable {op : Int} {n tl : List UInt8} {ty : Int} {z : Cx} {a b d : Ex} {p t : Int} {b3 b4 b5 : Nat} {c : C7} {mem : Mem} {nx ver : Nat} {env : List Pm} {X : List (List D)} {s : Ft} {K : KD}
theorem do1_c (hd : WT d) (l3 : look mem b3 = some (.box [.opt c.cid 0])) (l4 : look mem b4 = some (.box (aQ (.mk op n tl ty z [a, b, d] p)))) (l5 : look mem b5 = some (.box [I t])) (hc : Cok c) (h : E7 c mem nx env ver X s) (hz : env.length + 2 * size d ≤ 5 * 2 ^ 40) (hs : Sh d)
  (hk : ∀ ver' X' nx', nx ≤ nx' → K (.tup []) (bW c mem env ver' X' ((a7 c.P env d t).foldl c.step s)) nx') :
  bO Tryz.prog 98 [.opt b3 0, .opt b4 0, .opt b5 0] mem nx K := by
 refine fi98.ct (by simp) fun hfr => ?_
 have hx := fun (K : KD) (nx0 : Nat) (hn : nx ≤ nx0) => hd (K := K) (t := t) hc (h.le_nx hn) hz hs
 simp only [bE] at l4
 simp only [aA] at hx
 simp -implicitDefEqProofs [ac98, l3, l4, l5]
 refine aD (hx _ _ (by omega) (fun v2 X2 n2 hn2 => ?_))
 simp -implicitDefEqProofs
 exact ⟨_, aF _, hk _ _ _ (by omega)⟩
theorem do2_c (ha : WT a) (hb : WT b) (l3 : look mem b3 = some (.box [.opt c.cid 0])) (l4 : look mem b4 = some (.box (aQ (.mk op n tl ty z [a, b] p)))) (l5 : look mem b5 = some (.box [I t])) (m3 : b3 ≠ c.cid ∧ b3 ≠ c.eid ∧ b3 ≠ c.fid) (m4 : b4 ≠ c.cid ∧ b4 ≠ c.eid ∧ b4 ≠ c.fid) (m5 : b5 ≠ c.cid ∧ b5 ≠ c.eid ∧ b5 ≠ c.fid) (hc : Cok c) (h : E7 c mem nx env ver X s) (hz : env.length + 2 * size a ≤ 5 * 2 ^ 40) (hzb : env.length + 2 * size b ≤ 5 * 2 ^ 40) (hs : Sh a) (hsb : Sh b)
  (hk : ∀ ver' X' nx', nx ≤ nx' → K (.tup []) (bW c mem env ver' X' ((a7 c.P env b t).foldl c.step ((a7 c.P env a ty).foldl c.step s))) nx') :
  bO Tryz.prog 99 [.opt b3 0, .opt b4 0, .opt b5 0] mem nx K := by
 refine fi99.ct (by simp) fun hfr => ?_
 have hx := fun (K : KD) (nx0 : Nat) (hn : nx ≤ nx0) => ha (K := K) (t := ty) hc (h.le_nx hn) hz hs
 have hy := fun (K : KD) (nx0 v1 : Nat) (X1 : List (List D)) (s1 : Ft) (hn : nx ≤ nx0) => hb (K := K) (t := t) hc (h.up (nx' := nx0) (env' := env) (ver' := v1) (X' := X1) (s' := s1) hn) hzb hsb
 simp only [bE] at l4
 simp only [aA] at hx hy
 simp -implicitDefEqProofs [ac99, l3, l4, l5]
 refine aD (hx _ _ (by omega) (fun v2 X2 n2 hn2 => ?_))
 simp -implicitDefEqProofs [l3, l4, l5, lR m3.1 m3.2.1 m3.2.2, lR m4.1 m4.2.1 m4.2.2, lR m5.1 m5.2.1 m5.2.2]
 refine aD (hy _ _ _ _ _ (by omega) (fun v3 X3 n3 hn3 => ?_))
 rw [eZ h.ce h.cf h.ef]
 simp -implicitDefEqProofs
 exact ⟨_, aF _, hk _ _ _ (by omega)⟩
theorem do3_c (hb : WT b) (l3 : look mem b3 = some (.box [.opt c.cid 0])) (l4 : look mem b4 = some (.box (aQ (.mk op n tl ty z [a, b] p)))) (l5 : look mem b5 = some (.box [I t])) (hc : Cok c) (h : E7 c mem nx env ver X s) (hz : env.length + 2 * size b ≤ 5 * 2 ^ 40) (hs : Sh b)
  (hk : ∀ ver' X' nx', nx ≤ nx' → K (.tup []) (bW c mem env ver' X' ((a7 c.P env b t).foldl c.step s)) nx') :
  bO Tryz.prog 100 [.opt b3 0, .opt b4 0, .opt b5 0] mem nx K := by
 refine fi100.ct (by simp) fun hfr => ?_
 have hx := fun (K : KD) (nx0 : Nat) (hn : nx ≤ nx0) => hb (K := K) (t := t) hc (h.le_nx hn) hz hs
 simp only [bE] at l4
 simp only [aA] at hx
 simp -implicitDefEqProofs [ac100, l3, l4, l5]
 refine aD (hx _ _ (by omega) (fun v2 X2 n2 hn2 => ?_))
 simp -implicitDefEqProofs
 exact ⟨_, aF _, hk _ _ _ (by omega)⟩
end
theorem G2 {l : List Ex} (h : l.length = 2) : ∃ a b, l = [a, b] := by
 match l, h with
 | [a, b], _ => exact ⟨a, b, rfl⟩
theorem BE {l : List Ex} (h : l.length = 3) : ∃ a b d, l = [a, b, d] := by
 match l, h with
 | [a, b, d], _ => exact ⟨a, b, d, rfl⟩
theorem want_s (op : Int) (n tl : List UInt8) (ty : Int) (z : Cx) (args : List Ex) (p : Int) (ih : ∀ x ∈ args, WT x) : WT (.mk op n tl ty z args p) := by
 intro c mem nx ver env X s t K hc h hz hs hk
 have hsz : ∀ x ∈ args, env.length + 2 * size x + 2 ≤ 5 * 2 ^ 40 := fun x hx => by
  have := lE hx
  simp only [size] at hz; omega
 have hll : args.length ≤ 5 * 2 ^ 40 := by
  have := kT args
  simp only [size] at hz; omega
 unfold Sh at hs
 have hsh : ∀ x ∈ args, Sh x := fun x hx => mY hs.2 hx
 have hs1 := hs.1
 have h1 := h.ic
 have h2 := h.ie
 have h3 := h.if'
 -- the end: is the type the wanted one?
 refine fi70.ct (by simp) fun hfr => ?_
 unfold a7 at hk
 rw [List.foldl_append] at hk
 simp only [bE]
 have hM0 : ∀ (M0 : Mem), M0 = (nx + 2, .box [I t]) :: (nx + 1, .box [I op, Tx n, Tx tl, I ty, CX z.re z.im, .sl (em aQ args), I p]) :: (nx, .box [.opt c.cid 0]) :: mem →
   (∀ n0, nx + 2 < n0 → E7 c M0 n0 env ver X s) ∧ (∀ v X' s', cD (bW c M0 env v X' s') (bW c mem env v X' s')) ∧ (∀ e v X' s', look (bW c M0 e v X' s') nx = some (.box [.opt c.cid 0]) ∧ look (bW c M0 e v X' s') (nx + 1) = some (.box [I op, Tx n, Tx tl, I ty, CX z.re z.im, .sl (em aQ args), I p]) ∧ look (bW c M0 e v X' s') (nx + 2) = some (.box [I t])) := by
  rintro M0 rfl
  refine ⟨fun n0 hn => ((h.cons (nx' := nx + 1) (by omega) (by omega)).cons (nx' := nx + 2) (by omega) (by omega)).cons (by omega) (by omega), fun v X' s' => ?_, fun e v X' s' => ⟨?_, ?_, ?_⟩⟩
  ·rw [lX (by omega) (by omega) (by omega), lX (by omega) (by omega) (by omega), lX (by omega) (by omega) (by omega)]
   have hn : ∀ j, nx ≤ j → look (bW c mem env v X' s') j = none := fun j hj => by
    rw [lR (by omega) (by omega) (by omega)]; exact hfr j hj
   exact aE (aE (aE (aF _) (hn _ (by omega))) (hn _ (by omega))) (hn _ (by omega))
  ·rw [lR (by omega) (by omega) (by omega)]; simp [look]
  ·rw [lR (by omega) (by omega) (by omega)]; simp [look]
  ·rw [lR (by omega) (by omega) (by omega)]; simp [look]
 obtain ⟨hE0, hsub, hlk⟩ := hM0 _ rfl
 clear hM0
 have l3 := fun e v X' s' => (hlk e v X' s').1
 have l4 := fun e v X' s' => (hlk e v X' s').2.1
 have l5 := fun e v X' s' => (hlk e v X' s').2.2
 clear hlk
 have hown := fun (hctl : ¬ bX op) (K : KD) (nx0 : Nat) (hn : nx + 2 < nx0) => own7_c op n tl ty z args p t ih hctl hs1 (K := K) hc (hE0 nx0 hn) (by omega) (fun x hx => by have := hsz x hx; omega) hll hsh
 have hw : ∀ x ∈ args, ∀ (T : Int) (K : KD) (nx0 v1 : Nat) (X1 : List (List D)) (s1 : Ft), nx + 2 < nx0 → _ := fun x hx T K nx0 v1 X1 s1 hn => ih x hx (K := K) (t := T) hc ((hE0 nx0 hn).up (Nat.le_refl _) (env' := env) (ver' := v1) (X' := X1) (s' := s1)) (by have := hsz x hx; omega) (hsh x hx)
 have hwall : ∀ (l : List Ex), (∀ x ∈ l, x ∈ args) → l.length ≤ args.length → ∀ (T : Int) (K : KD) (nx0 v1 : Nat) (X1 : List (List D)) (s1 : Ft), nx + 2 < nx0 → _ := fun l hl hle T K nx0 v1 X1 s1 hn => FP T l (fun x hx => ih x (hl x hx)) (K := K) hc ((hE0 nx0 hn).up (Nat.le_refl _) (env' := env) (ver' := v1) (X' := X1) (s' := s1)) (fun x hx => by have := hsz x (hl x hx); omega) (by omega) (fun x hx => hsh x (hl x hx))
 simp only [eZ h.ce h.cf h.ef] at hw hwall
 simp only [bE] at hown
 have hin : ∀ (M : List Pm) (F' : FuncId) (caps : List D) (K : KD) (nx0 v1 : Nat) (X1 : List (List D)) (s1 s2 : Ft), M.length ≤ 2 → nx + 2 < nx0 → _ := fun M F' caps K nx0 v1 X1 s1 s2 hM hn => in_c (M := M) (F' := F') (caps := caps) (s' := s2) (K := K) ((hE0 nx0 hn).up (Nat.le_refl _) (env' := env) (ver' := v1) (X' := X1) (s' := s1)) (by omega)
 simp only [eZ h.ce h.cf h.ef] at hin
 have hsame := jP (hE0 (nx + 3) (by omega))
 by_cases e19 : op = 19
 ·subst e19
  obtain ⟨a, b, d, rfl⟩ : ∃ a b d, args = [a, b, d] := BE (by unfold cG at hs1; omega)
  simp [bX, bB, aM, aL] at hk
  simp only [aA] at hw
  simp -implicitDefEqProofs [ac70]
  generalize (nx + 2, Blk.box [I t]) :: (nx + 1, .box [I 19, Tx n, Tx tl, I ty, CX z.re z.im, .sl (em aQ [a, b, d]), I p]) :: (nx, .box [.opt c.cid 0]) :: mem = M0 at *
  rw [← hsame]
  refine aD (hw a (by simp) 2 _ _ _ _ _ (by omega) (fun v2 X2 n2 hn2 => ?_))
  have hsl : ∀ m, gJ m false 7 (.sl (em aQ [a, b, d])) (some (.pl (.int .i64 1))) none = some (.sl (em aQ [b, d])) := fun m => by
   simp [gJ, dP, em, aA]
  simp -implicitDefEqProofs [l3, l4, l5, hsl]
  refine aD (hwall [b, d] (by simp) (by simp) t _ _ _ _ _ (by omega) (fun v3 X3 n3 hn3 => ?_))
  simp -implicitDefEqProofs [l3, l4, l5]
  exact ⟨_, hsub _ _ _, by simpa using hk v3 X3 _ (by omega)⟩
 by_cases e20 : op = 20
 ·subst e20
  obtain ⟨a, b, d, rfl⟩ : ∃ a b d, args = [a, b, d] := BE (by unfold cG at hs1; omega)
  simp [bX, bB, aM, aL] at hk
  simp only [aA] at hw
  simp -implicitDefEqProofs [ac70]
  generalize (nx + 2, Blk.box [I t]) :: (nx + 1, .box [I 20, Tx n, Tx tl, I ty, CX z.re z.im, .sl (em aQ [a, b, d]), I p]) :: (nx, .box [.opt c.cid 0]) :: mem = M0 at *
  rw [← hsame]
  refine aD (hw a (by simp) 3 _ _ _ _ _ (by omega) (fun v2 X2 n2 hn2 => ?_))
  simp -implicitDefEqProofs [l3, l4, l5]
  refine aD (hw b (by simp) t _ _ _ _ _ (by omega) (fun v3 X3 n3 hn3 => ?_))
  simp -implicitDefEqProofs [l3, l4, l5]
  refine aD (hin [⟨n, 1, 0⟩, ⟨tl, 3, 0⟩] _ _ _ _ _ _ _ ((a7 c.P (env ++ [⟨n, 1, 0⟩, ⟨tl, 3, 0⟩]) d t).foldl c.step ((a7 c.P env b t).foldl c.step ((a7 c.P env a 3).foldl c.step s))) (by simp) (by omega) (fun ver1 nx1 K' hn1 hK => ?_) (fun v4 X4 n4 hn4 => ?_))
  ·refine do1_c (ih d (by simp)) (l3 _ _ _ _) (by rw [bE]; exact l4 _ _ _ _) (l5 _ _ _ _) hc ((hE0 _ (by omega)).up (Nat.le_refl _)) (by have := hsz d (by simp); simp only [List.length_append, List.length_cons, List.length_nil]; omega) (hsh d (by simp)) (fun v5 X5 n5 hn5 => ?_)
   rw [eZ h.ce h.cf h.ef]
   exact hK _ _ _ hn5
  ·simp -implicitDefEqProofs [l3, l4, l5]
   exact ⟨_, hsub _ _ _, by simpa using hk v4 X4 _ (by omega)⟩
 by_cases e21 : op = 21
 ·subst e21
  obtain ⟨a, b, rfl⟩ : ∃ a b, args = [a, b] := G2 (by unfold cG at hs1; omega)
  simp [bX, bB, aM, aL] at hk
  simp only [aA] at hw
  simp -implicitDefEqProofs [ac70]
  generalize (nx + 2, Blk.box [I t]) :: (nx + 1, .box [I 21, Tx n, Tx tl, I ty, CX z.re z.im, .sl (em aQ [a, b]), I p]) :: (nx, .box [.opt c.cid 0]) :: mem = M0 at *
  rw [← hsame]
  refine aD (hin [⟨n, ty, 0⟩] _ _ _ _ _ _ _ ((a7 c.P (env ++ [⟨n, ty, 0⟩]) b t).foldl c.step ((a7 c.P (env ++ [⟨n, ty, 0⟩]) a ty).foldl c.step s)) (by simp) (by omega) (fun ver1 nx1 K' hn1 hK => ?_) (fun v4 X4 n4 hn4 => ?_))
  ·refine do2_c (ih a (by simp)) (ih b (by simp)) (l3 _ _ _ _) (by rw [bE]; exact l4 _ _ _ _) (l5 _ _ _ _) (by omega) (by omega) (by omega) hc ((hE0 _ (by omega)).up (Nat.le_refl _)) (by have := hsz a (by simp); simp only [List.length_append, List.length_cons, List.length_nil]; omega) (by have := hsz b (by simp); simp only [List.length_append, List.length_cons, List.length_nil]; omega) (hsh a (by simp)) (hsh b (by simp)) (fun v5 X5 n5 hn5 => ?_)
   rw [eZ h.ce h.cf h.ef]
   exact hK _ _ _ hn5
  ·simp -implicitDefEqProofs [l3, l4, l5]
   exact ⟨_, hsub _ _ _, by simpa using hk v4 X4 _ (by omega)⟩
 by_cases e22 : op = 22
 ·subst e22
  obtain ⟨a, b, rfl⟩ : ∃ a b, args = [a, b] := G2 (by unfold cG at hs1; omega)
  simp [bX, bB, aM, aL] at hk
  simp only [aA] at hw
  simp -implicitDefEqProofs [ac70]
  generalize (nx + 2, Blk.box [I t]) :: (nx + 1, .box [I 22, Tx n, Tx tl, I ty, CX z.re z.im, .sl (em aQ [a, b]), I p]) :: (nx, .box [.opt c.cid 0]) :: mem = M0 at *
  rw [← hsame]
  refine aD (hw a (by simp) ty _ _ _ _ _ (by omega) (fun v2 X2 n2 hn2 => ?_))
  simp -implicitDefEqProofs [l3, l4, l5]
  refine aD (hin [⟨n, ty, 0⟩] _ _ _ _ _ _ _ ((a7 c.P (env ++ [⟨n, ty, 0⟩]) b t).foldl c.step ((a7 c.P env a ty).foldl c.step s)) (by simp) (by omega) (fun ver1 nx1 K' hn1 hK => ?_) (fun v4 X4 n4 hn4 => ?_))
  ·refine do3_c (ih b (by simp)) (l3 _ _ _ _) (by rw [bE]; exact l4 _ _ _ _) (l5 _ _ _ _) hc ((hE0 _ (by omega)).up (Nat.le_refl _)) (by have := hsz b (by simp); simp only [List.length_append, List.length_cons, List.length_nil]; omega) (hsh b (by simp)) (fun v5 X5 n5 hn5 => ?_)
   rw [eZ h.ce h.cf h.ef]
   exact hK _ _ _ hn5
  ·simp -implicitDefEqProofs [l3, l4, l5]
   exact ⟨_, hsub _ _ _, by simpa using hk v4 X4 _ (by omega)⟩
 have hctl : ¬ bX op := by unfold bX; omega
 simp -implicitDefEqProofs [ac70, e19, e20, e21, e22]
 generalize (nx + 2, Blk.box [I t]) :: (nx + 1, .box [I op, Tx n, Tx tl, I ty, CX z.re z.im, .sl (em aQ args), I p]) :: (nx, .box [.opt c.cid 0]) :: mem = M0 at *
 refine aD (hown hctl _ _ (by omega) (fun v2 X2 n2 hn2 => ?_))
 generalize (if op = 7 ∧ dC c.P n args.length then [] else bB c.P env op n tl ty t 0 args).foldl c.step s = s2 at *
 by_cases ho : bL c.P env op n ty args.length = t
 ·rw [if_pos (.inr ho)] at hk
  simp -implicitDefEqProofs [l3, l4, l5, ho]
  exact ⟨_, hsub _ _ _, hk v2 X2 _ (by omega)⟩
 ·rw [if_neg (fun g => g.elim hctl ho)] at hk
  have hE2 := (hE0 n2 (by omega)).up (Nat.le_refl _) (env' := env) (ver' := v2) (X' := X2) (s' := s2)
  have lc2 := hE2.lc
  unfold C7.box at lc2
  simp -implicitDefEqProofs [l3, l4, l5, ho, lc2]
  refine jL (hc.wr.call s2 p hE2.lf (by omega) (fun n3 hn3 => ?_))
  rw [mem7_f hE2, eZ h.ce h.cf h.ef]
  simp -implicitDefEqProofs
  exact ⟨_, hsub _ _ _, hk v2 X2 _ (by omega)⟩
mutual
theorem vU : ∀ (e : Ex), WT e
 | .mk op n t ty z args p => want_s op n t ty z args p (zL args)
theorem zL : ∀ (l : List Ex), ∀ x ∈ l, WT x
 | [], x, h => by simp at h
 | e :: es, x, h => (List.mem_cons.1 h).elim (fun he => he ▸ vU e) (fun h => zL es x h)
end
theorem F8 (P : List Fn) (hP : P.length < 2 ^ 40) (F : FuncId) (fid : Nat) ⦃mem : Mem⦄ ⦃nx : Nat⦄ ⦃K : KD⦄
  (hk : ∀ (hd : Sm) nx', Rp P hd → nx + 8 ≤ nx' → K (.opt (nx + 7) 0) ((nx + 7, .box [.omap (nx + 2), .sl (em aY P), .pl (.slice none 0 0), .fn F [.opt fid 0]]) :: (nx + 2, .map (bR hd)) :: mem) nx') :
  bO Tryz.prog 68 [.agg [.sl (em aY P)], .fn F [.opt fid 0]] mem nx K := by
 refine fi68.ct (by simp) fun hfr => ?_
 have w0 := aS (x := (P.length : Int) - 1) (by omega) (by omega)
 simp -implicitDefEqProofs [ac68, w0]
 have hid : ∀ k, nx + 2 + 7 + 5 ≤ k → (nx + 2 + 5 = nx + 2) = False := fun k _ => eq_false (by omega)
 refine lpG cf68 lb68_0 [6] (α := Nat × Sm) (fun s _ => [(6, I ((s.1 : Int) - 1))]) (fun s _ => (nx + 2 + 5, .box [.omap (nx + 2), .sl (em aY P), .pl (.slice none 0 0), .fn F [.opt fid 0]]) :: (nx + 2, .map (bR s.2)) :: mem) (fun s k => nx + 14 ≤ k ∧ s.1 ≤ P.length ∧ ∀ n, dB s.2 n = aP (P.drop s.1) s.1 n + 1) (fun s => s.1) (P.length, []) ⟨by omega, by simp, fun n => by rw [List.drop_eq_nil_of_le (Nat.le_refl _), qM]; rfl⟩ (by simp) (aK _) ?_
 rintro ⟨i, m⟩ k ⟨hk1, hi, hm⟩
 simp only at hi hm
 cases i with
 | zero =>
  rw [List.drop_zero] at hm
  simp -implicitDefEqProofs [lb68_0]
  exact ⟨_, aF _, hk m _ hm (by omega)⟩
 | succ j =>
  have hj : j < P.length := by omega
  have hji : ((j + 1 : Nat) : Int) - 1 = j := by omega
  have w1 := aS (x := (j : Int) + 1) (by omega) (by omega)
  have w3 := aS (x := (j : Int) - 1) (by omega) (by omega)
  have hd : P.drop j = P[j] :: P.drop (j + 1) := List.drop_eq_getElem_cons hj
  have hm2 : ∀ n, dB (fK m P[j].name (j + 1)) n = aP (P.drop j) j n + 1 := fun n => by
   rw [kZ, hd]
   unfold aP
   by_cases e : P[j].name = n
   ·rw [if_pos e, if_pos e]
   ·rw [if_neg e, if_neg e, hm n]
  obtain ⟨x, hxe⟩ : ∃ x, P[j] = x := ⟨_, rfl⟩
  rw [hxe] at hm2
  simp -implicitDefEqProofs [lb68_0, hji, hxe, hj, w1, w3]
  exact aI (j, fK m x.name (j + 1)) ⟨by omega, by omega, hm2⟩ (by simp only; omega) (by simp) (aK _)
def tcF (P : List Fn) : List Fn → Ft → Ft
 | [], s => s
 | f :: fs, s => tcF P fs ((a7 P f.params f.body f.type).foldl d9 s)
def gW (P : List Fn) : Ft := if (ckF P).1 ≠ 0 then ckF P else tcF P P (ckF P)
theorem box4 {a b d e : D} : yQ (.box [a, b, d, e]) (.box [a, b, .top, e]) := .inr ⟨_, _, rfl, rfl, .inl rfl, .inl rfl, .inr (.inl rfl), .inl rfl, trivial⟩
theorem K8 {P : List Fn} (hS : Pure Tryz.prog 93 [.agg [.sl (em aY P)]] (.agg [I (ckF P).1, I (ckF P).2])) (hP : P.length < 2 ^ 40) (hf : ∀ f ∈ P, size f.body ≤ 2 ^ 37 ∧ f.params.length ≤ 2 ^ 37 ∧ Sh f.body) :
  Pure Tryz.prog 65 [.agg [.sl (em aY P)]] (.agg [I (gW P).1, I (gW P).2]) := by
 refine fi65.pu (by simp) ?_
 unfold gW
 generalize ckF P = s0 at *
 simp -implicitDefEqProofs (maxDischargeDepth := 80) [ac65]
 refine aG hS (by simp) ?_
 by_cases h0 : s0.1 = 0
 ·simp -implicitDefEqProofs (maxDischargeDepth := 80) [h0]
  refine aD (F8 P hP 94 4 (fun hd n1 hrp hn1 => ?_))
  have e0 : s0 = (0, s0.2) := by rw [← h0]
  have h00 : (0 : Int) = s0.1 := h0.symm
  simp -implicitDefEqProofs (maxDischargeDepth := 80)
  generalize hR : tcF P P s0 = R
  refine lpG cf65 lb65_0 [6, 19] (α := Nat × Ft) (fun s _ => [(6, .top), (19, I s.1)]) (fun s _ => [(20, .box [.omap 15, .sl (em aY P), .top, .fn 94 [.opt 4 0]]), (15, .map (bR hd)), (4, .box [I s.2.1, I s.2.2]), (1, .box [I 0, I 0])]) (fun s k => 21 ≤ k ∧ s.1 ≤ P.length ∧ tcF P (P.drop s.1) s.2 = R) (fun s => P.length - s.1) (0, s0) ⟨by omega, by simp, hR⟩ (by simp) ?_ ?_
  ·rw [← h0]; exact memLe_cons' box4 (aK _)
  rintro ⟨i, s⟩ k ⟨hk, hi, hr⟩
  simp only at hi hr
  have Kk := nfc trivial hk
  by_cases hlt : i < P.length
  ·have hd1 : P.drop i = P[i] :: P.drop (i + 1) := List.drop_eq_getElem_cons hlt
   have hmem : P[i] ∈ P := List.getElem_mem hlt
   rw [hd1] at hr
   unfold tcF at hr
   obtain ⟨x, hxe⟩ : ∃ x, P[i] = x := ⟨_, rfl⟩
   rw [hxe] at hr hmem
   obtain ⟨z1, z2, z3⟩ := hf x hmem
   have w1 := aS (x := (i : Int) + 1) (by omega) (by omega)
   have hb : x.params.length * 32 ≤ 3 * 2 ^ 46 := by omega
   simp -implicitDefEqProofs (maxDischargeDepth := 80) [-els, vK, neA, ltA, Kk, lb65_0, hlt, hxe, hb]
   have hx := vU x.body
   unfold WT at hx
   simp only [aA] at hx
   have hb1 : k + 1 + 4 + 3 < k + 1 + 4 + 7 + 6 := by omega
   have hb2 : k + 1 + 2 ≠ k + 1 + 4 + 3 := by omega
   have hb3 : 21 ≤ k + 1 + 4 + 3 := by omega
   have hb4 : k + 1 + 2 < k + 1 + 4 + 7 + 6 := by omega
   have hb5 : 21 ≤ k + 1 + 2 := by omega
   generalize k + 1 + 4 + 7 + 6 = k2 at *
   generalize k + 1 + 4 + 3 = b at *
   generalize k + 1 + 2 = b9 at *
   have f1 : (b = b9) = False := eq_false (fun g => hb2 g.symm)
   have f2 : (b9 = b) = False := eq_false hb2
   refine aD (hx (c := ⟨20, b, 15, 4, P, hd, 94, fun s => [I s.1, I s.2], d9⟩) (env := x.params) (ver := 0) (X := []) (s := s) ⟨ck_wr _ rfl rfl rfl, hrp, hP⟩ ?_ (by omega) z3 (fun v X n hn => ?_))
   ·constructor <;> first | (simp only []; omega) | simp -implicitDefEqProofs (maxDischargeDepth := 80) [neA, ltA, Kk, neE hb3, neE hb5, f1, f2, C7.box, C7.arr]
   ·generalize (a7 P x.params x.body x.type).foldl d9 s = s2 at *
    simp -implicitDefEqProofs (maxDischargeDepth := 80) [neA, ltA, Kk, neE hb3, neE hb5, f1, f2, bW, C7.box, C7.arr, w1]
    exact aI (i + 1, s2) ⟨by omega, hlt, hr⟩ (by simp only; omega) (by simp) (aN (aN (memLe_cons' box4 (aK _)) (by simp only [look]; repeat rw [if_neg (by omega)])) (by simp only [look]; repeat rw [if_neg (by omega)]))
  ·rw [List.drop_eq_nil_of_le (by omega)] at hr
   unfold tcF at hr
   subst hr
   simp -implicitDefEqProofs (maxDischargeDepth := 80) [neA, ltA, Kk, lb65_0, hlt]
 ·simp -implicitDefEqProofs (maxDischargeDepth := 80) [h0]
def ofL (P : List Fn) (env : List Pm) (e : Ex) : List Int → Int × Int
 | [] => (0, 34)
 | t :: ts => if a7 P env e t = [] then (t, 0) else ofL P env e ts
def ofF (P : List Fn) (env : List Pm) (e : Ex) : Int × Int := ofL P env e [1, 2, 3]
mutual
theorem wS (P : List Fn) : ∀ (env : List Pm) (e : Ex) (t : Int), (a7 P env e t).length ≤ size e
 | env, .mk op n tl ty z args p, t => by
  have := uZ P env op n tl ty t 0 args
  unfold a7 size
  rw [List.length_append]
  split <;> split <;> simp <;> omega
theorem uZ (P : List Fn) (env : List Pm) (op : Int) (n tl : List UInt8) (ty t : Int) : ∀ (i : Nat) (l : List Ex), (bB P env op n tl ty t i l).length ≤ aV l
 | i, [] => by simp [bB, aV]
 | i, x :: xs => by
  have h1 := wS P (aM env op n tl ty i) x (aL P op n ty i t)
  have h2 := uZ P env op n tl ty t (i + 1) xs
  unfold bB aV
  rw [List.length_append]; omega
end
theorem CK : ∀ (l : List Int) (k : Int), 0 ≤ k → k + l.length < 2 ^ 62 → (l.foldl qJ (k, 0)) = (k + l.length, 0)
 | [], k, _, _ => by simp
 | x :: xs, k, h0, h => by
  simp only [List.length_cons] at h
  have w := aS (x := k + 1) (by omega) (by omega)
  show xs.foldl qJ (IntKind.i64.wrap (k + 1), 0) = _
  rw [w, CK xs (k + 1) (by omega) (by omega)]
  simp only [List.length_cons]
  congr 1; omega
theorem Of_c (P : List Fn) (env : List Pm) (e : Ex) (hP : P.length < 2 ^ 40) (hz : env.length + 2 * size e ≤ 5 * 2 ^ 40) (hs : Sh e) :
  Pure Tryz.prog 37 [.agg [.sl (em aY P)], .sl (em bG env), .agg (aQ e)] (.tup [I (ofF P env e).1, I (ofF P env e).2]) := by
 refine fi37.pu (by simp) ?_
 simp only [aA]
 simp -implicitDefEqProofs [ac37]
 generalize hR : ofF P env e = R
 unfold ofF at hR
 refine lpG cf37 lb37_0 [6, 7, 9, 10, 11, 14] (α := Nat) (fun s _ => [(6, .top), (7, .top), (9, .top), (10, .top), (11, .top), (14, I s)]) (fun s _ => []) (fun s k => s ≤ 3 ∧ ofL P env e (([1, 2, 3] : List Int).drop s) = R) (fun s => 3 - s) 0 ⟨by omega, hR⟩ (by simp) (by simp) ?_
 rintro i k ⟨hi, hr⟩
 by_cases hlt : i < 3
 ·have hwl := wS P env e
  have w1 := aS (x := (i : Int) + 1) (by omega) (by omega)
  have hgo : ∃ T rest, [1, 2, 3].drop i = T :: rest ∧ [1, 2, 3].drop (i + 1) = rest ∧ ∀ m, iaD m 1 (.sl [[I 1], [I 2], [I 3]]) (I i) = some (.pt [I T]) := by
   match i, hlt with
   | 0, _ => exact ⟨1, [2, 3], rfl, rfl, fun m => rfl⟩
   | 1, _ => exact ⟨2, [3], rfl, rfl, fun m => rfl⟩
   | 2, _ => exact ⟨3, [], rfl, rfl, fun m => rfl⟩
  obtain ⟨T, rest, d1, d2, d3⟩ := hgo
  rw [d1] at hr
  unfold ofL at hr
  have hlt2 : (i : Int) < 3 := by omega
  simp -implicitDefEqProofs [lb37_0, hlt2, d3]
  refine aD (F8 P hP 69 (k + 4) (fun hd n1 hrp hn1 => ?_))
  have hb : env.length * 32 ≤ 3 * 2 ^ 46 := by omega
  have q1 : k + 4 < k + 1 + 3 + 2 + 4 + 2 := by omega
  have q2 : k + 1 + 3 + 2 + 4 + 2 < k + 1 + 3 + 2 + 4 + 7 := by omega
  have q3 : k + 1 + 3 + 2 + 4 + 7 < n1 := by omega
  have q4 : k ≤ k + 4 := by omega
  generalize k + 1 + 3 + 2 + 4 + 7 = cid at *
  generalize k + 1 + 3 + 2 + 4 + 2 = hid at *
  generalize k + 4 = fid at *
  have r1 : fid < cid := by omega
  have r2 : fid < n1 := by omega
  have r3 : hid < n1 := by omega
  simp -implicitDefEqProofs [-els, vK, hb, neA, ltA, q1, q2, q3, r1, r2, r3, neC q1, neC q2, neC r1]
  have hx := vU e
  unfold WT at hx
  simp only [aA] at hx
  have q5 : cid < n1 + 6 := by omega
  generalize hn6 : n1 + 6 = eid at *
  have r5 : fid < eid := by omega
  have r6 : hid < eid := by omega
  refine aD (hx (c := ⟨cid, eid, hid, fid, P, hd, 69, fun s => [I s.1], qJ⟩) (env := env) (ver := 0) (X := []) (s := (0, 0)) ⟨of_wr _ rfl rfl rfl, hrp, hP⟩ ?_ hz hs (fun v X n hn => ?_))
  ·constructor <;> first | (simp only []; omega) | simp -implicitDefEqProofs [q1, q2, q5, r1, r5, r6, neC q1, neC q2, neC r1, neC q5, neC r5, neC r6, C7.box, C7.arr]
  ·have hwt := hwl T
   have hsz : size e ≤ 5 * 2 ^ 40 := by omega
   have hfo := CK (a7 P env e T) 0 (Int.le_refl 0) (by omega)
   rw [Int.zero_add] at hfo
   simp only [] at *
   rw [hfo]
   simp -implicitDefEqProofs [q1, q2, q5, r1, r5, r6, neC q1, neC q2, neC r1, neC q5, neC r5, neC r6, bW, C7.box, C7.arr]
   refine ⟨fun hw => ?_, fun hw => ?_⟩
   ·rw [if_pos hw] at hr
    subst hr
    simp only [oJ]
    simp -implicitDefEqProofs
   ·rw [if_neg hw] at hr
    simp -implicitDefEqProofs [w1]
    exact aI (i + 1) ⟨by omega, by rw [d2]; exact hr⟩ (by omega) (by simp) (by simp)
 ·rw [List.drop_eq_nil_of_le (by simp; omega)] at hr
  unfold ofL at hr
  subst hr
  have hlt2 : ¬ (i : Int) < 3 := by omega
  simp -implicitDefEqProofs [lb37_0, hlt2]
  simp only [oJ, if_true, reduceIte]
  simp -implicitDefEqProofs
set_option maxRecDepth 1000000
set_option maxHeartbeats 0
noncomputable def cf111 : Cfg := ⟨Tryz.prog, 17, [0, 1, 2, 6, 7], [10, 16]⟩
noncomputable def ac111 : AC :=
 (.seq (.reg [JP 6 (.mv (.c (.slice none 0 0)))]) (.seq (.reg [JP 7 (.mv (.c (.slice none 0 0)))]) (.seq (.reg [JA 8 7, JA 9 0, JO 10 (.app 3 32 [JU, JV, JV] (.t 8) (.t 9)), JB 7 10]) (.seq (.reg [JA 11 7, JA 12 1, JA 13 2, JO 14 (.bld [JU, JV, JV] [(0, 1, .t 12), (1, 1, .t 13)]), JO 15 (.bsl 3 1 [JU, JV, JV] [(0, 3, .t 14)]), JO 16 (.app 3 32 [JU, JV, JV] (.t 11) (.t 15)), JB 6 16]) .ret))))
theorem fi111 : FI Tryz.prog 111 cf111 ac111 [.t 6] [0, 1, 2, 6, 7] 17 := FI_of (c := Tryz.f111.body.getD .skip) Tryz.func111 (by kernel_rfl) (by rfl) (by rfl) (by kernel_rfl) (by kernel_rfl) rfl rfl rfl
@[simp] theorem cfP111 : cf111.P = Tryz.prog := (rfl)
noncomputable def cf110 : Cfg := ⟨Tryz.prog, 28, [0, 1, 2, 4, 5, 6], []⟩
noncomputable def lb110_0 : AC :=
 .seq (.ifr [JA 7 6, JG 8 0 2, JD 9 1 8, JO 10 (.len false (.t 9)), JO 11 (.bin .lss 3 (.t 7) (.t 10))] (.t 11) .skip (.exit 0)) (.seq (.block 1 (.ifr [JG 14 0 2, JD 15 1 14, JA 16 6, JL 17 11 15 16, JH 18 0 17, JD 19 1 18, JA 20 1, JO 21 (.bin .eql 9 (.t 19) (.t 20))] (.t 21) (.seq (.reg [JG 22 0 2, JD 23 1 22, JA 24 6, JL 25 11 23 24, JE 26 11 25, JQ (.st 11 (.g 4) (.t 26)), JP 5 (.mv JX)]) .ret) .skip)) (.reg [JA 12 6, JO 13 (.bin .add 3 (.t 12) (JT 1)), JB 6 13]))
noncomputable def ac110 : AC :=
 (.seq (.reg [JN 2 0, JP 4 (.al [JU, JW, JV, JV, JU, JU, JV, .complex .f64 0 0, JW, JV, JV]), JP 5 (.mv JY)]) (.seq (.seq (.reg [JI 6 0]) (.block 0 (.loop lb110_0))) (.seq (.reg [JO 27 (.bld [JU, JW, JV, JV, JU, JU, JV, .complex .f64 0 0, JW, JV, JV] []), JQ (.st 11 (.g 4) (.t 27)), JP 5 (.mv JY)]) .ret)))
theorem fi110 : FI Tryz.prog 110 cf110 ac110 [.c 4 true 11, .t 5] [0, 1, 2, 4, 5, 6] 28 := FI_of (c := Tryz.f110.body.getD .skip) Tryz.func110 (by kernel_rfl) (by rfl) (by rfl) (by kernel_rfl) (by kernel_rfl) rfl rfl rfl
@[simp] theorem cfP110 : cf110.P = Tryz.prog := (rfl)
noncomputable def cf79 : Cfg := ⟨Tryz.prog, 78, [0, 1, 2, 3, 5, 6, 7, 8, 9, 11, 12, 21, 27], []⟩
noncomputable def lb79_0 : AC :=
 .seq (.ifr [JA 39 7, JO 40 (.bin .geq 3 (.t 39) (JT 0))] (.t 40) .skip (.exit 1)) (.seq (.block 2 (.ifr [JA 43 1, JA 44 7, JL 45 3 43 44, JH 46 0 45, JD 47 1 46, JG 48 1 5, JD 49 1 48, JO 50 (.bin .eql 9 (.t 47) (.t 49))] (.t 50) (.seq (.reg [JA 51 1, JA 52 7, JL 53 3 51 52, JH 54 1 53, JD 55 1 54, JB 6 55]) .ret) .skip)) (.reg [JA 41 7, JO 42 (.bin .sub 3 (.t 41) (JT 1)), JB 7 42]))
noncomputable def ac79 : AC :=
 (.seq (.reg [JN 3 0, JN 5 2, JI 6 0]) (.seq (.seq (.reg [JG 10 0 5, JP 11 (.ld false 1 (.t 10))]) (.block 0 (.seq (.ifr [JO 13 (.bin .eql 40 (.g 11) (JT 1)), JB 12 13] (.g 12) .skip (.ifr [JO 14 (.bin .eql 40 (.g 11) (JT 8)), JB 12 14] (.g 12) .skip (.ifr [JO 15 (.bin .eql 40 (.g 11) (JT 9)), JB 12 15] (.g 12) .skip (.ifr [JO 16 (.bin .eql 40 (.g 11) (JT 10)), JB 12 16] (.g 12) .skip (.ifr [JO 17 (.bin .eql 40 (.g 11) (JT 11)), JB 12 17] (.g 12) .skip (.ifr [JO 18 (.bin .eql 40 (.g 11) (JT 15)), JB 12 18] (.g 12) .skip (.ifr [JO 19 (.bin .eql 40 (.g 11) (JT 16)), JB 12 19] (.g 12) .skip (.reg [JO 20 (.bin .eql 40 (.g 11) (JT 17)), JB 12 20])))))))) (.cond (.g 12) (.seq (.reg [JI 6 1]) .ret) (.seq (.ifr [JO 22 (.bin .eql 40 (.g 11) (JT 2)), JB 21 22] (.g 21) .skip (.ifr [JO 23 (.bin .eql 40 (.g 11) (JT 3)), JB 21 23] (.g 21) .skip (.ifr [JO 24 (.bin .eql 40 (.g 11) (JT 12)), JB 21 24] (.g 21) .skip (.ifr [JO 25 (.bin .eql 40 (.g 11) (JT 13)), JB 21 25] (.g 21) .skip (.reg [JO 26 (.bin .eql 40 (.g 11) (JT 14)), JB 21 26]))))) (.cond (.g 21) (.seq (.reg [JI 6 2]) .ret) (.seq (.ifr [JO 28 (.bin .eql 40 (.g 11) (JT 4)), JB 27 28] (.g 27) .skip (.reg [JO 29 (.bin .eql 40 (.g 11) (JT 18)), JB 27 29])) (.cond (.g 27) (.seq (.reg [JI 6 3]) .ret) (.ifr [JO 31 (.bin .eql 40 (.g 11) (JT 5)), JC 30 31] (.t 30) (.seq (.reg [JG 32 3 5, JD 33 1 32, JB 6 33]) .ret) (.ifr [JO 35 (.bin .eql 40 (.g 11) (JT 6)), JC 34 35] (.t 34) (.seq (.seq (.reg [JA 36 1, JO 37 (.len false (.t 36)), JO 38 (.bin .sub 3 (.t 37) (JT 1)), JB 7 38]) (.block 1 (.loop lb79_0))) (.seq (.reg [JI 6 (-1)]) .ret)) (.ifr [JO 57 (.bin .eql 40 (.g 11) (JT 7)), JC 56 57] (.t 56) (.seq (.reg [JF 59 1 3, JG 60 1 5, JD 61 1 60, JO 62 (.pc (.f 110) [.t 59, .t 61]), JC 58 62, JK 63 0 58, JK 64 1 58, JP 8 (.al [JU, JW, JV, JV, JU, JU, JV, .complex .f64 0 0, JW, JV, JV]), JQ (.st 11 (.g 8) (.t 63)), JB 9 64]) (.seq (.ifr [JA 65 9, JO 66 (.un .not (.t 65)), JC 67 66, JR 68 67 (.fa 1 (.g 8)), JR 69 67 (.ld false 1 (.t 68)), JR 70 67 (.len false (.t 69)), JR 71 67 (.fa 5 (.g 5)), JR 72 67 (.ld false 1 (.t 71)), JR 73 67 (.len false (.t 72)), JR 74 67 (.bin .neq 3 (.t 70) (.t 73)), JO 75 (.pick (.t 67) JX (.t 74))] (.t 75) (.seq (.reg [JI 6 (-1)]) .ret) .skip) (.seq (.reg [JG 76 2 8, JD 77 1 76, JB 6 77]) .ret))) .skip))))))))))) (.seq (.reg [JI 6 0]) .ret)))
theorem fi79 : FI Tryz.prog 79 cf79 ac79 [.t 6] [0, 1, 2, 3, 5, 6, 7, 8, 9, 11, 12, 21, 27] 78 := FI_of (c := Tryz.f79.body.getD .skip) Tryz.func79 (by kernel_rfl) (by rfl) (by rfl) (by kernel_rfl) (by kernel_rfl) rfl rfl rfl
@[simp] theorem cfP79 : cf79.P = Tryz.prog := (rfl)
noncomputable def cf81 : Cfg := ⟨Tryz.prog, 60, [0, 1, 2, 3, 4, 5, 8, 9, 10, 12, 52], []⟩
noncomputable def ac81 : AC :=
 (.seq (.reg [JN 4 0, JN 5 1, JI 8 0]) (.seq (.seq (.reg [JG 11 0 5, JP 12 (.ld false 1 (.t 11))]) (.block 0 (.ifr [JO 14 (.bin .eql 40 (.g 12) (JT 14)), JC 13 14] (.t 13) (.seq (.reg [JI 8 2]) .ret) (.ifr [JO 16 (.bin .eql 40 (.g 12) (JT 18)), JC 15 16] (.t 15) (.ifr [JA 17 2, JO 18 (.bin .eql 3 (.t 17) (JT 1))] (.t 18) (.seq (.reg [JI 8 3]) .ret) .skip) (.ifr [JO 20 (.bin .eql 40 (.g 12) (JT 7)), JC 19 20] (.t 19) (.seq (.reg [JF 22 1 4, JG 23 1 5, JD 24 1 23, JO 25 (.pc (.f 110) [.t 22, .t 24]), JC 21 25, JK 26 0 21, JK 27 1 21, JP 9 (.al [JU, JW, JV, JV, JU, JU, JV, .complex .f64 0 0, JW, JV, JV]), JQ (.st 11 (.g 9) (.t 26)), JB 10 27]) (.ifr [JA 28 10, JC 29 28, JS 30 29 (.mv (.g 2)), JS 31 29 (.fa 1 (.g 9)), JS 32 29 (.ld false 1 (.t 31)), JS 33 29 (.len false (.t 32)), JS 34 29 (.bin .lss 3 (.t 30) (.t 33)), JO 35 (.pick (.t 29) (.t 34) JY)] (.t 35) (.seq (.reg [JG 36 1 9, JD 37 1 36, JA 38 2, JL 39 3 37 38, JH 40 1 39, JD 41 1 40, JB 8 41]) .ret) .skip)) (.ifr [JO 43 (.bin .eql 40 (.g 12) (JT 19)), JC 42 43] (.t 42) (.seq (.ifr [JA 44 2, JO 45 (.bin .eql 3 (.t 44) (JT 0))] (.t 45) (.seq (.reg [JI 8 2]) .ret) .skip) (.seq (.reg [JA 46 3, JB 8 46]) .ret)) (.ifr [JO 48 (.bin .eql 40 (.g 12) (JT 20)), JC 47 48] (.t 47) (.seq (.ifr [JA 49 2, JO 50 (.bin .eql 3 (.t 49) (JT 0))] (.t 50) (.seq (.reg [JI 8 3]) .ret) .skip) (.seq (.reg [JA 51 3, JB 8 51]) .ret)) (.seq (.ifr [JO 53 (.bin .eql 40 (.g 12) (JT 21)), JB 52 53] (.g 52) .skip (.reg [JO 54 (.bin .eql 40 (.g 12) (JT 22)), JB 52 54])) (.cond (.g 52) (.seq (.ifr [JA 55 2, JO 56 (.bin .eql 3 (.t 55) (JT 0))] (.t 56) (.seq (.reg [JG 57 3 5, JD 58 1 57, JB 8 58]) .ret) .skip) (.seq (.reg [JA 59 3, JB 8 59]) .ret)) .skip))))))))) (.seq (.reg [JI 8 1]) .ret)))
theorem fi81 : FI Tryz.prog 81 cf81 ac81 [.t 8] [0, 1, 2, 3, 4, 5, 8, 9, 10, 12, 52] 60 := FI_of (c := Tryz.f81.body.getD .skip) Tryz.func81 (by kernel_rfl) (by rfl) (by rfl) (by kernel_rfl) (by kernel_rfl) rfl rfl rfl
@[simp] theorem cfP81 : cf81.P = Tryz.prog := (rfl)
noncomputable def cf80 : Cfg := ⟨Tryz.prog, 42, [0, 1, 2, 4, 6, 7, 8], []⟩
noncomputable def ac80 : AC :=
 (.seq (.reg [JN 4 1, JP 6 (.mv (.c (.slice none 0 0)))]) (.seq (.block 0 (.seq (.ifr [JG 9 0 4, JD 10 1 9, JO 11 (.bin .eql 40 (.t 10) (JT 21)), JB 8 11] (.g 8) .skip (.reg [JG 12 0 4, JD 13 1 12, JO 14 (.bin .eql 40 (.t 13) (JT 22)), JC 15 14, JS 16 15 (.mv (.g 2)), JS 17 15 (.bin .eql 3 (.t 16) (JT 1)), JO 18 (.pick (.t 15) (.t 17) JY), JB 8 18])) (.cond (.g 8) (.seq (.reg [JA 19 0, JG 20 1 4, JD 21 1 20, JG 22 3 4, JD 23 1 22, JO 24 (.pc (.f 111) [.t 19, .t 21, .t 23]), JB 6 24]) .ret) (.ifr [JG 26 0 4, JD 27 1 26, JO 28 (.bin .eql 40 (.t 27) (JT 20)), JC 29 28, JS 30 29 (.mv (.g 2)), JS 31 29 (.bin .eql 3 (.t 30) (JT 2)), JO 32 (.pick (.t 29) (.t 31) JY), JC 25 32] (.t 25) (.seq (.reg [JA 33 0, JG 34 1 4, JD 35 1 34, JO 36 (.pc (.f 111) [.t 33, .t 35, .c (.int .i64 1)]), JB 7 36]) (.seq (.reg [JA 37 7, JG 38 2 4, JD 39 1 38, JO 40 (.pc (.f 111) [.t 37, .t 39, .c (.int .i64 3)]), JB 6 40]) .ret)) .skip)))) (.seq (.reg [JA 41 0, JB 6 41]) .ret)))
theorem fi80 : FI Tryz.prog 80 cf80 ac80 [.t 6] [0, 1, 2, 4, 6, 7, 8] 42 := FI_of (c := Tryz.f80.body.getD .skip) Tryz.func80 (by kernel_rfl) (by rfl) (by rfl) (by kernel_rfl) (by kernel_rfl) rfl rfl rfl
@[simp] theorem cfP80 : cf80.P = Tryz.prog := (rfl)
noncomputable def cf45 : Cfg := ⟨Tryz.prog, 56, [0, 1, 2, 3, 4, 6, 8, 9, 10, 11, 12], [28, 54]⟩
noncomputable def lb45_0 : AC :=
 .seq (.ifr [JA 29 11, JG 30 5 6, JD 31 1 30, JO 32 (.len false (.t 31)), JO 33 (.bin .lss 3 (.t 29) (.t 32))] (.t 33) .skip (.exit 0)) (.seq (.block 1 (.seq (.reg [JF 36 1 4, JA 37 1, JF 38 7 6, JA 39 11, JO 40 (.pc (.f 80) [.t 37, .t 38, .t 39]), JG 41 5 6, JD 42 1 41, JA 43 11, JL 44 7 42 43, JE 45 7 44, JF 46 1 4, JF 47 7 6, JA 48 11, JA 49 3, JO 50 (.pc (.f 81) [.t 46, .t 47, .t 48, .t 49]), JO 51 (.pc (.f 45) [.t 36, .t 40, .t 45, .t 50]), JB 12 51]) (.reg [JA 52 9, JA 53 12, JO 54 (.app 1 8 [JV] (.t 52) (.t 53)), JB 9 54]))) (.reg [JA 34 11, JO 35 (.bin .add 3 (.t 34) (JT 1)), JB 11 35]))
noncomputable def ac45 : AC :=
 (.seq (.reg [JN 4 0, JN 6 2, JP 8 (.mv (.c (.slice none 0 0)))]) (.seq (.reg [JP 9 (.mv (.c (.slice none 0 0)))]) (.seq (.reg [JF 13 1 4, JA 14 1, JF 15 7 6, JO 16 (.pc (.f 79) [.t 13, .t 14, .t 15]), JB 10 16]) (.seq (.ifr [JA 17 10, JO 18 (.bin .neq 25 (.t 17) (JT 0)), JC 19 18, JS 20 19 (.mv (.g 10)), JS 21 19 (.mv (.g 3)), JS 22 19 (.bin .neq 25 (.t 20) (.t 21)), JO 23 (.pick (.t 19) (.t 22) JY)] (.t 23) (.reg [JA 24 9, JG 25 6 6, JD 26 1 25, JO 27 (.bsl 1 1 [JV] [(0, 1, .t 26)]), JO 28 (.app 1 8 [JV] (.t 24) (.t 27)), JB 9 28]) .skip) (.seq (.seq (.reg [JI 11 0]) (.block 0 (.loop lb45_0))) (.seq (.reg [JA 55 9, JB 8 55]) .ret))))))
theorem fi45 : FI Tryz.prog 45 cf45 ac45 [.t 8] [0, 1, 2, 3, 4, 6, 8, 9, 10, 11, 12] 56 := FI_of (c := Tryz.f45.body.getD .skip) Tryz.func45 (by kernel_rfl) (by rfl) (by rfl) (by kernel_rfl) (by kernel_rfl) rfl rfl rfl
@[simp] theorem cfP45 : cf45.P = Tryz.prog := (rfl)
noncomputable def cf13 : Cfg := ⟨Tryz.prog, 64, [0, 1, 2, 3, 4, 5, 6], []⟩
noncomputable def lb13_0 : AC :=
 .seq (.ifr [JA 40 6, JA 41 5, JO 42 (.len false (.t 41)), JO 43 (.bin .lss 3 (.t 40) (.t 42))] (.t 43) .skip (.exit 2)) (.seq (.block 3 (.ifr [JG 46 0 3, JD 47 1 46, JO 48 (.bin .eql 52 (.t 47) (JT 0)), JC 49 48, JR 50 49 (.mv (.g 5)), JR 51 49 (.mv (.g 6)), JR 52 49 (.ia 1 (.t 50) (.t 51)), JR 53 49 (.ld false 1 (.t 52)), JR 54 49 (.fa 1 (.g 3)), JR 55 49 (.ld false 1 (.t 54)), JR 56 49 (.bin .lss 3 (.t 53) (.t 55)), JO 57 (.pick (.t 49) JX (.t 56))] (.t 57) (.reg [JA 58 5, JA 59 6, JL 60 1 58 59, JD 61 1 60, JO 62 (.bld [JV, JV] [(0, 1, .c (.int .i64 34)), (1, 1, .t 61)]), JQ (.st 2 (.g 3) (.t 62))]) .skip)) (.reg [JA 44 6, JO 45 (.bin .add 3 (.t 44) (JT 1)), JB 6 45]))
noncomputable def lb13_1 : AC :=
 .seq (.ifr [JA 13 4, JG 14 0 1, JD 15 1 14, JO 16 (.len false (.t 15)), JO 17 (.bin .lss 3 (.t 13) (.t 16))] (.t 17) .skip (.exit 0)) (.seq (.block 1 (.seq (.reg [JF 20 1 1, JG 21 0 1, JD 22 1 21, JA 23 4, JL 24 11 22 23, JH 25 1 24, JD 26 1 25, JG 27 0 1, JD 28 1 27, JA 29 4, JL 30 11 28 29, JH 31 3 30, JE 32 7 31, JG 33 0 1, JD 34 1 33, JA 35 4, JL 36 11 34 35, JH 37 2 36, JD 38 1 37, JO 39 (.pc (.f 45) [.t 20, .t 26, .t 32, .t 38]), JB 5 39]) (.seq (.reg [JI 6 0]) (.block 2 (.loop lb13_0))))) (.reg [JA 18 4, JO 19 (.bin .add 3 (.t 18) (JT 1)), JB 4 19]))
noncomputable def ac13 : AC :=
 (.seq (.reg [JN 1 0, JP 2 (.al [JV, JV])]) (.seq (.reg [JF 7 1 1, JO 8 (.pc (.f 44) [.t 7]), JP 3 (.al [JV, JV]), JQ (.st 2 (.g 3) (.t 8))]) (.seq (.ifr [JG 9 0 3, JD 10 1 9, JO 11 (.bin .neq 52 (.t 10) (JT 0))] (.t 11) (.seq (.reg [JF 12 2 3, JQ (.st 2 (.g 2) (.t 12))]) .ret) .skip) (.seq (.seq (.reg [JI 4 0]) (.block 0 (.loop lb13_1))) (.seq (.reg [JF 63 2 3, JQ (.st 2 (.g 2) (.t 63))]) .ret)))))
theorem fi13 : FI Tryz.prog 13 cf13 ac13 [.c 2 true 2] [0, 1, 2, 3, 4, 5, 6] 64 := FI_of (c := Tryz.f13.body.getD .skip) Tryz.func13 (by kernel_rfl) (by rfl) (by rfl) (by kernel_rfl) (by kernel_rfl) rfl rfl rfl
@[simp] theorem cfP13 : cf13.P = Tryz.prog := (rfl)
@[simp] theorem eqRef7_9 {a b : ByteArray} : bF Tryz.prog .eql 9 (.pl (.string a)) (.pl (.string b)) = some (.pl (.bool (decide (a = b)))) := kO Tryz.underlying9
set_option maxRecDepth 100000
set_option maxHeartbeats 4000000
theorem sI (l : List Pm) (n : List UInt8) (t : Int) (hl : l.length ≤ 5 * 2 ^ 40 + 8) : Pure Tryz.prog 111 [.sl (em bG l), Tx n, I t] (.sl (em bG (l ++ [⟨n, t, 0⟩]))) := by
 refine fi111.pu (by simp) ?_
 have b1 : l.length * 32 ≤ 3 * 2 ^ 46 := by omega
 have b2 : (l.length + 1) * 32 ≤ 3 * 2 ^ 46 := by omega
 have b3 : em bG l ++ [[Tx n, I t, I 0]] = em bG (l ++ [⟨n, t, 0⟩]) := fP (enc := bG) (x := ⟨n, t, 0⟩)
 have b4 : ∀ m, els m 3 (.sl [[Tx n, I t, I 0]]) = some [[Tx n, I t, I 0]] := fun m => rfl
 simp -implicitDefEqProofs [-els, vK, ac111, b1, b2, b3, b4]
 rw [List.take_of_length_le (by simp)]
def pP (P : List Fn) (n : List UInt8) : D := if aP P 0 n < 0 then .tup [.agg [Tx [], .sl [], I 0, I 0, Tx [], Tx [], I 0, CX 0 0, .sl [], I 0, I 0], .pl (.bool false)] else .tup [.agg (aY (hdF P n)), .pl (.bool true)]
theorem IR (P : List Fn) (n : List UInt8) : ∀ (i : Nat) (hi : i < P.length), aP (P.drop i) i n = aP P 0 n → P[i].name = n → aP P 0 n = i := fun i hi h hn => by
 rw [← h, List.drop_eq_getElem_cons hi]
 unfold aP
 rw [if_pos hn]
theorem G4 (P : List Fn) (n : List UInt8) (hl : P.length < 2 ^ 40) : Pure Tryz.prog 110 [.agg [.sl (em aY P)], Tx n] (pP P n) := by
 refine fi110.pu (by simp) ?_
 simp -implicitDefEqProofs [ac110]
 refine lpG cf110 lb110_0 [5, 6] (α := Nat) (fun s _ => [(5, .top), (6, I s)]) (fun s _ => [(1, .box [Tx [], .pl (.slice none 0 0), I 0, I 0, Tx [], Tx [], I 0, CX 0 0, .pl (.slice none 0 0), I 0, I 0])]) (fun s k => s ≤ P.length ∧ aP (P.drop s) s n = aP P 0 n) (fun s => P.length - s) 0 ⟨by simp, rfl⟩ (by simp) (aK _) ?_
 rintro i k ⟨hi, hr⟩
 by_cases hlt : i < P.length
 ·have w1 := aS (x := (i : Int) + 1) (by omega) (by omega)
  have hat := IR P n i hlt hr
  generalize hH : aP P 0 n = H at hr hat ⊢
  rw [List.drop_eq_getElem_cons hlt] at hr
  unfold aP at hr
  have hq : P[i]?.getD default = P[i] := by rw [List.getElem?_eq_getElem hlt]; rfl
  obtain ⟨x, hxe⟩ : ∃ x, P[i] = x := ⟨_, rfl⟩
  rw [hxe] at hr hat hq
  by_cases hg : x.name = n
  ·have hI := hat hg
   have hD : pP P n = .tup [.agg (aY x), .pl (.bool true)] := by
    unfold pP hdF
    rw [hH, hI, if_neg (by omega), Int.toNat_natCast, hq]
   rw [hD, aR]
   simp -implicitDefEqProofs [lb110_0, hlt, hxe, hg]
  ·rw [if_neg hg] at hr
   simp -implicitDefEqProofs [lb110_0, hlt, hxe, hg, w1]
   exact aI (i + 1) ⟨hlt, hr⟩ (by omega) (by simp) (aK _)
 ·rw [List.drop_eq_nil_of_le (by omega)] at hr
  generalize hH : aP P 0 n = H at hr ⊢
  unfold aP at hr
  have hD : pP P n = .tup [.agg [Tx [], .sl [], I 0, I 0, Tx [], Tx [], I 0, CX 0 0, .sl [], I 0, I 0], .pl (.bool false)] := by
   unfold pP
   rw [hH, ← hr, if_pos (by decide)]
  simp -implicitDefEqProofs [lb110_0, hlt]
  rw [hD]
theorem IN (env : List Pm) (op : Int) (n tl : List UInt8) (ty : Int) (z : Cx) (args : List Ex) (p : Int) (i : Nat) (hl : env.length ≤ 5 * 2 ^ 40) :
  Pure Tryz.prog 80 [.sl (em bG env), .agg (aQ (.mk op n tl ty z args p)), I i] (.sl (em bG (aM env op n tl ty i))) := by
 refine fi80.pu (by simp) ?_
 simp only [bE]
 unfold aM
 by_cases e21 : op = 21
 ·rw [if_pos (.inl e21)]
  simp -implicitDefEqProofs [ac80, e21]
  refine aG (sI env n ty (by omega)) (by simp) ?_
  simp -implicitDefEqProofs
 ·by_cases e22 : op = 22
  ·by_cases h1 : i = 1
   ·rw [if_pos (.inr ⟨e22, h1⟩)]
    simp -implicitDefEqProofs [ac80, e22, h1]
    refine aG (sI env n ty (by omega)) (by simp) ?_
    simp -implicitDefEqProofs
   ·rw [if_neg (by omega), if_neg (by omega)]
    have h2 : ¬ (i : Int) = 1 := by omega
    simp -implicitDefEqProofs [ac80, e22, h1, h2]
  ·by_cases e20 : op = 20
   ·by_cases h1 : i = 2
    ·rw [if_neg (by omega), if_pos ⟨e20, h1⟩]
     simp -implicitDefEqProofs [ac80, e20, h1]
     refine aG (sI env n 1 (by omega)) (by simp) ?_
     simp -implicitDefEqProofs
     refine aG (sI (env ++ [⟨n, 1, 0⟩]) tl 3 (by simp only [List.length_append, List.length_cons, List.length_nil]; omega)) (by simp) ?_
     simp -implicitDefEqProofs
    ·rw [if_neg (by omega), if_neg (by omega)]
     have h2 : ¬ (i : Int) = 2 := by omega
     simp -implicitDefEqProofs [ac80, e20, h1, h2]
   ·rw [if_neg (by omega), if_neg (by omega)]
    simp -implicitDefEqProofs [ac80, e20, e21, e22]
def lookR' : List Pm → List UInt8 → Int
 | [], _ => -1
 | x :: xs, n => if x.name = n then x.type else lookR' xs n
def fE (P : List Fn) (env : List Pm) (op : Int) (n : List UInt8) (ty : Int) (k : Nat) : Int :=
 if bX op then 0 else if op = 6 then lookR' env.reverse n else if op = 7 ∧ dC P n k then -1 else bL P env op n ty k
def eA (P : List Fn) (op : Int) (n : List UInt8) (ty : Int) (i : Nat) (t : Int) : Int :=
 if op = 7 ∧ (aP P 0 n < 0 ∨ (hdF P n).params.length ≤ i) then 1 else aL P op n ty i t
theorem own_r (P : List Fn) (env : List Pm) (op : Int) (n tl : List UInt8) (ty : Int) (z : Cx) (args : List Ex) (p : Int) (hl : P.length < 2 ^ 40) (he : env.length ≤ 5 * 2 ^ 40) (hs : cG op ty args.length) :
  Pure Tryz.prog 79 [.agg [.sl (em aY P)], .sl (em bG env), .agg (aQ (.mk op n tl ty z args p))] (I (fE P env op n ty args.length)) := by
 refine fi79.pu (by simp) ?_
 simp only [bE]
 have hop : op = 1 ∨ op = 2 ∨ op = 3 ∨ op = 4 ∨ op = 5 ∨ op = 6 ∨ op = 7 ∨ op = 8 ∨ op = 9 ∨ op = 10 ∨ op = 11 ∨ op = 12 ∨ op = 13 ∨ op = 14 ∨ op = 15 ∨ op = 16 ∨ op = 17 ∨ op = 18 ∨ op = 19 ∨ op = 20 ∨ op = 21 ∨ op = 22 := by
  unfold cG at hs; omega
 by_cases h6 : op = 6
 ·subst h6
  have hR : fE P env 6 n ty args.length = lookR' env.reverse n := by simp [fE, bX]
  rw [hR]
  have w0 := aS (x := (env.length : Int) - 1) (by omega) (by omega)
  simp -implicitDefEqProofs [ac79, w0]
  generalize hR2 : lookR' env.reverse n = R
  refine lpG cf79 lb79_0 [6, 7] (α := Nat) (fun s _ => [(6, .top), (7, I ((s : Int) - 1))]) (fun s _ => []) (fun s k => s ≤ env.length ∧ lookR' (env.take s).reverse n = R) (fun s => s) env.length ⟨by simp, by rw [List.take_of_length_le (Nat.le_refl _)]; exact hR2⟩ (by simp) (by simp) ?_
  rintro i k ⟨hi, hr⟩
  cases i with
  | zero =>
   simp only [List.take_zero, List.reverse_nil, lookR'] at hr
   subst hr
   simp -implicitDefEqProofs [lb79_0]
  | succ j =>
   have hj : j < env.length := by omega
   have ht : (env.take (j + 1)).reverse = env[j] :: (env.take j).reverse := by
    rw [List.take_succ_eq_append_getElem hj, List.reverse_append]; rfl
   rw [ht] at hr
   unfold lookR' at hr
   have hji : ((j + 1 : Nat) : Int) - 1 = j := by omega
   have w3 := aS (x := (j : Int) - 1) (by omega) (by omega)
   obtain ⟨y, hye⟩ : ∃ y, env[j] = y := ⟨_, rfl⟩
   rw [hye] at hr
   by_cases hy : y.name = n
   ·rw [if_pos hy] at hr
    subst hr
    simp -implicitDefEqProofs [lb79_0, hji, hye, hy, hj]
   ·rw [if_neg hy] at hr
    simp -implicitDefEqProofs [lb79_0, hji, hye, hy, w3, hj]
    exact aI j ⟨by omega, hr⟩ (by omega) (by simp) (by simp)
 by_cases h7 : op = 7
 ·subst h7
  have hH := G4 P n hl
  unfold pP at hH
  by_cases hb : aP P 0 n < 0
  ·have hR : fE P env 7 n ty args.length = -1 := by simp [fE, bX, dC, hb]
   rw [if_pos hb] at hH
   simp -implicitDefEqProofs [ac79, hR]
   refine aG (hH) (by simp) ?_
   simp -implicitDefEqProofs
  ·rw [if_neg hb, aR] at hH
   generalize hq : hdF P n = q at *
   by_cases hc : q.params.length = args.length
   ·have hR : fE P env 7 n ty args.length = q.type := by simp [fE, bL, bX, dC, hb, hq, hc]
    have hc2 : (q.params.length : Int) = (args.length : Int) := by omega
    simp -implicitDefEqProofs [ac79, hR]
    refine aG (hH) (by simp) ?_
    simp -implicitDefEqProofs [hc2]
   ·have hR : fE P env 7 n ty args.length = -1 := by simp [fE, bL, bX, dC, hb, hq, hc]
    have hc2 : ¬ (q.params.length : Int) = (args.length : Int) := by omega
    simp -implicitDefEqProofs [ac79, hR]
    refine aG (hH) (by simp) ?_
    simp -implicitDefEqProofs [hc2]
 rcases hop with h | h | h | h | h | h | h | h | h | h | h | h | h | h | h | h | h | h | h | h | h | h <;> first | exact absurd h h6 | exact absurd h h7 | (subst h; simp -implicitDefEqProofs [ac79, fE, bL, bX])
theorem I2 (P : List Fn) (op : Int) (n tl : List UInt8) (ty : Int) (z : Cx) (args : List Ex) (p : Int) (i : Nat) (t : Int) (hl : P.length < 2 ^ 40) :
  Pure Tryz.prog 81 [.agg [.sl (em aY P)], .agg (aQ (.mk op n tl ty z args p)), I i, I t] (I (eA P op n ty i t)) := by
 refine fi81.pu (by simp) ?_
 simp only [bE]
 by_cases h7 : op = 7
 ·subst h7
  have hH := G4 P n hl
  unfold pP at hH
  by_cases hb : aP P 0 n < 0
  ·have hR : eA P 7 n ty i t = 1 := by simp [eA, hb]
   rw [if_pos hb] at hH
   simp -implicitDefEqProofs [ac81, hR]
   refine aG (hH) (by simp) ?_
   simp -implicitDefEqProofs
  ·rw [if_neg hb, aR] at hH
   generalize hq : hdF P n = q at *
   by_cases hc : i < q.params.length
   ·have hR : eA P 7 n ty i t = (q.params[i]?.getD default).type := by
     have : ¬ q.params.length ≤ i := by omega
     simp [eA, aL, hb, hq, this]
    have hc2 : (i : Int) < (q.params.length : Int) := by omega
    simp -implicitDefEqProofs [ac81, hR]
    refine aG (hH) (by simp) ?_
    simp -implicitDefEqProofs [hc2, hc]
   ·have hR : eA P 7 n ty i t = 1 := by
     have : q.params.length ≤ i := by omega
     simp [eA, hq, this]
    have hc2 : ¬ (i : Int) < (q.params.length : Int) := by omega
    simp -implicitDefEqProofs [ac81, hR]
    refine aG (hH) (by simp) ?_
    simp -implicitDefEqProofs [hc2, hc]
 unfold eA aL
 by_cases h14 : op = 14
 ·simp -implicitDefEqProofs [ac81, h14]
 by_cases h18 : op = 18
 ·by_cases h1 : i = 1
  ·simp -implicitDefEqProofs [ac81, h18, h1]
  ·have h2 : ¬ (i : Int) = 1 := by omega
   simp -implicitDefEqProofs [ac81, h18, h1, h2]
 by_cases h19 : op = 19
 ·by_cases h1 : i = 0
  ·simp -implicitDefEqProofs [ac81, h19, h1]
  ·have h2 : ¬ (i : Int) = 0 := by omega
   simp -implicitDefEqProofs [ac81, h19, h1, h2]
 by_cases h20 : op = 20
 ·by_cases h1 : i = 0
  ·simp -implicitDefEqProofs [ac81, h20, h1]
  ·have h2 : ¬ (i : Int) = 0 := by omega
   simp -implicitDefEqProofs [ac81, h20, h1, h2]
 by_cases h21 : op = 21
 ·by_cases h1 : i = 0
  ·simp -implicitDefEqProofs [ac81, h21, h1]
  ·have h2 : ¬ (i : Int) = 0 := by omega
   simp -implicitDefEqProofs [ac81, h21, h1, h2]
 by_cases h22 : op = 22
 ·by_cases h1 : i = 0
  ·simp -implicitDefEqProofs [ac81, h22, h1]
  ·have h2 : ¬ (i : Int) = 0 := by omega
   simp -implicitDefEqProofs [ac81, h22, h1, h2]
 simp -implicitDefEqProofs [ac81, h7, h14, h18, h19, h20, h21, h22]
def jH (x : Int) : List D := [I x]
theorem els_I1 {l : List Int} {mem : Mem} : els mem 1 (.sl (em jH l)) = some (em jH l) := sK (fun x => rfl) (fun x => rfl)
theorem imm_I1 (l : List Int) : D.immss (em jH l) = true := gQ fun f => by simp [jH]
attribute [simp] imm_I1
theorem ia_I1 {l : List Int} {mem : Mem} {j : IntKind} {i : Int} : iaD mem 1 (.sl (em jH l)) (.pl (.int j i)) = if 0 ≤ i ∧ i < l.length then some (.pt [I (l[i.toNat]?.getD default)]) else none := iX fun f => rfl
attribute [simp] ia_I1
mutual
def gX (P : List Fn) : List Pm → Ex → Int → List Int
 | env, .mk op n tl ty _ args p, t => (if fE P env op n ty args.length ≠ 0 ∧ fE P env op n ty args.length ≠ t then [p] else []) ++ fB P env op n tl ty t 0 args
def fB (P : List Fn) (env : List Pm) (op : Int) (n tl : List UInt8) (ty t : Int) (i : Nat) : List Ex → List Int
 | [] => []
 | x :: xs => gX P (aM env op n tl ty i) x (eA P op n ty i t) ++ fB P env op n tl ty t (i + 1) xs
end
mutual
theorem pV (P : List Fn) : ∀ (env : List Pm) (e : Ex) (t : Int), (gX P env e t).length ≤ size e
 | env, .mk op n tl ty z args p, t => by
  have := s9 P env op n tl ty t 0 args
  unfold gX size
  rw [List.length_append]
  split <;> simp <;> omega
theorem s9 (P : List Fn) (env : List Pm) (op : Int) (n tl : List UInt8) (ty t : Int) : ∀ (i : Nat) (l : List Ex), (fB P env op n tl ty t i l).length ≤ aV l
 | i, [] => by simp [fB, aV]
 | i, x :: xs => by
  have h1 := pV P (aM env op n tl ty i) x (eA P op n ty i t)
  have h2 := s9 P env op n tl ty t (i + 1) xs
  unfold fB aV
  rw [List.length_append]; omega
end
theorem EK (env : List Pm) (op : Int) (n tl : List UInt8) (ty : Int) (i : Nat) : (aM env op n tl ty i).length ≤ env.length + 2 := by
 unfold aM
 split
 ·simp
 ·split <;> simp
def WRC (P : List Fn) (e : Ex) : Prop := ∀ ⦃env : List Pm⦄ ⦃t : Int⦄, Sh e → (env.length + 2 * size e ≤ 5 * 2 ^ 40 ∧ size e ≤ 2 ^ 38) → Pure Tryz.prog 45 [.agg [.sl (em aY P)], .sl (em bG env), .agg (aQ e), I t] (.sl (em jH (gX P env e t)))
theorem NM (P : List Fn) (hP : P.length < 2 ^ 40) (op : Int) (n tl : List UInt8) (ty : Int) (z : Cx) (args : List Ex) (p : Int) (ih : ∀ x ∈ args, WRC P x) : WRC P (.mk op n tl ty z args p) := by
 intro env t hs hN
 have hal := kT args
 have hlen := pV P env (.mk op n tl ty z args p) t
 unfold Sh at hs
 have hsh : ∀ x ∈ args, Sh x := fun x hx => mY hs.2 hx
 have hR : gX P env (.mk op n tl ty z args p) t = (if fE P env op n ty args.length ≠ 0 ∧ fE P env op n ty args.length ≠ t then [p] else []) ++ fB P env op n tl ty t 0 args := by simp only [gX]
 simp only [size] at hN hlen
 have hO := own_r P env op n tl ty z args p hP (by omega) hs.1
 have hWi := fun i => IN env op n tl ty z args p i (by omega)
 have hWa := fun i => I2 P op n tl ty z args p i t hP
 generalize hRR : gX P env (.mk op n tl ty z args p) t = R at *
 clear hRR
 generalize fE P env op n ty args.length = o at *
 simp only [bE] at hO hWi hWa ⊢
 have loop : ∀ (id nx : Nat) (l0 : List Int) (es : List (List D)) (n0 : Nat) (Q : Exit → St → Prop), es = em jH l0 → n0 = l0.length → id < nx → l0 ++ fB P env op n tl ty t 0 args = R → (∀ v nx', Q (.exit 0) ⟨[(0, .agg [.sl (em aY P)]), (1, .sl (em bG env)), (2, .agg [I op, Tx n, Tx tl, I ty, CX z.re z.im, .sl (em aQ args), I p]), (3, I t), (4, .pt [.sl (em aY P)]), (6, .pt [I op, Tx n, Tx tl, I ty, CX z.re z.im, .sl (em aQ args), I p]), (8, .pl (.slice none 0 0)), (9, .osl id v 0 R.length), (10, I o), (11, I args.length), (12, .top)], [], [(id, .arr v 1 (em jH R))], nx'⟩) →
   A cf45 (.loop lb45_0) Q [(0, .agg [.sl (em aY P)]), (1, .sl (em bG env)), (2, .agg [I op, Tx n, Tx tl, I ty, CX z.re z.im, .sl (em aQ args), I p]), (3, I t), (4, .pt [.sl (em aY P)]), (6, .pt [I op, Tx n, Tx tl, I ty, CX z.re z.im, .sl (em aQ args), I p]), (8, .pl (.slice none 0 0)), (9, .osl id 0 0 n0), (10, I o), (11, I 0), (12, .pl undef)] [(id, .arr 0 1 es)] nx := by
  rintro id nx l0 _ _ Q rfl rfl hid hl0 hq
  refine lpG cf45 lb45_0 [9, 11, 12] (α := Nat × Nat × List Int) (fun s _ => [(9, .osl id s.2.1 0 s.2.2.length), (11, I s.1), (12, .top)]) (fun s _ => [(id, .arr s.2.1 1 (em jH s.2.2))]) (fun s k => id < k ∧ s.1 ≤ args.length ∧ s.2.2 ++ fB P env op n tl ty t s.1 (args.drop s.1) = R) (fun s => args.length - s.1) (0, 0, l0) ⟨hid, by simp, hl0⟩ (by simp) (by simp) ?_
  rintro ⟨i, v, l⟩ k ⟨hk, hi, hr⟩
  simp only at hi hr
  by_cases hlt : i < args.length
  ·have hd : args.drop i = args[i] :: args.drop (i + 1) := List.drop_eq_getElem_cons hlt
   have hmem : args[i] ∈ args := List.getElem_mem hlt
   rw [hd] at hr
   unfold fB at hr
   obtain ⟨x, hxe⟩ : ∃ x, args[i] = x := ⟨_, rfl⟩
   rw [hxe] at hr hmem
   have w1 := aS (x := (i : Int) + 1) (by omega) (by omega)
   have hsx := lE hmem
   have hbl := EK env op n tl ty i
   have hWi1 := hWi i
   have hWa1 := hWa i
   have hS := ih x hmem (env := aM env op n tl ty i) (t := eA P op n ty i t) (hsh x hmem) (by omega)
   generalize aM env op n tl ty i = env2 at *
   generalize eA P op n ty i t = t2 at *
   simp only [aA] at hS
   generalize gX P env2 x t2 = T at *
   have hb : (l.length + T.length) * 8 ≤ 3 * 2 ^ 46 := by
    have := congrArg List.length hr
    simp only [List.length_append] at this; omega
   simp -implicitDefEqProofs [-els, lb45_0, hlt, hxe]
   refine aG hWi1 (by simp) ?_
   simp -implicitDefEqProofs [hlt, hxe]
   refine aG hWa1 (by simp) ?_
   simp -implicitDefEqProofs
   refine aG hS (by simp) ?_
   simp -implicitDefEqProofs [-els, els_I1, hb, w1]
   exact aI (i + 1, v + 1, l ++ T) ⟨by omega, hlt, by rw [List.append_assoc]; exact hr⟩ (by simp only; omega) (by simp) (by simp)
  ·rw [List.drop_eq_nil_of_le (by omega)] at hr
   unfold fB at hr
   rw [List.append_nil] at hr
   subst hr
   have hia : i = args.length := by omega
   subst hia
   simp -implicitDefEqProofs [lb45_0]
   exact hq _ _
 refine fi45.pu (by simp) ?_
 simp -implicitDefEqProofs [ac45]
 refine aG hO (by simp) ?_
 by_cases h0 : o = 0
 ·rw [if_neg (fun g => g.1 h0), List.nil_append] at hR
  subst h0
  simp -implicitDefEqProofs
  refine cW (j := 9) (k := 1) rfl (.inl rfl) ?_
  simp -implicitDefEqProofs
  refine loop _ _ [] _ _ _ ?_ (by rfl) ?_ hR.symm (fun v nx2 => ?_) <;> first | omega | (simp [em, jH]; done) | skip
  simp -implicitDefEqProofs
 ·by_cases ht : o = t
  ·rw [if_neg (fun g => g.2 ht), List.nil_append] at hR
   subst ht
   simp -implicitDefEqProofs [h0]
   refine cW (j := 9) (k := 1) rfl (.inl rfl) ?_
   simp -implicitDefEqProofs
   refine loop _ _ [] _ _ _ ?_ (by rfl) ?_ hR.symm (fun v nx2 => ?_) <;> first | omega | (simp [em, jH]; done) | skip
   simp -implicitDefEqProofs
  ·rw [if_pos ⟨h0, ht⟩] at hR
   simp -implicitDefEqProofs [h0, ht]
   refine loop _ _ [p] _ _ _ ?_ (by rfl) ?_ hR.symm (fun v nx2 => ?_) <;> first | omega | (simp [em, jH]; done) | skip
   simp -implicitDefEqProofs
mutual
theorem B9 (P : List Fn) (hP : P.length < 2 ^ 40) : ∀ (e : Ex), WRC P e
 | .mk op n t ty z args p => NM P hP op n t ty z args p (BR P hP args)
theorem BR (P : List Fn) (hP : P.length < 2 ^ 40) : ∀ (l : List Ex), ∀ x ∈ l, WRC P x
 | [], x, h => by simp at h
 | e :: es, x, h => (List.mem_cons.1 h).elim (fun he => he ▸ B9 P hP e) (fun h => BR P hP es x h)
end
def q_ (P : List Fn) : List Fn → Ft → Ft
 | [], s => s
 | f :: fs, s => q_ P fs ((gX P f.params f.body f.type).foldl d9 s)
def o7 (P : List Fn) : Ft := if (ckF P).1 ≠ 0 then ckF P else q_ P P (ckF P)
theorem IE {P : List Fn} (hS : Pure Tryz.prog 44 [.agg [.sl (em aY P)]] (.agg [I (ckF P).1, I (ckF P).2])) (hP : P.length < 2 ^ 40) (hf : ∀ f ∈ P, size f.body ≤ 2 ^ 37 ∧ f.params.length ≤ 2 ^ 37 ∧ Sh f.body) :
  Pure Tryz.prog 13 [.agg [.sl (em aY P)]] (.agg [I (o7 P).1, I (o7 P).2]) := by
 refine fi13.pu (by simp) ?_
 unfold o7
 generalize ckF P = s0 at *
 simp -implicitDefEqProofs [ac13]
 refine aG hS (by simp) ?_
 by_cases h0 : s0.1 = 0
 ·simp -implicitDefEqProofs [h0]
  generalize hR : q_ P P s0 = R
  refine lpG cf13 lb13_1 [4, 5, 6] (α := Nat × Ft) (fun s _ => [(4, I s.1), (5, .top), (6, .top)]) (fun s _ => [(4, .box [I s.2.1, I s.2.2]), (1, .box [I 0, I 0])]) (fun s k => s.1 ≤ P.length ∧ q_ P (P.drop s.1) s.2 = R) (fun s => P.length - s.1) (0, s0) ⟨by simp, hR⟩ (by simp) (by rw [← h0]; exact aK _) ?_
  rintro ⟨i, s⟩ k ⟨hi, hr⟩
  simp only at hi hr
  by_cases hlt : i < P.length
  ·have hd1 : P.drop i = P[i] :: P.drop (i + 1) := List.drop_eq_getElem_cons hlt
   have hmem : P[i] ∈ P := List.getElem_mem hlt
   rw [hd1] at hr
   unfold q_ at hr
   obtain ⟨x, hxe⟩ : ∃ x, P[i] = x := ⟨_, rfl⟩
   rw [hxe] at hr hmem
   obtain ⟨z1, z2, z3⟩ := hf x hmem
   have w1 := aS (x := (i : Int) + 1) (by omega) (by omega)
   have hx := B9 P hP x.body (env := x.params) (t := x.type) z3 (by omega)
   have hwl := pV P x.params x.body x.type
   simp only [aA] at hx
   generalize gX P x.params x.body x.type = T at *
   simp -implicitDefEqProofs [lb13_1, hlt, hxe]
   refine aG hx (by simp) ?_
   simp -implicitDefEqProofs
   generalize hR2 : T.foldl d9 s = R2 at *
   refine lpG cf13 lb13_0 [6] (α := Nat × Ft) (fun s _ => [(6, I s.1)]) (fun s _ => [(4, .box [I s.2.1, I s.2.2]), (1, .box [I 0, I 0])]) (fun s k => s.1 ≤ T.length ∧ (T.drop s.1).foldl d9 s.2 = R2) (fun s => T.length - s.1) (0, s) ⟨by simp, hR2⟩ (by simp) (aK _) ?_
   rintro ⟨j, s2⟩ k2 ⟨hj, hr2⟩
   simp only at hj hr2
   by_cases hjl : j < T.length
   ·have hd2 : T.drop j = T[j] :: T.drop (j + 1) := List.drop_eq_getElem_cons hjl
    rw [hd2, List.foldl_cons] at hr2
    obtain ⟨y, hye⟩ : ∃ y, T[j] = y := ⟨_, rfl⟩
    rw [hye] at hr2
    have w2 := aS (x := (j : Int) + 1) (by omega) (by omega)
    unfold d9 cO at hr2
    by_cases g0 : s2.1 = 0
    ·rw [if_pos (.inl g0)] at hr2
     simp -implicitDefEqProofs [lb13_0, hjl, hye, g0, w2]
     exact aI (j + 1, (34, y)) ⟨hjl, hr2⟩ (by simp only; omega) (by simp) (by simp)
    ·by_cases g1 : y < s2.2
     ·rw [if_pos (.inr g1)] at hr2
      simp -implicitDefEqProofs [lb13_0, hjl, hye, g0, g1, w2]
      exact aI (j + 1, (34, y)) ⟨hjl, hr2⟩ (by simp only; omega) (by simp) (by simp)
     ·rw [if_neg (by omega)] at hr2
      simp -implicitDefEqProofs [lb13_0, hjl, hye, g0, g1, w2]
      exact aI (j + 1, s2) ⟨hjl, hr2⟩ (by simp only; omega) (by simp) (by simp)
   ·rw [List.drop_eq_nil_of_le (by omega), List.foldl_nil] at hr2
    subst hr2
    simp -implicitDefEqProofs [lb13_0, hjl, w1]
    exact aI (i + 1, s2) ⟨hlt, hr⟩ (by simp only; omega) (by simp) (aK _)
  ·rw [List.drop_eq_nil_of_le (by omega)] at hr
   unfold q_ at hr
   subst hr
   simp -implicitDefEqProofs [lb13_1, hlt]
 ·simp -implicitDefEqProofs [h0]
mutual
theorem Wf_Sh {ms : List Mk} {a b : Nat} : ∀ (e : Ex), Wf ms a b e → Sh e
 | .mk op n tl ty z args p, h => by
  unfold Wf at h
  unfold Sh
  exact ⟨h.2.1, CF args h.2.2⟩
theorem CF {ms : List Mk} {a b : Nat} : ∀ (l : List Ex), Wfs ms a b l → Shs l
 | [], _ => by unfold Shs; trivial
 | e :: es, h => by
  unfold Wfs at h
  unfold Shs
  exact ⟨Wf_Sh e h.1, CF es h.2⟩
end
mutual
def NB (P : List Fn) : Ex → Prop
 | .mk op n _ _ _ args _ => (op = 7 → ¬ dC P n args.length) ∧ NBs P args
def NBs (P : List Fn) : List Ex → Prop
 | [] => True
 | e :: es => NB P e ∧ NBs P es
end
theorem KQ (P : List Fn) (op : Int) (n tl : List UInt8) (ty : Int) (z : Cx) (args : List Ex) (p : Int) : i6 P (.mk op n tl ty z args p) = if op ≠ 7 then [] else if aP P 0 n < 0 then [(32, p)] else if (hdF P n).params.length ≠ args.length then [(33, p)] else [] := rfl
mutual
theorem nb_of {P : List Fn} : ∀ (e : Ex) (N : List (List UInt8)), aW P (dX e N) = [] → NB P e
 | .mk op n tl ty z args p, N, h => by
  unfold dX at h
  rw [gD, List.append_eq_nil_iff] at h
  unfold NB
  refine ⟨fun h7 => ?_, FE op n tl 0 args N h.2⟩
  have h1 := h.1
  rw [if_pos (.inr h7)] at h1
  unfold aW at h1
  rw [List.append_eq_nil_iff, List.append_eq_nil_iff] at h1
  have h2 := h1.1.2
  simp only at h2
  rw [KQ, if_neg (fun g => g h7)] at h2
  unfold dC
  by_cases g : aP P 0 n < 0
  ·rw [if_pos g] at h2; simp at h2
  ·rw [if_neg g] at h2
   by_cases g2 : (hdF P n).params.length = args.length
   ·exact fun k => k.elim g (fun k => k g2)
   ·rw [if_pos g2] at h2; simp at h2
theorem FE {P : List Fn} (op : Int) (n t : List UInt8) (i : Nat) : ∀ (l : List Ex) (N : List (List UInt8)), aW P (dO op n t i l N) = [] → NBs P l
 | [], _, _ => by unfold NBs; trivial
 | x :: xs, N, h => by
  unfold dO at h
  rw [gD, List.append_eq_nil_iff] at h
  unfold NBs
  exact ⟨nb_of x _ h.1, FE op n t (i + 1) xs N h.2⟩
end
def PT (P : List Fn) : Prop := ∀ f ∈ P, a_ f.type ∧ ∀ p ∈ f.params, a_ p.type
theorem DE {P : List Fn} {n : List UInt8} (h : ¬ aP P 0 n < 0) : hdF P n ∈ P := by
 have := eT P 0 n
 have hi : (aP P 0 n).toNat < P.length := by omega
 unfold hdF
 rw [List.getElem?_eq_getElem hi]
 exact List.getElem_mem hi
theorem yU : ∀ (l : List Pm) (n : List UInt8), (∀ x ∈ l, a_ x.type) → (eU l n = 0 ∧ lookR' l n = -1) ∨ (eU l n = lookR' l n ∧ a_ (eU l n))
 | [], n, _ => .inl ⟨rfl, rfl⟩
 | x :: xs, n, h => by
  unfold eU lookR'
  by_cases g : x.name = n
  ·rw [if_pos g, if_pos g]; exact .inr ⟨rfl, h x (by simp)⟩
  ·rw [if_neg g, if_neg g]; exact yU xs n (fun y hy => h y (by simp [hy]))
theorem F9 {env : List Pm} {op : Int} {n tl : List UInt8} {ty : Int} {i : Nat} {k : Nat} (h : ∀ x ∈ env, a_ x.type) (hs : cG op ty k) : ∀ x ∈ aM env op n tl ty i, a_ x.type := by
 unfold aM
 split
 ·rename_i hc
  intro x hx
  rcases List.mem_append.1 hx with hx | hx
  ·exact h x hx
  ·simp only [List.mem_cons, List.not_mem_nil, or_false] at hx
   subst hx
   unfold cG at hs
   show a_ ty
   rcases hs with hs | hs | hs | hs | hs | hs | hs <;> first | exact hs.2.2 | omega
 ·split
  ·intro x hx
   rcases List.mem_append.1 hx with hx | hx
   ·exact h x hx
   ·simp only [List.mem_cons, List.not_mem_nil, or_false] at hx
    rcases hx with rfl | rfl
    ·exact .inl rfl
    ·exact .inr (.inr rfl)
  ·exact h
theorem D9 {P : List Fn} {op : Int} {n : List UInt8} {ty : Int} {i k : Nat} {t : Int} (hP : PT P) (hs : cG op ty k) (ht : a_ t) (hb : op = 7 → ¬ dC P n k) (hi : i < k) : aL P op n ty i t = eA P op n ty i t ∧ a_ (aL P op n ty i t) := by
 by_cases h7 : op = 7
 ·have h1 := hb h7
  unfold dC at h1
  have h2 : ¬ aP P 0 n < 0 := fun g => h1 (.inl g)
  have h3 : (hdF P n).params.length = k := by
   rcases Nat.lt_or_ge (hdF P n).params.length k with g | g
   ·exact absurd (.inr (by omega)) h1
   ·rcases Nat.lt_or_ge k (hdF P n).params.length with g2 | g2
    ·exact absurd (.inr (by omega)) h1
    ·omega
  refine ⟨?_, ?_⟩
  ·unfold eA
   rw [if_neg (fun g => g.2.elim h2 (fun g => by omega))]
  ·subst h7
   have hlt : i < (hdF P n).params.length := by omega
   have := (hP _ (DE h2)).2 ((hdF P n).params[i]) (List.getElem_mem hlt)
   simp only [aL]
   rw [List.getElem?_eq_getElem hlt]
   simpa using this
 ·refine ⟨?_, ?_⟩
  ·unfold eA; rw [if_neg (fun g => h7 g.1)]
  ·have hty : op = 21 ∨ op = 22 → a_ ty := fun h => by
    unfold cG at hs
    rcases hs with hs | hs | hs | hs | hs | hs | hs <;> first | exact hs.2.2 | omega
   unfold aL
   have t1 : a_ 1 := .inl rfl
   have t2 : a_ 2 := .inr (.inl rfl)
   have t3 : a_ 3 := .inr (.inr rfl)
   split
   ·exact t2
   ·split
    ·split <;> assumption
    ·split
     ·split <;> assumption
     ·split
      ·split <;> assumption
      ·split
       ·rename_i h; split
        ·exact hty h
        ·exact ht
       ·exact t1
theorem ML {P : List Fn} {env : List Pm} {op : Int} {n : List UInt8} {ty : Int} {k : Nat} {t : Int} (hP : PT P) (he : ∀ x ∈ env, a_ x.type) (hs : cG op ty k) (ht : a_ t) (hb : op = 7 → ¬ dC P n k) : (bX op ∨ bL P env op n ty k = t) ↔ ¬ (fE P env op n ty k ≠ 0 ∧ fE P env op n ty k ≠ t) := by
 have ht0 : t ≠ 0 ∧ t ≠ -1 := by unfold a_ at ht; omega
 by_cases hc : bX op
 ·have : fE P env op n ty k = 0 := by unfold fE; rw [if_pos hc]
  rw [this]; simp [hc]
 ·by_cases h6 : op = 6
  ·subst h6
   have h1 : bL P env 6 n ty k = eU env.reverse n := by simp [bL, eQ]
   have h2 : fE P env 6 n ty k = lookR' env.reverse n := by unfold fE; rw [if_neg hc, if_pos rfl]
   rw [h1, h2]
   rcases yU env.reverse n (fun x hx => he x (by simpa using hx)) with ⟨g1, g2⟩ | ⟨g1, g2⟩
   ·rw [g1, g2]
    constructor
    ·intro h; rcases h with h | h
     ·exact absurd h hc
     ·omega
    ·intro h; omega
   ·rw [← g1]
    unfold a_ at g2
    constructor
    ·intro h; rcases h with h | h
     ·exact absurd h hc
     ·omega
    ·intro h; right; omega
  ·have h1 : fE P env op n ty k = bL P env op n ty k := by
    unfold fE
    rw [if_neg hc, if_neg h6, if_neg (fun g => hb g.1 g.2)]
   have h2 : a_ (bL P env op n ty k) := by
    have t1 : a_ 1 := .inl rfl
    have t2 : a_ 2 := .inr (.inl rfl)
    have t3 : a_ 3 := .inr (.inr rfl)
    unfold bL
    split
    ·exact t2
    ·split
     ·exact t3
     ·split
      ·rename_i h5
       unfold cG at hs
       rcases hs with hs | hs | hs | hs | hs | hs | hs <;> first | exact hs.2.2 | omega
      ·split
       ·rename_i h7
        rw [if_neg (hb h7)]
        exact (hP _ (DE (fun g => hb h7 (.inl g)))).1
       ·split
        ·exact t2
        ·split
         ·exact t3
         ·split
          ·exact t2
          ·exact t1
   rw [h1]
   unfold a_ at h2
   constructor
   ·intro h; rcases h with h | h
    ·exact absurd h hc
    ·omega
   ·intro h; right; omega
mutual
theorem wM {P : List Fn} (hP : PT P) : ∀ (env : List Pm) (e : Ex) (t : Int), NB P e → Sh e → a_ t → (∀ x ∈ env, a_ x.type) → (a7 P env e t).Perm (gX P env e t)
 | env, .mk op n tl ty z args p, t, hn, hs, ht, he => by
  unfold NB at hn
  unfold Sh at hs
  have h1 := uU hP env op n tl ty t args.length 0 args hn.2 hs.2 hs.1 ht he hn.1 (by omega)
  have h2 := ML (n := n) hP he hs.1 ht hn.1
  unfold a7 gX
  rw [if_neg (fun g => hn.1 g.1 g.2)]
  refine List.Perm.trans List.perm_append_comm (List.Perm.append ?_ h1)
  by_cases g : bX op ∨ bL P env op n ty args.length = t
  ·rw [if_pos g, if_neg (h2.1 g)]
  ·rw [if_neg g, if_pos (Classical.not_not.1 (fun k => g (h2.2 k)))]
theorem uU {P : List Fn} (hP : PT P) (env : List Pm) (op : Int) (n tl : List UInt8) (ty t : Int) (k : Nat) : ∀ (i : Nat) (l : List Ex), NBs P l → Shs l → cG op ty k → a_ t → (∀ x ∈ env, a_ x.type) → (op = 7 → ¬ dC P n k) → i + l.length ≤ k → (bB P env op n tl ty t i l).Perm (fB P env op n tl ty t i l)
 | i, [], _, _, _, _, _, _, _ => by unfold bB fB; exact List.Perm.refl _
 | i, x :: xs, hn, hs, hsh, ht, he, hb, hl => by
  unfold NBs at hn
  unfold Shs at hs
  simp only [List.length_cons] at hl
  obtain ⟨w1, w2⟩ := D9 (i := i) hP hsh ht hb (by omega)
  unfold bB fB
  refine List.Perm.append ?_ (uU hP env op n tl ty t k (i + 1) xs hn.2 hs.2 hsh ht he hb (by omega))
  rw [← w1]
  exact wM hP _ x _ hn.1 hs.1 w2 (F9 he hsh)
end
theorem MW (s : Ft) (p q : Int) : d9 (d9 s p) q = d9 (d9 s q) p := by
 by_cases h : p = q
 ·subst h; rfl
 ·exact wI (x := (34, p)) (y := (34, q)) (by simp) (by simp) h s
theorem EY {l k : List Int} (h : l.Perm k) (s : Ft) : l.foldl d9 s = k.foldl d9 s := h.foldl_eq' (fun x _ y _ z => MW z x y) s
theorem z7 : ∀ (l : List Ft) (s : Ft), s.1 ≠ 0 → (∀ x ∈ l, x.1 ≠ 0) → (bQ l s).1 ≠ 0
 | [], s, h, _ => h
 | x :: xs, s, h, hx => by
  refine z7 xs _ ?_ (fun y hy => hx y (by simp [hy]))
  unfold cO
  split
  ·exact hx x (by simp)
  ·exact h
theorem uS {l : List Ft} (h : (bQ l (0, 0)).1 = 0) (hx : ∀ x ∈ l, x.1 ≠ 0) : l = [] := by
 cases l with
 | nil => rfl
 | cons x xs =>
  refine absurd h (z7 xs _ ?_ (fun y hy => hx y (by simp [hy])))
  unfold cO
  rw [if_pos (.inl rfl)]
  exact hx x (by simp)
theorem q9 {ms : List Mk} {P : List Fn} : ∀ (l : List Fn) (a b : Nat), Fns ms a l b → ∀ x ∈ e9 P l, x.1 ≠ 0
 | [], a, b, _, x, hx => by simp [e9] at hx
 | f :: fs, a, b, h, x, hx => by
  unfold Fns at h
  obtain ⟨c, hf, hs⟩ := h
  unfold e9 at hx
  rcases List.mem_append.1 hx with hx | hx
  ·exact (CO hf x hx).1
  ·exact q9 fs c b hs x hx
theorem u_ {P : List Fn} : ∀ {l : List Fn}, e9 P l = [] → ∀ f ∈ l, kB P f = []
 | f :: fs, h, g, hg => by
  unfold e9 at h
  rw [List.append_eq_nil_iff] at h
  rcases List.mem_cons.1 hg with rfl | hg
  ·exact h.1
  ·exact u_ h.2 g hg
theorem zI {ms : List Mk} : ∀ {l : List Fn} {a b : Nat}, Fns ms a l b → ∀ f ∈ l, Sh f.body ∧ a_ f.type ∧ ∀ p ∈ f.params, a_ p.type
 | f :: fs, a, b, h, g, hg => by
  unfold Fns at h
  obtain ⟨c, hf, hs⟩ := h
  rcases List.mem_cons.1 hg with rfl | hg
  ·exact ⟨Wf_Sh _ hf.body, hf.type, fun p hp => (hf.params p hp).2⟩
  ·exact zI hs g hg
theorem MA {P : List Fn} (h : dT P) (h0 : (ckF P).1 = 0) : ∀ f ∈ P, NB P f.body := by
 obtain ⟨ms, a, b, _, hl, hr, hb, hF, _⟩ := h
 unfold ckF at h0
 rw [uN hr P a b 0 _ hF hb] at h0
 have h1 := uS h0 (fun x hx => (List.mem_append.1 hx).elim (fun hx => (pF P a b 0 hF hb x hx).1) (q9 P a b hF x))
 rw [List.append_eq_nil_iff] at h1
 intro f hf
 have h2 := u_ h1.2 f hf
 unfold kB at h2
 rw [List.append_eq_nil_iff] at h2
 exact nb_of _ _ h2.2
theorem jT {P : List Fn} (h : dT P) : PT P ∧ P.length < 2 ^ 40 ∧ ∀ f ∈ P, size f.body ≤ 2 ^ 37 ∧ f.params.length ≤ 2 ^ 37 ∧ Sh f.body := by
 obtain ⟨ms, a, b, _, hl, hr, hb, hF, _⟩ := h
 obtain ⟨k1, k2⟩ := mL P a b hF
 exact ⟨fun f hf => (zI hF f hf).2, by omega, fun f hf => by
  have := k2 f hf
  exact ⟨by omega, by omega, (zI hF f hf).1⟩⟩
theorem I4 {P : List Fn} (h : dT P) : gW P = o7 P := by
 unfold gW o7
 by_cases h0 : (ckF P).1 = 0
 ·rw [if_neg (fun g => g h0), if_neg (fun g => g h0)]
  have hn := MA h h0
  obtain ⟨hP, _, hs⟩ := jT h
  have : ∀ (l : List Fn) (s : Ft), (∀ f ∈ l, f ∈ P) → tcF P l s = q_ P l s := by
   intro l
   induction l with
   | nil => intro s _; rfl
   | cons f fs ih =>
    intro s hl
    have hf := hl f (by simp)
    unfold tcF q_
    rw [EY (wM hP f.params f.body f.type (hn f hf) (hs f hf).2.2 (hP f hf).1 (hP f hf).2) s]
    exact ih _ (fun g hg => hl g (by simp [hg]))
  exact this P _ (fun f hf => hf)
 ·rw [if_pos h0, if_pos h0]
end Go.Fx.YtlhdpfaohphbaaaGreat

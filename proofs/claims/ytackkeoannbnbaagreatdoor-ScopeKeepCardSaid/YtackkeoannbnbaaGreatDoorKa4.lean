/- Joined texts of this claim. No condition. -/
import Derived.Test.YtackkeoannbnbaaGreatDoorKa3
set_option linter.all false
set_option maxRecDepth 100000
set_option maxHeartbeats 4000000
namespace Go.Fx.YtackkeoannbnbaaGreatDoor
open Go Go.Fx Go.Proofs Go.Fx.Flt
def pw (r : Rd) (l : List Pm) : Rd := if l = [] then r else r.want [44]
def pf (r : Rd) (l : List Pm) : Rd := if r.why = 0 ∧ r.next.kind = 0 ∧ r.lA ≤ (l.length : Int) then r.fail 22 else r
def b8 : Nat → List Pm → Rd → Option (List Pm × Rd)
 | 0, _, _ => none
 | n + 1, l, r => if r.why = 0 ∧ r.is [41] = false then
   b8 n (l ++ [⟨(pf (pw r l) l).name.1.text, (pf (pw r l) l).name.2.typ.1, (pf (pw r l) l).name.1.at'⟩]) (pf (pw r l) l).name.2.typ.2
  else some (l, r)
def df (r : Rd) (cnt : Nat) : Rd := if r.next.kind = 0 ∧ r.lF ≤ (cnt : Int) then r.fail 22 else r
def iG (n : Nat) (r : Rd) (cnt : Nat) : Option (Fn × Rd) :=
 (b8 n [] ((df r cnt).name.2.want [40])).bind fun (ps, r4) =>
  (a6 n (((r4.want [41]).want [58]).typ.2.want [61])).map fun (body, r9) =>
   (⟨(df r cnt).name.1.text, ps, ((r4.want [41]).want [58]).typ.1, body, (df r cnt).name.1.at'⟩, r9.want [59])
def c7 : Nat → List Fn → Rd → Option (List Fn × Rd)
 | 0, _, _ => none
 | n + 1, l, r => if r.why = 0 ∧ (l = [] ∨ r.next.kind ≠ 4) then (iG n r l.length).bind fun (f, q) => c7 n (l ++ [f]) q else some (l, r)
theorem AS {r : Rd} (h : r.ok) (l : List Pm) : (pw r l).ok := by
 unfold pw; split
 ·exact h
 ·exact Rd.ok_want h _
theorem ok_pf {r : Rd} (h : r.ok) (l : List Pm) : (pf r l).ok := by
 unfold pf; split
 ·exact Rd.ok_fail h _
 ·exact h
theorem ok_df {r : Rd} (h : r.ok) (c : Nat) : (df r c).ok := by
 unfold df; split
 ·exact Rd.ok_fail h _
 ·exact h
theorem qU : ∀ n l (r : Rd) L r', r.ok → b8 n l r = some (L, r') → r'.ok
 | 0, l, r, L, r', _, h => by simp [b8] at h
 | n + 1, l, r, L, r', h, hrun => by
  unfold b8 at hrun
  split at hrun
  ·exact qU n _ _ L r' (Rd.ok_typ (Rd.ok_name (ok_pf (AS h l) l))) hrun
  ·simp only [Option.some.injEq, Prod.mk.injEq] at hrun
   obtain ⟨_, rfl⟩ := hrun
   exact h
theorem aN (f : Fn) : a_ f = [Tx f.name, .sl (em fY f.params), I f.type, I f.body.op, Tx f.body.name, Tx f.body.tail, I f.body.type, CX f.body.num.re f.body.num.im, .sl (em aR f.body.args), I f.body.at', I f.at'] := by
 unfold a_; rw [aA]; rfl
theorem imm_Fn (l : List Fn) : D.immss (em a_ l) = true := jR fun f => by rw [aN]; simp
theorem AY (l : List Fn) (f : Fn) : em a_ l ++ [a_ f] = em a_ (l ++ [f]) := fL
attribute [simp] imm_Fn
theorem lV {n : Nat} (hN : n ≤ 2 ^ 40) {id nx b5 b6 M : Nat} {mem : Mem} {s2 r4 : Rd} {nm : Mk} {ps : List Pm} {d1 d : D} {x0 : Blk} (hl : look mem id = some x0) (hi : id < nx) (h5 : nx + 1 ≤ b5) (h6 : b5 + 1 ≤ b6) (h7 : b6 + 1 ≤ M) (hfr : ∀ i, nx ≤ i → look mem i = none) (k2 : s2.ok) (hp : b8 n [] s2 = some (ps, r4))
  (Q : Exit → St → Prop) (hq : ∀ m, M + 1 ≤ m → Q (.exit 0) ⟨[(0, .opt id 0), (1, d1), (4, d), (5, .opt b5 0), (6, .opt b6 0), (7, .top), (8, .top)], [], (M, .arr ps.length 3 (em fY ps)) :: (b6, .box [Tx nm.text, .osl M ps.length 0 ps.length, I 0, I 0, Tx [], Tx [], I 0, CX 0 0, .pl (.slice none 0 0), I 0, I nm.at']) :: (b5, .box (aB nm)) :: (nx, .box [Tx [], .pl (.slice none 0 0), I 0, I 0, Tx [], Tx [], I 0, CX 0 0, .pl (.slice none 0 0), I 0, I 0]) :: upd mem id (.box (aC r4)), m⟩) :
  A cf59 (.loop lb59_0) Q [(0, .opt id 0), (1, d1), (4, d), (5, .opt b5 0), (6, .opt b6 0), (7, .pl undef), (8, .pl undef)]
   ((b6, .box [Tx nm.text, .pl (.slice none 0 0), I 0, I 0, Tx [], Tx [], I 0, CX 0 0, .pl (.slice none 0 0), I 0, I nm.at']) :: (b5, .box (aB nm)) :: (nx, .box [Tx [], .pl (.slice none 0 0), I 0, I 0, Tx [], Tx [], I 0, CX 0 0, .pl (.slice none 0 0), I 0, I 0]) :: upd mem id (.box (aC s2))) M := by
 refine l6 (id := b6) (off := 1) (k := 3) (by rw [a7, if_pos rfl]) rfl (.inl rfl) ?_
 refine lpG cf59 lb59_0 [7, 8] (α := Nat × List Pm × Rd) (fun _ _ => [(7, .top), (8, .top)]) (fun s _ => (M, .arr s.2.1.length 3 (em fY s.2.1)) :: (b6, .box [Tx nm.text, .osl M s.2.1.length 0 s.2.1.length, I 0, I 0, Tx [], Tx [], I 0, CX 0 0, .pl (.slice none 0 0), I 0, I nm.at']) :: (b5, .box (aB nm)) :: (nx, .box [Tx [], .pl (.slice none 0 0), I 0, I 0, Tx [], Tx [], I 0, CX 0 0, .pl (.slice none 0 0), I 0, I 0]) :: upd mem id (.box (aC s.2.2)))
  (fun s m => M + 1 ≤ m ∧ s.1 + s.2.1.length ≤ n ∧ s.2.2.ok ∧ b8 s.1 s.2.1 s.2.2 = some (ps, r4)) (fun s => s.1) (n, [], s2) ⟨by omega, by simp, k2, hp⟩ (by simp) (by simp) ?_
 rintro ⟨f, l, y⟩ m ⟨hm, hf, hy, hrun⟩
 have Km := nfc trivial hm
 have K5 := nfc Km h5
 have K6 := nfc K5 h6
 have K7 := nfc K6 h7
 simp only at hf hy hrun
 cases f with
 | zero => simp [b8] at hrun
 | succ f =>
  unfold b8 at hrun
  have ci := jJ hy [41]
  by_cases g1 : y.why = 0
  ·have hw := hy
   have KF1 := And.intro K7 (g1)
   cases hi2 : y.is [41] <;> rw [hi2] at ci
   ·rw [if_pos ⟨g1, hi2⟩] at hrun
    have kp := ok_pf (AS hy l) l
    have cnm := l_ kp
    have kn := Rd.ok_name kp
    have cty := qY kn
    have kq := Rd.ok_typ kn
    have hpf : pf (pw y l) l = if (pw y l).why = 0 ∧ (pw y l).next.kind = 0 ∧ (pw y l).lA ≤ (l.length : Int) then (pw y l).fail 22 else pw y l := rfl
    have ky1 := AS hy l
    have hpw : pw y l = if l = [] then y else y.want [44] := rfl
    generalize pf (pw y l) l = z at *
    generalize z.name.1 = x at *
    generalize z.name.2 = z2 at *
    generalize z2.typ.1 = t at *
    generalize z2.typ.2 = q at *
    generalize pw y l = y1 at *
    have cnx := fG ky1
    have cfl := kY ky1 22
    simp only [aB] at cnx cnm
    have cw := dI hy [44]
    by_cases h0 : l = []
    ·subst h0
     rw [if_pos rfl] at hpw
     subst hpw
     simp only [List.nil_append] at hrun
     by_cases a0 : y1.why = 0
     ·have hu0 := a0
      have KF2 := And.intro KF1 (a0)
      by_cases a1 : y1.next.kind = 0
      ·by_cases a2 : y1.lA ≤ 0
       ·rw [if_pos ⟨a0, a1, by simpa using a2⟩] at hpf
        subst hpf
        simp -implicitDefEqProofs (maxDischargeDepth := 80) [lb59_0, hl, hi, neC hi, neA, ltA, aC, aB, aA, KF2]
        refine aD ((ci) (by simp -implicitDefEqProofs (maxDischargeDepth := 80) [hl, hi, neC hi, neA, ltA, aC, aB, aA, KF2]) (by omega) (fun m2 hm2 => ?_))
        have im2 : id < m2 := by omega
        have Km2 := nfc KF2 hm2
        simp -implicitDefEqProofs (maxDischargeDepth := 80) [hl, hi, neC hi, neA, ltA, aC, aB, aA, Km2, a0]
        refine aD ((cnx) (by simp -implicitDefEqProofs (maxDischargeDepth := 80) [hl, hi, neC hi, neA, ltA, aC, aB, aA, Km2]) (by omega) (fun m4 hm4 => ?_))
        have im4 : id < m4 := by omega
        have Km4 := nfc Km2 hm4
        simp -implicitDefEqProofs (maxDischargeDepth := 80) [hl, hi, neC hi, neA, ltA, aC, aB, aA, Km4, a1, a2]
        refine aD ((cfl) (by simp -implicitDefEqProofs (maxDischargeDepth := 80) [hl, hi, neC hi, neA, ltA, aC, aB, aA, Km4]) (by omega) (fun m5 hm5 => ?_))
        have im5 : id < m5 := by omega
        have Km5 := nfc Km4 hm5
        simp -implicitDefEqProofs (maxDischargeDepth := 80) [hl, hi, neC hi, neA, ltA, aC, aB, aA, Km5]
        refine aD ((cnm) (by simp -implicitDefEqProofs (maxDischargeDepth := 80) [hl, hi, neC hi, neA, ltA, aC, aB, aA, Km5]) (by omega) (fun m7 hm7 => ?_))
        have im7 : id < m7 := by omega
        have Km7 := nfc Km5 hm7
        simp -implicitDefEqProofs (maxDischargeDepth := 80) [hl, hi, neC hi, neA, ltA, aC, aB, aA, Km7]
        refine aD ((cty) (by simp -implicitDefEqProofs (maxDischargeDepth := 80) [hl, hi, neC hi, neA, ltA, aC, aB, aA, Km7]) (by omega) (fun m8 hm8 => ?_))
        have im8 : id < m8 := by omega
        have Km8 := nfc Km7 hm8
        simp -implicitDefEqProofs (maxDischargeDepth := 80) [hl, hi, neC hi, neA, ltA, aC, aB, aA, Km8]
        refine aK (f, [⟨x.text, t, x.at'⟩], q) ⟨by omega, by simp only [List.length_append, List.length_cons, List.length_nil] at hf ⊢; omega, kq, hrun⟩ (by simp only; omega) (by simp) ?_
        simp only [em_1, fY, List.length_cons, List.length_nil, Nat.zero_add]
        exact (by repeat (first | exact aL _ | refine aQ ?_ (by simp only [look]; repeat (first | rw [if_neg (by omega)] | exact aF (hfr _ (by omega)) | exact hfr _ (by omega)))))
       ·rw [if_neg (fun h => a2 (by simpa using h.2.2))] at hpf
        subst hpf
        simp -implicitDefEqProofs (maxDischargeDepth := 80) [lb59_0, hl, hi, neC hi, neA, ltA, aC, aB, aA, KF2]
        refine aD ((ci) (by simp -implicitDefEqProofs (maxDischargeDepth := 80) [hl, hi, neC hi, neA, ltA, aC, aB, aA, KF2]) (by omega) (fun m2 hm2 => ?_))
        have im2 : id < m2 := by omega
        have Km2 := nfc KF2 hm2
        simp -implicitDefEqProofs (maxDischargeDepth := 80) [hl, hi, neC hi, neA, ltA, aC, aB, aA, Km2, a0]
        refine aD ((cnx) (by simp -implicitDefEqProofs (maxDischargeDepth := 80) [hl, hi, neC hi, neA, ltA, aC, aB, aA, Km2]) (by omega) (fun m4 hm4 => ?_))
        have im4 : id < m4 := by omega
        have Km4 := nfc Km2 hm4
        simp -implicitDefEqProofs (maxDischargeDepth := 80) [hl, hi, neC hi, neA, ltA, aC, aB, aA, Km4, a1, a2]
        refine aD ((cnm) (by simp -implicitDefEqProofs (maxDischargeDepth := 80) [hl, hi, neC hi, neA, ltA, aC, aB, aA, Km4]) (by omega) (fun m7 hm7 => ?_))
        have im7 : id < m7 := by omega
        have Km7 := nfc Km4 hm7
        simp -implicitDefEqProofs (maxDischargeDepth := 80) [hl, hi, neC hi, neA, ltA, aC, aB, aA, Km7]
        refine aD ((cty) (by simp -implicitDefEqProofs (maxDischargeDepth := 80) [hl, hi, neC hi, neA, ltA, aC, aB, aA, Km7]) (by omega) (fun m8 hm8 => ?_))
        have im8 : id < m8 := by omega
        have Km8 := nfc Km7 hm8
        simp -implicitDefEqProofs (maxDischargeDepth := 80) [hl, hi, neC hi, neA, ltA, aC, aB, aA, Km8]
        refine aK (f, [⟨x.text, t, x.at'⟩], q) ⟨by omega, by simp only [List.length_append, List.length_cons, List.length_nil] at hf ⊢; omega, kq, hrun⟩ (by simp only; omega) (by simp) ?_
        simp only [em_1, fY, List.length_cons, List.length_nil, Nat.zero_add]
        exact (by repeat (first | exact aL _ | refine aQ ?_ (by simp only [look]; repeat (first | rw [if_neg (by omega)] | exact aF (hfr _ (by omega)) | exact hfr _ (by omega)))))
      ·rw [if_neg (fun h => a1 h.2.1)] at hpf
       subst hpf
       simp -implicitDefEqProofs (maxDischargeDepth := 80) [lb59_0, hl, hi, neC hi, neA, ltA, aC, aB, aA, KF2]
       refine aD ((ci) (by simp -implicitDefEqProofs (maxDischargeDepth := 80) [hl, hi, neC hi, neA, ltA, aC, aB, aA, KF2]) (by omega) (fun m2 hm2 => ?_))
       have im2 : id < m2 := by omega
       have Km2 := nfc KF2 hm2
       simp -implicitDefEqProofs (maxDischargeDepth := 80) [hl, hi, neC hi, neA, ltA, aC, aB, aA, Km2, a0]
       refine aD ((cnx) (by simp -implicitDefEqProofs (maxDischargeDepth := 80) [hl, hi, neC hi, neA, ltA, aC, aB, aA, Km2]) (by omega) (fun m4 hm4 => ?_))
       have im4 : id < m4 := by omega
       have Km4 := nfc Km2 hm4
       simp -implicitDefEqProofs (maxDischargeDepth := 80) [hl, hi, neC hi, neA, ltA, aC, aB, aA, Km4, a1]
       refine aD ((cnm) (by simp -implicitDefEqProofs (maxDischargeDepth := 80) [hl, hi, neC hi, neA, ltA, aC, aB, aA, Km4]) (by omega) (fun m7 hm7 => ?_))
       have im7 : id < m7 := by omega
       have Km7 := nfc Km4 hm7
       simp -implicitDefEqProofs (maxDischargeDepth := 80) [hl, hi, neC hi, neA, ltA, aC, aB, aA, Km7]
       refine aD ((cty) (by simp -implicitDefEqProofs (maxDischargeDepth := 80) [hl, hi, neC hi, neA, ltA, aC, aB, aA, Km7]) (by omega) (fun m8 hm8 => ?_))
       have im8 : id < m8 := by omega
       have Km8 := nfc Km7 hm8
       simp -implicitDefEqProofs (maxDischargeDepth := 80) [hl, hi, neC hi, neA, ltA, aC, aB, aA, Km8]
       refine aK (f, [⟨x.text, t, x.at'⟩], q) ⟨by omega, by simp only [List.length_append, List.length_cons, List.length_nil] at hf ⊢; omega, kq, hrun⟩ (by simp only; omega) (by simp) ?_
       simp only [em_1, fY, List.length_cons, List.length_nil, Nat.zero_add]
       exact (by repeat (first | exact aL _ | refine aQ ?_ (by simp only [look]; repeat (first | rw [if_neg (by omega)] | exact aF (hfr _ (by omega)) | exact hfr _ (by omega)))))
     ·exact absurd g1 a0
    ·rw [if_neg h0] at hpw
     have hpos := List.length_pos_iff.2 h0
     rw [← hpw] at cw
     by_cases a0 : y1.why = 0
     ·have hu0 := a0
      have KF3 := And.intro KF1 (a0)
      by_cases a1 : y1.next.kind = 0
      ·by_cases a2 : y1.lA ≤ (l.length : Int)
       ·rw [if_pos ⟨a0, a1, a2⟩] at hpf
        subst hpf
        simp -implicitDefEqProofs (maxDischargeDepth := 80) [lb59_0, hl, hi, neC hi, neA, ltA, aC, aB, aA, KF3]
        refine aD ((ci) (by simp -implicitDefEqProofs (maxDischargeDepth := 80) [hl, hi, neC hi, neA, ltA, aC, aB, aA, KF3]) (by omega) (fun m2 hm2 => ?_))
        have im2 : id < m2 := by omega
        have Km2 := nfc KF3 hm2
        simp -implicitDefEqProofs (maxDischargeDepth := 80) [hl, hi, neC hi, neA, ltA, aC, aB, aA, Km2, hpos]
        refine aD ((cw) (by simp -implicitDefEqProofs (maxDischargeDepth := 80) [hl, hi, neC hi, neA, ltA, aC, aB, aA, Km2]) (by omega) (fun m3 hm3 => ?_))
        have im3 : id < m3 := by omega
        have Km3 := nfc Km2 hm3
        simp -implicitDefEqProofs (maxDischargeDepth := 80) [hl, hi, neC hi, neA, ltA, aC, aB, aA, Km3, a0]
        refine aD ((cnx) (by simp -implicitDefEqProofs (maxDischargeDepth := 80) [hl, hi, neC hi, neA, ltA, aC, aB, aA, Km3]) (by omega) (fun m4 hm4 => ?_))
        have im4 : id < m4 := by omega
        have Km4 := nfc Km3 hm4
        simp -implicitDefEqProofs (maxDischargeDepth := 80) [hl, hi, neC hi, neA, ltA, aC, aB, aA, Km4, a1, a2]
        refine aD ((cfl) (by simp -implicitDefEqProofs (maxDischargeDepth := 80) [hl, hi, neC hi, neA, ltA, aC, aB, aA, Km4]) (by omega) (fun m5 hm5 => ?_))
        have im5 : id < m5 := by omega
        have Km5 := nfc Km4 hm5
        simp -implicitDefEqProofs (maxDischargeDepth := 80) [hl, hi, neC hi, neA, ltA, aC, aB, aA, Km5]
        refine aD ((cnm) (by simp -implicitDefEqProofs (maxDischargeDepth := 80) [hl, hi, neC hi, neA, ltA, aC, aB, aA, Km5]) (by omega) (fun m7 hm7 => ?_))
        have im7 : id < m7 := by omega
        have Km7 := nfc Km5 hm7
        simp -implicitDefEqProofs (maxDischargeDepth := 80) [hl, hi, neC hi, neA, ltA, aC, aB, aA, Km7]
        refine aD ((cty) (by simp -implicitDefEqProofs (maxDischargeDepth := 80) [hl, hi, neC hi, neA, ltA, aC, aB, aA, Km7]) (by omega) (fun m8 hm8 => ?_))
        have im8 : id < m8 := by omega
        have Km8 := nfc Km7 hm8
        simp -implicitDefEqProofs (maxDischargeDepth := 80) [hl, hi, neC hi, neA, ltA, aC, aB, aA, Km8]
        have hap := rB l ⟨x.text, t, x.at'⟩
        refine ⟨by omega, aK (f, l ++ [⟨x.text, t, x.at'⟩], q) ⟨by omega, by simp only [List.length_append, List.length_cons, List.length_nil]; omega, kq, hrun⟩ (by simp only; omega) (by simp) ?_⟩
        simp only [] at hap
        rw [hap]
        simp only [List.length_append, List.length_cons, List.length_nil, Nat.zero_add]
        exact (by repeat (first | exact aL _ | refine aQ ?_ (by simp only [look]; repeat (first | rw [if_neg (by omega)] | exact aF (hfr _ (by omega)) | exact hfr _ (by omega)))))
       ·rw [if_neg (fun h => a2 (by simpa using h.2.2))] at hpf
        subst hpf
        simp -implicitDefEqProofs (maxDischargeDepth := 80) [lb59_0, hl, hi, neC hi, neA, ltA, aC, aB, aA, KF3]
        refine aD ((ci) (by simp -implicitDefEqProofs (maxDischargeDepth := 80) [hl, hi, neC hi, neA, ltA, aC, aB, aA, KF3]) (by omega) (fun m2 hm2 => ?_))
        have im2 : id < m2 := by omega
        have Km2 := nfc KF3 hm2
        simp -implicitDefEqProofs (maxDischargeDepth := 80) [hl, hi, neC hi, neA, ltA, aC, aB, aA, Km2, hpos]
        refine aD ((cw) (by simp -implicitDefEqProofs (maxDischargeDepth := 80) [hl, hi, neC hi, neA, ltA, aC, aB, aA, Km2]) (by omega) (fun m3 hm3 => ?_))
        have im3 : id < m3 := by omega
        have Km3 := nfc Km2 hm3
        simp -implicitDefEqProofs (maxDischargeDepth := 80) [hl, hi, neC hi, neA, ltA, aC, aB, aA, Km3, a0]
        refine aD ((cnx) (by simp -implicitDefEqProofs (maxDischargeDepth := 80) [hl, hi, neC hi, neA, ltA, aC, aB, aA, Km3]) (by omega) (fun m4 hm4 => ?_))
        have im4 : id < m4 := by omega
        have Km4 := nfc Km3 hm4
        simp -implicitDefEqProofs (maxDischargeDepth := 80) [hl, hi, neC hi, neA, ltA, aC, aB, aA, Km4, a1, a2]
        refine aD ((cnm) (by simp -implicitDefEqProofs (maxDischargeDepth := 80) [hl, hi, neC hi, neA, ltA, aC, aB, aA, Km4]) (by omega) (fun m7 hm7 => ?_))
        have im7 : id < m7 := by omega
        have Km7 := nfc Km4 hm7
        simp -implicitDefEqProofs (maxDischargeDepth := 80) [hl, hi, neC hi, neA, ltA, aC, aB, aA, Km7]
        refine aD ((cty) (by simp -implicitDefEqProofs (maxDischargeDepth := 80) [hl, hi, neC hi, neA, ltA, aC, aB, aA, Km7]) (by omega) (fun m8 hm8 => ?_))
        have im8 : id < m8 := by omega
        have Km8 := nfc Km7 hm8
        simp -implicitDefEqProofs (maxDischargeDepth := 80) [hl, hi, neC hi, neA, ltA, aC, aB, aA, Km8]
        have hap := rB l ⟨x.text, t, x.at'⟩
        refine ⟨by omega, aK (f, l ++ [⟨x.text, t, x.at'⟩], q) ⟨by omega, by simp only [List.length_append, List.length_cons, List.length_nil]; omega, kq, hrun⟩ (by simp only; omega) (by simp) ?_⟩
        simp only [] at hap
        rw [hap]
        simp only [List.length_append, List.length_cons, List.length_nil, Nat.zero_add]
        exact (by repeat (first | exact aL _ | refine aQ ?_ (by simp only [look]; repeat (first | rw [if_neg (by omega)] | exact aF (hfr _ (by omega)) | exact hfr _ (by omega)))))
      ·rw [if_neg (fun h => a1 h.2.1)] at hpf
       subst hpf
       simp -implicitDefEqProofs (maxDischargeDepth := 80) [lb59_0, hl, hi, neC hi, neA, ltA, aC, aB, aA, KF3]
       refine aD ((ci) (by simp -implicitDefEqProofs (maxDischargeDepth := 80) [hl, hi, neC hi, neA, ltA, aC, aB, aA, KF3]) (by omega) (fun m2 hm2 => ?_))
       have im2 : id < m2 := by omega
       have Km2 := nfc KF3 hm2
       simp -implicitDefEqProofs (maxDischargeDepth := 80) [hl, hi, neC hi, neA, ltA, aC, aB, aA, Km2, hpos]
       refine aD ((cw) (by simp -implicitDefEqProofs (maxDischargeDepth := 80) [hl, hi, neC hi, neA, ltA, aC, aB, aA, Km2]) (by omega) (fun m3 hm3 => ?_))
       have im3 : id < m3 := by omega
       have Km3 := nfc Km2 hm3
       simp -implicitDefEqProofs (maxDischargeDepth := 80) [hl, hi, neC hi, neA, ltA, aC, aB, aA, Km3, a0]
       refine aD ((cnx) (by simp -implicitDefEqProofs (maxDischargeDepth := 80) [hl, hi, neC hi, neA, ltA, aC, aB, aA, Km3]) (by omega) (fun m4 hm4 => ?_))
       have im4 : id < m4 := by omega
       have Km4 := nfc Km3 hm4
       simp -implicitDefEqProofs (maxDischargeDepth := 80) [hl, hi, neC hi, neA, ltA, aC, aB, aA, Km4, a1]
       refine aD ((cnm) (by simp -implicitDefEqProofs (maxDischargeDepth := 80) [hl, hi, neC hi, neA, ltA, aC, aB, aA, Km4]) (by omega) (fun m7 hm7 => ?_))
       have im7 : id < m7 := by omega
       have Km7 := nfc Km4 hm7
       simp -implicitDefEqProofs (maxDischargeDepth := 80) [hl, hi, neC hi, neA, ltA, aC, aB, aA, Km7]
       refine aD ((cty) (by simp -implicitDefEqProofs (maxDischargeDepth := 80) [hl, hi, neC hi, neA, ltA, aC, aB, aA, Km7]) (by omega) (fun m8 hm8 => ?_))
       have im8 : id < m8 := by omega
       have Km8 := nfc Km7 hm8
       simp -implicitDefEqProofs (maxDischargeDepth := 80) [hl, hi, neC hi, neA, ltA, aC, aB, aA, Km8]
       have hap := rB l ⟨x.text, t, x.at'⟩
       refine ⟨by omega, aK (f, l ++ [⟨x.text, t, x.at'⟩], q) ⟨by omega, by simp only [List.length_append, List.length_cons, List.length_nil]; omega, kq, hrun⟩ (by simp only; omega) (by simp) ?_⟩
       simp only [] at hap
       rw [hap]
       simp only [List.length_append, List.length_cons, List.length_nil, Nat.zero_add]
       exact (by repeat (first | exact aL _ | refine aQ ?_ (by simp only [look]; repeat (first | rw [if_neg (by omega)] | exact aF (hfr _ (by omega)) | exact hfr _ (by omega)))))
     ·rw [if_neg (fun h => a0 h.1)] at hpf
      subst hpf
      simp -implicitDefEqProofs (maxDischargeDepth := 80) [lb59_0, hl, hi, neC hi, neA, ltA, aC, aB, aA, KF1]
      refine aD ((ci) (by simp -implicitDefEqProofs (maxDischargeDepth := 80) [hl, hi, neC hi, neA, ltA, aC, aB, aA, KF1]) (by omega) (fun m2 hm2 => ?_))
      have im2 : id < m2 := by omega
      have Km2 := nfc KF1 hm2
      simp -implicitDefEqProofs (maxDischargeDepth := 80) [hl, hi, neC hi, neA, ltA, aC, aB, aA, Km2, hpos]
      refine aD ((cw) (by simp -implicitDefEqProofs (maxDischargeDepth := 80) [hl, hi, neC hi, neA, ltA, aC, aB, aA, Km2]) (by omega) (fun m3 hm3 => ?_))
      have im3 : id < m3 := by omega
      have Km3 := nfc Km2 hm3
      simp -implicitDefEqProofs (maxDischargeDepth := 80) [hl, hi, neC hi, neA, ltA, aC, aB, aA, Km3, a0]
      refine aD ((cnm) (by simp -implicitDefEqProofs (maxDischargeDepth := 80) [hl, hi, neC hi, neA, ltA, aC, aB, aA, Km3]) (by omega) (fun m7 hm7 => ?_))
      have im7 : id < m7 := by omega
      have Km7 := nfc Km3 hm7
      simp -implicitDefEqProofs (maxDischargeDepth := 80) [hl, hi, neC hi, neA, ltA, aC, aB, aA, Km7]
      refine aD ((cty) (by simp -implicitDefEqProofs (maxDischargeDepth := 80) [hl, hi, neC hi, neA, ltA, aC, aB, aA, Km7]) (by omega) (fun m8 hm8 => ?_))
      have im8 : id < m8 := by omega
      have Km8 := nfc Km7 hm8
      simp -implicitDefEqProofs (maxDischargeDepth := 80) [hl, hi, neC hi, neA, ltA, aC, aB, aA, Km8]
      have hap := rB l ⟨x.text, t, x.at'⟩
      refine ⟨by omega, aK (f, l ++ [⟨x.text, t, x.at'⟩], q) ⟨by omega, by simp only [List.length_append, List.length_cons, List.length_nil]; omega, kq, hrun⟩ (by simp only; omega) (by simp) ?_⟩
      simp only [] at hap
      rw [hap]
      simp only [List.length_append, List.length_cons, List.length_nil, Nat.zero_add]
      exact (by repeat (first | exact aL _ | refine aQ ?_ (by simp only [look]; repeat (first | rw [if_neg (by omega)] | exact aF (hfr _ (by omega)) | exact hfr _ (by omega)))))
   ·rw [if_neg (by simp [hi2])] at hrun
    simp only [Option.some.injEq, Prod.mk.injEq] at hrun
    obtain ⟨rfl, rfl⟩ := hrun
    simp [aC, aB, g1] at hq
    simp -implicitDefEqProofs (maxDischargeDepth := 80) [lb59_0, hl, hi, neC hi, neA, ltA, aC, aB, aA, KF1]
    refine aD ((ci) (by simp -implicitDefEqProofs (maxDischargeDepth := 80) [hl, hi, neC hi, neA, ltA, aC, aB, aA, KF1]) (by omega) (fun m2 hm2 => ?_))
    have im2 : id < m2 := by omega
    have Km2 := nfc KF1 hm2
    simp -implicitDefEqProofs (maxDischargeDepth := 80) [hl, hi, neC hi, neA, ltA, aC, aB, aA, Km2]
    exact hq _ (by omega)
  ·rw [if_neg (by simp [g1])] at hrun
   simp only [Option.some.injEq, Prod.mk.injEq] at hrun
   obtain ⟨rfl, rfl⟩ := hrun
   simp [aC, aB] at hq
   simp -implicitDefEqProofs (maxDischargeDepth := 80) [lb59_0, hl, hi, neC hi, neA, ltA, aC, aB, aA, K7, g1]
   exact hq _ (by omega)
theorem def_s {n : Nat} (hN : n ≤ 2 ^ 40) (r : Rd) (h : r.ok) (cnt : Nat) (f : Fn) (r' : Rd) (hrun : iG n r cnt = some (f, r')) :
  r'.ok ∧ RC 59 [I cnt] r r' (.agg (a_ f)) := by
 unfold iG at hrun
 have kdf := ok_df h cnt
 have cdf : RC0 58 [] r (.agg (aB r.next)) := fG h
 have cff := kY h 22
 have w1 := l_ kdf
 have k1 := Rd.ok_name kdf
 have w2 := dI k1 [40]
 have k2 := Rd.ok_want k1 [40]
 have hdf : df r cnt = if r.next.kind = 0 ∧ r.lF ≤ (cnt : Int) then r.fail 22 else r := rfl
 generalize df r cnt = s0 at *
 generalize s0.name.1 = nm at *
 generalize s0.name.2 = s1 at *
 generalize s1.want [40] = s2 at *
 cases hp : b8 n [] s2 with
 | none => rw [hp] at hrun; simp at hrun
 | some q =>
  obtain ⟨ps, r4⟩ := q
  rw [hp] at hrun
  simp only [Option.bind_some, Option.map_eq_some_iff, Prod.mk.injEq] at hrun
  obtain ⟨⟨body, r9⟩, hb, rfl, rfl⟩ := hrun
  have k4 := qU n [] s2 ps r4 k2 hp
  have w3 := dI k4 [41]
  have k5 := Rd.ok_want k4 [41]
  have w4 := dI k5 [58]
  have k6 := Rd.ok_want k5 [58]
  have w5 := qY k6
  have k7 := Rd.ok_typ k6
  have w6 := dI k7 [61]
  have k8 := Rd.ok_want k7 [61]
  generalize r4.want [41] = s5 at *
  generalize s5.want [58] = s6 at *
  generalize s6.typ.1 = ty at *
  generalize s6.typ.2 = s7 at *
  generalize s7.want [61] = s8 at *
  obtain ⟨k9, _, w7⟩ := C4 hN k8 hb
  have w8 := dI k9 [59]
  have k10 := Rd.ok_want k9 [59]
  generalize r9.want [59] = s10 at *
  refine ⟨k10, ?_⟩
  intro id mem nx K hl hi hk
  simp only [aN] at hk
  simp only [aA] at w7
  simp only [aB] at w1 cdf
  refine bA ?_
  refine fi59.ct (by simp) fun hfr => ?_
  by_cases g0 : r.next.kind = 0
  ·by_cases g1 : r.lF ≤ (cnt : Int)
   ·rw [if_pos ⟨g0, g1⟩] at hdf
    subst hdf
    simp -implicitDefEqProofs (maxDischargeDepth := 80) [ac59, hl, hi, neC hi, neA, ltA, aC, aB, aA]
    refine aD ((cdf) (by simp -implicitDefEqProofs (maxDischargeDepth := 80) [hl, hi, neC hi, neA, ltA, aC, aB, aA]) (by omega) (fun m1 hm1 => ?_))
    have im1 : id < m1 := by omega
    have Km1 := nfc trivial hm1
    simp -implicitDefEqProofs (maxDischargeDepth := 80) [hl, hi, neC hi, neA, ltA, aC, aB, aA, Km1, g0, g1]
    refine aD ((cff) (by simp -implicitDefEqProofs (maxDischargeDepth := 80) [hl, hi, neC hi, neA, ltA, aC, aB, aA, Km1]) (by omega) (fun m2 hm2 => ?_))
    have im2 : id < m2 := by omega
    have Km2 := nfc Km1 hm2
    simp -implicitDefEqProofs (maxDischargeDepth := 80) [hl, hi, neC hi, neA, ltA, aC, aB, aA, Km2]
    refine aD ((w1) (by simp -implicitDefEqProofs (maxDischargeDepth := 80) [hl, hi, neC hi, neA, ltA, aC, aB, aA, Km2]) (by omega) (fun m3 hm3 => ?_))
    have im3 : id < m3 := by omega
    have Km3 := nfc Km2 hm3
    simp -implicitDefEqProofs (maxDischargeDepth := 80) [hl, hi, neC hi, neA, ltA, aC, aB, aA, Km3]
    refine aD ((w2) (by simp -implicitDefEqProofs (maxDischargeDepth := 80) [hl, hi, neC hi, neA, ltA, aC, aB, aA, Km3]) (by omega) (fun m4 hm4 => ?_))
    have im4 : id < m4 := by omega
    have Km4 := nfc Km3 hm4
    simp -implicitDefEqProofs (maxDischargeDepth := 80) [hl, hi, neC hi, neA, ltA, aC, aB, aA, Km4]
    refine lV (b5 := m2 + 2) (b6 := m3 + 5) (M := m4) (nm := nm) (mem := mem) hN hl hi (by omega) (by omega) (by omega) hfr k2 hp _ (fun m hm => ?_)
    have Km := nfc Km4 hm
    simp -implicitDefEqProofs (maxDischargeDepth := 80) [hl, hi, neC hi, neA, ltA, aC, aB, aA, Km]
    refine aD ((w3) (by simp -implicitDefEqProofs (maxDischargeDepth := 80) [hl, hi, neC hi, neA, ltA, aC, aB, aA, Km]) (by omega) (fun m5 hm5 => ?_))
    have im5 : id < m5 := by omega
    have Km5 := nfc Km hm5
    simp -implicitDefEqProofs (maxDischargeDepth := 80) [hl, hi, neC hi, neA, ltA, aC, aB, aA, Km5]
    refine aD ((w4) (by simp -implicitDefEqProofs (maxDischargeDepth := 80) [hl, hi, neC hi, neA, ltA, aC, aB, aA, Km5]) (by omega) (fun m6 hm6 => ?_))
    have im6 : id < m6 := by omega
    have Km6 := nfc Km5 hm6
    simp -implicitDefEqProofs (maxDischargeDepth := 80) [hl, hi, neC hi, neA, ltA, aC, aB, aA, Km6]
    refine aD ((w5) (by simp -implicitDefEqProofs (maxDischargeDepth := 80) [hl, hi, neC hi, neA, ltA, aC, aB, aA, Km6]) (by omega) (fun m7 hm7 => ?_))
    have im7 : id < m7 := by omega
    have Km7 := nfc Km6 hm7
    simp -implicitDefEqProofs (maxDischargeDepth := 80) [hl, hi, neC hi, neA, ltA, aC, aB, aA, Km7]
    refine aD ((w6) (by simp -implicitDefEqProofs (maxDischargeDepth := 80) [hl, hi, neC hi, neA, ltA, aC, aB, aA, Km7]) (by omega) (fun m8 hm8 => ?_))
    have im8 : id < m8 := by omega
    have Km8 := nfc Km7 hm8
    simp -implicitDefEqProofs (maxDischargeDepth := 80) [hl, hi, neC hi, neA, ltA, aC, aB, aA, Km8]
    refine aD ((w7) (by simp -implicitDefEqProofs (maxDischargeDepth := 80) [hl, hi, neC hi, neA, ltA, aC, aB, aA, Km8]) (by omega) (fun m9 hm9 => ?_))
    have im9 : id < m9 := by omega
    have Km9 := nfc Km8 hm9
    simp -implicitDefEqProofs (maxDischargeDepth := 80) [hl, hi, neC hi, neA, ltA, aC, aB, aA, Km9]
    refine aD ((w8) (by simp -implicitDefEqProofs (maxDischargeDepth := 80) [hl, hi, neC hi, neA, ltA, aC, aB, aA, Km9]) (by omega) (fun m10 hm10 => ?_))
    have im10 : id < m10 := by omega
    have Km10 := nfc Km9 hm10
    simp -implicitDefEqProofs (maxDischargeDepth := 80) [hl, hi, neC hi, neA, ltA, aC, aB, aA, Km10]
    exact lR m4 _ (by simp -implicitDefEqProofs (maxDischargeDepth := 80) [hl, hi, neC hi, neA, ltA, aC, aB, aA, Km10]; rfl) (by repeat (first | exact aG _ | refine aE ?_ (aF (hfr _ (by omega))) | refine aE ?_ (hfr _ (by omega)))) (aF (hfr _ (by omega))) (by simp [frz, look, List.take_of_length_le]) (hk _ (by omega))
   ·rw [if_neg (fun h => g1 h.2)] at hdf
    subst hdf
    simp -implicitDefEqProofs (maxDischargeDepth := 80) [ac59, hl, hi, neC hi, neA, ltA, aC, aB, aA]
    refine aD ((cdf) (by simp -implicitDefEqProofs (maxDischargeDepth := 80) [hl, hi, neC hi, neA, ltA, aC, aB, aA]) (by omega) (fun m1 hm1 => ?_))
    have im1 : id < m1 := by omega
    have Km1 := nfc trivial hm1
    simp -implicitDefEqProofs (maxDischargeDepth := 80) [hl, hi, neC hi, neA, ltA, aC, aB, aA, Km1, g0, g1]
    refine aD ((w1) (by simp -implicitDefEqProofs (maxDischargeDepth := 80) [hl, hi, neC hi, neA, ltA, aC, aB, aA, Km1]) (by omega) (fun m3 hm3 => ?_))
    have im3 : id < m3 := by omega
    have Km3 := nfc Km1 hm3
    simp -implicitDefEqProofs (maxDischargeDepth := 80) [hl, hi, neC hi, neA, ltA, aC, aB, aA, Km3]
    refine aD ((w2) (by simp -implicitDefEqProofs (maxDischargeDepth := 80) [hl, hi, neC hi, neA, ltA, aC, aB, aA, Km3]) (by omega) (fun m4 hm4 => ?_))
    have im4 : id < m4 := by omega
    have Km4 := nfc Km3 hm4
    simp -implicitDefEqProofs (maxDischargeDepth := 80) [hl, hi, neC hi, neA, ltA, aC, aB, aA, Km4]
    refine lV (b5 := m1 + 2) (b6 := m3 + 5) (M := m4) (nm := nm) (mem := mem) hN hl hi (by omega) (by omega) (by omega) hfr k2 hp _ (fun m hm => ?_)
    have Km := nfc Km4 hm
    simp -implicitDefEqProofs (maxDischargeDepth := 80) [hl, hi, neC hi, neA, ltA, aC, aB, aA, Km]
    refine aD ((w3) (by simp -implicitDefEqProofs (maxDischargeDepth := 80) [hl, hi, neC hi, neA, ltA, aC, aB, aA, Km]) (by omega) (fun m5 hm5 => ?_))
    have im5 : id < m5 := by omega
    have Km5 := nfc Km hm5
    simp -implicitDefEqProofs (maxDischargeDepth := 80) [hl, hi, neC hi, neA, ltA, aC, aB, aA, Km5]
    refine aD ((w4) (by simp -implicitDefEqProofs (maxDischargeDepth := 80) [hl, hi, neC hi, neA, ltA, aC, aB, aA, Km5]) (by omega) (fun m6 hm6 => ?_))
    have im6 : id < m6 := by omega
    have Km6 := nfc Km5 hm6
    simp -implicitDefEqProofs (maxDischargeDepth := 80) [hl, hi, neC hi, neA, ltA, aC, aB, aA, Km6]
    refine aD ((w5) (by simp -implicitDefEqProofs (maxDischargeDepth := 80) [hl, hi, neC hi, neA, ltA, aC, aB, aA, Km6]) (by omega) (fun m7 hm7 => ?_))
    have im7 : id < m7 := by omega
    have Km7 := nfc Km6 hm7
    simp -implicitDefEqProofs (maxDischargeDepth := 80) [hl, hi, neC hi, neA, ltA, aC, aB, aA, Km7]
    refine aD ((w6) (by simp -implicitDefEqProofs (maxDischargeDepth := 80) [hl, hi, neC hi, neA, ltA, aC, aB, aA, Km7]) (by omega) (fun m8 hm8 => ?_))
    have im8 : id < m8 := by omega
    have Km8 := nfc Km7 hm8
    simp -implicitDefEqProofs (maxDischargeDepth := 80) [hl, hi, neC hi, neA, ltA, aC, aB, aA, Km8]
    refine aD ((w7) (by simp -implicitDefEqProofs (maxDischargeDepth := 80) [hl, hi, neC hi, neA, ltA, aC, aB, aA, Km8]) (by omega) (fun m9 hm9 => ?_))
    have im9 : id < m9 := by omega
    have Km9 := nfc Km8 hm9
    simp -implicitDefEqProofs (maxDischargeDepth := 80) [hl, hi, neC hi, neA, ltA, aC, aB, aA, Km9]
    refine aD ((w8) (by simp -implicitDefEqProofs (maxDischargeDepth := 80) [hl, hi, neC hi, neA, ltA, aC, aB, aA, Km9]) (by omega) (fun m10 hm10 => ?_))
    have im10 : id < m10 := by omega
    have Km10 := nfc Km9 hm10
    simp -implicitDefEqProofs (maxDischargeDepth := 80) [hl, hi, neC hi, neA, ltA, aC, aB, aA, Km10]
    exact lR m4 _ (by simp -implicitDefEqProofs (maxDischargeDepth := 80) [hl, hi, neC hi, neA, ltA, aC, aB, aA, Km10]; rfl) (by repeat (first | exact aG _ | refine aE ?_ (aF (hfr _ (by omega))) | refine aE ?_ (hfr _ (by omega)))) (aF (hfr _ (by omega))) (by simp [frz, look, List.take_of_length_le]) (hk _ (by omega))
  ·rw [if_neg (fun h => g0 h.1)] at hdf
   subst hdf
   simp -implicitDefEqProofs (maxDischargeDepth := 80) [ac59, hl, hi, neC hi, neA, ltA, aC, aB, aA]
   refine aD ((cdf) (by simp -implicitDefEqProofs (maxDischargeDepth := 80) [hl, hi, neC hi, neA, ltA, aC, aB, aA]) (by omega) (fun m1 hm1 => ?_))
   have im1 : id < m1 := by omega
   have Km1 := nfc trivial hm1
   simp -implicitDefEqProofs (maxDischargeDepth := 80) [hl, hi, neC hi, neA, ltA, aC, aB, aA, Km1, g0]
   refine aD ((w1) (by simp -implicitDefEqProofs (maxDischargeDepth := 80) [hl, hi, neC hi, neA, ltA, aC, aB, aA, Km1]) (by omega) (fun m3 hm3 => ?_))
   have im3 : id < m3 := by omega
   have Km3 := nfc Km1 hm3
   simp -implicitDefEqProofs (maxDischargeDepth := 80) [hl, hi, neC hi, neA, ltA, aC, aB, aA, Km3]
   refine aD ((w2) (by simp -implicitDefEqProofs (maxDischargeDepth := 80) [hl, hi, neC hi, neA, ltA, aC, aB, aA, Km3]) (by omega) (fun m4 hm4 => ?_))
   have im4 : id < m4 := by omega
   have Km4 := nfc Km3 hm4
   simp -implicitDefEqProofs (maxDischargeDepth := 80) [hl, hi, neC hi, neA, ltA, aC, aB, aA, Km4]
   refine lV (b5 := m1 + 2) (b6 := m3 + 5) (M := m4) (nm := nm) (mem := mem) hN hl hi (by omega) (by omega) (by omega) hfr k2 hp _ (fun m hm => ?_)
   have Km := nfc Km4 hm
   simp -implicitDefEqProofs (maxDischargeDepth := 80) [hl, hi, neC hi, neA, ltA, aC, aB, aA, Km]
   refine aD ((w3) (by simp -implicitDefEqProofs (maxDischargeDepth := 80) [hl, hi, neC hi, neA, ltA, aC, aB, aA, Km]) (by omega) (fun m5 hm5 => ?_))
   have im5 : id < m5 := by omega
   have Km5 := nfc Km hm5
   simp -implicitDefEqProofs (maxDischargeDepth := 80) [hl, hi, neC hi, neA, ltA, aC, aB, aA, Km5]
   refine aD ((w4) (by simp -implicitDefEqProofs (maxDischargeDepth := 80) [hl, hi, neC hi, neA, ltA, aC, aB, aA, Km5]) (by omega) (fun m6 hm6 => ?_))
   have im6 : id < m6 := by omega
   have Km6 := nfc Km5 hm6
   simp -implicitDefEqProofs (maxDischargeDepth := 80) [hl, hi, neC hi, neA, ltA, aC, aB, aA, Km6]
   refine aD ((w5) (by simp -implicitDefEqProofs (maxDischargeDepth := 80) [hl, hi, neC hi, neA, ltA, aC, aB, aA, Km6]) (by omega) (fun m7 hm7 => ?_))
   have im7 : id < m7 := by omega
   have Km7 := nfc Km6 hm7
   simp -implicitDefEqProofs (maxDischargeDepth := 80) [hl, hi, neC hi, neA, ltA, aC, aB, aA, Km7]
   refine aD ((w6) (by simp -implicitDefEqProofs (maxDischargeDepth := 80) [hl, hi, neC hi, neA, ltA, aC, aB, aA, Km7]) (by omega) (fun m8 hm8 => ?_))
   have im8 : id < m8 := by omega
   have Km8 := nfc Km7 hm8
   simp -implicitDefEqProofs (maxDischargeDepth := 80) [hl, hi, neC hi, neA, ltA, aC, aB, aA, Km8]
   refine aD ((w7) (by simp -implicitDefEqProofs (maxDischargeDepth := 80) [hl, hi, neC hi, neA, ltA, aC, aB, aA, Km8]) (by omega) (fun m9 hm9 => ?_))
   have im9 : id < m9 := by omega
   have Km9 := nfc Km8 hm9
   simp -implicitDefEqProofs (maxDischargeDepth := 80) [hl, hi, neC hi, neA, ltA, aC, aB, aA, Km9]
   refine aD ((w8) (by simp -implicitDefEqProofs (maxDischargeDepth := 80) [hl, hi, neC hi, neA, ltA, aC, aB, aA, Km9]) (by omega) (fun m10 hm10 => ?_))
   have im10 : id < m10 := by omega
   have Km10 := nfc Km9 hm10
   simp -implicitDefEqProofs (maxDischargeDepth := 80) [hl, hi, neC hi, neA, ltA, aC, aB, aA, Km10]
   exact lR m4 _ (by simp -implicitDefEqProofs (maxDischargeDepth := 80) [hl, hi, neC hi, neA, ltA, aC, aB, aA, Km10]; rfl) (by repeat (first | exact aG _ | refine aE ?_ (aF (hfr _ (by omega))) | refine aE ?_ (hfr _ (by omega)))) (aF (hfr _ (by omega))) (by simp [frz, look, List.take_of_length_le]) (hk _ (by omega))
theorem B6 {n : Nat} (hN : n ≤ 2 ^ 40) (r : Rd) (h : r.ok) (L : List Fn) (r' : Rd) (hp : c7 n [] r = some (L, r')) : RC 45 [] r r' (.agg [.sl (em a_ L)]) := by
 intro id mem nx K hl hi hk
 refine bA ?_
 refine fi45.ct (by simp) fun hfr => ?_
 simp -implicitDefEqProofs (maxDischargeDepth := 80) [ac45, hl, hi, neC hi, neA, ltA, aC, aB, aA]
 refine l6 (id := nx + 1) (off := 0) (k := 11) (by rw [a7, if_pos rfl]) rfl (.inl rfl) ?_
 refine lpG cf45 lb45_0 [4] (α := Nat × List Fn × Rd) (fun _ _ => []) (fun s _ => (nx + 1 + 1, .arr s.2.1.length 11 (em a_ s.2.1)) :: (nx + 1, .box [.osl (nx + 1 + 1) s.2.1.length 0 s.2.1.length]) :: (nx, .box [.pl (.slice none 0 0)]) :: upd mem id (.box (aC s.2.2)))
  (fun s m => nx + 1 + 2 ≤ m ∧ s.1 + s.2.1.length ≤ n ∧ s.2.2.ok ∧ c7 s.1 s.2.1 s.2.2 = some (L, r')) (fun s => s.1) (n, [], r) ⟨by omega, by simp, h, hp⟩ (by simp) (by simp [c8 hl]) ?_
 rintro ⟨f, l, y⟩ m ⟨hm, hf, hy, hrun⟩
 have Km := nfc trivial hm
 simp only at hf hy hrun
 cases f with
 | zero => simp [c7] at hrun
 | succ f =>
  unfold c7 at hrun
  have cnx := fG hy
  simp only [aB] at cnx
  have go : (y.why = 0 ∧ (l = [] ∨ y.next.kind ≠ 4)) → ∃ d q, iG f y l.length = some (d, q) ∧ c7 f (l ++ [d]) q = some (L, r') ∧ q.ok ∧ RC 59 [I l.length] y q (.agg (a_ d)) := fun hc => by
   rw [if_pos hc] at hrun
   cases hd : iG f y l.length with
   | none => rw [hd] at hrun; simp at hrun
   | some p =>
    rw [hd] at hrun
    obtain ⟨k1, k2⟩ := def_s (by omega) y hy _ p.1 p.2 hd
    exact ⟨p.1, p.2, rfl, hrun, k1, k2⟩
  have stop : ¬ (y.why = 0 ∧ (l = [] ∨ y.next.kind ≠ 4)) → l = L ∧ y = r' := fun hc => by
   rw [if_neg hc] at hrun
   simpa using hrun
  by_cases g1 : y.why = 0
  ·have hu := g1
   have KF1 := And.intro Km (g1)
   by_cases h0 : l = []
   ·obtain ⟨d, q, _, hrun2, kq, cd⟩ := go ⟨g1, .inl h0⟩
    subst h0
    have hap := AY [] d
    simp only [aN, List.length_nil] at cd
    simp -implicitDefEqProofs (maxDischargeDepth := 80) [lb45_0, hl, hi, neC hi, neA, ltA, aC, aB, aA, KF1]
    refine aD ((cd) (by simp -implicitDefEqProofs (maxDischargeDepth := 80) [hl, hi, neC hi, neA, ltA, aC, aB, aA, KF1]) (by omega) (fun m2 hm2 => ?_))
    have im2 : id < m2 := by omega
    have Km2 := nfc KF1 hm2
    simp -implicitDefEqProofs (maxDischargeDepth := 80) [hl, hi, neC hi, neA, ltA, aC, aB, aA, Km2]
    refine aK (f, [d], q) ⟨by omega, by simp only [List.length_nil, List.length_cons] at hf ⊢; omega, kq, hrun2⟩ (by simp only; omega) (by simp) ?_
    simp only [em_1, aN, List.length_cons, List.length_nil, Nat.zero_add]
    exact (by repeat (first | exact aL _ | refine aQ ?_ (by simp only [look]; repeat (first | rw [if_neg (by omega)] | exact aF (hfr _ (by omega)) | exact hfr _ (by omega)))))
   ·have hpos := List.length_pos_iff.2 h0
    by_cases g2 : y.next.kind = 4
    ·obtain ⟨rfl, rfl⟩ := stop (by simp [h0, g2])
     simp only [aC, g1] at hk
     simp -implicitDefEqProofs (maxDischargeDepth := 80) [lb45_0, hl, hi, neC hi, neA, ltA, aC, aB, aA, KF1, h0]
     refine aD ((cnx) (by simp -implicitDefEqProofs (maxDischargeDepth := 80) [hl, hi, neC hi, neA, ltA, aC, aB, aA, KF1]) (by omega) (fun m2 hm2 => ?_))
     have im2 : id < m2 := by omega
     have Km2 := nfc KF1 hm2
     simp -implicitDefEqProofs (maxDischargeDepth := 80) [hl, hi, neC hi, neA, ltA, aC, aB, aA, Km2, g2]
     exact lR (nx + 1 + 1) _ (by simp -implicitDefEqProofs (maxDischargeDepth := 80) [hl, hi, neC hi, neA, ltA, aC, aB, aA, Km2]; rfl) (by repeat (first | exact aG _ | refine aE ?_ (aF (hfr _ (by omega))) | refine aE ?_ (hfr _ (by omega)))) (aF (hfr _ (by omega))) (by simp [frz, look, List.take_of_length_le]) (hk _ (by omega))
    ·obtain ⟨d, q, _, hrun2, kq, cd⟩ := go ⟨g1, .inr g2⟩
     have hap := AY l d
     simp only [aN] at cd
     rw [aN d] at hap
     simp -implicitDefEqProofs (maxDischargeDepth := 80) [lb45_0, hl, hi, neC hi, neA, ltA, aC, aB, aA, KF1, h0]
     refine aD ((cnx) (by simp -implicitDefEqProofs (maxDischargeDepth := 80) [hl, hi, neC hi, neA, ltA, aC, aB, aA, KF1]) (by omega) (fun m2 hm2 => ?_))
     have im2 : id < m2 := by omega
     have Km2 := nfc KF1 hm2
     simp -implicitDefEqProofs (maxDischargeDepth := 80) [hl, hi, neC hi, neA, ltA, aC, aB, aA, Km2, g2]
     refine aD ((cd) (by simp -implicitDefEqProofs (maxDischargeDepth := 80) [hl, hi, neC hi, neA, ltA, aC, aB, aA, Km2]) (by omega) (fun m3 hm3 => ?_))
     have im3 : id < m3 := by omega
     have Km3 := nfc Km2 hm3
     simp -implicitDefEqProofs (maxDischargeDepth := 80) [hl, hi, neC hi, neA, ltA, aC, aB, aA, Km3]
     refine ⟨by omega, aK (f, l ++ [d], q) ⟨by omega, by simp only [List.length_append, List.length_cons, List.length_nil]; omega, kq, hrun2⟩ (by simp only; omega) (by simp) ?_⟩
     rw [hap]
     simp only [List.length_append, List.length_cons, List.length_nil, Nat.zero_add]
     exact (by repeat (first | exact aL _ | refine aQ ?_ (by simp only [look]; repeat (first | rw [if_neg (by omega)] | exact aF (hfr _ (by omega)) | exact hfr _ (by omega)))))
  ·obtain ⟨rfl, rfl⟩ := stop (by simp [g1])
   simp -implicitDefEqProofs (maxDischargeDepth := 80) [lb45_0, hl, hi, neC hi, neA, ltA, aC, aB, aA, Km, g1]
   exact lR (nx + 1 + 1) _ (by simp -implicitDefEqProofs (maxDischargeDepth := 80) [hl, hi, neC hi, neA, ltA, aC, aB, aA, Km]; rfl) (by repeat (first | exact aG _ | refine aE ?_ (aF (hfr _ (by omega))) | refine aE ?_ (hfr _ (by omega)))) (aF (hfr _ (by omega))) (by simp [frz, look, List.take_of_length_le]) (hk _ (by omega))
def rd0 (t : List UInt8) (lt lF lA lN : Int) : Rd := ⟨(c6 t).1, 0, 0, 0, lt, lF, lA, lN, 0⟩
abbrev limD (a b c d : Int) : D := .agg [I a, I b, I c, I d]
abbrev resD (l : List Fn) (w p : Int) : D := .tup [.agg [.sl (em a_ l)], .agg [I w, I p]]
theorem wide_c : Pure Tryz.prog 23 [] (limD 32768 32768 32768 32768) := by
 refine fi23.pu (by simp) ?_
 simp -implicitDefEqProofs [ac23]
theorem uJ {t : List UInt8} {lt lF lA lN : Int} (ht : t.length ≤ 2 ^ 20) (hm : (c6 t).2 < 0) (hN : lN ≤ 2 ^ 40) : (rd0 t lt lF lA lN).ok := by
 have h := lE (t.length + 1) t 0 [] hm
 have hl := kE (t.length + 1) t 0 [] (by omega) (by simp)
 exact ⟨h, h.1, by show (c6 t).1.length ≤ 2 ^ 21; unfold c6; omega, by show (0 : Int) ≤ 0; omega, by show (0 : Int) ≤ 2 ^ 40; omega, hN⟩
theorem mm32 : min (max (32768 : Int) 0) 32768 = 32768 := by decide
theorem CZ (t : List UInt8) (ht : t.length < 2 ^ 48) (h : 32768 < t.length) : Pure Tryz.prog 22 [.sl (em dB t), limD 32768 32768 32768 32768] (resD [] 22 32768) := by
 refine fi22.pu (by simp) ?_
 have h1 : (32768 : Int) < t.length := by omega
 simp -implicitDefEqProofs [ac22, mm32, h1]
theorem DF (t : List UInt8) (ht : t.length ≤ 32768) (hm : ¬ (c6 t).2 < 0) : Pure Tryz.prog 22 [.sl (em dB t), limD 32768 32768 32768 32768] (resD [] 20 (c6 t).2) := by
 refine fi22.pu (by simp) ?_
 have h1 : ¬ (32768 : Int) < t.length := by omega
 have h2 : (0 : Int) ≤ (c6 t).2 := by omega
 have hc := yE t (by omega)
 simp -implicitDefEqProofs [ac22, mm32, h1]
 refine aH (hc) (by simp) ?_
 simp -implicitDefEqProofs [h2]
theorem u3 (t : List UInt8) (ht : t.length ≤ 32768) (hm : (c6 t).2 < 0) {n : Nat} (hN : n ≤ 2 ^ 40) {L : List Fn} {r : Rd} (hp : c7 n [] (rd0 t 32768 32768 32768 32768) = some (L, r)) :
  Pure Tryz.prog 22 [.sl (em dB t), limD 32768 32768 32768 32768] (if r.why = 0 then resD L 0 0 else resD [] r.why r.wh) := by
 have h1 : ¬ (32768 : Int) < t.length := by omega
 have h2 : ¬ (0 : Int) ≤ (c6 t).2 := by omega
 have hc := yE t (by omega)
 have hpr := B6 hN _ (uJ (by omega) hm (by omega)) L r hp
 refine fi22.pu (by simp) ?_
 simp -implicitDefEqProofs [ac22, mm32, h1]
 refine aH (hc) (by simp) ?_
 simp -implicitDefEqProofs [h2]
 refine aD (hpr (by simp [look, aC, rd0]) (by omega) (fun m1 hm1 => ?_))
 by_cases hw : r.why = 0
 ·simp -implicitDefEqProofs [hw, aC]
 ·simp -implicitDefEqProofs [hw, aC]
def rem (r : Rd) : Nat := if r.why = 0 then r.ms.length - r.at' else 0
theorem kQ {r : Rd} (h : r.why ≠ 0) : rem r = 0 := by unfold rem; rw [if_neg h]
theorem kK {r : Rd} (h : r.ok) (h0 : r.why = 0) : 1 ≤ rem r := by
 have := h.lt
 unfold rem; rw [if_pos h0]; omega
theorem kI {r : Rd} (h : r.ok) (h0 : r.why = 0) : rem r.adv + 1 = rem r := by
 have := h.lt
 simp [rem, h0]; omega
theorem fB {r : Rd} {w : Int} (hw : w ≠ 0) : (r.fail w).why ≠ 0 := by
 unfold Rd.fail
 split
 ·exact hw
 ·assumption
theorem ER {r : Rd} {w : Int} (hw : w ≠ 0) : rem (r.fail w) = 0 := kQ (fB hw)
def Down (r q : Rd) : Prop := q.ok ∧ rem q ≤ rem r ∧ (q.why = 0 → rem q < rem r)
theorem gA {r : Rd} (h : r.ok) {w : Int} (hw : w ≠ 0) : Down r (r.fail w) := ⟨Rd.ok_fail h _, by rw [ER hw]; omega, fun g => absurd g (fB hw)⟩
theorem kV {r : Rd} (h : r.ok) (h0 : r.why = 0) (h4 : r.next.kind ≠ 4) : Down r r.adv := by
 have := kI h h0
 exact ⟨Rd.ok_adv h h4, by omega, fun _ => by omega⟩
theorem eD {r : Rd} (h : r.ok) {s : List UInt8} (hs : r.is s = true) : Down r r.adv := kV h (Rd.is_kind hs).1 (Rd.is_4 hs)
theorem bY {r : Rd} (h : r.ok) (s : List UInt8) : Down r (r.want s) := by
 unfold Rd.want
 cases hs : r.is s
 ·exact gA h (by decide)
 ·exact eD h hs
theorem fJ {r : Rd} (h : r.ok) : Down r r.name.2 := by
 unfold Rd.name
 cases hb : r.bad
 ·unfold Rd.bad at hb
  simp at hb
  exact kV h hb.1 (by omega)
 ·exact gA h (by decide)
theorem nN {r : Rd} (h : r.ok) : Down r r.typ.2 := by
 unfold Rd.typ
 cases h1 : r.is [78]
 ·cases h2 : r.is [66]
  ·cases h3 : r.is [76]
   ·exact gA h (by decide)
   ·exact eD h h3
  ·exact eD h h2
 ·exact eD h h1
theorem Down.trans {r q s : Rd} (h : Down r q) (k : Down q s) : Down r s := ⟨k.1, by have := h.2.1; have := k.2.1; omega, fun g => by have := k.2.2 g; have := h.2.1; omega⟩
def Le (r q : Rd) : Prop := q.ok ∧ rem q ≤ rem r
theorem Down.le {r q : Rd} (h : Down r q) : Le r q := ⟨h.1, h.2.1⟩
theorem Le.refl {r : Rd} (h : r.ok) : Le r r := ⟨h, Nat.le_refl _⟩
theorem Down.after {r q s : Rd} (h : Down r q) (k : Le q s) : Down r s := ⟨k.1, by have := h.2.1; have := k.2; omega, fun g => by
 by_cases hq : q.why = 0
 ·have := h.2.2 hq; have := k.2; omega
 ·have := kQ hq; have := k.2; have := kK k.1 g; omega⟩
theorem Le.trans {r q s : Rd} (h : Le r q) (k : Le q s) : Le r s := ⟨k.1, by have := h.2; have := k.2; omega⟩
def jX (run : PR) (r : Rd) : Prop := ∃ e q, run = some (e, q) ∧ Down r q
def mP {α : Type} (run : Option (α × Rd)) (r : Rd) : Prop := ∃ e q, run = some (e, q) ∧ Le r q
theorem xI {N : Nat} (h1 : ∀ k, k < N → ∀ r, r.ok → 20 * rem r + 4 ≤ k → jX (cS k r) r) : ∀ n a (r : Rd), n ≤ N → r.ok → 20 * rem r + 1 ≤ n → mP (dV n a r) r := by
 intro n
 induction n with
 | zero => intro a r _ _ h; omega
 | succ n ih =>
  intro a r hn h hf
  unfold dV
  split
  ·rename_i hs
   have d : Down r r.adv := by
    rcases Bool.or_eq_true_iff.1 hs with g | g
    ·exact eD h g
    ·exact eD h g
   have g0 : r.why = 0 := by
    rcases Bool.or_eq_true_iff.1 hs with g | g
    ·exact (Rd.is_kind g).1
    ·exact (Rd.is_kind g).1
   have ra := kI h g0
   obtain ⟨b, q, hq, dq⟩ := h1 n (by omega) r.adv d.1 (by omega)
   rw [hq]
   have := dq.2.1
   obtain ⟨e, s, hs2, ds⟩ := ih (two (if r.next.text = [45] then 9 else 8) a b r.next) q (by omega) dq.1 (by omega)
   exact ⟨e, s, hs2, (d.trans dq).le.trans ds⟩
  ·exact ⟨a, r, rfl, Le.refl h⟩
theorem uG {N : Nat} (h1 : ∀ k, k < N → ∀ r, r.ok → 20 * rem r + 3 ≤ k → jX (cU k r) r) : ∀ n a (r : Rd), n ≤ N → r.ok → 20 * rem r + 1 ≤ n → mP (c9 n a r) r := by
 intro n
 induction n with
 | zero => intro a r _ _ h; omega
 | succ n ih =>
  intro a r hn h hf
  unfold c9
  split
  ·rename_i hs
   have d : Down r r.adv := by
    rcases Bool.or_eq_true_iff.1 hs with g | g
    ·exact eD h g
    ·exact eD h g
   have g0 : r.why = 0 := by
    rcases Bool.or_eq_true_iff.1 hs with g | g
    ·exact (Rd.is_kind g).1
    ·exact (Rd.is_kind g).1
   have ra := kI h g0
   obtain ⟨b, q, hq, dq⟩ := h1 n (by omega) r.adv d.1 (by omega)
   rw [hq]
   have := dq.2.1
   obtain ⟨e, s, hs2, ds⟩ := ih (two (if r.next.text = [47] then 11 else 10) a b r.next) q (by omega) dq.1 (by omega)
   exact ⟨e, s, hs2, (d.trans dq).le.trans ds⟩
  ·exact ⟨a, r, rfl, Le.refl h⟩
theorem AV {N : Nat} (h1 : ∀ k, k < N → ∀ r, r.ok → 20 * rem r + 8 ≤ k → jX (a6 k r) r) : ∀ n l (r : Rd), n ≤ N → r.ok → 20 * rem r + 9 ≤ n → mP (cR n l r) r := by
 intro n
 induction n with
 | zero => intro a r _ _ h; omega
 | succ n ih =>
  intro l r hn h hf
  unfold cR
  split
  ·rename_i hs
   have rp := kK h hs.1
   have d : Le r (if l = [] then r else r.want [44]) := by
    split
    ·exact Le.refl h
    ·exact (bY h _).le
   generalize (if l = [] then r else r.want [44]) = r1 at *
   have := d.2
   obtain ⟨b, q, hq, dq⟩ := h1 n (by omega) r1 d.1 (by omega)
   rw [hq]
   have hb : 20 * rem q + 9 ≤ n := by
    by_cases g : q.why = 0
    ·have := dq.2.2 g; omega
    ·have := kQ g; omega
   obtain ⟨e, s, hs2, ds⟩ := ih (l ++ [b]) q (by omega) dq.1 hb
   exact ⟨e, s, hs2, d.trans (dq.le.trans ds)⟩
  ·exact ⟨l, r, rfl, Le.refl h⟩
theorem s_ {N : Nat} (h1 : ∀ k, k < N → ∀ r, r.ok → 20 * rem r + 8 ≤ k → jX (a6 k r) r) : ∀ ss n (r : Rd), n ≤ N → r.ok → 20 * rem r + 9 + ss.length ≤ n → mP (bF n ss r) r := by
 intro ss
 induction ss with
 | nil =>
  intro n r hn h hf
  obtain ⟨m, rfl⟩ : ∃ m, n = m + 1 := ⟨n - 1, by omega⟩
  exact ⟨[], r, by simp [bF], Le.refl h⟩
 | cons s ss ih =>
  intro n r hn h hf
  obtain ⟨m, rfl⟩ : ∃ m, n = m + 1 := ⟨n - 1, by omega⟩
  simp only [List.length_cons] at hf
  unfold bF
  have d : Le r (if s = [] then r else r.want s) := by
   split
   ·exact Le.refl h
   ·exact (bY h _).le
  generalize (if s = [] then r else r.want s) = r1 at *
  have := d.2
  obtain ⟨b, q, hq, dq⟩ := h1 m (by omega) r1 d.1 (by omega)
  rw [hq]
  have := dq.2.1
  obtain ⟨e, t, ht, dt⟩ := ih m q (by omega) dq.1 (by omega)
  simp only [Option.bind_some, ht, Option.map_some]
  exact ⟨b :: e, t, rfl, d.trans (dq.le.trans dt)⟩
theorem wJ {N : Nat} (h1 : ∀ k, k < N → ∀ r, r.ok → 20 * rem r + 8 ≤ k → jX (a6 k r) r) (n : Nat) (r : Rd) (p : Int) (hn : n ≤ N) (h : r.ok) (hf : 20 * rem r + 9 ≤ n) : mP (cB n r p) r := by
 obtain ⟨m, rfl⟩ : ∃ m, n = m + 1 := ⟨n - 1, by omega⟩
 unfold cB
 obtain ⟨x, r1, hx, d1⟩ := h1 m (by omega) r h (by omega)
 rw [hx]
 simp only [Option.bind_some]
 have d2 := bY d1.1 [111, 102]
 have d3 := bY d2.1 [110, 105, 108]
 have d4 := bY d3.1 [45, 62]
 have D := ((d1.trans d2).trans d3).trans d4
 generalize ((r1.want [111, 102]).want [110, 105, 108]).want [45, 62] = s at *
 have := D.2.1
 obtain ⟨a, r2, ha, d5⟩ := h1 m (by omega) s D.1 (by omega)
 rw [ha]
 simp only [Option.bind_some]
 have e1 := bY d5.1 [124]
 have e2 := fJ e1.1
 have e3 := bY e2.1 [58]
 have e4 := fJ e3.1
 have e5 := bY e4.1 [45, 62]
 have E := (((((D.trans d5).trans e1).trans e2).trans e3).trans e4).trans e5
 have := E.2.1
 obtain ⟨b, r3, hb, d6⟩ := h1 m (by omega) _ E.1 (by omega)
 rw [hb]
 exact ⟨_, r3, rfl, (E.trans d6).le⟩
structure Ends (n : Nat) (r : Rd) : Prop where
 expr : 20 * rem r + 8 ≤ n → jX (a6 n r) r
 cons : 20 * rem r + 7 ≤ n → jX (dJ n r) r
 comp : 20 * rem r + 6 ≤ n → jX (dZ n r) r
 sum : 20 * rem r + 5 ≤ n → jX (eJ n r) r
 term : 20 * rem r + 4 ≤ n → jX (cS n r) r
 unit : 20 * rem r + 3 ≤ n → jX (cU n r) r
 named : ∀ m, 20 * rem r + 12 ≤ n → mP (dT n m r) r
theorem DN : ∀ n, n ≤ 2 ^ 40 → ∀ (r : Rd), r.ok → Ends n r := by
 intro n
 induction n using Nat.strongRecOn with
 | _ n ih =>
  intro hn r h
  replace ih : ∀ m, m < n → ∀ r, r.ok → Ends m r := fun m hm => ih m hm (by omega)
  cases n with
  | zero => refine ⟨?_, ?_, ?_, ?_, ?_, ?_, ?_⟩ <;> (intros; omega)
  | succ n =>
   have he : ∀ k, k < n → ∀ r, r.ok → 20 * rem r + 8 ≤ k → jX (a6 k r) r := fun k hk r h => (ih k (by omega) r h).expr
   refine ⟨fun hf => ?_, fun hf => ?_, fun hf => ?_, fun hf => ?_, fun hf => ?_, fun hf => ?_, fun m hf => ?_⟩
   ·suffices main : ∃ e q, a6 (n + 1) r = some (e, q) ∧ rem q ≤ rem r ∧ (q.why = 0 → rem q < rem r) by
     obtain ⟨e, q, hq, g1, g2⟩ := main
     exact ⟨e, q, hq, (C4 hn h hq).1, g1, g2⟩
    unfold a6
    simp only
    by_cases c1 : (binds r && decide (r.lN ≤ r.nest)) = true
    ·rw [c1]
     simp only [if_true]
     rw [if_pos (fB (by decide))]
     exact ⟨ex0, _, rfl, (gA h (by decide)).2⟩
    ·simp only [Bool.not_eq_true] at c1
     rw [c1]
     simp only [Bool.false_eq_true, if_false]
     by_cases c2 : r.why = 0
     ·rw [if_neg (by simp [c2])]
      have rp := kK h c2
      by_cases c3 : binds r = false ∧ r.is [105, 102] = false
      ·rw [if_pos c3]
       obtain ⟨e, q, hq, dq⟩ := (ih n (by omega) r h).cons (by omega)
       exact ⟨e, q, hq, dq.2⟩
      ·rw [if_neg c3]
       have h4 : r.next.kind ≠ 4 := by
        cases hb : binds r
        ·cases hi : r.is [105, 102]
         ·exact absurd ⟨hb, hi⟩ c3
         ·exact Rd.is_4 hi
        ·unfold binds at hb
         simp only [Bool.or_eq_true] at hb
         rcases hb with g | g | g
         ·exact Rd.is_4 g
         ·exact Rd.is_4 g
         ·exact Rd.is_4 g
       obtain ⟨r2, hr2⟩ : ∃ r2, r2 = (if binds r then { r with nest := r.nest + 1 } else r).adv := ⟨_, rfl⟩
       have h2 : r2.ok ∧ rem r2 + 1 = rem r := by
        have ra := kI h c2
        have ka := Rd.ok_adv h h4
        cases hb : binds r
        ·rw [hb] at hr2
         simp only [Bool.false_eq_true, if_false] at hr2
         rw [hr2]; exact ⟨ka, ra⟩
        ·rw [hb] at hr2 c1
         simp only [if_true, Bool.true_and, decide_eq_false_iff_not] at hr2 c1
         rw [hr2]
         have := h.n0
         have := h.l1
         exact ⟨⟨ka.ms, ka.lt, ka.len, by show 0 ≤ r.nest + 1; omega, by show r.nest + 1 ≤ 2 ^ 40; omega, ka.l1⟩, ra⟩
       rw [← hr2]
       have last : ∀ (res : PR), mP res r2 → ∃ e q, (res.map fun (e, q) => (e, if binds r then { q with nest := q.nest - 1 } else q)) = some (e, q) ∧ rem q ≤ rem r ∧ (q.why = 0 → rem q < rem r) := fun res hres => by
        obtain ⟨e, q, hq, dq⟩ := hres
        rw [hq]
        have h3 := dq.2
        have h4 := h2.2
        cases hb : binds r
        ·exact ⟨e, q, rfl, by omega, fun _ => by omega⟩
        ·refine ⟨e, _, rfl, ?_, fun _ => ?_⟩
         ·show rem q ≤ rem r
          omega
         ·show rem q < rem r
          omega
       apply last
       split
       ·obtain ⟨l, q, hl, dl⟩ := s_ (N := n) he [[], [116, 104, 101, 110], [101, 108, 115, 101]] n r2 (Nat.le_refl _) h2.1 (by simp only [List.length_cons, List.length_nil]; omega)
        rw [hl]
        exact ⟨_, q, rfl, dl⟩
       ·split
        ·exact wJ he n r2 _ (Nat.le_refl _) h2.1 (by omega)
        ·have d1 := fJ h2.1
         have d2 := nN d1.1
         have D := d1.trans d2
         have := D.2.1
         obtain ⟨l, q, hl, dl⟩ := s_ (N := n) he [[61], [105, 110]] n r2.name.2.typ.2 (Nat.le_refl _) D.1 (by simp only [List.length_cons, List.length_nil]; omega)
         rw [hl]
         exact ⟨_, q, rfl, D.le.trans dl⟩
     ·rw [if_pos c2]
      exact ⟨ex0, r, rfl, Nat.le_refl _, fun g => absurd g c2⟩
   ·unfold dJ
    obtain ⟨a, r1, ha, d1⟩ := (ih n (by omega) r h).comp (by omega)
    rw [ha]
    simp only [Option.bind_some]
    cases hs : r1.is [58]
    ·exact ⟨a, r1, rfl, d1⟩
    ·have d2 := eD d1.1 hs
     have ra := kI d1.1 (Rd.is_kind hs).1
     have := d1.2.1
     obtain ⟨b, r2, hb, d3⟩ := (ih n (by omega) r1.adv d2.1).cons (by omega)
     rw [if_pos rfl, hb]
     exact ⟨_, r2, rfl, (d1.trans d2).trans d3⟩
   ·unfold dZ
    obtain ⟨a, r1, ha, d1⟩ := (ih n (by omega) r h).sum (by omega)
    rw [ha]
    simp only [Option.bind_some]
    cases hs : (r1.is [61, 61] || r1.is [60])
    ·exact ⟨a, r1, rfl, d1⟩
    ·have d2 : Down r1 r1.adv := by
      rcases Bool.or_eq_true_iff.1 hs with g | g
      ·exact eD d1.1 g
      ·exact eD d1.1 g
     have := d1.2.1
     have := d2.2.1
     obtain ⟨b, r2, hb, d3⟩ := (ih n (by omega) r1.adv d2.1).sum (by omega)
     rw [if_pos rfl, hb]
     exact ⟨_, r2, rfl, (d1.trans d2).trans d3⟩
   ·unfold eJ
    obtain ⟨a, r1, ha, d1⟩ := (ih n (by omega) r h).term (by omega)
    rw [ha]
    simp only [Option.bind_some]
    by_cases g : r1.why = 0
    ·have := d1.2.2 g
     obtain ⟨e, q, hq, dq⟩ := xI (N := n) (fun k hk r h => (ih k (by omega) r h).term) n a r1 (Nat.le_refl _) d1.1 (by omega)
     exact ⟨e, q, hq, d1.after dq⟩
    ·have := kQ g
     obtain ⟨e, q, hq, dq⟩ := xI (N := n) (fun k hk r h => (ih k (by omega) r h).term) n a r1 (Nat.le_refl _) d1.1 (by omega)
     exact ⟨e, q, hq, d1.after dq⟩
   ·unfold cS
    obtain ⟨a, r1, ha, d1⟩ := (ih n (by omega) r h).unit (by omega)
    rw [ha]
    simp only [Option.bind_some]
    by_cases g : r1.why = 0
    ·have := d1.2.2 g
     obtain ⟨e, q, hq, dq⟩ := uG (N := n) (fun k hk r h => (ih k (by omega) r h).unit) n a r1 (Nat.le_refl _) d1.1 (by omega)
     exact ⟨e, q, hq, d1.after dq⟩
    ·have := kQ g
     obtain ⟨e, q, hq, dq⟩ := uG (N := n) (fun k hk r h => (ih k (by omega) r h).unit) n a r1 (Nat.le_refl _) d1.1 (by omega)
     exact ⟨e, q, hq, d1.after dq⟩
   ·unfold cU
    by_cases g1 : r.why = 0
    ·rw [if_neg (by simp [g1])]
     have rp := kK h g1
     have ra := kI h g1
     by_cases g2 : r.next.kind = 2
     ·rw [if_pos g2]; exact ⟨_, _, rfl, kV h g1 (by omega)⟩
     ·rw [if_neg g2]
      by_cases g3 : r.next.kind = 0
      ·rw [if_pos g3]
       have d := kV h g1 (by omega)
       obtain ⟨e, q, hq, dq⟩ := (ih n (by omega) r.adv d.1).named r.next (by omega)
       exact ⟨e, q, hq, d.after dq⟩
      ·rw [if_neg g3]
       cases g4 : r.is [40]
       ·rw [if_neg (by decide)]
        by_cases g5 : ¬ r.next.kind = 1 ∨ bT r.next.text = 0
        ·rw [if_pos g5]; exact ⟨_, _, rfl, gA h (by decide)⟩
        ·rw [if_neg g5]
         have k1 : r.next.kind = 1 := by
          by_cases k : r.next.kind = 1
          ·exact k
          ·exact absurd (.inl k) g5
         have d := kV h g1 (by omega)
         by_cases g6 : bT r.next.text = 5
         ·rw [if_pos g6]; exact ⟨_, _, rfl, d.trans (nN d.1)⟩
         ·rw [if_neg g6]
          by_cases g7 : 14 ≤ bT r.next.text
          ·rw [if_pos g7]
           have d2 := bY d.1 [40]
           have := d2.2.1
           obtain ⟨x, q, hx, dx⟩ := (ih n (by omega) _ d2.1).expr (by omega)
           rw [hx]
           exact ⟨_, _, rfl, ((d.trans d2).trans dx).trans (bY dx.1 _)⟩
          ·rw [if_neg g7]; exact ⟨_, _, rfl, d⟩
       ·rw [if_pos rfl]
        have d := eD h g4
        obtain ⟨x, q, hx, dx⟩ := (ih n (by omega) r.adv d.1).expr (by omega)
        rw [hx]
        exact ⟨_, _, rfl, (d.trans dx).trans (bY dx.1 _)⟩
    ·rw [if_pos g1]
     exact ⟨ex0, r, rfl, h, Nat.le_refl _, fun g => absurd g g1⟩
   ·unfold dT
    cases hs : r.is [40]
    ·exact ⟨_, r, rfl, Le.refl h⟩
    ·rw [if_pos rfl]
     have d := eD h hs
     have := d.2.1
     obtain ⟨l, q, hl, dl⟩ := AV (N := n) he n [] r.adv (Nat.le_refl _) d.1 (by omega)
     rw [hl]
     exact ⟨_, _, rfl, (d.le.trans dl).trans (bY dl.1 _).le⟩
theorem zS : ∀ n l (r : Rd), r.ok → rem r + 1 ≤ n → mP (b8 n l r) r := by
 intro n
 induction n with
 | zero => intro l r _ h; omega
 | succ n ih =>
  intro l r h hf
  unfold b8
  split
  ·rename_i hs
   have rp := kK h hs.1
   have d1 : Le r (pw r l) := by
    unfold pw; split
    ·exact Le.refl h
    ·exact (bY h _).le
   have d2 : Le (pw r l) (pf (pw r l) l) := by
    unfold pf; split
    ·exact (gA d1.1 (by decide)).le
    ·exact Le.refl d1.1
   have d3 := (d1.trans d2)
   have d4 := (fJ d3.1).trans (nN (fJ d3.1).1)
   have := d3.2
   have hb : rem (pf (pw r l) l).name.2.typ.2 + 1 ≤ n := by
    by_cases g : (pf (pw r l) l).name.2.typ.2.why = 0
    ·have := d4.2.2 g; omega
    ·have := kQ g; omega
   obtain ⟨e, q, hq, dq⟩ := ih _ _ d4.1 hb
   exact ⟨e, q, hq, d3.trans (d4.le.trans dq)⟩
  ·exact ⟨l, r, rfl, Le.refl h⟩
theorem FU {n : Nat} (hn : n ≤ 2 ^ 40) (r : Rd) (h : r.ok) (c : Nat) (hf : 20 * rem r + 8 ≤ n) : ∃ f q, iG n r c = some (f, q) ∧ Down r q := by
 unfold iG
 have d0 : Le r (df r c) := by
  unfold df; split
  ·exact (gA h (by decide)).le
  ·exact Le.refl h
 have d1 := (fJ d0.1).trans (bY (fJ d0.1).1 [40])
 generalize (df r c).name.2.want [40] = s at *
 have := d0.2
 have := d1.2.1
 obtain ⟨ps, r4, hp, d2⟩ := zS n [] s d1.1 (by omega)
 rw [hp]
 simp only [Option.bind_some]
 have D : Down r r4 := ⟨d2.1, by have := d2.2; omega, fun g => by
  have a := (d1.after d2).2.2 g
  omega⟩
 have e1 := bY D.1 [41]
 have e2 := bY e1.1 [58]
 have e3 := nN e2.1
 have e4 := bY e3.1 [61]
 have E := (((D.trans e1).trans e2).trans e3).trans e4
 have := E.2.1
 obtain ⟨b, r9, hb, d3⟩ := (DN n hn _ E.1).expr (by omega)
 rw [hb]
 exact ⟨_, _, rfl, (E.trans d3).trans (bY d3.1 _)⟩
theorem DT : ∀ n l (r : Rd), n ≤ 2 ^ 40 → r.ok → 20 * rem r + 9 ≤ n → mP (c7 n l r) r := by
 intro n
 induction n with
 | zero => intro l r _ _ h; omega
 | succ n ih =>
  intro l r hn h hf
  unfold c7
  split
  ·rename_i hs
   have rp := kK h hs.1
   obtain ⟨f, q, hq, dq⟩ := FU (n := n) (by omega) r h l.length (by omega)
   rw [hq]
   have hb : 20 * rem q + 9 ≤ n := by
    by_cases g : q.why = 0
    ·have := dq.2.2 g; omega
    ·have := kQ g; omega
   obtain ⟨e, s, hs2, ds⟩ := ih (l ++ [f]) q (by omega) dq.1 hb
   exact ⟨e, s, hs2, dq.le.trans ds⟩
  ·exact ⟨l, r, rfl, Le.refl h⟩
theorem C9 {r : Rd} (h : r.ok) : ∃ L q, c7 (2 ^ 30) [] r = some (L, q) ∧ q.ok := by
 have hr : rem r ≤ 2 ^ 21 := by
  have := h.len
  unfold rem
  split <;> omega
 obtain ⟨L, q, hq, dq⟩ := DT (2 ^ 30) [] r (by decide) h (by omega)
 exact ⟨L, q, hq, dq.1⟩
def tyOk (t : Int) : Prop := t = 1 ∨ t = 2 ∨ t = 3
def zK (op ty : Int) (n : Nat) : Prop :=
 ((op = 1 ∨ op = 2 ∨ op = 3 ∨ op = 4 ∨ op = 6) ∧ n = 0) ∨ (op = 5 ∧ n = 0 ∧ tyOk ty) ∨ op = 7 ∨ ((8 ≤ op ∧ op ≤ 13 ∨ op = 18) ∧ n = 2) ∨ (14 ≤ op ∧ op ≤ 17 ∧ n = 1) ∨ ((op = 19 ∨ op = 20) ∧ n = 3) ∨ ((op = 21 ∨ op = 22) ∧ n = 2 ∧ tyOk ty)
def placeIn (ms : List Mk) (a b : Nat) (p : Int) : Prop := ∃ i, a ≤ i ∧ i < b ∧ p = (ms[i]?.getD default).at'
mutual
def size : Ex → Nat
 | .mk _ _ _ _ _ args _ => 1 + aU args
def aU : List Ex → Nat
 | [] => 0
 | e :: es => size e + aU es
end
mutual
def Wf (ms : List Mk) (a b : Nat) : Ex → Prop
 | .mk op _ _ ty _ args p => placeIn ms a b p ∧ zK op ty args.length ∧ Wfs ms a b args
def Wfs (ms : List Mk) (a b : Nat) : List Ex → Prop
 | [] => True
 | e :: es => Wf ms a b e ∧ Wfs ms a b es
end
theorem placeIn.mono {ms : List Mk} {a b c d : Nat} {p : Int} (h : placeIn ms a b p) (h1 : c ≤ a) (h2 : b ≤ d) : placeIn ms c d p := by
 obtain ⟨i, g1, g2, g3⟩ := h
 exact ⟨i, by omega, by omega, g3⟩
mutual
theorem Wf.mono {ms : List Mk} {a b c d : Nat} (h1 : c ≤ a) (h2 : b ≤ d) : ∀ (e : Ex), Wf ms a b e → Wf ms c d e
 | .mk op n t ty z args p, h => by
  unfold Wf at h ⊢
  exact ⟨h.1.mono h1 h2, h.2.1, Wfs.mono h1 h2 args h.2.2⟩
theorem Wfs.mono {ms : List Mk} {a b c d : Nat} (h1 : c ≤ a) (h2 : b ≤ d) : ∀ (l : List Ex), Wfs ms a b l → Wfs ms c d l
 | [], _ => by unfold Wfs; trivial
 | e :: es, h => by
  unfold Wfs at h ⊢
  exact ⟨Wf.mono h1 h2 e h.1, Wfs.mono h1 h2 es h.2⟩
end
theorem yY {ms : List Mk} {a b : Nat} : ∀ {l k : List Ex}, Wfs ms a b l → Wfs ms a b k → Wfs ms a b (l ++ k)
 | [], _, _, h => h
 | e :: es, k, h, g => by
  unfold Wfs at h
  show Wfs ms a b (e :: (es ++ k))
  unfold Wfs
  exact ⟨h.1, yY h.2 g⟩
theorem tQ : ∀ (l k : List Ex), aU (l ++ k) = aU l + aU k
 | [], k => by simp [aU]
 | e :: es, k => by
  show aU (e :: (es ++ k)) = _
  simp only [aU, tQ es k]; omega
def Step (r q : Rd) (k : Nat) : Prop := q.why = 0 → r.why = 0 ∧ q.ms = r.ms ∧ r.at' + k ≤ q.at'
theorem Step.trans {r q s : Rd} {j k : Nat} (h : Step r q j) (g : Step q s k) : Step r s (j + k) := fun hs => by
 obtain ⟨g1, g2, g3⟩ := g hs
 obtain ⟨h1, h2, h3⟩ := h g1
 exact ⟨h1, g2.trans h2, by omega⟩
theorem Step.refl {r : Rd} : Step r r 0 := fun h => ⟨h, rfl, by omega⟩
theorem step_adv {r : Rd} : Step r r.adv 1 := fun h => ⟨h, rfl, by simp⟩
theorem jS {r : Rd} {w : Int} (hw : w ≠ 0) {k : Nat} : Step r (r.fail w) k := fun h => absurd h (fB hw)
theorem step_want {r : Rd} {s : List UInt8} : Step r (r.want s) 1 := by
 unfold Rd.want
 split
 ·exact step_adv
 ·exact jS (by decide)
theorem step_name {r : Rd} : Step r r.name.2 1 := by
 unfold Rd.name
 split
 ·exact jS (by decide)
 ·exact step_adv
theorem rE {r : Rd} (h : r.name.2.why = 0) : r.name.1 = r.next := by
 unfold Rd.name at h ⊢
 split
 ·rename_i hb
  rw [if_pos hb] at h
  exact absurd h (fB (by decide))
 ·rfl
theorem nH {r : Rd} : Step r r.typ.2 1 := by
 unfold Rd.typ
 split
 ·exact step_adv
 ·split
  ·exact step_adv
  ·split
   ·exact step_adv
   ·exact jS (by decide)
theorem rL {r : Rd} (h : r.typ.2.why = 0) : tyOk r.typ.1 := by
 unfold Rd.typ at h ⊢
 split
 ·exact .inl rfl
 ·rename_i h1
  rw [if_neg h1] at h
  split
  ·exact .inr (.inl rfl)
  ·rename_i h2
   rw [if_neg h2] at h
   split
   ·exact .inr (.inr rfl)
   ·rename_i h3
    rw [if_neg h3] at h
    exact absurd h (fB (by decide))
def iJ (run : PR) (r : Rd) : Prop := ∀ e q, run = some (e, q) → q.why = 0 → r.why = 0 ∧ q.ms = r.ms ∧ r.at' + 1 ≤ q.at' ∧ Wf r.ms r.at' q.at' e ∧ size e ≤ q.at' - r.at'
def MadeL (k : Nat) (run : Option (List Ex × Rd)) (r : Rd) : Prop := ∀ l q, run = some (l, q) → q.why = 0 → r.why = 0 ∧ q.ms = r.ms ∧ r.at' + k ≤ q.at' ∧ Wfs r.ms r.at' q.at' l ∧ aU l ≤ q.at' - r.at'
theorem gM {r : Rd} {b : Nat} (h : r.at' < b) : placeIn r.ms r.at' b r.next.at' := ⟨r.at', Nat.le_refl _, h, rfl⟩
theorem nC {r r1 r2 : Rd} {a b : Ex} {op : Int} (hop : 8 ≤ op ∧ op ≤ 13 ∨ op = 18) (m1 : r1.ms = r.ms) (l1 : r.at' + 1 ≤ r1.at') (w1 : Wf r.ms r.at' r1.at' a) (s1 : size a ≤ r1.at' - r.at')
  (l2 : r1.at' + 1 + 1 ≤ r2.at') (w2 : Wf r.ms (r1.at' + 1) r2.at' b) (s2 : size b ≤ r2.at' - (r1.at' + 1)) : Wf r.ms r.at' r2.at' (two op a b r1.next) ∧ size (two op a b r1.next) ≤ r2.at' - r.at' := by
 unfold two
 constructor
 ·unfold Wf Wfs Wfs Wfs
  refine ⟨?_, .inr (.inr (.inr (.inl ⟨hop, rfl⟩))), Wf.mono (Nat.le_refl _) (by omega) _ w1, Wf.mono (by omega) (Nat.le_refl _) _ w2, trivial⟩
  have := gM (r := r1) (b := r2.at') (by omega)
  rw [m1] at this
  exact this.mono (by omega) (Nat.le_refl _)
 ·simp only [size, aU]
  omega
theorem A1 {N : Nat} (h1 : ∀ k, k < N → ∀ r, iJ (cS k r) r) : ∀ n a (r0 r : Rd) e q, n ≤ N → dV n a r = some (e, q) → q.why = 0 → (r.why = 0 → r.ms = r0.ms ∧ r0.at' + 1 ≤ r.at' ∧ Wf r0.ms r0.at' r.at' a ∧ size a ≤ r.at' - r0.at') →
  r.why = 0 ∧ q.ms = r0.ms ∧ r0.at' + 1 ≤ q.at' ∧ Wf r0.ms r0.at' q.at' e ∧ size e ≤ q.at' - r0.at' := by
 intro n
 induction n with
 | zero => intro a r0 r e q _ h; simp [dV] at h
 | succ n ih =>
  intro a r0 r e q hn hrun hq ha
  unfold dV at hrun
  split at hrun
  ·cases hc : cS n r.adv with
   | none => rw [hc] at hrun; simp at hrun
   | some p =>
    obtain ⟨b, r2⟩ := p
    rw [hc] at hrun
    simp only [Option.bind_some] at hrun
    have hop : 8 ≤ (if r.next.text = [45] then (9 : Int) else 8) ∧ (if r.next.text = [45] then (9 : Int) else 8) ≤ 13 := by split <;> omega
    generalize (if r.next.text = [45] then (9 : Int) else 8) = op at *
    have key : r2.why = 0 → r.why = 0 ∧ (r2.ms = r0.ms ∧ r0.at' + 1 ≤ r2.at' ∧ Wf r0.ms r0.at' r2.at' (two op a b r.next) ∧ size (two op a b r.next) ≤ r2.at' - r0.at') := fun hw => by
     obtain ⟨g1, g2, g3, g4, g5⟩ := h1 n (by omega) r.adv b r2 hc hw
     simp only [Rd.adv_why, Rd.adv_ms, Rd.adv_at] at g1 g2 g3 g4 g5
     obtain ⟨k1, k2, k3, k4⟩ := ha g1
     rw [k1] at g4
     have := nC (r := r0) (r1 := r) (r2 := r2) (.inl hop) k1 k2 k3 k4 g3 g4 g5
     exact ⟨g1, g2.trans k1, by omega, this.1, this.2⟩
    obtain ⟨m1, m2⟩ := ih _ r0 r2 e q (by omega) hrun hq (fun hw => (key hw).2)
    exact ⟨(key m1).1, m2⟩
  ·simp only [Option.some.injEq, Prod.mk.injEq] at hrun
   obtain ⟨rfl, rfl⟩ := hrun
   obtain ⟨k1, k2, k3, k4⟩ := ha hq
   exact ⟨hq, k1, k2, k3, k4⟩
theorem zM {N : Nat} (h1 : ∀ k, k < N → ∀ r, iJ (cU k r) r) : ∀ n a (r0 r : Rd) e q, n ≤ N → c9 n a r = some (e, q) → q.why = 0 → (r.why = 0 → r.ms = r0.ms ∧ r0.at' + 1 ≤ r.at' ∧ Wf r0.ms r0.at' r.at' a ∧ size a ≤ r.at' - r0.at') →
  r.why = 0 ∧ q.ms = r0.ms ∧ r0.at' + 1 ≤ q.at' ∧ Wf r0.ms r0.at' q.at' e ∧ size e ≤ q.at' - r0.at' := by
 intro n
 induction n with
 | zero => intro a r0 r e q _ h; simp [c9] at h
 | succ n ih =>
  intro a r0 r e q hn hrun hq ha
  unfold c9 at hrun
  split at hrun
  ·cases hc : cU n r.adv with
   | none => rw [hc] at hrun; simp at hrun
   | some p =>
    obtain ⟨b, r2⟩ := p
    rw [hc] at hrun
    simp only [Option.bind_some] at hrun
    have hop : 8 ≤ (if r.next.text = [47] then (11 : Int) else 10) ∧ (if r.next.text = [47] then (11 : Int) else 10) ≤ 13 := by split <;> omega
    generalize (if r.next.text = [47] then (11 : Int) else 10) = op at *
    have key : r2.why = 0 → r.why = 0 ∧ (r2.ms = r0.ms ∧ r0.at' + 1 ≤ r2.at' ∧ Wf r0.ms r0.at' r2.at' (two op a b r.next) ∧ size (two op a b r.next) ≤ r2.at' - r0.at') := fun hw => by
     obtain ⟨g1, g2, g3, g4, g5⟩ := h1 n (by omega) r.adv b r2 hc hw
     simp only [Rd.adv_why, Rd.adv_ms, Rd.adv_at] at g1 g2 g3 g4 g5
     obtain ⟨k1, k2, k3, k4⟩ := ha g1
     rw [k1] at g4
     have := nC (r := r0) (r1 := r) (r2 := r2) (.inl hop) k1 k2 k3 k4 g3 g4 g5
     exact ⟨g1, g2.trans k1, by omega, this.1, this.2⟩
    obtain ⟨m1, m2⟩ := ih _ r0 r2 e q (by omega) hrun hq (fun hw => (key hw).2)
    exact ⟨(key m1).1, m2⟩
  ·simp only [Option.some.injEq, Prod.mk.injEq] at hrun
   obtain ⟨rfl, rfl⟩ := hrun
   obtain ⟨k1, k2, k3, k4⟩ := ha hq
   exact ⟨hq, k1, k2, k3, k4⟩
theorem xU {N : Nat} (h1 : ∀ k, k < N → ∀ r, iJ (a6 k r) r) : ∀ n l (r0 r : Rd) L q, n ≤ N → cR n l r = some (L, q) → q.why = 0 → (r.why = 0 → r.ms = r0.ms ∧ r0.at' ≤ r.at' ∧ Wfs r0.ms r0.at' r.at' l ∧ aU l ≤ r.at' - r0.at') →
  r.why = 0 ∧ q.ms = r0.ms ∧ r0.at' ≤ q.at' ∧ Wfs r0.ms r0.at' q.at' L ∧ aU L ≤ q.at' - r0.at' := by
 intro n
 induction n with
 | zero => intro a r0 r e q _ h; simp [cR] at h
 | succ n ih =>
  intro l r0 r L q hn hrun hq ha
  unfold cR at hrun
  split at hrun
  ·rename_i hs
   have st : Step r (if l = [] then r else r.want [44]) 0 := by
    split
    ·exact Step.refl
    ·intro h
     obtain ⟨g1, g2, g3⟩ := step_want h
     exact ⟨g1, g2, by omega⟩
   generalize (if l = [] then r else r.want [44]) = r1 at *
   cases hc : a6 n r1 with
   | none => rw [hc] at hrun; simp at hrun
   | some p =>
    obtain ⟨b, r2⟩ := p
    rw [hc] at hrun
    simp only [Option.bind_some] at hrun
    obtain ⟨k1, k2, k3, k4⟩ := ha hs.1
    have key : r2.why = 0 → r2.ms = r0.ms ∧ r0.at' ≤ r2.at' ∧ Wfs r0.ms r0.at' r2.at' (l ++ [b]) ∧ aU (l ++ [b]) ≤ r2.at' - r0.at' := fun hw => by
     obtain ⟨g1, g2, g3, g4, g5⟩ := h1 n (by omega) r1 b r2 hc hw
     obtain ⟨j1, j2, j3⟩ := st g1
     rw [j2, k1] at g4
     refine ⟨g2.trans (j2.trans k1), by omega, yY (Wfs.mono (Nat.le_refl _) (by omega) _ k3) ?_, ?_⟩
     ·unfold Wfs Wfs
      exact ⟨Wf.mono (by omega) (Nat.le_refl _) _ g4, trivial⟩
     ·rw [tQ]
      simp only [aU]
      omega
    obtain ⟨m1, m2⟩ := ih _ r0 r2 L q (by omega) hrun hq key
    exact ⟨hs.1, m2⟩
  ·simp only [Option.some.injEq, Prod.mk.injEq] at hrun
   obtain ⟨rfl, rfl⟩ := hrun
   obtain ⟨k1, k2, k3, k4⟩ := ha hq
   exact ⟨hq, k1, k2, k3, k4⟩
theorem j8 {N : Nat} (h1 : ∀ k, k < N → ∀ r, iJ (a6 k r) r) : ∀ ss n (r : Rd), n ≤ N → MadeL 0 (bF n ss r) r ∧ ∀ L q, bF n ss r = some (L, q) → L.length = ss.length := by
 intro ss
 induction ss with
 | nil =>
  intro n r hn
  cases n with
  | zero => exact ⟨fun l q h => by simp [bF] at h, fun l q h => by simp [bF] at h⟩
  | succ n =>
   refine ⟨fun l q h hq => ?_, fun l q h => ?_⟩
   ·simp only [bF, Option.some.injEq, Prod.mk.injEq] at h
    obtain ⟨rfl, rfl⟩ := h
    exact ⟨hq, rfl, by omega, by unfold Wfs; trivial, by simp [aU]⟩
   ·simp only [bF, Option.some.injEq, Prod.mk.injEq] at h
    obtain ⟨rfl, rfl⟩ := h
    rfl
 | cons s ss ih =>
  intro n r hn
  cases n with
  | zero => exact ⟨fun l q h => by simp [bF] at h, fun l q h => by simp [bF] at h⟩
  | succ n =>
   have st : Step r (if s = [] then r else r.want s) 0 := by
    split
    ·exact Step.refl
    ·intro h
     obtain ⟨g1, g2, g3⟩ := step_want h
     exact ⟨g1, g2, by omega⟩
   have split' : ∀ L q, bF (n + 1) (s :: ss) r = some (L, q) → ∃ b r2 l, a6 n (if s = [] then r else r.want s) = some (b, r2) ∧ bF n ss r2 = some (l, q) ∧ L = b :: l := fun L q h => by
    unfold bF at h
    cases hc : a6 n (if s = [] then r else r.want s) with
    | none => rw [hc] at h; simp at h
    | some p =>
     rw [hc] at h
     simp only [Option.bind_some, Option.map_eq_some_iff, Prod.mk.injEq] at h
     obtain ⟨q2, h2, rfl, rfl⟩ := h
     exact ⟨p.1, p.2, q2.1, rfl, h2, rfl⟩
   generalize (if s = [] then r else r.want s) = r1 at *
   refine ⟨fun L q h hq => ?_, fun L q h => ?_⟩
   ·obtain ⟨b, r2, l, e1, e2, rfl⟩ := split' L q h
    obtain ⟨a1, a2, a3, a4, a5⟩ := (ih n r2 (by omega)).1 l q e2 hq
    obtain ⟨g1, g2, g3, g4, g5⟩ := h1 n (by omega) r1 b r2 e1 a1
    obtain ⟨j1, j2, j3⟩ := st g1
    rw [g2, j2] at a4
    rw [j2] at g4
    refine ⟨j1, a2.trans (g2.trans j2), by omega, ?_, by simp only [aU]; omega⟩
    unfold Wfs
    exact ⟨Wf.mono (by omega) (by omega) _ g4, Wfs.mono (by omega) (Nat.le_refl _) _ a4⟩
   ·obtain ⟨b, r2, l, e1, e2, rfl⟩ := split' L q h
    have := (ih n r2 (by omega)).2 l q e2
    simp [this]
theorem uQ {N : Nat} (h1 : ∀ k, k < N → ∀ r, iJ (a6 k r) r) (n : Nat) (hn : n ≤ N) (r : Rd) (p : Int) (e : Ex) (q : Rd) (hrun : cB n r p = some (e, q)) (hq : q.why = 0) :
  r.why = 0 ∧ q.ms = r.ms ∧ r.at' ≤ q.at' ∧ ∃ h t x a b, e = .mk 20 h t 0 ⟨0, 0⟩ [x, a, b] p ∧ Wfs r.ms r.at' q.at' [x, a, b] ∧ aU [x, a, b] ≤ q.at' - r.at' := by
 cases n with
 | zero => simp [cB] at hrun
 | succ n =>
  unfold cB at hrun
  cases hc1 : a6 n r with
  | none => rw [hc1] at hrun; simp at hrun
  | some p1 =>
   obtain ⟨x, r1⟩ := p1
   rw [hc1] at hrun
   simp only [Option.bind_some] at hrun
   have s1 : Step r1 (((r1.want [111, 102]).want [110, 105, 108]).want [45, 62]) 3 := (step_want.trans step_want).trans step_want
   generalize ((r1.want [111, 102]).want [110, 105, 108]).want [45, 62] = s3 at *
   cases hc2 : a6 n s3 with
   | none => rw [hc2] at hrun; simp at hrun
   | some p2 =>
    obtain ⟨a, r2⟩ := p2
    rw [hc2] at hrun
    simp only [Option.bind_some, Option.map_eq_some_iff, Prod.mk.injEq] at hrun
    obtain ⟨⟨b, r3⟩, hc3, he1, he2⟩ := hrun
    simp only at he1 he2
    subst he1 he2
    have s2 : Step r2 ((((r2.want [124]).name.2.want [58]).name.2).want [45, 62]) 5 := (((step_want.trans step_name).trans step_want).trans step_name).trans step_want
    generalize (((r2.want [124]).name.2.want [58]).name.2).want [45, 62] = s8 at *
    obtain ⟨c1, c2, c3, c4, c5⟩ := h1 n (by omega) s8 b r3 hc3 hq
    obtain ⟨j1, j2, j3⟩ := s2 c1
    obtain ⟨b1, b2, b3, b4, b5⟩ := h1 n (by omega) s3 a r2 hc2 j1
    obtain ⟨i1, i2, i3⟩ := s1 b1
    obtain ⟨a1, a2, a3, a4, a5⟩ := h1 n (by omega) r x r1 hc1 i1
    rw [j2, b2, i2, a2] at c4
    rw [i2, a2] at b4
    refine ⟨a1, c2.trans (j2.trans (b2.trans (i2.trans a2))), by omega, _, _, x, a, b, rfl, ?_, by simp only [aU]; omega⟩
    unfold Wfs Wfs Wfs Wfs
    exact ⟨Wf.mono (Nat.le_refl _) (by omega) _ a4, Wf.mono (by omega) (by omega) _ b4, Wf.mono (by omega) (Nat.le_refl _) _ c4, trivial⟩
structure Makes (n : Nat) (r : Rd) : Prop where
 expr : iJ (a6 n r) r
 cons : iJ (dJ n r) r
 comp : iJ (dZ n r) r
 sum : iJ (eJ n r) r
 term : iJ (cS n r) r
 unit : iJ (cU n r) r
 named : ∀ r0 : Rd, r0.adv = r → r0.why = 0 → iJ (dT n r0.next r) r0
theorem lU {r q : Rd} {op ty : Int} {n t : List UInt8} {z : Cx} (st : Step r q 1) (hq : q.why = 0) (hs : zK op ty 0) : r.why = 0 ∧ q.ms = r.ms ∧ r.at' + 1 ≤ q.at' ∧ Wf r.ms r.at' q.at' (.mk op n t ty z [] r.next.at') ∧ size (.mk op n t ty z [] r.next.at') ≤ q.at' - r.at' := by
 obtain ⟨g1, g2, g3⟩ := st hq
 refine ⟨g1, g2, g3, ?_, by simp only [size, aU]; omega⟩
 unfold Wf Wfs
 exact ⟨gM (by omega), hs, trivial⟩
theorem BY : ∀ n (r : Rd), Makes n r := by
 intro n
 induction n using Nat.strongRecOn with
 | _ n ih =>
  intro r
  cases n with
  | zero =>
   refine ⟨?_, ?_, ?_, ?_, ?_, ?_, ?_⟩
   ·intro e q h; simp [a6] at h
   ·intro e q h; simp [dJ] at h
   ·intro e q h; simp [dZ] at h
   ·intro e q h; simp [eJ] at h
   ·intro e q h; simp [cS] at h
   ·intro e q h; simp [cU] at h
   ·intro r0 _ _ e q h; simp [dT] at h
  | succ n =>
   have he : ∀ k, k < n → ∀ r, iJ (a6 k r) r := fun k hk r => (ih k (by omega) r).expr
   have gn := ih n (by omega)
   refine ⟨?_, ?_, ?_, ?_, ?_, ?_, ?_⟩
   ·intro e q hrun hq
    unfold a6 at hrun
    simp only at hrun
    have hr1 : ∀ r1, r1 = (if (binds r && decide (r.lN ≤ r.nest)) = true then r.fail 23 else r) → r1.why = 0 → r1 = r := fun r1 h hw => by
     split at h
     ·rw [h] at hw; exact absurd hw (fB (by decide))
     ·exact h
    generalize hrr : (if (binds r && decide (r.lN ≤ r.nest)) = true then r.fail 23 else r) = r1 at *
    by_cases h0 : r1.why = 0
    ·have e1 := hr1 r1 rfl h0
     subst e1
     rw [if_neg (by simp [h0])] at hrun
     split at hrun
     ·exact (gn r1).cons e q hrun hq
     ·obtain ⟨r2, hr2⟩ : ∃ r2, r2 = (if binds r1 then { r1 with nest := r1.nest + 1 } else r1).adv := ⟨_, rfl⟩
      rw [← hr2] at hrun
      have s2 : r2.ms = r1.ms ∧ r2.at' = r1.at' + 1 ∧ r2.why = r1.why := by
       rw [hr2]
       cases binds r1
       ·exact ⟨rfl, rfl, rfl⟩
       ·exact ⟨rfl, rfl, rfl⟩
      obtain ⟨m2, a2, w2⟩ := s2
      clear hr2
      simp only [Option.map_eq_some_iff, Prod.mk.injEq] at hrun
      obtain ⟨⟨e', q'⟩, hres, he1, he2⟩ := hrun
      simp only at he1 he2
      subst he1
      have hq' : q'.why = 0 ∧ q.ms = q'.ms ∧ q.at' = q'.at' := by
       rw [← he2] at hq ⊢
       split at hq
       ·rename_i hb; rw [if_pos hb]; exact ⟨hq, rfl, rfl⟩
       ·rename_i hb; rw [if_neg hb]; exact ⟨hq, rfl, rfl⟩
      obtain ⟨hw, hm, hat⟩ := hq'
      rw [hm, hat]
      have fin : ∀ op n t ty (args : List Ex), e' = .mk op n t ty ⟨0, 0⟩ args r1.next.at' → zK op ty args.length → q'.ms = r2.ms → r2.at' ≤ q'.at' → Wfs r2.ms r2.at' q'.at' args → aU args ≤ q'.at' - r2.at' →
        r1.why = 0 ∧ q'.ms = r1.ms ∧ r1.at' + 1 ≤ q'.at' ∧ Wf r1.ms r1.at' q'.at' e' ∧ size e' ≤ q'.at' - r1.at' := fun op n t ty args he hs g1 g2 g3 g4 => by
       subst he
       rw [m2] at g3
       refine ⟨h0, g1.trans m2, by omega, ?_, by simp only [size]; omega⟩
       unfold Wf
       exact ⟨gM (by omega), hs, Wfs.mono (by omega) (Nat.le_refl _) _ g3⟩
      split at hres
      ·simp only [Option.map_eq_some_iff, Prod.mk.injEq] at hres
       obtain ⟨⟨l, q2⟩, hl, he1, he3⟩ := hres
       simp only at he1 he3
       subst he3
       obtain ⟨b1, b2, b3, b4, b5⟩ := (j8 (N := n) he _ n r2 (Nat.le_refl _)).1 l q2 hl hw
       have hlen := (j8 (N := n) he _ n r2 (Nat.le_refl _)).2 l q2 hl
       exact fin 19 [] [] 0 l he1.symm (.inr (.inr (.inr (.inr (.inr (.inl ⟨.inl rfl, hlen⟩)))))) b2 (by omega) b4 b5
      ·split at hres
       ·obtain ⟨b1, b2, b3, hd, tl, x, a, b, he1, b4, b5⟩ := uQ (N := n) he n (Nat.le_refl _) r2 _ e' q' hres hw
        exact fin 20 hd tl 0 [x, a, b] he1 (.inr (.inr (.inr (.inr (.inr (.inl ⟨.inr rfl, rfl⟩)))))) b2 b3 b4 b5
       ·simp only [Option.map_eq_some_iff, Prod.mk.injEq] at hres
        obtain ⟨⟨l, q2⟩, hl, he1, he3⟩ := hres
        simp only at he1 he3
        subst he3
        obtain ⟨b1, b2, b3, b4, b5⟩ := (j8 (N := n) he _ n r2.name.2.typ.2 (Nat.le_refl _)).1 l q2 hl hw
        have hlen := (j8 (N := n) he _ n r2.name.2.typ.2 (Nat.le_refl _)).2 l q2 hl
        have st : Step r2 r2.name.2.typ.2 2 := step_name.trans nH
        obtain ⟨j1, j2, j3⟩ := st b1
        rw [j2] at b4
        refine fin _ _ [] r2.name.2.typ.1 l he1.symm (.inr (.inr (.inr (.inr (.inr (.inr ⟨?_, hlen, rL b1⟩)))))) (b2.trans j2) (by omega) (Wfs.mono (by omega) (Nat.le_refl _) _ b4) (by omega)
        split
        ·exact .inr rfl
        ·exact .inl rfl
    ·rw [if_pos h0] at hrun
     simp only [Option.some.injEq, Prod.mk.injEq] at hrun
     obtain ⟨_, rfl⟩ := hrun
     exact absurd hq h0
   ·intro e q hrun hq
    unfold dJ at hrun
    cases hc : dZ n r with
    | none => rw [hc] at hrun; simp at hrun
    | some p =>
     obtain ⟨a, r1⟩ := p
     rw [hc] at hrun
     simp only [Option.bind_some] at hrun
     split at hrun
     ·simp only [Option.map_eq_some_iff, Prod.mk.injEq] at hrun
      obtain ⟨⟨b, r2⟩, hb, he1, he2⟩ := hrun
      simp only at he1 he2
      subst he1 he2
      obtain ⟨g1, g2, g3, g4, g5⟩ := (gn r1.adv).cons b r2 hb hq
      simp only [Rd.adv_why, Rd.adv_ms, Rd.adv_at] at g1 g2 g3 g4 g5
      obtain ⟨k1, k2, k3, k4, k5⟩ := (gn r).comp a r1 hc g1
      rw [k2] at g4
      have := nC (r := r) (r1 := r1) (r2 := r2) (.inr rfl : 8 ≤ (18 : Int) ∧ (18 : Int) ≤ 13 ∨ (18 : Int) = 18) k2 k3 k4 k5 g3 g4 g5
      exact ⟨k1, g2.trans k2, by omega, this.1, this.2⟩
     ·simp only [Option.some.injEq, Prod.mk.injEq] at hrun
      obtain ⟨rfl, rfl⟩ := hrun
      exact (gn r).comp a r1 hc hq
   ·intro e q hrun hq
    unfold dZ at hrun
    cases hc : eJ n r with
    | none => rw [hc] at hrun; simp at hrun
    | some p =>
     obtain ⟨a, r1⟩ := p
     rw [hc] at hrun
     simp only [Option.bind_some] at hrun
     split at hrun
     ·simp only [Option.map_eq_some_iff, Prod.mk.injEq] at hrun
      obtain ⟨⟨b, r2⟩, hb, he1, he2⟩ := hrun
      simp only at he1 he2
      subst he1 he2
      obtain ⟨g1, g2, g3, g4, g5⟩ := (gn r1.adv).sum b r2 hb hq
      simp only [Rd.adv_why, Rd.adv_ms, Rd.adv_at] at g1 g2 g3 g4 g5
      obtain ⟨k1, k2, k3, k4, k5⟩ := (gn r).sum a r1 hc g1
      rw [k2] at g4
      have := nC (r := r) (r1 := r1) (r2 := r2) (op := if r1.is [60] then 13 else 12) (.inl (by split <;> omega)) k2 k3 k4 k5 g3 g4 g5
      exact ⟨k1, g2.trans k2, by omega, this.1, this.2⟩
     ·simp only [Option.some.injEq, Prod.mk.injEq] at hrun
      obtain ⟨rfl, rfl⟩ := hrun
      exact (gn r).sum a r1 hc hq
   ·intro e q hrun hq
    unfold eJ at hrun
    cases hc : cS n r with
    | none => rw [hc] at hrun; simp at hrun
    | some p =>
     obtain ⟨a, r1⟩ := p
     rw [hc] at hrun
     simp only [Option.bind_some] at hrun
     have key := A1 (N := n) (fun k hk r => (ih k (by omega) r).term) n a r r1 e q (Nat.le_refl _) hrun hq (fun hw => ((gn r).term a r1 hc hw).2)
     exact ⟨((gn r).term a r1 hc key.1).1, key.2⟩
   ·intro e q hrun hq
    unfold cS at hrun
    cases hc : cU n r with
    | none => rw [hc] at hrun; simp at hrun
    | some p =>
     obtain ⟨a, r1⟩ := p
     rw [hc] at hrun
     simp only [Option.bind_some] at hrun
     have key := zM (N := n) (fun k hk r => (ih k (by omega) r).unit) n a r r1 e q (Nat.le_refl _) hrun hq (fun hw => ((gn r).unit a r1 hc hw).2)
     exact ⟨((gn r).unit a r1 hc key.1).1, key.2⟩
   ·intro e q hrun hq
    unfold cU at hrun
    by_cases g1 : r.why = 0
    ·rw [if_neg (by simp [g1])] at hrun
     by_cases g2 : r.next.kind = 2
     ·rw [if_pos g2] at hrun
      simp only [Option.some.injEq, Prod.mk.injEq] at hrun
      obtain ⟨rfl, rfl⟩ := hrun
      exact lU step_adv hq (.inl ⟨.inl rfl, rfl⟩)
     ·rw [if_neg g2] at hrun
      by_cases g3 : r.next.kind = 0
      ·rw [if_pos g3] at hrun
       exact (gn r.adv).named r rfl g1 e q hrun hq
      ·rw [if_neg g3] at hrun
       cases g4 : r.is [40] <;> rw [g4] at hrun
       ·rw [if_neg (by decide)] at hrun
        by_cases g5 : ¬ r.next.kind = 1 ∨ bT r.next.text = 0
        ·rw [if_pos g5] at hrun
         simp only [Option.some.injEq, Prod.mk.injEq] at hrun
         obtain ⟨_, rfl⟩ := hrun
         exact absurd hq (fB (by decide))
        ·rw [if_neg g5] at hrun
         by_cases g6 : bT r.next.text = 5
         ·rw [if_pos g6] at hrun
          simp only [Option.some.injEq, Prod.mk.injEq] at hrun
          obtain ⟨rfl, rfl⟩ := hrun
          have st : Step r r.adv.typ.2 2 := step_adv.trans nH
          exact lU (fun h => by obtain ⟨a, b, c⟩ := st h; exact ⟨a, b, by omega⟩) hq (.inr (.inl ⟨rfl, rfl, rL hq⟩))
         ·rw [if_neg g6] at hrun
          by_cases g7 : 14 ≤ bT r.next.text
          ·rw [if_pos g7] at hrun
           simp only [Option.map_eq_some_iff, Prod.mk.injEq] at hrun
           obtain ⟨⟨x, q2⟩, hx, he1, he2⟩ := hrun
           simp only at he1 he2
           subst he1 he2
           obtain ⟨j1, j2, j3⟩ := step_want hq
           obtain ⟨b1, b2, b3, b4, b5⟩ := (gn _).expr x q2 hx j1
           have st : Step r (r.adv.want [40]) 2 := step_adv.trans step_want
           obtain ⟨i1, i2, i3⟩ := st b1
           rw [i2] at b4
           have hv := lB r.next.text
           refine ⟨g1, j2.trans (b2.trans i2), by omega, ?_, by simp only [size, aU]; omega⟩
           unfold Wf Wfs Wfs
           exact ⟨gM (by omega), .inr (.inr (.inr (.inr (.inl ⟨g7, by omega, rfl⟩)))), Wf.mono (by omega) (by omega) _ b4, trivial⟩
          ·rw [if_neg g7] at hrun
           simp only [Option.some.injEq, Prod.mk.injEq] at hrun
           obtain ⟨rfl, rfl⟩ := hrun
           have hv := lB r.next.text
           have h0 : bT r.next.text ≠ 0 := fun h => g5 (.inr h)
           exact lU step_adv hq (.inl ⟨by omega, rfl⟩)
       ·rw [if_pos rfl] at hrun
        simp only [Option.map_eq_some_iff, Prod.mk.injEq] at hrun
        obtain ⟨⟨x, q2⟩, hx, he1, he2⟩ := hrun
        simp only at he1 he2
        subst he1 he2
        obtain ⟨j1, j2, j3⟩ := step_want hq
        obtain ⟨b1, b2, b3, b4, b5⟩ := (gn _).expr x q2 hx j1
        simp only [Rd.adv_why, Rd.adv_ms, Rd.adv_at] at b1 b2 b3 b4 b5
        exact ⟨g1, j2.trans b2, by omega, Wf.mono (by omega) (by omega) _ b4, by omega⟩
    ·rw [if_pos g1] at hrun
     simp only [Option.some.injEq, Prod.mk.injEq] at hrun
     obtain ⟨_, rfl⟩ := hrun
     exact absurd hq g1
   ·intro r0 h0 w0 e q hrun hq
    subst h0
    unfold dT at hrun
    split at hrun
    ·simp only [Option.map_eq_some_iff, Prod.mk.injEq] at hrun
     obtain ⟨⟨l, q2⟩, hl, he1, he2⟩ := hrun
     simp only at he1 he2
     subst he1 he2
     obtain ⟨j1, j2, j3⟩ := step_want hq
     obtain ⟨b1, b2, b3, b4, b5⟩ := xU (N := n) he n [] r0.adv.adv r0.adv.adv l q2 (Nat.le_refl _) hl j1 (fun _ => ⟨rfl, Nat.le_refl _, by unfold Wfs; trivial, by simp [aU]⟩)
     simp only [Rd.adv_why, Rd.adv_ms, Rd.adv_at] at b1 b2 b3 b4 b5
     refine ⟨w0, j2.trans b2, by omega, ?_, by simp only [size]; omega⟩
     unfold Wf
     exact ⟨gM (by omega), .inr (.inr (.inl rfl)), Wfs.mono (by omega) (by omega) _ b4⟩
    ·simp only [Option.some.injEq, Prod.mk.injEq] at hrun
     obtain ⟨rfl, rfl⟩ := hrun
     exact lU step_adv hq (.inl ⟨by simp, rfl⟩)
def PmOk (ms : List Mk) (a b : Nat) (p : Pm) : Prop := placeIn ms a b p.at' ∧ tyOk p.type
structure FnOk (ms : List Mk) (a b : Nat) (f : Fn) : Prop where
 lt : a < b
 place : f.at' = (ms[a]?.getD default).at'
 type : tyOk f.type
 params : ∀ p ∈ f.params, PmOk ms (a + 1) b p
 len : f.params.length ≤ b - a
 body : Wf ms (a + 1) b f.body
 size : size f.body ≤ b - a
def Fns (ms : List Mk) : Nat → List Fn → Nat → Prop
 | a, [], b => a ≤ b
 | a, f :: fs, b => ∃ c, FnOk ms a c f ∧ Fns ms c fs b
theorem xW : ∀ n l (r0 r : Rd) L q, b8 n l r = some (L, q) → q.why = 0 → (r.why = 0 → r.ms = r0.ms ∧ r0.at' ≤ r.at' ∧ (∀ p ∈ l, PmOk r0.ms r0.at' r.at' p) ∧ l.length ≤ r.at' - r0.at') →
  r.why = 0 ∧ q.ms = r0.ms ∧ r0.at' ≤ q.at' ∧ (∀ p ∈ L, PmOk r0.ms r0.at' q.at' p) ∧ L.length ≤ q.at' - r0.at' := by
 intro n
 induction n with
 | zero => intro l r0 r L q h; simp [b8] at h
 | succ n ih =>
  intro l r0 r L q hrun hq ha
  unfold b8 at hrun
  split at hrun
  ·rename_i hs
   obtain ⟨k1, k2, k3, k4⟩ := ha hs.1
   have s1 : Step r (pw r l) 0 := by
    unfold pw; split
    ·exact Step.refl
    ·intro h
     obtain ⟨g1, g2, g3⟩ := step_want h
     exact ⟨g1, g2, by omega⟩
   have s2 : Step (pw r l) (pf (pw r l) l) 0 := by
    unfold pf; split
    ·exact jS (by decide)
    ·exact Step.refl
   generalize pf (pw r l) l = z at *
   have key : z.name.2.typ.2.why = 0 → z.name.2.typ.2.ms = r0.ms ∧ r0.at' ≤ z.name.2.typ.2.at' ∧ (∀ p ∈ l ++ [⟨z.name.1.text, z.name.2.typ.1, z.name.1.at'⟩], PmOk r0.ms r0.at' z.name.2.typ.2.at' p) ∧ (l ++ [(⟨z.name.1.text, z.name.2.typ.1, z.name.1.at'⟩ : Pm)]).length ≤ z.name.2.typ.2.at' - r0.at' := fun hw => by
    have t := rL hw
    obtain ⟨a1, a2, a3⟩ := nH hw
    have np := rE a1
    obtain ⟨b1, b2, b3⟩ := step_name a1
    obtain ⟨c1, c2, c3⟩ := (s1.trans s2) b1
    have hm : z.ms = r0.ms := c2.trans k1
    refine ⟨a2.trans (b2.trans hm), by omega, fun p hp => ?_, by simp only [List.length_append, List.length_cons, List.length_nil]; omega⟩
    rw [List.mem_append, List.mem_singleton] at hp
    rcases hp with hp | rfl
    ·obtain ⟨e1, e2⟩ := k3 p hp
     exact ⟨e1.mono (Nat.le_refl _) (by omega), e2⟩
    ·refine ⟨?_, t⟩
     simp only
     rw [np]
     have := gM (r := z) (b := z.name.2.typ.2.at') (by omega)
     rw [hm] at this
     exact this.mono (by omega) (Nat.le_refl _)
   obtain ⟨m1, m2⟩ := ih _ r0 _ L q hrun hq key
   exact ⟨hs.1, m2⟩
  ·simp only [Option.some.injEq, Prod.mk.injEq] at hrun
   obtain ⟨rfl, rfl⟩ := hrun
   obtain ⟨k1, k2, k3, k4⟩ := ha hq
   exact ⟨hq, k1, k2, k3, k4⟩
theorem DY {n : Nat} {r : Rd} {c : Nat} {f : Fn} {q : Rd} (hrun : iG n r c = some (f, q)) (hq : q.why = 0) : r.why = 0 ∧ q.ms = r.ms ∧ FnOk r.ms r.at' q.at' f := by
 unfold iG at hrun
 have s0 : Step r (df r c) 0 := by
  unfold df; split
  ·exact jS (by decide)
  ·exact Step.refl
 have hdf : (df r c).why = 0 → df r c = r := fun h => by
  unfold df at h ⊢
  split at h
  ·exact absurd h (fB (by decide))
  ·rename_i g; rw [if_neg g]
 have s1 : Step (df r c) ((df r c).name.2.want [40]) 2 := step_name.trans step_want
 cases hp : b8 n [] ((df r c).name.2.want [40]) with
 | none => rw [hp] at hrun; simp at hrun
 | some p =>
  obtain ⟨ps, r4⟩ := p
  rw [hp] at hrun
  simp only [Option.bind_some, Option.map_eq_some_iff, Prod.mk.injEq] at hrun
  obtain ⟨⟨body, r9⟩, hb, he1, he2⟩ := hrun
  simp only at he1 he2
  subst he1 he2
  obtain ⟨a1, a2, a3⟩ := step_want hq
  obtain ⟨b1, b2, b3, b4, b5⟩ := (BY n _).expr body r9 hb a1
  have s2 : Step ((r4.want [41]).want [58]).typ.2 (((r4.want [41]).want [58]).typ.2.want [61]) 1 := step_want
  obtain ⟨c1, c2, c3⟩ := s2 b1
  have ht := rL c1
  obtain ⟨d1, d2, d3⟩ := ((step_want.trans step_want).trans nH : Step r4 ((r4.want [41]).want [58]).typ.2 3) c1
  obtain ⟨e1, e2, e3, e4, e5⟩ := xW n [] _ _ ps r4 hp d1 (fun _ => ⟨rfl, Nat.le_refl _, fun p hp => by simp at hp, by simp⟩)
  obtain ⟨f1, f2, f3⟩ := s1 e1
  obtain ⟨g1, g2, g3⟩ := s0 f1
  have hr := hdf f1
  have hn1 : (df r c).name.2.why = 0 := (step_want e1).1
  have np := rE hn1
  have hm4 : r4.ms = r.ms := e2.trans (f2.trans g2)
  rw [f2, g2] at e4
  rw [c2, d2, hm4] at b4
  refine ⟨g1, a2.trans (b2.trans (c2.trans (d2.trans hm4))), ⟨by omega, ?_, ht, fun p hp => ?_, by simp only; omega, Wf.mono (by omega) (by omega) _ b4, by simp only; omega⟩⟩
  ·simp only
   rw [np, hr]; rfl
  ·obtain ⟨h1, h2⟩ := e4 p hp
   exact ⟨h1.mono (by omega) (by omega), h2⟩
theorem uL : ∀ n l (r : Rd) L q, c7 n l r = some (L, q) → q.why = 0 → r.why = 0 ∧ q.ms = r.ms ∧ ∃ k, L = l ++ k ∧ Fns r.ms r.at' k q.at' ∧ (l = [] → k ≠ []) := by
 intro n
 induction n with
 | zero => intro l r L q h; simp [c7] at h
 | succ n ih =>
  intro l r L q hrun hq
  unfold c7 at hrun
  split at hrun
  ·rename_i hs
   cases hd : iG n r l.length with
   | none => rw [hd] at hrun; simp at hrun
   | some p =>
    obtain ⟨f, r2⟩ := p
    rw [hd] at hrun
    simp only [Option.bind_some] at hrun
    obtain ⟨a1, a2, k, a3, a4, _⟩ := ih _ r2 L q hrun hq
    obtain ⟨b1, b2, b3⟩ := DY hd a1
    rw [b2] at a4
    exact ⟨hs.1, a2.trans b2, f :: k, by rw [a3]; simp, ⟨r2.at', b3, a4⟩, fun _ => by simp⟩
  ·rename_i hs
   simp only [Option.some.injEq, Prod.mk.injEq] at hrun
   obtain ⟨rfl, rfl⟩ := hrun
   refine ⟨hq, rfl, [], by simp, Nat.le_refl _, fun h => ?_⟩
   exact absurd ⟨hq, .inl h⟩ hs
def mC (ms : List Mk) : Prop := ∀ i j, i < j → j < ms.length → (ms[i]?.getD default).at' < (ms[j]?.getD default).at'
theorem pG {ms : List Mk} {m : Mk} (h : mC ms) (hb : ∀ i, i < ms.length → (ms[i]?.getD default).at' < m.at') : mC (ms ++ [m]) := by
 intro i j hij hj
 simp only [List.length_append, List.length_cons, List.length_nil] at hj
 have hi : i < ms.length := by omega
 rw [List.getElem?_append_left hi]
 by_cases e : j < ms.length
 ·rw [List.getElem?_append_left e]; exact h i j hij e
 ·have : j = ms.length := by omega
  subst this
  rw [List.getElem?_append_right (Nat.le_refl _)]
  simpa using hb i hi
theorem one_at {t : List UInt8} {p : Nat} : (eI t p).1.at' = p := by
 unfold eI
 split
 ·rfl
 ·split
  ·rfl
  ·split
   ·rfl
   ·rfl
theorem fI : ∀ (f : Nat) (t : List UInt8) (p : Nat) (out : List Mk), p ≤ t.length → mC out → (∀ i, i < out.length → (out[i]?.getD default).at' < p) → (cP f t p out).2 < 0 → mC (cP f t p out).1
 | 0, t, p, out, _, _, _, h => by simp [cP] at h
 | f + 1, t, p, out, hp, hr, hb, h => by
  unfold cP at h ⊢
  by_cases c1 : p < t.length
  ·rw [if_pos c1] at h ⊢
   by_cases c2 : kJ (bt8 t p) = true
   ·rw [if_pos c2] at h ⊢
    exact fI f t _ out (by omega) hr (fun i hi => by have := hb i hi; omega) h
   ·rw [if_neg c2] at h ⊢
    by_cases c3 : bt8 t p = 35
    ·rw [if_pos c3] at h ⊢
     have hc := kT t.length t p hp
     exact fI f t _ out hc.2 hr (fun i hi => by have := hb i hi; omega) h
    ·rw [if_neg c3] at h ⊢
     by_cases c4 : (eI t p).2 = true
     ·rw [if_pos c4] at h ⊢
      obtain ⟨l1, l2⟩ := sD c1 c4
      have ha := one_at (t := t) (p := p)
      refine fI f t _ _ l2 (pG hr fun i hi => by have := hb i hi; omega) (fun i hi => ?_) h
      simp only [List.length_append, List.length_cons, List.length_nil] at hi
      by_cases e : i < out.length
      ·rw [List.getElem?_append_left e]
       have := hb i e; omega
      ·have : i = out.length := by omega
       subst this
       rw [List.getElem?_append_right (Nat.le_refl _)]
       simp only [Nat.sub_self, List.getElem?_cons_zero, Option.getD_some]
       omega
     ·rw [if_neg c4] at h; simp only at h; omega
  ·rw [if_neg c1] at h ⊢
   exact pG hr fun i hi => by
    have := hb i hi
    simp only [pC]; omega
def vZ (L : List Fn) : Prop := ∃ ms a b, MOk ms ∧ ms.length ≤ 2 ^ 21 ∧ mC ms ∧ b < ms.length ∧ Fns ms a L b ∧ L ≠ []
def oA (t : List UInt8) (L : List Fn) (w p : Int) : Prop :=
 Pure Tryz.prog 22 [.sl (em dB t), limD 32768 32768 32768 32768] (resD L w p) ∧ (w = 0 → vZ L) ∧ (w ≠ 0 → L = [])
theorem yL (t : List UInt8) (ht : t.length ≤ 32768) (hm : (c6 t).2 < 0) {n : Nat} (hN : n ≤ 2 ^ 40) {L : List Fn} {q : Rd} (hp : c7 n [] (rd0 t 32768 32768 32768 32768) = some (L, q)) (hw : q.why = 0) (hlt : q.at' < (c6 t).1.length) : oA t L 0 0 := by
 have hk := uJ (t := t) (lt := 32768) (lF := 32768) (lA := 32768) (lN := 32768) (by omega) hm (by decide)
 have hc := u3 t ht hm hN hp
 rw [if_pos hw] at hc
 obtain ⟨g1, g2, k, g3, g4, g5⟩ := uL _ _ _ L q hp hw
 simp only [List.nil_append] at g3
 subst g3
 refine ⟨hc, fun _ => ⟨(c6 t).1, 0, q.at', hk.ms, hk.len, ?_, hlt, g4, g5 rfl⟩, fun h => absurd rfl h⟩
 exact fI _ t 0 [] (by omega) (fun i j _ h => by simp at h) (fun i h => by simp at h) hm
theorem uE {α : Type} {o : Option α} {d : α} (h : o.isSome = true) : o = some (o.getD d) := by
 cases o with
 | none => simp at h
 | some x => rfl
theorem FX {a b c d : Int} : bG Tryz.prog .eql 31 (.agg [I a, I b]) (.agg [I c, I d]) = some (.pl (.bool (decide (a = c ∧ b = d)))) := by
 refine (EN (vs := [.int .i64 a, .int .i64 b]) (us := [.int .i64 c, .int .i64 d]) Tryz.underlying31 (by kernel_rfl) (by kernel_rfl) rfl rfl ?_).1
 simp [qR, scal, Tryz.underlying29, Tryz.underlying3]
 rw [Bool.eq_iff_iff]; simp
theorem wt_u8 {n : Nat} {ds : List D} (h : Wt Tryz.prog n 5 ds) : ∃ b : UInt8, ds = dB b ∧ True := by
 cases n with
 | zero => exact h.elim
 | succ n =>
  simp only [Wt, Tryz.underlying5] at h
  obtain ⟨z, rfl, hz⟩ := h
  simp [Lit.wf, IntKind.min, IntKind.max, IntKind.signed, IntKind.bits] at hz
  refine ⟨UInt8.ofNat z.toNat, ?_, trivial⟩
  unfold dB
  have : (((UInt8.ofNat z.toNat).toNat : Nat) : Int) = z := by
   rw [UInt8.toNat_ofNat']
   omega
  rw [this]
theorem EK {n : Nat} {ds : List D} (h : Wt Tryz.prog n 22 ds) : ∃ l : List UInt8, ds = [.sl (em dB l)] ∧ l.length < 2 ^ 48 := by
 cases n with
 | zero => exact h.elim
 | succ n =>
  simp only [Wt, Tryz.underlying22] at h
  obtain ⟨es, rfl, hl, he⟩ := h
  obtain ⟨l, rfl, _⟩ := sK (enc := dB) (p := fun _ => True) fun c hc => wt_u8 (he c hc)
  refine ⟨l, rfl, ?_⟩
  have hb : Tryz.prog.bytesOf 5 = 1 := by kernel_rfl
  rw [hb, wC] at hl
  unfold reachBytes at hl
  omega
theorem BB {x : D} (h : Arg Tryz.prog 22 x) : ∃ l : List UInt8, x = .sl (em dB l) ∧ l.length < 2 ^ 48 := by
 obtain ⟨n, ds, h, k⟩ := h
 simp only [Tryz.underlying22] at k
 obtain ⟨l, rfl, h1⟩ := EK h
 simp only [List.cons.injEq, and_true] at k
 exact ⟨l, k.symm, h1⟩
set_option maxRecDepth 1000000
set_option maxHeartbeats 0
noncomputable def cf46 : Cfg := ⟨Tryz.prog, 32, [0, 1, 2, 4, 5], []⟩
noncomputable def ac46 : AC :=
 (.seq (.reg [JN 2 0, JP 4 (.mv (.c (.slice none 0 0)))]) (.seq (.block 0 (.seq (.ifr [JG 6 0 2, JD 7 1 6, JO 8 (.bin .eql 39 (.t 7) (JT 21)), JB 5 8] (.g 5) .skip (.reg [JG 9 0 2, JD 10 1 9, JO 11 (.bin .eql 39 (.t 10) (JT 22)), JC 12 11, JS 13 12 (.mv (.g 1)), JS 14 12 (.bin .eql 3 (.t 13) (JT 1)), JO 15 (.pick (.t 12) (.t 14) JY), JB 5 15])) (.cond (.g 5) (.seq (.reg [JG 16 1 2, JD 17 1 16, JO 18 (.bsl 1 1 [JU] [(0, 1, .t 17)]), JB 4 18]) .ret) (.ifr [JG 20 0 2, JD 21 1 20, JO 22 (.bin .eql 39 (.t 21) (JT 20)), JC 23 22, JS 24 23 (.mv (.g 1)), JS 25 23 (.bin .eql 3 (.t 24) (JT 2)), JO 26 (.pick (.t 23) (.t 25) JY), JC 19 26] (.t 19) (.seq (.reg [JG 27 1 2, JD 28 1 27, JG 29 2 2, JD 30 1 29, JO 31 (.bsl 1 2 [JU] [(0, 1, .t 28), (1, 1, .t 30)]), JB 4 31]) .ret) .skip)))) (.seq (.reg [JP 4 (.mv (.c (.slice none 0 0)))]) .ret)))
theorem fi46 : FI Tryz.prog 46 cf46 ac46 [.t 4] [0, 1, 2, 4, 5] 32 := FI_of (c := Tryz.f46.body.getD .skip) Tryz.func46 (by kernel_rfl) (by rfl) (by rfl) (by kernel_rfl) (by kernel_rfl) rfl rfl rfl
@[simp] theorem cfP46 : cf46.P = Tryz.prog := (rfl)
noncomputable def cf25 : Cfg := ⟨Tryz.prog, 55, [0, 1, 2, 3, 6, 7, 8, 10, 12, 18, 19, 20, 28, 29, 30, 43, 44, 45], [16, 42]⟩
noncomputable def lb25_0 : AC :=
 .seq (.ifr [JO 46 (.bin .lss 3 (.g 45) (.g 44))] (.t 46) .skip (.exit 4)) (.seq (.block 5 (.seq (.reg [JO 47 (.ia 1 (.g 43) (.g 45)), JD 48 1 47, JB 12 48]) (.reg [JA 49 1, JA 50 12, JO 51 (.lk none (.int .i64 0) false (.t 49) (.t 50)), JO 52 (.bin .sub 3 (.t 51) (JT 1)), JQ (.mup none (.t 49) (.t 50) (.t 52))]))) (.reg [JO 53 (.bin .add 3 (.g 45) (JT 1)), JB 45 53]))
noncomputable def lb25_1 : AC :=
 .seq (.ifr [JO 31 (.bin .lss 3 (.g 30) (.g 29))] (.t 31) .skip (.exit 2)) (.seq (.block 3 (.seq (.reg [JO 32 (.ia 1 (.g 28) (.g 30)), JD 33 1 32, JB 10 33]) (.reg [JA 34 1, JA 35 10, JO 36 (.lk none (.int .i64 0) false (.t 34) (.t 35)), JO 37 (.bin .add 3 (.t 36) (JT 1)), JQ (.mup none (.t 34) (.t 35) (.t 37))]))) (.reg [JO 38 (.bin .add 3 (.g 30) (JT 1)), JB 30 38]))
noncomputable def lb25_2 : AC :=
 .seq (.ifr [JO 21 (.bin .lss 3 (.g 20) (.g 19))] (.t 21) .skip (.exit 0)) (.seq (.block 1 (.seq (.reg [JA 22 20, JO 23 (.ia 7 (.g 18) (.g 20)), JE 24 7 23, JP 7 (.al [JV, JU, JU, JV, .complex .f64 0 0, JW, JV]), JB 6 22, JQ (.st 7 (.g 7) (.t 24))]) (.seq (.reg [JF 25 7 3, JA 26 6, JO 27 (.pc (.f 46) [.t 25, .t 26]), JB 8 27]) (.seq (.seq (.reg [JP 28 (.mv (.g 8)), JP 29 (.len false (.g 28)), JI 30 0]) (.block 2 (.loop lb25_1))) (.seq (.reg [JF 39 7 7, JA 40 1, JA 41 2, JO 42 (.cl (.f 25) [.t 39, .t 40, .t 41])]) (.seq (.reg [JP 43 (.mv (.g 8)), JP 44 (.len false (.g 43)), JI 45 0]) (.block 4 (.loop lb25_0)))))))) (.reg [JO 54 (.bin .add 3 (.g 20) (JT 1)), JB 20 54]))
noncomputable def ac25 : AC :=
 (.seq (.reg [JN 3 0]) (.seq (.reg [JA 13 2, JF 14 7 3, JA 15 1, JO 16 (.cl (.t 13) [.t 14, .t 15])]) (.seq (.reg [JG 17 5 3, JP 18 (.ld false 1 (.t 17)), JP 19 (.len false (.g 18)), JI 20 0]) (.block 0 (.loop lb25_2)))))
theorem fi25 : FI Tryz.prog 25 cf25 ac25 [] [0, 1, 2, 3, 6, 7, 8, 10, 12, 18, 19, 20, 28, 29, 30, 43, 44, 45] 55 := FI_of (c := Tryz.f25.body.getD .skip) Tryz.func25 (by kernel_rfl) (by rfl) (by rfl) (by kernel_rfl) (by kernel_rfl) rfl rfl rfl
@[simp] theorem cfP25 : cf25.P = Tryz.prog := (rfl)
noncomputable def cf8 : Cfg := ⟨Tryz.prog, 75, [0, 1, 2, 3, 4, 5, 6, 7, 9, 10, 12, 16, 17, 18, 39, 40, 41, 47, 48, 49], [1, 31, 61, 72]⟩
noncomputable def lb8_0 : AC :=
 .seq (.ifr [JO 50 (.bin .lss 3 (.g 49) (.g 48))] (.t 50) .skip (.exit 4)) (.seq (.block 5 (.seq (.reg [JO 51 (.ia 3 (.g 47) (.g 49)), JE 52 3 51, JP 12 (.al [JU, JV, JV]), JQ (.st 3 (.g 12) (.t 52))]) (.seq (.ifr [JA 53 10, JG 54 0 12, JD 55 1 54, JO 56 (.lk none (.int .i64 0) false (.t 53) (.t 55)), JO 57 (.bin .gtr 3 (.t 56) (JT 0))] (.t 57) (.reg [JO 58 (.ld false 1 (.g 4)), JG 59 2 12, JD 60 1 59, JO 61 (.cl (.t 58) [.c (.int .i64 30), .t 60])]) .skip) (.reg [JA 62 10, JG 63 0 12, JD 64 1 63, JO 65 (.lk none (.int .i64 0) false (.t 62) (.t 64)), JO 66 (.bin .add 3 (.t 65) (JT 1)), JQ (.mup none (.t 62) (.t 64) (.t 66))])))) (.reg [JO 67 (.bin .add 3 (.g 49) (JT 1)), JB 49 67]))
noncomputable def lb8_1 : AC :=
 .seq (.ifr [JO 42 (.bin .lss 3 (.g 41) (.g 40))] (.t 42) .skip (.exit 2)) (.seq (.block 3 (.seq (.reg [JO 43 (.ia 11 (.g 39) (.g 41)), JE 44 11 43, JP 9 (.al [JU, JW, JV, JV, JU, JU, JV, .complex .f64 0 0, JW, JV, JV]), JQ (.st 11 (.g 9) (.t 44))]) (.seq (.reg [.mk (.t 45) none .mkm, JB 10 45]) (.seq (.seq (.reg [JG 46 1 9, JP 47 (.ld false 1 (.t 46)), JP 48 (.len false (.g 47)), JI 49 0]) (.block 4 (.loop lb8_0))) (.reg [JG 68 3 9, JE 69 7 68, JA 70 10, JO 71 (.mkf 26 [.g 5, .g 4, .g 1]), JO 72 (.cl (.f 25) [.t 69, .t 70, .t 71])]))))) (.reg [JO 73 (.bin .add 3 (.g 41) (JT 1)), JB 41 73]))
noncomputable def lb8_2 : AC :=
 .seq (.ifr [JO 19 (.bin .lss 3 (.g 18) (.g 17))] (.t 19) .skip (.exit 0)) (.seq (.block 1 (.seq (.reg [JA 20 18, JO 21 (.ia 11 (.g 16) (.g 18)), JE 22 11 21, JP 7 (.al [JU, JW, JV, JV, JU, JU, JV, .complex .f64 0 0, JW, JV, JV]), JB 6 20, JQ (.st 11 (.g 7) (.t 22))]) (.ifr [JO 23 (.ld false 1 (.g 5)), JG 24 0 7, JD 25 1 24, JO 26 (.lk none (.int .i64 0) false (.t 23) (.t 25)), JO 27 (.bin .gtr 3 (.t 26) (JT 0))] (.t 27) (.reg [JO 28 (.ld false 1 (.g 4)), JG 29 10 7, JD 30 1 29, JO 31 (.cl (.t 28) [.c (.int .i64 30), .t 30])]) (.reg [JO 32 (.ld false 1 (.g 5)), JG 33 0 7, JD 34 1 33, JA 35 6, JO 36 (.bin .add 3 (.t 35) (JT 1)), JQ (.mup none (.t 32) (.t 34) (.t 36))])))) (.reg [JO 37 (.bin .add 3 (.g 18) (JT 1)), JB 18 37]))
noncomputable def ac8 : AC :=
 (.seq (.reg [JP 1 (.bx (.g 0)), JP 2 (.al [JV, JV])]) (.seq (.reg [JP 3 (.al [JV, JV])]) (.seq (.reg [JO 13 (.mkf 24 [.g 3]), JP 4 (.al [.nilFunc]), JQ (.st 1 (.g 4) (.t 13))]) (.seq (.reg [.mk (.t 14) none .mkm, JP 5 (.al [.map none]), JQ (.st 1 (.g 5) (.t 14))]) (.seq (.seq (.reg [JG 15 0 1, JP 16 (.ld false 1 (.t 15)), JP 17 (.len false (.g 16)), JI 18 0]) (.block 0 (.loop lb8_2))) (.seq (.seq (.reg [JG 38 0 1, JP 39 (.ld false 1 (.t 38)), JP 40 (.len false (.g 39)), JI 41 0]) (.block 2 (.loop lb8_1))) (.seq (.reg [JF 74 2 3, JQ (.st 2 (.g 2) (.t 74))]) .ret)))))))
theorem fi8 : FI Tryz.prog 8 cf8 ac8 [.c 2 true 2] [0, 1, 2, 3, 4, 5, 6, 7, 9, 10, 12, 16, 17, 18, 39, 40, 41, 47, 48, 49] 75 := FI_of (c := Tryz.f8.body.getD .skip) Tryz.func8 (by kernel_rfl) (by rfl) (by rfl) (by kernel_rfl) (by kernel_rfl) rfl rfl rfl
@[simp] theorem cfP8 : cf8.P = Tryz.prog := (rfl)
noncomputable def cf24 : Cfg := ⟨Tryz.prog, 17, [0, 1, 2], []⟩
noncomputable def ac24 : AC :=
 (.ifr [JG 5 0 2, JD 6 1 5, JO 7 (.bin .eql 29 (.t 6) (JT 0)), JC 8 7, JR 9 8 (.mv (.g 1)), JR 10 8 (.fa 1 (.g 2)), JR 11 8 (.ld false 1 (.t 10)), JR 12 8 (.bin .lss 3 (.t 9) (.t 11)), JO 13 (.pick (.t 8) JX (.t 12))] (.t 13) (.reg [JA 14 0, JA 15 1, JO 16 (.bld [JV, JV] [(0, 1, .t 14), (1, 1, .t 15)]), JQ (.st 2 (.g 2) (.t 16))]) .skip)
theorem fi24 : FI Tryz.prog 24 cf24 ac24 [] [0, 1, 2] 17 := FI_of (c := Tryz.f24.body.getD .skip) Tryz.func24 (by kernel_rfl) (by rfl) (by rfl) (by kernel_rfl) (by kernel_rfl) rfl rfl rfl
@[simp] theorem cfP24 : cf24.P = Tryz.prog := (rfl)
noncomputable def cf26 : Cfg := ⟨Tryz.prog, 61, [0, 1, 2, 3, 4, 5, 7], [26, 38, 60]⟩
noncomputable def ac26 : AC :=
 (.seq (.reg [JN 5 0]) (.seq (.reg [JO 8 (.ld false 1 (.g 2)), JG 9 1 5, JD 10 1 9, JO 11 (.lk none (.int .i64 0) false (.t 8) (.t 10)), JB 7 11]) (.block 0 (.ifr [JG 13 0 5, JD 14 1 13, JO 15 (.bin .eql 39 (.t 14) (JT 6)), JC 16 15, JS 17 16 (.mv (.g 1)), JS 18 16 (.fa 1 (.g 5)), JS 19 16 (.ld false 1 (.t 18)), JS 20 16 (.lk none (.int .i64 0) false (.t 17) (.t 19)), JS 21 16 (.bin .eql 3 (.t 20) (JT 0)), JO 22 (.pick (.t 16) (.t 21) JY), JC 12 22] (.t 12) (.reg [JO 23 (.ld false 1 (.g 3)), JG 24 6 5, JD 25 1 24, JO 26 (.cl (.t 23) [.c (.int .i64 31), .t 25])]) (.ifr [JG 28 0 5, JD 29 1 28, JO 30 (.bin .eql 39 (.t 29) (JT 7)), JC 31 30, JS 32 31 (.mv (.g 7)), JS 33 31 (.bin .eql 3 (.t 32) (JT 0)), JO 34 (.pick (.t 31) (.t 33) JY), JC 27 34] (.t 27) (.reg [JO 35 (.ld false 1 (.g 3)), JG 36 6 5, JD 37 1 36, JO 38 (.cl (.t 35) [.c (.int .i64 32), .t 37])]) (.ifr [JG 40 0 5, JD 41 1 40, JO 42 (.bin .eql 39 (.t 41) (JT 7)), JC 43 42, JS 44 43 (.fa 0 (.g 4)), JS 45 43 (.ld false 1 (.t 44)), JS 46 43 (.mv (.g 7)), JS 47 43 (.bin .sub 3 (.t 46) (JT 1)), JS 48 43 (.ia 11 (.t 45) (.t 47)), JS 49 43 (.fa 1 (.t 48)), JS 50 43 (.ld false 1 (.t 49)), JS 51 43 (.len false (.t 50)), JS 52 43 (.fa 5 (.g 5)), JS 53 43 (.ld false 1 (.t 52)), JS 54 43 (.len false (.t 53)), JS 55 43 (.bin .neq 3 (.t 51) (.t 54)), JO 56 (.pick (.t 43) (.t 55) JY), JC 39 56] (.t 39) (.reg [JO 57 (.ld false 1 (.g 3)), JG 58 6 5, JD 59 1 58, JO 60 (.cl (.t 57) [.c (.int .i64 33), .t 59])]) .skip))))))
theorem fi26 : FI Tryz.prog 26 cf26 ac26 [] [0, 1, 2, 3, 4, 5, 7] 61 := FI_of (c := Tryz.f26.body.getD .skip) Tryz.func26 (by kernel_rfl) (by rfl) (by rfl) (by kernel_rfl) (by kernel_rfl) rfl rfl rfl
@[simp] theorem cfP26 : cf26.P = Tryz.prog := (rfl)
set_option maxRecDepth 100000
set_option maxHeartbeats 4000000
def bM (op : Int) (n t : List UInt8) (i : Int) : List (List UInt8) := if op = 21 ∨ (op = 22 ∧ i = 1) then [n] else if op = 20 ∧ i = 2 then [n, t] else []
def kW (e : Ex) (i : Int) : List (List UInt8) := bM e.op e.name e.tail i
theorem yM (e : Ex) (i : Int) : Pure Tryz.prog 46 [.agg (aR e), I i] (.sl (em aI (kW e i))) := by
 refine fi46.pu (by simp) ?_
 simp only [aA, kW]
 generalize e.op = op
 unfold bM
 by_cases h1 : op = 21
 ·simp -implicitDefEqProofs [ac46, h1]; rfl
 ·by_cases h2 : op = 22
  ·by_cases h3 : i = 1
   ·simp -implicitDefEqProofs [ac46, h1, h2, h3]; rfl
   ·simp -implicitDefEqProofs [ac46, h1, h2, h3]
  ·by_cases h4 : op = 20
   ·by_cases h3 : i = 2
    ·simp -implicitDefEqProofs [ac46, h1, h2, h3, h4]; rfl
    ·simp -implicitDefEqProofs [ac46, h1, h2, h3, h4]
   ·simp -implicitDefEqProofs [ac46, h1, h2, h4]
abbrev Ft := Int × Int
def cJ (s : Ft) (w p : Int) : Ft := if s.1 = 0 ∨ p < s.2 then (w, p) else s
theorem BK (s : Ft) (w p : Int) {fid : Nat} {mem : Mem} {nx : Nat} {K : KD} (hl : look mem fid = some (.box [I s.1, I s.2])) (hi : fid < nx) (hk : ∀ nx', nx ≤ nx' → K (.tup []) (upd mem fid (.box [I (cJ s w p).1, I (cJ s w p).2])) nx') :
  bH Tryz.prog 24 [I w, I p, .opt fid 0] mem nx K := by
 refine fi24.ct (by simp) fun hfr => ?_
 unfold cJ at hk
 by_cases h1 : s.1 = 0
 ·rw [if_pos (.inl h1)] at hk
  simp -implicitDefEqProofs [ac24, hl, h1]
  exact ⟨_, aG _, hk _ (by omega)⟩
 ·by_cases h2 : p < s.2
  ·rw [if_pos (.inr h2)] at hk
   simp -implicitDefEqProofs [ac24, hl, h1, h2]
   exact ⟨_, aG _, hk _ (by omega)⟩
  ·rw [if_neg (by omega), c8 hl] at hk
   simp -implicitDefEqProofs [ac24, hl, h1, h2]
   exact ⟨_, aG _, hk _ (by omega)⟩
def iK (P : List Fn) (pl : Sm) (op p : Int) (n : List UInt8) (k : Nat) (m : Sm) (s : Ft) : Ft :=
 if op = 6 ∧ cC m n = 0 then cJ s 31 p else if op = 7 ∧ cC pl n = 0 then cJ s 32 p else
 if op = 7 ∧ ((P[(cC pl n).toNat - 1]?.getD default).params.length ≠ k) then cJ s 33 p else s
structure E6 (mem : Mem) (nx mid fid b5 pid b4 b1 : Nat) (P : List Fn) (pl : Sm) (m : Sm) (s : Ft) : Prop where
 lm : look mem mid = some (.map (aJ m))
 lf : look mem fid = some (.box [I s.1, I s.2])
 l5 : look mem b5 = some (.box [.omap pid])
 lp : look mem pid = some (.map (aJ pl))
 l4 : look mem b4 = some (.box [.fn 24 [.opt fid 0]])
 l1 : look mem b1 = some (.box [.sl (em a_ P)])
 im : mid < nx
 if' : fid < nx
 i5 : b5 < nx
 ip : pid < nx
 i4 : b4 < nx
 i1 : b1 < nx
 mf : mid ≠ fid
 m5 : b5 ≠ mid
 mp : pid ≠ mid
 m4 : b4 ≠ mid
 m1 : b1 ≠ mid
 f5 : b5 ≠ fid
 fp : pid ≠ fid
 f4 : b4 ≠ fid
 f1 : b1 ≠ fid
def cL (mem : Mem) (mid fid : Nat) (m : Sm) (s : Ft) : Mem := upd (upd mem fid (.box [I s.1, I s.2])) mid (.map (aJ m))
theorem E6.cons {mem : Mem} {nx nx' mid fid b5 pid b4 b1 k : Nat} {P : List Fn} {pl m : Sm} {s : Ft} {b : Blk} (h : E6 mem nx mid fid b5 pid b4 b1 P pl m s) (hk : nx ≤ k) (hn : nx ≤ nx') : E6 ((k, b) :: mem) nx' mid fid b5 pid b4 b1 P pl m s := by
 have e : ∀ j, j < nx → look ((k, b) :: mem) j = look mem j := fun j hj => by
  simp only [look]; rw [if_neg (by omega)]
 exact ⟨(e _ h.im).trans h.lm, (e _ h.if').trans h.lf, (e _ h.i5).trans h.l5, (e _ h.ip).trans h.lp, (e _ h.i4).trans h.l4, (e _ h.i1).trans h.l1, Nat.lt_of_lt_of_le h.im hn, Nat.lt_of_lt_of_le h.if' hn, Nat.lt_of_lt_of_le h.i5 hn, Nat.lt_of_lt_of_le h.ip hn, Nat.lt_of_lt_of_le h.i4 hn, Nat.lt_of_lt_of_le h.i1 hn, h.mf, h.m5, h.mp, h.m4, h.m1, h.f5, h.fp, h.f4, h.f1⟩
theorem E6.up {mem : Mem} {nx nx' mid fid b5 pid b4 b1 : Nat} {P : List Fn} {pl m : Sm} {s : Ft} (h : E6 mem nx mid fid b5 pid b4 b1 P pl m s) (hn : nx ≤ nx') (m' : Sm) (s' : Ft) : E6 (cL mem mid fid m' s') nx' mid fid b5 pid b4 b1 P pl m' s' := by
 have e : ∀ j, j ≠ fid → j ≠ mid → look (cL mem mid fid m' s') j = look mem j := fun j h1 h2 => by
  unfold cL; rw [dF h2, dF h1]
 refine ⟨?_, ?_, (e _ h.f5 h.m5).trans h.l5, (e _ h.fp h.mp).trans h.lp, (e _ h.f4 h.m4).trans h.l4, (e _ h.f1 h.m1).trans h.l1, Nat.lt_of_lt_of_le h.im hn, Nat.lt_of_lt_of_le h.if' hn, Nat.lt_of_lt_of_le h.i5 hn, Nat.lt_of_lt_of_le h.ip hn, Nat.lt_of_lt_of_le h.i4 hn, Nat.lt_of_lt_of_le h.i1 hn, h.mf, h.m5, h.mp, h.m4, h.m1, h.f5, h.fp, h.f4, h.f1⟩
 ·unfold cL; rw [jU, dF h.mf, h.lm]; rfl
 ·unfold cL; rw [dF (Ne.symm h.mf), jU, h.lf]; rfl
theorem lI {mem : Mem} {nx mid fid b5 pid b4 b1 : Nat} {P : List Fn} {pl m : Sm} {s : Ft} (h : E6 mem nx mid fid b5 pid b4 b1 P pl m s) : cL mem mid fid m s = mem := by
 unfold cL; rw [c8 h.lf, c8 h.lm]
theorem BT {mem : Mem} {mid fid : Nat} (h : mid ≠ fid) {m m' : Sm} {s s' : Ft} : cL (cL mem mid fid m s) mid fid m' s' = cL mem mid fid m' s' := by
 unfold cL; rw [upd_comm (i := mid) (j := fid) h, jC, jC]
theorem memS_f {mem : Mem} {nx mid fid b5 pid b4 b1 : Nat} {P : List Fn} {pl m : Sm} {s : Ft} (h : E6 mem nx mid fid b5 pid b4 b1 P pl m s) (s' : Ft) : upd mem fid (.box [I s'.1, I s'.2]) = cL mem mid fid m s' := by
 have : look (upd mem fid (.box [I s'.1, I s'.2])) mid = some (.map (aJ m)) := (dF h.mf).trans h.lm
 unfold cL; exact (c8 this).symm
def plOk (P : List Fn) (pl : Sm) : Prop := ∀ n, 0 ≤ cC pl n ∧ cC pl n ≤ P.length
theorem ia_Fn {l : List Fn} {mem : Mem} {j : IntKind} {i : Int} : iaD mem 11 (.sl (em a_ l)) (.pl (.int j i)) = if 0 ≤ i ∧ i < l.length then some (.pt [Tx (l[i.toNat]?.getD default).name, .sl (em fY (l[i.toNat]?.getD default).params), I (l[i.toNat]?.getD default).type, I (l[i.toNat]?.getD default).body.op, Tx (l[i.toNat]?.getD default).body.name, Tx (l[i.toNat]?.getD default).body.tail, I (l[i.toNat]?.getD default).body.type, CX (l[i.toNat]?.getD default).body.num.re (l[i.toNat]?.getD default).body.num.im, .sl (em aR (l[i.toNat]?.getD default).body.args), I (l[i.toNat]?.getD default).body.at', I (l[i.toNat]?.getD default).at']) else none := by
 rw [← aN]
 exact lS fun f => by rw [aN]; rfl
attribute [simp] ia_Fn
theorem G7 (e : Ex) {mem : Mem} {nx mid fid b5 pid b4 b1 : Nat} {P : List Fn} {pl m : Sm} {s : Ft} {K : KD} (h : E6 mem nx mid fid b5 pid b4 b1 P pl m s) (hp : plOk P pl) (hP : P.length < 2 ^ 40)
  (hk : ∀ nx', nx ≤ nx' → K (.tup []) (cL mem mid fid m (iK P pl e.op e.at' e.name e.args.length m s)) nx') :
  bH Tryz.prog 26 [.agg (aR e), .omap mid, .opt b5 0, .opt b4 0, .opt b1 0] mem nx K := by
 refine fi26.ct (by simp) fun hfr => ?_
 have ht : ∀ (w p : Int) (nx2 : Nat), nx ≤ nx2 → ∀ K : KD, (∀ nx', nx2 ≤ nx' → K (.tup []) (cL mem mid fid m (cJ s w p)) nx') → bH Tryz.prog 24 [I w, I p, .opt fid 0] mem nx2 K := fun w p nx2 hn K hk2 =>
  BK s w p h.lf (Nat.lt_of_lt_of_le h.if' hn) (fun nx' hn' => by rw [memS_f h]; exact hk2 nx' hn')
 simp only [aA]
 unfold iK at hk
 obtain ⟨hp0, hp1⟩ := hp e.name
 have w := aX (x := cC pl e.name - 1) (by omega) (by omega)
 by_cases h1 : e.op = 6
 ·by_cases h2 : cC m e.name = 0
  ·rw [if_pos ⟨h1, h2⟩] at hk
   simp -implicitDefEqProofs [ac26, h.lm, h.l5, h.lp, h.l4, h.l1, h1, h2]
   refine iX (ht _ _ _ (by omega) _ (fun n1 hn1 => ?_))
   simp -implicitDefEqProofs
   exact ⟨_, aG _, hk _ (by omega)⟩
  ·rw [if_neg (fun g => h2 g.2), if_neg (fun g => by omega), if_neg (fun g => by omega), lI h] at hk
   simp -implicitDefEqProofs [ac26, h.lm, h.l5, h.lp, h.l4, h.l1, h1, h2]
   exact ⟨_, aG _, hk _ (by omega)⟩
 ·rw [if_neg (fun g => h1 g.1)] at hk
  by_cases h3 : e.op = 7
  ·by_cases h4 : cC pl e.name = 0
   ·rw [if_pos ⟨h3, h4⟩] at hk
    simp -implicitDefEqProofs [ac26, h.lm, h.l5, h.lp, h.l4, h.l1, h1, h3, h4]
    refine iX (ht _ _ _ (by omega) _ (fun n1 hn1 => ?_))
    simp -implicitDefEqProofs
    exact ⟨_, aG _, hk _ (by omega)⟩
   ·rw [if_neg (fun g => h4 g.2)] at hk
    have b1 : (1 : Int) ≤ cC pl e.name := by omega
    have b2 : cC pl e.name - 1 < (P.length : Int) := by omega
    generalize hQ : (P[(cC pl e.name).toNat - 1]?.getD default) = Q at *
    by_cases h5 : Q.params.length = e.args.length
    ·rw [if_neg (fun g => g.2 h5), lI h] at hk
     simp -implicitDefEqProofs [ac26, h.lm, h.l5, h.lp, h.l4, h.l1, h1, h3, h4, w, b1, b2, hQ, h5]
     exact ⟨_, aG _, hk _ (by omega)⟩
    ·rw [if_pos ⟨h3, h5⟩] at hk
     have h6 : ¬ (Q.params.length : Int) = (e.args.length : Int) := by omega
     simp -implicitDefEqProofs [ac26, h.lm, h.l5, h.lp, h.l4, h.l1, h1, h3, h4, w, b1, b2, hQ, h5, h6]
     refine iX (ht _ _ _ (by omega) _ (fun n1 hn1 => ?_))
     simp -implicitDefEqProofs
     exact ⟨_, aG _, hk _ (by omega)⟩
  ·rw [if_neg (fun g => h3 g.1), if_neg (fun g => h3 g.1), lI h] at hk
   simp -implicitDefEqProofs [ac26, h.lm, h.l5, h.lp, h.l4, h.l1, h1, h3]
   exact ⟨_, aG _, hk _ (by omega)⟩
def cK (m : Sm) (n : List UInt8) : Sm := d8 m n (IntKind.i64.wrap (cC m n + 1))
def j0 (m : Sm) (n : List UInt8) : Sm := d8 m n (IntKind.i64.wrap (cC m n - 1))
mutual
def gL (P : List Fn) (pl : Sm) : Ex → Sm → Ft → Sm × Ft
 | .mk op n t _ _ args p, m, s => gS P pl op n t 0 args m (iK P pl op p n args.length m s)
def gS (P : List Fn) (pl : Sm) (op : Int) (n t : List UInt8) (i : Nat) : List Ex → Sm → Ft → Sm × Ft
 | [], m, s => (m, s)
 | x :: xs, m, s => gS P pl op n t (i + 1) xs ((bM op n t i).foldl j0 (gL P pl x ((bM op n t i).foldl cK m) s).1) (gL P pl x ((bM op n t i).foldl cK m) s).2
end
def WC (e : Ex) : Prop := ∀ ⦃mem : Mem⦄ ⦃nx mid fid b5 pid b4 b1 : Nat⦄ ⦃P : List Fn⦄ ⦃pl m : Sm⦄ ⦃s : Ft⦄ ⦃K : KD⦄, E6 mem nx mid fid b5 pid b4 b1 P pl m s → plOk P pl → P.length < 2 ^ 40 → size e ≤ 2 ^ 40 →
 (∀ nx', nx ≤ nx' → K (.tup []) (cL mem mid fid (gL P pl e m s).1 (gL P pl e m s).2) nx') → bH Tryz.prog 25 [.agg (aR e), .omap mid, .fn 26 [.opt b5 0, .opt b4 0, .opt b1 0]] mem nx K
theorem h9 (op : Int) (n t : List UInt8) (i : Int) : (bM op n t i).length ≤ 2 := by
 unfold bM
 split
 ·simp
 ·split <;> simp
theorem iU : ∀ (l : List Ex), l.length ≤ aU l
 | [] => by simp [aU]
 | .mk .. :: es => by
  have := iU es
  simp only [aU, size, List.length_cons]; omega
theorem kX : ∀ {l : List Ex} {x : Ex}, x ∈ l → size x ≤ aU l
 | e :: es, x, h => by
  simp only [aU]
  rcases List.mem_cons.1 h with rfl | h
  ·omega
  ·have := kX h; omega
theorem walk_s (op : Int) (n t : List UInt8) (ty : Int) (z : Cx) (args : List Ex) (p : Int) (ih : ∀ x ∈ args, WC x) : WC (.mk op n t ty z args p) := by
 intro mem nx mid fid b5 pid b4 b1 P pl m s K h hp hP hsz hk
 have hal : args.length ≤ 2 ^ 40 := by
  have := iU args
  simp only [size] at hsz; omega
 have hv := fun (K : KD) (nx2 : Nat) (hn : nx ≤ nx2) (hk2 : ∀ nx', nx2 ≤ nx' → K (.tup []) (cL mem mid fid m (iK P pl op p n args.length m s)) nx') => G7 (.mk op n t ty z args p) (mem := mem) (nx := nx2) (K := K) ((lI h) ▸ E6.up h hn m s) hp hP hk2
 have hR : gL P pl (.mk op n t ty z args p) m s = gS P pl op n t 0 args m (iK P pl op p n args.length m s) := by simp only [gL]
 rw [hR] at hk
 clear hR
 generalize iK P pl op p n args.length m s = s1 at *
 generalize hRR : gS P pl op n t 0 args m s1 = R at hk
 have hE : ∀ (nx' : Nat), nx ≤ nx' → ∀ m' s', E6 (cL mem mid fid m' s') nx' mid fid b5 pid b4 b1 P pl m' s' := fun nx' hn m' s' => E6.up h hn m' s'
 have hL : ∀ m' s', look (cL mem mid fid m' s') mid = some (.map (aJ m')) := fun m' s' => (hE nx (Nat.le_refl _) m' s').lm
 have hU : ∀ m' s' m2, upd (cL mem mid fid m' s') mid (.map (aJ m2)) = cL mem mid fid m2 s' := fun m' s' m2 => by unfold cL; rw [jC]
 have hM : ∀ m' s' m2 s2, cL (cL mem mid fid m' s') mid fid m2 s2 = cL mem mid fid m2 s2 := fun m' s' m2 s2 => BT h.mf
 have hfr' : ∀ (hfr : ∀ i, nx ≤ i → look mem i = none) (i : Nat), nx ≤ i → ∀ m' s', look (cL mem mid fid m' s') i = none := fun hfr i hi m' s' => by unfold cL; exact aF (aF (hfr i hi))
 have hB := yM (.mk op n t ty z args p)
 have hbF : ∀ i, kW (.mk op n t ty z args p) i = bM op n t i := fun i => rfl
 simp only [hbF] at hB
 simp only [bZ] at hv hB ⊢
 refine fi25.ct (by simp) fun hfr => ?_
 simp -implicitDefEqProofs [ac25]
 refine iX (hv _ _ (by omega) (fun n1 hn1 => ?_))
 simp -implicitDefEqProofs
 refine lpG cf25 lb25_2 [6, 7, 8, 10, 12, 20, 28, 29, 30, 43, 44, 45] (α := Nat × Sm × Ft) (fun s _ => [(20, I s.1)]) (fun s _ => cL mem mid fid s.2.1 s.2.2) (fun s k => n1 ≤ k ∧ s.1 ≤ args.length ∧ gS P pl op n t s.1 (args.drop s.1) s.2.1 s.2.2 = R) (fun s => args.length - s.1) (0, m, s1) ⟨by omega, by simp, hRR⟩ (by simp) (by simp) ?_
 rintro ⟨i, m1, s2⟩ k ⟨hk1, hi, hw⟩
 simp only at hi hw
 by_cases hlt : i < args.length
 ·have hd : args.drop i = args[i] :: args.drop (i + 1) := List.drop_eq_getElem_cons hlt
  have hg : args[i]?.getD default = args[i] := by rw [List.getElem?_eq_getElem hlt]; rfl
  have hmem : args[i] ∈ args := List.getElem_mem hlt
  rw [hd] at hw
  unfold gS at hw
  obtain ⟨x, hxe⟩ : ∃ x, args[i] = x := ⟨_, rfl⟩
  rw [hxe] at hmem hw
  have hx := ih _ hmem
  have hsx : size x ≤ 2 ^ 40 := by
   have := kX hmem
   simp only [size] at hsz; omega
  have hbl := h9 op n t i
  have hBi := hB i
  generalize bM op n t i = N at *
  have w1 := aX (x := (i : Int) + 1) (by omega) (by omega)
  unfold WC at hx
  simp only [aA] at hx
  simp -implicitDefEqProofs [lb25_2, hlt, hxe]
  refine aH (hBi) (by simp) ?_
  simp -implicitDefEqProofs
  have hb1 := h.im
  have hb2 := h.if'
  generalize hb7 : k + 1 + 3 = b7
  have hbm : ¬ b7 = mid := by omega
  have hbf : ¬ b7 = fid := by omega
  have hMc : ∀ (M : Mem) (b : Blk) (m' : Sm) (s' : Ft), cL ((b7, b) :: M) mid fid m' s' = (b7, b) :: cL M mid fid m' s' := fun M b m' s' => by
   unfold cL
   simp only [upd, hbm, hbf, if_false]
  have hEc : ∀ (b : Blk) (nx' : Nat), b7 < nx' → ∀ m' s', E6 ((b7, b) :: cL mem mid fid m' s') nx' mid fid b5 pid b4 b1 P pl m' s' := fun b nx' hn m' s' => E6.cons (hE nx (Nat.le_refl _) m' s') (by omega) (by omega)
  refine lpG cf25 lb25_1 [10, 30] (α := Nat × Sm) (fun s _ => [(30, I s.1)]) (fun s _ => (b7, .box (aR x)) :: cL mem mid fid s.2 s2) (fun s k2 => b7 + 1 ≤ k2 ∧ s.1 ≤ N.length ∧ (N.drop s.1).foldl cK s.2 = N.foldl cK m1) (fun s => N.length - s.1) (0, m1) ⟨by omega, by simp, rfl⟩ (by simp) (by simp [aA]) ?_
  rintro ⟨j, m2⟩ k2 ⟨hk2, hj, hfo⟩
  simp only at hj hfo
  by_cases hjl : j < N.length
  ·have hd2 : N.drop j = N[j] :: N.drop (j + 1) := List.drop_eq_getElem_cons hjl
   rw [hd2] at hfo
   simp only [List.foldl_cons] at hfo
   have w2 := aX (x := (j : Int) + 1) (by omega) (by omega)
   simp -implicitDefEqProofs [lb25_1, hjl, hL, hbm, hU, w2]
   exact aK (j + 1, cK m2 N[j]) ⟨by omega, hjl, hfo⟩ (by simp only; omega) (by simp) (by simp [cK])
  ·rw [List.drop_eq_nil_of_le (by omega)] at hfo
   simp only [List.foldl_nil] at hfo
   subst hfo
   generalize List.foldl cK m1 N = m3 at *
   simp -implicitDefEqProofs [lb25_1, hjl, hbm, aA]
   refine aD (hx (hEc _ _ (by omega) _ _) hp hP hsx (fun n3 hn3 => ?_))
   generalize gL P pl x m3 s2 = r3 at *
   simp -implicitDefEqProofs [hMc, hM]
   refine lpG cf25 lb25_0 [12, 45] (α := Nat × Sm) (fun s _ => [(45, I s.1)]) (fun s _ => (b7, .box (aR x)) :: cL mem mid fid s.2 r3.2) (fun s k2 => b7 + 1 ≤ k2 ∧ s.1 ≤ N.length ∧ (N.drop s.1).foldl j0 s.2 = N.foldl j0 r3.1) (fun s => N.length - s.1) (0, r3.1) ⟨by omega, by simp, rfl⟩ (by simp) (by simp [aA]) ?_
   rintro ⟨j2, m4⟩ k4 ⟨hk4, hj2, hfo2⟩
   simp only at hj2 hfo2
   by_cases hjl2 : j2 < N.length
   ·have hd2 : N.drop j2 = N[j2] :: N.drop (j2 + 1) := List.drop_eq_getElem_cons hjl2
    rw [hd2] at hfo2
    simp only [List.foldl_cons] at hfo2
    have w2 := aX (x := (j2 : Int) + 1) (by omega) (by omega)
    simp -implicitDefEqProofs [lb25_0, hjl2, hL, hbm, hU, w2]
    exact aK (j2 + 1, j0 m4 N[j2]) ⟨by omega, hjl2, hfo2⟩ (by simp only; omega) (by simp) (by simp [j0])
   ·rw [List.drop_eq_nil_of_le (by omega)] at hfo2
    simp only [List.foldl_nil] at hfo2
    subst hfo2
    simp -implicitDefEqProofs [lb25_0, hjl2, w1]
    refine aK (i + 1, _, r3.2) ⟨by omega, hlt, hw⟩ (by simp only; omega) (by simp) (aQ (aL _) (hfr' hfr _ (by omega) _ _))
 ·have he : args.drop i = [] := List.drop_eq_nil_of_le (by omega)
  rw [he] at hw
  unfold gS at hw
  simp -implicitDefEqProofs [lb25_2, hlt]
  rw [← hw] at hk
  exact ⟨_, aG _, hk _ (by omega)⟩
mutual
theorem CV : ∀ (e : Ex), WC e
 | .mk op n t ty z args p => walk_s op n t ty z args p (x6 args)
theorem x6 : ∀ (l : List Ex), ∀ x ∈ l, WC x
 | [], x, h => by simp at h
 | e :: es, x, h => (List.mem_cons.1 h).elim (fun he => he ▸ CV e) (fun h => x6 es x h)
end
set_option maxRecDepth 1000000
set_option maxHeartbeats 0
noncomputable def cf53 : Cfg := ⟨Tryz.prog, 20, [0, 1, 2, 3], []⟩
noncomputable def ac53 : AC :=
 (.seq (.reg [JN 3 0]) (.ifr [JG 5 0 3, JD 6 1 5, JO 7 (.bin .eql 39 (.t 6) (JT 6)), JC 8 7, JS 9 8 (.mv (.g 1)), JS 10 8 (.fa 1 (.g 3)), JS 11 8 (.ld false 1 (.t 10)), JS 12 8 (.lk none (.int .i64 0) false (.t 9) (.t 11)), JS 13 8 (.bin .eql 3 (.t 12) (JT 0)), JO 14 (.pick (.t 8) (.t 13) JY)] (.t 14) (.reg [JO 15 (.ld false 1 (.g 2)), JG 16 1 3, JD 17 1 16, JO 18 (.lk none (.int .i64 0) false (.t 15) (.t 17)), JO 19 (.bin .add 3 (.t 18) (JT 1)), JQ (.mup none (.t 15) (.t 17) (.t 19))]) .skip))
theorem fi53 : FI Tryz.prog 53 cf53 ac53 [] [0, 1, 2, 3] 20 := FI_of (c := Tryz.f53.body.getD .skip) Tryz.func53 (by kernel_rfl) (by rfl) (by rfl) (by kernel_rfl) (by kernel_rfl) rfl rfl rfl
@[simp] theorem cfP53 : cf53.P = Tryz.prog := (rfl)
noncomputable def cf39 : Cfg := ⟨Tryz.prog, 10, [0, 1, 2, 3], [1, 3, 4, 6, 8]⟩
noncomputable def ac39 : AC :=
 (.seq (.reg [JP 1 (.bx (.g 0)), JP 2 (.mv (.c (.map none)))]) (.seq (.reg [.mk (.t 4) none .mkm, JP 3 (.al [.map none]), JQ (.st 1 (.g 3) (.t 4))]) (.seq (.reg [JF 5 7 1, .mk (.t 6) none .mkm, JO 7 (.mkf 53 [.g 3]), JO 8 (.cl (.f 25) [.t 5, .t 6, .t 7])]) (.seq (.reg [JO 9 (.ld false 1 (.g 3)), JB 2 9]) .ret))))
theorem fi39 : FI Tryz.prog 39 cf39 ac39 [.t 2] [0, 1, 2, 3] 10 := FI_of (c := Tryz.f39.body.getD .skip) Tryz.func39 (by kernel_rfl) (by rfl) (by rfl) (by kernel_rfl) (by kernel_rfl) rfl rfl rfl
@[simp] theorem cfP39 : cf39.P = Tryz.prog := (rfl)
noncomputable def cf28 : Cfg := ⟨Tryz.prog, 24, [0, 1, 2, 3, 6, 11, 12, 13], []⟩
noncomputable def lb28_0 : AC :=
 .seq (.ifr [JO 14 (.bin .lss 3 (.g 13) (.g 12))] (.t 14) .skip (.exit 0)) (.seq (.block 1 (.seq (.reg [JO 15 (.ia 1 (.g 11) (.g 13)), JD 16 1 15, JB 6 16]) (.ifr [JA 17 6, JO 18 (.bin .neq 9 (.t 17) (.c (JU)))] (.t 18) (.reg [JO 19 (.ld false 1 (.g 2)), JA 20 6, JO 21 (.lk none (.int .i64 0) false (.t 19) (.t 20)), JO 22 (.bin .add 3 (.t 21) (JT 1)), JQ (.mup none (.t 19) (.t 20) (.t 22))]) .skip))) (.reg [JO 23 (.bin .add 3 (.g 13) (JT 1)), JB 13 23]))
noncomputable def ac28 : AC :=
 (.seq (.reg [JN 3 0]) (.seq (.reg [JG 7 1 3, JD 8 1 7, JG 9 2 3, JD 10 1 9, JP 11 (.bsl 1 2 [JU] [(0, 1, .t 8), (1, 1, .t 10)]), JP 12 (.len false (.g 11)), JI 13 0]) (.block 0 (.loop lb28_0))))
theorem fi28 : FI Tryz.prog 28 cf28 ac28 [] [0, 1, 2, 3, 6, 11, 12, 13] 24 := FI_of (c := Tryz.f28.body.getD .skip) Tryz.func28 (by kernel_rfl) (by rfl) (by rfl) (by kernel_rfl) (by kernel_rfl) rfl rfl rfl
@[simp] theorem cfP28 : cf28.P = Tryz.prog := (rfl)
noncomputable def cf20 : Cfg := ⟨Tryz.prog, 19, [0, 1, 2, 3, 5, 7, 8, 9], []⟩
noncomputable def lb20_0 : AC :=
 .seq (.ifr [JO 10 (.bin .lss 3 (.g 9) (.g 8))] (.t 10) .skip (.exit 0)) (.seq (.block 1 (.seq (.reg [JO 11 (.ia 7 (.g 7) (.g 9)), JE 12 7 11, JP 5 (.al [JV, JU, JU, JV, .complex .f64 0 0, JW, JV]), JQ (.st 7 (.g 5) (.t 12))]) (.reg [JA 13 3, JF 14 7 5, JO 15 (.pc (.f 20) [.t 14]), JO 16 (.bin .add 3 (.t 13) (.t 15)), JB 3 16]))) (.reg [JO 17 (.bin .add 3 (.g 9) (JT 1)), JB 9 17]))
noncomputable def ac20 : AC :=
 (.seq (.reg [JN 1 0, JI 2 0]) (.seq (.reg [JI 3 1]) (.seq (.seq (.reg [JG 6 5 1, JP 7 (.ld false 1 (.t 6)), JP 8 (.len false (.g 7)), JI 9 0]) (.block 0 (.loop lb20_0))) (.seq (.reg [JA 18 3, JB 2 18]) .ret))))
theorem fi20 : FI Tryz.prog 20 cf20 ac20 [.t 2] [0, 1, 2, 3, 5, 7, 8, 9] 19 := FI_of (c := Tryz.f20.body.getD .skip) Tryz.func20 (by kernel_rfl) (by rfl) (by rfl) (by kernel_rfl) (by kernel_rfl) rfl rfl rfl
@[simp] theorem cfP20 : cf20.P = Tryz.prog := (rfl)
noncomputable def cf19 : Cfg := ⟨Tryz.prog, 9, [0, 1, 2, 4], [6]⟩
noncomputable def ac19 : AC :=
 (.seq (.reg [JN 2 0, JI 4 0]) (.seq (.reg [JF 5 7 2, JO 6 (.cl (.f 39) [.t 5]), JA 7 1, JO 8 (.lk none (.int .i64 0) false (.t 6) (.t 7)), JB 4 8]) .ret))
theorem fi19 : FI Tryz.prog 19 cf19 ac19 [.t 4] [0, 1, 2, 4] 9 := FI_of (c := Tryz.f19.body.getD .skip) Tryz.func19 (by kernel_rfl) (by rfl) (by rfl) (by kernel_rfl) (by kernel_rfl) rfl rfl rfl
@[simp] theorem cfP19 : cf19.P = Tryz.prog := (rfl)
noncomputable def cf30 : Cfg := ⟨Tryz.prog, 4, [0, 1, 2], [1]⟩
noncomputable def ac30 : AC :=
 (.seq (.reg [JP 1 (.bx (.g 0)), JP 2 (.mv (.c .nilFunc))]) (.seq (.reg [JO 3 (.mkf 50 [.g 1]), JB 2 3]) .ret))
theorem fi30 : FI Tryz.prog 30 cf30 ac30 [.t 2] [0, 1, 2] 4 := FI_of (c := Tryz.f30.body.getD .skip) Tryz.func30 (by kernel_rfl) (by rfl) (by rfl) (by kernel_rfl) (by kernel_rfl) rfl rfl rfl
@[simp] theorem cfP30 : cf30.P = Tryz.prog := (rfl)
noncomputable def cf15 : Cfg := ⟨Tryz.prog, 7, [0, 1, 2], [4, 5, 6]⟩
noncomputable def ac15 : AC :=
 (.seq (.reg [JN 1 0, JP 2 (.mv (.c (.slice none 0 0)))]) (.seq (.reg [JF 3 7 1, JO 4 (.cl (.f 39) [.t 3]), JO 5 (.cl (.f 30) [.t 4]), JO 6 (.cl (.f 29) [.t 5]), JB 2 6]) .ret))
theorem fi15 : FI Tryz.prog 15 cf15 ac15 [.t 2] [0, 1, 2] 7 := FI_of (c := Tryz.f15.body.getD .skip) Tryz.func15 (by kernel_rfl) (by rfl) (by rfl) (by kernel_rfl) (by kernel_rfl) rfl rfl rfl
@[simp] theorem cfP15 : cf15.P = Tryz.prog := (rfl)
noncomputable def cf11 : Cfg := ⟨Tryz.prog, 31, [0, 1, 2, 3, 5, 11, 12, 13], [27, 29, 30]⟩
noncomputable def lb11_0 : AC :=
 .seq (.ifr [JO 14 (.bin .lss 3 (.g 13) (.g 12))] (.t 14) .skip (.exit 0)) (.seq (.block 1 (.seq (.reg [JO 15 (.ia 3 (.g 11) (.g 13)), JE 16 3 15, JP 5 (.al [JU, JV, JV]), JQ (.st 3 (.g 5) (.t 16))]) (.reg [JO 17 (.ld false 1 (.g 3)), JG 18 0 5, JD 19 1 18, JO 20 (.lk none (.int .i64 0) false (.t 17) (.t 19)), JO 21 (.bin .add 3 (.t 20) (JT 1)), JQ (.mup none (.t 17) (.t 19) (.t 21))]))) (.reg [JO 22 (.bin .add 3 (.g 13) (JT 1)), JB 13 22]))
noncomputable def ac11 : AC :=
 (.seq (.reg [JN 1 0, JP 2 (.mv (.c (.slice none 0 0)))]) (.seq (.reg [.mk (.t 6) none .mkm, JG 7 0 1, JD 8 1 7, JQ (.mup none (.t 6) (.t 8) (JT 1)), JC 9 6, JP 3 (.al [.map none]), JQ (.st 1 (.g 3) (.t 9))]) (.seq (.seq (.reg [JG 10 1 1, JP 11 (.ld false 1 (.t 10)), JP 12 (.len false (.g 11)), JI 13 0]) (.block 0 (.loop lb11_0))) (.seq (.reg [JG 23 3 1, JE 24 7 23, .mk (.t 25) none .mkm, JO 26 (.mkf 28 [.g 3]), JO 27 (.cl (.f 25) [.t 24, .t 25, .t 26])]) (.seq (.reg [JO 28 (.ld false 1 (.g 3)), JO 29 (.cl (.f 30) [.t 28]), JO 30 (.cl (.f 29) [.t 29]), JB 2 30]) .ret)))))
theorem fi11 : FI Tryz.prog 11 cf11 ac11 [.t 2] [0, 1, 2, 3, 5, 11, 12, 13] 31 := FI_of (c := Tryz.f11.body.getD .skip) Tryz.func11 (by kernel_rfl) (by rfl) (by rfl) (by kernel_rfl) (by kernel_rfl) rfl rfl rfl
@[simp] theorem cfP11 : cf11.P = Tryz.prog := (rfl)
noncomputable def cf14 : Cfg := ⟨Tryz.prog, 33, [0, 1, 4, 5, 6, 7, 8], [31]⟩
noncomputable def lb14_0 : AC :=
 .seq (.ifr [JA 15 6, JO 16 (.len false (.t 15)), JA 17 1, JO 18 (.bin .lss 3 (.t 16) (.t 17))] (.t 18) .skip (.exit 0)) (.seq (.block 1 (.seq (.reg [JA 21 7, JO 22 (.pc (.f 37) [.t 21]), JO 23 (.bin .add 9 (.c (.string (ByteArray.mk (Array.mk [116])))) (.t 22)), JB 8 23]) (.ifr [JA 24 0, JA 25 8, JO 26 (.pc (.f 38) [.t 24, .t 25]), JO 27 (.un .not (.t 26))] (.t 27) (.reg [JA 28 6, JA 29 8, JO 30 (.bsl 1 1 [JU] [(0, 1, .t 29)]), JO 31 (.app 1 16 [JU] (.t 28) (.t 30)), JB 6 31]) .skip))) (.reg [JA 19 7, JO 20 (.bin .add 3 (.t 19) (JT 1)), JB 7 20]))
noncomputable def ac14 : AC :=
 (.seq (.reg [JP 4 (.mv (.c (.slice none 0 0))), JI 5 0]) (.seq (.ifr [JA 9 1, JO 10 (.bin .lss 3 (.t 9) (JT 0)), JC 11 10, JR 12 11 (.mv (.g 1)), JR 13 11 (.bin .gtr 3 (.t 12) (JT 4096)), JO 14 (.pick (.t 11) JX (.t 13))] (.t 14) (.seq (.reg [JP 4 (.mv (.c (.slice none 0 0))), JI 5 2]) .ret) .skip) (.seq (.reg [JP 6 (.mv (.c (.slice none 0 0)))]) (.seq (.seq (.reg [JI 7 1]) (.block 0 (.loop lb14_0))) (.seq (.reg [JA 32 6, JB 4 32, JI 5 0]) .ret)))))
theorem fi14 : FI Tryz.prog 14 cf14 ac14 [.t 4, .t 5] [0, 1, 4, 5, 6, 7, 8] 33 := FI_of (c := Tryz.f14.body.getD .skip) Tryz.func14 (by kernel_rfl) (by rfl) (by rfl) (by kernel_rfl) (by kernel_rfl) rfl rfl rfl
@[simp] theorem cfP14 : cf14.P = Tryz.prog := (rfl)
noncomputable def cf38 : Cfg := ⟨Tryz.prog, 9, [0, 1, 4], []⟩
noncomputable def ac38 : AC :=
 (.seq (.reg [JP 4 (.mv JY)]) (.seq (.reg [JA 5 0, JA 6 1, JO 7 (.pc (.f 52) [.t 5, .t 6]), JO 8 (.bin .geq 3 (.t 7) (JT 0)), JB 4 8]) .ret))
theorem fi38 : FI Tryz.prog 38 cf38 ac38 [.t 4] [0, 1, 4] 9 := FI_of (c := Tryz.f38.body.getD .skip) Tryz.func38 (by kernel_rfl) (by rfl) (by rfl) (by kernel_rfl) (by kernel_rfl) rfl rfl rfl
@[simp] theorem cfP38 : cf38.P = Tryz.prog := (rfl)
noncomputable def cf52 : Cfg := ⟨Tryz.prog, 19, [0, 1, 4, 5, 7, 8], []⟩
noncomputable def lb52_0 : AC :=
 .seq (.ifr [JO 9 (.bin .lss 3 (.g 8) (.g 7))] (.t 9) .skip (.exit 0)) (.seq (.block 1 (.seq (.reg [JA 10 8, JB 5 10]) (.ifr [JA 11 1, JA 12 0, JA 13 5, JL 14 1 12 13, JD 15 1 14, JO 16 (.bin .eql 9 (.t 11) (.t 15))] (.t 16) (.seq (.reg [JA 17 5, JB 4 17]) .ret) .skip))) (.reg [JO 18 (.bin .add 3 (.g 8) (JT 1)), JB 8 18]))
noncomputable def ac52 : AC :=
 (.seq (.reg [JI 4 0]) (.seq (.seq (.reg [JA 6 0, JP 7 (.len false (.t 6)), JI 8 0]) (.block 0 (.loop lb52_0))) (.seq (.reg [JI 4 (-1)]) .ret)))
theorem fi52 : FI Tryz.prog 52 cf52 ac52 [.t 4] [0, 1, 4, 5, 7, 8] 19 := FI_of (c := Tryz.f52.body.getD .skip) Tryz.func52 (by kernel_rfl) (by rfl) (by rfl) (by kernel_rfl) (by kernel_rfl) rfl rfl rfl
@[simp] theorem cfP52 : cf52.P = Tryz.prog := (rfl)
noncomputable def cf17 : Cfg := ⟨Tryz.prog, 30, [0, 1, 2, 3, 4, 5], [27]⟩
noncomputable def lb17_0 : AC :=
 .seq (.ifr [JA 8 5, JA 9 4, JO 10 (.len false (.t 9)), JO 11 (.bin .lss 3 (.t 8) (.t 10))] (.t 11) .skip (.exit 0)) (.seq (.block 1 (.ifr [JA 14 4, JA 15 5, JL 16 8 14 15, JH 17 7 16, JD 18 1 17] (.t 18) (.reg [JA 19 3, JA 20 4, JA 21 5, JL 22 8 20 21, JH 23 0 22, JH 24 1 23, JD 25 1 24, JO 26 (.bsl 1 1 [JU] [(0, 1, .t 25)]), JO 27 (.app 1 16 [JU] (.t 19) (.t 26)), JB 3 27]) .skip)) (.reg [JA 12 5, JO 13 (.bin .add 3 (.t 12) (JT 1)), JB 5 13]))
noncomputable def ac17 : AC :=
 (.seq (.reg [JN 1 0, JP 2 (.mv (.c (.slice none 0 0)))]) (.seq (.reg [JP 3 (.mv (.c (.slice none 0 0)))]) (.seq (.reg [JF 6 7 1, JO 7 (.pc (.f 42) [.t 6, .c (.slice none 0 0)]), JB 4 7]) (.seq (.seq (.reg [JI 5 0]) (.block 0 (.loop lb17_0))) (.seq (.reg [JA 28 3, JO 29 (.pc (.f 32) [.t 28]), JB 2 29]) .ret)))))
theorem fi17 : FI Tryz.prog 17 cf17 ac17 [.t 2] [0, 1, 2, 3, 4, 5] 30 := FI_of (c := Tryz.f17.body.getD .skip) Tryz.func17 (by kernel_rfl) (by rfl) (by rfl) (by kernel_rfl) (by kernel_rfl) rfl rfl rfl
@[simp] theorem cfP17 : cf17.P = Tryz.prog := (rfl)
noncomputable def cf34 : Cfg := ⟨Tryz.prog, 34, [0, 1, 2, 4, 5, 6, 7], []⟩
@[simp] theorem cfP34 : cf34.P = Tryz.prog := (rfl)
noncomputable def cf35 : Cfg := ⟨Tryz.prog, 23, [0, 1, 2, 3, 4, 5], []⟩
@[simp] theorem cfP35 : cf35.P = Tryz.prog := (rfl)
noncomputable def cf40 : Cfg := ⟨Tryz.prog, 18, [0, 2, 3], []⟩
noncomputable def ac40 : AC :=
 (.seq (.reg [JP 2 (.mv (.c (JU)))]) (.seq (.reg [JA 4 0, JO 5 (.bin .rem 3 (.t 4) (JT 10)), JO 6 (.bin .add 3 (JT 48) (.t 5)), JO 7 (.cv 3 5 (.t 6)), JO 8 (.bsl 1 1 [.int .u8 0] [(0, 1, .t 7)]), JO 9 (.cv 22 9 (.t 8)), JB 3 9]) (.seq (.ifr [JA 10 0, JO 11 (.bin .geq 3 (.t 10) (JT 10))] (.t 11) (.reg [JA 12 0, JO 13 (.bin .quo 3 (.t 12) (JT 10)), JO 14 (.pc (.f 40) [.t 13]), JA 15 3, JO 16 (.bin .add 9 (.t 14) (.t 15)), JB 3 16]) .skip) (.seq (.reg [JA 17 3, JB 2 17]) .ret))))
theorem fi40 : FI Tryz.prog 40 cf40 ac40 [.t 2] [0, 2, 3] 18 := FI_of (c := Tryz.f40.body.getD .skip) Tryz.func40 (by kernel_rfl) (by rfl) (by rfl) (by kernel_rfl) (by kernel_rfl) rfl rfl rfl
@[simp] theorem cfP40 : cf40.P = Tryz.prog := (rfl)
noncomputable def cf16 : Cfg := ⟨Tryz.prog, 33, [0, 1, 4, 5, 6, 7, 8], [31]⟩
noncomputable def lb16_0 : AC :=
 .seq (.ifr [JA 15 6, JO 16 (.len false (.t 15)), JA 17 1, JO 18 (.bin .lss 3 (.t 16) (.t 17))] (.t 18) .skip (.exit 0)) (.seq (.block 1 (.seq (.reg [JA 21 7, JO 22 (.pc (.f 40) [.t 21]), JO 23 (.bin .add 9 (.c (.string (ByteArray.mk (Array.mk [116])))) (.t 22)), JB 8 23]) (.ifr [JA 24 0, JA 25 8, JO 26 (.pc (.f 41) [.t 24, .t 25]), JO 27 (.un .not (.t 26))] (.t 27) (.reg [JA 28 6, JA 29 8, JO 30 (.bsl 1 1 [JU] [(0, 1, .t 29)]), JO 31 (.app 1 16 [JU] (.t 28) (.t 30)), JB 6 31]) .skip))) (.reg [JA 19 7, JO 20 (.bin .add 3 (.t 19) (JT 1)), JB 7 20]))
noncomputable def ac16 : AC :=
 (.seq (.reg [JP 4 (.mv (.c (.slice none 0 0))), JI 5 0]) (.seq (.ifr [JA 9 1, JO 10 (.bin .lss 3 (.t 9) (JT 0)), JC 11 10, JR 12 11 (.mv (.g 1)), JR 13 11 (.bin .gtr 3 (.t 12) (JT 4096)), JO 14 (.pick (.t 11) JX (.t 13))] (.t 14) (.seq (.reg [JP 4 (.mv (.c (.slice none 0 0))), JI 5 2]) .ret) .skip) (.seq (.reg [JP 6 (.mv (.c (.slice none 0 0)))]) (.seq (.seq (.reg [JI 7 1]) (.block 0 (.loop lb16_0))) (.seq (.reg [JA 32 6, JB 4 32, JI 5 0]) .ret)))))
theorem fi16 : FI Tryz.prog 16 cf16 ac16 [.t 4, .t 5] [0, 1, 4, 5, 6, 7, 8] 33 := FI_of (c := Tryz.f16.body.getD .skip) Tryz.func16 (by kernel_rfl) (by rfl) (by rfl) (by kernel_rfl) (by kernel_rfl) rfl rfl rfl
@[simp] theorem cfP16 : cf16.P = Tryz.prog := (rfl)
set_option maxRecDepth 100000
set_option maxHeartbeats 4000000
structure E2 (mem : Mem) (nx mid cid b : Nat) (m c : Sm) : Prop where
 lm : look mem mid = some (.map (aJ m))
 lc : look mem cid = some (.map (aJ c))
 lb : look mem b = some (.box [.omap cid])
 im : mid < nx
 ic : cid < nx
 ib : b < nx
 mc : mid ≠ cid
 bm : b ≠ mid
 bc : b ≠ cid
def bJ (mem : Mem) (mid cid : Nat) (m c : Sm) : Mem := upd (upd mem cid (.map (aJ c))) mid (.map (aJ m))
theorem E2.cons {mem : Mem} {nx nx' mid cid b k : Nat} {m c : Sm} {bl : Blk} (h : E2 mem nx mid cid b m c) (hk : nx ≤ k) (hn : nx ≤ nx') : E2 ((k, bl) :: mem) nx' mid cid b m c := by
 have e : ∀ j, j < nx → look ((k, bl) :: mem) j = look mem j := fun j hj => by
  simp only [look]; rw [if_neg (by omega)]
 exact ⟨(e _ h.im).trans h.lm, (e _ h.ic).trans h.lc, (e _ h.ib).trans h.lb, Nat.lt_of_lt_of_le h.im hn, Nat.lt_of_lt_of_le h.ic hn, Nat.lt_of_lt_of_le h.ib hn, h.mc, h.bm, h.bc⟩
theorem E2.up {mem : Mem} {nx nx' mid cid b : Nat} {m c : Sm} (h : E2 mem nx mid cid b m c) (hn : nx ≤ nx') (m' c' : Sm) : E2 (bJ mem mid cid m' c') nx' mid cid b m' c' := by
 refine ⟨?_, ?_, ?_, Nat.lt_of_lt_of_le h.im hn, Nat.lt_of_lt_of_le h.ic hn, Nat.lt_of_lt_of_le h.ib hn, h.mc, h.bm, h.bc⟩
 ·unfold bJ; rw [jU, dF h.mc, h.lm]; rfl
 ·unfold bJ; rw [dF (Ne.symm h.mc), jU, h.lc]; rfl
 ·unfold bJ; rw [dF h.bm, dF h.bc, h.lb]
theorem lQ {mem : Mem} {nx mid cid b : Nat} {m c : Sm} (h : E2 mem nx mid cid b m c) : bJ mem mid cid m c = mem := by
 unfold bJ; rw [c8 h.lc, c8 h.lm]
theorem tA {mem : Mem} {mid cid : Nat} (h : mid ≠ cid) {m m' c c' : Sm} : bJ (bJ mem mid cid m c) mid cid m' c' = bJ mem mid cid m' c' := by
 unfold bJ; rw [upd_comm (i := mid) (j := cid) h, jC, jC]
theorem CH {mem : Mem} {nx mid cid b : Nat} {m c : Sm} (h : E2 mem nx mid cid b m c) (c' : Sm) : upd mem cid (.map (aJ c')) = bJ mem mid cid m c' := by
 have : look (upd mem cid (.map (aJ c'))) mid = some (.map (aJ m)) := (dF h.mc).trans h.lm
 unfold bJ; exact (c8 this).symm
abbrev Vs := Ex → Sm → Sm → Sm
def VisC (fv : FuncId) (vis : Vs) : Prop := ∀ (e : Ex) ⦃mem : Mem⦄ ⦃nx mid cid b : Nat⦄ ⦃m c : Sm⦄ ⦃K : KD⦄, E2 mem nx mid cid b m c →
 (∀ nx', nx ≤ nx' → K (.tup []) (bJ mem mid cid m (vis e m c)) nx') → bH Tryz.prog fv [.agg (aR e), .omap mid, .opt b 0] mem nx K
mutual
def cY (vis : Vs) : Ex → Sm → Sm → Sm × Sm
 | .mk op n t ty z args p, m, c => dL vis op n t 0 args m (vis (.mk op n t ty z args p) m c)
def dL (vis : Vs) (op : Int) (n t : List UInt8) (i : Nat) : List Ex → Sm → Sm → Sm × Sm
 | [], m, c => (m, c)
 | x :: xs, m, c => dL vis op n t (i + 1) xs ((bM op n t i).foldl j0 (cY vis x ((bM op n t i).foldl cK m) c).1) (cY vis x ((bM op n t i).foldl cK m) c).2
end
def WC2 (fv : FuncId) (vis : Vs) (e : Ex) : Prop := ∀ ⦃mem : Mem⦄ ⦃nx mid cid b : Nat⦄ ⦃m c : Sm⦄ ⦃K : KD⦄, E2 mem nx mid cid b m c → size e ≤ 2 ^ 40 →
 (∀ nx', nx ≤ nx' → K (.tup []) (bJ mem mid cid (cY vis e m c).1 (cY vis e m c).2) nx') → bH Tryz.prog 25 [.agg (aR e), .omap mid, .fn fv [.opt b 0]] mem nx K
theorem G1 {fv : FuncId} {vis : Vs} (hV : VisC fv vis) (op : Int) (n t : List UInt8) (ty : Int) (z : Cx) (args : List Ex) (p : Int) (ih : ∀ x ∈ args, WC2 fv vis x) : WC2 fv vis (.mk op n t ty z args p) := by
 intro mem nx mid cid b m s K h hsz hk
 have hal : args.length ≤ 2 ^ 40 := by
  have := iU args
  simp only [size] at hsz; omega
 have hv := fun (K : KD) (nx2 : Nat) (hn : nx ≤ nx2) (hk2 : ∀ nx', nx2 ≤ nx' → K (.tup []) (bJ mem mid cid m (vis (.mk op n t ty z args p) m s)) nx') => hV (.mk op n t ty z args p) (mem := mem) (nx := nx2) (K := K) ((lQ h) ▸ E2.up h hn m s) hk2
 have hR : cY vis (.mk op n t ty z args p) m s = dL vis op n t 0 args m (vis (.mk op n t ty z args p) m s) := by simp only [cY]
 rw [hR] at hk
 clear hR
 generalize vis (.mk op n t ty z args p) m s = s1 at *
 generalize hRR : dL vis op n t 0 args m s1 = R at hk
 have hE : ∀ (nx' : Nat), nx ≤ nx' → ∀ m' s', E2 (bJ mem mid cid m' s') nx' mid cid b m' s' := fun nx' hn m' s' => E2.up h hn m' s'
 have hL : ∀ m' s', look (bJ mem mid cid m' s') mid = some (.map (aJ m')) := fun m' s' => (hE nx (Nat.le_refl _) m' s').lm
 have hU : ∀ m' s' m2, upd (bJ mem mid cid m' s') mid (.map (aJ m2)) = bJ mem mid cid m2 s' := fun m' s' m2 => by unfold bJ; rw [jC]
 have hM : ∀ m' s' m2 s2, bJ (bJ mem mid cid m' s') mid cid m2 s2 = bJ mem mid cid m2 s2 := fun m' s' m2 s2 => tA h.mc
 have hfr' : ∀ (hfr : ∀ i, nx ≤ i → look mem i = none) (i : Nat), nx ≤ i → ∀ m' s', look (bJ mem mid cid m' s') i = none := fun hfr i hi m' s' => by unfold bJ; exact aF (aF (hfr i hi))
 have hB := yM (.mk op n t ty z args p)
 have hbF : ∀ i, kW (.mk op n t ty z args p) i = bM op n t i := fun i => rfl
 simp only [hbF] at hB
 simp only [bZ] at hv hB ⊢
 refine fi25.ct (by simp) fun hfr => ?_
 simp -implicitDefEqProofs [ac25]
 refine iX (hv _ _ (by omega) (fun n1 hn1 => ?_))
 simp -implicitDefEqProofs
 refine lpG cf25 lb25_2 [6, 7, 8, 10, 12, 20, 28, 29, 30, 43, 44, 45] (α := Nat × Sm × Sm) (fun s _ => [(20, I s.1)]) (fun s _ => bJ mem mid cid s.2.1 s.2.2) (fun s k => n1 ≤ k ∧ s.1 ≤ args.length ∧ dL vis op n t s.1 (args.drop s.1) s.2.1 s.2.2 = R) (fun s => args.length - s.1) (0, m, s1) ⟨by omega, by simp, hRR⟩ (by simp) (by simp) ?_
 rintro ⟨i, m1, s2⟩ k ⟨hk1, hi, hw⟩
 simp only at hi hw
 by_cases hlt : i < args.length
 ·have hd : args.drop i = args[i] :: args.drop (i + 1) := List.drop_eq_getElem_cons hlt
  have hg : args[i]?.getD default = args[i] := by rw [List.getElem?_eq_getElem hlt]; rfl
  have hmem : args[i] ∈ args := List.getElem_mem hlt
  rw [hd] at hw
  unfold dL at hw
  obtain ⟨x, hxe⟩ : ∃ x, args[i] = x := ⟨_, rfl⟩
  rw [hxe] at hmem hw
  have hx := ih _ hmem
  have hsx : size x ≤ 2 ^ 40 := by
   have := kX hmem
   simp only [size] at hsz; omega
  have hbl := h9 op n t i
  have hBi := hB i
  generalize bM op n t i = N at *
  have w1 := aX (x := (i : Int) + 1) (by omega) (by omega)
  unfold WC2 at hx
  simp only [aA] at hx
  simp -implicitDefEqProofs [lb25_2, hlt, hxe]
  refine aH (hBi) (by simp) ?_
  simp -implicitDefEqProofs
  have hb1 := h.im
  have hb2 := h.ic
  generalize hb7 : k + 1 + 3 = b7
  have hbm : ¬ b7 = mid := by omega
  have hbf : ¬ b7 = cid := by omega
  have hMc : ∀ (M : Mem) (bk : Blk) (m' : Sm) (s' : Sm), bJ ((b7, bk) :: M) mid cid m' s' = (b7, bk) :: bJ M mid cid m' s' := fun M bk m' s' => by
   unfold bJ
   simp only [upd, hbm, hbf, if_false]
  have hEc : ∀ (bk : Blk) (nx' : Nat), b7 < nx' → ∀ m' s', E2 ((b7, bk) :: bJ mem mid cid m' s') nx' mid cid b m' s' := fun bk nx' hn m' s' => E2.cons (hE nx (Nat.le_refl _) m' s') (by omega) (by omega)
  refine lpG cf25 lb25_1 [10, 30] (α := Nat × Sm) (fun s _ => [(30, I s.1)]) (fun s _ => (b7, .box (aR x)) :: bJ mem mid cid s.2 s2) (fun s k2 => b7 + 1 ≤ k2 ∧ s.1 ≤ N.length ∧ (N.drop s.1).foldl cK s.2 = N.foldl cK m1) (fun s => N.length - s.1) (0, m1) ⟨by omega, by simp, rfl⟩ (by simp) (by simp [aA]) ?_
  rintro ⟨j, m2⟩ k2 ⟨hk2, hj, hfo⟩
  simp only at hj hfo
  by_cases hjl : j < N.length
  ·have hd2 : N.drop j = N[j] :: N.drop (j + 1) := List.drop_eq_getElem_cons hjl
   rw [hd2] at hfo
   simp only [List.foldl_cons] at hfo
   have w2 := aX (x := (j : Int) + 1) (by omega) (by omega)
   simp -implicitDefEqProofs [lb25_1, hjl, hL, hbm, hU, w2]
   exact aK (j + 1, cK m2 N[j]) ⟨by omega, hjl, hfo⟩ (by simp only; omega) (by simp) (by simp [cK])
  ·rw [List.drop_eq_nil_of_le (by omega)] at hfo
   simp only [List.foldl_nil] at hfo
   subst hfo
   generalize List.foldl cK m1 N = m3 at *
   simp -implicitDefEqProofs [lb25_1, hjl, hbm, aA]
   refine aD (hx (hEc _ _ (by omega) _ _) hsx (fun n3 hn3 => ?_))
   generalize cY vis x m3 s2 = r3 at *
   simp -implicitDefEqProofs [hMc, hM]
   refine lpG cf25 lb25_0 [12, 45] (α := Nat × Sm) (fun s _ => [(45, I s.1)]) (fun s _ => (b7, .box (aR x)) :: bJ mem mid cid s.2 r3.2) (fun s k2 => b7 + 1 ≤ k2 ∧ s.1 ≤ N.length ∧ (N.drop s.1).foldl j0 s.2 = N.foldl j0 r3.1) (fun s => N.length - s.1) (0, r3.1) ⟨by omega, by simp, rfl⟩ (by simp) (by simp [aA]) ?_
   rintro ⟨j2, m4⟩ k4 ⟨hk4, hj2, hfo2⟩
   simp only at hj2 hfo2
   by_cases hjl2 : j2 < N.length
   ·have hd2 : N.drop j2 = N[j2] :: N.drop (j2 + 1) := List.drop_eq_getElem_cons hjl2
    rw [hd2] at hfo2
    simp only [List.foldl_cons] at hfo2
    have w2 := aX (x := (j2 : Int) + 1) (by omega) (by omega)
    simp -implicitDefEqProofs [lb25_0, hjl2, hL, hbm, hU, w2]
    exact aK (j2 + 1, j0 m4 N[j2]) ⟨by omega, hjl2, hfo2⟩ (by simp only; omega) (by simp) (by simp [j0])
   ·rw [List.drop_eq_nil_of_le (by omega)] at hfo2
    simp only [List.foldl_nil] at hfo2
    subst hfo2
    simp -implicitDefEqProofs [lb25_0, hjl2, w1]
    refine aK (i + 1, _, r3.2) ⟨by omega, hlt, hw⟩ (by simp only; omega) (by simp) (aQ (aL _) (hfr' hfr _ (by omega) _ _))
 ·have he : args.drop i = [] := List.drop_eq_nil_of_le (by omega)
  rw [he] at hw
  unfold dL at hw
  simp -implicitDefEqProofs [lb25_2, hlt]
  rw [← hw] at hk
  exact ⟨_, aG _, hk _ (by omega)⟩
mutual
theorem sI {fv : FuncId} {vis : Vs} (hV : VisC fv vis) : ∀ (e : Ex), WC2 fv vis e
 | .mk op n t ty z args p => G1 hV op n t ty z args p (wW hV args)
theorem wW {fv : FuncId} {vis : Vs} (hV : VisC fv vis) : ∀ (l : List Ex), ∀ x ∈ l, WC2 fv vis x
 | [], x, h => by simp at h
 | e :: es, x, h => (List.mem_cons.1 h).elim (fun he => he ▸ sI hV e) (fun h => wW hV es x h)
end
def iM : Vs := fun e m c => if e.op = 6 ∧ cC m e.name = 0 then cK c e.name else c
theorem FV : VisC 53 iM := by
 intro e mem nx mid cid b m c K h hk
 refine fi53.ct (by simp) fun hfr => ?_
 simp only [aA]
 unfold iM at hk
 by_cases h1 : e.op = 6
 ·by_cases h2 : cC m e.name = 0
  ·rw [if_pos ⟨h1, h2⟩] at hk
   simp -implicitDefEqProofs [ac53, h.lm, h.lb, h.lc, h1, h2]
   refine ⟨_, aG _, ?_⟩
   rw [CH h]
   exact hk _ (by omega)
  ·rw [if_neg (fun g => h2 g.2), lQ h] at hk
   simp -implicitDefEqProofs [ac53, h.lm, h.lb, h.lc, h1, h2]
   exact ⟨_, aG _, hk _ (by omega)⟩
 ·rw [if_neg (fun g => h1 g.1), lQ h] at hk
  simp -implicitDefEqProofs [ac53, h.lm, h.lb, h.lc, h1]
  exact ⟨_, aG _, hk _ (by omega)⟩
def mS (c : Sm) (s : List UInt8) : Sm := if s = [] then c else cK c s
def fP : Vs := fun e _ c => [e.name, e.tail].foldl mS c
theorem EM : VisC 28 fP := by
 intro e mem nx mid cid b m c K h hk
 refine fi28.ct (by simp) fun hfr => ?_
 simp only [aA]
 unfold fP at hk
 have hbs : qM 1 2 [.string (ByteArray.mk #[])] [(0, 1, Tx e.name), (1, 1, Tx e.tail)] = some (.sl (em aI [e.name, e.tail])) := rfl
 have hNl : [e.name, e.tail].length = 2 := rfl
 have hE : ∀ (nx' : Nat), nx ≤ nx' → ∀ c', E2 (bJ mem mid cid m c') nx' mid cid b m c' := fun nx' hn c' => E2.up h hn m c'
 have hU : ∀ c1 c2, upd (bJ mem mid cid m c1) cid (.map (aJ c2)) = bJ mem mid cid m c2 := fun c1 c2 => by rw [CH (hE nx (Nat.le_refl _) c1), tA h.mc]
 simp -implicitDefEqProofs [-qM, ac28, hbs]
 generalize [e.name, e.tail] = N at *
 generalize hR : N.foldl mS c = R at *
 refine lpG cf28 lb28_0 [6, 13] (α := Nat × Sm) (fun s _ => [(13, I s.1)]) (fun s _ => bJ mem mid cid m s.2) (fun s k => nx ≤ k ∧ s.1 ≤ N.length ∧ (N.drop s.1).foldl mS s.2 = R) (fun s => N.length - s.1) (0, c) ⟨by omega, by simp, by simpa using hR⟩ (by simp) (by rw [lQ h]; exact aL _) ?_
 rintro ⟨i, c1⟩ k ⟨hk1, hi, hr⟩
 simp only at hk1 hi hr
 have w1 := aX (x := (i : Int) + 1) (by omega) (by omega)
 have hlc := (hE nx (Nat.le_refl _) c1).lc
 have hlb := (hE nx (Nat.le_refl _) c1).lb
 by_cases hlt : i < N.length
 ·have hi2 : (i : Int) < 2 := by omega
  have hi3 : i < 2 := by omega
  rw [List.drop_eq_getElem_cons hlt] at hr
  simp only [List.foldl_cons] at hr
  obtain ⟨x, hx⟩ : ∃ x, N[i] = x := ⟨_, rfl⟩
  rw [hx] at hr
  unfold mS at hr
  by_cases hxe : x = []
  ·rw [if_pos hxe] at hr
   simp -implicitDefEqProofs [lb28_0, hlt, hi2, hi3, hx, hxe, w1, hNl]
   exact aK (i + 1, c1) ⟨by omega, by simp only; omega, hr⟩ (by simp only; omega) (by simp) (aL _)
  ·rw [if_neg hxe] at hr
   simp -implicitDefEqProofs [lb28_0, hlt, hi2, hi3, hx, hxe, w1, hNl, hlc, hlb, hU]
   exact aK (i + 1, cK c1 x) ⟨by omega, by simp only; omega, hr⟩ (by simp only; omega) (by simp) (by simp [cK])
 ·have hi2 : ¬ (i : Int) < 2 := by omega
  rw [List.drop_eq_nil_of_le (by omega)] at hr
  simp only [List.foldl_nil] at hr
  subst hr
  simp -implicitDefEqProofs [lb28_0, hlt, hi2, hNl]
  exact ⟨_, aG _, hk _ (by omega)⟩
set_option maxRecDepth 1000000
set_option maxHeartbeats 0
noncomputable def cf41 : Cfg := ⟨Tryz.prog, 18, [0, 1, 4, 5], []⟩
noncomputable def lb41_0 : AC :=
 .seq (.ifr [JA 6 5, JA 7 0, JO 8 (.len false (.t 7)), JO 9 (.bin .lss 3 (.t 6) (.t 8))] (.t 9) .skip (.exit 0)) (.seq (.block 1 (.ifr [JA 12 0, JA 13 5, JL 14 1 12 13, JD 15 1 14, JA 16 1, JO 17 (.bin .eql 9 (.t 15) (.t 16))] (.t 17) (.seq (.reg [JP 4 (.mv JX)]) .ret) .skip)) (.reg [JA 10 5, JO 11 (.bin .add 3 (.t 10) (JT 1)), JB 5 11]))
noncomputable def ac41 : AC :=
 (.seq (.reg [JP 4 (.mv JY)]) (.seq (.seq (.reg [JI 5 0]) (.block 0 (.loop lb41_0))) (.seq (.reg [JP 4 (.mv JY)]) .ret)))
theorem fi41 : FI Tryz.prog 41 cf41 ac41 [.t 4] [0, 1, 4, 5] 18 := FI_of (c := Tryz.f41.body.getD .skip) Tryz.func41 (by kernel_rfl) (by rfl) (by rfl) (by kernel_rfl) (by kernel_rfl) rfl rfl rfl
@[simp] theorem cfP41 : cf41.P = Tryz.prog := (rfl)
noncomputable def cf33 : Cfg := ⟨Tryz.prog, 12, [0, 1, 4, 5], [8, 11]⟩
noncomputable def ac33 : AC :=
 (.seq (.reg [JP 4 (.mv (.c (.slice none 0 0)))]) (.seq (.reg [JP 5 (.mv (.c (.slice none 0 0)))]) (.seq (.reg [JA 6 5, JA 7 0, JO 8 (.app 1 16 [JU] (.t 6) (.t 7)), JB 5 8]) (.seq (.reg [JA 9 5, JA 10 1, JO 11 (.app 1 16 [JU] (.t 9) (.t 10)), JB 4 11]) .ret))))
theorem fi33 : FI Tryz.prog 33 cf33 ac33 [.t 4] [0, 1, 4, 5] 12 := FI_of (c := Tryz.f33.body.getD .skip) Tryz.func33 (by kernel_rfl) (by rfl) (by rfl) (by kernel_rfl) (by kernel_rfl) rfl rfl rfl
@[simp] theorem cfP33 : cf33.P = Tryz.prog := (rfl)
noncomputable def cf54 : Cfg := ⟨Tryz.prog, 32, [0, 1, 2, 4, 5], []⟩
noncomputable def ac54 : AC :=
 (.seq (.reg [JN 2 0, JP 4 (.mv (.c (.slice none 0 0)))]) (.seq (.block 0 (.seq (.ifr [JG 6 0 2, JD 7 1 6, JO 8 (.bin .eql 39 (.t 7) (JT 21)), JB 5 8] (.g 5) .skip (.reg [JG 9 0 2, JD 10 1 9, JO 11 (.bin .eql 39 (.t 10) (JT 22)), JC 12 11, JS 13 12 (.mv (.g 1)), JS 14 12 (.bin .eql 3 (.t 13) (JT 1)), JO 15 (.pick (.t 12) (.t 14) JY), JB 5 15])) (.cond (.g 5) (.seq (.reg [JG 16 1 2, JD 17 1 16, JO 18 (.bsl 1 1 [JU] [(0, 1, .t 17)]), JB 4 18]) .ret) (.ifr [JG 20 0 2, JD 21 1 20, JO 22 (.bin .eql 39 (.t 21) (JT 20)), JC 23 22, JS 24 23 (.mv (.g 1)), JS 25 23 (.bin .eql 3 (.t 24) (JT 2)), JO 26 (.pick (.t 23) (.t 25) JY), JC 19 26] (.t 19) (.seq (.reg [JG 27 1 2, JD 28 1 27, JG 29 2 2, JD 30 1 29, JO 31 (.bsl 1 2 [JU] [(0, 1, .t 28), (1, 1, .t 30)]), JB 4 31]) .ret) .skip)))) (.seq (.reg [JP 4 (.mv (.c (.slice none 0 0)))]) .ret)))
theorem fi54 : FI Tryz.prog 54 cf54 ac54 [.t 4] [0, 1, 2, 4, 5] 32 := FI_of (c := Tryz.f54.body.getD .skip) Tryz.func54 (by kernel_rfl) (by rfl) (by rfl) (by kernel_rfl) (by kernel_rfl) rfl rfl rfl
@[simp] theorem cfP54 : cf54.P = Tryz.prog := (rfl)
noncomputable def cf42 : Cfg := ⟨Tryz.prog, 55, [0, 1, 2, 4, 5, 6, 7, 8], [31, 53]⟩
noncomputable def lb42_0 : AC :=
 .seq (.ifr [JA 32 6, JG 33 5 2, JD 34 1 33, JO 35 (.len false (.t 34)), JO 36 (.bin .lss 3 (.t 32) (.t 35))] (.t 36) .skip (.exit 0)) (.seq (.block 1 (.seq (.reg [JA 39 1, JF 40 7 2, JA 41 6, JO 42 (.pc (.f 54) [.t 40, .t 41]), JO 43 (.pc (.f 33) [.t 39, .t 42]), JB 7 43]) (.seq (.reg [JG 44 5 2, JD 45 1 44, JA 46 6, JL 47 7 45 46, JE 48 7 47, JA 49 7, JO 50 (.pc (.f 42) [.t 48, .t 49]), JB 8 50]) (.reg [JA 51 5, JA 52 8, JO 53 (.app 8 104 [JV, JU, JU, JV, .complex .f64 0 0, JW, JV, .bool false] (.t 51) (.t 52)), JB 5 53])))) (.reg [JA 37 6, JO 38 (.bin .add 3 (.t 37) (JT 1)), JB 6 38]))
noncomputable def ac42 : AC :=
 (.seq (.reg [JN 2 0, JP 4 (.mv (.c (.slice none 0 0)))]) (.seq (.reg [JP 5 (.mv (.c (.slice none 0 0)))]) (.seq (.ifr [JG 9 0 2, JD 10 1 9, JO 11 (.bin .eql 39 (.t 10) (JT 6)), JC 12 11, JR 13 12 (.fa 0 (.g 2)), JR 14 12 (.ld false 1 (.t 13)), JR 15 12 (.bin .eql 39 (.t 14) (JT 7)), JO 16 (.pick (.t 12) JX (.t 15))] (.t 16) (.reg [JA 17 5, JF 18 7 2, JG 19 0 2, JD 20 1 19, JO 21 (.bin .eql 39 (.t 20) (JT 6)), JC 22 21, JS 23 22 (.mv (.g 1)), JS 24 22 (.fa 1 (.g 2)), JS 25 22 (.ld false 1 (.t 24)), JS 26 22 (.pc (.f 41) [.t 23, .t 25]), JS 27 22 (.un .not (.t 26)), JO 28 (.pick (.t 22) (.t 27) JY), JO 29 (.bld [JV, JU, JU, JV, .complex .f64 0 0, JW, JV, .bool false] [(0, 7, .t 18), (7, 1, .t 28)]), JO 30 (.bsl 8 1 [JV, JU, JU, JV, .complex .f64 0 0, JW, JV, .bool false] [(0, 8, .t 29)]), JO 31 (.app 8 104 [JV, JU, JU, JV, .complex .f64 0 0, JW, JV, .bool false] (.t 17) (.t 30)), JB 5 31]) .skip) (.seq (.seq (.reg [JI 6 0]) (.block 0 (.loop lb42_0))) (.seq (.reg [JA 54 5, JB 4 54]) .ret)))))
theorem fi42 : FI Tryz.prog 42 cf42 ac42 [.t 4] [0, 1, 2, 4, 5, 6, 7, 8] 55 := FI_of (c := Tryz.f42.body.getD .skip) Tryz.func42 (by kernel_rfl) (by rfl) (by rfl) (by kernel_rfl) (by kernel_rfl) rfl rfl rfl
@[simp] theorem cfP42 : cf42.P = Tryz.prog := (rfl)
noncomputable def cf47 : Cfg := ⟨Tryz.prog, 22, [0, 1, 2, 4, 5], []⟩
noncomputable def lb47_0 : AC :=
 .seq (.ifr [JA 6 5, JG 7 0 2, JD 8 1 7, JO 9 (.len false (.t 8)), JO 10 (.bin .lss 3 (.t 6) (.t 9))] (.t 10) .skip (.exit 0)) (.seq (.block 1 (.ifr [JG 13 0 2, JD 14 1 13, JA 15 5, JL 16 11 14 15, JH 17 0 16, JD 18 1 17, JA 19 1, JO 20 (.bin .eql 9 (.t 18) (.t 19))] (.t 20) (.seq (.reg [JA 21 5, JB 4 21]) .ret) .skip)) (.reg [JA 11 5, JO 12 (.bin .add 3 (.t 11) (JT 1)), JB 5 12]))
noncomputable def ac47 : AC :=
 (.seq (.reg [JN 2 0, JI 4 0]) (.seq (.seq (.reg [JI 5 0]) (.block 0 (.loop lb47_0))) (.seq (.reg [JI 4 (-1)]) .ret)))
theorem fi47 : FI Tryz.prog 47 cf47 ac47 [.t 4] [0, 1, 2, 4, 5] 22 := FI_of (c := Tryz.f47.body.getD .skip) Tryz.func47 (by kernel_rfl) (by rfl) (by rfl) (by kernel_rfl) (by kernel_rfl) rfl rfl rfl
@[simp] theorem cfP47 : cf47.P = Tryz.prog := (rfl)
noncomputable def cf27 : Cfg := ⟨Tryz.prog, 129, [0, 1, 2, 3, 4, 5, 6, 7, 8, 9, 10, 11], [35, 50, 60, 69, 95, 110, 127]⟩
noncomputable def lb27_0 : AC :=
 .seq (.ifr [JA 74 9, JA 75 8, JO 76 (.len false (.t 75)), JO 77 (.bin .lss 3 (.t 74) (.t 76))] (.t 77) .skip (.exit 4)) (.seq (.block 5 (.seq (.reg [JA 80 8, JA 81 9, JL 82 8 80 81, JH 83 0 82, JE 84 7 83, JP 10 (.al [JV, JU, JU, JV, .complex .f64 0 0, JW, JV]), JQ (.st 7 (.g 10) (.t 84))]) (.seq (.ifr [JA 85 8, JA 86 9, JL 87 8 85 86, JH 88 7 87, JD 89 1 88] (.t 89) (.reg [JA 90 3, JG 91 6 10, JD 92 1 91, JO 93 (.bld [JV, JV] [(0, 1, .c (.int .i64 31)), (1, 1, .t 92)]), JO 94 (.bsl 2 1 [JV, JV] [(0, 2, .t 93)]), JO 95 (.app 2 16 [JV, JV] (.t 90) (.t 94)), JB 3 95]) .skip) (.seq (.ifr [JG 96 0 10, JD 97 1 96, JO 98 (.bin .neq 39 (.t 97) (JT 7))] (.t 98) (.exit 5) .skip) (.seq (.reg [JF 99 1 1, JG 100 1 10, JD 101 1 100, JO 102 (.pc (.f 47) [.t 99, .t 101]), JB 11 102]) (.ifr [JA 103 11, JO 104 (.bin .lss 3 (.t 103) (JT 0))] (.t 104) (.reg [JA 105 3, JG 106 6 10, JD 107 1 106, JO 108 (.bld [JV, JV] [(0, 1, .c (.int .i64 32)), (1, 1, .t 107)]), JO 109 (.bsl 2 1 [JV, JV] [(0, 2, .t 108)]), JO 110 (.app 2 16 [JV, JV] (.t 105) (.t 109)), JB 3 110]) (.ifr [JG 111 0 1, JD 112 1 111, JA 113 11, JL 114 11 112 113, JH 115 1 114, JD 116 1 115, JO 117 (.len false (.t 116)), JG 118 5 10, JD 119 1 118, JO 120 (.len false (.t 119)), JO 121 (.bin .neq 3 (.t 117) (.t 120))] (.t 121) (.reg [JA 122 3, JG 123 6 10, JD 124 1 123, JO 125 (.bld [JV, JV] [(0, 1, .c (.int .i64 33)), (1, 1, .t 124)]), JO 126 (.bsl 2 1 [JV, JV] [(0, 2, .t 125)]), JO 127 (.app 2 16 [JV, JV] (.t 122) (.t 126)), JB 3 127]) .skip))))))) (.reg [JA 78 9, JO 79 (.bin .add 3 (.t 78) (JT 1)), JB 9 79]))
noncomputable def lb27_1 : AC :=
 .seq (.ifr [JA 36 7, JG 37 1 5, JD 38 1 37, JO 39 (.len false (.t 38)), JO 40 (.bin .lss 3 (.t 36) (.t 39))] (.t 40) .skip (.exit 2)) (.seq (.block 3 (.seq (.ifr [JA 43 6, JG 44 1 5, JD 45 1 44, JA 46 7, JL 47 3 45 46, JH 48 0 47, JD 49 1 48, JO 50 (.cl (.f 41) [.t 43, .t 49])] (.t 50) (.reg [JA 51 3, JG 52 1 5, JD 53 1 52, JA 54 7, JL 55 3 53 54, JH 56 2 55, JD 57 1 56, JO 58 (.bld [JV, JV] [(0, 1, .c (.int .i64 30)), (1, 1, .t 57)]), JO 59 (.bsl 2 1 [JV, JV] [(0, 2, .t 58)]), JO 60 (.app 2 16 [JV, JV] (.t 51) (.t 59)), JB 3 60]) .skip) (.reg [JA 61 6, JG 62 1 5, JD 63 1 62, JA 64 7, JL 65 3 63 64, JH 66 0 65, JD 67 1 66, JO 68 (.bsl 1 1 [JU] [(0, 1, .t 67)]), JO 69 (.app 1 16 [JU] (.t 61) (.t 68)), JB 6 69]))) (.reg [JA 41 7, JO 42 (.bin .add 3 (.t 41) (JT 1)), JB 7 42]))
noncomputable def lb27_2 : AC :=
 .seq (.ifr [JA 12 4, JG 13 0 1, JD 14 1 13, JO 15 (.len false (.t 14)), JO 16 (.bin .lss 3 (.t 12) (.t 15))] (.t 16) .skip (.exit 0)) (.seq (.block 1 (.seq (.reg [JG 19 0 1, JD 20 1 19, JA 21 4, JL 22 11 20 21, JE 23 11 22, JP 5 (.al [JU, JW, JV, JV, JU, JU, JV, .complex .f64 0 0, JW, JV, JV]), JQ (.st 11 (.g 5) (.t 23))]) (.seq (.ifr [JF 24 1 1, JG 25 0 5, JD 26 1 25, JO 27 (.pc (.f 47) [.t 24, .t 26]), JA 28 4, JO 29 (.bin .lss 3 (.t 27) (.t 28))] (.t 29) (.reg [JA 30 3, JG 31 10 5, JD 32 1 31, JO 33 (.bld [JV, JV] [(0, 1, .c (.int .i64 30)), (1, 1, .t 32)]), JO 34 (.bsl 2 1 [JV, JV] [(0, 2, .t 33)]), JO 35 (.app 2 16 [JV, JV] (.t 30) (.t 34)), JB 3 35]) .skip) (.seq (.reg [JP 6 (.mv (.c (.slice none 0 0)))]) (.seq (.seq (.reg [JI 7 0]) (.block 2 (.loop lb27_1))) (.seq (.reg [JG 70 3 5, JE 71 7 70, JA 72 6, JO 73 (.pc (.f 42) [.t 71, .t 72]), JB 8 73]) (.seq (.reg [JI 9 0]) (.block 4 (.loop lb27_0))))))))) (.reg [JA 17 4, JO 18 (.bin .add 3 (.t 17) (JT 1)), JB 4 18]))
noncomputable def ac27 : AC :=
 (.seq (.reg [JN 1 0, JP 2 (.mv (.c (.slice none 0 0)))]) (.seq (.reg [JP 3 (.mv (.c (.slice none 0 0)))]) (.seq (.seq (.reg [JI 4 0]) (.block 0 (.loop lb27_2))) (.seq (.reg [JA 128 3, JB 2 128]) .ret))))
theorem fi27 : FI Tryz.prog 27 cf27 ac27 [.t 2] [0, 1, 2, 3, 4, 5, 6, 7, 8, 9, 10, 11] 129 := FI_of (c := Tryz.f27.body.getD .skip) Tryz.func27 (by kernel_rfl) (by rfl) (by rfl) (by kernel_rfl) (by kernel_rfl) rfl rfl rfl
@[simp] theorem cfP27 : cf27.P = Tryz.prog := (rfl)
noncomputable def cf9 : Cfg := ⟨Tryz.prog, 32, [0, 1, 2, 3, 4, 5], []⟩
noncomputable def lb9_0 : AC :=
 .seq (.ifr [JA 8 5, JA 9 3, JO 10 (.len false (.t 9)), JO 11 (.bin .lss 3 (.t 8) (.t 10))] (.t 11) .skip (.exit 0)) (.seq (.block 1 (.ifr [JG 14 0 4, JD 15 1 14, JO 16 (.bin .eql 29 (.t 15) (JT 0)), JC 17 16, JR 18 17 (.mv (.g 3)), JR 19 17 (.mv (.g 5)), JR 20 17 (.ia 2 (.t 18) (.t 19)), JR 21 17 (.fa 1 (.t 20)), JR 22 17 (.ld false 1 (.t 21)), JR 23 17 (.fa 1 (.g 4)), JR 24 17 (.ld false 1 (.t 23)), JR 25 17 (.bin .lss 3 (.t 22) (.t 24)), JO 26 (.pick (.t 17) JX (.t 25))] (.t 26) (.reg [JA 27 3, JA 28 5, JL 29 2 27 28, JE 30 2 29, JQ (.st 2 (.g 4) (.t 30))]) .skip)) (.reg [JA 12 5, JO 13 (.bin .add 3 (.t 12) (JT 1)), JB 5 13]))
noncomputable def ac9 : AC :=
 (.seq (.reg [JN 1 0, JP 2 (.al [JV, JV])]) (.seq (.reg [JF 6 1 1, JO 7 (.pc (.f 27) [.t 6]), JB 3 7]) (.seq (.reg [JP 4 (.al [JV, JV])]) (.seq (.seq (.reg [JI 5 0]) (.block 0 (.loop lb9_0))) (.seq (.reg [JF 31 2 4, JQ (.st 2 (.g 2) (.t 31))]) .ret)))))
theorem fi9 : FI Tryz.prog 9 cf9 ac9 [.c 2 true 2] [0, 1, 2, 3, 4, 5] 32 := FI_of (c := Tryz.f9.body.getD .skip) Tryz.func9 (by kernel_rfl) (by rfl) (by rfl) (by kernel_rfl) (by kernel_rfl) rfl rfl rfl
@[simp] theorem cfP9 : cf9.P = Tryz.prog := (rfl)
@[simp] theorem eqRef6_9 {a b : ByteArray} : bG Tryz.prog .eql 9 (.pl (.string a)) (.pl (.string b)) = some (.pl (.bool (decide (a = b)))) := kO Tryz.underlying9
@[simp] theorem neRef6_9 {a b : ByteArray} : bG Tryz.prog .neq 9 (.pl (.string a)) (.pl (.string b)) = some (.pl (.bool (!decide (a = b)))) := mQ Tryz.underlying9
set_option maxRecDepth 100000
set_option maxHeartbeats 4000000
theorem yF {α : Type} {enc : α → List D} {l : List α} {mem : Mem} {k : Nat} (h : ∀ x, (enc x).all D.cell = true) (hk : ∀ x, (enc x).length = k) : els mem k (.sl (em enc l)) = some (em enc l) := by
 show (if (em enc l).all (fun e => e.length == k && e.all D.cell) = true then some (em enc l) else none) = _
 rw [if_pos (em_els h hk)]
theorem pB {l : List (List UInt8)} {mem : Mem} : els mem 1 (.sl (em aI l)) = some (em aI l) := yF (fun x => rfl) (fun x => rfl)
attribute [simp 1200] pB
theorem imm_T (l : List (List UInt8)) : D.immss (em aI l) = true := jR fun f => by simp [aI]
attribute [simp] imm_T
def a8 : List (List UInt8) → List UInt8 → Bool
 | [], _ => false
 | x :: xs, n => if x = n then true else a8 xs n
theorem uV (l : List (List UInt8)) (n : List UInt8) (hl : l.length < 2 ^ 60) : Pure Tryz.prog 41 [.sl (em aI l), Tx n] (.pl (.bool (a8 l n))) := by
 refine fi41.pu (by simp) ?_
 simp -implicitDefEqProofs [ac41]
 generalize hR : a8 l n = R
 refine lpG cf41 lb41_0 [4, 5] (α := Nat) (fun s _ => [(5, I s)]) (fun s _ => []) (fun s k => s ≤ l.length ∧ a8 (l.drop s) n = R) (fun s => l.length - s) 0 ⟨by simp, hR⟩ (by simp) (by simp) ?_
 rintro i k ⟨hi, hr⟩
 by_cases hlt : i < l.length
 ·have hd : l.drop i = l[i] :: l.drop (i + 1) := List.drop_eq_getElem_cons hlt
  rw [hd] at hr
  unfold a8 at hr
  have w1 := aX (x := (i : Int) + 1) (by omega) (by omega)
  by_cases hg : l[i] = n
  ·rw [if_pos hg] at hr
   subst hr
   simp -implicitDefEqProofs [lb41_0, hlt, hg]
  ·rw [if_neg hg] at hr
   simp -implicitDefEqProofs [lb41_0, hlt, hg, w1]
   exact aK (i + 1) ⟨hlt, hr⟩ (by omega) (by simp) (by simp)
 ·rw [List.drop_eq_nil_of_le (by omega)] at hr
  unfold a8 at hr
  subst hr
  simp -implicitDefEqProofs [lb41_0, hlt]
theorem GM (e : Ex) (i : Int) : Pure Tryz.prog 54 [.agg (aR e), I i] (.sl (em aI (kW e i))) := by
 refine fi54.pu (by simp) ?_
 simp only [aA, kW]
 generalize e.op = op
 unfold bM
 by_cases h1 : op = 21
 ·simp -implicitDefEqProofs [ac54, h1]; rfl
 ·by_cases h2 : op = 22
  ·by_cases h3 : i = 1
   ·simp -implicitDefEqProofs [ac54, h1, h2, h3]; rfl
   ·simp -implicitDefEqProofs [ac54, h1, h2, h3]
  ·by_cases h4 : op = 20
   ·by_cases h3 : i = 2
    ·simp -implicitDefEqProofs [ac54, h1, h2, h3, h4]; rfl
    ·simp -implicitDefEqProofs [ac54, h1, h2, h3, h4]
   ·simp -implicitDefEqProofs [ac54, h1, h2, h4]
def bB : List Fn → Nat → List UInt8 → Int
 | [], _, _ => -1
 | f :: fs, k, n => if f.name = n then k else bB fs (k + 1) n
theorem yT (P : List Fn) (n : List UInt8) (hl : P.length < 2 ^ 40) : Pure Tryz.prog 47 [.agg [.sl (em a_ P)], Tx n] (I (bB P 0 n)) := by
 refine fi47.pu (by simp) ?_
 simp -implicitDefEqProofs [ac47]
 generalize hR : bB P 0 n = R
 refine lpG cf47 lb47_0 [4, 5] (α := Nat) (fun s _ => [(5, I s)]) (fun s _ => []) (fun s k => s ≤ P.length ∧ bB (P.drop s) s n = R) (fun s => P.length - s) 0 ⟨by simp, hR⟩ (by simp) (by simp) ?_
 rintro i k ⟨hi, hr⟩
 by_cases hlt : i < P.length
 ·have hd : P.drop i = P[i] :: P.drop (i + 1) := List.drop_eq_getElem_cons hlt
  rw [hd] at hr
  unfold bB at hr
  obtain ⟨x, hxe⟩ : ∃ x, P[i] = x := ⟨_, rfl⟩
  rw [hxe] at hr
  have w1 := aX (x := (i : Int) + 1) (by omega) (by omega)
  by_cases hg : x.name = n
  ·rw [if_pos hg] at hr
   subst hr
   simp -implicitDefEqProofs [lb47_0, hlt, hxe, hg]
  ·rw [if_neg hg] at hr
   simp -implicitDefEqProofs [lb47_0, hlt, hxe, hg, w1]
   exact aK (i + 1) ⟨hlt, hr⟩ (by omega) (by simp) (by simp)
 ·rw [List.drop_eq_nil_of_le (by omega)] at hr
  unfold bB at hr
  subst hr
  simp -implicitDefEqProofs [lb47_0, hlt]
theorem BN (l k : List (List UInt8)) (hl : l.length < 2 ^ 40) (hk : k.length < 2 ^ 40) : Pure Tryz.prog 33 [.sl (em aI l), .sl (em aI k)] (.sl (em aI (l ++ k))) := by
 refine fi33.pu (by simp) ?_
 have b1 : l.length * 16 ≤ 3 * 2 ^ 46 := by omega
 have b2 : (l.length + k.length) * 16 ≤ 3 * 2 ^ 46 := by omega
 simp -implicitDefEqProofs [-els, ac33, b1, b2]
 rw [List.take_of_length_le (by simp)]
abbrev Sn := Ex × Bool
def gN (s : Sn) : List D := aR s.1 ++ [.pl (.bool s.2)]
theorem bU (s : Sn) : gN s = [I s.1.op, Tx s.1.name, Tx s.1.tail, I s.1.type, CX s.1.num.re s.1.num.im, .sl (em aR s.1.args), I s.1.at', .pl (.bool s.2)] := by
 unfold gN; rw [aA]; rfl
theorem DE {l : List Sn} {mem : Mem} : els mem 8 (.sl (em gN l)) = some (em gN l) := yF (fun x => by rw [bU]; rfl) (fun x => by rw [bU]; rfl)
attribute [simp 1200] DE
theorem imm_Sn (l : List Sn) : D.immss (em gN l) = true := jR fun f => by rw [bU]; simp
attribute [simp] imm_Sn
theorem ia_Sn {l : List Sn} {mem : Mem} {j : IntKind} {i : Int} : iaD mem 8 (.sl (em gN l)) (.pl (.int j i)) = if 0 ≤ i ∧ i < l.length then some (.pt [I (l[i.toNat]?.getD default).1.op, Tx (l[i.toNat]?.getD default).1.name, Tx (l[i.toNat]?.getD default).1.tail, I (l[i.toNat]?.getD default).1.type, CX (l[i.toNat]?.getD default).1.num.re (l[i.toNat]?.getD default).1.num.im, .sl (em aR (l[i.toNat]?.getD default).1.args), I (l[i.toNat]?.getD default).1.at', .pl (.bool (l[i.toNat]?.getD default).2)]) else none := by
 rw [← bU]
 exact lS fun f => by rw [bU]; rfl
attribute [simp] ia_Sn
mutual
def bW : Ex → List (List UInt8) → List Sn
 | .mk op n t ty z args p, N => (if op = 6 ∨ op = 7 then [(.mk op n t ty z args p, op = 6 && !a8 N n)] else []) ++ cH op n t 0 args N
def cH (op : Int) (n t : List UInt8) (i : Nat) : List Ex → List (List UInt8) → List Sn
 | [], _ => []
 | x :: xs, N => bW x (N ++ bM op n t i) ++ cH op n t (i + 1) xs N
end
mutual
theorem e9 : ∀ (e : Ex) (N : List (List UInt8)), (bW e N).length ≤ size e
 | .mk op n t ty z args p, N => by
  have := mU op n t 0 args N
  unfold bW size
  rw [List.length_append]
  split <;> simp <;> omega
theorem mU (op : Int) (n t : List UInt8) (i : Nat) : ∀ (l : List Ex) (N : List (List UInt8)), (cH op n t i l N).length ≤ aU l
 | [], N => by simp [cH, aU]
 | x :: xs, N => by
  have h1 := e9 x (N ++ bM op n t i)
  have h2 := mU op n t (i + 1) xs N
  unfold cH aU
  rw [List.length_append]; omega
end
def SC (e : Ex) : Prop := ∀ ⦃N : List (List UInt8)⦄, N.length + 2 * size e < 2 ^ 39 → Pure Tryz.prog 42 [.agg (aR e), .sl (em aI N)] (.sl (em gN (bW e N)))
theorem seen_s (op : Int) (n t : List UInt8) (ty : Int) (z : Cx) (args : List Ex) (p : Int) (ih : ∀ x ∈ args, SC x) : SC (.mk op n t ty z args p) := by
 intro N hN
 have hal := iU args
 have hsl := mU op n t 0 args N
 have hR : bW (.mk op n t ty z args p) N = (if op = 6 ∨ op = 7 then [(.mk op n t ty z args p, op = 6 && !a8 N n)] else []) ++ cH op n t 0 args N := by simp only [bW]
 have hlen : (bW (.mk op n t ty z args p) N).length ≤ 2 ^ 39 := by have := e9 (.mk op n t ty z args p) N; omega
 simp only [size] at hN
 have hH := uV N n (by omega)
 have hB := GM (.mk op n t ty z args p)
 have hbF : ∀ i, kW (.mk op n t ty z args p) i = bM op n t i := fun i => rfl
 simp only [hbF] at hB
 generalize hRR : bW (.mk op n t ty z args p) N = R at *
 clear hRR
 simp only [bZ] at hB ⊢
 -- the loop
 have loop : ∀ (id nx : Nat) (l0 : List Sn) (es : List (List D)) (n0 : Nat) (Q : Exit → St → Prop), es = em gN l0 → n0 = l0.length → id < nx → l0 ++ cH op n t 0 args N = R → (∀ v nx', Q (.exit 0) ⟨[(0, .agg [I op, Tx n, Tx t, I ty, CX z.re z.im, .sl (em aR args), I p]), (1, .sl (em aI N)), (2, .pt [I op, Tx n, Tx t, I ty, CX z.re z.im, .sl (em aR args), I p]), (4, .pl (.slice none 0 0)), (5, .osl id v 0 R.length), (6, I args.length), (7, .top), (8, .top)], [], [(id, .arr v 8 (em gN R))], nx'⟩) →
   A cf42 (.loop lb42_0) Q [(0, .agg [I op, Tx n, Tx t, I ty, CX z.re z.im, .sl (em aR args), I p]), (1, .sl (em aI N)), (2, .pt [I op, Tx n, Tx t, I ty, CX z.re z.im, .sl (em aR args), I p]), (4, .pl (.slice none 0 0)), (5, .osl id 0 0 n0), (6, I 0), (7, .pl undef), (8, .pl undef)] [(id, .arr 0 8 es)] nx := by
  rintro id nx l0 _ _ Q rfl rfl hid hl0 hq
  refine lpG cf42 lb42_0 [5, 6, 7, 8] (α := Nat × Nat × List Sn) (fun s _ => [(5, .osl id s.2.1 0 s.2.2.length), (6, I s.1), (7, .top), (8, .top)]) (fun s _ => [(id, .arr s.2.1 8 (em gN s.2.2))]) (fun s k => id < k ∧ s.1 ≤ args.length ∧ s.2.2 ++ cH op n t s.1 (args.drop s.1) N = R) (fun s => args.length - s.1) (0, 0, l0) ⟨hid, by simp, hl0⟩ (by simp) (by simp) ?_
  rintro ⟨i, v, l⟩ k ⟨hk, hi, hr⟩
  simp only at hi hr
  by_cases hlt : i < args.length
  ·have hd : args.drop i = args[i] :: args.drop (i + 1) := List.drop_eq_getElem_cons hlt
   have hmem : args[i] ∈ args := List.getElem_mem hlt
   rw [hd] at hr
   unfold cH at hr
   obtain ⟨x, hxe⟩ : ∃ x, args[i] = x := ⟨_, rfl⟩
   rw [hxe] at hr hmem
   have w1 := aX (x := (i : Int) + 1) (by omega) (by omega)
   have hbl := h9 op n t i
   have hBi := hB i
   have hsx := kX hmem
   have hs1 : 1 ≤ size x := by cases x; simp only [size]; omega
   have hW := BN N (bM op n t i) (by omega) (by omega)
   generalize bM op n t i = M at *
   have hS := ih x hmem (N := N ++ M) (by rw [List.length_append]; omega)
   simp only [aA] at hS
   generalize bW x (N ++ M) = T at *
   have hb : (l.length + T.length) * 104 ≤ 3 * 2 ^ 46 := by
    have := congrArg List.length hr
    simp only [List.length_append] at this; omega
   simp -implicitDefEqProofs [-els, lb42_0, hlt, hxe]
   refine aH (hBi) (by simp) ?_
   simp -implicitDefEqProofs
   refine aH (hW) (by simp) ?_
   simp -implicitDefEqProofs [hlt, hxe]
   refine aH hS (by simp) ?_
   simp -implicitDefEqProofs [-els, DE, hb, w1]
   exact aK (i + 1, v + 1, l ++ T) ⟨by omega, hlt, by rw [List.append_assoc]; exact hr⟩ (by simp only; omega) (by simp) (by simp)
  ·rw [List.drop_eq_nil_of_le (by omega)] at hr
   unfold cH at hr
   rw [List.append_nil] at hr
   subst hr
   have hia : i = args.length := by omega
   subst hia
   simp -implicitDefEqProofs [lb42_0]
   exact hq _ _
 refine fi42.pu (by simp) ?_
 by_cases h6 : op = 6
 ·subst h6
  rw [if_pos (.inl rfl)] at hR
  simp -implicitDefEqProofs [ac42]
  refine aH (hH) (by simp) ?_
  simp -implicitDefEqProofs
  refine loop _ _ _ _ _ _ ?_ (by rfl) ?_ hR.symm (fun v nx2 => ?_) <;> first | omega | (simp [em, bU, Ex.op, Ex.name, Ex.tail, Ex.type, Ex.num, Ex.args, Ex.at']; done) | skip
  simp -implicitDefEqProofs
 ·by_cases h7 : op = 7
  ·subst h7
   rw [if_pos (.inr rfl)] at hR
   simp -implicitDefEqProofs [ac42]
   refine loop _ _ _ _ _ _ ?_ (by rfl) ?_ hR.symm (fun v nx2 => ?_) <;> first | omega | (simp [em, bU, Ex.op, Ex.name, Ex.tail, Ex.type, Ex.num, Ex.args, Ex.at']; done) | skip
   simp -implicitDefEqProofs
  ·rw [if_neg (by omega)] at hR
   simp -implicitDefEqProofs [ac42, h6, h7]
   refine dO (j := 5) (k := 8) rfl (.inl rfl) ?_
   simp -implicitDefEqProofs
   refine loop _ _ _ _ _ _ ?_ (by rfl) ?_ hR.symm (fun v nx2 => ?_) <;> first | omega | (simp [em, bU, Ex.op, Ex.name, Ex.tail, Ex.type, Ex.num, Ex.args, Ex.at']; done) | skip
   simp -implicitDefEqProofs
mutual
theorem vF : ∀ (e : Ex), SC e
 | .mk op n t ty z args p => seen_s op n t ty z args p (zH args)
theorem zH : ∀ (l : List Ex), ∀ x ∈ l, SC x
 | [], x, h => by simp at h
 | e :: es, x, h => (List.mem_cons.1 h).elim (fun he => he ▸ vF e) (fun h => zH es x h)
end
abbrev fD (s : Ft) : List D := [I s.1, I s.2]
def bL : List Pm → List (List UInt8) → List Ft
 | [], _ => []
 | x :: xs, N => (if a8 N x.name = true then [(30, x.at')] else []) ++ bL xs (N ++ [x.name])
def gW (P : List Fn) (e : Ex) : List Ft := if e.op ≠ 7 then [] else if bB P 0 e.name < 0 then [(32, e.at')] else if (P[(bB P 0 e.name).toNat]?.getD default).params.length ≠ e.args.length then [(33, e.at')] else []
def aV (P : List Fn) : List Sn → List Ft
 | [] => []
 | s :: r => ((if s.2 = true then [(31, s.1.at')] else []) ++ gW P s.1) ++ aV P r
def cV (f : Fn) : List (List UInt8) := f.params.map Pm.name
def fnF (P : List Fn) (i : Nat) (f : Fn) : List Ft := (if bB P 0 f.name < i then [(30, f.at')] else []) ++ bL f.params [] ++ aV P (bW f.body (cV f))
def eT (P : List Fn) : List Fn → Nat → List Ft
 | [], _ => []
 | f :: fs, i => fnF P i f ++ eT P fs (i + 1)
theorem dP (l : List Ft) (a b : Int) : em fD l ++ [[.pl (.int .i64 a), .pl (.int .i64 b)]] = em fD (l ++ [(a, b)]) := fL (enc := fD) (x := (a, b))
theorem fU {α : Type} (l : List α) (a : α) : List.take (l.length + 1) (l ++ [a]) = l ++ [a] := List.take_of_length_le (by simp)
theorem snocT (l : List (List UInt8)) (a : List UInt8) : em aI l ++ [[Tx a]] = em aI (l ++ [a]) := fL (enc := aI) (x := a)
theorem imm_Ft (l : List Ft) : D.immss (em fD l) = true := jR fun f => by simp [fD]
attribute [simp] imm_Ft
theorem CU : ∀ (e : Ex), e.args.length ≤ size e
 | .mk op n t ty z args p => by
  have := iU args
  simp only [size, Ex.args]; omega
theorem m_ : ∀ (l : List Fn) (k : Nat) (n : List UInt8), bB l k n = -1 ∨ (k : Int) ≤ bB l k n ∧ bB l k n < k + l.length
 | [], k, n => .inl rfl
 | f :: fs, k, n => by
  unfold bB
  split
  ·right; simp only [List.length_cons]; omega
  ·have := m_ fs (k + 1) n
   simp only [List.length_cons]; omega
abbrev env6 (P : List Fn) (i : Nat) (a b c d e f g h : D) : Env := [(0, .agg [.sl (em a_ P)]), (1, .pt [.sl (em a_ P)]), (2, .pl (.slice none 0 0)), (3, a), (4, I i), (5, b), (6, c), (7, d), (8, e), (9, f), (10, g), (11, h)]
theorem wB {P : List Fn} {i id nx b5 v : Nat} {x : Fn} {l : List Ft} {n0 : Nat} {Q : Exit → St → Prop} (h0 : n0 = l.length) (h1 : id < b5) (h2 : b5 < nx) (hx : x.params.length ≤ 2 ^ 40) (hl : (l ++ bL x.params []).length * 16 ≤ 3 * 2 ^ 46)
  (hq : ∀ v' nx', nx ≤ nx' → Q (.exit 2) ⟨env6 P i (.osl id v' 0 (l ++ bL x.params []).length) (.opt b5 0) (.sl (em aI (cV x))) (I x.params.length) .top .top .top .top, [], [(b5, .box (a_ x)), (id, .arr v' 2 (em fD (l ++ bL x.params [])))], nx'⟩) :
  A cf27 (.loop lb27_1) Q (env6 P i (.osl id v 0 n0) (.opt b5 0) (.pl (.slice none 0 0)) (I 0) .top .top .top .top) [(b5, .box (a_ x)), (id, .arr v 2 (em fD l))] nx := by
 subst h0
 refine dO (j := 6) (k := 1) rfl (.inl rfl) ?_
 refine lW ?_
 have hbid : (b5 = id) = False := eq_false (by omega)
 generalize hR : l ++ bL x.params [] = R at *
 refine lpG cf27 lb27_1 [3, 6, 7] (α := Nat × Nat × List Ft × Nat × List (List UInt8)) (fun s _ => [(3, .osl id s.2.1 0 s.2.2.1.length), (6, .osl nx s.2.2.2.1 0 s.2.2.2.2.length), (7, I s.1)]) (fun s _ => [(nx, .arr s.2.2.2.1 1 (em aI s.2.2.2.2)), (b5, .box (a_ x)), (id, .arr s.2.1 2 (em fD s.2.2.1))]) (fun s k => nx < k ∧ s.1 ≤ x.params.length ∧ s.2.2.2.2 = (cV x).take s.1 ∧ s.2.2.1 ++ bL (x.params.drop s.1) s.2.2.2.2 = R) (fun s => x.params.length - s.1) (0, v, l, 0, []) ⟨by omega, by simp, by simp, hR⟩ (by simp [upd]) (by simp) ?_
 rintro ⟨j, v1, l1, v2, N⟩ k ⟨hk, hj, hN, hr⟩
 simp only at hj hN hr
 have g1 : id < nx := by omega
 have g2 : id < k := by omega
 have g3 : b5 < k := by omega
 have g4 : (nx = id) = False := eq_false (by omega)
 have g5 : (nx = b5) = False := eq_false (by omega)
 have hNl : N.length = j := by rw [hN, List.length_take]; simp [cV]; omega
 by_cases hlt : j < x.params.length
 ·have hd : x.params.drop j = x.params[j] :: x.params.drop (j + 1) := List.drop_eq_getElem_cons hlt
  have hN1 : N ++ [x.params[j].name] = (cV x).take (j + 1) := by
   rw [hN, List.take_add_one]; simp [cV, hlt]
  rw [hd] at hr
  unfold bL at hr
  obtain ⟨y, hye⟩ : ∃ y, x.params[j] = y := ⟨_, rfl⟩
  rw [hye] at hr hN1
  have w1 := aX (x := (j : Int) + 1) (by omega) (by omega)
  have hH := uV N y.name (by omega)
  have hb2 : (N.length + 1) * 16 ≤ 3 * 2 ^ 46 := by omega
  by_cases hg : a8 N y.name = true
  ·rw [if_pos hg] at hr
   rw [hg] at hH
   have hb : (l1.length + 1) * 16 ≤ 3 * 2 ^ 46 := by
    have := congrArg List.length hr
    simp only [List.length_append, List.length_cons, List.length_nil] at this; omega
   simp -implicitDefEqProofs [lb27_1, aN, g2, g3, g4, g5, hk, neC g2, neC g3, neC hk, neA, ltA, hbid, hlt, hye]
   refine aD (pX (aG _) (by simp [dE, frz, g4, g5, hbid]) hH ?_)
   simp -implicitDefEqProofs [aN, g2, g3, g4, g5, hk, neC g2, neC g3, neC hk, neA, ltA, hbid, hlt, hye, hb, hb2, w1, dP, snocT]
   exact aK (j + 1, v1 + 1, l1 ++ [(30, y.at')], v2 + 1, N ++ [y.name]) ⟨by omega, hlt, hN1, by rw [List.append_assoc]; exact hr⟩ (by simp only; omega) (by simp) (by simp [aN])
  ·rw [if_neg hg, List.nil_append] at hr
   have hg' : a8 N y.name = false := by simpa using hg
   rw [hg'] at hH
   simp -implicitDefEqProofs [lb27_1, aN, g2, g3, g4, g5, hk, neC g2, neC g3, neC hk, neA, ltA, hbid, hlt, hye]
   refine aD (pX (aG _) (by simp [dE, frz, g4, g5, hbid]) hH ?_)
   simp -implicitDefEqProofs [aN, g2, g3, g4, g5, hk, neC g2, neC g3, neC hk, neA, ltA, hbid, hlt, hye, hb2, w1, dP, snocT]
   exact aK (j + 1, v1, l1, v2 + 1, N ++ [y.name]) ⟨by omega, hlt, hN1, hr⟩ (by simp only; omega) (by simp) (by simp [aN])
 ·have hje : j = x.params.length := by omega
  subst hje
  rw [List.drop_eq_nil_of_le (Nat.le_refl _)] at hr
  unfold bL at hr
  rw [List.append_nil] at hr
  have hNn : N = cV x := by rw [hN]; exact List.take_of_length_le (by simp [cV])
  subst hNn
  subst hr
  simp -implicitDefEqProofs [lb27_1, aN, g2, g3, g4, g5, hk, neC g2, neC g3, neC hk, neA, ltA, hbid]
  refine AW (j := 6) (d' := .sl (em aI (cV x))) [(nx, .arr v2 1 (em aI (cV x)))] [(b5, .box (a_ x)), (id, .arr v1 2 (em fD l1))] rfl (by simp [frz, look]) ?_ ?_ ?_ (by simpa [upd] using hq v1 _ (by omega))
  ·exact xR (iI _)
  ·rw [aN]; exact aE (aG _) (by simp only [look]; rw [if_neg (by omega), if_neg (by omega)])
  ·intro m
   by_cases hm : nx = m
   ·subst hm; right; simp only [look]; rw [if_neg (by omega), if_neg (by omega)]
   ·left; simp [look, hm]
theorem wV {P : List Fn} {i id nx b5 v : Nat} {x : Fn} {l : List Ft} {T : List Sn} {c d : D} {n0 : Nat} {Q : Exit → St → Prop} (h0 : n0 = l.length) (hP : P.length < 2 ^ 40) (h1 : id < b5) (h2 : b5 < nx) (hT : T.length ≤ 2 ^ 40) (hTa : ∀ s ∈ T, s.1.args.length ≤ 2 ^ 40) (hl : (l ++ aV P T).length * 16 ≤ 3 * 2 ^ 46)
  (hq : ∀ v' nx', nx ≤ nx' → Q (.exit 4) ⟨env6 P i (.osl id v' 0 (l ++ aV P T).length) (.opt b5 0) c d (.sl (em gN T)) (I T.length) .top .top, [], [(b5, .box (a_ x)), (id, .arr v' 2 (em fD (l ++ aV P T)))], nx'⟩) :
  A cf27 (.loop lb27_0) Q (env6 P i (.osl id v 0 n0) (.opt b5 0) c d (.sl (em gN T)) (I 0) .top .top) [(b5, .box (a_ x)), (id, .arr v 2 (em fD l))] nx := by
 subst h0
 have hbid : (b5 = id) = False := eq_false (by omega)
 generalize hR : l ++ aV P T = R at *
 refine lpG cf27 lb27_0 [3, 9, 10, 11] (α := Nat × Nat × List Ft) (fun s _ => [(3, .osl id s.2.1 0 s.2.2.length), (9, I s.1), (10, .top), (11, .top)]) (fun s _ => [(b5, .box (a_ x)), (id, .arr s.2.1 2 (em fD s.2.2))]) (fun s k => nx ≤ k ∧ s.1 ≤ T.length ∧ s.2.2 ++ aV P (T.drop s.1) = R) (fun s => T.length - s.1) (0, v, l) ⟨by omega, by simp, hR⟩ (by simp) (by simp) ?_
 rintro ⟨j, v1, l1⟩ k ⟨hk, hj, hr⟩
 simp only at hj hr
 have g2 : id < k := by omega
 have g3 : b5 < k := by omega
 by_cases hlt : j < T.length
 ·have hd : T.drop j = T[j] :: T.drop (j + 1) := List.drop_eq_getElem_cons hlt
  have hmem : T[j] ∈ T := List.getElem_mem hlt
  rw [hd] at hr
  unfold aV at hr
  obtain ⟨y, hye⟩ : ∃ y, T[j] = y := ⟨_, rfl⟩
  rw [hye] at hr hmem
  have w1 := aX (x := (j : Int) + 1) (by omega) (by omega)
  have hb : ∀ z : List Ft, z.length ≤ ((if y.2 = true then [(31, y.1.at')] else []) ++ gW P y.1).length → (l1.length + z.length) * 16 ≤ 3 * 2 ^ 46 := by
   intro z hz
   have := congrArg List.length hr
   simp only [List.length_append] at this hz; omega
  have hH := yT P y.1.name hP
  have hha := hTa y hmem
  have hhl := m_ P 0 y.1.name
  unfold gW at hr hb
  generalize bB P 0 y.1.name = at' at *
  cases hy2 : y.2 with
  | true =>
   by_cases h7 : y.1.op = 7
   ·by_cases ha : at' < 0
    ·simp only [hy2, h7, ha, if_true, if_false, ne_eq, not_true, not_false_eq_true, Bool.false_eq_true, reduceIte, List.nil_append, List.append_nil, List.cons_append] at hr hb
     have b1 := hb [(31, y.1.at')] (by simp)
     have b2 := hb [(31, y.1.at'), (32, y.1.at')] (by simp)
     simp only [List.length_cons, List.length_nil] at b1 b2
     simp -implicitDefEqProofs [lb27_0, aN, bU, g2, g3, neC g2, neC g3, neA, ltA, hbid, hlt, hye, hy2, h7, b1, b2, dP, fU, List.append_assoc, w1]
     refine aH hH (by simp) ?_
     simp -implicitDefEqProofs [aN, bU, g2, g3, neC g2, neC g3, neA, ltA, hbid, hlt, hye, hy2, h7, ha, b1, b2, dP, fU, List.append_assoc, w1]
     exact aK (j + 1, v1 + 2, l1 ++ [(31, y.1.at'), (32, y.1.at')]) ⟨by omega, hlt, by rw [List.append_assoc]; exact hr⟩ (by simp only; omega) (by simp) (by simp only [aN]; exact aQ (aL _) (by simp only [look]; rw [if_neg (by omega), if_neg (by omega)]))
    ·have na : at' < P.length := by omega
     have na0 : 0 ≤ at' := by omega
     have hil : at'.toNat < P.length := by omega
     obtain ⟨q, hq1⟩ : ∃ q, P[at'.toNat] = q := ⟨_, rfl⟩
     have hq2 : P[at'.toNat]?.getD default = q := by rw [List.getElem?_eq_getElem hil]; exact hq1
     simp only [hq2] at hr hb
     by_cases hcn : q.params.length = y.1.args.length
     ·have hc : (q.params.length : Int) = (y.1.args.length : Int) := by omega
      simp only [hy2, h7, ha, hcn, if_true, if_false, ne_eq, not_true, not_false_eq_true, Bool.false_eq_true, reduceIte, List.nil_append, List.append_nil, List.cons_append] at hr hb
      have b1 := hb [(31, y.1.at')] (by simp)
      simp only [List.length_cons, List.length_nil] at b1
      simp -implicitDefEqProofs [lb27_0, aN, bU, g2, g3, neC g2, neC g3, neA, ltA, hbid, hlt, hye, hy2, h7, b1, dP, fU, List.append_assoc, w1]
      refine aH hH (by simp) ?_
      simp -implicitDefEqProofs [aN, bU, g2, g3, neC g2, neC g3, neA, ltA, hbid, hlt, hye, hy2, h7, ha, hc, na, na0, hq1, hq2, b1, dP, fU, List.append_assoc, w1]
      exact aK (j + 1, v1 + 1, l1 ++ [(31, y.1.at')]) ⟨by omega, hlt, by rw [List.append_assoc]; exact hr⟩ (by simp only; omega) (by simp) (by simp only [aN]; exact aQ (aL _) (by simp only [look]; rw [if_neg (by omega), if_neg (by omega)]))
     ·have hc : ¬ (q.params.length : Int) = (y.1.args.length : Int) := by omega
      simp only [hy2, h7, ha, hcn, if_true, if_false, ne_eq, not_true, not_false_eq_true, Bool.false_eq_true, reduceIte, List.nil_append, List.append_nil, List.cons_append] at hr hb
      have b1 := hb [(31, y.1.at')] (by simp)
      have b2 := hb [(31, y.1.at'), (33, y.1.at')] (by simp)
      simp only [List.length_cons, List.length_nil] at b1 b2
      simp -implicitDefEqProofs [lb27_0, aN, bU, g2, g3, neC g2, neC g3, neA, ltA, hbid, hlt, hye, hy2, h7, b1, b2, dP, fU, List.append_assoc, w1]
      refine aH hH (by simp) ?_
      simp -implicitDefEqProofs [aN, bU, g2, g3, neC g2, neC g3, neA, ltA, hbid, hlt, hye, hy2, h7, ha, hc, na, na0, hq1, hq2, b1, b2, dP, fU, List.append_assoc, w1]
      exact aK (j + 1, v1 + 2, l1 ++ [(31, y.1.at'), (33, y.1.at')]) ⟨by omega, hlt, by rw [List.append_assoc]; exact hr⟩ (by simp only; omega) (by simp) (by simp only [aN]; exact aQ (aL _) (by simp only [look]; rw [if_neg (by omega), if_neg (by omega)]))
   ·simp only [hy2, h7, if_true, if_false, ne_eq, not_true, not_false_eq_true, Bool.false_eq_true, reduceIte, List.nil_append, List.append_nil, List.cons_append] at hr hb
    have b1 := hb [(31, y.1.at')] (by simp)
    simp only [List.length_cons, List.length_nil] at b1
    simp -implicitDefEqProofs [lb27_0, aN, bU, g2, g3, neC g2, neC g3, neA, ltA, hbid, hlt, hye, hy2, h7, b1, dP, fU, List.append_assoc, w1]
    exact aK (j + 1, v1 + 1, l1 ++ [(31, y.1.at')]) ⟨by omega, hlt, by rw [List.append_assoc]; exact hr⟩ (by simp only; omega) (by simp) (by simp only [aN]; exact aQ (aL _) (by simp only [look]; rw [if_neg (by omega), if_neg (by omega)]))
  | false =>
   by_cases h7 : y.1.op = 7
   ·by_cases ha : at' < 0
    ·simp only [hy2, h7, ha, if_true, if_false, ne_eq, not_true, not_false_eq_true, Bool.false_eq_true, reduceIte, List.nil_append, List.append_nil, List.cons_append] at hr hb
     have b1 := hb [(32, y.1.at')] (by simp)
     simp only [List.length_cons, List.length_nil] at b1
     simp -implicitDefEqProofs [lb27_0, aN, bU, g2, g3, neC g2, neC g3, neA, ltA, hbid, hlt, hye, hy2, h7, b1, dP, fU, List.append_assoc, w1]
     refine aH hH (by simp) ?_
     simp -implicitDefEqProofs [aN, bU, g2, g3, neC g2, neC g3, neA, ltA, hbid, hlt, hye, hy2, h7, ha, b1, dP, fU, List.append_assoc, w1]
     exact aK (j + 1, v1 + 1, l1 ++ [(32, y.1.at')]) ⟨by omega, hlt, by rw [List.append_assoc]; exact hr⟩ (by simp only; omega) (by simp) (by simp only [aN]; exact aQ (aL _) (by simp only [look]; rw [if_neg (by omega), if_neg (by omega)]))
    ·have na : at' < P.length := by omega
     have na0 : 0 ≤ at' := by omega
     have hil : at'.toNat < P.length := by omega
     obtain ⟨q, hq1⟩ : ∃ q, P[at'.toNat] = q := ⟨_, rfl⟩
     have hq2 : P[at'.toNat]?.getD default = q := by rw [List.getElem?_eq_getElem hil]; exact hq1
     simp only [hq2] at hr hb
     by_cases hcn : q.params.length = y.1.args.length
     ·have hc : (q.params.length : Int) = (y.1.args.length : Int) := by omega
      simp only [hy2, h7, ha, hcn, if_true, if_false, ne_eq, not_true, not_false_eq_true, Bool.false_eq_true, reduceIte, List.nil_append, List.append_nil, List.cons_append] at hr hb
      simp -implicitDefEqProofs [lb27_0, aN, bU, g2, g3, neC g2, neC g3, neA, ltA, hbid, hlt, hye, hy2, h7, dP, fU, List.append_assoc, w1]
      refine aH hH (by simp) ?_
      simp -implicitDefEqProofs [aN, bU, g2, g3, neC g2, neC g3, neA, ltA, hbid, hlt, hye, hy2, h7, ha, hc, na, na0, hq1, hq2, dP, fU, List.append_assoc, w1]
      exact aK (j + 1, v1, l1) ⟨by omega, hlt, by exact hr⟩ (by simp only; omega) (by simp) (by simp only [aN]; exact aQ (aL _) (by simp only [look]; rw [if_neg (by omega), if_neg (by omega)]))
     ·have hc : ¬ (q.params.length : Int) = (y.1.args.length : Int) := by omega
      simp only [hy2, h7, ha, hcn, if_true, if_false, ne_eq, not_true, not_false_eq_true, Bool.false_eq_true, reduceIte, List.nil_append, List.append_nil, List.cons_append] at hr hb
      have b1 := hb [(33, y.1.at')] (by simp)
      simp only [List.length_cons, List.length_nil] at b1
      simp -implicitDefEqProofs [lb27_0, aN, bU, g2, g3, neC g2, neC g3, neA, ltA, hbid, hlt, hye, hy2, h7, b1, dP, fU, List.append_assoc, w1]
      refine aH hH (by simp) ?_
      simp -implicitDefEqProofs [aN, bU, g2, g3, neC g2, neC g3, neA, ltA, hbid, hlt, hye, hy2, h7, ha, hc, na, na0, hq1, hq2, b1, dP, fU, List.append_assoc, w1]
      exact aK (j + 1, v1 + 1, l1 ++ [(33, y.1.at')]) ⟨by omega, hlt, by rw [List.append_assoc]; exact hr⟩ (by simp only; omega) (by simp) (by simp only [aN]; exact aQ (aL _) (by simp only [look]; rw [if_neg (by omega), if_neg (by omega)]))
   ·simp only [hy2, h7, if_true, if_false, ne_eq, not_true, not_false_eq_true, Bool.false_eq_true, reduceIte, List.nil_append, List.append_nil, List.cons_append] at hr hb
    simp -implicitDefEqProofs [lb27_0, aN, bU, g2, g3, neC g2, neC g3, neA, ltA, hbid, hlt, hye, hy2, h7, dP, fU, List.append_assoc, w1]
    exact aK (j + 1, v1, l1) ⟨by omega, hlt, by exact hr⟩ (by simp only; omega) (by simp) (by simp only [aN]; exact aQ (aL _) (by simp only [look]; rw [if_neg (by omega), if_neg (by omega)]))
 ·have hje : j = T.length := by omega
  subst hje
  rw [List.drop_eq_nil_of_le (Nat.le_refl _)] at hr
  unfold aV at hr
  rw [List.append_nil] at hr
  subst hr
  simp -implicitDefEqProofs [lb27_0, aN, g2, g3, neC g2, neC g3, neA, ltA, hbid]
  rw [aN] at hq
  exact hq _ _ (by omega)
mutual
theorem tM : ∀ (e : Ex) (N : List (List UInt8)), ∀ s ∈ bW e N, size s.1 ≤ size e
 | .mk op n t ty z args p, N, s, h => by
  unfold bW at h
  rcases List.mem_append.1 h with h | h
  ·split at h
   ·simp only [List.mem_cons, List.not_mem_nil, or_false] at h
    subst h; exact Nat.le_refl _
   ·simp at h
  ·have := rP op n t 0 args N s h
   simp only [size]; omega
theorem rP (op : Int) (n t : List UInt8) (i : Nat) : ∀ (l : List Ex) (N : List (List UInt8)), ∀ s ∈ cH op n t i l N, size s.1 ≤ aU l
 | [], N, s, h => by simp [cH] at h
 | x :: xs, N, s, h => by
  unfold cH at h
  simp only [aU]
  rcases List.mem_append.1 h with h | h
  ·have := tM x _ s h; omega
  ·have := rP op n t (i + 1) xs N s h; omega
end
theorem FC (P : List Fn) (hP : P.length < 2 ^ 40) (hf : ∀ f ∈ P, size f.body ≤ 2 ^ 37 ∧ f.params.length ≤ 2 ^ 37) (hn : (eT P P 0).length * 16 ≤ 3 * 2 ^ 46) : Pure Tryz.prog 27 [.agg [.sl (em a_ P)]] (.sl (em fD (eT P P 0))) := by
 refine fi27.pu (by simp) ?_
 simp -implicitDefEqProofs [ac27]
 refine dO (j := 3) (k := 2) rfl (.inl rfl) ?_
 generalize hR : eT P P 0 = R at *
 simp -implicitDefEqProofs
 refine lpG cf27 lb27_2 [3, 4, 5, 6, 7, 8, 9, 10, 11] (α := Nat × Nat × List Ft) (fun s _ => [(3, .osl 4 s.2.1 0 s.2.2.length), (4, I s.1), (5, .top), (6, .top), (7, .top), (8, .top), (9, .top), (10, .top), (11, .top)]) (fun s _ => [(4, .arr s.2.1 2 (em fD s.2.2))]) (fun s k => 4 < k ∧ s.1 ≤ P.length ∧ s.2.2 ++ eT P (P.drop s.1) s.1 = R) (fun s => P.length - s.1) (0, 0, []) ⟨by omega, by simp, hR⟩ (by simp) (by simp) ?_
 rintro ⟨i, v, l⟩ k ⟨hk, hi, hr⟩
 simp only at hi hr
 by_cases hlt : i < P.length
 ·have hd : P.drop i = P[i] :: P.drop (i + 1) := List.drop_eq_getElem_cons hlt
  have hmem : P[i] ∈ P := List.getElem_mem hlt
  rw [hd] at hr
  unfold eT fnF at hr
  obtain ⟨x, hxe⟩ : ∃ x, P[i] = x := ⟨_, rfl⟩
  rw [hxe] at hr hmem
  have w1 := aX (x := (i : Int) + 1) (by omega) (by omega)
  have hH := yT P x.name hP
  obtain ⟨hs, hp⟩ := hf x hmem
  have hS := vF x.body (N := cV x) (by simp only [cV, List.length_map]; omega)
  have hT : (bW x.body (cV x)).length ≤ 2 ^ 40 := by have := e9 x.body (cV x); omega
  have hTa : ∀ s ∈ bW x.body (cV x), s.1.args.length ≤ 2 ^ 40 := fun s hs' => by
   have h1 := tM x.body (cV x) s hs'
   have h2 := CU s.1
   omega
  simp only [aA] at hS
  generalize bW x.body (cV x) = T at *
  have hlen := congrArg List.length hr
  simp only [List.length_append] at hlen
  have hk4 : (k + 5 + 5 = 4) = False := eq_false (by omega)
  by_cases hg : bB P 0 x.name < i
  ·rw [if_pos hg] at hr hlen
   simp only [List.length_cons, List.length_nil] at hlen
   have hb : (l.length + 1) * 16 ≤ 3 * 2 ^ 46 := by omega
   simp -implicitDefEqProofs [lb27_2, hlt, hxe]
   refine aH hH (by simp) ?_
   simp -implicitDefEqProofs [hg, Int.not_le.2 hg, hb, dP, hk4]
   rw [← aN]
   refine wB (by simp) (by omega) (by omega) (by omega) (by simp only [List.length_append, List.length_cons, List.length_nil]; omega) (fun v2 n2 hn2 => ?_)
   simp -implicitDefEqProofs [hk4, aN]
   refine aH hS (by simp) ?_
   simp -implicitDefEqProofs [hk4]
   rw [← aN]
   refine wV (by simp) hP (by omega) (by omega) hT hTa (by simp only [List.length_append, List.length_cons, List.length_nil]; omega) (fun v3 n3 hn3 => ?_)
   simp -implicitDefEqProofs [hk4, w1]
   exact aK (i + 1, v3, l ++ [(30, x.at')] ++ bL x.params [] ++ aV P T) ⟨by omega, hlt, by simpa using hr⟩ (by simp only; omega) (by simp) (aQ (by simp) (by simp only [look]; rw [if_neg (by omega)]))
  ·rw [if_neg hg, List.nil_append] at hr
   rw [if_neg hg] at hlen
   simp only [List.length_nil] at hlen
   simp -implicitDefEqProofs [lb27_2, hlt, hxe]
   refine aH hH (by simp) ?_
   simp -implicitDefEqProofs [hg, Int.not_lt.1 hg, hk4]
   rw [← aN]
   refine wB (by simp) (by omega) (by omega) (by omega) (by simp only [List.length_append, List.length_cons, List.length_nil]; omega) (fun v2 n2 hn2 => ?_)
   simp -implicitDefEqProofs [hk4, aN]
   refine aH hS (by simp) ?_
   simp -implicitDefEqProofs [hk4]
   rw [← aN]
   refine wV (by simp) hP (by omega) (by omega) hT hTa (by simp only [List.length_append, List.length_cons, List.length_nil]; omega) (fun v3 n3 hn3 => ?_)
   simp -implicitDefEqProofs [hk4, w1]
   exact aK (i + 1, v3, l ++ bL x.params [] ++ aV P T) ⟨by omega, hlt, by simpa using hr⟩ (by simp only; omega) (by simp) (aQ (by simp) (by simp only [look]; rw [if_neg (by omega)]))
 ·rw [List.drop_eq_nil_of_le (by omega)] at hr
  unfold eT at hr
  rw [List.append_nil] at hr
  subst hr
  simp -implicitDefEqProofs [lb27_2, hlt]
def bI : List Ft → Ft → Ft
 | [], s => s
 | x :: xs, s => bI xs (cJ s x.1 x.2)
theorem ia_Ft {l : List Ft} {mem : Mem} {j : IntKind} {i : Int} : iaD mem 2 (.sl (em fD l)) (.pl (.int j i)) = if 0 ≤ i ∧ i < l.length then some (.pt [I (l[i.toNat]?.getD default).1, I (l[i.toNat]?.getD default).2]) else none := lS fun f => rfl
attribute [simp] ia_Ft
theorem ref6_c (P : List Fn) (hP : P.length < 2 ^ 40) (hf : ∀ f ∈ P, size f.body ≤ 2 ^ 37 ∧ f.params.length ≤ 2 ^ 37) (hn : (eT P P 0).length * 16 ≤ 3 * 2 ^ 46) : Pure Tryz.prog 9 [.agg [.sl (em a_ P)]] (.agg [I (bI (eT P P 0) (0, 0)).1, I (bI (eT P P 0) (0, 0)).2]) := by
 refine fi9.pu (by simp) ?_
 have hF := FC P hP hf hn
 have hl : (eT P P 0).length < 2 ^ 62 := by omega
 generalize eT P P 0 = l at *
 simp -implicitDefEqProofs [ac9]
 refine aH hF (by simp) ?_
 simp -implicitDefEqProofs
 generalize hR : bI l (0, 0) = R
 refine lpG cf9 lb9_0 [5] (α := Nat × Ft) (fun s _ => [(5, I s.1)]) (fun s _ => [(5, .box [I s.2.1, I s.2.2]), (1, .box [I 0, I 0])]) (fun s k => s.1 ≤ l.length ∧ bI (l.drop s.1) s.2 = R) (fun s => l.length - s.1) (0, (0, 0)) ⟨by simp, hR⟩ (by simp) (aL _) ?_
 rintro ⟨i, s⟩ k ⟨hi, hr⟩
 simp only at hi hr
 by_cases hlt : i < l.length
 ·have hd : l.drop i = l[i] :: l.drop (i + 1) := List.drop_eq_getElem_cons hlt
  rw [hd] at hr
  unfold bI at hr
  obtain ⟨x, hxe⟩ : ∃ x, l[i] = x := ⟨_, rfl⟩
  rw [hxe] at hr
  have w1 := aX (x := (i : Int) + 1) (by omega) (by omega)
  unfold cJ at hr
  by_cases h0 : s.1 = 0
  ·rw [if_pos (.inl h0)] at hr
   simp -implicitDefEqProofs [lb9_0, hlt, hxe, h0, w1]
   exact aK (i + 1, x) ⟨hlt, hr⟩ (by simp only; omega) (by simp) (by simp)
  ·by_cases h1 : x.2 < s.2
   ·rw [if_pos (.inr h1)] at hr
    simp -implicitDefEqProofs [lb9_0, hlt, hxe, h0, h1, w1]
    exact aK (i + 1, x) ⟨hlt, hr⟩ (by simp only; omega) (by simp) (by simp)
   ·rw [if_neg (by omega)] at hr
    simp -implicitDefEqProofs [lb9_0, hlt, hxe, h0, h1, w1]
    exact aK (i + 1, s) ⟨hlt, hr⟩ (by simp only; omega) (by simp) (by simp)
 ·rw [List.drop_eq_nil_of_le (by omega)] at hr
  unfold bI at hr
  subst hr
  simp -implicitDefEqProofs [lb9_0, hlt]
def eB : List Fn → Nat → Sm → Ft → Sm × Ft
 | [], _, pl, s => (pl, s)
 | f :: fs, i, pl, s => if cC pl f.name > 0 then eB fs (i + 1) pl (cJ s 30 f.at') else eB fs (i + 1) (d8 pl f.name (i + 1)) s
def gV : List Pm → Sm → Ft → Sm × Ft
 | [], m, s => (m, s)
 | x :: xs, m, s => gV xs (cK m x.name) (if cC m x.name > 0 then cJ s 30 x.at' else s)
def iR (P : List Fn) (pl : Sm) : List Fn → Ft → Ft
 | [], s => s
 | f :: fs, s => iR P pl fs (gL P pl f.body (gV f.params [] s).1 (gV f.params [] s).2).2
def kU (P : List Fn) : Ft := iR P (eB P 0 [] (0, 0)).1 P (eB P 0 [] (0, 0)).2
theorem nP (P : List Fn) : ∀ (l : List Fn) (i : Nat) (pl : Sm) (s : Ft), i + l.length ≤ P.length → plOk P pl → plOk P (eB l i pl s).1
 | [], i, pl, s, _, h => h
 | f :: fs, i, pl, s, hl, h => by
  simp only [List.length_cons] at hl
  unfold eB
  split
  ·exact nP P fs _ _ _ (by omega) h
  ·refine nP P fs _ _ _ (by omega) fun n => ?_
   rw [mR]
   split
   ·omega
   ·exact h n
theorem nL (n : List UInt8) : cC [] n = 0 := rfl
theorem DB (s : Ft) (w p : Int) {fid : Nat} {mem : Mem} {nx : Nat} {K : KD} (hl : look mem fid = some (.box [I s.1, I s.2])) (hi : fid < nx) (hk : ∀ nx', nx ≤ nx' → K (.tup []) (upd mem fid (.box [I (cJ s w p).1, I (cJ s w p).2])) nx') :
  clK Tryz.prog (some (.fn 24 [.opt fid 0])) (some [I w, I p]) mem nx K := iX (BK s w p hl hi hk)
theorem y7 (P : List Fn) (hP : P.length < 2 ^ 40) (hf : ∀ f ∈ P, size f.body ≤ 2 ^ 40 ∧ f.params.length ≤ 2 ^ 40) : Pure Tryz.prog 8 [.agg [.sl (em a_ P)]] (.agg [I (kU P).1, I (kU P).2]) := by
 refine fi8.pu (by simp) ?_
 simp -implicitDefEqProofs (maxDischargeDepth := 80) [ac8]
 generalize hR : eB P 0 [] (0, 0) = R
 have hplR : plOk P R.1 := hR ▸ nP P P 0 [] (0, 0) (by omega) (fun n => by rw [nL]; omega)
 have hfin : kU P = iR P R.1 P R.2 := by unfold kU; rw [hR]
 rw [hfin]
 clear hfin
 refine lpG cf8 lb8_2 [6, 7, 18] (α := Nat × Sm × Ft) (fun s _ => [(6, .top), (7, .top), (18, I s.1)]) (fun s _ => [(7, .box [.omap 6]), (6, .map (aJ s.2.1)), (4, .box [.fn 24 [.opt 2 0]]), (2, .box [I s.2.2.1, I s.2.2.2]), (1, .box [I 0, I 0]), (0, .box [.sl (em a_ P)])]) (fun s k => 13 ≤ k ∧ s.1 ≤ P.length ∧ eB (P.drop s.1) s.1 s.2.1 s.2.2 = R) (fun s => P.length - s.1) (0, [], (0, 0)) ⟨by omega, by simp, hR⟩ (by simp) (aL _) ?_
 rintro ⟨i, pl, s⟩ k ⟨hk, hi, hr⟩
 simp only at hi hr
 have Kk := nfc trivial hk
 by_cases hlt : i < P.length
 ·have hd : P.drop i = P[i] :: P.drop (i + 1) := List.drop_eq_getElem_cons hlt
  rw [hd] at hr
  unfold eB at hr
  obtain ⟨x, hxe⟩ : ∃ x, P[i] = x := ⟨_, rfl⟩
  rw [hxe] at hr
  have w1 := aX (x := (i : Int) + 1) (by omega) (by omega)
  by_cases hg : cC pl x.name > 0
  ·rw [if_pos hg] at hr
   simp -implicitDefEqProofs (maxDischargeDepth := 80) [neA, ltA, Kk, lb8_2, hlt, hxe, hg]
   refine DB s 30 x.at' (by simp -implicitDefEqProofs (maxDischargeDepth := 80) [neA, ltA, Kk]) (by omega) (fun n1 hn1 => ?_)
   simp -implicitDefEqProofs (maxDischargeDepth := 80) [neA, ltA, Kk, w1]
   exact aK (i + 1, pl, cJ s 30 x.at') ⟨by omega, hlt, hr⟩ (by simp only; omega) (by simp) (aQ (aL _) (by simp only [look]; repeat rw [if_neg (by omega)]))
  ·rw [if_neg hg] at hr
   simp -implicitDefEqProofs (maxDischargeDepth := 80) [neA, ltA, Kk, lb8_2, hlt, hxe, hg, w1]
   exact aK (i + 1, d8 pl x.name (i + 1), s) ⟨by omega, hlt, hr⟩ (by simp only; omega) (by simp) (aQ (aL _) (by simp only [look]; repeat rw [if_neg (by omega)]))
 ·rw [List.drop_eq_nil_of_le (by omega)] at hr
  unfold eB at hr
  subst hr
  simp -implicitDefEqProofs (maxDischargeDepth := 80) [neA, ltA, Kk, lb8_2, hlt]
  have hn : 13 ≤ k + 1 + 4 := by omega
  generalize k + 1 + 4 = nx at *
  generalize hQ : iR P pl P s = Q
  refine lpG cf8 lb8_1 [9, 10, 12, 41, 47, 48, 49] (α := Nat × Ft) (fun s _ => [(9, .top), (10, .top), (12, .top), (41, I s.1), (47, .top), (48, .top), (49, .top)]) (fun s _ => [(7, .box [.omap 6]), (6, .map (aJ pl)), (4, .box [.fn 24 [.opt 2 0]]), (2, .box [I s.2.1, I s.2.2]), (1, .box [I 0, I 0]), (0, .box [.sl (em a_ P)])]) (fun s k => 13 ≤ k ∧ s.1 ≤ P.length ∧ iR P pl (P.drop s.1) s.2 = Q) (fun s => P.length - s.1) (0, s) ⟨by omega, by simp, hQ⟩ (by simp) (aL _) ?_
  clear hQ hR hk hn
  rintro ⟨i, s⟩ k ⟨hk, hi, hr⟩
  simp only at hi hr
  have Kk := nfc Kk hk
  by_cases hlt : i < P.length
  ·have hd : P.drop i = P[i] :: P.drop (i + 1) := List.drop_eq_getElem_cons hlt
   have hmem : P[i] ∈ P := List.getElem_mem hlt
   rw [hd] at hr
   unfold iR at hr
   obtain ⟨x, hxe⟩ : ∃ x, P[i] = x := ⟨_, rfl⟩
   rw [hxe] at hr hmem
   have w1 := aX (x := (i : Int) + 1) (by omega) (by omega)
   simp -implicitDefEqProofs (maxDischargeDepth := 80) [neA, ltA, Kk, lb8_1, hlt, hxe]
   obtain ⟨hsx, hpx⟩ := hf x hmem
   have hm1 : 13 ≤ k + 5 := by omega
   have hb9 : 13 ≤ k + 1 + 2 := by omega
   have hmb : (k + 1 + 2 = k + 5) = False := eq_false (by omega)
   have hmb2 : (k + 5 = k + 1 + 2) = False := eq_false (by omega)
   have hk1 : k + 5 < k + 1 + 4 + 2 + 4 ∧ k + 1 + 2 < k + 1 + 4 + 2 + 4 := ⟨by omega, by omega⟩
   generalize k + 1 + 4 + 2 + 4 = k1 at *
   generalize hme : k + 5 = mid at *
   generalize hbe : k + 1 + 2 = b9 at *
   generalize hR2 : gV x.params [] s = R2 at *
   refine lpG cf8 lb8_0 [12, 49] (α := Nat × Sm × Ft) (fun s _ => [(12, .top), (49, I s.1)]) (fun s _ => [(mid, .map (aJ s.2.1)), (b9, .box (a_ x)), (7, .box [.omap 6]), (6, .map (aJ pl)), (4, .box [.fn 24 [.opt 2 0]]), (2, .box [I s.2.2.1, I s.2.2.2]), (1, .box [I 0, I 0]), (0, .box [.sl (em a_ P)])]) (fun s k2 => k1 ≤ k2 ∧ s.1 ≤ x.params.length ∧ gV (x.params.drop s.1) s.2.1 s.2.2 = R2) (fun s => x.params.length - s.1) (0, [], s) ⟨by omega, by simp, hR2⟩ (by simp) (by rw [aN]; exact aL _) ?_
   rintro ⟨j, m, s2⟩ k2 ⟨hk2, hj, hr2⟩
   simp only at hj hr2
   have g2 : 13 ≤ k2 := by omega
   have g3 : mid < k2 := by omega
   have g4 : b9 < k2 := by omega
   by_cases hjl : j < x.params.length
   ·have hd2 : x.params.drop j = x.params[j] :: x.params.drop (j + 1) := List.drop_eq_getElem_cons hjl
    rw [hd2] at hr2
    unfold gV at hr2
    obtain ⟨y, hye⟩ : ∃ y, x.params[j] = y := ⟨_, rfl⟩
    rw [hye] at hr2
    have w2 := aX (x := (j : Int) + 1) (by omega) (by omega)
    by_cases hg : cC m y.name > 0
    ·rw [if_pos hg] at hr2
     simp -implicitDefEqProofs (maxDischargeDepth := 80) [neA, ltA, Kk, lb8_0, hjl, hye, hg, neE g2, neE hm1, neE hb9, hmb, hmb2, g3, g4, neC g3, neC g4, aN]
     refine DB s2 30 y.at' (by simp -implicitDefEqProofs (maxDischargeDepth := 80) [neA, ltA, Kk, neE g2, neE hm1, neE hb9, hmb, hmb2, g3, g4, neC g3, neC g4, aN]) (by omega) (fun n1 hn1 => ?_)
     simp -implicitDefEqProofs (maxDischargeDepth := 80) [neA, ltA, Kk, w2, neE g2, neE hm1, neE hb9, hmb, hmb2, g3, g4, neC g3, neC g4, aN]
     exact aK (j + 1, cK m y.name, cJ s2 30 y.at') ⟨by omega, hjl, hr2⟩ (by simp only; omega) (by simp) (by simp only [cK, aN]; exact aQ (aL _) (by simp only [look]; repeat rw [if_neg (by omega)]))
    ·rw [if_neg hg] at hr2
     simp -implicitDefEqProofs (maxDischargeDepth := 80) [neA, ltA, Kk, lb8_0, hjl, hye, hg, neE g2, neE hm1, neE hb9, hmb, hmb2, g3, g4, neC g3, neC g4, aN, w2]
     exact aK (j + 1, cK m y.name, s2) ⟨by omega, hjl, hr2⟩ (by simp only; omega) (by simp) (by simp only [cK, aN]; exact aQ (aL _) (by simp only [look]; repeat rw [if_neg (by omega)]))
   ·rw [List.drop_eq_nil_of_le (by omega)] at hr2
    unfold gV at hr2
    subst hr2
    have hx := CV x.body
    unfold WC at hx
    simp only [aA] at hx
    simp -implicitDefEqProofs (maxDischargeDepth := 80) [neA, ltA, Kk, lb8_0, hjl, neE g2, neE hm1, neE hb9, hmb, hmb2, g3, g4, neC g3, neC g4, aN]
    refine aD (hx (mid := mid) (fid := 2) (b5 := 7) (pid := 6) (b4 := 4) (b1 := 0) (P := P) (pl := pl) (m := m) (s := s2) ?_ hplR hP hsx (fun n3 hn3 => ?_))
    ·constructor <;> first | omega | simp -implicitDefEqProofs (maxDischargeDepth := 80) [neA, ltA, Kk, neE g2, neE hm1, neE hb9, hmb, hmb2, g3, g4, neC g3, neC g4, aN]
    ·generalize gL P pl x.body m s2 = r3 at *
     simp -implicitDefEqProofs (maxDischargeDepth := 80) [neA, ltA, Kk, cL, w1, neE g2, neE hm1, neE hb9, hmb, hmb2, g3, g4, neC g3, neC g4, aN]
     exact aK (i + 1, r3.2) ⟨by omega, hlt, hr⟩ (by simp only; omega) (by simp) (aQ (aQ (aL _) (by simp only [look]; repeat rw [if_neg (by omega)])) (by simp only [look]; repeat rw [if_neg (by omega)]))
  ·rw [List.drop_eq_nil_of_le (by omega)] at hr
   unfold iR at hr
   subst hr
   simp -implicitDefEqProofs (maxDischargeDepth := 80) [neA, ltA, Kk, lb8_1, hlt]
theorem cE : ∀ (a b : List Ft) (s : Ft), bI (a ++ b) s = bI b (bI a s)
 | [], b, s => rfl
 | x :: xs, b, s => cE xs b _
theorem i7 (P : List Fn) : ∀ (a b : List Sn), aV P (a ++ b) = aV P a ++ aV P b
 | [], b => rfl
 | x :: xs, b => by
  show _ ++ aV P (xs ++ b) = _ ++ aV P xs ++ _
  rw [i7 P xs b]; simp only [List.append_assoc]
def Rm (m : Sm) (N : List (List UInt8)) : Prop := ∀ n, cC m n = (N.count n : Int)
theorem mO : ∀ (N : List (List UInt8)) (n : List UInt8), a8 N n = true ↔ 0 < N.count n
 | [], n => by simp [a8]
 | x :: xs, n => by
  unfold a8
  rw [List.count_cons]
  by_cases h : x = n
  ·simp [h]
  ·rw [if_neg h, mO xs n]; simp [h]
theorem Rm.inc {m : Sm} {N : List (List UInt8)} (h : Rm m N) (hN : N.length < 2 ^ 62) (x : List UInt8) : Rm (cK m x) (N ++ [x]) := fun n => by
 have hc := List.count_le_length (a := x) (l := N)
 unfold cK
 rw [mR, List.count_append, h x, aX (by omega) (by omega)]
 by_cases e : x = n
 ·subst e; simp
 ·rw [if_neg e, h n]
  simp [e]
theorem Rm.incs : ∀ (M : List (List UInt8)) {m : Sm} {N : List (List UInt8)}, Rm m N → N.length + M.length < 2 ^ 62 → Rm (M.foldl cK m) (N ++ M)
 | [], m, N, h, _ => by simpa using h
 | x :: xs, m, N, h, hl => by
  simp only [List.length_cons] at hl
  have := Rm.incs xs (h.inc (by omega) x) (by simp only [List.length_append, List.length_cons, List.length_nil]; omega)
  simpa using this
theorem Rm.decs : ∀ (M : List (List UInt8)) {m : Sm} {N : List (List UInt8)}, Rm m (N ++ M) → N.length + M.length < 2 ^ 62 → Rm (M.foldl j0 m) N
 | [], m, N, h, _ => by simpa using h
 | x :: xs, m, N, h, hl => by
  simp only [List.length_cons] at hl
  refine Rm.decs xs (fun n => ?_) (by omega)
  have hx := h x
  rw [List.count_append, List.count_cons_self] at hx
  have hc := List.count_le_length (a := x) (l := N)
  have hc2 := List.count_le_length (a := x) (l := xs)
  unfold j0
  rw [mR, hx, aX (by omega) (by omega)]
  by_cases e : x = n
  ·subst e; rw [if_pos rfl, List.count_append]; omega
  ·rw [if_neg e, h n, List.count_append, List.count_append, List.count_cons_of_ne e]
def Rp (P : List Fn) (pl : Sm) : Prop := ∀ n, cC pl n = bB P 0 n + 1
theorem DW {P : List Fn} {pl m : Sm} {N : List (List UInt8)} (h : Rm m N) (hp : Rp P pl) (op : Int) (n t : List UInt8) (ty : Int) (z : Cx) (args : List Ex) (p : Int) (s : Ft) (L : List Sn) (hL : L = if op = 6 ∨ op = 7 then [(.mk op n t ty z args p, op = 6 && !a8 N n)] else []) :
  iK P pl op p n args.length m s = bI (aV P L) s := by
 unfold iK
 have hg : (cC m n = 0) ↔ a8 N n = false := by
  rw [h n]
  have := mO N n
  cases hh : a8 N n with
  | true =>
   have := this.1 hh
   exact ⟨fun k => by omega, fun k => by simp at k⟩
  | false =>
   refine ⟨fun _ => rfl, fun _ => ?_⟩
   rw [hh] at this
   have h0 : ¬ 0 < N.count n := fun g => by simpa using this.2 g
   omega
 have hh := m_ P 0 n
 rw [hp n]
 by_cases h6 : op = 6
 ·have h7 : ¬ op = 7 := by omega
  rw [if_pos (.inl h6)] at hL
  subst hL
  by_cases g : a8 N n = false
  ·rw [if_pos ⟨h6, hg.2 g⟩]; simp [aV, bI, h6, g, gW, Ex.op, Ex.at']
  ·rw [if_neg (fun k => g (hg.1 k.2)), if_neg (fun k => h7 k.1), if_neg (fun k => h7 k.1)]
   have g' : a8 N n = true := by simpa using g
   simp [aV, bI, h6, g', gW, Ex.op, Ex.at']
 ·by_cases h7 : op = 7
  ·rw [if_pos (.inr h7)] at hL
   subst hL
   rw [if_neg (fun k => h6 k.1)]
   by_cases g : bB P 0 n < 0
   ·rw [if_pos ⟨h7, by omega⟩]; simp [aV, bI, h7, g, gW, Ex.op, Ex.at', Ex.name]
   ·rw [if_neg (by omega)]
    have e : (bB P 0 n + 1).toNat - 1 = (bB P 0 n).toNat := by omega
    rw [e]
    by_cases g2 : (P[(bB P 0 n).toNat]?.getD default).params.length = args.length
    ·rw [if_neg (fun k => k.2 g2)]; simp [aV, bI, h7, g, g2, gW, Ex.op, Ex.at', Ex.name, Ex.args]
    ·rw [if_pos ⟨h7, g2⟩]; simp [aV, bI, h7, g, g2, gW, Ex.op, Ex.at', Ex.name, Ex.args]
  ·rw [if_neg (by omega)] at hL
   subst hL
   rw [if_neg (fun k => h6 k.1), if_neg (fun k => h7 k.1), if_neg (fun k => h7 k.1)]; rfl
mutual
theorem yD {P : List Fn} {pl : Sm} (hp : Rp P pl) : ∀ (e : Ex) (m : Sm) (N : List (List UInt8)) (s : Ft), Rm m N → N.length + 2 * size e < 2 ^ 62 → Rm (gL P pl e m s).1 N ∧ (gL P pl e m s).2 = bI (aV P (bW e N)) s
 | .mk op n t ty z args p, m, N, s, h, hl => by
  simp only [size] at hl
  have := xK hp op n t 0 args m N (iK P pl op p n args.length m s) h (by omega)
  unfold gL bW
  rw [i7, cE, ← DW h hp op n t ty z args p s _ rfl]
  exact this
theorem xK {P : List Fn} {pl : Sm} (hp : Rp P pl) (op : Int) (n t : List UInt8) (i : Nat) : ∀ (l : List Ex) (m : Sm) (N : List (List UInt8)) (s : Ft), Rm m N → N.length + 2 + 2 * aU l < 2 ^ 62 → Rm (gS P pl op n t i l m s).1 N ∧ (gS P pl op n t i l m s).2 = bI (aV P (cH op n t i l N)) s
 | [], m, N, s, h, _ => ⟨h, rfl⟩
 | x :: xs, m, N, s, h, hl => by
  have hb := h9 op n t i
  simp only [aU] at hl
  have hs1 : 1 ≤ size x := by cases x; simp only [size]; omega
  have h1 := yD hp x _ (N ++ bM op n t i) s (Rm.incs (bM op n t i) h (by omega)) (by rw [List.length_append]; omega)
  have h2 := xK hp op n t (i + 1) xs _ N (gL P pl x ((bM op n t i).foldl cK m) s).2 (Rm.decs (bM op n t i) h1.1 (by omega)) (by omega)
  unfold gS cH
  rw [i7, cE, ← h1.2]
  exact h2
end
theorem Rm_pos {m : Sm} {N : List (List UInt8)} (h : Rm m N) (n : List UInt8) : (cC m n > 0) ↔ a8 N n = true := by
 rw [mO, h n]; omega
theorem sH : ∀ (l : List Pm) (m : Sm) (N : List (List UInt8)) (s : Ft), Rm m N → N.length + l.length < 2 ^ 62 → Rm (gV l m s).1 (N ++ l.map Pm.name) ∧ (gV l m s).2 = bI (bL l N) s
 | [], m, N, s, h, _ => by simpa [gV, bL, bI] using h
 | x :: xs, m, N, s, h, hl => by
  simp only [List.length_cons] at hl
  have hi := h.inc (by omega) x.name
  have hp := Rm_pos h x.name
  unfold gV bL
  by_cases g : cC m x.name > 0
  ·rw [if_pos g, if_pos (hp.1 g)]
   have := sH xs _ _ (cJ s 30 x.at') hi (by simp only [List.length_append, List.length_cons, List.length_nil]; omega)
   simp only [List.map_cons]
   rw [List.append_assoc] at this
   exact this
  ·rw [if_neg g, if_neg (fun k => g (hp.2 k))]
   have := sH xs _ _ s hi (by simp only [List.length_append, List.length_cons, List.length_nil]; omega)
   simp only [List.map_cons]
   rw [List.append_assoc] at this
   exact this
def kF (P : List Fn) (f : Fn) : List Ft := bL f.params [] ++ aV P (bW f.body (cV f))
def hD (P : List Fn) : List Fn → List Ft
 | [] => []
 | f :: fs => kF P f ++ hD P fs
theorem qS : Rm [] [] := fun n => by rw [nL]; simp
theorem w9 {P : List Fn} {pl : Sm} (hp : Rp P pl) : ∀ (l : List Fn) (s : Ft), (∀ f ∈ l, size f.body ≤ 2 ^ 37 ∧ f.params.length ≤ 2 ^ 37) → iR P pl l s = bI (hD P l) s
 | [], s, _ => rfl
 | f :: fs, s, h => by
  obtain ⟨h1, h2⟩ := h f (by simp)
  have a := sH f.params [] [] s qS (by simp only [List.length_nil]; omega)
  rw [List.nil_append] at a
  have b := yD hp f.body _ (cV f) (gV f.params [] s).2 a.1 (by simp only [cV, List.length_map]; omega)
  unfold iR hD kF
  rw [b.2, a.2, cE, cE]
  exact w9 hp fs _ (fun g hg => h g (by simp [hg]))
def fN (P : List Fn) : List Fn → Nat → List Ft
 | [], _ => []
 | f :: fs, i => (if bB P 0 f.name < i then [(30, f.at')] else []) ++ fN P fs (i + 1)
theorem o0 (n : List UInt8) : ∀ (a b : List Fn) (k : Nat), bB (a ++ b) k n = if bB a k n = -1 then bB b (k + a.length) n else bB a k n
 | [], b, k => by simp [bB]
 | f :: fs, b, k => by
  have hc : ∀ l, bB (f :: l) k n = if f.name = n then (k : Int) else bB l (k + 1) n := fun l => rfl
  rw [List.cons_append, hc, hc]
  by_cases h : f.name = n
  ·rw [if_pos h, if_pos h, if_neg (by omega)]
  ·rw [if_neg h, if_neg h, o0 n fs b (k + 1)]
   simp only [List.length_cons, Nat.add_assoc, Nat.add_comm 1 fs.length]
theorem oV (P : List Fn) : ∀ (l A : List Fn) (pl : Sm) (s : Ft), P = A ++ l → (∀ n, cC pl n = bB A 0 n + 1) → (∀ n, cC (eB l A.length pl s).1 n = bB P 0 n + 1) ∧ (eB l A.length pl s).2 = bI (fN P l A.length) s
 | [], A, pl, s, hP, h => by
  rw [List.append_nil] at hP
  subst hP
  exact ⟨h, rfl⟩
 | f :: fs, A, pl, s, hP, h => by
  have hA := m_ A 0 f.name
  have hh : bB P 0 f.name = if bB A 0 f.name = -1 then (A.length : Int) else bB A 0 f.name := by
   rw [hP, o0]
   by_cases g : bB A 0 f.name = -1
   ·rw [if_pos g, if_pos g]; unfold bB; rw [if_pos rfl]; simp
   ·rw [if_neg g, if_neg g]
  have hP2 : P = (A ++ [f]) ++ fs := by rw [hP]; simp
  have hl : (A ++ [f]).length = A.length + 1 := by simp
  have hs : ∀ n, bB (A ++ [f]) 0 n = if bB A 0 n = -1 then (if f.name = n then (A.length : Int) else -1) else bB A 0 n := fun n => by
   rw [o0]
   simp [bB]
  unfold eB fN
  rw [hh, h f.name]
  by_cases g : bB A 0 f.name = -1
  ·rw [if_neg (by omega), if_pos g, if_neg (by omega)]
   have := oV P fs (A ++ [f]) (d8 pl f.name (A.length + 1)) s hP2 (fun n => by
    rw [mR, hs n]
    by_cases e : f.name = n
    ·subst e; rw [if_pos rfl, if_pos g, if_pos rfl]
    ·rw [if_neg e, h n]
     by_cases g2 : bB A 0 n = -1
     ·rw [if_pos g2, if_neg e, g2]
     ·rw [if_neg g2])
   rw [hl] at this
   exact this
  ·rw [if_pos (by omega), if_neg g, if_pos (by omega)]
   have := oV P fs (A ++ [f]) pl (cJ s 30 f.at') hP2 (fun n => by
    rw [hs n, h n]
    by_cases g2 : bB A 0 n = -1
    ·rw [if_pos g2]
     by_cases e : f.name = n
     ·subst e; exact absurd g2 g
     ·rw [if_neg e, g2]
    ·rw [if_neg g2])
   rw [hl] at this
   exact this
theorem DC {x y : Ft} (hx : x.1 ≠ 0) (hy : y.1 ≠ 0) (h : x.2 ≠ y.2) (s : Ft) : cJ (cJ s x.1 x.2) y.1 y.2 = cJ (cJ s y.1 y.2) x.1 x.2 := by
 unfold cJ
 by_cases h0 : s.1 = 0
 ·by_cases g : y.2 < x.2
  ·have : ¬ x.2 < y.2 := by omega
   simp [h0, hx, hy, g, this]
  ·have : x.2 < y.2 := by omega
   simp [h0, hx, hy, g, this]
 ·by_cases g1 : x.2 < s.2
  ·by_cases g2 : y.2 < s.2
   ·by_cases g : y.2 < x.2
    ·have : ¬ x.2 < y.2 := by omega
     simp [h0, hx, hy, g, this, g1, g2]
    ·have : x.2 < y.2 := by omega
     simp [h0, hx, hy, g, this, g1, g2]
   ·have : ¬ y.2 < x.2 := by omega
    simp [h0, hx, hy, this, g1, g2]
  ·by_cases g2 : y.2 < s.2
   ·have : ¬ x.2 < y.2 := by omega
    simp [h0, hx, hy, this, g1, g2]
   ·simp [h0, g1, g2]
theorem tZ {x : Ft} (hx : x.1 ≠ 0) : ∀ (B : List Ft) (s : Ft), (∀ y ∈ B, y.1 ≠ 0 ∧ x.2 ≠ y.2) → bI B (cJ s x.1 x.2) = cJ (bI B s) x.1 x.2
 | [], s, _ => rfl
 | y :: ys, s, h => by
  obtain ⟨h1, h2⟩ := h y (by simp)
  unfold bI
  rw [DC hx h1 h2]
  exact tZ hx ys _ (fun z hz => h z (by simp [hz]))
theorem qW : ∀ (A B : List Ft) (s : Ft), (∀ x ∈ A, x.1 ≠ 0) → (∀ y ∈ B, y.1 ≠ 0) → (∀ x ∈ A, ∀ y ∈ B, x.2 ≠ y.2) → bI (A ++ B) s = bI (B ++ A) s
 | [], B, s, _, _, _ => by simp
 | x :: xs, B, s, h1, h2, h3 => by
  have := qW xs B (cJ s x.1 x.2) (fun z hz => h1 z (by simp [hz])) h2 (fun z hz => h3 z (by simp [hz]))
  show bI (xs ++ B) (cJ s x.1 x.2) = _
  rw [this, cE, cE, tZ (h1 x (by simp)) B s (fun y hy => ⟨h2 y hy, h3 x (by simp) y hy⟩)]
  rfl
def FtIn (ms : List Mk) (a b : Nat) (l : List Ft) : Prop := ∀ x ∈ l, x.1 ≠ 0 ∧ placeIn ms a b x.2
theorem FtIn.app {ms : List Mk} {a b : Nat} {l k : List Ft} (h : FtIn ms a b l) (g : FtIn ms a b k) : FtIn ms a b (l ++ k) := fun x hx => (List.mem_append.1 hx).elim (h x) (g x)
theorem FtIn.mono {ms : List Mk} {a b c d : Nat} {l : List Ft} (h : FtIn ms a b l) (h1 : c ≤ a) (h2 : b ≤ d) : FtIn ms c d l := fun x hx => ⟨(h x hx).1, (h x hx).2.mono h1 h2⟩
theorem FtIn.ite {ms : List Mk} {a b : Nat} {p : Prop} [Decidable p] {w q : Int} (hw : w ≠ 0) (h : placeIn ms a b q) : FtIn ms a b (if p then [(w, q)] else []) := by
 split
 ·intro x hx
  simp only [List.mem_cons, List.not_mem_nil, or_false] at hx
  subst hx; exact ⟨hw, h⟩
 ·intro x hx; simp at hx
theorem AZ {ms : List Mk} {a b : Nat} : ∀ (l : List Pm) (N : List (List UInt8)), (∀ p ∈ l, PmOk ms a b p) → FtIn ms a b (bL l N)
 | [], N, _ => fun x hx => by simp [bL] at hx
 | p :: ps, N, h => by
  unfold bL
  exact (FtIn.ite (by decide) (h p (by simp)).1).app (AZ ps _ (fun q hq => h q (by simp [hq])))
theorem F7 {ms : List Mk} {a b : Nat} {P : List Fn} {e : Ex} (h : placeIn ms a b e.at') : FtIn ms a b (gW P e) := by
 unfold gW
 split
 ·intro x hx; simp at hx
 ·split
  ·intro x hx
   simp only [List.mem_cons, List.not_mem_nil, or_false] at hx
   subst hx; exact ⟨by simp, h⟩
  ·exact FtIn.ite (by decide) h
theorem w_ {ms : List Mk} {a b : Nat} {P : List Fn} : ∀ (l : List Sn), (∀ s ∈ l, placeIn ms a b s.1.at') → FtIn ms a b (aV P l)
 | [], _ => fun x hx => by simp [aV] at hx
 | s :: r, h => by
  unfold aV
  exact ((FtIn.ite (by decide) (h s (by simp))).app (F7 (h s (by simp)))).app (w_ r (fun q hq => h q (by simp [hq])))
mutual
theorem xA {ms : List Mk} {a b : Nat} : ∀ (e : Ex) (N : List (List UInt8)), Wf ms a b e → ∀ s ∈ bW e N, placeIn ms a b s.1.at'
 | .mk op n t ty z args p, N, hw, s, h => by
  unfold Wf at hw
  unfold bW at h
  rcases List.mem_append.1 h with h | h
  ·split at h
   ·simp only [List.mem_cons, List.not_mem_nil, or_false] at h
    subst h; exact hw.1
   ·simp at h
  ·exact tW op n t 0 args N hw.2.2 s h
theorem tW {ms : List Mk} {a b : Nat} (op : Int) (n t : List UInt8) (i : Nat) : ∀ (l : List Ex) (N : List (List UInt8)), Wfs ms a b l → ∀ s ∈ cH op n t i l N, placeIn ms a b s.1.at'
 | [], N, _, s, h => by simp [cH] at h
 | x :: xs, N, hw, s, h => by
  unfold Wfs at hw
  unfold cH at h
  rcases List.mem_append.1 h with h | h
  ·exact xA x _ hw.1 s h
  ·exact tW op n t (i + 1) xs N hw.2 s h
end
theorem F0 {ms : List Mk} {a b : Nat} {P : List Fn} {f : Fn} (h : FnOk ms a b f) : FtIn ms (a + 1) b (kF P f) :=
 (AZ f.params [] h.params).app (w_ _ (xA f.body _ h.body))
theorem oF {ms : List Mk} : ∀ {l : List Fn} {a b : Nat}, Fns ms a l b → a ≤ b
 | [], a, b, h => h
 | f :: fs, a, b, h => by
  unfold Fns at h
  obtain ⟨c, hf, hs⟩ := h
  have := oF hs
  have := hf.lt
  omega
theorem wR {ms : List Mk} {P : List Fn} : ∀ (l : List Fn) (a b i : Nat), Fns ms a l b → b < ms.length → FtIn ms a b (fN P l i)
 | [], a, b, i, _, _ => fun x hx => by simp [fN] at hx
 | f :: fs, a, b, i, h, hb => by
  unfold Fns at h
  obtain ⟨c, hf, hs⟩ := h
  have hcb : c ≤ b := oF hs
  unfold fN
  refine (FtIn.ite (by decide) ⟨a, Nat.le_refl _, Nat.lt_of_lt_of_le hf.lt hcb, hf.place⟩).app ((wR fs c b (i + 1) hs hb).mono (Nat.le_of_lt hf.lt) (Nat.le_refl _))
theorem CT {ms : List Mk} {P : List Fn} (hr : mC ms) : ∀ (l : List Fn) (a b i : Nat) (s : Ft), Fns ms a l b → b < ms.length → bI (eT P l i) s = bI (fN P l i ++ hD P l) s
 | [], a, b, i, s, _, _ => rfl
 | f :: fs, a, b, i, s, h, hb => by
  unfold Fns at h
  obtain ⟨c, hf, hs⟩ := h
  have hcb : c ≤ b := oF hs
  have e : eT P (f :: fs) i = (if bB P 0 f.name < i then [(30, f.at')] else []) ++ (kF P f ++ eT P fs (i + 1)) := by
   simp only [eT, fnF, kF, List.append_assoc]
  have e2 : fN P (f :: fs) i ++ hD P (f :: fs) = (if bB P 0 f.name < i then [(30, f.at')] else []) ++ ((fN P fs (i + 1) ++ kF P f) ++ hD P fs) := by
   simp only [fN, hD, List.append_assoc]
  have hB := F0 (P := P) hf
  have hT := wR (P := P) fs c b (i + 1) hs hb
  have key : ∀ s1, bI (kF P f ++ eT P fs (i + 1)) s1 = bI ((fN P fs (i + 1) ++ kF P f) ++ hD P fs) s1 := fun s1 => by
   rw [cE, CT hr fs c b (i + 1) _ hs hb, ← cE, ← List.append_assoc, cE]
   rw [qW (kF P f) (fN P fs (i + 1)) s1 (fun x hx => (hB x hx).1) (fun x hx => (hT x hx).1) (fun x hx y hy he => by
    obtain ⟨j, j1, j2, j3⟩ := (hB x hx).2
    obtain ⟨k, k1, k2, k3⟩ := (hT y hy).2
    have := hr j k (by omega) (by omega)
    omega), ← cE]
  rw [e, e2, cE, key, ← cE]
theorem yI : ∀ (l : List Pm) (N : List (List UInt8)), (bL l N).length ≤ l.length
 | [], N => by simp [bL]
 | p :: ps, N => by
  have := yI ps (N ++ [p.name])
  unfold bL
  rw [List.length_append, List.length_cons]
  split <;> simp <;> omega
theorem DS (P : List Fn) (e : Ex) : (gW P e).length ≤ 1 := by
 unfold gW
 split
 ·simp
 ·split
  ·simp
  ·split <;> simp
theorem sJ (P : List Fn) : ∀ (l : List Sn), (aV P l).length ≤ 2 * l.length
 | [] => by simp [aV]
 | s :: r => by
  have h1 := sJ P r
  have h2 := DS P s.1
  unfold aV
  rw [List.length_append, List.length_append, List.length_cons]
  split <;> simp <;> omega
theorem yG {ms : List Mk} {P : List Fn} : ∀ (l : List Fn) (a b i : Nat), Fns ms a l b → (eT P l i).length ≤ 4 * (b - a)
 | [], a, b, i, _ => by simp [eT]
 | f :: fs, a, b, i, h => by
  unfold Fns at h
  obtain ⟨c, hf, hs⟩ := h
  have hcb : c ≤ b := oF hs
  have h1 := yG (P := P) fs c b (i + 1) hs
  have h2 := yI f.params []
  have h3 := sJ P (bW f.body (cV f))
  have h4 := e9 f.body (cV f)
  have := hf.lt; have := hf.len; have := hf.size
  unfold eT fnF
  simp only [List.length_append]
  split <;> simp <;> omega
def ckF (P : List Fn) : Ft := bI (eT P P 0) (0, 0)
theorem mE {ms : List Mk} : ∀ (l : List Fn) (a b : Nat), Fns ms a l b → l.length ≤ b - a ∧ ∀ f ∈ l, size f.body ≤ b - a ∧ f.params.length ≤ b - a
 | [], a, b, _ => by simp
 | f :: fs, a, b, h => by
  unfold Fns at h
  obtain ⟨c, hf, hs⟩ := h
  have hcb : c ≤ b := oF hs
  obtain ⟨h1, h2⟩ := mE fs c b hs
  have := hf.lt; have := hf.len; have := hf.size
  refine ⟨by simp only [List.length_cons]; omega, fun g hg => ?_⟩
  rcases List.mem_cons.1 hg with rfl | hg
  ·exact ⟨by omega, by omega⟩
  ·have := h2 g hg; omega
theorem DO {P : List Fn} (h : vZ P) : Pure Tryz.prog 8 [.agg [.sl (em a_ P)]] (.agg [I (ckF P).1, I (ckF P).2]) ∧ Pure Tryz.prog 9 [.agg [.sl (em a_ P)]] (.agg [I (ckF P).1, I (ckF P).2]) := by
 obtain ⟨ms, a, b, _, hl, hr, hb, hF, _⟩ := h
 obtain ⟨k1, k2⟩ := mE P a b hF
 have hn := yG (P := P) P a b 0 hF
 have hs : ∀ f ∈ P, size f.body ≤ 2 ^ 37 ∧ f.params.length ≤ 2 ^ 37 := fun f hf => by have := k2 f hf; omega
 refine ⟨?_, ref6_c P (by omega) hs (by omega)⟩
 have e : kU P = ckF P := by
  obtain ⟨p1, p2⟩ := oV P P [] [] (0, 0) rfl (fun n => by rw [nL]; rfl)
  unfold kU ckF
  rw [CT hr P a b 0 _ hF hb, cE]
  simp only [List.length_nil] at p1 p2
  rw [← p2]
  exact w9 p1 P _ hs
 rw [← e]
 exact y7 P (by omega) (fun f hf => by have := hs f hf; omega)
set_option maxRecDepth 1000000
set_option maxHeartbeats 0
noncomputable def cf31 : Cfg := ⟨Tryz.prog, 39, [0, 1, 2, 3, 4, 5], [13, 21, 37]⟩
noncomputable def lb31_0 : AC :=
 .seq (.ifr [JA 22 4, JG 23 5 1, JD 24 1 23, JO 25 (.len false (.t 24)), JO 26 (.bin .lss 3 (.t 22) (.t 25))] (.t 26) .skip (.exit 0)) (.seq (.block 1 (.seq (.reg [JG 29 5 1, JD 30 1 29, JA 31 4, JL 32 7 30 31, JE 33 7 32, JO 34 (.pc (.f 31) [.t 33]), JB 5 34]) (.reg [JA 35 3, JA 36 5, JO 37 (.app 1 16 [JU] (.t 35) (.t 36)), JB 3 37]))) (.reg [JA 27 4, JO 28 (.bin .add 3 (.t 27) (JT 1)), JB 4 28]))
noncomputable def ac31 : AC :=
 (.seq (.reg [JN 1 0, JP 2 (.mv (.c (.slice none 0 0)))]) (.seq (.reg [JP 3 (.mv (.c (.slice none 0 0)))]) (.seq (.ifr [JG 6 1 1, JD 7 1 6, JO 8 (.bin .neq 9 (.t 7) (.c (JU)))] (.t 8) (.reg [JA 9 3, JG 10 1 1, JD 11 1 10, JO 12 (.bsl 1 1 [JU] [(0, 1, .t 11)]), JO 13 (.app 1 16 [JU] (.t 9) (.t 12)), JB 3 13]) .skip) (.seq (.ifr [JG 14 2 1, JD 15 1 14, JO 16 (.bin .neq 9 (.t 15) (.c (JU)))] (.t 16) (.reg [JA 17 3, JG 18 2 1, JD 19 1 18, JO 20 (.bsl 1 1 [JU] [(0, 1, .t 19)]), JO 21 (.app 1 16 [JU] (.t 17) (.t 20)), JB 3 21]) .skip) (.seq (.seq (.reg [JI 4 0]) (.block 0 (.loop lb31_0))) (.seq (.reg [JA 38 3, JB 2 38]) .ret))))))
theorem fi31 : FI Tryz.prog 31 cf31 ac31 [.t 2] [0, 1, 2, 3, 4, 5] 39 := FI_of (c := Tryz.f31.body.getD .skip) Tryz.func31 (by kernel_rfl) (by rfl) (by rfl) (by kernel_rfl) (by kernel_rfl) rfl rfl rfl
@[simp] theorem cfP31 : cf31.P = Tryz.prog := (rfl)
noncomputable def cf32 : Cfg := ⟨Tryz.prog, 59, [0, 2, 3, 4, 5], [17, 26]⟩
noncomputable def lb32_0 : AC :=
 .seq (.ifr [JA 27 5, JO 28 (.bin .gtr 3 (.t 27) (JT 0)), JC 29 28, JS 30 29 (.mv (.g 3)), JS 31 29 (.mv (.g 5)), JS 32 29 (.bin .sub 3 (.t 31) (JT 1)), JS 33 29 (.ia 1 (.t 30) (.t 32)), JS 34 29 (.ld false 1 (.t 33)), JS 35 29 (.mv (.g 0)), JS 36 29 (.mv (.g 4)), JS 37 29 (.ia 1 (.t 35) (.t 36)), JS 38 29 (.ld false 1 (.t 37)), JS 39 29 (.bin .gtr 9 (.t 34) (.t 38)), JO 40 (.pick (.t 29) (.t 39) JY)] (.t 40) .skip (.exit 2)) (.block 3 (.seq (.reg [JA 41 3, JA 42 5, JA 43 3, JA 44 5, JO 45 (.bin .sub 3 (.t 44) (JT 1)), JL 46 1 43 45, JD 47 1 46, JL 48 1 41 42, JQ (.st 1 (.t 48) (.t 47))]) (.reg [JA 49 5, JO 50 (.bin .sub 3 (.t 49) (JT 1)), JB 5 50])))
noncomputable def lb32_1 : AC :=
 .seq (.ifr [JA 6 4, JA 7 0, JO 8 (.len false (.t 7)), JO 9 (.bin .lss 3 (.t 6) (.t 8))] (.t 9) .skip (.exit 0)) (.seq (.block 1 (.seq (.ifr [JA 12 3, JA 13 0, JA 14 4, JL 15 1 13 14, JD 16 1 15, JO 17 (.cl (.f 41) [.t 12, .t 16])] (.t 17) (.exit 1) .skip) (.seq (.reg [JA 18 3, JO 19 (.len false (.t 18)), JB 5 19]) (.seq (.reg [JA 20 3, JA 21 0, JA 22 4, JL 23 1 21 22, JD 24 1 23, JO 25 (.bsl 1 1 [JU] [(0, 1, .t 24)]), JO 26 (.app 1 16 [JU] (.t 20) (.t 25)), JB 3 26]) (.seq (.block 2 (.loop lb32_0)) (.reg [JA 51 3, JA 52 5, JA 53 0, JA 54 4, JL 55 1 53 54, JD 56 1 55, JL 57 1 51 52, JQ (.st 1 (.t 57) (.t 56))])))))) (.reg [JA 10 4, JO 11 (.bin .add 3 (.t 10) (JT 1)), JB 4 11]))
noncomputable def ac32 : AC :=
 (.seq (.reg [JP 2 (.mv (.c (.slice none 0 0)))]) (.seq (.reg [JP 3 (.mv (.c (.slice none 0 0)))]) (.seq (.seq (.reg [JI 4 0]) (.block 0 (.loop lb32_1))) (.seq (.reg [JA 58 3, JB 2 58]) .ret))))
theorem fi32 : FI Tryz.prog 32 cf32 ac32 [.t 2] [0, 2, 3, 4, 5] 59 := FI_of (c := Tryz.f32.body.getD .skip) Tryz.func32 (by kernel_rfl) (by rfl) (by rfl) (by kernel_rfl) (by kernel_rfl) rfl rfl rfl
@[simp] theorem cfP32 : cf32.P = Tryz.prog := (rfl)
noncomputable def cf12 : Cfg := ⟨Tryz.prog, 32, [0, 1, 2, 3, 4, 5], [8, 24]⟩
noncomputable def lb12_0 : AC :=
 .seq (.ifr [JA 9 4, JG 10 1 1, JD 11 1 10, JO 12 (.len false (.t 11)), JO 13 (.bin .lss 3 (.t 9) (.t 12))] (.t 13) .skip (.exit 0)) (.seq (.block 1 (.reg [JA 16 3, JG 17 1 1, JD 18 1 17, JA 19 4, JL 20 3 18 19, JH 21 0 20, JD 22 1 21, JO 23 (.bsl 1 1 [JU] [(0, 1, .t 22)]), JO 24 (.app 1 16 [JU] (.t 16) (.t 23)), JB 3 24])) (.reg [JA 14 4, JO 15 (.bin .add 3 (.t 14) (JT 1)), JB 4 15]))
noncomputable def ac12 : AC :=
 (.seq (.reg [JN 1 0, JP 2 (.mv (.c (.slice none 0 0)))]) (.seq (.reg [JG 6 0 1, JD 7 1 6, JO 8 (.bso 1 1 [JU] [(0, 1, .t 7)]), JB 3 8]) (.seq (.seq (.reg [JI 4 0]) (.block 0 (.loop lb12_0))) (.seq (.reg [JG 25 3 1, JE 26 7 25, JO 27 (.pc (.f 31) [.t 26]), JB 5 27]) (.seq (.reg [JA 28 3, JA 29 5, JO 30 (.pc (.f 33) [.t 28, .t 29]), JO 31 (.pc (.f 32) [.t 30]), JB 2 31]) .ret)))))
theorem fi12 : FI Tryz.prog 12 cf12 ac12 [.t 2] [0, 1, 2, 3, 4, 5] 32 := FI_of (c := Tryz.f12.body.getD .skip) Tryz.func12 (by kernel_rfl) (by rfl) (by rfl) (by kernel_rfl) (by kernel_rfl) rfl rfl rfl
@[simp] theorem cfP12 : cf12.P = Tryz.prog := (rfl)
set_option maxRecDepth 100000
set_option maxHeartbeats 4000000
def gtB (a b : ByteArray) : Bool := !(Op.bytesLess a.toList b.toList || a.toList == b.toList)
@[simp] theorem bin_gtrT {ty : TypeId} {a b : ByteArray} : bG Tryz.prog .gtr ty (.pl (.string a)) (.pl (.string b)) = some (.pl (.bool (gtB a b))) := by
 have : Sem.look Tryz.prog (binOp .gtr ty (.string a) (.string b)) = some (.bool (gtB a b)) := by
  simp [binOp, Op.stringOp, Sem.look, Pure.pure, gtB]
 simp only [bG, lit, Bool.and_self, if_true, this, Option.map_some]
def gtT (a b : List UInt8) : Bool := gtB (ByteArray.mk (Array.mk a)) (ByteArray.mk (Array.mk b))
mutual
def aY : Ex → List (List UInt8)
 | .mk _ n tl _ _ args _ => ((if n = [] then [] else [n]) ++ (if tl = [] then [] else [tl])) ++ bD args
def bD : List Ex → List (List UInt8)
 | [] => []
 | x :: xs => aY x ++ bD xs
end
mutual
theorem fQ : ∀ e : Ex, (aY e).length ≤ 2 * size e
 | .mk op n tl ty z args p => by
  have := oC args
  unfold aY size
  rw [List.length_append, List.length_append]
  split <;> split <;> simp <;> omega
theorem oC : ∀ l : List Ex, (bD l).length ≤ 2 * aU l
 | [] => by simp [bD]
 | x :: xs => by
  have h1 := fQ x
  have h2 := oC xs
  unfold bD aU
  rw [List.length_append]; omega
end
theorem iP : ∀ {l : List Ex} {x : Ex}, x ∈ l → size x ≤ aU l
 | y :: ys, x, h => by
  unfold aU
  rcases List.mem_cons.1 h with rfl | h
  ·omega
  ·have := iP h; omega
theorem rI : ∀ (l : List Ex), l.length ≤ aU l
 | [] => by simp [aU]
 | y :: ys => by
  have := rI ys
  have h : 1 ≤ size y := by cases y; unfold size; omega
  unfold aU; simp only [List.length_cons]; omega
def WiC (e : Ex) : Prop := size e ≤ 2 ^ 40 → Pure Tryz.prog 31 [.agg [I e.op, Tx e.name, Tx e.tail, I e.type, CX e.num.re e.num.im, .sl (em aR e.args), I e.at']] (.sl (em aI (aY e)))
theorem xS (op : Int) (n tl : List UInt8) (ty : Int) (z : Cx) (args : List Ex) (p : Int) (ih : ∀ x ∈ args, WiC x) : WiC (.mk op n tl ty z args p) := by
 intro hz
 show Pure Tryz.prog 31 [.agg [I op, Tx n, Tx tl, I ty, CX z.re z.im, .sl (em aR args), I p]] (.sl (em aI (aY (.mk op n tl ty z args p))))
 have hRl : (aY (.mk op n tl ty z args p)).length ≤ 2 ^ 41 := by have := fQ (.mk op n tl ty z args p); omega
 generalize hR0 : aY (.mk op n tl ty z args p) = R at *
 refine fi31.pu (by simp) ?_
 simp -implicitDefEqProofs [ac31]
 have hsz : aU args ≤ 2 ^ 40 := by unfold size at hz; omega
 have hal := rI args
 by_cases hn : n = []
 ·by_cases ht : tl = []
  ·simp -implicitDefEqProofs [hn, ht]
   have hR : ([] : List (List UInt8)) ++ bD args = R := by rw [← hR0]; unfold aY; simp [hn, ht]
   refine dO (j := 3) (k := 1) rfl (.inl rfl) ?_
   refine lpG cf31 lb31_0 [3, 4, 5] (α := Nat × Nat × List (List UInt8)) (fun s _ => [(3, .osl 10 s.2.1 0 s.2.2.length), (4, I s.1), (5, .top)]) (fun s _ => [(10, .arr s.2.1 1 (em aI s.2.2))]) (fun s k => 10 < k ∧ s.1 ≤ args.length ∧ s.2.2 ++ bD (args.drop s.1) = R) (fun s => args.length - s.1) (0, 0, []) ⟨by omega, by omega, by simpa using hR⟩ (by simp [upd]) (by simp [em, aI]) ?_
   rintro ⟨i, v, l⟩ k ⟨hk, hi, hr⟩
   simp only at hk hi hr
   by_cases hlt : i < args.length
   ·have hlti : (i : Int) < (args.length : Int) := by omega
    have w1 := aX (x := (i : Int) + 1) (by omega) (by omega)
    rw [List.drop_eq_getElem_cons hlt] at hr
    unfold bD at hr
    obtain ⟨x, hx⟩ : ∃ x, args[i] = x := ⟨_, rfl⟩
    have hxm : x ∈ args := by rw [← hx]; exact List.getElem_mem hlt
    rw [hx, ← List.append_assoc] at hr
    have hc := ih x hxm (by have := (iP hxm); omega)
    have hrl : (l ++ aY x).length ≤ R.length := by rw [← hr]; simp only [List.length_append]; omega
    have b1 : (l.length + (aY x).length) * 16 ≤ 3 * 2 ^ 46 := by rw [List.length_append] at hrl; omega
    have hap : em aI l ++ em aI (aY x) = em aI (l ++ aY x) := by simp [em]
    simp -implicitDefEqProofs [lb31_0, hlti, hlt, hx]
    refine aH hc (by simp) ?_
    simp -implicitDefEqProofs [-els, pB, b1, hap, w1]
    exact aK (i + 1, v + 1, l ++ aY x) ⟨by omega, hlt, hr⟩ (by simp only; omega) (by simp) (aL _)
   ·have hil : i = args.length := by omega
    subst hil
    rw [List.drop_length] at hr
    unfold bD at hr
    rw [List.append_nil] at hr
    subst hr
    simp -implicitDefEqProofs [lb31_0, frz, look]
    try rw [List.take_of_length_le (by simp)]
  ·simp -implicitDefEqProofs [hn, ht]
   have hR : [tl] ++ bD args = R := by rw [← hR0]; unfold aY; simp [hn, ht]
   refine lpG cf31 lb31_0 [3, 4, 5] (α := Nat × Nat × List (List UInt8)) (fun s _ => [(3, .osl 13 s.2.1 0 s.2.2.length), (4, I s.1), (5, .top)]) (fun s _ => [(13, .arr s.2.1 1 (em aI s.2.2))]) (fun s k => 13 < k ∧ s.1 ≤ args.length ∧ s.2.2 ++ bD (args.drop s.1) = R) (fun s => args.length - s.1) (0, 0, [tl]) ⟨by omega, by omega, by simpa using hR⟩ (by simp [upd]) (by simp [em, aI]) ?_
   rintro ⟨i, v, l⟩ k ⟨hk, hi, hr⟩
   simp only at hk hi hr
   by_cases hlt : i < args.length
   ·have hlti : (i : Int) < (args.length : Int) := by omega
    have w1 := aX (x := (i : Int) + 1) (by omega) (by omega)
    rw [List.drop_eq_getElem_cons hlt] at hr
    unfold bD at hr
    obtain ⟨x, hx⟩ : ∃ x, args[i] = x := ⟨_, rfl⟩
    have hxm : x ∈ args := by rw [← hx]; exact List.getElem_mem hlt
    rw [hx, ← List.append_assoc] at hr
    have hc := ih x hxm (by have := (iP hxm); omega)
    have hrl : (l ++ aY x).length ≤ R.length := by rw [← hr]; simp only [List.length_append]; omega
    have b1 : (l.length + (aY x).length) * 16 ≤ 3 * 2 ^ 46 := by rw [List.length_append] at hrl; omega
    have hap : em aI l ++ em aI (aY x) = em aI (l ++ aY x) := by simp [em]
    simp -implicitDefEqProofs [lb31_0, hlti, hlt, hx]
    refine aH hc (by simp) ?_
    simp -implicitDefEqProofs [-els, pB, b1, hap, w1]
    exact aK (i + 1, v + 1, l ++ aY x) ⟨by omega, hlt, hr⟩ (by simp only; omega) (by simp) (aL _)
   ·have hil : i = args.length := by omega
    subst hil
    rw [List.drop_length] at hr
    unfold bD at hr
    rw [List.append_nil] at hr
    subst hr
    simp -implicitDefEqProofs [lb31_0, frz, look]
    try rw [List.take_of_length_le (by simp)]
 ·by_cases ht : tl = []
  ·simp -implicitDefEqProofs [hn, ht]
   have hR : [n] ++ bD args = R := by rw [← hR0]; unfold aY; simp [hn, ht]
   refine lpG cf31 lb31_0 [3, 4, 5] (α := Nat × Nat × List (List UInt8)) (fun s _ => [(3, .osl 10 s.2.1 0 s.2.2.length), (4, I s.1), (5, .top)]) (fun s _ => [(10, .arr s.2.1 1 (em aI s.2.2))]) (fun s k => 10 < k ∧ s.1 ≤ args.length ∧ s.2.2 ++ bD (args.drop s.1) = R) (fun s => args.length - s.1) (0, 0, [n]) ⟨by omega, by omega, by simpa using hR⟩ (by simp [upd]) (by simp [em, aI]) ?_
   rintro ⟨i, v, l⟩ k ⟨hk, hi, hr⟩
   simp only at hk hi hr
   by_cases hlt : i < args.length
   ·have hlti : (i : Int) < (args.length : Int) := by omega
    have w1 := aX (x := (i : Int) + 1) (by omega) (by omega)
    rw [List.drop_eq_getElem_cons hlt] at hr
    unfold bD at hr
    obtain ⟨x, hx⟩ : ∃ x, args[i] = x := ⟨_, rfl⟩
    have hxm : x ∈ args := by rw [← hx]; exact List.getElem_mem hlt
    rw [hx, ← List.append_assoc] at hr
    have hc := ih x hxm (by have := (iP hxm); omega)
    have hrl : (l ++ aY x).length ≤ R.length := by rw [← hr]; simp only [List.length_append]; omega
    have b1 : (l.length + (aY x).length) * 16 ≤ 3 * 2 ^ 46 := by rw [List.length_append] at hrl; omega
    have hap : em aI l ++ em aI (aY x) = em aI (l ++ aY x) := by simp [em]
    simp -implicitDefEqProofs [lb31_0, hlti, hlt, hx]
    refine aH hc (by simp) ?_
    simp -implicitDefEqProofs [-els, pB, b1, hap, w1]
    exact aK (i + 1, v + 1, l ++ aY x) ⟨by omega, hlt, hr⟩ (by simp only; omega) (by simp) (aL _)
   ·have hil : i = args.length := by omega
    subst hil
    rw [List.drop_length] at hr
    unfold bD at hr
    rw [List.append_nil] at hr
    subst hr
    simp -implicitDefEqProofs [lb31_0, frz, look]
    try rw [List.take_of_length_le (by simp)]
  ·simp -implicitDefEqProofs [hn, ht]
   have hR : [n, tl] ++ bD args = R := by rw [← hR0]; unfold aY; simp [hn, ht]
   refine lpG cf31 lb31_0 [3, 4, 5] (α := Nat × Nat × List (List UInt8)) (fun s _ => [(3, .osl 10 s.2.1 0 s.2.2.length), (4, I s.1), (5, .top)]) (fun s _ => [(10, .arr s.2.1 1 (em aI s.2.2))]) (fun s k => 10 < k ∧ s.1 ≤ args.length ∧ s.2.2 ++ bD (args.drop s.1) = R) (fun s => args.length - s.1) (0, 1, [n, tl]) ⟨by omega, by omega, by simpa using hR⟩ (by simp [upd]) (by simp [em, aI]) ?_
   rintro ⟨i, v, l⟩ k ⟨hk, hi, hr⟩
   simp only at hk hi hr
   by_cases hlt : i < args.length
   ·have hlti : (i : Int) < (args.length : Int) := by omega
    have w1 := aX (x := (i : Int) + 1) (by omega) (by omega)
    rw [List.drop_eq_getElem_cons hlt] at hr
    unfold bD at hr
    obtain ⟨x, hx⟩ : ∃ x, args[i] = x := ⟨_, rfl⟩
    have hxm : x ∈ args := by rw [← hx]; exact List.getElem_mem hlt
    rw [hx, ← List.append_assoc] at hr
    have hc := ih x hxm (by have := (iP hxm); omega)
    have hrl : (l ++ aY x).length ≤ R.length := by rw [← hr]; simp only [List.length_append]; omega
    have b1 : (l.length + (aY x).length) * 16 ≤ 3 * 2 ^ 46 := by rw [List.length_append] at hrl; omega
    have hap : em aI l ++ em aI (aY x) = em aI (l ++ aY x) := by simp [em]
    simp -implicitDefEqProofs [lb31_0, hlti, hlt, hx]
    refine aH hc (by simp) ?_
    simp -implicitDefEqProofs [-els, pB, b1, hap, w1]
    exact aK (i + 1, v + 1, l ++ aY x) ⟨by omega, hlt, hr⟩ (by simp only; omega) (by simp) (aL _)
   ·have hil : i = args.length := by omega
    subst hil
    rw [List.drop_length] at hr
    unfold bD at hr
    rw [List.append_nil] at hr
    subst hr
    simp -implicitDefEqProofs [lb31_0, frz, look]
    try rw [List.take_of_length_le (by simp)]
mutual
theorem xC : ∀ e : Ex, WiC e
 | .mk op n tl ty z args p => xS op n tl ty z args p (tU args)
theorem tU : ∀ l : List Ex, ∀ x ∈ l, WiC x
 | [], x, h => by simp at h
 | y :: ys, x, h => by
  rcases List.mem_cons.1 h with e | h
  ·rw [e]; exact xC y
  ·exact tU ys x h
end
def eE (s : List UInt8) : List (List UInt8) → Nat → List (List UInt8)
 | l, 0 => l.set 0 s
 | l, k + 1 => if gtT (l[k]?.getD []) s = true then eE s (l.set (k + 1) (l[k]?.getD [])) k else l.set (k + 1) s
def jW (out : List (List UInt8)) (s : List UInt8) : List (List UInt8) := eE s (out ++ [s]) out.length
def c_ : List (List UInt8) → List (List UInt8) → List (List UInt8)
 | [], out => out
 | x :: xs, out => c_ xs (if a8 out x = true then out else jW out x)
theorem sZ (s : List UInt8) : ∀ (k : Nat) (l : List (List UInt8)), (eE s l k).length = l.length
 | 0, l => by simp [eE]
 | k + 1, l => by
  unfold eE
  split
  ·rw [sZ s k]; simp
  ·simp
theorem zB (out : List (List UInt8)) (s : List UInt8) : (jW out s).length = out.length + 1 := by
 unfold jW; rw [sZ]; simp
theorem qC : ∀ (l out : List (List UInt8)), (c_ l out).length ≤ l.length + out.length
 | [], out => by simp [c_]
 | x :: xs, out => by
  unfold c_
  have := qC xs (if a8 out x = true then out else jW out x)
  have h2 : (if a8 out x = true then out else jW out x).length ≤ out.length + 1 := by
   split
   ·omega
   ·rw [zB]; omega
  simp only [List.length_cons]; omega
theorem tJ (s y : List UInt8) : ∀ (k : Nat) (l : List (List UInt8)), k < l.length → (y ∈ eE s l k ↔ y = s ∨ ∃ i, i ≠ k ∧ l[i]? = some y)
 | 0, l, h => by
  unfold eE
  rw [List.mem_iff_getElem?]
  constructor
  ·rintro ⟨i, hi⟩
   rw [List.getElem?_set] at hi
   by_cases e : 0 = i
   ·subst e
    rw [if_pos rfl, if_pos h] at hi
    left; simpa using hi.symm
   ·rw [if_neg e] at hi
    exact .inr ⟨i, by omega, hi⟩
  ·rintro (rfl | ⟨i, hi, h2⟩)
   ·exact ⟨0, by rw [List.getElem?_set, if_pos rfl, if_pos h]⟩
   ·exact ⟨i, by rw [List.getElem?_set, if_neg (by omega)]; exact h2⟩
 | k + 1, l, h => by
  unfold eE
  split
  ·rw [tJ s y k _ (by simp; omega)]
   have hk : l[k]? = some (l[k]?.getD []) := by rw [List.getElem?_eq_getElem (by omega)]; rfl
   constructor
   ·rintro (rfl | ⟨i, hi, h2⟩)
    ·exact .inl rfl
    ·rw [List.getElem?_set] at h2
     by_cases e : k + 1 = i
     ·subst e
      rw [if_pos rfl, if_pos h] at h2
      exact .inr ⟨k, by omega, by rw [hk]; exact h2⟩
     ·rw [if_neg e] at h2
      exact .inr ⟨i, by omega, h2⟩
   ·rintro (rfl | ⟨i, hi, h2⟩)
    ·exact .inl rfl
    ·by_cases e : i = k
     ·subst e
      exact .inr ⟨i + 1, by omega, by rw [List.getElem?_set, if_pos rfl, if_pos h, ← hk]; exact h2⟩
     ·exact .inr ⟨i, e, by rw [List.getElem?_set, if_neg (by omega)]; exact h2⟩
  ·rw [List.mem_iff_getElem?]
   constructor
   ·rintro ⟨i, hi⟩
    rw [List.getElem?_set] at hi
    by_cases e : k + 1 = i
    ·subst e
     rw [if_pos rfl, if_pos h] at hi
     left; simpa using hi.symm
    ·rw [if_neg e] at hi
     exact .inr ⟨i, by omega, hi⟩
   ·rintro (rfl | ⟨i, hi, h2⟩)
    ·exact ⟨k + 1, by rw [List.getElem?_set, if_pos rfl, if_pos h]⟩
    ·exact ⟨i, by rw [List.getElem?_set, if_neg (by omega)]; exact h2⟩
theorem F5 (out : List (List UInt8)) (s y : List UInt8) : y ∈ jW out s ↔ y = s ∨ y ∈ out := by
 unfold jW
 rw [tJ s y _ _ (by simp), List.mem_iff_getElem?]
 constructor
 ·rintro (h | ⟨i, hi, h⟩)
  ·exact .inl h
  ·by_cases e : i < out.length
   ·rw [List.getElem?_append_left e] at h; exact .inr ⟨i, h⟩
   ·rw [List.getElem?_eq_none (by simp; omega)] at h; simp at h
 ·rintro (h | ⟨i, h⟩)
  ·exact .inl h
  ·have hi := (List.getElem?_eq_some_iff.1 h).1
   exact .inr ⟨i, by omega, by rw [List.getElem?_append_left hi]; exact h⟩
theorem i_ : ∀ (l : List (List UInt8)) (n : List UInt8), a8 l n = true ↔ n ∈ l
 | [], n => by simp [a8]
 | x :: xs, n => by
  unfold a8
  split
  ·rename_i e; simp [e]
  ·rename_i e
   rw [i_ xs n]
   have e2 : ¬ n = x := fun g => e g.symm
   simp [e2]
theorem qH (y : List UInt8) : ∀ (l out : List (List UInt8)), y ∈ c_ l out ↔ y ∈ l ∨ y ∈ out
 | [], out => by simp [c_]
 | x :: xs, out => by
  unfold c_
  rw [qH y xs]
  by_cases h : a8 out x = true
  ·rw [if_pos h]
   have := (i_ out x).1 h
   constructor
   ·rintro (h | h)
    ·exact .inl (by simp [h])
    ·exact .inr h
   ·rintro (h | h)
    ·rcases List.mem_cons.1 h with rfl | h
     ·exact .inr this
     ·exact .inl h
    ·exact .inr h
  ·rw [if_neg h, F5, List.mem_cons]
   constructor
   ·rintro (h | h | h)
    ·exact .inl (.inr h)
    ·exact .inl (.inl h)
    ·exact .inr h
   ·rintro ((h | h) | h)
    ·exact .inr (.inl h)
    ·exact .inl h
    ·exact .inr (.inr h)
theorem xB (l : List (List UInt8)) (hl : l.length ≤ 2 ^ 39) : Pure Tryz.prog 32 [.sl (em aI l)] (.sl (em aI (c_ l []))) := by
 refine fi32.pu (by simp) ?_
 simp -implicitDefEqProofs [ac32]
 generalize hR : c_ l [] = R
 refine dO (j := 3) (k := 1) rfl (.inl rfl) ?_
 refine lpG cf32 lb32_1 [3, 4, 5] (α := Nat × Nat × List (List UInt8)) (fun z _ => [(3, .osl 3 z.2.1 0 z.2.2.length), (4, I z.1), (5, .top)]) (fun z _ => [(3, .arr z.2.1 1 (em aI z.2.2))]) (fun z k => 3 < k ∧ z.1 ≤ l.length ∧ z.2.2.length ≤ z.1 ∧ c_ (l.drop z.1) z.2.2 = R) (fun z => l.length - z.1) (0, 0, []) ⟨by omega, by omega, by simp, by simpa using hR⟩ (by simp [upd]) (by simp) ?_
 rintro ⟨i, v, out⟩ k ⟨hk, hi, hol, hr⟩
 simp only at hk hi hol hr
 by_cases hlt : i < l.length
 ·have hlti : (i : Int) < (l.length : Int) := by omega
  have w1 := aX (x := (i : Int) + 1) (by omega) (by omega)
  rw [List.drop_eq_getElem_cons hlt] at hr
  unfold c_ at hr
  obtain ⟨x, hx⟩ : ∃ x, l[i] = x := ⟨_, rfl⟩
  rw [hx] at hr
  have hhas := uV out x (by omega)
  simp -implicitDefEqProofs [lb32_1, hlti, hlt, hx]
  refine aD (iE (d0 := .pl (.bool (a8 out x))) (mf := [(3, .arr v 1 (em aI out))]) (args' := [.sl (em aI out), Tx x]) rfl (aG _) (by simp [dE, frz, look, List.take_of_length_le]) hhas ?_)
  by_cases hh : a8 out x = true
  ·rw [if_pos hh] at hr
   simp -implicitDefEqProofs [hh, w1]
   exact aK (i + 1, v, out) ⟨by omega, hlt, by simp only; omega, hr⟩ (by simp only; omega) (by simp) (aL _)
  ·rw [if_neg hh] at hr
   have b1 : (out.length + 1) * 16 ≤ 3 * 2 ^ 46 := by omega
   have hap : em aI out ++ [[Tx x]] = em aI (out ++ [x]) := fL (enc := aI) (x := x)
   simp -implicitDefEqProofs [hh, hlti, hlt, hx, b1, hap]
   have hins : eE x (out ++ [x]) out.length = jW out x := rfl
   generalize hI : jW out x = In at *
   refine lpG cf32 lb32_0 [5] (α := Nat × List (List UInt8)) (fun z _ => [(5, I z.1)]) (fun z _ => [(3, .arr (v + 1) 1 (em aI z.2))]) (fun z k => 3 < k ∧ z.1 ≤ out.length ∧ z.2.length = out.length + 1 ∧ eE x z.2 z.1 = In) (fun z => z.1) (out.length, out ++ [x]) ⟨by omega, by omega, by simp, hins⟩ (by simp) (by simp) ?_
   rintro ⟨j, c⟩ k2 ⟨hk2, hj, hcl, hs⟩
   simp only at hk2 hj hcl hs
   have hlen : In.length = out.length + 1 := by rw [← hI, zB]
   cases j with
   | zero =>
    unfold eE at hs
    have hc0 : 0 < c.length := by omega
    simp -implicitDefEqProofs [lb32_0, hlti, hlt, hx, hcl, hc0, aI, w1]
    rw [show (em aI c).set 0 [Tx x] = em aI (c.set 0 x) from q_ (enc := aI) (x := x), hs]
    rw [← hlen]
    exact aK (i + 1, v + 1, In) ⟨by omega, hlt, by simp only; omega, hr⟩ (by simp only; omega) (by simp) (aL _)
   | succ j =>
    unfold eE at hs
    have hjc : j < c.length := by omega
    have hjo : j < out.length + 1 := by omega
    have hjo2 : j + 1 < out.length + 1 := by omega
    have hji : (j : Int) < (out.length : Int) + 1 := by omega
    have hji2 : (j : Int) < (out.length : Int) := by omega
    have w3 : ((j + 1 : Nat) : Int) - 1 = j := by omega
    have w4 := aX (x := (j : Int)) (by omega) (by omega)
    obtain ⟨y, hy⟩ : ∃ y, c[j] = y := ⟨_, rfl⟩
    rw [List.getElem?_eq_getElem hjc, hy] at hs
    simp only [Option.getD_some] at hs
    by_cases hg : gtT y x = true
    ·rw [if_pos hg] at hs
     have hg2 : gtB (ByteArray.mk (Array.mk y)) (ByteArray.mk (Array.mk x)) = true := hg
     simp -implicitDefEqProofs [lb32_0, hlti, hlt, hx, hcl, hjc, hjo, hjo2, hji, hji2, hy, hg2, w1, w3, w4, aI]
     refine ⟨by omega, ?_⟩
     rw [show (em aI c).set (j + 1) [Tx y] = em aI (c.set (j + 1) y) from q_ (enc := aI) (x := y)]
     exact aK (j, c.set (j + 1) y) ⟨by omega, by simp only; omega, by simp only [List.length_set]; omega, hs⟩ (by simp only; omega) (by simp) (aL _)
    ·rw [if_neg hg] at hs
     have hg2 : gtB (ByteArray.mk (Array.mk y)) (ByteArray.mk (Array.mk x)) = false := by simpa [gtT] using hg
     simp -implicitDefEqProofs [lb32_0, hlti, hlt, hx, hcl, hjc, hjo, hjo2, hji, hji2, hy, hg2, w1, w3, w4, aI]
     refine ⟨by omega, ?_⟩
     rw [show (em aI c).set (j + 1) [Tx x] = em aI (c.set (j + 1) x) from q_ (enc := aI) (x := x), hs]
     rw [← hlen]
     exact aK (i + 1, v + 1, In) ⟨by omega, hlt, by simp only; omega, hr⟩ (by simp only; omega) (by simp) (aL _)
 ·have hil : i = l.length := by omega
  subst hil
  rw [List.drop_length] at hr
  unfold c_ at hr
  subst hr
  simp -implicitDefEqProofs [lb32_1, frz, look]
  try rw [List.take_of_length_le (by simp)]
def kZ (f : Fn) : List (List UInt8) := (f.name :: f.params.map Pm.name) ++ aY f.body
theorem G5 (f : Fn) (hz : size f.body ≤ 2 ^ 37) (hp : f.params.length ≤ 2 ^ 37) : Pure Tryz.prog 12 [.agg [Tx f.name, .sl (em fY f.params), I f.type, I f.body.op, Tx f.body.name, Tx f.body.tail, I f.body.type, CX f.body.num.re f.body.num.im, .sl (em aR f.body.args), I f.body.at', I f.at']] (.sl (em aI (c_ (kZ f) []))) := by
 refine fi12.pu (by simp) ?_
 simp -implicitDefEqProofs [ac12]
 refine lW ?_
 refine lpG cf12 lb12_0 [3, 4] (α := Nat × Nat × List (List UInt8)) (fun z _ => [(3, .osl 4 z.2.1 0 z.2.2.length), (4, I z.1)]) (fun z _ => [(4, .arr z.2.1 1 (em aI z.2.2))]) (fun z k => 4 < k ∧ z.1 ≤ f.params.length ∧ z.2.2 = f.name :: (f.params.map Pm.name).take z.1) (fun z => f.params.length - z.1) (0, 0, [f.name]) ⟨by omega, by omega, by simp⟩ (by simp) (by simp [em, aI]) ?_
 rintro ⟨i, v, l⟩ k ⟨hk, hi, hl⟩
 simp only at hk hi hl
 have hll : l.length = i + 1 := by rw [hl]; simp; omega
 by_cases hlt : i < f.params.length
 ·have hlti : (i : Int) < (f.params.length : Int) := by omega
  have w1 := aX (x := (i : Int) + 1) (by omega) (by omega)
  obtain ⟨x, hx⟩ : ∃ x, f.params[i] = x := ⟨_, rfl⟩
  have hnext : l ++ [x.name] = f.name :: (f.params.map Pm.name).take (i + 1) := by
   rw [List.take_add_one, List.getElem?_map, List.getElem?_eq_getElem hlt, hx, hl]; rfl
  have b1 : (l.length + 1) * 16 ≤ 3 * 2 ^ 46 := by omega
  have hap : em aI l ++ [[Tx x.name]] = em aI (l ++ [x.name]) := fL (enc := aI) (x := x.name)
  simp -implicitDefEqProofs [lb12_0, hlti, hlt, hx, b1, hap, w1]
  exact aK (i + 1, v + 1, l ++ [x.name]) ⟨by omega, hlt, hnext⟩ (by simp only; omega) (by simp) (aL _)
 ·have hil : i = f.params.length := by omega
  subst hil
  rw [List.take_of_length_le (by simp)] at hl
  have hwl := fQ f.body
  simp -implicitDefEqProofs [lb12_0]
  refine uB (j := 3) (d := .osl 4 v 0 l.length) (d' := .sl (em aI l)) rfl (by simp [frz, look, List.take_of_length_le]) ?_
  simp -implicitDefEqProofs [upd]
  refine aH (xC f.body (by omega)) (by simp) ?_
  simp -implicitDefEqProofs
  refine aH (BN l (aY f.body) (by omega) (by omega)) (by simp) ?_
  simp -implicitDefEqProofs
  refine aH (xB (l ++ aY f.body) (by rw [List.length_append]; omega)) (by simp) ?_
  have : l ++ aY f.body = kZ f := by rw [hl]; rfl
  simp -implicitDefEqProofs [this]
def bP : List Sn → List (List UInt8)
 | [] => []
 | s :: r => (if s.2 = true then [s.1.name] else []) ++ bP r
theorem hO : ∀ (a b : List Sn), bP (a ++ b) = bP a ++ bP b
 | [], b => rfl
 | x :: xs, b => by
  show _ ++ bP (xs ++ b) = _ ++ bP xs ++ bP b
  rw [hO xs b, List.append_assoc]
theorem f_ : ∀ (a : List Sn), (bP a).length ≤ a.length
 | [] => by simp [bP]
 | x :: xs => by
  have := f_ xs
  unfold bP
  rw [List.length_append]
  split <;> simp <;> omega
def Nd (c : Sm) : Prop := (c.map Prod.fst).Nodup
theorem pZ : ∀ (c : Sm) (n : List UInt8) (v : Int), (d8 c n v).map Prod.fst = if n ∈ c.map Prod.fst then c.map Prod.fst else c.map Prod.fst ++ [n]
 | [], n, v => by simp [d8]
 | p :: c, n, v => by
  unfold d8
  by_cases h : p.1 = n
  ·simp [h]
  ·rw [if_neg h]
   have h2 : ¬ n = p.1 := fun e => h e.symm
   simp only [List.map_cons, pZ c n v, List.mem_cons, h2, false_or]
   split <;> simp
theorem Nd.put {c : Sm} (h : Nd c) (n : List UInt8) (v : Int) : Nd (d8 c n v) := by
 unfold Nd at h ⊢
 rw [pZ]
 split
 ·exact h
 ·rename_i g
  rw [List.nodup_append]
  exact ⟨h, by simp, fun a ha b hb e => by simp at hb; subst hb; subst e; exact g ha⟩
theorem F9 (c : Sm) (n x : List UInt8) (v : Int) : x ∈ (d8 c n v).map Prod.fst ↔ x = n ∨ x ∈ c.map Prod.fst := by
 rw [pZ]
 split
 ·rename_i g
  constructor
  ·exact .inr
  ·rintro (rfl | h)
   ·exact g
   ·exact h
 ·rw [List.mem_append]; simp [or_comm]
structure Cn (c : Sm) (L : List (List UInt8)) : Prop where
 nd : Nd c
 cnt : Rm c L
 mem : ∀ x, x ∈ c.map Prod.fst ↔ x ∈ L
theorem Cn.nil : Cn [] [] := ⟨by simp [Nd], qS, by simp⟩
theorem Cn.inc {c : Sm} {L : List (List UInt8)} (h : Cn c L) (hl : L.length < 2 ^ 62) (n : List UInt8) : Cn (cK c n) (L ++ [n]) :=
 ⟨h.nd.put _ _, h.cnt.inc hl n, fun x => by unfold cK; rw [F9, h.mem, List.mem_append]; simp [or_comm]⟩
mutual
theorem wZ : ∀ (e : Ex) (m c : Sm) (N L : List (List UInt8)), Rm m N → Cn c L → N.length + 2 * size e < 2 ^ 60 → L.length + size e < 2 ^ 60 →
  Rm (cY iM e m c).1 N ∧ Cn (cY iM e m c).2 (L ++ bP (bW e N))
 | .mk op n t ty z args p, m, c, N, L, hm, hc, hN, hL => by
  simp only [size] at hN hL
  unfold cY bW
  rw [hO, ← List.append_assoc]
  have hg : (cC m n = 0) ↔ a8 N n = false := by
   rw [hm n]
   have := mO N n
   cases hh : a8 N n with
   | true =>
    have := this.1 hh
    exact ⟨fun k => by omega, fun k => by simp at k⟩
   | false =>
    refine ⟨fun _ => rfl, fun _ => ?_⟩
    rw [hh] at this
    have h0 : ¬ 0 < N.count n := fun g => by simpa using this.2 g
    omega
  have hv : Cn (iM (.mk op n t ty z args p) m c) (L ++ bP (if op = 6 ∨ op = 7 then [(.mk op n t ty z args p, op = 6 && !a8 N n)] else [])) := by
   show Cn (if op = 6 ∧ cC m n = 0 then cK c n else c) _
   by_cases h6 : op = 6
   ·by_cases g : a8 N n = false
    ·rw [if_pos (show op = 6 ∧ cC m n = 0 from ⟨h6, hg.2 g⟩)]
     simpa [bP, h6, g, Ex.name] using hc.inc (by omega) n
    ·rw [if_neg (show ¬ (op = 6 ∧ cC m n = 0) from fun k => g (hg.1 k.2))]
     have g' : a8 N n = true := by simpa using g
     simpa [bP, h6, g', Ex.name] using hc
   ·rw [if_neg (show ¬ (op = 6 ∧ cC m n = 0) from fun k => h6 k.1)]
    by_cases h7 : op = 7
    ·simpa [bP, h6, h7] using hc
    ·simpa [bP, h6, h7] using hc
  have hll : (L ++ bP (if op = 6 ∨ op = 7 then [(Ex.mk op n t ty z args p, op = 6 && !a8 N n)] else [])).length ≤ L.length + 1 := by
   rw [List.length_append]
   have := f_ (if op = 6 ∨ op = 7 then [(Ex.mk op n t ty z args p, op = 6 && !a8 N n)] else [])
   have h2 : (if op = 6 ∨ op = 7 then [(Ex.mk op n t ty z args p, op = 6 && !a8 N n)] else []).length ≤ 1 := by split <;> simp
   omega
  exact tT op n t 0 args m _ N _ hm hv (by omega) (by omega)
theorem tT (op : Int) (n t : List UInt8) (i : Nat) : ∀ (l : List Ex) (m c : Sm) (N L : List (List UInt8)), Rm m N → Cn c L → N.length + 2 + 2 * aU l < 2 ^ 60 → L.length + aU l < 2 ^ 60 →
  Rm (dL iM op n t i l m c).1 N ∧ Cn (dL iM op n t i l m c).2 (L ++ bP (cH op n t i l N))
 | [], m, c, N, L, hm, hc, _, _ => by
  unfold dL cH
  exact ⟨hm, by simpa [bP] using hc⟩
 | x :: xs, m, c, N, L, hm, hc, hN, hL => by
  have hb := h9 op n t i
  simp only [aU] at hN hL
  have hs1 : 1 ≤ size x := by cases x; simp only [size]; omega
  have h1 := wZ x _ c (N ++ bM op n t i) L (Rm.incs (bM op n t i) hm (by omega)) hc (by rw [List.length_append]; omega) (by omega)
  have hl1 := f_ (bW x (N ++ bM op n t i))
  have hl2 := e9 x (N ++ bM op n t i)
  have h2 := tT op n t (i + 1) xs _ _ N _ (Rm.decs (bM op n t i) h1.1 (by omega)) h1.2 (by omega) (by rw [List.length_append]; omega)
  unfold dL cH
  rw [hO, ← List.append_assoc]
  exact h2
end
def nmL (l : List (List UInt8)) : List (List UInt8) := l.filter (fun s => decide (s ≠ []))
theorem Cn.adds : ∀ (l : List (List UInt8)) {c : Sm} {L : List (List UInt8)}, Cn c L → L.length + l.length < 2 ^ 62 → Cn (l.foldl mS c) (L ++ nmL l)
 | [], c, L, h, _ => by simpa [nmL] using h
 | s :: l, c, L, h, hl => by
  simp only [List.length_cons] at hl
  simp only [List.foldl_cons]
  by_cases e : s = []
  ·rw [show mS c s = c by unfold mS; rw [if_pos e]]
   have := Cn.adds l h (by omega)
   simpa [nmL, e] using this
  ·rw [show mS c s = cK c s by unfold mS; rw [if_neg e]]
   have := Cn.adds l (h.inc (by omega) s) (by rw [List.length_append]; simp; omega)
   simpa [nmL, e] using this
mutual
theorem wI : ∀ (e : Ex) (m c : Sm) (N L : List (List UInt8)), Rm m N → Cn c L → N.length + 2 * size e < 2 ^ 60 → L.length + 2 * size e < 2 ^ 60 →
  Rm (cY fP e m c).1 N ∧ Cn (cY fP e m c).2 (L ++ aY e)
 | .mk op n t ty z args p, m, c, N, L, hm, hc, hN, hL => by
  simp only [size] at hN hL
  unfold cY aY
  rw [← List.append_assoc]
  have hv : Cn (fP (.mk op n t ty z args p) m c) (L ++ ((if n = [] then [] else [n]) ++ (if t = [] then [] else [t]))) := by
   have h := Cn.adds [n, t] hc (by simp; omega)
   have e : nmL [n, t] = (if n = [] then [] else [n]) ++ (if t = [] then [] else [t]) := by
    unfold nmL
    by_cases h1 : n = [] <;> by_cases h2 : t = [] <;> simp [h1, h2]
   rw [e] at h
   exact h
  have hll : (L ++ ((if n = [] then [] else [n]) ++ (if t = [] then [] else [t]))).length ≤ L.length + 2 := by
   rw [List.length_append, List.length_append]
   split <;> split <;> simp
  exact tR op n t 0 args m _ N _ hm hv (by omega) (by omega)
theorem tR (op : Int) (n t : List UInt8) (i : Nat) : ∀ (l : List Ex) (m c : Sm) (N L : List (List UInt8)), Rm m N → Cn c L → N.length + 2 + 2 * aU l < 2 ^ 60 → L.length + 2 * aU l < 2 ^ 60 →
  Rm (dL fP op n t i l m c).1 N ∧ Cn (dL fP op n t i l m c).2 (L ++ bD l)
 | [], m, c, N, L, hm, hc, _, _ => by
  unfold dL bD
  exact ⟨hm, by simpa using hc⟩
 | x :: xs, m, c, N, L, hm, hc, hN, hL => by
  have hb := h9 op n t i
  simp only [aU] at hN hL
  have hs1 : 1 ≤ size x := by cases x; simp only [size]; omega
  have h1 := wI x _ c (N ++ bM op n t i) L (Rm.incs (bM op n t i) hm (by omega)) hc (by rw [List.length_append]; omega) (by omega)
  have hl1 := fQ x
  have h2 := tR op n t (i + 1) xs _ _ N _ (Rm.decs (bM op n t i) h1.1 (by omega)) h1.2 (by omega) (by rw [List.length_append]; omega)
  unfold dL bD
  rw [← List.append_assoc]
  exact h2
end
theorem yH (a b : List UInt8) : gtT a b = true ↔ ¬ (a < b ∨ a = b) := by
 have e : ∀ l : List UInt8, (ByteArray.mk (Array.mk l)).toList = l := fun l => by simp
 unfold gtT gtB
 rw [e, e, bytesLess_eq]
 simp
theorem gtT_le {a b : List UInt8} (h : gtT a b = true) : b ≤ a := by
 rw [yH] at h
 exact List.not_lt.1 fun g => h (.inl g)
theorem GI {a b : List UInt8} (h : ¬ gtT a b = true) : a ≤ b := by
 rw [yH] at h
 have h : a < b ∨ a = b := Decidable.byContradiction h
 rcases h with h | h
 ·exact List.le_of_lt h
 ·rw [h]; exact List.le_refl b
theorem pH (s : List UInt8) (out : List (List UInt8)) : ∀ (k : Nat) (x : List UInt8), k ≤ out.length → ∃ j, j ≤ k ∧ eE s (out.take k ++ x :: out.drop k) k = out.take j ++ s :: out.drop j ∧ (∀ i y, j ≤ i → i < k → out[i]? = some y → s ≤ y) ∧ (∀ y, 0 < j → out[j - 1]? = some y → y ≤ s)
 | 0, x, _ => ⟨0, Nat.le_refl _, by simp [eE], fun i y h1 h2 => by omega, fun y h => by omega⟩
 | k + 1, x, h => by
  have hk : k < out.length := by omega
  have htl : (out.take (k + 1)).length = k + 1 := by rw [List.length_take]; omega
  have hl : (out.take (k + 1) ++ x :: out.drop (k + 1))[k]? = some out[k] := by
   rw [List.getElem?_append_left (by omega), List.getElem?_take, if_pos (by omega), List.getElem?_eq_getElem hk]
  have hset : ∀ z, (out.take (k + 1) ++ x :: out.drop (k + 1)).set (k + 1) z = out.take (k + 1) ++ z :: out.drop (k + 1) := fun z => by
   rw [List.set_append_right _ _ (by omega), htl, Nat.sub_self, List.set_cons_zero]
  unfold eE
  rw [hl]
  simp only [Option.getD_some]
  by_cases g : gtT out[k] s = true
  ·rw [if_pos g, hset]
   have e : out.take (k + 1) ++ out[k] :: out.drop (k + 1) = out.take k ++ out[k] :: out.drop k := by
    rw [List.drop_eq_getElem_cons hk, List.take_add_one, List.getElem?_eq_getElem hk, List.append_assoc]; rfl
   rw [e]
   obtain ⟨j, h1, h2, h3, h4⟩ := pH s out k out[k] (by omega)
   refine ⟨j, by omega, h2, fun i y hi hi2 hy => ?_, h4⟩
   by_cases e2 : i = k
   ·subst e2
    rw [List.getElem?_eq_getElem hk, Option.some.injEq] at hy
    subst hy; exact gtT_le g
   ·exact h3 i y hi (by omega) hy
  ·rw [if_neg g, hset]
   refine ⟨k + 1, Nat.le_refl _, rfl, fun i y h1 h2 => by omega, fun y _ hy => ?_⟩
   rw [Nat.add_sub_cancel, List.getElem?_eq_getElem hk, Option.some.injEq] at hy
   subst hy; exact GI g
abbrev Srt (l : List (List UInt8)) : Prop := l.Pairwise (fun a b => a ≤ b)
theorem CI (out : List (List UInt8)) (s : List UInt8) : ∃ j, jW out s = out.take j ++ s :: out.drop j ∧ (Srt out → Srt (jW out s)) := by
 obtain ⟨j, h1, h2, h3, h4⟩ := pH s out out.length s (Nat.le_refl _)
 rw [List.take_length, List.drop_length] at h2
 have hi : jW out s = out.take j ++ s :: out.drop j := h2
 refine ⟨j, hi, fun hs => ?_⟩
 rw [hi]
 have hs2 : Srt (out.take j ++ out.drop j) := by rw [List.take_append_drop]; exact hs
 obtain ⟨a1, a2, a3⟩ := List.pairwise_append.1 hs2
 have hlow : ∀ a ∈ out.take j, a ≤ s := fun a ha => by
  obtain ⟨i, hi2⟩ := List.mem_iff_getElem?.1 ha
  rw [List.getElem?_take] at hi2
  split at hi2
  ·rename_i hij
   obtain ⟨y, hy⟩ : ∃ y, out[j - 1]? = some y := by
    have : j - 1 < out.length := by omega
    exact ⟨_, List.getElem?_eq_getElem this⟩
   have hy2 := h4 y (by omega) hy
   by_cases e : i = j - 1
   ·subst e; rw [hy, Option.some.injEq] at hi2; subst hi2; exact hy2
   ·have hlt : i < j - 1 := by omega
    have hil := (List.getElem?_eq_some_iff.1 hi2)
    have hjl := (List.getElem?_eq_some_iff.1 hy)
    obtain ⟨b1, b2⟩ := hil
    obtain ⟨c1, c2⟩ := hjl
    have := List.pairwise_iff_getElem.1 hs i (j - 1) b1 c1 hlt
    rw [b2, c2] at this
    exact List.le_trans this hy2
  ·simp at hi2
 have hhigh : ∀ a ∈ out.drop j, s ≤ a := fun a ha => by
  obtain ⟨i, hi2⟩ := List.mem_iff_getElem?.1 ha
  rw [List.getElem?_drop] at hi2
  exact h3 (j + i) a (by omega) (List.getElem?_eq_some_iff.1 hi2).1 hi2
 refine List.pairwise_append.2 ⟨a1, List.pairwise_cons.2 ⟨hhigh, a2⟩, fun a ha b hb => ?_⟩
 rcases List.mem_cons.1 hb with rfl | hb
 ·exact hlow a ha
 ·exact a3 a ha b hb
theorem mF : ∀ (l out : List (List UInt8)), Srt out → out.Nodup → Srt (c_ l out) ∧ (c_ l out).Nodup
 | [], out, h, k => ⟨h, k⟩
 | x :: xs, out, h, k => by
  unfold c_
  by_cases g : a8 out x = true
  ·rw [if_pos g]; exact mF xs out h k
  ·rw [if_neg g]
   obtain ⟨j, h1, h2⟩ := CI out x
   refine mF xs _ (h2 h) ?_
   have hn : x ∉ out := fun m => g ((i_ out x).2 m)
   have hp : (out.take j ++ x :: out.drop j).Perm (x :: out) := by
    have := List.perm_middle (a := x) (l₁ := out.take j) (l₂ := out.drop j)
    rw [List.take_append_drop] at this; exact this
   rw [h1]
   exact hp.symm.nodup (List.nodup_cons.2 ⟨hn, k⟩)
theorem C1 {a b : List (List UInt8)} (ha : Srt a) (hb : Srt b) (na : a.Nodup) (nb : b.Nodup) (h : ∀ x, x ∈ a ↔ x ∈ b) : a = b :=
 List.Perm.eq_of_pairwise (le := fun a b => a ≤ b) (fun a b _ _ h1 h2 => List.le_antisymm h1 h2) ha hb ((List.perm_ext_iff_of_nodup na nb).2 h)
theorem uM {c : Sm} {L : List (List UInt8)} (h : Cn c L) : ((c.map Prod.fst).mergeSort fun x y => decide (x ≤ y)) = c_ L [] := by
 obtain ⟨h1, h2⟩ := mF L [] (by simp) (by simp)
 have hp := List.mergeSort_perm (c.map Prod.fst) (fun x y => decide (x ≤ y))
 have tr : ∀ a b c : List UInt8, decide (a ≤ b) = true → decide (b ≤ c) = true → decide (a ≤ c) = true := fun a b c h1 h2 => by simp only [decide_eq_true_eq] at *; exact List.le_trans h1 h2
 have to : ∀ a b : List UInt8, (decide (a ≤ b) || decide (b ≤ a)) = true := fun a b => by simp only [Bool.or_eq_true, decide_eq_true_eq]; exact List.le_total a b
 have hs : Srt ((c.map Prod.fst).mergeSort fun x y => decide (x ≤ y)) := by
  have := List.pairwise_mergeSort tr to (c.map Prod.fst)
  simpa using this
 refine C1 hs h1 (hp.symm.nodup h.nd) h2 fun x => ?_
 rw [hp.mem_iff, h.mem, qH]
 simp
abbrev sB (n : List UInt8) : Prop := n.length ≤ 32768
mutual
/-- All names in it are short. -/
def Nb : Ex → Prop
 | .mk _ n t _ _ args _ => (sB n ∧ sB t) ∧ Nbs args
def Nbs : List Ex → Prop
 | [] => True
 | e :: es => Nb e ∧ Nbs es
end
def BMs (ms : List Mk) : Prop := ∀ m ∈ ms, sB m.text
theorem gT : sB [] := by simp [sB]
theorem vM {t : List UInt8} (h : sB t) (p n : Nat) : sB (seg t p n) := by
 unfold sB seg at *
 rw [List.length_drop, List.length_take]; omega
theorem sB_one {t : List UInt8} (h : sB t) (p : Nat) : sB (eI t p).1.text := by
 unfold eI
 split
 ·exact vM h _ _
 ·split
  ·exact vM h _ _
  ·split <;> exact vM h _ _
theorem nM : ∀ (f : Nat) (t : List UInt8) (p : Nat) (out : List Mk), sB t → BMs out → BMs (cP f t p out).1
 | 0, t, p, out, ht, h => by intro m hm; simp [cP] at hm
 | f + 1, t, p, out, ht, h => by
  have happ : ∀ m : Mk, sB m.text → BMs (out ++ [m]) := fun m hm x hx => by
   rw [List.mem_append, List.mem_singleton] at hx
   rcases hx with hx | rfl
   ·exact h x hx
   ·exact hm
  unfold cP
  split
  ·split
   ·exact nM f _ _ _ ht h
   ·split
    ·exact nM f _ _ _ ht h
    ·split
     ·exact nM f _ _ _ ht (happ _ (sB_one ht p))
     ·intro m hm; simp at hm
  ·exact happ _ gT
theorem BQ {r : Rd} (h : BMs r.ms) : sB r.next.text := by
 unfold Rd.next
 by_cases hi : r.at' < r.ms.length
 ·rw [List.getElem?_eq_getElem hi]; exact h _ (List.getElem_mem hi)
 ·rw [List.getElem?_eq_none (by omega)]; exact gT
theorem nJ {r : Rd} (h : BMs r.ms) : sB r.name.1.text := by
 unfold Rd.name
 split
 ·exact gT
 ·exact BQ h
namespace Rd
theorem fail_ms {r : Rd} {w : Int} : (r.fail w).ms = r.ms := by unfold fail; split <;> rfl
theorem want_ms {r : Rd} {s : List UInt8} : (r.want s).ms = r.ms := by
 unfold want; split
 ·rfl
 ·exact fail_ms
theorem name_ms {r : Rd} : r.name.2.ms = r.ms := by
 unfold name; split
 ·exact fail_ms
 ·rfl
theorem typ_ms {r : Rd} : r.typ.2.ms = r.ms := by
 unfold typ
 split
 ·rfl
 ·split
  ·rfl
  ·split
   ·rfl
   ·exact fail_ms
end Rd
def Gr {α : Type} (p : α → Prop) (ms : List Mk) (o : Option (α × Rd)) : Prop := ∀ x, o = some x → p x.1 ∧ x.2.ms = ms
theorem bK {α : Type} {p : α → Prop} {ms : List Mk} : Gr p ms none := fun x h => by simp at h
theorem bE {α : Type} {p : α → Prop} {ms : List Mk} {a : α} {q : Rd} (h : p a) (h2 : q.ms = ms) : Gr p ms (some (a, q)) := fun x hx => by
 simp only [Option.some.injEq] at hx
 subst hx
 exact ⟨h, h2⟩
theorem bX {α β : Type} {p : α → Prop} {p2 : β → Prop} {ms : List Mk} {o : Option (α × Rd)} {f : α × Rd → Option (β × Rd)} (h : Gr p ms o) (h2 : ∀ a q, p a → q.ms = ms → Gr p2 ms (f (a, q))) : Gr p2 ms (o.bind f) := fun x hx => by
 cases o with
 | none => simp at hx
 | some y => exact h2 y.1 y.2 (h y rfl).1 (h y rfl).2 x hx
theorem cX {α β : Type} {p : α → Prop} {p2 : β → Prop} {ms : List Mk} {o : Option (α × Rd)} {f : α × Rd → β × Rd} (h : Gr p ms o) (h2 : ∀ a q, p a → q.ms = ms → p2 (f (a, q)).1 ∧ (f (a, q)).2.ms = ms) : Gr p2 ms (o.map f) := fun x hx => by
 cases o with
 | none => simp at hx
 | some y =>
  simp only [Option.map_some, Option.some.injEq] at hx
  subst hx
  exact h2 y.1 y.2 (h y rfl).1 (h y rfl).2
theorem y8 : ∀ {l k : List Ex}, Nbs l → Nbs k → Nbs (l ++ k)
 | [], _, _, h => h
 | e :: es, k, h, g => by
  unfold Nbs at h
  show Nbs (e :: (es ++ k))
  unfold Nbs
  exact ⟨h.1, y8 h.2 g⟩
theorem o7 {e : Ex} (h : Nb e) : Nbs [e] := by unfold Nbs Nbs; exact ⟨h, trivial⟩
theorem vI {op : Int} {a b : Ex} {m : Mk} (ha : Nb a) (hb : Nb b) : Nb (two op a b m) := by
 unfold two Nb Nbs
 exact ⟨⟨gT, gT⟩, ha, o7 hb⟩
theorem rV {op ty p : Int} {n t : List UInt8} {z : Cx} {l : List Ex} (hn : sB n) (ht : sB t) (h : Nbs l) : Nb (.mk op n t ty z l p) := by
 unfold Nb; exact ⟨⟨hn, ht⟩, h⟩
theorem l9 {op ty p : Int} {z : Cx} {l : List Ex} (h : Nbs l) : Nb (.mk op [] [] ty z l p) := rV gT gT h
theorem iT : Nbs [] := by unfold Nbs; trivial
theorem Nb_0 : Nb ex0 := l9 iT
structure Bnd (n : Nat) (ms : List Mk) : Prop where
 expr : ∀ r, r.ms = ms → Gr Nb ms (a6 n r)
 cons : ∀ r, r.ms = ms → Gr Nb ms (dJ n r)
 comp : ∀ r, r.ms = ms → Gr Nb ms (dZ n r)
 sum : ∀ r, r.ms = ms → Gr Nb ms (eJ n r)
 sumL : ∀ a r, Nb a → r.ms = ms → Gr Nb ms (dV n a r)
 term : ∀ r, r.ms = ms → Gr Nb ms (cS n r)
 termL : ∀ a r, Nb a → r.ms = ms → Gr Nb ms (c9 n a r)
 unit : ∀ r, r.ms = ms → Gr Nb ms (cU n r)
 named : ∀ m r, sB m.text → r.ms = ms → Gr Nb ms (dT n m r)
 namedL : ∀ l r, Nbs l → r.ms = ms → Gr Nbs ms (cR n l r)
 parts : ∀ ss r, r.ms = ms → Gr Nbs ms (bF n ss r)
 branches : ∀ r p, r.ms = ms → Gr Nb ms (cB n r p)
theorem yU {ms : List Mk} (hms : BMs ms) : ∀ n, Bnd n ms
 | 0 => ⟨fun _ _ => by unfold a6; exact bK, fun _ _ => by unfold dJ; exact bK, fun _ _ => by unfold dZ; exact bK, fun _ _ => by unfold eJ; exact bK, fun _ _ _ _ => by unfold dV; exact bK, fun _ _ => by unfold cS; exact bK, fun _ _ _ _ => by unfold c9; exact bK, fun _ _ => by unfold cU; exact bK, fun _ _ _ _ => by unfold dT; exact bK, fun _ _ _ _ => by unfold cR; exact bK, fun ss _ _ => by cases ss <;> (unfold bF; exact bK), fun _ _ _ => by unfold cB; exact bK⟩
 | n + 1 => by
  have ih := yU hms n
  have two' : ∀ {op : Int} {a b : Ex} {m : Mk} {q : Rd}, Nb a → Nb b → q.ms = ms → Nb (two op a b m, q).1 ∧ (two op a b m, q).2.ms = ms := fun ha hb hq => ⟨vI ha hb, hq⟩
  refine ⟨fun r hr => ?_, fun r hr => ?_, fun r hr => ?_, fun r hr => ?_, fun a r ha hr => ?_, fun r hr => ?_, fun a r ha hr => ?_, fun r hr => ?_, fun m r hm hr => ?_, fun l r hl hr => ?_, fun ss r hr => ?_, fun r p hr => ?_⟩
  ·unfold a6
   have h1 : (if (binds r && decide (r.lN ≤ r.nest)) = true then r.fail 23 else r).ms = ms := by
    split
    ·rw [Rd.fail_ms]; exact hr
    ·exact hr
   dsimp only
   generalize (if (binds r && decide (r.lN ≤ r.nest)) = true then r.fail 23 else r) = r1 at *
   have h2 : (if binds r = true then { r1 with nest := r1.nest + 1 } else r1).adv.ms = ms := by
    split <;> exact h1
   generalize (if binds r = true then { r1 with nest := r1.nest + 1 } else r1).adv = r2 at *
   split
   ·exact bE Nb_0 h1
   ·split
    ·exact ih.cons _ h1
    ·refine cX (p := Nb) ?_ (fun e q he hq => ⟨he, by dsimp only; split <;> exact hq⟩)
     split
     ·exact cX (ih.parts _ _ h2) (fun l q hl hq => ⟨l9 hl, hq⟩)
     ·split
      ·exact ih.branches _ _ h2
      ·exact cX (ih.parts _ _ (by rw [Rd.typ_ms, Rd.name_ms]; exact h2)) (fun l q hl hq => ⟨rV (nJ (by rw [h2]; exact hms)) gT hl, hq⟩)
  ·unfold dJ
   refine bX (ih.comp r hr) (fun a q ha hq => ?_)
   dsimp only
   split
   ·exact cX (ih.cons _ hq) (fun b q2 hb hq2 => two' ha hb hq2)
   ·exact bE ha hq
  ·unfold dZ
   refine bX (ih.sum r hr) (fun a q ha hq => ?_)
   dsimp only
   split
   ·exact cX (ih.sum _ hq) (fun b q2 hb hq2 => two' ha hb hq2)
   ·exact bE ha hq
  ·unfold eJ
   exact bX (ih.term r hr) (fun a q ha hq => ih.sumL _ _ ha hq)
  ·unfold dV
   split
   ·exact bX (ih.term _ hr) (fun b q hb hq => ih.sumL _ _ (vI ha hb) hq)
   ·exact bE ha hr
  ·unfold cS
   exact bX (ih.unit r hr) (fun a q ha hq => ih.termL _ _ ha hq)
  ·unfold c9
   split
   ·exact bX (ih.unit _ hr) (fun b q hb hq => ih.termL _ _ (vI ha hb) hq)
   ·exact bE ha hr
  ·unfold cU
   split
   ·exact bE Nb_0 hr
   ·split
    ·exact bE (l9 iT) hr
    ·split
     ·exact ih.named _ _ (BQ (by rw [hr]; exact hms)) hr
     ·split
      ·exact cX (ih.expr _ hr) (fun e q he hq => ⟨he, by rw [Rd.want_ms]; exact hq⟩)
      ·split
       ·exact bE Nb_0 (by rw [Rd.fail_ms]; exact hr)
       ·split
        ·exact bE (l9 iT) (by rw [Rd.typ_ms]; exact hr)
        ·split
         ·exact cX (ih.expr _ (by rw [Rd.want_ms]; exact hr)) (fun e q he hq => ⟨l9 (o7 he), by rw [Rd.want_ms]; exact hq⟩)
         ·exact bE (l9 iT) hr
  ·unfold dT
   split
   ·exact cX (ih.namedL _ _ iT hr) (fun l q hl hq => ⟨rV hm gT hl, by rw [Rd.want_ms]; exact hq⟩)
   ·exact bE (rV hm gT iT) hr
  ·unfold cR
   split
   ·refine bX (ih.expr _ ?_) (fun x q hx hq => ih.namedL _ _ (y8 hl (o7 hx)) hq)
    split
    ·exact hr
    ·rw [Rd.want_ms]; exact hr
   ·exact bE hl hr
  ·cases ss with
   | nil => unfold bF; exact bE iT hr
   | cons s ss =>
    unfold bF
    refine bX (ih.expr _ ?_) (fun x q hx hq => cX (ih.parts _ _ hq) (fun l q2 hl hq2 => ⟨?_, hq2⟩))
    ·split
     ·exact hr
     ·rw [Rd.want_ms]; exact hr
    ·dsimp only; unfold Nbs; exact ⟨hx, hl⟩
  ·unfold cB
   refine bX (ih.expr r hr) (fun x q hx hq => bX (ih.expr _ (by rw [Rd.want_ms, Rd.want_ms, Rd.want_ms]; exact hq)) (fun a q2 ha hq2 => ?_))
   dsimp only
   refine cX (ih.expr _ (by rw [Rd.want_ms, Rd.name_ms, Rd.want_ms, Rd.name_ms, Rd.want_ms]; exact hq2)) (fun b q3 hb hq3 => ⟨rV (nJ (by rw [Rd.want_ms, hq2]; exact hms)) (nJ (by rw [Rd.want_ms, Rd.name_ms, Rd.want_ms, hq2]; exact hms)) ?_, hq3⟩)
   unfold Nbs Nbs
   exact ⟨hx, ha, o7 hb⟩
theorem u1 {ms : List Mk} (hms : BMs ms) : ∀ n l r, (∀ p ∈ l, sB p.name) → r.ms = ms → Gr (fun ps => ∀ p ∈ ps, sB p.name) ms (b8 n l r)
 | 0, l, r, hl, h => by unfold b8; exact bK
 | n + 1, l, r, hl, h => by
  have hpw : (pf (pw r l) l).ms = ms := by
   unfold pf pw
   repeat' split
   all_goals first | exact h | (simp only [Rd.fail_ms, Rd.want_ms]; exact h)
  unfold b8
  split
  ·refine u1 hms n _ _ (fun p hp => ?_) ?_
   ·rw [List.mem_append, List.mem_singleton] at hp
    rcases hp with hp | rfl
    ·exact hl p hp
    ·exact nJ (by rw [hpw]; exact hms)
   ·rw [Rd.typ_ms, Rd.name_ms]; exact hpw
  ·exact bE hl h
structure NbFn (f : Fn) : Prop where
 name : sB f.name
 pars : ∀ p ∈ f.params, sB p.name
 body : Nb f.body
theorem def_b {ms : List Mk} (hms : BMs ms) {n : Nat} {r : Rd} {c : Nat} (h : r.ms = ms) : Gr NbFn ms (iG n r c) := by
 have hdf : (df r c).ms = ms := by
  unfold df
  split
  ·rw [Rd.fail_ms]; exact h
  ·exact h
 unfold iG
 refine bX (u1 hms n _ _ (fun p hp => by simp at hp) (by rw [Rd.want_ms, Rd.name_ms]; exact hdf)) (fun ps q hps hq => cX ((yU hms n).expr _ (by rw [Rd.want_ms, Rd.typ_ms, Rd.want_ms, Rd.want_ms]; exact hq)) (fun b q2 hb hq2 => ⟨⟨nJ (by rw [hdf]; exact hms), hps, hb⟩, by rw [Rd.want_ms]; exact hq2⟩))
def NbF (L : List Fn) : Prop := ∀ f ∈ L, NbFn f
theorem A3 {ms : List Mk} (hms : BMs ms) : ∀ n l r, NbF l → r.ms = ms → Gr NbF ms (c7 n l r)
 | 0, l, r, hl, h => by unfold c7; exact bK
 | n + 1, l, r, hl, h => by
  unfold c7
  split
  ·refine bX (def_b hms h) (fun f q hf hq => A3 hms n _ _ (fun g hg => ?_) hq)
   rw [List.mem_append, List.mem_singleton] at hg
   rcases hg with hg | rfl
   ·exact hl g hg
   ·exact hf
  ·exact bE hl h
def Run (t : List UInt8) (L : List Fn) : Prop := L = [] ∨ ∃ n r q, c7 n [] r = some (L, q) ∧ r.ms = (c6 t).1 ∧ t.length ≤ 32768
theorem E_ (t : List UInt8) (ht : t.length < 2 ^ 48) : ∃ L w p, oA t L w p ∧ Run t L := by
 by_cases h1 : 32768 < t.length
 ·exact ⟨[], 22, 32768, ⟨CZ t ht h1, fun h => absurd h (by decide), fun _ => rfl⟩, .inl rfl⟩
 ·by_cases h2 : (c6 t).2 < 0
  ·have hk := uJ (t := t) (lt := 32768) (lF := 32768) (lA := 32768) (lN := 32768) (by omega) h2 (by decide)
   obtain ⟨L, q, hq, kq⟩ := C9 hk
   have hc := u3 t (by omega) h2 (by decide) hq
   by_cases h3 : q.why = 0
   ·rw [if_pos h3] at hc
    have hrun : Run t L := .inr ⟨_, _, q, hq, rfl, by omega⟩
    obtain ⟨g1, g2, k, g3, g4, g5⟩ := uL _ _ _ L q hq h3
    simp only [List.nil_append] at g3
    subst g3
    refine ⟨L, 0, 0, ⟨hc, fun _ => ⟨(c6 t).1, 0, q.at', hk.ms, hk.len, ?_, ?_, g4, g5 rfl⟩, fun h => absurd rfl h⟩, hrun⟩
    ·exact fI _ t 0 [] (by omega) (fun i j _ h => by simp at h) (fun i h => by simp at h) h2
    ·have := kq.lt
     rw [g2] at this; exact this
   ·rw [if_neg h3] at hc
    exact ⟨[], q.why, q.wh, ⟨hc, fun h => absurd h h3, fun _ => rfl⟩, .inl rfl⟩
  ·have hc := DF t (by omega) h2
   refine ⟨[], 20, (c6 t).2, ⟨hc, fun h => absurd h (by decide), fun _ => rfl⟩, .inl rfl⟩
theorem Run.nb {t : List UInt8} {L : List Fn} (h : Run t L) : NbF L := by
 rcases h with rfl | ⟨n, r, q, h, hr, ht⟩
 ·exact fun f hf => by simp at hf
 ·exact (A3 (ms := (c6 t).1) (nM _ t 0 [] ht (fun m hm => by simp at hm)) _ _ _ (fun f hf => by simp at hf) hr _ h).1
end Go.Fx.YtackkeoannbnbaaGreatDoor

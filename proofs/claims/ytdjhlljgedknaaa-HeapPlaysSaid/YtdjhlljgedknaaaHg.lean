/-
  Layer 13: awake; HeapNil.
-/
import Derived.Test.YtdjhlljgedknaaaHf
set_option linter.all false
set_option maxRecDepth 100000
set_option maxHeartbeats 4000000
namespace Go.Fx.Ytdjhlljgedknaaa
open Go Go.Fx Go.Proofs Go.Fx.Flt
theorem awake_c : Pure Try.prog 7 [] (B true) := by
  refine pu7 (by simp) ?_
  have ha := alike_c ⟨1, 7, ce0⟩ ⟨1, 7, ce0⟩
  rw [aw_alike] at ha
  simp only [encNd, ce0] at ha
  simp -implicitDefEqProofs [ac7]
  refine clK_of (New_t (fun id n1 h1 h2 => ?_))
  simp -implicitDefEqProofs
  refine clK_of (Delay_z (pd := nilD) (th := 0) (up := 0) 7 (by simp [look]) (by omega) (by omega) (by omega) (fun nid n2 h3 h4 => ?_))
  have e1 : (nid = id) = False := eq_false (by omega)
  have e2 : (id = nid) = False := eq_false (by omega)
  simp -implicitDefEqProofs [e1, e2]
  have hE := fun (K : KD) (mem : Mem) (nx : Nat) hb hn hp hi hj hk => Enter_o (mem := mem) (nx := nx) (K := K) (hid := id) (nid := nid) (ver := 0) (ns := [⟨1, 7, ce0⟩]) (pd := nilD) (ps := []) (th := 1) (up := 0) 0 hb hn hp (by omega) hi hj hk
  simp only [aw_enter1] at hE
  refine clK_of (hE _ _ _ (by simp [look, e1, e2]) (by simp [look, e1, e2]) sees_nil (by omega) (by omega) (fun n3 h5 => ?_))
  simp -implicitDefEqProofs [e1, e2, encNd, ce0]
  obtain ⟨q1, hq1⟩ : ∃ q, q = n2 + 5 := ⟨_, rfl⟩
  rw [← hq1]
  have c1 : (q1 = id) = False := eq_false (by omega)
  have c2 : (id = q1) = False := eq_false (by omega)
  have c3 : (q1 = nid) = False := eq_false (by omega)
  have c4 : (nid = q1) = False := eq_false (by omega)
  have hE2 := fun (K : KD) (mem : Mem) (nx : Nat) hb hn hp hi hj hk => Enter_o (mem := mem) (nx := nx) (K := K) (hid := id) (nid := nid) (ver := 0) (ns := [⟨2, 0, ce0⟩]) (pd := nilD) (ps := []) (th := 1) (up := 0) 0 hb hn hp (by omega) hi hj hk
  simp only [aw_enter2] at hE2
  refine clK_of (hE2 _ _ _ (by simp [look, e1, e2, c1, c2, c3, c4]) (by simp [look, e1, e2, c1, c2, c3, c4, ce0]) sees_nil (by omega) (by omega) (fun n4 h6 => ?_))
  simp -implicitDefEqProofs [e1, e2, c1, c2, c3, c4, encNd, nd0, ce0]
  obtain ⟨q2, hq2⟩ : ∃ q, q = n3 + 5 := ⟨_, rfl⟩
  rw [← hq2]
  have d1 : (q2 = id) = False := eq_false (by omega)
  have d2 : (id = q2) = False := eq_false (by omega)
  have d3 : (q2 = nid) = False := eq_false (by omega)
  have d4 : (nid = q2) = False := eq_false (by omega)
  have d5 : (q2 = q1) = False := eq_false (by omega)
  have d6 : (q1 = q2) = False := eq_false (by omega)
  have hP := fun (K : KD) (mem : Mem) (nx : Nat) hb hn hi hk => Pair_z (mem := mem) (nx := nx) (K := K) (hid := id) (nd := .osl nid 0 0 1) (ns := [⟨2, 0, ce0⟩]) (th := 1) (up := 0) awA awB (by decide) (by decide) hb hn hi (by simpa using aw_pair) hk
  simp only [encCe] at hP
  refine clK_of (hP _ _ _ (by simp [look, e1, e2, c1, c2, c3, c4, d1, d2, d3, d4, d5, d6]) ?_ (by omega) (fun pid n5 h7 h8 => ?_))
  · have := sees_osl (mem := (q2, .box [I 0, I 0, I 0, CX 0 0, B false, I 0]) :: (q1, .box [I 1, I 7, I 0, CX 0 0, B false, I 0]) :: (nid, .arr 0 6 (em encNd [⟨2, 0, ce0⟩])) :: (id, .box [.osl nid 0 0 1, nilD, I 1, I 0]) :: []) (id := nid) (ver := 0) (k := 6) (es := em encNd [⟨2, 0, ce0⟩]) (by simp [look, e1, e2, c1, c2, c3, c4, d1, d2, d3, d4, d5, d6]) (imm_Nd _)
    simpa [ce0] using this
  simp -implicitDefEqProofs [e1, e2, c1, c2, c3, c4, d1, d2, d3, d4, d5, d6]
  have f1 : (pid = id) = False := eq_false (by omega)
  have f2 : (id = pid) = False := eq_false (by omega)
  have f3 : (pid = nid) = False := eq_false (by omega)
  have f4 : (nid = pid) = False := eq_false (by omega)
  have f5 : (pid = q1) = False := eq_false (by omega)
  have f6 : (q1 = pid) = False := eq_false (by omega)
  have f7 : (pid = q2) = False := eq_false (by omega)
  have f8 : (q2 = pid) = False := eq_false (by omega)
  have hU := fun (K : KD) (mem : Mem) (nx : Nat) hb hn hp hi hj hk => Update_ok (mem := mem) (nx := nx) (K := K) (hid := id) (nid := nid) (ver := 0) (ns := [⟨2, 0, ce0⟩]) (ps := [(awA, awB)]) (pd := .osl pid 0 0 1) (th := 1) (up := 0) 0 awC (by decide) hb hn hp (by omega) hi hj (by omega) (by omega) (by simpa using aw_upd) hk
  simp only [encCe] at hU
  refine clK_of (hU _ _ _ (by simp [look, e1, e2, c1, c2, c3, c4, d1, d2, d3, d4, d5, d6, f1, f2, f3, f4, f5, f6, f7, f8]) (by simp [look, e1, e2, c1, c2, c3, c4, d1, d2, d3, d4, d5, d6, f1, f2, f3, f4, f5, f6, f7, f8, ce0]) ?_ (by omega) (by omega) (fun n6 h9 => ?_))
  · intro n
    simp [frz, look, e1, e2, c1, c2, c3, c4, d1, d2, d3, d4, d5, d6, f1, f2, f3, f4, f5, f6, f7, f8]
  simp -implicitDefEqProofs [e1, e2, c1, c2, c3, c4, d1, d2, d3, d4, d5, d6, f1, f2, f3, f4, f5, f6, f7, f8]
  refine clK_of (Look_t (nd := .osl nid 0 0 1) (pd := .osl pid 0 0 1) (ns := [⟨3, 0, awC⟩]) (ps := [(awA, awB)]) (th := 1) (up := 1) 0 (memSub_refl _) (by simp [look, e1, e2, c1, c2, c3, c4, d1, d2, d3, d4, d5, d6, f1, f2, f3, f4, f5, f6, f7, f8]) (fun n => by simp [frz, look, e1, e2, c1, c2, c3, c4, d1, d2, d3, d4, d5, d6, f1, f2, f3, f4, f5, f6, f7, f8]) (fun n => by simp [frz, look, e1, e2, c1, c2, c3, c4, d1, d2, d3, d4, d5, d6, f1, f2, f3, f4, f5, f6, f7, f8]) ?_)
  rw [show lookF [⟨3, 0, awC⟩] 0 = (⟨3, 0, awC⟩, 0) from rfl]
  simp -implicitDefEqProofs [e1, e2, c1, c2, c3, c4, d1, d2, d3, d4, d5, d6, f1, f2, f3, f4, f5, f6, f7, f8, encNd, awC]
  obtain ⟨q3, hq3⟩ : ∃ q, q = n6 + 5 := ⟨_, rfl⟩
  rw [← hq3]
  have g1 : (q3 = id) = False := eq_false (by omega)
  have g2 : (id = q3) = False := eq_false (by omega)
  have g3 : (q3 = nid) = False := eq_false (by omega)
  have g4 : (nid = q3) = False := eq_false (by omega)
  have g5 : (q3 = pid) = False := eq_false (by omega)
  have g6 : (pid = q3) = False := eq_false (by omega)
  have g7 : (q3 = q1) = False := eq_false (by omega)
  have g8 : (q1 = q3) = False := eq_false (by omega)
  have g9 : (q3 = q2) = False := eq_false (by omega)
  have g10 : (q2 = q3) = False := eq_false (by omega)
  refine clK_of (Counts_t (nd := .osl nid 0 0 1) (pd := .osl pid 0 0 1) (ns := [⟨3, 0, awC⟩]) (ps := [(awA, awB)]) (th := 1) (up := 1) (memSub_refl _) (by simp [look, e1, e2, c1, c2, c3, c4, d1, d2, d3, d4, d5, d6, f1, f2, f3, f4, f5, f6, f7, f8, g1, g2, g3, g4, g5, g6, g7, g8, g9, g10]) (fun n => by simp [frz, look, e1, e2, c1, c2, c3, c4, d1, d2, d3, d4, d5, d6, f1, f2, f3, f4, f5, f6, f7, f8, g1, g2, g3, g4, g5, g6, g7, g8, g9, g10, awC]) (fun n => by simp [frz, look, e1, e2, c1, c2, c3, c4, d1, d2, d3, d4, d5, d6, f1, f2, f3, f4, f5, f6, f7, f8, g1, g2, g3, g4, g5, g6, g7, g8, g9, g10]) ?_)
  simp -implicitDefEqProofs [e1, e2, c1, c2, c3, c4, d1, d2, d3, d4, d5, d6, f1, f2, f3, f4, f5, f6, f7, f8, g1, g2, g3, g4, g5, g6, g7, g8, g9, g10]
  refine pcK_of ha (by simp) ?_
  simp -implicitDefEqProofs [e1, e2, c1, c2, c3, c4, d1, d2, d3, d4, d5, d6, f1, f2, f3, f4, f5, f6, f7, f8, g1, g2, g3, g4, g5, g6, g7, g8, g9, g10]
def encAct (k i : Int) (a b : Lc) : List D := [I k, I i, I a.kind, I a.at', I a.num.re, I a.num.im, B a.num.raw, B a.b, I b.kind, I b.at', I b.num.re, I b.num.im, B b.num.raw, B b.b]
theorem law_HeapNil_at (k i : Int) (a b : Lc) : Pure Try.prog 6 [.agg (encAct k i a b)] (B true) := by
  refine pu6 (by simp) ?_
  have hA := C_c a
  have hB := C_c b
  have hd := Delay_n i
  have hp := Pair_n a.c b.c
  have hl := Look_n i
  have hr := Parts_n i
  have he := Enter_n i
  have hu := Update_n i a.c
  have hz := alike_c nd0 nd0
  have hs := same_c ce0 ce0
  rw [aw_zero] at hz
  rw [aw_same] at hs
  generalize a.c = A at *
  generalize b.c = B' at *
  simp only [encLc, encCe, encNd, nd0, ce0] at hA hB hp hl hr he hu hz hs
  simp -implicitDefEqProofs [ac6, encAct]
  refine pcK_of (awake_c) (by simp) ?_
  simp -implicitDefEqProofs
  refine pcK_of (hd) (by simp) ?_
  simp -implicitDefEqProofs
  refine pcK_of (Poison_n) (by simp) ?_
  simp -implicitDefEqProofs
  refine pcK_of hA (by simp) ?_
  simp -implicitDefEqProofs
  refine pcK_of hB (by simp) ?_
  simp -implicitDefEqProofs
  refine pcK_of (hp) (by simp) ?_
  simp -implicitDefEqProofs
  refine pcK_of (hl) (by simp) ?_
  simp -implicitDefEqProofs
  refine pcK_of (hr) (by simp) ?_
  simp -implicitDefEqProofs
  refine pcK_of (he) (by simp) ?_
  simp -implicitDefEqProofs
  refine pcK_of hA (by simp) ?_
  simp -implicitDefEqProofs
  refine pcK_of (hu) (by simp) ?_
  simp -implicitDefEqProofs
  refine pcK_of (Counts_n) (by simp) ?_
  simp -implicitDefEqProofs
  refine pcK_of (hz) (by simp) ?_
  simp -implicitDefEqProofs
  refine pcK_of (hz) (by simp) ?_
  simp -implicitDefEqProofs
  refine pcK_of (hs) (by simp) ?_
  simp -implicitDefEqProofs
  refine pcK_of (hs) (by simp) ?_
  simp -implicitDefEqProofs
theorem wt_i13 {n : Nat} {ds : List D} (h : Wt Try.prog n 3 ds) : ∃ z, ds = [I z] := by
  cases n with
  | zero => exact h.elim
  | succ n =>
    simp only [Wt, Try.underlying3] at h
    obtain ⟨z, rfl, _⟩ := h
    exact ⟨z, rfl⟩
theorem wt_b13 {n : Nat} {ds : List D} (h : Wt Try.prog n 4 ds) : ∃ z, ds = [B z] := by
  cases n with
  | zero => exact h.elim
  | succ n =>
    simp only [Wt, Try.underlying4] at h
    obtain ⟨z, rfl⟩ := h
    exact ⟨z, rfl⟩
theorem wt_nm {n : Nat} {ds : List D} (h : Wt Try.prog n 29 ds) : ∃ z : Nm, ds = [I z.re, I z.im, B z.raw] := by
  cases n with
  | zero => exact h.elim
  | succ n =>
    simp only [Wt, Try.underlying29, WtS, List.map] at h
    obtain ⟨c, r, rfl, h1, c2, r2, rfl, h2, c3, r3, rfl, h3, rfl⟩ := h
    obtain ⟨x, rfl⟩ := wt_i13 h1
    obtain ⟨y, rfl⟩ := wt_i13 h2
    obtain ⟨z, rfl⟩ := wt_b13 h3
    exact ⟨⟨x, y, z⟩, by simp⟩
theorem wt_lc {n : Nat} {ds : List D} (h : Wt Try.prog n 31 ds) : ∃ c : Lc, ds = encLc c := by
  cases n with
  | zero => exact h.elim
  | succ n =>
    simp only [Wt, Try.underlying31, WtS, List.map] at h
    obtain ⟨c, r, rfl, h1, c2, r2, rfl, h2, c3, r3, rfl, h3, c4, r4, rfl, h4, rfl⟩ := h
    obtain ⟨x, rfl⟩ := wt_i13 h1
    obtain ⟨y, rfl⟩ := wt_i13 h2
    obtain ⟨z, rfl⟩ := wt_nm h3
    obtain ⟨b, rfl⟩ := wt_b13 h4
    exact ⟨⟨x, y, z, b⟩, by simp [encLc]⟩
theorem wt_act {n : Nat} {ds : List D} (h : Wt Try.prog n 33 ds) : ∃ k i a b, ds = encAct k i a b := by
  cases n with
  | zero => exact h.elim
  | succ n =>
    simp only [Wt, Try.underlying33, WtS, List.map] at h
    obtain ⟨c, r, rfl, h1, c2, r2, rfl, h2, c3, r3, rfl, h3, c4, r4, rfl, h4, rfl⟩ := h
    obtain ⟨x, rfl⟩ := wt_i13 h1
    obtain ⟨y, rfl⟩ := wt_i13 h2
    obtain ⟨a, rfl⟩ := wt_lc h3
    obtain ⟨b, rfl⟩ := wt_lc h4
    exact ⟨x, y, a, b, by simp [encAct, encLc]⟩
theorem law_HeapNil : ∀ xs, Args Try.prog Try.f6.params.toList xs → Pure Try.prog 6 xs (B true) := by
  intro xs h
  rw [Try.params6] at h
  simp only [Args] at h
  obtain ⟨x, r, rfl, hx, rfl⟩ := h
  obtain ⟨n, ds, h, k⟩ := hx
  simp only [Try.underlying33] at k
  obtain ⟨a, b, c, d, rfl⟩ := wt_act h
  rw [k]
  exact law_HeapNil_at a b c d
end Go.Fx.Ytdjhlljgedknaaa

/-
  Layer 13: the heap lent for reading; Enter.
-/
import Derived.Test.YtdjhlljgedknaaaHc
set_option linter.all false
set_option maxRecDepth 100000
set_option maxHeartbeats 4000000
namespace Go.Fx.Ytdjhlljgedknaaa
open Go Go.Fx Go.Proofs Go.Fx.Flt
/-- What a slice reads as. -/
def Sees (mem : Mem) (d : D) (es : List (List D)) : Prop := ∀ n, frz mem (n + 1) d = some (.sl es)
theorem sees_nil {mem : Mem} : Sees mem nilD [] := fun _ => rfl
theorem sees_osl {mem : Mem} {id ver k : Nat} {es : List (List D)} (h : look mem id = some (.arr ver k es)) (hi : D.immss es = true) : Sees mem (.osl id ver 0 es.length) es := fun n => by
  simp [frz, h, hi]
section
variable {mem : Mem} {nx hid nid ver : Nat} {ns : List Nd} {ps : List (Ce × Ce)} {nd pd : D} {th up : Int} {K : KD}
theorem frzs_c {n : Nat} {d d' : D} {ds ds' : List D} (h1 : frz mem n d = some d') (h2 : frzs mem n ds = some ds') : frzs mem (n + 1) (d :: ds) = some (d' :: ds') := by
  show (match frz mem n d, frzs mem n ds with
    | some d, some ds => some (d :: ds)
    | _, _ => none) = _
  rw [h1, h2]
theorem frz_o {n id : Nat} {cs ds : List D} (h : look mem id = some (.box cs)) (h2 : frzs mem n cs = some ds) : frz mem (n + 1) (.opt id 0) = some (.pt ds) := by
  show (match look mem id with
    | some (.box cs) => match frzs mem n (cs.drop 0) with
      | some ds => some (D.pt ds)
      | none => none
    | _ => none) = _
  rw [h]
  show (match frzs mem n (cs.drop 0) with
      | some ds => some (D.pt ds)
      | none => none) = _
  rw [List.drop_zero, h2]
theorem lend (hb : look mem hid = some (.box [nd, pd, I th, I up])) (hn : Sees mem nd (em encNd ns)) (hp : Sees mem pd (em encPr ps)) {n : Nat} {xs xs' : List D} (hx : frzs mem (n + 10) xs = some xs') : frzs mem (n + 11) (.opt hid 0 :: xs) = some (.pt (hpC ns ps th up) :: xs') := by
  exact frzs_c (frz_o hb (frzs_c (hn (n + 7)) (frzs_c (hp (n + 6)) rfl))) hx
theorem Look_t (i : Int) {mem' : Mem} (hsub : memSub mem' mem) (hb : look mem hid = some (.box [nd, pd, I th, I up])) (hn : Sees mem nd (em encNd ns)) (hp : Sees mem pd (em encPr ps)) (hk : K (.tup [.agg (encNd (lookF ns i).1), I (lookF ns i).2]) mem' nx) : CallT Try.prog 15 [.opt hid 0, I i] mem' nx K :=
  CallT_flat (d0 := .tup [.agg (encNd (lookF ns i).1), I (lookF ns i).2]) rfl hsub (lend (n := 89) hb hn hp rfl) (Look_c ns ps th up i) hk
theorem Parts_t (i : Int) {mem' : Mem} (hsub : memSub mem' mem) (hb : look mem hid = some (.box [nd, pd, I th, I up])) (hn : Sees mem nd (em encNd ns)) (hp : Sees mem pd (em encPr ps)) (hk : K (.tup [.agg (encCe (partsF ps i).1.1), .agg (encCe (partsF ps i).1.2), I (partsF ps i).2]) mem' nx) : CallT Try.prog 21 [.opt hid 0, I i] mem' nx K :=
  CallT_flat (d0 := .tup [.agg (encCe (partsF ps i).1.1), .agg (encCe (partsF ps i).1.2), I (partsF ps i).2]) rfl hsub (lend (n := 89) hb hn hp rfl) (Parts_c ns ps th up i) hk
theorem Counts_t {mem' : Mem} (hsub : memSub mem' mem) (hb : look mem hid = some (.box [nd, pd, I th, I up])) (hn : Sees mem nd (em encNd ns)) (hp : Sees mem pd (em encPr ps)) (hk : K (.tup [I th, I up]) mem' nx) : CallT Try.prog 18 [.opt hid 0] mem' nx K :=
  CallT_flat (d0 := .tup [I th, I up]) rfl hsub (lend (n := 89) hb hn hp rfl) (Counts_c ns ps th up) hk
theorem cell_t (c : Ce) (hr : c.re < 2 ^ 64) (hi : c.im < 2 ^ 64) {mem' : Mem} (hsub : memSub mem' mem) (hb : look mem hid = some (.box [nd, pd, I th, I up])) (hn : Sees mem nd (em encNd ns)) (hp : Sees mem pd (em encPr ps)) (hk : K (B (cellF ns.length ps.length c)) mem' nx) : CallT Try.prog 24 [.opt hid 0, .agg (encCe c)] mem' nx K :=
  CallT_flat (d0 := B (cellF ns.length ps.length c)) rfl hsub (lend (n := 89) hb hn hp rfl) (cell_c ns ps th up c hr hi) hk
def enterF (ns : List Nd) (i : Int) : (Nd × Int) × List Nd :=
  if (lookF ns i).2 ≠ 0 then (lookF ns i, ns) else if (lookF ns i).1.state = 2 then ((nd0, 53), ns) else if (lookF ns i).1.state = 4 then ((nd0, 54), ns) else
  if (lookF ns i).1.state = 1 then (((lookF ns i).1, 0), ns.set i.toNat ⟨2, 0, ce0⟩) else (((lookF ns i).1, 0), ns)
theorem Enter_o (i : Int) (hb : look mem hid = some (.box [.osl nid ver 0 ns.length, pd, I th, I up])) (hn : look mem nid = some (.arr ver 6 (em encNd ns))) (hp : Sees mem pd (em encPr ps)) (hne : nid ≠ hid) (hi : hid < nx) (hj : nid < nx)
    (hk : ∀ nx', nx ≤ nx' → K (.tup [.agg (encNd (enterF ns i).1.1), I (enterF ns i).1.2]) (upd mem nid (.arr ver 6 (em encNd (enterF ns i).2))) nx') :
    CallT Try.prog 16 [.opt hid 0, I i] mem nx K := by
  refine ct16 (by simp) fun hfr => ?_
  have hs := sees_osl hn (imm_Nd ns)
  rw [em_len] at hs
  have f0 : (nx = hid) = False := eq_false (by omega)
  have f1 : (nx = nid) = False := eq_false (by omega)
  simp -implicitDefEqProofs [ac16]
  refine clK_of (Look_t (mem := mem) i (by repeat (first | exact memSub_refl _ | refine memSub_skip ?_ (look_upd_none (hfr _ (by omega))) | refine memSub_skip ?_ (hfr _ (by omega)))) hb hs hp ?_)
  unfold enterF at hk
  have hl : (lookF ns i).2 = 0 ∨ (lookF ns i).2 = 2 := by unfold lookF; split <;> simp
  have hl2 : (lookF ns i).2 = 0 → 0 ≤ i ∧ i < ns.length := fun h => by
    unfold lookF at h; split at h
    · assumption
    · simp at h
  generalize lookF ns i = R at *
  obtain ⟨⟨s, t, ⟨k, re, im, b, a⟩⟩, e⟩ := R
  simp only at hk hl hl2
  have hself := upd_self hn
  have f2 : (nx + 2 + 6 = nx) = False := eq_false (by omega)
  have f3 : (nx = nx + 2 + 6) = False := eq_false (by omega)
  have f4 : (nx + 2 + 6 = hid) = False := eq_false (by omega)
  have f5 : (nx + 2 + 6 = nid) = False := eq_false (by omega)
  rcases hl with rfl | rfl
  · obtain ⟨i0, i1⟩ := hl2 rfl
    have i2 : i.toNat < ns.length := by omega
    have hset : (em encNd ns).set i.toNat [I 2, I 0, I 0, CX 0 0, B false, I 0] = em encNd (ns.set i.toNat ⟨2, 0, ce0⟩) := by
      rw [show [I 2, I 0, I 0, CX 0 0, B false, I 0] = encNd ⟨2, 0, ce0⟩ from rfl, em_set]
    have hmx : max i 0 = i := by omega
    by_cases s2 : s = 2
    · have hk2 : ∀ nx', nx ≤ nx' → K (.tup [.agg (encNd nd0), I 53]) mem nx' := by simpa [s2, hself] using hk
      simp -implicitDefEqProofs [f0, f1, f2, f3, f4, f5, encNd, s2]
      exact ⟨mem, (by repeat (first | exact memSub_refl _ | refine memSub_skip ?_ (look_upd_none (hfr _ (by omega))) | refine memSub_skip ?_ (hfr _ (by omega)))), by simpa [encNd, nd0, ce0] using hk2 _ (by omega)⟩
    · by_cases s4 : s = 4
      · have hk2 : ∀ nx', nx ≤ nx' → K (.tup [.agg (encNd nd0), I 54]) mem nx' := by simpa [s2, s4, hself] using hk
        simp -implicitDefEqProofs [f0, f1, f2, f3, f4, f5, encNd, s2, s4]
        exact ⟨mem, (by repeat (first | exact memSub_refl _ | refine memSub_skip ?_ (look_upd_none (hfr _ (by omega))) | refine memSub_skip ?_ (hfr _ (by omega)))), by simpa [encNd, nd0, ce0] using hk2 _ (by omega)⟩
      · by_cases s1 : s = 1
        · have hk2 : ∀ nx', nx ≤ nx' → K (.tup [.agg (encNd ⟨1, t, ⟨k, re, im, b, a⟩⟩), I 0]) (upd mem nid (.arr ver 6 (em encNd (ns.set i.toNat ⟨2, 0, ce0⟩)))) nx' := by simpa [s1] using hk
          simp -implicitDefEqProofs [f0, f1, f2, f3, f4, f5, encNd, s1, hb, hn, f0, f1, i0, i1, i2, hset, hmx]
          exact ⟨upd mem nid (.arr ver 6 (em encNd (ns.set i.toNat ⟨2, 0, ce0⟩))), (by repeat (first | exact memSub_refl _ | refine memSub_skip ?_ (look_upd_none (hfr _ (by omega))) | refine memSub_skip ?_ (hfr _ (by omega)))), by simpa [encNd] using hk2 _ (by omega)⟩
        · have hk2 : ∀ nx', nx ≤ nx' → K (.tup [.agg (encNd ⟨s, t, ⟨k, re, im, b, a⟩⟩), I 0]) mem nx' := by simpa [s2, s4, s1, hself] using hk
          simp -implicitDefEqProofs [f0, f1, f2, f3, f4, f5, encNd, s2, s4, s1]
          exact ⟨mem, (by repeat (first | exact memSub_refl _ | refine memSub_skip ?_ (look_upd_none (hfr _ (by omega))) | refine memSub_skip ?_ (hfr _ (by omega)))), by simpa [encNd] using hk2 _ (by omega)⟩
  · have hk2 : ∀ nx', nx ≤ nx' → K (.tup [.agg (encNd ⟨s, t, ⟨k, re, im, b, a⟩⟩), I 2]) mem nx' := by simpa [hself] using hk
    simp -implicitDefEqProofs [f0, f1, f2, f3, f4, f5, encNd]
    exact ⟨mem, (by repeat (first | exact memSub_refl _ | refine memSub_skip ?_ (look_upd_none (hfr _ (by omega))) | refine memSub_skip ?_ (hfr _ (by omega)))), by simpa [encNd] using hk2 _ (by omega)⟩
theorem Enter_z (i : Int) (hb : look mem hid = some (.box [nilD, pd, I th, I up])) (hp : Sees mem pd (em encPr ps)) (hi : hid < nx)
    (hk : ∀ nx', nx ≤ nx' → K (.tup [.agg (encNd nd0), I 2]) mem nx') : CallT Try.prog 16 [.opt hid 0, I i] mem nx K := by
  refine ct16 (by simp) fun hfr => ?_
  have f0 : (nx = hid) = False := eq_false (by omega)
  simp -implicitDefEqProofs [ac16]
  refine clK_of (Look_t (mem := mem) (ns := []) i (by repeat (first | exact memSub_refl _ | refine memSub_skip ?_ (look_upd_none (hfr _ (by omega))) | refine memSub_skip ?_ (hfr _ (by omega)))) hb sees_nil hp ?_)
  have hl : lookF [] i = (nd0, 2) := by unfold lookF; rw [if_neg (by simp)]
  have f2 : (nx + 2 + 6 = nx) = False := eq_false (by omega)
  have f3 : (nx = nx + 2 + 6) = False := eq_false (by omega)
  rw [hl]
  simp -implicitDefEqProofs [f0, f2, f3, encNd, nd0, ce0]
  exact ⟨mem, (by repeat (first | exact memSub_refl _ | refine memSub_skip ?_ (look_upd_none (hfr _ (by omega))) | refine memSub_skip ?_ (hfr _ (by omega)))), by simpa [encNd, nd0, ce0] using hk _ (by omega)⟩
end
end Go.Fx.Ytdjhlljgedknaaa

/- The law ScopeKeep answers true for every input, and every argument reads behind the call as it read before. Conditions: those of the given statement, none besides.. No condition. -/
import Derived.Test.YtackkeoannbnbaaGreatDoorKa4
import Derived.Test.YtackkeoannbnbaaGreatDoorRows
set_option linter.all false
set_option maxRecDepth 100000
set_option maxHeartbeats 4000000
namespace Go.Fx.YtackkeoannbnbaaGreatDoor
open Go Go.Fx Go.Proofs Go.Fx.Flt
mutual
theorem CM : ∀ (e : Ex) (N : List (List UInt8)), Nb e → ∀ x ∈ bP (bW e N), sB x
 | .mk op n t ty z args p, N, h => by
  unfold Nb at h
  unfold bW
  rw [hO]
  intro x hx
  rcases List.mem_append.1 hx with hx | hx
  ·split at hx
   ·unfold bP at hx
    split at hx
    ·simp only [bP, List.append_nil, List.mem_singleton, Ex.name] at hx
     rw [hx]; exact h.1.1
    ·simp [bP] at hx
   ·simp [bP] at hx
  ·exact yS op n t 0 args N h.2 x hx
theorem yS (op : Int) (n t : List UInt8) (i : Nat) : ∀ (l : List Ex) (N : List (List UInt8)), Nbs l → ∀ x ∈ bP (cH op n t i l N), sB x
 | [], N, _ => by intro x hx; simp [cH, bP] at hx
 | e :: es, N, h => by
  unfold Nbs at h
  unfold cH
  rw [hO]
  intro x hx
  rcases List.mem_append.1 hx with hx | hx
  ·exact CM e _ h.1 x hx
  ·exact yS op n t (i + 1) es N h.2 x hx
end
mutual
theorem uY : ∀ (e : Ex), Nb e → ∀ x ∈ aY e, sB x
 | .mk op n t ty z args p, h => by
  unfold Nb at h
  unfold aY
  intro x hx
  rcases List.mem_append.1 hx with hx | hx
  ·rcases List.mem_append.1 hx with hx | hx
   ·split at hx
    ·simp at hx
    ·simp only [List.mem_singleton] at hx; rw [hx]; exact h.1.1
   ·split at hx
    ·simp at hx
    ·simp only [List.mem_singleton] at hx; rw [hx]; exact h.1.2
  ·exact tY args h.2 x hx
theorem tY : ∀ (l : List Ex), Nbs l → ∀ x ∈ bD l, sB x
 | [], _ => by intro x hx; simp [bD] at hx
 | e :: es, h => by
  unfold Nbs at h
  unfold bD
  intro x hx
  rcases List.mem_append.1 hx with hx | hx
  ·exact uY e h.1 x hx
  ·exact tY es h.2 x hx
end
def rO (e : Ex) : Sm := (cY iM e [] []).2
theorem wU (e : Ex) (hz : size e ≤ 2 ^ 40) : Cn (rO e) (bP (bW e [])) := by
 have h := (wZ e [] [] [] [] qS Cn.nil (by simp; omega) (by simp; omega)).2
 rw [List.nil_append] at h
 exact h
theorem oK : ∀ (a b : List (List UInt8)), a.Nodup → (∀ x ∈ a, x ∈ b) → a.length ≤ b.length
 | [], b, _, _ => by simp
 | x :: xs, b, h, hs => by
  obtain ⟨h1, h2⟩ := List.nodup_cons.1 h
  have hx : x ∈ b := hs x (by simp)
  have := oK xs (b.erase x) h2 (fun y hy => (List.mem_erase_of_ne (fun e : y = x => h1 (e ▸ hy))).2 (hs y (by simp [hy])))
  rw [List.length_erase_of_mem hx] at this
  have : 0 < b.length := List.length_pos_of_mem hx
  simp only [List.length_cons]; omega
theorem Cn.len {c : Sm} {L : List (List UInt8)} (h : Cn c L) : c.length ≤ L.length := by
 have h1 : (c.map Prod.fst).length ≤ L.length := oK _ _ h.nd (fun x hx => (h.mem x).1 hx)
 simpa using h1
theorem Cn.key {c : Sm} {L : List (List UInt8)} (h : Cn c L) (hb : ∀ x ∈ L, sB x) : ∀ p ∈ c, p.1.length ≤ maxLen := fun p hp => by
 have := hb p.1 ((h.mem p.1).1 (List.mem_map.2 ⟨p, hp, rfl⟩))
 have e : maxLen = 2 ^ 63 - 1 := rfl
 unfold sB at this; omega
theorem C3 (e : Ex) (hz : size e ≤ 2 ^ 40) {mem : Mem} {nx : Nat} {K : KD} (hk : ∀ id n', nx ≤ id → id < n' → K (.omap id) ((id, .map (aJ (rO e))) :: mem) n') : bH Tryz.prog 39 [.agg (aR e)] mem nx K := by
 refine fi39.ct (by simp) fun hfr => ?_
 have hw := sI FV e
 unfold WC2 at hw
 simp only [aA] at hw ⊢
 have z1 : (nx + 2 + 1 = nx) = False := eq_false (by omega)
 have z2 : (nx + 2 = nx) = False := eq_false (by omega)
 have z3 : (nx + 2 + 3 + 1 = nx) = False := eq_false (by omega)
 have z4 : (nx + 2 + 3 + 1 = nx + 2) = False := eq_false (by omega)
 have z5 : (nx + 2 + 3 + 1 = nx + 2 + 1) = False := eq_false (by omega)
 have z6 : (nx + 2 + 1 = nx + 2) = False := eq_false (by omega)
 have z7 : (nx + 2 = nx + 2 + 1) = False := eq_false (by omega)
 have z8 : (nx = nx + 2) = False := eq_false (by omega)
 have z9 : (nx = nx + 2 + 3 + 1) = False := eq_false (by omega)
 simp -implicitDefEqProofs [ac39, z1, z2, z3]
 refine aD (hw (mid := nx + 2 + 3 + 1) (cid := nx + 2) (b := nx + 2 + 1) (m := []) (c := []) ⟨?_, ?_, ?_, by omega, by omega, by omega, by omega, by omega, by omega⟩ hz (fun n3 hn3 => ?_))
 ·simp [look, aJ]
 ·simp [look, aJ, z5, z4, z6]
 ·simp [look, z5]
 ·have hup : bJ ((nx + 2 + 3 + 1, Blk.map []) :: (nx + 2 + 1, Blk.box [D.omap (nx + 2)]) :: (nx + 2, Blk.map []) :: (nx, Blk.box [I e.op, Tx e.name, Tx e.tail, I e.type, CX e.num.re e.num.im, D.sl (em aR e.args), I e.at']) :: mem) (nx + 2 + 3 + 1) (nx + 2) (cY iM e [] []).1 (cY iM e [] []).2 = (nx + 2 + 3 + 1, Blk.map (aJ (cY iM e [] []).1)) :: (nx + 2 + 1, Blk.box [D.omap (nx + 2)]) :: (nx + 2, Blk.map (aJ (rO e))) :: (nx, Blk.box [I e.op, Tx e.name, Tx e.tail, I e.type, CX e.num.re e.num.im, D.sl (em aR e.args), I e.at']) :: mem := by
   unfold bJ rO
   simp only [upd, z4, z5, z6, if_false, if_true]
  rw [hup]
  simp -implicitDefEqProofs [z1, z2, z3, z4, z5, z6, z7]
  refine ⟨(nx + 2, .map (aJ (rO e))) :: mem, fun i b hb => ?_, hk (nx + 2) _ (by omega) (by omega)⟩
  rw [a7] at hb
  split at hb
  ·rename_i g; subst g
   simpa only [a7, z5, z4, z6, if_false, if_true] using hb
  ·rename_i g
   have hi : i < nx := by
    rcases Nat.lt_or_ge i nx with h | h
    ·exact h
    ·rw [hfr i h] at hb; simp at hb
   simp only [a7]
   rw [if_neg (by omega), if_neg (by omega), if_neg (by omega), if_neg (by omega)]
   exact hb
structure NT (l : List (List UInt8)) (mem : Mem) (nx : Nat) (K : KD) : Prop where
 none : l = [] → ∀ n', nx ≤ n' → K (.pl (.slice none 0 0)) mem n'
 some : l ≠ [] → ∀ id n', nx ≤ id → id < n' → K (.osl id 0 0 l.length) ((id, .arr 0 1 (em aI l)) :: mem) n'
theorem B5 {mem : Mem} {nx id : Nat} {K : KD} (hk : ∀ kb n', nx ≤ kb → kb < n' → K (.fn 50 [.opt kb 0]) ((kb, .box [.omap id]) :: mem) n') : bH Tryz.prog 30 [.omap id] mem nx K := by
 refine fi30.ct (by simp) fun hfr => ?_
 simp -implicitDefEqProofs [ac30]
 exact ⟨_, aG _, hk nx _ (by omega) (by omega)⟩
theorem GX {c : Sm} {L : List (List UInt8)} (h : Cn c L) : (c_ L []).length = c.length := by
 rw [← uM h, List.length_mergeSort, List.length_map]
theorem BJ {c : Sm} {L : List (List UInt8)} (hc : Cn c L) (hb : ∀ x ∈ L, sB x) (hl : L.length ≤ 2 ^ 42) {mem M : Mem} {nx n0 kb id : Nat} {K K' : KD} (hkb : look M kb = some (.box [.omap id])) (hid : look M id = some (.map (aJ c))) (hn0 : nx ≤ n0)
  (hK : NT (c_ L []) mem nx K) (hlow : ∀ i, i < nx → look M i = look mem i) (hfr : ∀ i, nx ≤ i → look mem i = none) (hMf : ∀ i, n0 ≤ i → look M i = none)
  (hK' : ∀ d m n, (∃ m', bR m m' ∧ K d m' n) → K' d m n) : bH Tryz.prog 29 [.fn 50 [.opt kb 0]] M n0 K' := by
 have hlen := hc.len
 have hsl := GX hc
 have hnone : ∀ i b, look mem i = some b → i < nx := fun i b h => by
  rcases Nat.lt_or_ge i nx with g | g
  ·exact g
  ·rw [hfr i g] at h; simp at h
 refine G4 hkb hid (by omega) (hc.key hb) (fun h0 n' hn' => ?_) (fun h0 n' hn' => ?_)
 ·refine hK' _ _ _ ⟨mem, fun i b h => ?_, hK.none (List.eq_nil_of_length_eq_zero (by rw [hsl, h0]; rfl)) n' (by omega)⟩
  rw [hlow i (hnone i b h)]; exact h
 ·have hne : c_ L [] ≠ [] := fun e => h0 (List.eq_nil_of_length_eq_zero (by rw [← hsl, e]; rfl))
  rw [uM hc, ← hsl]
  refine hK' _ _ _ ⟨_, fun i b h => ?_, hK.some hne n0 n' hn0 hn'⟩
  rw [a7] at h ⊢
  split at h
  ·rename_i g; rw [if_pos g]; exact h
  ·rename_i g
   rw [if_neg g, hlow i (hnone i b h)]; exact h
def fC (e : Ex) : List (List UInt8) := c_ (bP (bW e [])) []
theorem C6 (e : Ex) (hz : size e ≤ 2 ^ 40) (hb : Nb e) {mem : Mem} {nx : Nat} {K : KD} (hK : NT (fC e) mem nx K) : bH Tryz.prog 15 [.agg (aR e)] mem nx K := by
 refine fi15.ct (by simp) fun hfr => ?_
 have hf := fun {mem : Mem} {nx : Nat} {K : KD} hk => C3 e hz (mem := mem) (nx := nx) (K := K) hk
 simp only [aA] at hf ⊢
 simp -implicitDefEqProofs [ac15]
 refine aD (hf (fun id n1 g1 g2 => ?_))
 simp -implicitDefEqProofs
 refine aD (B5 (fun kb n2 g3 g4 => ?_))
 simp -implicitDefEqProofs
 have h1 : (kb = id) = False := eq_false (by omega)
 have hl1 := f_ (bW e [])
 have hl2 := e9 e []
 refine aD (BJ (mem := mem) (nx := nx) (wU e hz) (CM e [] hb) (by omega) (kb := kb) (id := id) (by simp [look]) (by simp [look, h1]) (by omega) hK (fun i hi => ?_) hfr (fun i hi => ?_) (fun d m n h => ?_))
 ·rw [a7, a7, if_neg (by omega), if_neg (by omega)]
 ·rw [a7, a7, if_neg (by omega), if_neg (by omega)]; exact hfr i (by omega)
 ·simp -implicitDefEqProofs
  exact h
theorem Uses_c (e : Ex) (n : List UInt8) (hz : size e ≤ 2 ^ 40) : Pure Tryz.prog 19 [.agg (aR e), Tx n] (I ((bP (bW e [])).count n)) := by
 refine fi19.pu (by simp) ?_
 have hf := fun {mem : Mem} {nx : Nat} {K : KD} hk => C3 e hz (mem := mem) (nx := nx) (K := K) hk
 simp only [aA] at hf ⊢
 simp -implicitDefEqProofs [ac19]
 refine aD (hf (fun id n1 g1 g2 => ?_))
 have := (wU e hz).cnt n
 simp -implicitDefEqProofs [this]
def SzC (e : Ex) : Prop := size e ≤ 2 ^ 40 → Pure Tryz.prog 20 [.agg (aR e)] (I (size e))
theorem Size_s (op : Int) (n t : List UInt8) (ty : Int) (z : Cx) (args : List Ex) (p : Int) (ih : ∀ x ∈ args, SzC x) : SzC (.mk op n t ty z args p) := by
 intro hz
 have hal := iU args
 have hR : ((size (.mk op n t ty z args p) : Nat) : Int) = 1 + (aU args : Int) := by simp only [size]; omega
 rw [hR]
 simp only [size] at hz
 generalize hRR : (1 + (aU args : Int)) = R at *
 simp only [bZ]
 refine fi20.pu (by simp) ?_
 simp -implicitDefEqProofs [ac20]
 refine lpG cf20 lb20_0 [3, 5, 9] (α := Nat × Int) (fun s _ => [(3, I s.2), (9, I s.1)]) (fun s _ => []) (fun s k => s.1 ≤ args.length ∧ 1 ≤ s.2 ∧ s.2 + (aU (args.drop s.1) : Int) = R) (fun s => args.length - s.1) (0, 1) ⟨by simp, by simp, by simpa using hRR⟩ (by simp) (by simp) ?_
 rintro ⟨i, v⟩ k ⟨hi, hv1, hr⟩
 simp only at hi hv1 hr
 by_cases hlt : i < args.length
 ·have hlti : (i : Int) < (args.length : Int) := by omega
  have hd : args.drop i = args[i] :: args.drop (i + 1) := List.drop_eq_getElem_cons hlt
  rw [hd] at hr
  simp only [aU] at hr
  obtain ⟨x, hx⟩ : ∃ x, args[i] = x := ⟨_, rfl⟩
  have hxm : x ∈ args := by rw [← hx]; exact List.getElem_mem hlt
  rw [hx] at hr
  have hsx := kX hxm
  have hc := ih x hxm (by omega)
  simp only [aA] at hc
  have w1 := aX (x := (i : Int) + 1) (by omega) (by omega)
  have w2 := aX (x := v + (size x : Int)) (by omega) (by omega)
  simp -implicitDefEqProofs [lb20_0, hlti, hlt, hx]
  refine aH hc (by simp) ?_
  simp -implicitDefEqProofs [w1, w2]
  exact aK (i + 1, v + (size x : Int)) ⟨hlt, by simp only; omega, by simp only; omega⟩ (by simp only; omega) (by simp) (by simp)
 ·have hil : i = args.length := by omega
  subst hil
  rw [List.drop_length] at hr
  simp only [aU] at hr
  have hv : v = R := by simpa using hr
  simp -implicitDefEqProofs [lb20_0, hv]
mutual
theorem CK : ∀ e : Ex, SzC e
 | .mk op n t ty z args p => Size_s op n t ty z args p (x_ args)
theorem x_ : ∀ l : List Ex, ∀ x ∈ l, SzC x
 | [], x, h => by simp at h
 | y :: ys, x, h => (List.mem_cons.1 h).elim (fun he => he ▸ CK y) (fun h => x_ ys x h)
end
abbrev zZ (f : Fn) : D := .agg [Tx f.name, .sl (em fY f.params), I f.type, I f.body.op, Tx f.body.name, Tx f.body.tail, I f.body.type, CX f.body.num.re f.body.num.im, .sl (em aR f.body.args), I f.body.at', I f.at']
def eZ (f : Fn) : List (List UInt8) := c_ (kZ f) []
theorem x4 (f : Fn) (hz : size f.body ≤ 2 ^ 40) (hp : f.params.length ≤ 2 ^ 40) (hb : NbFn f) {mem : Mem} {nx : Nat} {K : KD} (hK : NT (eZ f) mem nx K) : bH Tryz.prog 11 [zZ f] mem nx K := by
 refine fi11.ct (by simp) fun hfr => ?_
 have hw := sI EM f.body
 unfold WC2 at hw
 simp only [aA] at hw
 have z1 : (nx + 2 = nx) = False := eq_false (by omega)
 simp -implicitDefEqProofs [ac11]
 have hinc0 : d8 [] f.name 1 = cK [] f.name := by
  unfold cK; rw [nL]; rfl
 rw [hinc0]
 have hL0 : nx + 2 + 7 + 4 ≤ nx + 2 + 7 + 4 := Nat.le_refl _
 generalize hN0 : nx + 2 + 7 + 4 = n0 at *
 generalize hbe : nx + 2 + 5 = b at *
 generalize hce : nx + 2 = cid at *
 have hbc : (b = cid) = False := eq_false (by omega)
 have hnp : (f.params.map Pm.name).length = f.params.length := by simp
 refine lpG cf11 lb11_0 [5, 13] (α := Nat × Sm) (fun s _ => [(13, I s.1)]) (fun s _ => (b, .box [.omap cid]) :: (cid, .map (aJ s.2)) :: mem) (fun s k => n0 ≤ k ∧ s.1 ≤ f.params.length ∧ Cn s.2 (f.name :: (f.params.map Pm.name).take s.1)) (fun s => f.params.length - s.1) (0, cK [] f.name) ⟨by omega, by simp, by simpa using Cn.nil.inc (by simp) f.name⟩ (by simp) (aL _) ?_
 rintro ⟨i, c⟩ k ⟨hk, hi, hc⟩
 simp only at hk hi hc
 by_cases hlt : i < f.params.length
 ·have hlti : (i : Int) < (f.params.length : Int) := by omega
  have w1 := aX (x := (i : Int) + 1) (by omega) (by omega)
  obtain ⟨x, hx⟩ : ∃ x, f.params[i] = x := ⟨_, rfl⟩
  have hnext : (f.name :: (f.params.map Pm.name).take i) ++ [x.name] = f.name :: (f.params.map Pm.name).take (i + 1) := by
   rw [List.take_add_one, List.getElem?_map, List.getElem?_eq_getElem hlt, hx]; rfl
  have hc2 := hc.inc (by simp; omega) x.name
  rw [hnext] at hc2
  have y1 : (k + 1 + 2 = b) = False := eq_false (by omega)
  have y2 : (k + 1 + 2 = cid) = False := eq_false (by omega)
  have y3 : (b = k + 1 + 2) = False := eq_false (by omega)
  have y4 : (cid = k + 1 + 2) = False := eq_false (by omega)
  simp -implicitDefEqProofs [lb11_0, hlti, hlt, hx, w1, y1, y2, y3, y4, hbc]
  refine aK (i + 1, cK c x.name) ⟨by omega, hlt, hc2⟩ (by simp only; omega) (by simp) ?_
  refine aQ (aL _) ?_
  rw [a7, a7, if_neg (by omega), if_neg (by omega)]
  exact hfr _ (by omega)
 ·have hil : i = f.params.length := by omega
  subst hil
  rw [List.take_of_length_le (by simp)] at hc
  have y1 : (k + 1 + 2 = b) = False := eq_false (by omega)
  have y2 : (k + 1 + 2 = cid) = False := eq_false (by omega)
  simp -implicitDefEqProofs [lb11_0]
  refine aD (hw (mid := k + 1 + 2) (cid := cid) (b := b) (m := []) (c := c) ⟨?_, ?_, ?_, by omega, by omega, by omega, by omega, by omega, by omega⟩ hz (fun n3 hn3 => ?_))
  ·simp [look, aJ]
  ·simp [look, y2, hbc]
  ·simp [look, y1]
  have hwn := fQ f.body
  have hC := (wI f.body [] c [] (f.name :: f.params.map Pm.name) qS hc (by simp; omega) (by simp; omega)).2
  have hL : f.name :: f.params.map Pm.name ++ aY f.body = kZ f := rfl
  rw [hL] at hC
  have hall : ∀ x ∈ kZ f, sB x := fun x hx => by
   rw [← hL] at hx
   rcases List.mem_append.1 hx with h | h
   ·rcases List.mem_cons.1 h with rfl | h
    ·exact hb.name
    ·obtain ⟨p, hp1, rfl⟩ := List.mem_map.1 h
     exact hb.pars p hp1
   ·exact uY _ hb.body x h
  have hlen : (kZ f).length ≤ 2 ^ 42 := by rw [← hL, List.length_append]; simp; omega
  have hup : bJ ((k + 1 + 2, Blk.map []) :: (b, Blk.box [D.omap cid]) :: (cid, Blk.map (aJ c)) :: mem) (k + 1 + 2) cid (cY fP f.body [] c).1 (cY fP f.body [] c).2 = (k + 1 + 2, Blk.map (aJ (cY fP f.body [] c).1)) :: (b, Blk.box [D.omap cid]) :: (cid, Blk.map (aJ (cY fP f.body [] c).2)) :: mem := by
   unfold bJ
   simp only [upd, y1, y2, hbc, if_false, if_true]
  rw [hup]
  generalize cY fP f.body [] c = R at *
  simp -implicitDefEqProofs [y1, y2, hbc]
  refine aD (B5 (fun kb n2 g3 g4 => ?_))
  simp -implicitDefEqProofs
  have x1 : (kb = k + 1 + 2) = False := eq_false (by omega)
  have x2 : (kb = b) = False := eq_false (by omega)
  have x3 : (kb = cid) = False := eq_false (by omega)
  refine aD (BJ (mem := mem) (nx := nx) hC hall hlen (kb := kb) (id := cid) (by simp [look]) (by simp [look, x1, x2, x3, y1, y2, hbc]) (by omega) hK (fun i hi => ?_) hfr (fun i hi => ?_) (fun d m n h => ?_))
  ·rw [a7, a7, a7, a7, if_neg (by omega), if_neg (by omega), if_neg (by omega), if_neg (by omega)]
  ·rw [a7, a7, a7, a7, if_neg (by omega), if_neg (by omega), if_neg (by omega), if_neg (by omega)]; exact hfr i (by omega)
  ·simp -implicitDefEqProofs
   exact h
theorem iW {n : Nat} (h : n < 10) : Lib.decDigits n = [dc n] := by
 rw [Lib.decDigits, dif_pos h]; unfold dc; rw [Nat.mod_eq_of_lt h]
theorem vK {n : Nat} (h : ¬ n < 10) : Lib.decDigits n = Lib.decDigits (n / 10) ++ [dc n] := by
 rw [Lib.decDigits, dif_neg h]; rfl
theorem xD : ∀ n : Nat, (Lib.decDigits n).length ≤ n + 1 := by
 intro n
 induction n using Nat.strongRecOn with
 | ind n ih =>
  by_cases h : n < 10
  ·rw [iW h]; simp
  ·rw [vK h, List.length_append]
   have := ih (n / 10) (by omega)
   simp only [List.length_cons, List.length_nil]; omega
def ddV (l : List UInt8) : Nat := l.foldl (fun v b => v * 10 + (b.toNat - 48)) 0
theorem CC : ∀ n : Nat, ddV (Lib.decDigits n) = n := by
 intro n
 induction n using Nat.strongRecOn with
 | ind n ih =>
  by_cases h : n < 10
  ·rw [iW h]
   simp only [ddV, List.foldl_cons, List.foldl_nil]
   rw [dc_n]; omega
  ·rw [vK h]
   have := ih (n / 10) (by omega)
   unfold ddV at this ⊢
   rw [List.foldl_append, this]
   simp only [List.foldl_cons, List.foldl_nil]
   rw [dc_n]; omega
def nm (k : Nat) : List UInt8 := 116 :: Lib.decDigits k
theorem CN {a b : Nat} (h : nm a = nm b) : a = b := by
 unfold nm at h
 simp only [List.cons.injEq, true_and] at h
 have := congrArg ddV h
 rwa [CC, CC] at this
def eF (taken : List (List UInt8)) (n : Nat) : Nat → Nat → List (List UInt8) → List (List UInt8)
 | 0, _, out => out
 | f + 1, k, out => if out.length < n then eF taken n f (k + 1) (if a8 taken (nm k) = true then out else out ++ [nm k]) else out
def dX (taken : List (List UInt8)) (n : Nat) : List (List UInt8) := eF taken n (n + taken.length + 1) 1 []
structure Fr6 (taken : List (List UInt8)) (n k : Nat) (out : List (List UInt8)) : Prop where
 hit : ∃ H : List Nat, H.Nodup ∧ (∀ j ∈ H, j < k ∧ nm j ∈ taken) ∧ k = 1 + out.length + H.length
 told : ∀ s ∈ out, ∃ j, j < k ∧ s = nm j
 free : ∀ s ∈ out, s ∉ taken
 nd : out.Nodup
 le : out.length ≤ n
theorem B3 {l : List Nat} (h : l.Nodup) : (l.map nm).Nodup := by
 refine List.pairwise_map.2 (h.imp fun hne e => hne (CN e))
theorem Fr6.bound {taken : List (List UInt8)} {n k : Nat} {out : List (List UInt8)} (h : Fr6 taken n k out) : k ≤ 1 + out.length + taken.length := by
 obtain ⟨H, h1, h2, h3⟩ := h.hit
 have := oK (H.map nm) taken (B3 h1) (fun x hx => by
  obtain ⟨j, hj, rfl⟩ := List.mem_map.1 hx
  exact (h2 j hj).2)
 rw [List.length_map] at this
 omega
theorem Fr6.start (taken : List (List UInt8)) (n : Nat) : Fr6 taken n 1 [] := ⟨⟨[], by simp, by simp, by simp⟩, by simp, by simp, by simp, by simp⟩
theorem Fr6.step {taken : List (List UInt8)} {n k : Nat} {out : List (List UInt8)} (h : Fr6 taken n k out) (hl : out.length < n) : Fr6 taken n (k + 1) (if a8 taken (nm k) = true then out else out ++ [nm k]) := by
 obtain ⟨H, h1, h2, h3⟩ := h.hit
 by_cases g : a8 taken (nm k) = true
 ·rw [if_pos g]
  refine ⟨⟨H ++ [k], ?_, ?_, by simp; omega⟩, fun s hs => ?_, h.free, h.nd, h.le⟩
  ·rw [List.nodup_append]
   refine ⟨h1, by simp, fun a ha b hb e => ?_⟩
   simp at hb; subst hb; subst e
   have := (h2 a ha).1; omega
  ·intro j hj
   rcases List.mem_append.1 hj with hj | hj
   ·exact ⟨by have := (h2 j hj).1; omega, (h2 j hj).2⟩
   ·simp at hj; subst hj; exact ⟨by omega, (i_ _ _).1 g⟩
  ·obtain ⟨j, hj, e⟩ := h.told s hs
   exact ⟨j, by omega, e⟩
 ·rw [if_neg g]
  refine ⟨⟨H, h1, fun j hj => ⟨by have := (h2 j hj).1; omega, (h2 j hj).2⟩, by simp; omega⟩, fun s hs => ?_, fun s hs => ?_, ?_, by simp; omega⟩
  ·rcases List.mem_append.1 hs with hs | hs
   ·obtain ⟨j, hj, e⟩ := h.told s hs
    exact ⟨j, by omega, e⟩
   ·simp at hs; exact ⟨k, by omega, hs⟩
  ·rcases List.mem_append.1 hs with hs | hs
   ·exact h.free s hs
   ·simp at hs; subst hs; exact fun m => g ((i_ _ _).2 m)
  ·rw [List.nodup_append]
   refine ⟨h.nd, by simp, fun a ha b hb e => ?_⟩
   simp at hb; subst hb; subst e
   obtain ⟨j, hj, e⟩ := h.told _ ha
   have := CN e; omega
theorem tS {taken : List (List UInt8)} {n : Nat} : ∀ (f k : Nat) (out : List (List UInt8)), Fr6 taken n k out → n + taken.length + 2 ≤ f + k → ∃ k', Fr6 taken n k' (eF taken n f k out) ∧ (eF taken n f k out).length = n
 | 0, k, out, h, hf => by
  have h1 := h.bound
  have h2 := h.le
  exact ⟨k, h, by unfold eF; omega⟩
 | f + 1, k, out, h, hf => by
  unfold eF
  by_cases g : out.length < n
  ·rw [if_pos g]; exact tS f _ _ (h.step g) (by omega)
  ·rw [if_neg g]; exact ⟨k, h, by have := h.le; omega⟩
theorem DD (taken : List (List UInt8)) (n : Nat) : ∃ k, Fr6 taken n k (dX taken n) ∧ (dX taken n).length = n := tS _ _ _ (Fr6.start taken n) (by omega)
theorem BI : ∀ (n : Nat), n < 2 ^ 46 → Pure Tryz.prog 40 [I n] (Tx (Lib.decDigits n)) := by
 intro n
 induction n using Nat.strongRecOn with
 | ind n ih =>
  intro hn
  have w0 : ((n : Int).tmod 10) = (n : Int) % 10 := Int.tmod_eq_emod_of_nonneg (by omega)
  have w1 : IntKind.i64.wrap (48 + (n : Int) % 10) = (dc n).toNat := by rw [dc_n, aX (by omega) (by omega)]; omega
  have w2 : IntKind.u8.wrap ((dc n).toNat : Int) = (dc n).toNat := by
   have := (dc n).toNat_lt
   exact wru8 (by omega) (by omega)
  refine fi40.pu (by simp) ?_
  by_cases h1 : n < 10
  ·have h1' : ¬ (10 : Int) ≤ (n : Int) := by omega
   rw [iW h1]
   simp -implicitDefEqProofs [ac40, h1', w0, w1, w2]
  ·have h1' : (10 : Int) ≤ (n : Int) := by omega
   have w3 : IntKind.i64.wrap ((n : Int) / 10) = (n : Int) / 10 := aX (by omega) (by omega)
   have hc := ih (n / 10) (by omega) (by omega)
   have hl := xD (n / 10)
   have hadd := eG (P := Tryz.prog) (ty := 9) (l := Lib.decDigits (n / 10)) (k := [dc n]) (by simp; omega)
   have e : ((n / 10 : Nat) : Int) = (n : Int) / 10 := by omega
   rw [e] at hc
   rw [vK h1]
   simp -implicitDefEqProofs [ac40, h1', w0, w1, w2, w3]
   refine aH (hc) (by simp) ?_
   simp -implicitDefEqProofs [hadd]
theorem GO (l : List (List UInt8)) (n : List UInt8) (hl : l.length < 2 ^ 60) : ∃ r : Int, (0 ≤ r ↔ a8 l n = true) ∧ Pure Tryz.prog 52 [.sl (em aI l), Tx n] (I r) := by
 have key : ∀ (k : List (List UInt8)) (i : Nat), ∃ r : Int, (0 ≤ r ↔ a8 k n = true) ∧ ((a8 k n = true → ∃ j : Nat, r = ((i + j : Nat) : Int) ∧ k[j]? = some n ∧ ∀ m, m < j → k[m]? ≠ some n) ∧ (a8 k n = false → r = -1)) := by
  intro k
  induction k with
  | nil => intro i; exact ⟨-1, by simp [a8], by simp [a8], fun _ => rfl⟩
  | cons x xs ih =>
   intro i
   by_cases h : x = n
   ·exact ⟨i, by simp [a8, h], fun _ => ⟨0, by simp, by simp [h], fun m hm => by omega⟩, fun g => by simp [a8, h] at g⟩
   ·obtain ⟨r, h1, h2, h3⟩ := ih (i + 1)
    refine ⟨r, by simp [a8, h, h1], fun g => ?_, fun g => h3 (by simpa [a8, h] using g)⟩
    obtain ⟨j, e1, e2, e3⟩ := h2 (by simpa [a8, h] using g)
    refine ⟨j + 1, by rw [e1]; omega, by simpa using e2, fun m hm => ?_⟩
    cases m with
    | zero => simp [h]
    | succ m => simpa using e3 m (by omega)
 obtain ⟨r, hr, h1, h2⟩ := key l 0
 refine ⟨r, hr, ?_⟩
 refine fi52.pu (by simp) ?_
 simp -implicitDefEqProofs [ac52]
 refine lpG cf52 lb52_0 [4, 5, 8] (α := Nat) (fun s _ => [(8, I s)]) (fun s _ => []) (fun s k => s ≤ l.length ∧ ∀ m, m < s → l[m]? ≠ some n) (fun s => l.length - s) 0 ⟨by simp, fun m hm => by omega⟩ (by simp) (by simp) ?_
 rintro i k ⟨hi, hn⟩
 by_cases hlt : i < l.length
 ·have hlti : (i : Int) < (l.length : Int) := by omega
  have w1 := aX (x := (i : Int) + 1) (by omega) (by omega)
  obtain ⟨x, hx⟩ : ∃ x, l[i] = x := ⟨_, rfl⟩
  have hx2 : l[i]? = some x := by rw [List.getElem?_eq_getElem hlt, hx]
  by_cases hg : n = x
  ·have hh : a8 l n = true := (i_ l n).2 (List.mem_iff_getElem?.2 ⟨i, by rw [hx2, hg]⟩)
   obtain ⟨j, e1, e2, e3⟩ := h1 hh
   have hij : i = j := by
    rcases Nat.lt_trichotomy i j with h | h | h
    ·exact absurd (by rw [hx2, hg]) (e3 i h)
    ·exact h
    ·exact absurd e2 (hn j h)
   have hri : r = i := by omega
   simp -implicitDefEqProofs [lb52_0, hlti, hlt, hx, hg, hri]
  ·simp -implicitDefEqProofs [lb52_0, hlti, hlt, hx, hg, w1]
   refine aK (i + 1) ⟨hlt, fun m hm => ?_⟩ (by omega) (by simp) (by simp)
   by_cases e : m = i
   ·subst e; rw [hx2]; simp; exact fun e => hg e.symm
   ·exact hn m (by omega)
 ·have hr1 : r = -1 := h2 (by
   cases hh : a8 l n with
   | false => rfl
   | true =>
    obtain ⟨j, e1, e2, e3⟩ := h1 hh
    exact absurd e2 (hn j (by have := (List.getElem?_eq_some_iff.1 e2).1; omega)))
  have hlti : ¬ (i : Int) < (l.length : Int) := by omega
  simp -implicitDefEqProofs [lb52_0, hlti, hlt, hr1]
theorem AN (l : List (List UInt8)) (n : List UInt8) (hl : l.length < 2 ^ 60) : Pure Tryz.prog 38 [.sl (em aI l), Tx n] (.pl (.bool (a8 l n))) := by
 obtain ⟨r, hr, hc⟩ := GO l n hl
 refine fi38.pu (by simp) ?_
 simp -implicitDefEqProofs [ac38]
 refine aH hc (by simp) ?_
 have e : decide (0 ≤ r) = a8 l n := by
  rw [Bool.eq_iff_iff, ← hr]; simp
 simp -implicitDefEqProofs [e]
def AF (B : Nat) : Prop := ∀ k : Nat, k ≤ B → Pure Tryz.prog 37 [.pl (.int .i64 k)] (Tx (Lib.decDigits k))
theorem xJ : AF 99 := fun k hk => zL k (by omega)
theorem zC (taken : List (List UInt8)) (n : Int) (ht : taken.length ≤ 2 ^ 43) (hIt : n ≤ 4096 → AF (n.toNat + taken.length)) {mem : Mem} {nx : Nat} {K : KD}
  (h2 : ¬ (0 ≤ n ∧ n ≤ 4096) → ∀ n', nx ≤ n' → K (.tup [.pl (.slice none 0 0), I 2]) mem n')
  (h1 : 0 ≤ n → n ≤ 4096 → ∀ id v n', nx ≤ id → id < n' → K (.tup [.osl id v 0 (dX taken n.toNat).length, I 0]) ((id, .arr v 1 (em aI (dX taken n.toNat))) :: mem) n') :
  bH Tryz.prog 14 [.sl (em aI taken), I n] mem nx K := by
 refine fi14.ct (by simp) fun hfr => ?_
 by_cases g1 : n < 0
 ·simp -implicitDefEqProofs [ac14, g1]
  exact ⟨_, aG _, h2 (by omega) _ (by omega)⟩
 ·by_cases g2 : 4096 < n
  ·simp -implicitDefEqProofs [ac14, g1, g2]
   exact ⟨_, aG _, h2 (by omega) _ (by omega)⟩
  ·simp -implicitDefEqProofs [ac14, g1, g2]
   have h1 := h1 (by omega) (by omega)
   have hIt := hIt (by omega)
   obtain ⟨N, rfl⟩ : ∃ N : Nat, n = N := ⟨n.toNat, by omega⟩
   simp only [Int.toNat_natCast] at h1 hIt
   unfold dX at h1
   generalize hR : eF taken N (N + taken.length + 1) 1 [] = R at *
   refine dO (j := 6) (k := 1) rfl (.inl rfl) ?_
   have hid : nx ≤ nx + 2 + 6 + 1 + 1 := by omega
   generalize nx + 2 + 6 + 1 + 1 = id at *
   refine lpG cf14 lb14_0 [6, 7, 8] (α := Nat × Nat × List (List UInt8)) (fun s _ => [(6, .osl id s.2.1 0 s.2.2.length), (7, I s.1)]) (fun s _ => (id, .arr s.2.1 1 (em aI s.2.2)) :: mem) (fun s k => id < k ∧ 1 ≤ s.1 ∧ Fr6 taken N s.1 s.2.2 ∧ eF taken N (N + taken.length + 2 - s.1) s.1 s.2.2 = R) (fun s => N + taken.length + 2 - s.1) (1, 0, []) ⟨by omega, by simp, Fr6.start taken N, hR⟩ (by simp [upd]) (by simp [em]) ?_
   rintro ⟨i, v, out⟩ k ⟨hk, hi, hfr6, hr⟩
   simp only at hk hi hfr6 hr
   have hbd := hfr6.bound
   have hle := hfr6.le
   by_cases hlt : out.length < N
   ·have hlti : (out.length : Int) < (N : Int) := by omega
    have hst := hfr6.step hlt
    obtain ⟨f, hf⟩ : ∃ f, N + taken.length + 2 - i = f + 1 := ⟨N + taken.length + 1 - i, by omega⟩
    have hf2 : N + taken.length + 2 - (i + 1) = f := by omega
    rw [hf] at hr
    unfold eF at hr
    rw [if_pos hlt] at hr
    have hc := hIt i (by omega)
    have hdl := xD i
    have hadd := eG (P := Tryz.prog) (ty := 9) (l := [116]) (k := Lib.decDigits i) (by simp; omega)
    have hcon := AN taken (nm i) (by omega)
    have w1 := aX (x := (i : Int) + 1) (by omega) (by omega)
    have hnm : ([116] ++ Lib.decDigits i : List UInt8) = nm i := rfl
    rw [hnm] at hadd
    simp -implicitDefEqProofs [lb14_0, hlti]
    refine aH (hc) (by simp) ?_
    simp -implicitDefEqProofs [hadd]
    refine aH hcon (by simp) ?_
    by_cases hh : a8 taken (nm i) = true
    ·rw [if_pos hh] at hr hst
     simp -implicitDefEqProofs [hh, w1]
     exact aK (i + 1, v, out) ⟨by omega, by simp only; omega, hst, by rw [hf2]; exact hr⟩ (by simp only; omega) (by simp) (aL _)
    ·rw [if_neg hh] at hr hst
     have hh2 : a8 taken (nm i) = false := by simpa using hh
     have b1 : (out.length + 1) * 16 ≤ 3 * 2 ^ 46 := by omega
     have hap : em aI out ++ [[Tx (nm i)]] = em aI (out ++ [nm i]) := fL (enc := aI) (x := nm i)
     simp -implicitDefEqProofs [hh2, w1, b1, hap]
     exact aK (i + 1, v + 1, out ++ [nm i]) ⟨by omega, by simp only; omega, hst, by rw [hf2]; exact hr⟩ (by simp only; omega) (by simp) (aL _)
   ·have hlti : ¬ (out.length : Int) < (N : Int) := by omega
    have hres : out = R := by
     rw [← hr]
     cases N + taken.length + 2 - i with
     | zero => rfl
     | succ f => unfold eF; rw [if_neg hlt]
    subst hres
    simp -implicitDefEqProofs [lb14_0, hlti]
    exact ⟨_, aG _, h1 id v _ (by omega) (by omega)⟩
theorem zW (taken : List (List UInt8)) (n : Int) (ht : taken.length ≤ 2 ^ 43) : Pure Tryz.prog 16 [.sl (em aI taken), I n] (if 0 ≤ n ∧ n ≤ 4096 then .tup [.sl (em aI (dX taken n.toNat)), I 0] else .tup [.sl (em aI []), I 2]) := by
 refine fi16.pu (by simp) ?_
 by_cases g1 : n < 0
 ·rw [if_neg (by omega)]
  simp -implicitDefEqProofs [ac16, g1]
 ·by_cases g2 : 4096 < n
  ·rw [if_neg (by omega)]
   simp -implicitDefEqProofs [ac16, g1, g2]
  ·rw [if_pos (by omega)]
   simp -implicitDefEqProofs [ac16, g1, g2]
   obtain ⟨N, rfl⟩ : ∃ N : Nat, n = N := ⟨n.toNat, by omega⟩
   simp only [Int.toNat_natCast]
   unfold dX
   generalize hR : eF taken N (N + taken.length + 1) 1 [] = R at *
   refine dO (j := 6) (k := 1) rfl (.inl rfl) ?_
   refine lpG cf16 lb16_0 [6, 7, 8] (α := Nat × Nat × List (List UInt8)) (fun s _ => [(6, .osl 10 s.2.1 0 s.2.2.length), (7, I s.1)]) (fun s _ => [(10, .arr s.2.1 1 (em aI s.2.2))]) (fun s k => 10 < k ∧ 1 ≤ s.1 ∧ Fr6 taken N s.1 s.2.2 ∧ eF taken N (N + taken.length + 2 - s.1) s.1 s.2.2 = R) (fun s => N + taken.length + 2 - s.1) (1, 0, []) ⟨by omega, by simp, Fr6.start taken N, hR⟩ (by simp [upd]) (by simp [em]) ?_
   rintro ⟨i, v, out⟩ k ⟨hk, hi, hfr6, hr⟩
   simp only at hk hi hfr6 hr
   have hbd := hfr6.bound
   have hle := hfr6.le
   by_cases hlt : out.length < N
   ·have hlti : (out.length : Int) < (N : Int) := by omega
    have hst := hfr6.step hlt
    obtain ⟨f, hf⟩ : ∃ f, N + taken.length + 2 - i = f + 1 := ⟨N + taken.length + 1 - i, by omega⟩
    have hf2 : N + taken.length + 2 - (i + 1) = f := by omega
    rw [hf] at hr
    unfold eF at hr
    rw [if_pos hlt] at hr
    have hc := BI i (by omega)
    have hdl := xD i
    have hadd := eG (P := Tryz.prog) (ty := 9) (l := [116]) (k := Lib.decDigits i) (by simp; omega)
    have hcon := uV taken (nm i) (by omega)
    have w1 := aX (x := (i : Int) + 1) (by omega) (by omega)
    have hnm : ([116] ++ Lib.decDigits i : List UInt8) = nm i := rfl
    rw [hnm] at hadd
    simp -implicitDefEqProofs [lb16_0, hlti]
    refine aH (hc) (by simp) ?_
    simp -implicitDefEqProofs [hadd]
    refine aH hcon (by simp) ?_
    by_cases hh : a8 taken (nm i) = true
    ·rw [if_pos hh] at hr hst
     simp -implicitDefEqProofs [hh, w1]
     exact aK (i + 1, v, out) ⟨by omega, by simp only; omega, hst, by rw [hf2]; exact hr⟩ (by simp only; omega) (by simp) (aL _)
    ·rw [if_neg hh] at hr hst
     have hh2 : a8 taken (nm i) = false := by simpa using hh
     have b1 : (out.length + 1) * 16 ≤ 3 * 2 ^ 46 := by omega
     have hap : em aI out ++ [[Tx (nm i)]] = em aI (out ++ [nm i]) := fL (enc := aI) (x := nm i)
     simp -implicitDefEqProofs [hh2, w1, b1, hap]
     exact aK (i + 1, v + 1, out ++ [nm i]) ⟨by omega, by simp only; omega, hst, by rw [hf2]; exact hr⟩ (by simp only; omega) (by simp) (aL _)
   ·have hlti : ¬ (out.length : Int) < (N : Int) := by omega
    have hres : out = R := by
     rw [← hr]
     cases N + taken.length + 2 - i with
     | zero => rfl
     | succ f => unfold eF; rw [if_neg hlt]
    subst hres
    simp -implicitDefEqProofs [lb16_0, hlti, frz, look]
    try rw [List.take_of_length_le (by simp)]
set_option maxRecDepth 1000000
set_option maxHeartbeats 0
noncomputable def cf21 : Cfg := ⟨Tryz.prog, 27, [0, 1, 2, 3, 5, 7, 8, 9, 19, 20], []⟩
noncomputable def lb21_0 : AC :=
 .seq (.ifr [JO 10 (.bin .lss 3 (.g 9) (.g 8))] (.t 10) .skip (.exit 0)) (.seq (.block 1 (.seq (.reg [JO 11 (.ia 7 (.g 7) (.g 9)), JE 12 7 11, JP 5 (.al [JV, JU, JU, JV, .complex .f64 0 0, JW, JV]), JQ (.st 7 (.g 5) (.t 12))]) (.reg [JA 13 3, JF 14 7 5, JO 15 (.pc (.f 21) [.t 14]), JO 16 (.bi .max [.t 13, .t 15]), JB 3 16]))) (.reg [JO 17 (.bin .add 3 (.g 9) (JT 1)), JB 9 17]))
noncomputable def ac21 : AC :=
 (.seq (.reg [JN 1 0, JI 2 0]) (.seq (.reg [JI 3 0]) (.seq (.seq (.reg [JG 6 5 1, JP 7 (.ld false 1 (.t 6)), JP 8 (.len false (.g 7)), JI 9 0]) (.block 0 (.loop lb21_0))) (.seq (.seq (.reg [JG 18 0 1, JP 19 (.ld false 1 (.t 18))]) (.block 2 (.seq (.ifr [JO 21 (.bin .eql 39 (.g 19) (JT 21)), JB 20 21] (.g 20) .skip (.ifr [JO 22 (.bin .eql 39 (.g 19) (JT 22)), JB 20 22] (.g 20) .skip (.reg [JO 23 (.bin .eql 39 (.g 19) (JT 20)), JB 20 23]))) (.cond (.g 20) (.reg [JA 24 3, JO 25 (.bin .add 3 (.t 24) (JT 1)), JB 3 25]) .skip)))) (.seq (.reg [JA 26 3, JB 2 26]) .ret)))))
theorem fi21 : FI Tryz.prog 21 cf21 ac21 [.t 2] [0, 1, 2, 3, 5, 7, 8, 9, 19, 20] 27 := FI_of (c := Tryz.f21.body.getD .skip) Tryz.func21 (by kernel_rfl) (by rfl) (by rfl) (by kernel_rfl) (by kernel_rfl) rfl rfl rfl
@[simp] theorem cfP21 : cf21.P = Tryz.prog := (rfl)
noncomputable def cf36 : Cfg := ⟨Tryz.prog, 38, [0, 1, 2, 3, 4, 5], []⟩
@[simp] theorem cfP36 : cf36.P = Tryz.prog := (rfl)
set_option maxRecDepth 100000
set_option maxHeartbeats 4000000
mutual
def gX : Ex → Nat
 | .mk op _ _ _ _ args _ => e6 args + (if op = 21 ∨ op = 22 ∨ op = 20 then 1 else 0)
def e6 : List Ex → Nat
 | [] => 0
 | x :: xs => max (gX x) (e6 xs)
end
mutual
theorem B2 : ∀ e : Ex, gX e ≤ size e
 | .mk op n tl ty z args p => by
  have := mI args
  unfold gX size
  split <;> omega
theorem mI : ∀ l : List Ex, e6 l ≤ aU l
 | [] => by simp [e6]
 | x :: xs => by
  have h1 := B2 x
  have h2 := mI xs
  unfold e6 aU; omega
end
theorem t_ : ∀ {l : List Ex} {x : Ex}, x ∈ l → size x ≤ aU l ∧ gX x ≤ e6 l
 | y :: ys, x, h => by
  unfold aU e6
  rcases List.mem_cons.1 h with rfl | h
  ·omega
  ·have := t_ h; omega
theorem AJ : ∀ (l : List Ex), l.length ≤ aU l
 | [] => by simp [aU]
 | y :: ys => by
  have := AJ ys
  have h : 1 ≤ size y := by cases y; unfold size; omega
  unfold aU; simp only [List.length_cons]; omega
def uT (e : Ex) : Prop := size e ≤ 2 ^ 40 → Pure Tryz.prog 21 [.agg [I e.op, Tx e.name, Tx e.tail, I e.type, CX e.num.re e.num.im, .sl (em aR e.args), I e.at']] (I (gX e))
theorem zU (op : Int) (n tl : List UInt8) (ty : Int) (z : Cx) (args : List Ex) (p : Int) (ih : ∀ x ∈ args, uT x) : uT (.mk op n tl ty z args p) := by
 intro hz
 have hzs : aU args ≤ 2 ^ 40 := by unfold size at hz; omega
 have hlen := AJ args
 have hb := mI args
 have ih1 : ∀ x ∈ args, Pure Tryz.prog 21 [.agg [I x.op, Tx x.name, Tx x.tail, I x.type, CX x.num.re x.num.im, .sl (em aR x.args), I x.at']] (I (gX x)) := fun x hx => ih x hx (Nat.le_trans (t_ hx).1 hzs)
 have hop : op = 21 ∨ op = 22 ∨ op = 20 ∨ (op ≠ 21 ∧ op ≠ 22 ∧ op ≠ 20) := by omega
 have w1 : IntKind.i64.wrap ((e6 args : Int) + 1) = e6 args + 1 := aX (by omega) (by omega)
 show Pure Tryz.prog 21 [.agg [I op, Tx n, Tx tl, I ty, CX z.re z.im, .sl (em aR args), I p]] (I (gX (.mk op n tl ty z args p)))
 generalize hR : e6 args = R at *
 refine fi21.pu (by simp) ?_
 simp -implicitDefEqProofs [ac21]
 refine lpG cf21 lb21_0 [3, 5, 9] (α := Nat × Nat) (fun s _ => [(3, I s.2), (5, .top), (9, I s.1)]) (fun s _ => []) (fun s k => s.1 ≤ args.length ∧ max s.2 (e6 (args.drop s.1)) = R) (fun s => args.length - s.1) (0, 0) ⟨by simp, by simp [hR]⟩ (by simp) (by simp) ?_
 rintro ⟨i, m⟩ k ⟨hi, hr⟩
 simp only at hi hr
 by_cases hlt : i < args.length
 ·have wi := aX (x := (i : Int) + 1) (by omega) (by omega)
  rw [List.drop_eq_getElem_cons hlt] at hr
  unfold e6 at hr
  have hx := ih1 args[i] (List.getElem_mem hlt)
  obtain ⟨x, hxe⟩ : ∃ x, args[i] = x := ⟨_, rfl⟩
  rw [hxe] at hx hr
  simp -implicitDefEqProofs [lb21_0, hlt, hxe]
  refine aH hx (by simp) ?_
  have hmx : ((max m (gX x) : Nat) : Int) = max (m : Int) (gX x : Int) := by omega
  simp -implicitDefEqProofs [wi]
  exact aK (i + 1, max m (gX x)) ⟨hlt, by simp only; omega⟩ (by simp only; omega) (by simp [hmx]) (by simp)
 ·have hil : i = args.length := by omega
  subst hil
  rw [List.drop_length] at hr
  simp only [e6, Nat.max_zero] at hr
  subst hr
  unfold gX
  rw [hR]
  rcases hop with rfl | rfl | rfl | ⟨o1, o2, o3⟩
  ·simp -implicitDefEqProofs [lb21_0, w1]
  ·simp -implicitDefEqProofs [lb21_0, w1]
  ·simp -implicitDefEqProofs [lb21_0, w1]
  ·simp -implicitDefEqProofs [lb21_0, o1, o2, o3]
mutual
theorem yC : ∀ e : Ex, uT e
 | .mk op n tl ty z args p => zU op n tl ty z args p (wG args)
theorem wG : ∀ l : List Ex, ∀ x ∈ l, uT x
 | [], x, h => by simp at h
 | y :: ys, x, h => by
  rcases List.mem_cons.1 h with e | h
  ·rw [e]; exact yC y
  ·exact wG ys x h
end
theorem C2 (l : List (List UInt8)) (nx : Nat) : NT l [] nx (fun d mem _ => frz mem 100 d = some (.sl (em aI l))) :=
 ⟨fun h n' _ => by subst h; simp [frz, em], fun h id n' _ _ => by simp [frz, look, List.take_of_length_le]⟩
theorem A9 (e : Ex) (hz : size e ≤ 2 ^ 40) (hb : Nb e) : Pure Tryz.prog 15 [.agg (aR e)] (.sl (em aI (fC e))) :=
 jY (by simp [aA]) (C6 e hz hb (C2 _ _))
theorem xE (f : Fn) (hz : size f.body ≤ 2 ^ 40) (hp : f.params.length ≤ 2 ^ 40) (hb : NbFn f) : Pure Tryz.prog 11 [zZ f] (.sl (em aI (eZ f))) :=
 jY (by simp) (x4 f hz hp hb (C2 _ _))
theorem FE (taken : List (List UInt8)) (n : Int) (ht : taken.length ≤ 2 ^ 43) (hIt : n ≤ 4096 → AF (n.toNat + taken.length)) : Pure Tryz.prog 14 [.sl (em aI taken), I n] (if 0 ≤ n ∧ n ≤ 4096 then .tup [.sl (em aI (dX taken n.toNat)), I 0] else .tup [.sl (em aI []), I 2]) := by
 refine jY (by simp) (zC taken n ht hIt (fun h n' _ => ?_) (fun h1 h2 id v n' _ _ => ?_))
 ·rw [if_neg h]; simp [frz, dE, em]
 ·rw [if_pos ⟨h1, h2⟩]; simp [frz, dE, look, List.take_of_length_le]
theorem vO {L L' : List (List UInt8)} (h1 : Srt L') (h2 : L'.Nodup) (h3 : ∀ x, x ∈ L ↔ x ∈ L') : c_ L [] = L' := by
 obtain ⟨a, b⟩ := mF L [] (by simp) (by simp)
 exact C1 a h1 b h2 fun x => by rw [qH, ← h3 x]; simp
def s61 : List UInt8 := [102, 40, 120, 32, 78, 44, 120, 32, 76, 41, 58, 78, 61, 122, 43, 103, 40, 41, 59]
def s62 : List UInt8 := [102, 40, 120, 32, 78, 41, 58, 78, 61, 108, 101, 116, 32, 121, 32, 78, 61, 104, 43, 120, 32, 105, 110, 32, 49, 43, 121, 59]
def q61 : List Fn × Rd := (c7 40 [] (rd0 s61 32768 32768 32768 32768)).getD ([], rd0 s61 32768 32768 32768 32768)
def q62 : List Fn × Rd := (c7 40 [] (rd0 s62 32768 32768 32768 32768)).getD ([], rd0 s62 32768 32768 32768 32768)
theorem p61 : c7 40 [] (rd0 s61 32768 32768 32768 32768) = some (q61.1, q61.2) := uE (d := ([], rd0 s61 32768 32768 32768 32768)) (by decide)
theorem p62 : c7 40 [] (rd0 s62 32768 32768 32768 32768) = some (q62.1, q62.2) := uE (d := ([], rd0 s62 32768 32768 32768 32768)) (by decide)
theorem read61 : oA s61 q61.1 0 0 := yL s61 (by decide) (by decide) (n := 40) (by decide) p61 (by decide) (by decide)
theorem read62 : oA s62 q62.1 0 0 := yL s62 (by decide) (by decide) (n := 40) (by decide) p62 (by decide) (by decide)
theorem sQ {t : List UInt8} {L : List Fn} {w p : Int} (h : oA t L w p) : Pure Tryz.prog 7 [.sl (em dB t)] (.tup [.agg [.sl (em a_ L)], .pl (.bool (decide (w = 0)))]) := by
 refine fi7.pu (by simp) ?_
 simp -implicitDefEqProofs [ac7]
 refine aH (wide_c) (by simp) ?_
 simp -implicitDefEqProofs
 refine aH (h.1) (by simp) ?_
 simp -implicitDefEqProofs
theorem HL : kU q61.1 = (30, 6) := by decide
theorem len61 : q61.1.length = 1 := by decide
theorem len62 : q62.1.length = 1 := by decide
theorem sz61 : ∀ f ∈ q61.1, size f.body ≤ 2 ^ 40 ∧ f.params.length ≤ 2 ^ 40 := by decide
def f62 : Fn := q62.1[0]?.getD default
theorem BU : bP (bW f62.body []) = [[104], [120]] := by decide
theorem all62 : kZ f62 = [[102], [120], [121], [104], [120], [121]] := by decide
theorem CF : size f62.body = 7 := by decide
theorem nest62 : gX f62.body = 1 := by decide
theorem par62 : f62.params.length = 1 := by decide
set_option maxHeartbeats 8000000
theorem AP {α : Type} {a b : List α} {i : Nat} (h1 : i < a.length) (h2 : i < b.length) (h : a.take i = b.take i) (he : a[i]? = b[i]?) : a.take (i + 1) = b.take (i + 1) := by
 rw [List.take_add_one, List.take_add_one, h, he]
theorem jA (a b : List (List UInt8)) (ha : a.length < 2 ^ 60) : Pure Tryz.prog 10 [.sl (em aI a), .sl (em aI b)] (.pl (.bool (decide (a = b)))) := by
 refine fi10.pu (by simp) ?_
 by_cases hl : a.length = b.length
 ·have hl2 : (a.length : Int) = (b.length : Int) := by omega
  simp -implicitDefEqProofs [ac10, hl2]
  generalize hR : decide (a = b) = R
  refine lpG cf10 lb10_0 [4, 5] (α := Nat) (fun s _ => [(4, .top), (5, I s)]) (fun s _ => []) (fun s k => s ≤ a.length ∧ a.take s = b.take s) (fun s => a.length - s) 0 ⟨by simp, by simp⟩ (by simp) (by simp) ?_
  rintro i k ⟨hi, hc⟩
  by_cases hlt : i < a.length
  ·have hlt2 : i < b.length := by omega
   have hlti : (i : Int) < (b.length : Int) := by omega
   have w1 := aX (x := (i : Int) + 1) (by omega) (by omega)
   obtain ⟨p, hp⟩ : ∃ p, a[i] = p := ⟨_, rfl⟩
   obtain ⟨q, hq⟩ : ∃ q, b[i] = q := ⟨_, rfl⟩
   by_cases he : p = q
   ·simp -implicitDefEqProofs [lb10_0, hlt, hlt2, hlti, hl2, hp, hq, he, w1]
    exact aK (i + 1) ⟨hlt, AP hlt hlt2 hc (by rw [List.getElem?_eq_getElem hlt, List.getElem?_eq_getElem hlt2, hp, hq, he])⟩ (by omega) (by simp) (by simp)
   ·have hno : R = false := by
     rw [← hR, decide_eq_false_iff_not]
     rintro rfl
     rw [hp] at hq
     exact he hq
    subst hno
    simp -implicitDefEqProofs [lb10_0, hlt, hlt2, hlti, hl2, hp, hq, he]
  ·have hil : i = a.length := by omega
   subst hil
   rw [List.take_length, hl, List.take_length] at hc
   have hyes : R = true := by rw [← hR, decide_eq_true_eq]; exact hc
   subst hyes
   have hlt2 : ¬ a.length < b.length := by omega
   simp -implicitDefEqProofs [lb10_0, hlt, hlt2, hl2]
 ·have hl2 : ¬ (a.length : Int) = (b.length : Int) := by omega
  have e : decide (a = b) = false := by rw [decide_eq_false_iff_not]; exact fun h => hl (by rw [h])
  rw [e]
  simp -implicitDefEqProofs [ac10, hl2]
theorem HK : fC f62.body = [[104], [120]] := by
 unfold fC; rw [BU]
 exact vO (by decide) (by decide) (fun x => Iff.rfl)
theorem G2 : eZ f62 = [[102], [104], [120], [121]] := by
 unfold eZ; rw [all62]
 refine vO (by decide) (by decide) (fun x => ?_)
 simp only [List.mem_cons, List.not_mem_nil, or_false]
 constructor
 ·rintro (h | h | h | h | h | h) <;> simp [h]
 ·rintro (h | h | h | h) <;> simp [h]
theorem HE : dX [[116, 50]] 2 = [[116, 49], [116, 51]] := by
 have d1 : Lib.decDigits 1 = [49] := by rw [iW (by decide)]; decide
 have d2 : Lib.decDigits 2 = [50] := by rw [iW (by decide)]; decide
 have d3 : Lib.decDigits 3 = [51] := by rw [iW (by decide)]; decide
 simp [dX, eF, nm, d1, d2, d3, a8]
theorem lit61 : em dB s61 = [[By 102], [By 40], [By 120], [By 32], [By 78], [By 44], [By 120], [By 32], [By 76], [By 41], [By 58], [By 78], [By 61], [By 122], [By 43], [By 103], [By 40], [By 41], [By 59]] := rfl
theorem lit62 : em dB s62 = [[By 102], [By 40], [By 120], [By 32], [By 78], [By 41], [By 58], [By 78], [By 61], [By 108], [By 101], [By 116], [By 32], [By 121], [By 32], [By 78], [By 61], [By 104], [By 43], [By 120], [By 32], [By 105], [By 110], [By 32], [By 49], [By 43], [By 121], [By 59]] := rfl
theorem sz62 : size f62.body ≤ 2 ^ 40 := by rw [CF]; decide
theorem nb62 : NbFn f62 := by
 have h : NbF q62.1 := Run.nb (t := s62) (.inr ⟨40, _, _, p62, rfl, by decide⟩)
 have hl2 : 0 < q62.1.length := by rw [len62]; decide
 refine h f62 ?_
 have e : f62 = q62.1[0] := by unfold f62; rw [List.getElem?_eq_getElem hl2]; rfl
 rw [e]; exact List.getElem_mem hl2
theorem u2 : Pure Tryz.prog 6 [] (.pl (.bool true)) := by
 refine fi6.pu (by simp) ?_
 have h1 := sQ read61
 have h2 := sQ read62
 have hc := y7 q61.1 (by rw [len61]; decide) sz61
 rw [HL] at hc
 have hf := A9 f62.body sz62 nb62.body
 have hu := Uses_c f62.body [120] sz62
 have hn := xE f62 sz62 (by rw [par62]; decide) nb62
 have hs := CK f62.body sz62
 have hne := yC f62.body sz62
 have hfr := FE [[116, 50]] 2 (by decide) (fun _ k hk => xJ k (Nat.le_trans hk (by decide)))
 have e2 : (2 : Int).toNat = 2 := rfl
 rw [if_pos (by decide), e2, HE] at hfr
 rw [HK] at hf
 rw [BU] at hu
 rw [G2] at hn
 rw [CF] at hs
 rw [nest62] at hne
 have hc1 : (([[104], [120]] : List (List UInt8)).count [120] : Int) = 1 := by decide
 rw [hc1] at hu
 have s1 := jA [[104], [120]] [[104], [120]] (by decide)
 have s2 := jA [[102], [104], [120], [121]] [[102], [104], [120], [121]] (by decide)
 have s3 := jA [[116, 49], [116, 51]] [[116, 49], [116, 51]] (by decide)
 have hl2 : 0 < q62.1.length := by rw [len62]; decide
 have hf1 : (q62.1[0]?.getD default) = f62 := rfl
 have hf2 : q62.1[0] = f62 := by unfold f62; rw [List.getElem?_eq_getElem hl2]; rfl
 simp only [aA] at hf hu hs
 generalize f62 = F at *
 generalize q61.1 = L1 at *
 generalize q62.1 = L2 at *
 rw [lit61] at h1
 rw [lit62] at h2
 have hd0 : decide ((0 : Int) = 0) = true := rfl
 rw [hd0] at h1 h2
 have l1 : em aI [[104], [120]] = [[Tx [104]], [Tx [120]]] := rfl
 have l2 : em aI [[102], [104], [120], [121]] = [[Tx [102]], [Tx [104]], [Tx [120]], [Tx [121]]] := rfl
 have l3 : em aI [[116, 49], [116, 51]] = [[Tx [116, 49]], [Tx [116, 51]]] := rfl
 have l4 : em aI [[116, 50]] = [[Tx [116, 50]]] := rfl
 have dt : ∀ {p : Prop} [Decidable p], p → decide p = true := fun h => decide_eq_true h
 rw [dt rfl, l1] at s1
 rw [dt rfl, l2] at s2
 rw [dt rfl, l3] at s3
 rw [l1] at hf
 rw [l2] at hn
 rw [l3, l4] at hfr
 simp -implicitDefEqProofs [ac6]
 refine aH h1 (by simp) ?_
 simp -implicitDefEqProofs
 refine aH h2 (by simp) ?_
 simp -implicitDefEqProofs [hf1, hf2, hl2]
 refine aH (hfr) (by simp) ?_
 simp -implicitDefEqProofs [hf1, hf2, hl2]
 refine aH (hc) (by simp) ?_
 simp -implicitDefEqProofs [FX, hf1, hf2, hl2]
 refine aH (hf) (by simp) ?_
 simp -implicitDefEqProofs [hf1, hf2, hl2]
 refine aH (s1) (by simp) ?_
 simp -implicitDefEqProofs [hf1, hf2, hl2]
 refine aH (hu) (by simp) ?_
 simp -implicitDefEqProofs [hf1, hf2, hl2]
 refine aH (hn) (by simp) ?_
 simp -implicitDefEqProofs [hf1, hf2, hl2]
 refine aH (s2) (by simp) ?_
 simp -implicitDefEqProofs [hf1, hf2, hl2]
 refine aH (hs) (by simp) ?_
 simp -implicitDefEqProofs [hf1, hf2, hl2]
 refine aH (hne) (by simp) ?_
 simp -implicitDefEqProofs [hf1, hf2, hl2]
 refine aH (s3) (by simp) ?_
 simp -implicitDefEqProofs
set_option maxHeartbeats 4000000
theorem seenN (e : Ex) (hz : size e ≤ 2 ^ 37) : Pure Tryz.prog 42 [.agg (aR e), .pl (.slice none 0 0)] (.sl (em gN (bW e []))) :=
 D2 (uI rLe.refl (uI HD EV)) (vF e (N := []) (by simp; omega))
theorem zR (T : List Sn) (i : Nat) (h : i < T.length) : bP (T.take (i + 1)) = bP (T.take i) ++ (if T[i].2 = true then [T[i].1.name] else []) := by
 rw [List.take_add_one, hO, List.getElem?_eq_getElem h]
 simp [bP]
theorem BE (e : Ex) (hz : size e ≤ 2 ^ 37) : Pure Tryz.prog 17 [.agg (aR e)] (.sl (em aI (fC e))) := by
 have hs := seenN e hz
 have hl := e9 e []
 unfold fC
 simp only [aA] at hs ⊢
 refine fi17.pu (by simp) ?_
 simp -implicitDefEqProofs [ac17]
 refine aH hs (by simp) ?_
 simp -implicitDefEqProofs
 generalize bW e [] = T at *
 have hfl := f_ T
 have hsorted := xB (bP T) (by omega)
 generalize hR : bP T = R at *
 refine dO (j := 3) (k := 1) rfl (.inl rfl) ?_
 refine lW ?_
 refine lpG cf17 lb17_0 [3, 5] (α := Nat × Nat × List (List UInt8)) (fun s _ => [(3, .osl 7 s.2.1 0 s.2.2.length), (5, I s.1)]) (fun s _ => [(7, .arr s.2.1 1 (em aI s.2.2))]) (fun s k => 7 < k ∧ s.1 ≤ T.length ∧ s.2.2 = bP (T.take s.1)) (fun s => T.length - s.1) (0, 0, []) ⟨by omega, by simp, by simp [bP]⟩ (by simp [upd]) (by simp [em]) ?_
 rintro ⟨i, v, l⟩ k ⟨hk, hi, hr⟩
 simp only at hk hi hr
 have hll : l.length ≤ T.length := by
  rw [hr]; have := f_ (T.take i); rw [List.length_take] at this; omega
 by_cases hlt : i < T.length
 ·have hlti : (i : Int) < (T.length : Int) := by omega
  have w1 := aX (x := (i : Int) + 1) (by omega) (by omega)
  have hnx := zR T i hlt
  obtain ⟨y, hy⟩ : ∃ y, T[i] = y := ⟨_, rfl⟩
  rw [hy, ← hr] at hnx
  have b1 : (l.length + 1) * 16 ≤ 3 * 2 ^ 46 := by omega
  have hap : em aI l ++ [[Tx y.1.name]] = em aI (l ++ [y.1.name]) := fL (enc := aI) (x := y.1.name)
  cases hy2 : y.2 with
  | true =>
   rw [hy2, if_pos rfl] at hnx
   simp -implicitDefEqProofs [lb17_0, hlti, hlt, hy, hy2, b1, hap, w1]
   exact aK (i + 1, v + 1, l ++ [y.1.name]) ⟨by omega, hlt, hnx.symm⟩ (by simp only; omega) (by simp) (aL _)
  | false =>
   rw [hy2, if_neg (by simp), List.append_nil] at hnx
   simp -implicitDefEqProofs [lb17_0, hlti, hlt, hy, hy2, w1]
   exact aK (i + 1, v, l) ⟨by omega, hlt, hnx.symm⟩ (by simp only; omega) (by simp) (aL _)
 ·have hlti : ¬ (i : Int) < (T.length : Int) := by omega
  rw [List.take_of_length_le (by omega), hR] at hr
  subst hr
  simp -implicitDefEqProofs [lb17_0, hlti]
  refine uB (j := 3) (d := .osl 7 v 0 l.length) (d' := .sl (em aI l)) rfl (by simp [frz, look, List.take_of_length_le]) ?_
  simp -implicitDefEqProofs [upd]
  refine aH hsorted (by simp) ?_
  simp -implicitDefEqProofs
set_option maxHeartbeats 8000000
theorem ES {P : List Fn} (h : vZ P) : P.length < 2 ^ 40 ∧ ∀ f ∈ P, size f.body ≤ 2 ^ 37 ∧ f.params.length ≤ 2 ^ 37 := by
 obtain ⟨ms, a, b, _, hl, hr, hb, hF, _⟩ := h
 obtain ⟨k1, k2⟩ := mE P a b hF
 exact ⟨by omega, fun f hf => by have := k2 f hf; omega⟩
set_option maxRecDepth 1000000
set_option maxHeartbeats 0
noncomputable def cf18 : Cfg := ⟨Tryz.prog, 35, [0, 1, 2, 3, 4, 6, 7], []⟩
noncomputable def lb18_0 : AC :=
 .seq (.ifr [JA 15 7, JG 16 0 3, JD 17 1 16, JO 18 (.len false (.t 17)), JO 19 (.bin .lss 3 (.t 15) (.t 18))] (.t 19) .skip (.exit 0)) (.seq (.block 1 (.ifr [JG 22 0 3, JD 23 1 22, JA 24 7, JL 25 11 23 24, JE 26 11 25, JG 27 0 4, JD 28 1 27, JA 29 7, JL 30 11 28 29, JE 31 11 30, JA 32 2, JO 33 (.pc (.f 43) [.t 26, .t 31, .t 32]), JO 34 (.un .not (.t 33))] (.t 34) (.seq (.reg [JP 6 (.mv JY)]) .ret) .skip)) (.reg [JA 20 7, JO 21 (.bin .add 3 (.t 20) (JT 1)), JB 7 21]))
noncomputable def ac18 : AC :=
 (.seq (.reg [JN 3 0, JN 4 1, JP 6 (.mv JY)]) (.seq (.ifr [JG 8 0 3, JD 9 1 8, JO 10 (.len false (.t 9)), JG 11 0 4, JD 12 1 11, JO 13 (.len false (.t 12)), JO 14 (.bin .neq 3 (.t 10) (.t 13))] (.t 14) (.seq (.reg [JP 6 (.mv JY)]) .ret) .skip) (.seq (.seq (.reg [JI 7 0]) (.block 0 (.loop lb18_0))) (.seq (.reg [JP 6 (.mv JX)]) .ret))))
theorem fi18 : FI Tryz.prog 18 cf18 ac18 [.t 6] [0, 1, 2, 3, 4, 6, 7] 35 := FI_of (c := Tryz.f18.body.getD .skip) Tryz.func18 (by kernel_rfl) (by rfl) (by rfl) (by kernel_rfl) (by kernel_rfl) rfl rfl rfl
@[simp] theorem cfP18 : cf18.P = Tryz.prog := (rfl)
noncomputable def cf43 : Cfg := ⟨Tryz.prog, 86, [0, 1, 2, 3, 4, 6, 7, 8, 9], []⟩
noncomputable def lb43_0 : AC :=
 .seq (.ifr [JA 41 7, JG 42 1 3, JD 43 1 42, JO 44 (.len false (.t 43)), JO 45 (.bin .lss 3 (.t 41) (.t 44))] (.t 45) .skip (.exit 0)) (.seq (.block 1 (.seq (.reg [JG 48 1 3, JD 49 1 48, JA 50 7, JL 51 3 49 50, JE 52 3 51, JP 8 (.al [JU, JV, JV]), JQ (.st 3 (.g 8) (.t 52))]) (.seq (.reg [JG 53 1 4, JD 54 1 53, JA 55 7, JL 56 3 54 55, JE 57 3 56, JP 9 (.al [JU, JV, JV]), JQ (.st 3 (.g 9) (.t 57))]) (.ifr [JG 58 0 8, JD 59 1 58, JG 60 0 9, JD 61 1 60, JO 62 (.bin .neq 9 (.t 59) (.t 61)), JC 63 62, JR 64 63 (.fa 1 (.g 8)), JR 65 63 (.ld false 1 (.t 64)), JR 66 63 (.fa 1 (.g 9)), JR 67 63 (.ld false 1 (.t 66)), JR 68 63 (.bin .neq 38 (.t 65) (.t 67)), JO 69 (.pick (.t 63) JX (.t 68)), JC 70 69, JR 71 70 (.mv (.g 2)), JR 72 70 (.mv (.t 71)), JS 73 72 (.fa 2 (.g 8)), JS 74 72 (.ld false 1 (.t 73)), JS 75 72 (.fa 2 (.g 9)), JS 76 72 (.ld false 1 (.t 75)), JS 77 72 (.bin .neq 3 (.t 74) (.t 76)), JR 78 70 (.pick (.t 72) (.t 77) JY), JO 79 (.pick (.t 70) JX (.t 78))] (.t 79) (.seq (.reg [JP 6 (.mv JY)]) .ret) .skip)))) (.reg [JA 46 7, JO 47 (.bin .add 3 (.t 46) (JT 1)), JB 7 47]))
noncomputable def ac43 : AC :=
 (.seq (.reg [JN 3 0, JN 4 1, JP 6 (.mv JY)]) (.seq (.ifr [JG 10 0 3, JD 11 1 10, JG 12 0 4, JD 13 1 12, JO 14 (.bin .neq 9 (.t 11) (.t 13)), JC 15 14, JR 16 15 (.fa 2 (.g 3)), JR 17 15 (.ld false 1 (.t 16)), JR 18 15 (.fa 2 (.g 4)), JR 19 15 (.ld false 1 (.t 18)), JR 20 15 (.bin .neq 38 (.t 17) (.t 19)), JO 21 (.pick (.t 15) JX (.t 20)), JC 22 21, JR 23 22 (.fa 1 (.g 3)), JR 24 22 (.ld false 1 (.t 23)), JR 25 22 (.len false (.t 24)), JR 26 22 (.fa 1 (.g 4)), JR 27 22 (.ld false 1 (.t 26)), JR 28 22 (.len false (.t 27)), JR 29 22 (.bin .neq 3 (.t 25) (.t 28)), JO 30 (.pick (.t 22) JX (.t 29)), JC 31 30, JR 32 31 (.mv (.g 2)), JR 33 31 (.mv (.t 32)), JS 34 33 (.fa 10 (.g 3)), JS 35 33 (.ld false 1 (.t 34)), JS 36 33 (.fa 10 (.g 4)), JS 37 33 (.ld false 1 (.t 36)), JS 38 33 (.bin .neq 3 (.t 35) (.t 37)), JR 39 31 (.pick (.t 33) (.t 38) JY), JO 40 (.pick (.t 31) JX (.t 39))] (.t 40) (.seq (.reg [JP 6 (.mv JY)]) .ret) .skip) (.seq (.seq (.reg [JI 7 0]) (.block 0 (.loop lb43_0))) (.seq (.reg [JG 80 3 3, JE 81 7 80, JG 82 3 4, JE 83 7 82, JA 84 2, JO 85 (.pc (.f 55) [.t 81, .t 83, .t 84]), JB 6 85]) .ret))))
theorem fi43 : FI Tryz.prog 43 cf43 ac43 [.t 6] [0, 1, 2, 3, 4, 6, 7, 8, 9] 86 := FI_of (c := Tryz.f43.body.getD .skip) Tryz.func43 (by kernel_rfl) (by rfl) (by rfl) (by kernel_rfl) (by kernel_rfl) rfl rfl rfl
@[simp] theorem cfP43 : cf43.P = Tryz.prog := (rfl)
noncomputable def cf55 : Cfg := ⟨Tryz.prog, 80, [0, 1, 2, 3, 4, 6, 7], []⟩
noncomputable def lb55_0 : AC :=
 .seq (.ifr [JA 60 7, JG 61 5 3, JD 62 1 61, JO 63 (.len false (.t 62)), JO 64 (.bin .lss 3 (.t 60) (.t 63))] (.t 64) .skip (.exit 0)) (.seq (.block 1 (.ifr [JG 67 5 3, JD 68 1 67, JA 69 7, JL 70 7 68 69, JE 71 7 70, JG 72 5 4, JD 73 1 72, JA 74 7, JL 75 7 73 74, JE 76 7 75, JA 77 2, JO 78 (.pc (.f 55) [.t 71, .t 76, .t 77]), JO 79 (.un .not (.t 78))] (.t 79) (.seq (.reg [JP 6 (.mv JY)]) .ret) .skip)) (.reg [JA 65 7, JO 66 (.bin .add 3 (.t 65) (JT 1)), JB 7 66]))
noncomputable def ac55 : AC :=
 (.seq (.reg [JN 3 0, JN 4 1, JP 6 (.mv JY)]) (.seq (.ifr [JG 8 0 3, JD 9 1 8, JG 10 0 4, JD 11 1 10, JO 12 (.bin .neq 39 (.t 9) (.t 11)), JC 13 12, JR 14 13 (.fa 1 (.g 3)), JR 15 13 (.ld false 1 (.t 14)), JR 16 13 (.fa 1 (.g 4)), JR 17 13 (.ld false 1 (.t 16)), JR 18 13 (.bin .neq 9 (.t 15) (.t 17)), JO 19 (.pick (.t 13) JX (.t 18)), JC 20 19, JR 21 20 (.fa 2 (.g 3)), JR 22 20 (.ld false 1 (.t 21)), JR 23 20 (.fa 2 (.g 4)), JR 24 20 (.ld false 1 (.t 23)), JR 25 20 (.bin .neq 9 (.t 22) (.t 24)), JO 26 (.pick (.t 20) JX (.t 25)), JC 27 26, JR 28 27 (.fa 3 (.g 3)), JR 29 27 (.ld false 1 (.t 28)), JR 30 27 (.fa 3 (.g 4)), JR 31 27 (.ld false 1 (.t 30)), JR 32 27 (.bin .neq 38 (.t 29) (.t 31)), JO 33 (.pick (.t 27) JX (.t 32)), JC 34 33, JR 35 34 (.fa 4 (.g 3)), JR 36 34 (.ld false 1 (.t 35)), JR 37 34 (.fa 4 (.g 4)), JR 38 34 (.ld false 1 (.t 37)), JR 39 34 (.bin .neq 40 (.t 36) (.t 38)), JO 40 (.pick (.t 34) JX (.t 39)), JC 41 40, JR 42 41 (.fa 5 (.g 3)), JR 43 41 (.ld false 1 (.t 42)), JR 44 41 (.len false (.t 43)), JR 45 41 (.fa 5 (.g 4)), JR 46 41 (.ld false 1 (.t 45)), JR 47 41 (.len false (.t 46)), JR 48 41 (.bin .neq 3 (.t 44) (.t 47)), JO 49 (.pick (.t 41) JX (.t 48)), JC 50 49, JR 51 50 (.mv (.g 2)), JR 52 50 (.mv (.t 51)), JS 53 52 (.fa 6 (.g 3)), JS 54 52 (.ld false 1 (.t 53)), JS 55 52 (.fa 6 (.g 4)), JS 56 52 (.ld false 1 (.t 55)), JS 57 52 (.bin .neq 3 (.t 54) (.t 56)), JR 58 50 (.pick (.t 52) (.t 57) JY), JO 59 (.pick (.t 50) JX (.t 58))] (.t 59) (.seq (.reg [JP 6 (.mv JY)]) .ret) .skip) (.seq (.seq (.reg [JI 7 0]) (.block 0 (.loop lb55_0))) (.seq (.reg [JP 6 (.mv JX)]) .ret))))
theorem fi55 : FI Tryz.prog 55 cf55 ac55 [.t 6] [0, 1, 2, 3, 4, 6, 7] 80 := FI_of (c := Tryz.f55.body.getD .skip) Tryz.func55 (by kernel_rfl) (by rfl) (by rfl) (by kernel_rfl) (by kernel_rfl) rfl rfl rfl
@[simp] theorem cfP55 : cf55.P = Tryz.prog := (rfl)
set_option maxRecDepth 100000
set_option maxHeartbeats 4000000
def nS (z : Cx) : Prop := eqF z.re z.re = true ∧ eqF z.im z.im = true
mutual
def Nm : Ex → Prop
 | .mk _ _ _ _ z args _ => nS z ∧ Nms args
def Nms : List Ex → Prop
 | [] => True
 | e :: es => Nm e ∧ Nms es
end
theorem nS_zf {a b : Int} (ha : a.natAbs ≤ 16777216) (hb : b.natAbs ≤ 16777216) : nS ⟨zf a, zf b⟩ := by
 have e : ∀ {a : Int}, a.natAbs ≤ 16777216 → eqF (zf a) (zf a) = true := fun {a} h => by
  have : zf a = Fi a := EX (by omega)
  rw [this, eqF_Fi (by omega) (by omega)]; simp
 exact ⟨e ha, e hb⟩
theorem nS_0 : nS ⟨0, 0⟩ := ⟨by decide, by decide⟩
theorem D6 (s : List UInt8) : nS ⟨zf (fM s).1, zf (fM s).2⟩ := by
 refine nS_zf ?_ ?_ <;>
 ·unfold fM
  split
  ·rename_i h
   unfold jK at h
   simp only [Bool.and_eq_true] at h
   have := h.2.1
   unfold inB at this
   simp only [Bool.and_eq_true, decide_eq_true_eq] at this
   omega
  ·decide
theorem nS_one (t : List UInt8) (p : Nat) : nS (eI t p).1.num := by
 unfold eI
 split
 ·exact D6 _
 ·split
  ·exact nS_0
  ·split <;> exact nS_0
def nD (ms : List Mk) : Prop := ∀ m ∈ ms, nS m.num
theorem kH : ∀ (f : Nat) (t : List UInt8) (p : Nat) (out : List Mk), nD out → nD (cP f t p out).1
 | 0, t, p, out, h => by intro m hm; simp [cP] at hm
 | f + 1, t, p, out, h => by
  have happ : ∀ m : Mk, nS m.num → nD (out ++ [m]) := fun m hm x hx => by
   rw [List.mem_append, List.mem_singleton] at hx
   rcases hx with hx | rfl
   ·exact h x hx
   ·exact hm
  unfold cP
  split
  ·split
   ·exact kH f _ _ _ h
   ·split
    ·exact kH f _ _ _ h
    ·split
     ·exact kH f _ _ _ (happ _ (nS_one t p))
     ·intro m hm; simp at hm
  ·exact happ _ nS_0
theorem E4 {r : Rd} (h : nD r.ms) : nS r.next.num := by
 unfold Rd.next
 by_cases hi : r.at' < r.ms.length
 ·rw [List.getElem?_eq_getElem hi]; exact h _ (List.getElem_mem hi)
 ·rw [List.getElem?_eq_none (by omega)]; exact nS_0
theorem yR : ∀ {l k : List Ex}, Nms l → Nms k → Nms (l ++ k)
 | [], _, _, h => h
 | e :: es, k, h, g => by
  unfold Nms at h
  show Nms (e :: (es ++ k))
  unfold Nms
  exact ⟨h.1, yR h.2 g⟩
theorem o8 {e : Ex} (h : Nm e) : Nms [e] := by unfold Nms Nms; exact ⟨h, trivial⟩
theorem vY {op : Int} {a b : Ex} {m : Mk} (ha : Nm a) (hb : Nm b) : Nm (two op a b m) := by
 unfold two Nm Nms
 exact ⟨nS_0, ha, o8 hb⟩
theorem iQ {op ty p : Int} {n t : List UInt8} {l : List Ex} (h : Nms l) : Nm (.mk op n t ty ⟨0, 0⟩ l p) := by
 unfold Nm; exact ⟨nS_0, h⟩
theorem iV : Nms [] := by unfold Nms; trivial
theorem Nm_0 : Nm ex0 := iQ iV
structure Num (n : Nat) (ms : List Mk) : Prop where
 expr : ∀ r, r.ms = ms → Gr Nm ms (a6 n r)
 cons : ∀ r, r.ms = ms → Gr Nm ms (dJ n r)
 comp : ∀ r, r.ms = ms → Gr Nm ms (dZ n r)
 sum : ∀ r, r.ms = ms → Gr Nm ms (eJ n r)
 sumL : ∀ a r, Nm a → r.ms = ms → Gr Nm ms (dV n a r)
 term : ∀ r, r.ms = ms → Gr Nm ms (cS n r)
 termL : ∀ a r, Nm a → r.ms = ms → Gr Nm ms (c9 n a r)
 unit : ∀ r, r.ms = ms → Gr Nm ms (cU n r)
 named : ∀ m r, r.ms = ms → Gr Nm ms (dT n m r)
 namedL : ∀ l r, Nms l → r.ms = ms → Gr Nms ms (cR n l r)
 parts : ∀ ss r, r.ms = ms → Gr Nms ms (bF n ss r)
 branches : ∀ r p, r.ms = ms → Gr Nm ms (cB n r p)
theorem x5 {ms : List Mk} (hms : nD ms) : ∀ n, Num n ms
 | 0 => ⟨fun _ _ => by unfold a6; exact bK, fun _ _ => by unfold dJ; exact bK, fun _ _ => by unfold dZ; exact bK, fun _ _ => by unfold eJ; exact bK, fun _ _ _ _ => by unfold dV; exact bK, fun _ _ => by unfold cS; exact bK, fun _ _ _ _ => by unfold c9; exact bK, fun _ _ => by unfold cU; exact bK, fun _ _ _ => by unfold dT; exact bK, fun _ _ _ _ => by unfold cR; exact bK, fun ss _ _ => by cases ss <;> (unfold bF; exact bK), fun _ _ _ => by unfold cB; exact bK⟩
 | n + 1 => by
  have ih := x5 hms n
  have two' : ∀ {op : Int} {a b : Ex} {m : Mk} {q : Rd}, Nm a → Nm b → q.ms = ms → Nm (two op a b m, q).1 ∧ (two op a b m, q).2.ms = ms := fun ha hb hq => ⟨vY ha hb, hq⟩
  refine ⟨fun r hr => ?_, fun r hr => ?_, fun r hr => ?_, fun r hr => ?_, fun a r ha hr => ?_, fun r hr => ?_, fun a r ha hr => ?_, fun r hr => ?_, fun m r hr => ?_, fun l r hl hr => ?_, fun ss r hr => ?_, fun r p hr => ?_⟩
  ·unfold a6
   have h1 : (if (binds r && decide (r.lN ≤ r.nest)) = true then r.fail 23 else r).ms = ms := by
    split
    ·rw [Rd.fail_ms]; exact hr
    ·exact hr
   dsimp only
   generalize (if (binds r && decide (r.lN ≤ r.nest)) = true then r.fail 23 else r) = r1 at *
   have h2 : (if binds r = true then { r1 with nest := r1.nest + 1 } else r1).adv.ms = ms := by
    split <;> exact h1
   generalize (if binds r = true then { r1 with nest := r1.nest + 1 } else r1).adv = r2 at *
   split
   ·exact bE Nm_0 h1
   ·split
    ·exact ih.cons _ h1
    ·refine cX (p := Nm) ?_ (fun e q he hq => ⟨he, by dsimp only; split <;> exact hq⟩)
     split
     ·exact cX (ih.parts _ _ h2) (fun l q hl hq => ⟨iQ hl, hq⟩)
     ·split
      ·exact ih.branches _ _ h2
      ·exact cX (ih.parts _ _ (by rw [Rd.typ_ms, Rd.name_ms]; exact h2)) (fun l q hl hq => ⟨iQ hl, hq⟩)
  ·unfold dJ
   refine bX (ih.comp r hr) (fun a q ha hq => ?_)
   dsimp only
   split
   ·exact cX (ih.cons _ hq) (fun b q2 hb hq2 => two' ha hb hq2)
   ·exact bE ha hq
  ·unfold dZ
   refine bX (ih.sum r hr) (fun a q ha hq => ?_)
   dsimp only
   split
   ·exact cX (ih.sum _ hq) (fun b q2 hb hq2 => two' ha hb hq2)
   ·exact bE ha hq
  ·unfold eJ
   exact bX (ih.term r hr) (fun a q ha hq => ih.sumL _ _ ha hq)
  ·unfold dV
   split
   ·exact bX (ih.term _ hr) (fun b q hb hq => ih.sumL _ _ (vY ha hb) hq)
   ·exact bE ha hr
  ·unfold cS
   exact bX (ih.unit r hr) (fun a q ha hq => ih.termL _ _ ha hq)
  ·unfold c9
   split
   ·exact bX (ih.unit _ hr) (fun b q hb hq => ih.termL _ _ (vY ha hb) hq)
   ·exact bE ha hr
  ·unfold cU
   split
   ·exact bE Nm_0 hr
   ·split
    ·refine bE ?_ hr
     unfold Nm
     exact ⟨E4 (by rw [hr]; exact hms), iV⟩
    ·split
     ·exact ih.named _ _ hr
     ·split
      ·exact cX (ih.expr _ hr) (fun e q he hq => ⟨he, by rw [Rd.want_ms]; exact hq⟩)
      ·split
       ·exact bE Nm_0 (by rw [Rd.fail_ms]; exact hr)
       ·split
        ·exact bE (iQ iV) (by rw [Rd.typ_ms]; exact hr)
        ·split
         ·exact cX (ih.expr _ (by rw [Rd.want_ms]; exact hr)) (fun e q he hq => ⟨iQ (o8 he), by rw [Rd.want_ms]; exact hq⟩)
         ·exact bE (iQ iV) hr
  ·unfold dT
   split
   ·exact cX (ih.namedL _ _ iV hr) (fun l q hl hq => ⟨iQ hl, by rw [Rd.want_ms]; exact hq⟩)
   ·exact bE (iQ iV) hr
  ·unfold cR
   split
   ·refine bX (ih.expr _ ?_) (fun x q hx hq => ih.namedL _ _ (yR hl (o8 hx)) hq)
    split
    ·exact hr
    ·rw [Rd.want_ms]; exact hr
   ·exact bE hl hr
  ·cases ss with
   | nil => unfold bF; exact bE iV hr
   | cons s ss =>
    unfold bF
    refine bX (ih.expr _ ?_) (fun x q hx hq => cX (ih.parts _ _ hq) (fun l q2 hl hq2 => ⟨?_, hq2⟩))
    ·split
     ·exact hr
     ·rw [Rd.want_ms]; exact hr
    ·dsimp only; unfold Nms; exact ⟨hx, hl⟩
  ·unfold cB
   refine bX (ih.expr r hr) (fun x q hx hq => bX (ih.expr _ (by rw [Rd.want_ms, Rd.want_ms, Rd.want_ms]; exact hq)) (fun a q2 ha hq2 => ?_))
   dsimp only
   refine cX (ih.expr _ (by rw [Rd.want_ms, Rd.name_ms, Rd.want_ms, Rd.name_ms, Rd.want_ms]; exact hq2)) (fun b q3 hb hq3 => ⟨iQ ?_, hq3⟩)
   unfold Nms Nms
   exact ⟨hx, ha, o8 hb⟩
theorem uO {ms : List Mk} : ∀ n l r, r.ms = ms → Gr (fun _ => True) ms (b8 n l r)
 | 0, l, r, h => by unfold b8; exact bK
 | n + 1, l, r, h => by
  unfold b8
  split
  ·refine uO n _ _ ?_
   rw [Rd.typ_ms, Rd.name_ms]
   unfold pf pw
   repeat' split
   all_goals first | exact h | (simp only [Rd.fail_ms, Rd.want_ms]; exact h)
  ·exact bE trivial h
theorem GW {ms : List Mk} (hms : nD ms) {n : Nat} {r : Rd} {c : Nat} (h : r.ms = ms) : Gr (fun f => Nm f.body) ms (iG n r c) := by
 unfold iG
 refine bX (uO n _ _ ?_) (fun ps q _ hq => cX ((x5 hms n).expr _ (by rw [Rd.want_ms, Rd.typ_ms, Rd.want_ms, Rd.want_ms]; exact hq)) (fun b q2 hb hq2 => ⟨hb, by rw [Rd.want_ms]; exact hq2⟩))
 rw [Rd.want_ms, Rd.name_ms]
 unfold df
 split
 ·rw [Rd.fail_ms]; exact h
 ·exact h
def NmF (L : List Fn) : Prop := ∀ f ∈ L, Nm f.body
theorem u6 {ms : List Mk} (hms : nD ms) : ∀ n l r, NmF l → r.ms = ms → Gr NmF ms (c7 n l r)
 | 0, l, r, hl, h => by unfold c7; exact bK
 | n + 1, l, r, hl, h => by
  unfold c7
  split
  ·refine bX (GW hms h) (fun f q hf hq => u6 hms n _ _ (fun g hg => ?_) hq)
   rw [List.mem_append, List.mem_singleton] at hg
   rcases hg with hg | rfl
   ·exact hl g hg
   ·exact hf
  ·exact bE hl h
theorem Run.nm {t : List UInt8} {L : List Fn} (h : Run t L) : NmF L := by
 rcases h with rfl | ⟨n, r, q, h, hr, ht⟩
 ·exact fun f hf => by simp at hf
 ·exact (u6 (ms := (c6 t).1) (kH _ t 0 [] (fun m hm => by simp at hm)) _ _ _ (fun f hf => by simp at hf) hr _ h).1
theorem Nm_eq (e : Ex) : Nm e = (nS e.num ∧ Nms e.args) := by
 cases e; rw [Nm]; rfl
theorem size_eq (e : Ex) : size e = 1 + aU e.args := by
 cases e; rw [size]; rfl
theorem y5 {x : Ex} : ∀ {l : List Ex}, Nms l → x ∈ l → Nm x
 | [], _, h => by simp at h
 | e :: es, h, hx => by
  unfold Nms at h
  rcases List.mem_cons.1 hx with rfl | hx
  ·exact h.1
  ·exact y5 h.2 hx
theorem wQ {x : Ex} : ∀ {l : List Ex}, x ∈ l → size x ≤ aU l
 | [], h => by simp at h
 | e :: es, hx => by
  unfold aU
  rcases List.mem_cons.1 hx with rfl | hx
  ·omega
  ·have := wQ hx; omega
theorem v_ : ∀ (l : List Ex), l.length ≤ aU l
 | [] => by simp
 | e :: es => by
  unfold aU
  have := v_ es
  have := size_eq e
  simp only [List.length_cons]; omega
theorem yO : ∀ (n : Nat) (e : Ex), size e ≤ n → n ≤ 2 ^ 40 → Nm e → Pure Tryz.prog 55 [.agg (aR e), .agg (aR e), B true] (B true)
 | 0, e, h, _, _ => by have := size_eq e; omega
 | n + 1, e, h, hn, hm => by
  have hs := size_eq e
  rw [Nm_eq] at hm
  obtain ⟨⟨m1, m2⟩, m3⟩ := hm
  have hl := v_ e.args
  refine fi55.pu (by simp) ?_
  simp only [aA]
  simp -implicitDefEqProofs [ac55, m1, m2]
  refine lpG cf55 lb55_0 [6, 7] (α := Nat) (fun s _ => [(6, .top), (7, I s)]) (fun s _ => []) (fun s k => s ≤ e.args.length) (fun s => e.args.length - s) 0 (by simp) (by simp) (gC _) ?_
  rintro s k hi
  by_cases hlt : s < e.args.length
  ·obtain ⟨x, hx⟩ : ∃ x, e.args[s] = x := ⟨_, rfl⟩
   have hmem : x ∈ e.args := hx ▸ List.getElem_mem hlt
   have w1 := aX (x := (s : Int) + 1) (by omega) (by omega)
   have ih := yO n x (by have := wQ hmem; omega) (by omega) (y5 m3 hmem)
   simp only [aA] at ih
   simp -implicitDefEqProofs [lb55_0, hlt, hx]
   refine aH ih (by simp) ?_
   simp -implicitDefEqProofs [w1]
   exact aK (s + 1) (by omega) (by omega) (by simp) (gC _)
  ·simp -implicitDefEqProofs [lb55_0, hlt]
theorem G_ (f : Fn) (hs : size f.body ≤ 2 ^ 40) (hp : f.params.length ≤ 2 ^ 40) (hm : Nm f.body) : Pure Tryz.prog 43 [.agg (a_ f), .agg (a_ f), B true] (B true) := by
 refine fi43.pu (by simp) ?_
 have hb := yO (2 ^ 40) f.body hs (by omega) hm
 simp only [aA] at hb
 simp -implicitDefEqProofs [ac43, aN]
 refine lpG cf43 lb43_0 [6, 7, 8, 9] (α := Nat) (fun s _ => [(6, .top), (7, I s), (8, .top), (9, .top)]) (fun s _ => []) (fun s k => s ≤ f.params.length) (fun s => f.params.length - s) 0 (by simp) (by simp) (gC _) ?_
 rintro s k hi
 by_cases hlt : s < f.params.length
 ·obtain ⟨x, hx⟩ : ∃ x, f.params[s] = x := ⟨_, rfl⟩
  have w1 := aX (x := (s : Int) + 1) (by omega) (by omega)
  simp -implicitDefEqProofs [lb43_0, hlt, hx, w1]
  exact aK (s + 1) (by omega) (by omega) (by simp) (gC _)
 ·simp -implicitDefEqProofs [lb43_0, hlt]
  refine aH (hb) (by simp) ?_
  simp -implicitDefEqProofs
theorem same_c {L : List Fn} (hL : L.length ≤ 2 ^ 40) (h : ∀ f ∈ L, size f.body ≤ 2 ^ 40 ∧ f.params.length ≤ 2 ^ 40 ∧ Nm f.body) : Pure Tryz.prog 18 [.agg [.sl (em a_ L)], .agg [.sl (em a_ L)], B true] (B true) := by
 refine fi18.pu (by simp) ?_
 simp -implicitDefEqProofs [ac18]
 refine lpG cf18 lb18_0 [6, 7] (α := Nat) (fun s _ => [(6, .top), (7, I s)]) (fun s _ => []) (fun s k => s ≤ L.length) (fun s => L.length - s) 0 (by simp) (by simp) (gC _) ?_
 rintro s k hi
 by_cases hlt : s < L.length
 ·obtain ⟨x, hx⟩ : ∃ x, L[s] = x := ⟨_, rfl⟩
  have hmem : x ∈ L := hx ▸ List.getElem_mem hlt
  have w1 := aX (x := (s : Int) + 1) (by omega) (by omega)
  obtain ⟨h1, h2, h3⟩ := h x hmem
  have hf := G_ x h1 h2 h3
  simp only [aN] at hf
  simp -implicitDefEqProofs [lb18_0, hlt, hx, aN]
  refine aH hf (by simp) ?_
  simp -implicitDefEqProofs [w1]
  exact aK (s + 1) (by omega) (by omega) (by simp) (gC _)
 ·simp -implicitDefEqProofs [lb18_0, hlt]
set_option maxRecDepth 1000000
set_option maxHeartbeats 0
noncomputable def cf5 : Cfg := ⟨Tryz.prog, 162, [0, 1, 4, 5, 6, 7, 9, 10, 11, 13, 15, 16, 17, 18, 19, 20, 21, 22], [40, 42, 49, 54, 71, 77, 82, 87, 115, 136, 146, 155]⟩
noncomputable def lb5_0 : AC :=
 .seq (.ifr [JA 97 21, JA 98 18, JO 99 (.len false (.t 98)), JO 100 (.bin .lss 3 (.t 97) (.t 99))] (.t 100) .skip (.exit 4)) (.seq (.block 5 (.reg [JA 103 18, JA 104 21, JL 105 1 103 104, JQ (.st 1 (.t 105) (.c (.string (ByteArray.mk (Array.mk [119, 114, 105, 116, 116, 101, 110, 32, 111, 118, 101, 114])))))])) (.reg [JA 101 21, JO 102 (.bin .add 3 (.t 101) (JT 1)), JB 21 102]))
noncomputable def lb5_1 : AC :=
 .seq (.ifr [JA 88 20, JA 89 16, JO 90 (.len false (.t 89)), JO 91 (.bin .lss 3 (.t 88) (.t 90))] (.t 91) .skip (.exit 2)) (.seq (.block 3 (.reg [JA 94 16, JA 95 20, JL 96 1 94 95, JQ (.st 1 (.t 96) (.c (.string (ByteArray.mk (Array.mk [119, 114, 105, 116, 116, 101, 110, 32, 111, 118, 101, 114])))))])) (.reg [JA 92 20, JO 93 (.bin .add 3 (.t 92) (JT 1)), JB 20 93]))
noncomputable def lb5_2 : AC :=
 .seq (.ifr [JA 57 15, JA 58 11, JO 59 (.len false (.t 58)), JO 60 (.bin .lss 3 (.t 57) (.t 59))] (.t 60) .skip (.exit 0)) (.seq (.block 1 (.reg [JA 63 11, JA 64 15, JL 65 1 63 64, JQ (.st 1 (.t 65) (.c (.string (ByteArray.mk (Array.mk [119, 114, 105, 116, 116, 101, 110, 32, 111, 118, 101, 114])))))])) (.reg [JA 61 15, JO 62 (.bin .add 3 (.t 61) (JT 1)), JB 15 62]))
noncomputable def ac5 : AC :=
 (.seq (.reg [JP 4 (.mv JY)]) (.seq (.ifr [JO 24 (.pc (.f 6) []), JO 25 (.un .not (.t 24))] (.t 25) (.seq (.reg [JP 4 (.mv JY)]) .ret) .skip) (.seq (.reg [JA 27 0, JO 28 (.pc (.f 7) [.t 27]), JC 26 28, JK 29 0 26, JK 30 1 26, JP 5 (.al [JW]), JQ (.st 1 (.g 5) (.t 29)), JB 6 30]) (.seq (.reg [JA 32 0, JO 33 (.pc (.f 7) [.t 32]), JC 31 33, JK 34 0 31, JK 35 1 31, JP 7 (.al [JW]), JQ (.st 1 (.g 7) (.t 34)), JC 8 35]) (.seq (.ifr [JA 36 6, JO 37 (.un .not (.t 36))] (.t 37) (.seq (.reg [JP 4 (.mv JX)]) .ret) .skip) (.seq (.reg [.mk (.t 38) none .z0, JA 39 1, JO 40 (.app 1 16 [JU] (.t 38) (.t 39)), JO 41 (.bsl 1 2 [JU] [(0, 1, .c (.string (ByteArray.mk (Array.mk [116, 49])))), (1, 1, .c (.string (ByteArray.mk (Array.mk [116, 55]))))]), JO 42 (.app 1 16 [JU] (.t 40) (.t 41)), JB 9 42]) (.seq (.reg [JA 43 9, JA 44 1, JO 45 (.len false (.t 44)), JO 46 (.sls false 1 (.t 43) none (some (.t 45))), JB 10 46]) (.seq (.reg [JA 48 10, JO 49 (.cl (.f 14) [.t 48, .c (.int .i64 5)]), JC 47 49, JK 50 0 47, JK 51 1 47, JB 11 50, JC 12 51]) (.seq (.reg [JA 53 10, JO 54 (.cl (.f 14) [.t 53, .c (.int .i64 5)]), JC 52 54, JK 55 0 52, JK 56 1 52, JB 13 55, JC 14 56]) (.seq (.seq (.reg [JI 15 0]) (.block 0 (.loop lb5_2))) (.seq (.reg [JG 66 0 5, JD 67 1 66, JO 68 (.ia 11 (.t 67) (JT 0)), JH 69 3 68, JE 70 7 69, JO 71 (.cl (.f 15) [.t 70]), JB 16 71]) (.seq (.reg [JG 72 0 5, JD 73 1 72, JO 74 (.ia 11 (.t 73) (JT 0)), JH 75 3 74, JE 76 7 75, JO 77 (.cl (.f 15) [.t 76]), JB 17 77]) (.seq (.reg [JG 78 0 5, JD 79 1 78, JO 80 (.ia 11 (.t 79) (JT 0)), JE 81 11 80, JO 82 (.cl (.f 11) [.t 81]), JB 18 82]) (.seq (.reg [JG 83 0 5, JD 84 1 83, JO 85 (.ia 11 (.t 84) (JT 0)), JE 86 11 85, JO 87 (.cl (.f 11) [.t 86]), JB 19 87]) (.seq (.seq (.reg [JI 20 0]) (.block 2 (.loop lb5_1))) (.seq (.seq (.reg [JI 21 0]) (.block 4 (.loop lb5_0))) (.seq (.reg [JA 107 1, JO 108 (.pc (.f 16) [.t 107, .c (.int .i64 5)]), JC 106 108, JK 109 0 106, JK 110 1 106, JB 22 109, JC 23 110]) (.seq (.reg [JF 111 1 5, JO 112 (.pc (.f 8) [.t 111])]) (.seq (.reg [JA 113 10, JA 114 1, JO 115 (.cl (.f 10) [.t 113, .t 114]), JC 116 115, JS 117 116 (.mv (.g 9)), JS 118 116 (.mv (.g 1)), JS 119 116 (.len false (.t 118)), JS 120 116 (.ia 1 (.t 117) (.t 119)), JS 121 116 (.ld false 1 (.t 120)), JS 122 116 (.bin .eql 9 (.t 121) (.c (.string (ByteArray.mk (Array.mk [116, 49]))))), JO 123 (.pick (.t 116) (.t 122) JY), JC 124 123, JS 125 124 (.mv (.g 9)), JS 126 124 (.mv (.g 1)), JS 127 124 (.len false (.t 126)), JS 128 124 (.bin .add 3 (.t 127) (JT 1)), JS 129 124 (.ia 1 (.t 125) (.t 128)), JS 130 124 (.ld false 1 (.t 129)), JS 131 124 (.bin .eql 9 (.t 130) (.c (.string (ByteArray.mk (Array.mk [116, 55]))))), JO 132 (.pick (.t 124) (.t 131) JY), JC 133 132, JS 134 133 (.mv (.g 13)), JS 135 133 (.mv (.g 22)), JS 136 133 (.cl (.f 10) [.t 134, .t 135]), JO 137 (.pick (.t 133) (.t 136) JY), JC 138 137, JS 139 138 (.mv (.g 17)), JS 140 138 (.fa 0 (.g 7)), JS 141 138 (.ld false 1 (.t 140)), JS 142 138 (.ia 11 (.t 141) (JT 0)), JS 143 138 (.fa 3 (.t 142)), JS 144 138 (.ld true 7 (.t 143)), JS 145 138 (.pc (.f 17) [.t 144]), JS 146 138 (.cl (.f 10) [.t 139, .t 145]), JO 147 (.pick (.t 138) (.t 146) JY), JC 148 147, JS 149 148 (.mv (.g 19)), JS 150 148 (.fa 0 (.g 7)), JS 151 148 (.ld false 1 (.t 150)), JS 152 148 (.ia 11 (.t 151) (JT 0)), JS 153 148 (.ld true 11 (.t 152)), JS 154 148 (.pc (.f 12) [.t 153]), JS 155 148 (.cl (.f 10) [.t 149, .t 154]), JO 156 (.pick (.t 148) (.t 155) JY), JC 157 156, JS 158 157 (.ld true 1 (.g 5)), JS 159 157 (.ld true 1 (.g 7)), JS 160 157 (.pc (.f 18) [.t 158, .t 159, .c (.bool true)]), JO 161 (.pick (.t 157) (.t 160) JY), JB 4 161]) .ret)))))))))))))))))))
theorem fi5 : FI Tryz.prog 5 cf5 ac5 [.t 4] [0, 1, 4, 5, 6, 7, 9, 10, 11, 13, 15, 16, 17, 18, 19, 20, 21, 22] 162 := FI_of (c := Tryz.f5.body.getD .skip) Tryz.func5 (by kernel_rfl) (by rfl) (by rfl) (by kernel_rfl) (by kernel_rfl) rfl rfl rfl
@[simp] theorem cfP5 : cf5.P = Tryz.prog := (rfl)
set_option maxRecDepth 100000
set_option maxHeartbeats 8000000
theorem NT.own {l : List (List UInt8)} {mem : Mem} {nx : Nat} {K : KD} (h : ∀ id n', nx ≤ id → id < n' → K (.osl id 0 0 l.length) ((id, .arr 0 1 (em aI l)) :: mem) n') :
  NT l mem nx (fun d m n => K d m n ∨ d = .pl (.slice Option.none 0 0) ∧ K (.osl n 0 0 0) ((n, .arr 0 1 []) :: m) (n + 1)) :=
 ⟨fun hl n' hn => .inr ⟨rfl, by subst hl; exact h n' (n' + 1) hn (by omega)⟩, fun hl id n' h1 h2 => .inl (h id n' h1 h2)⟩
theorem FO (e : Ex) (hz : size e ≤ 2 ^ 40) (hb : Nb e) {mem : Mem} {nx : Nat} {K : KD} (h : ∀ id n', nx ≤ id → id < n' → K (.osl id 0 0 (fC e).length) ((id, .arr 0 1 (em aI (fC e))) :: mem) n') : bH Tryz.prog 15 [.agg (aR e)] mem nx K :=
 r6 1 (C6 e hz hb (NT.own h))
theorem DH (f : Fn) (hz : size f.body ≤ 2 ^ 40) (hp : f.params.length ≤ 2 ^ 40) (hb : NbFn f) {mem : Mem} {nx : Nat} {K : KD} (h : ∀ id n', nx ≤ id → id < n' → K (.osl id 0 0 (eZ f).length) ((id, .arr 0 1 (em aI (eZ f))) :: mem) n') : bH Tryz.prog 11 [zZ f] mem nx K :=
 r6 1 (x4 f hz hp hb (NT.own h))
theorem vU (taken tl : List (List UInt8)) (hk : taken.length ≤ 2 ^ 43) {mem mf : Mem} {nx id v : Nat} {K : KD} (hsub : bR mem mf) (hl : look mf id = some (.arr v 1 (em aI (taken ++ tl))))
  (h : ∀ i v n', nx ≤ i → i < n' → K (.tup [.osl i v 0 (dX taken 5).length, I 0]) ((i, .arr v 1 (em aI (dX taken 5))) :: mem) n') : bH Tryz.prog 14 [.osl id v 0 taken.length, I 5] mem nx K := by
 have htk : List.take taken.length (em aI (taken ++ tl)) = em aI taken := by simp [em]
 refine B9 (args' := [.sl (em aI taken), I 5]) (K0 := fun d m n => ∃ i v, nx ≤ i ∧ i < n ∧ d = .tup [.osl i v 0 (dX taken 5).length, I 0] ∧ m = [(i, .arr v 1 (em aI (dX taken 5)))]) hsub ?_ (zC taken 5 hk (fun _ k hk2 => Itoa_c k (by have : (5 : Int).toNat = 5 := rfl; omega)) (fun hn => absurd (by decide) hn) (fun _ _ i v n' h1 h2 => ⟨i, v, h1, h2, rfl, rfl⟩)) ?_
 ·simp [dE, frz, hl, htk]
 ·rintro d m n hn ⟨i, v, h1, h2, rfl, rfl⟩
  refine ⟨by simp [D.cln, D.clns, look], fun j b hb => ?_, h i v n h1 h2⟩
  rw [a7] at hb
  split at hb
  ·simp only [Option.some.injEq] at hb; subst hb
   simp [Blk.cln, em, aI, D.clns, D.cln]
  ·simp [look] at hb
def wo : List UInt8 := [119, 114, 105, 116, 116, 101, 110, 32, 111, 118, 101, 114]
theorem qL (t : List UInt8) (ht : t.length < 2 ^ 48) (taken : List (List UInt8)) (hkt : taken.length ≤ 2 ^ 43) : Pure Tryz.prog 5 [.sl (em dB t), .sl (em aI taken)] (.pl (.bool true)) := by
 obtain ⟨L, w, p, hr, hrun⟩ := E_ t ht
 have hc := sQ hr
 have hnb := hrun.nb
 have b1 : taken.length * 16 ≤ 3 * 2 ^ 46 := by omega
 have b2 : (taken.length + 2) * 16 ≤ 3 * 2 ^ 46 := by omega
 refine fi5.pu (by simp) ?_
 by_cases hw : w = 0
 ·have hk := hr.2.1 hw
  obtain ⟨hPl, hsz⟩ := ES hk
  have hd : decide (w = 0) = true := by simp [hw]
  rw [hd] at hc
  simp -implicitDefEqProofs [ac5]
  refine aH (u2) (by simp) ?_
  simp -implicitDefEqProofs
  refine aH (hc) (by simp) ?_
  simp -implicitDefEqProofs
  refine aH hc (by simp) ?_
  have hlit : qM 1 2 [.string (ByteArray.mk #[])] [(0, 1, Tx [116, 49]), (1, 1, Tx [116, 55])] = some (.sl (em aI [[116, 49], [116, 55]])) := rfl
  have hap : em aI taken ++ em aI [[116, 49], [116, 55]] = em aI (taken ++ [[116, 49], [116, 55]]) := by simp [em]
  have htk : List.take taken.length (em aI taken) = em aI taken := List.take_of_length_le (by simp)
  have hsl : ∀ (m : Mem), gQ ((23, .arr 1 1 (em aI (taken ++ [[116, 49], [116, 55]]))) :: m) false 1 (.osl 23 1 0 (taken.length + 2)) none (some (I taken.length)) = some (.osl 23 1 0 taken.length) := fun m => by
   simp [gQ, j5, look, bound]; omega
  simp -implicitDefEqProofs [-els, -qM, pB, hlit, b1, b2, hap, htk, hsl]
  have hL0 : 0 < L.length := by
   obtain ⟨_, _, _, _, _, _, _, _, hne⟩ := hk
   cases L with
   | nil => exact absurd rfl hne
   | cons a l => simp
  obtain ⟨f, hf⟩ : ∃ f, L[0] = f := ⟨_, rfl⟩
  have hfm : f ∈ L := by rw [← hf]; exact List.getElem_mem hL0
  have hfd : L[0]?.getD default = f := by rw [List.getElem?_eq_getElem hL0]; exact hf
  have hfs := hsz f hfm
  have hfb := hnb f hfm
  have hFl : (dX taken 5).length = 5 := (DD taken 5).choose_spec.2
  refine aD (vU taken [[116, 49], [116, 55]] hkt (aG _) (by simp [look]) (fun id1 v1 n1 p1 p2 => ?_))
  simp -implicitDefEqProofs
  have y1 : ∀ c, c < 39 → (id1 = c) = False := fun c hc => eq_false (by omega)
  refine aD (vU taken [[116, 49], [116, 55]] hkt (aG _) (by simp [look, y1]) (fun id2 v2 n2 p3 p4 => ?_))
  simp -implicitDefEqProofs
  have y2 : ∀ c, c < 39 → (id2 = c) = False := fun c hc => eq_false (by omega)
  have y12 : (id1 = id2) = False := eq_false (by omega)
  have y21 : (id2 = id1) = False := eq_false (by omega)
  generalize hFF : dX taken 5 = F at *
  obtain ⟨n3, hn3⟩ : ∃ n3, n2 + 1 = n3 := ⟨_, rfl⟩
  try rw [hn3]
  have hset : ∀ (l : List (List UInt8)) (i : Nat), (em aI l).set i [Tx [119, 114, 105, 116, 116, 101, 110, 32, 111, 118, 101, 114]] = em aI (l.set i wo) := fun l i => q_ (enc := aI) (x := wo)
  have hwo : Tx wo = D.pl (.string (ByteArray.mk (Array.mk [119, 114, 105, 116, 116, 101, 110, 32, 111, 118, 101, 114]))) := rfl
  refine lpG cf5 lb5_2 [15] (α := Nat × List (List UInt8)) (fun s _ => [(15, I s.1)]) (fun s _ => [(id2, .arr v2 1 (em aI F)), (id1, .arr v1 1 (em aI s.2)), (23, .arr 1 1 (em aI (taken ++ [[116, 49], [116, 55]]))), (16, .box [.sl (em a_ L)]), (8, .box [.sl (em a_ L)])]) (fun s k => n3 ≤ k ∧ s.1 ≤ F.length ∧ s.2.length = F.length) (fun s => F.length - s.1) (0, F) ⟨by omega, by simp, rfl⟩ (by simp) (aL _) ?_
  rintro ⟨i, l⟩ k ⟨hk3, hi, hll⟩
  simp only at hk3 hi hll
  by_cases hlt : i < F.length
  ·have hlti : (i : Int) < (F.length : Int) := by omega
   have hltl : i < l.length := by omega
   have w1 := aX (x := (i : Int) + 1) (by omega) (by omega)
   simp -implicitDefEqProofs [lb5_2, hlti, hlt, hltl, hll, y1, y2, y12, y21, w1, aI, hset]
   exact aK (i + 1, l.set i wo) ⟨by omega, hlt, by simp only [List.length_set]; exact hll⟩ (by simp only; omega) (by simp) (aL _)
  ·have hlti : ¬ (i : Int) < (F.length : Int) := by omega
   have hie : i = F.length := by omega
   subst hie
   clear hlt hlti hi
   have hx1 : ∀ c, c < 39 → (k = c) = False := fun c hc => eq_false (by omega)
   have cF := fun {mem : Mem} {nx : Nat} {K : KD} h => FO f.body (by omega) hfb.body (mem := mem) (nx := nx) (K := K) h
   have cN := fun {mem : Mem} {nx : Nat} {K : KD} h => DH f (by omega) (by omega) hfb (mem := mem) (nx := nx) (K := K) h
   have pF := A9 f.body (by omega) hfb.body
   have pN := xE f (by omega) (by omega) hfb
   simp only [aA] at cF pF
   simp -implicitDefEqProofs [lb5_2, hll, hf, hfd, hL0, y1, y2, y12, y21]
   refine aD (cF (fun id3 n4 p5 p6 => ?_))
   have y3 : ∀ c, c < 39 → (id3 = c) = False := fun c hc => eq_false (by omega)
   have y31 : (id3 = id1) = False := eq_false (by omega)
   have y32 : (id3 = id2) = False := eq_false (by omega)
   have y13 : (id1 = id3) = False := eq_false (by omega)
   have y23 : (id2 = id3) = False := eq_false (by omega)
   simp -implicitDefEqProofs [hf, hfd, hL0, y1, y2, y12, y21, y3, y31, y32, y13, y23]
   refine aD (tL (mf := []) (mk := (id3, .arr 0 1 (em aI (fC f.body))) :: [(id2, .arr v2 1 (em aI F)), (id1, .arr v1 1 (em aI l)), (23, .arr 1 1 (em aI (taken ++ [[116, 49], [116, 55]]))), (16, .box [.sl (em a_ L)]), (8, .box [.sl (em a_ L)])]) (iI _) (aG _) (fun i => .inl rfl) (by simp [dE, frz]) pF ?_)
   simp -implicitDefEqProofs [hf, hfd, hL0, y1, y2, y12, y21, y3, y31, y32, y13, y23]
   refine aD (cN (fun id4 n5 p7 p8 => ?_))
   have y4 : ∀ c, c < 39 → (id4 = c) = False := fun c hc => eq_false (by omega)
   have y41 : (id4 = id1) = False := eq_false (by omega)
   have y42 : (id4 = id2) = False := eq_false (by omega)
   have y43 : (id4 = id3) = False := eq_false (by omega)
   have y14 : (id1 = id4) = False := eq_false (by omega)
   have y24 : (id2 = id4) = False := eq_false (by omega)
   have y34 : (id3 = id4) = False := eq_false (by omega)
   simp -implicitDefEqProofs [hf, hfd, hL0, y1, y2, y12, y21, y3, y31, y32, y13, y23, y4, y41, y42, y43, y14, y24, y34]
   refine aD (tL (mf := []) (mk := (id4, .arr 0 1 (em aI (eZ f))) :: (id3, .arr 0 1 (em aI (fC f.body))) :: [(id2, .arr v2 1 (em aI F)), (id1, .arr v1 1 (em aI l)), (23, .arr 1 1 (em aI (taken ++ [[116, 49], [116, 55]]))), (16, .box [.sl (em a_ L)]), (8, .box [.sl (em a_ L)])]) (iI _) (aG _) (fun i => .inl rfl) (by simp [dE, frz]) pN ?_)
   simp -implicitDefEqProofs
   have zF : (fC f.body).length ≤ 2 ^ 38 := by
    have h1 := qC (bP (bW f.body [])) []
    have h2 := f_ (bW f.body [])
    have h3 := e9 f.body []
    unfold fC
    simp at h1; omega
   have zN : (eZ f).length ≤ 2 ^ 39 := by
    unfold eZ
    have h1 := qC (kZ f) []
    have h2 : (kZ f).length ≤ 1 + f.params.length + 2 * size f.body := by
     unfold kZ
     have := fQ f.body
     rw [List.length_append]; simp; omega
    simp at h1; omega
   have q1 := BE f.body hfs.1
   have q2 := G5 f hfs.1 hfs.2
   have q3 := (DO hk).1
   have q4 := same_c (L := L) (by omega) (fun g hg => ⟨by have := hsz g hg; omega, by have := hsz g hg; omega, hrun.nm g hg⟩)
   have q5 := zW taken 5 hkt
   rw [if_pos (by decide), show (5 : Int).toNat = 5 from rfl, hFF] at q5
   have q6 := jA taken taken (by omega)
   have q7 := jA F F (by omega)
   have q8 := jA (fC f.body) (fC f.body) (by omega)
   have q9 := jA (eZ f) (eZ f) (by omega)
   have dt : ∀ {p : Prop} [Decidable p], p → decide p = true := fun h => decide_eq_true h
   rw [dt rfl] at q6 q7 q8 q9
   simp only [aA] at q1
   have hNe : c_ (kZ f) [] = eZ f := rfl
   generalize fC f.body = FN at *
   generalize eZ f = NN at *
   obtain ⟨n6, hn6⟩ : ∃ n6, n5 = n6 := ⟨_, rfl⟩
   refine lpG cf5 lb5_1 [20] (α := Nat × List (List UInt8)) (fun s _ => [(20, I s.1)]) (fun s _ => [(id4, .arr 0 1 (em aI NN)), (id3, .arr 0 1 (em aI s.2)), (id2, .arr v2 1 (em aI F)), (id1, .arr v1 1 (em aI l)), (23, .arr 1 1 (em aI (taken ++ [[116, 49], [116, 55]]))), (16, .box [.sl (em a_ L)]), (8, .box [.sl (em a_ L)])]) (fun s k => n6 ≤ k ∧ s.1 ≤ FN.length ∧ s.2.length = FN.length) (fun s => FN.length - s.1) (0, FN) ⟨by omega, by simp, rfl⟩ (by simp) (aL _) ?_
   rintro ⟨i, l3⟩ k2 ⟨hk6, hi, hl3⟩
   simp only at hk6 hi hl3
   by_cases hlt : i < FN.length
   ·have hlti : (i : Int) < (FN.length : Int) := by omega
    have hltl : i < l3.length := by omega
    have w1 := aX (x := (i : Int) + 1) (by omega) (by omega)
    simp -implicitDefEqProofs [lb5_1, hlti, hlt, hltl, hl3, y1, y2, y12, y21, y3, y31, y32, y13, y23, y4, y41, y42, y43, y14, y24, y34, w1, aI, hset]
    exact aK (i + 1, l3.set i wo) ⟨by omega, hlt, by simp only [List.length_set]; exact hl3⟩ (by simp only; omega) (by simp) (aL _)
   ·have hlti : ¬ (i : Int) < (FN.length : Int) := by omega
    have hie : i = FN.length := by omega
    subst hie
    clear hlt hlti hi
    simp -implicitDefEqProofs [lb5_1, hl3, y1, y2, y12, y21, y3, y31, y32, y13, y23, y4, y41, y42, y43, y14, y24, y34]
    refine lpG cf5 lb5_0 [21] (α := Nat × List (List UInt8)) (fun s _ => [(21, I s.1)]) (fun s _ => [(id4, .arr 0 1 (em aI s.2)), (id3, .arr 0 1 (em aI l3)), (id2, .arr v2 1 (em aI F)), (id1, .arr v1 1 (em aI l)), (23, .arr 1 1 (em aI (taken ++ [[116, 49], [116, 55]]))), (16, .box [.sl (em a_ L)]), (8, .box [.sl (em a_ L)])]) (fun s k => n6 ≤ k ∧ s.1 ≤ NN.length ∧ s.2.length = NN.length) (fun s => NN.length - s.1) (0, NN) ⟨by omega, by simp, rfl⟩ (by simp) (aL _) ?_
    rintro ⟨i, l4⟩ k3 ⟨hk7, hi, hl4⟩
    simp only at hk7 hi hl4
    by_cases hlt : i < NN.length
    ·have hlti : (i : Int) < (NN.length : Int) := by omega
     have hltl : i < l4.length := by omega
     have w1 := aX (x := (i : Int) + 1) (by omega) (by omega)
     simp -implicitDefEqProofs [lb5_0, hlti, hlt, hltl, hl4, y1, y2, y12, y21, y3, y31, y32, y13, y23, y4, y41, y42, y43, y14, y24, y34, w1, aI, hset]
     exact aK (i + 1, l4.set i wo) ⟨by omega, hlt, by simp only [List.length_set]; exact hl4⟩ (by simp only; omega) (by simp) (aL _)
    ·have hlti : ¬ (i : Int) < (NN.length : Int) := by omega
     have hie : i = NN.length := by omega
     subst hie
     clear hlt hlti hi
     simp -implicitDefEqProofs [lb5_0, hl4, y1, y2, y12, y21, y3, y31, y32, y13, y23, y4, y41, y42, y43, y14, y24, y34]
     refine aH q5 (by simp) ?_
     simp -implicitDefEqProofs [y1, y2, y3, y4]
     refine aH q3 (by simp) ?_
     simp -implicitDefEqProofs [y1, y2, y3, y4]
     have htk2 : List.take taken.length (em aI (taken ++ [[116, 49], [116, 55]])) = em aI taken := by simp [em]
     have hg1 : (em aI (taken ++ [[116, 49], [116, 55]]))[taken.length]? = some [Tx [116, 49]] := by simp [em, aI]
     have hg2 : (em aI (taken ++ [[116, 49], [116, 55]]))[taken.length + 1]? = some [Tx [116, 55]] := by simp [em, aI]
     have wL := aX (x := (taken.length : Int) + 1) (by omega) (by omega)
     have hi1 : (taken.length : Int) < (taken.length : Int) + 2 := by omega
     have hi2 : (taken.length : Int) + 1 < (taken.length : Int) + 2 := by omega
     have hi3 : ((taken.length : Int) + 1).toNat = taken.length + 1 := by omega
     have hi4 : 0 ≤ (taken.length : Int) + 1 := by omega
     refine aD (iE (d0 := .pl (.bool true)) (args' := [.sl (em aI taken), .sl (em aI taken)]) rfl (aG _) (by simp [dE, frz, look, y1, y2, y3, y4, htk2]) q6 ?_)
     simp -implicitDefEqProofs [y1, y2, y3, y4, hg1, hg2, wL, hi1, hi2, hi3, hi4, aI]
     refine aD (iE (d0 := .pl (.bool true)) (args' := [.sl (em aI F), .sl (em aI F)]) rfl (aG _) (by simp [dE, frz, look, y1, y2, y3, y4, y42, y32, List.take_of_length_le]) q7 ?_)
     simp -implicitDefEqProofs [y1, y2, y3, y4, hf, hfd, hL0]
     refine aH q1 (by simp) ?_
     simp -implicitDefEqProofs [y1, y2, y3, y4, hf, hfd, hL0]
     refine aD (iE (d0 := .pl (.bool true)) (args' := [.sl (em aI FN), .sl (em aI FN)]) rfl (aG _) (by simp [dE, frz]) q8 ?_)
     simp -implicitDefEqProofs [y1, y2, y3, y4, hf, hfd, hL0]
     refine aH q2 (by simp) ?_
     simp -implicitDefEqProofs [y1, y2, y3, y4, hf, hfd, hL0]
     refine aD (iE (d0 := .pl (.bool true)) (args' := [.sl (em aI NN), .sl (em aI NN)]) rfl (aG _) (by simp [dE, frz, hNe]) q9 ?_)
     simp -implicitDefEqProofs [y1, y2, y3, y4, hf, hfd, hL0]
     refine aH q4 (by simp) ?_
     simp -implicitDefEqProofs
 ·have hd : decide (w = 0) = false := by simp [hw]
  rw [hd] at hc
  simp -implicitDefEqProofs [ac5]
  refine aH (u2) (by simp) ?_
  simp -implicitDefEqProofs
  refine aH (hc) (by simp) ?_
  simp -implicitDefEqProofs
  refine aH (hc) (by simp) ?_
  simp -implicitDefEqProofs
theorem D3 {n : Nat} {ds : List D} (h : Wt Tryz.prog n 9 ds) : ∃ l : List UInt8, ds = aI l ∧ True := by
 cases n with
 | zero => exact h.elim
 | succ n =>
  simp only [Wt, Tryz.underlying9] at h
  obtain ⟨s, rfl, _⟩ := h
  exact ⟨s.data.toList, rfl, trivial⟩
theorem AX {x : D} (h : Arg Tryz.prog 35 x) : ∃ l : List (List UInt8), x = .sl (em aI l) ∧ l.length ≤ 2 ^ 43 := by
 obtain ⟨n, ds, h, k⟩ := h
 simp only [Tryz.underlying35] at k
 cases n with
 | zero => exact h.elim
 | succ n =>
  simp only [Wt, Tryz.underlying35] at h
  obtain ⟨es, rfl, hl, he⟩ := h
  obtain ⟨l, rfl, _⟩ := sK (enc := aI) (p := fun _ => True) fun c hc => D3 (he c hc)
  simp only [List.cons.injEq, and_true] at k
  refine ⟨l, k.symm, ?_⟩
  have hb : Tryz.prog.bytesOf 9 = 16 := by kernel_rfl
  rw [hb, wC] at hl
  unfold reachBytes at hl
  omega
theorem law_ScopeKeep : ∀ xs, Args Tryz.prog Tryz.f5.params.toList xs → Pure Tryz.prog 5 xs (.pl (.bool true)) := by
 intro xs h
 rw [Tryz.params5] at h
 simp only [Args] at h
 obtain ⟨x, r, rfl, hx, y, r2, rfl, hy, rfl⟩ := h
 obtain ⟨t, rfl, ht⟩ := BB hx
 obtain ⟨taken, rfl, hk⟩ := AX hy
 exact qL t ht taken hk
end Go.Fx.YtackkeoannbnbaaGreatDoor
set_option maxRecDepth 1000000
namespace Go.Proofs.YtackkeoannbnbaaGreatDoor.RowScopeKeep
open Go Go.Fx Go.Proofs Go.Proofs.YtackkeoannbnbaaGreatDoor
theorem fnRow : v8 Tryz.checked 5 Tryz.f5 Rows.scopeKeepSpec (Tryz.f5.resultTypes.getD 0 0) where
 own := by kernel_rfl
 noInit := by kernel_rfl
 func := Tryz.func5
 laid := by kernel_rfl
 params := by kernel_rfl
 res := by kernel_rfl
 bool := by kernel_rfl
 vars := rfl
 spec := by
  intro H ds h
  have h' : ds.length = 2 := h.trans (by kernel_rfl)
  match ds, h' with
  | [d0, d1], _ => rfl
theorem met (os : Os) (args : Array Value) : laidMetH Tryz.prog Rows.scopeKeepRow.laid ((World.laidAll Tryz.prog os Rows.scopeKeepRow.laid).forCall (fun _ _ => 0) ⟨#[], args, []⟩).memory := by
 rw [MakeChecks.laidMetH_plain _ _ _ (by kernel_rfl)]
 exact laidMet_laidAll args (by kernel_rfl) (by kernel_rfl)
theorem tabs (w : World) (h : laidMetH Tryz.prog Rows.scopeKeepRow.laid w) : TB Tryz.prog (· < w.heap.size) w :=
 Go.Fx.YtackkeoannbnbaaGreatDoor.tb_of_laid (G := 0) (by kernel_rfl) h (by kernel_rfl) (by kernel_rfl) (by kernel_rfl) (by kernel_rfl) (by kernel_rfl)
theorem over : Rows.scopeKeepRow.holds Tryz.pinned (OpenSpec.ofChange Rows.scopeKeepSpec) :=
 OpenClaim.holds_of_wide 5 Tryz.f5 rfl rfl rfl rfl rfl rfl rfl ⟨rfl, rfl, rfl, rfl, rfl⟩ rfl rfl rfl rfl rfl (by kernel_rfl) Tryz.func5 (by kernel_rfl)
  (of_decide_eq_true (by kernel_rfl)) (by unfold Func.isWrapper; first | (rw [if_pos (by decide +kernel)]; kernel_rfl) | (rw [if_neg (by decide +kernel)]; exact ⟨rfl, rfl⟩))
  (fun os started H enc _ => xY (C := Tryz.checked) (conds := []) (X := fun w => laidMetH Tryz.prog Rows.scopeKeepRow.laid w) fnRow started (fun _ _ hh h => h.of_heap hh) tabs
   (ChangeSpec.witness_shaped (enc := enc) (C := Tryz.checked) (os := os) (X := fun w _ => laidMetH Tryz.prog Rows.scopeKeepRow.laid w) false (World.laidAll Tryz.prog os Rows.scopeKeepRow.laid) #[.slice none 0 0, .slice none 0 0] 8 (World.laidAll_os _ _ _) (World.shaped_of_ZipB (by kernel_rfl) (by kernel_rfl)) (by kernel_rfl) (by kernel_rfl) (by kernel_rfl) (met os _)) Go.Fx.YtackkeoannbnbaaGreatDoor.law_ScopeKeep)
theorem stands : (Tryz.f5.params.toList.all fun u => !Tryz.prog.wantsStandIn u) = true := by kernel_rfl
theorem carded : Rows.ScopeKeepCardSaid :=
 Claim7.holds_tied_plain_at .later [] [.data, .data, .data] true Rows.scopeKeepCard.stood.harness false
  over (fun _ h => by cases h) (by kernel_rfl) (fun _ h => by cases h) scopeKeep_row_tie rfl ⟨rfl, rfl⟩ (by kernel_rfl) rfl
  (fun f fn hf hfn => by
   obtain rfl : f = 5 := Option.some.inj ((show Tryz.prog.funcNamed Rows.scopeKeepRow.func = some 5 by kernel_rfl).symm.trans hf) |>.symm
   obtain rfl : fn = Tryz.f5 := (Option.some.inj (Tryz.func5.symm.trans hfn)).symm
   exact ⟨by kernel_rfl, fun j t ht => by
    have hm : t ∈ Tryz.f5.params.toList := Array.mem_toList_iff.2 (Array.mem_of_getElem? ht)
    have := List.all_eq_true.1 stands t hm
    exact (show Tryz.prog.wantsStandIn t = false by simpa using this)⟩)
  (by kernel_rfl)
end Go.Proofs.YtackkeoannbnbaaGreatDoor.RowScopeKeep
namespace Go.Proofs.YtackkeoannbnbaaGreatDoor
theorem scopeKeep_holds : Rows.ScopeKeepCardSaid := RowScopeKeep.carded
#print axioms scopeKeep_holds
end Go.Proofs.YtackkeoannbnbaaGreatDoor

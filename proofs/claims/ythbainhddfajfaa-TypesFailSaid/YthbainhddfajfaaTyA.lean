/-
  Layer 7: the checker's blocks.
  Layer 7: what is told of an expression; types' all.
  Layer 7: types' call.
  Layer 7: types' own.
  Layer 7: types' want.
  Layer 7: types' open.
-/
import Derived.Test.YthbainhddfajfaaCodeTypes7
import Derived.Test.YthbainhddfajfaaR6B
set_option linter.all false
set_option maxRecDepth 100000
set_option maxHeartbeats 4000000
namespace Go.Fx.Ythbainhddfajfaa
open Go Go.Fx Go.Proofs Go.Fx.Flt
/-- What stays while a checker works: its blocks' numbers, the program, what tells a fault. -/
structure C7 where
  cid : Nat
  eid : Nat
  hid : Nat
  fid : Nat
  P : List Fn
  hd : Sm
  F : FuncId
  enc : Ft → List D
  step : Ft → Int → Ft
def C7.box (c : C7) (env : List Pm) (ver : Nat) : Blk := .box [.omap c.hid, .sl (em encFn c.P), .osl c.eid ver 0 env.length, .fn c.F [.opt c.fid 0]]
def C7.arr (env : List Pm) (ver : Nat) (X : List (List D)) : Blk := .arr ver 3 (em encPm env ++ X)
def mem7 (c : C7) (mem : Mem) (env : List Pm) (ver : Nat) (X : List (List D)) (s : Ft) : Mem := upd (upd (upd mem c.fid (.box (c.enc s))) c.eid (C7.arr env ver X)) c.cid (c.box env ver)
structure Wr (c : C7) : Prop where
  call : ∀ (s : Ft) (p : Int) ⦃mem : Mem⦄ ⦃nx : Nat⦄ ⦃K : KD⦄, look mem c.fid = some (.box (c.enc s)) → c.fid < nx → (∀ nx', nx ≤ nx' → K (.tup []) (upd mem c.fid (.box (c.enc (c.step s p)))) nx') → CallT Try.prog c.F [I p, .opt c.fid 0] mem nx K
structure E7 (c : C7) (mem : Mem) (nx : Nat) (env : List Pm) (ver : Nat) (X : List (List D)) (s : Ft) : Prop where
  lc : look mem c.cid = some (c.box env ver)
  le : look mem c.eid = some (C7.arr env ver X)
  lf : look mem c.fid = some (.box (c.enc s))
  lh : look mem c.hid = some (.map (encSm c.hd))
  ic : c.cid < nx
  ie : c.eid < nx
  if' : c.fid < nx
  ih : c.hid < nx
  ce : c.cid ≠ c.eid
  cf : c.cid ≠ c.fid
  ef : c.eid ≠ c.fid
  hc : c.hid ≠ c.cid
  he : c.hid ≠ c.eid
  hf : c.hid ≠ c.fid
section
variable {c : C7} {mem : Mem} {nx nx' ver ver' : Nat} {env env' : List Pm} {X X' : List (List D)} {s s' : Ft}
theorem look7 {j : Nat} (h1 : j ≠ c.cid) (h2 : j ≠ c.eid) (h3 : j ≠ c.fid) : look (mem7 c mem env ver X s) j = look mem j := by
  unfold mem7; rw [look_updN h1, look_updN h2, look_updN h3]
theorem E7.up (h : E7 c mem nx env ver X s) (hn : nx ≤ nx') : E7 c (mem7 c mem env' ver' X' s') nx' env' ver' X' s' := by
  refine ⟨?_, ?_, ?_, (look7 h.hc h.he h.hf).trans h.lh, Nat.lt_of_lt_of_le h.ic hn, Nat.lt_of_lt_of_le h.ie hn, Nat.lt_of_lt_of_le h.if' hn, Nat.lt_of_lt_of_le h.ih hn, h.ce, h.cf, h.ef, h.hc, h.he, h.hf⟩
  · unfold mem7; rw [look_updI, look_updN h.ce, look_updN h.cf, h.lc]; rfl
  · unfold mem7; rw [look_updN (Ne.symm h.ce), look_updI, look_updN h.ef, h.le]; rfl
  · unfold mem7; rw [look_updN (Ne.symm h.cf), look_updN (Ne.symm h.ef), look_updI, h.lf]; rfl
theorem E7.cons {k : Nat} {b : Blk} (h : E7 c mem nx env ver X s) (hk : nx ≤ k) (hn : nx ≤ nx') : E7 c ((k, b) :: mem) nx' env ver X s := by
  have e : ∀ j, j < nx → look ((k, b) :: mem) j = look mem j := fun j hj => by
    simp only [look]; rw [if_neg (by omega)]
  exact ⟨(e _ h.ic).trans h.lc, (e _ h.ie).trans h.le, (e _ h.if').trans h.lf, (e _ h.ih).trans h.lh, Nat.lt_of_lt_of_le h.ic hn, Nat.lt_of_lt_of_le h.ie hn, Nat.lt_of_lt_of_le h.if' hn, Nat.lt_of_lt_of_le h.ih hn, h.ce, h.cf, h.ef, h.hc, h.he, h.hf⟩
theorem E7.le_nx (h : E7 c mem nx env ver X s) (hn : nx ≤ nx') : E7 c mem nx' env ver X s :=
  ⟨h.lc, h.le, h.lf, h.lh, Nat.lt_of_lt_of_le h.ic hn, Nat.lt_of_lt_of_le h.ie hn, Nat.lt_of_lt_of_le h.if' hn, Nat.lt_of_lt_of_le h.ih hn, h.ce, h.cf, h.ef, h.hc, h.he, h.hf⟩
theorem mem7_same (h : E7 c mem nx env ver X s) : mem7 c mem env ver X s = mem := by
  unfold mem7; rw [upd_self h.lf, upd_self h.le, upd_self h.lc]
theorem mem7_cons {k : Nat} {b : Blk} (h1 : k ≠ c.cid) (h2 : k ≠ c.eid) (h3 : k ≠ c.fid) : mem7 c ((k, b) :: mem) env ver X s = (k, b) :: mem7 c mem env ver X s := by
  unfold mem7
  simp only [upd, h1, h2, h3, if_false]
theorem mem7_mem7 (h1 : c.cid ≠ c.eid) (h2 : c.cid ≠ c.fid) (h3 : c.eid ≠ c.fid) : mem7 c (mem7 c mem env ver X s) env' ver' X' s' = mem7 c mem env' ver' X' s' := by
  unfold mem7
  rw [upd_comm (i := c.cid) (j := c.fid) h2, upd_comm (i := c.cid) (j := c.eid) h1, upd_upd, upd_comm (i := c.eid) (j := c.fid) h3, upd_upd, upd_upd]
theorem mem7_f (h : E7 c mem nx env ver X s) : upd mem c.fid (.box (c.enc s')) = mem7 c mem env ver X s' := by
  have h1 : look (upd mem c.fid (.box (c.enc s'))) c.eid = some (C7.arr env ver X) := (look_updN h.ef).trans h.le
  have h2 : look (upd mem c.fid (.box (c.enc s'))) c.cid = some (c.box env ver) := (look_updN h.cf).trans h.lc
  unfold mem7
  rw [upd_self h1, upd_self h2]
theorem mem7_env (h : E7 c mem nx env ver X s) : upd (upd mem c.eid (C7.arr env' ver' X')) c.cid (c.box env' ver') = mem7 c mem env' ver' X' s := by
  unfold mem7
  rw [upd_self h.lf]
end
/-! ### The two ways to tell a fault -/
def ckStep (s : Ft) (p : Int) : Ft := tellF s 34 p
def ofStep (s : Ft) (_ : Int) : Ft := (IntKind.i64.wrap (s.1 + 1), 0)
theorem ck_wr (c : C7) (hF : c.F = 21) (he : c.enc = fun s => [I s.1, I s.2]) (hs : c.step = ckStep) : Wr c := by
  refine ⟨fun s p mem nx K hl hi hk => ?_⟩
  rw [he] at hl
  rw [he, hs] at hk
  rw [hF]
  generalize c.fid = fid at *
  simp only at hl hk
  refine ct21 (by simp) fun hfr => ?_
  unfold ckStep tellF at hk
  by_cases h1 : s.1 = 0
  · rw [if_pos (.inl h1)] at hk
    simp -implicitDefEqProofs [ac21, hl, h1]
    exact ⟨_, memSub_refl _, hk _ (by omega)⟩
  · by_cases h2 : p < s.2
    · rw [if_pos (.inr h2)] at hk
      simp -implicitDefEqProofs [ac21, hl, h1, h2]
      exact ⟨_, memSub_refl _, hk _ (by omega)⟩
    · rw [if_neg (by omega), upd_self hl] at hk
      simp -implicitDefEqProofs [ac21, hl, h1, h2]
      exact ⟨_, memSub_refl _, hk _ (by omega)⟩
theorem of_wr (c : C7) (hF : c.F = 25) (he : c.enc = fun s => [I s.1]) (hs : c.step = ofStep) : Wr c := by
  refine ⟨fun s p mem nx K hl hi hk => ?_⟩
  rw [he] at hl
  rw [he, hs] at hk
  rw [hF]
  generalize c.fid = fid at *
  simp only at hl hk
  refine ct25 (by simp) fun hfr => ?_
  unfold ofStep at hk
  simp -implicitDefEqProofs [ac25, hl]
  exact ⟨_, memSub_refl _, hk _ (by omega)⟩
theorem els_Pm {l : List Pm} {mem : Mem} : els mem 3 (.sl (em encPm l)) = some (em encPm l) := em_elsS (fun x => rfl) (fun x => rfl)
/-- A call with some names more around. -/
theorem in_c {c : C7} {mem : Mem} {nx ver : Nat} {env M : List Pm} {X : List (List D)} {s s' : Ft} {F' : FuncId} {caps : List D} {K : KD} (h : E7 c mem nx env ver X s) (hl : env.length + M.length ≤ 6 * 2 ^ 40)
    (hdo : ∀ (ver1 : Nat) (nx1 : Nat) (K' : KD), nx ≤ nx1 → (∀ ver2 X2 nx2, nx1 ≤ nx2 → K' (.tup []) (mem7 c mem (env ++ M) ver2 X2 s') nx2) → CallT Try.prog F' caps (mem7 c mem (env ++ M) ver1 [] s) nx1 K')
    (hk : ∀ ver2 X2 nx2, nx ≤ nx2 → K (.tup []) (mem7 c mem env ver2 X2 s') nx2) :
    CallT Try.prog 34 [.opt c.cid 0, .fn F' caps, .sl (em encPm M)] mem nx K := by
  refine ct34 (by simp) fun hfr => ?_
  have lc := h.lc
  have le := h.le
  unfold C7.box at lc
  unfold C7.arr at le
  have hb : (env.length + M.length) * 32 ≤ 3 * 2 ^ 46 := by omega
  have n1 := h.ce
  have lc2 : ∀ b, look (upd mem c.eid b) c.cid = some (.box [.omap c.hid, .sl (em encFn c.P), .osl c.eid ver 0 env.length, .fn c.F [.opt c.fid 0]]) := fun b => (look_updN h.ce).trans lc
  have hm : upd (upd mem c.eid (.arr (ver + 1) 3 (em encPm (env ++ M)))) c.cid (.box [.omap c.hid, .sl (em encFn c.P), .osl c.eid (ver + 1) 0 (env.length + M.length), .fn c.F [.opt c.fid 0]]) = mem7 c mem (env ++ M) (ver + 1) [] s := by
    have := mem7_env (env' := env ++ M) (ver' := ver + 1) (X' := []) h
    simpa [C7.arr, C7.box] using this
  simp -implicitDefEqProofs [-els, els_Pm, ac34, lc, le, hb, lc2, hm]
  refine clK_caps (hdo _ _ _ (by omega) (fun ver2 X2 nx2 hn2 => ?_))
  have hE := h.up (nx' := nx2) (env' := env ++ M) (ver' := ver2) (X' := X2) (s' := s') (by omega)
  have lc3 := hE.lc
  have le3 := hE.le
  unfold C7.box at lc3
  unfold C7.arr at le3
  have hm2 : upd (mem7 c mem (env ++ M) ver2 X2 s') c.cid (.box [.omap c.hid, .sl (em encFn c.P), .osl c.eid ver2 0 env.length, .fn c.F [.opt c.fid 0]]) = mem7 c mem env ver2 (em encPm M ++ X2) s' := by
    unfold mem7 C7.box C7.arr
    rw [upd_upd, ← em_app2, List.append_assoc]
  have hb2 : (env.length : Int) ≤ (env.length : Int) + (M.length : Int) := by omega
  have hs : slsD (mem7 c mem (env ++ M) ver2 X2 s') false 3 (.osl c.eid ver2 0 (env.length + M.length)) none (some (I env.length)) = some (.osl c.eid ver2 0 env.length) := by
    simp [slsD, curv, le3, bound, hb2]
  simp -implicitDefEqProofs [lc3, le3, hb2, hm2, hs]
  exact ⟨_, memSub_refl _, hk _ _ _ (by omega)⟩
end Go.Fx.Ythbainhddfajfaa
namespace Go.Fx.Ythbainhddfajfaa
open Go Go.Fx Go.Proofs Go.Fx.Flt
def hdF (P : List Fn) (n : List UInt8) : Fn := P[(headI P 0 n).toNat]?.getD default
def badH (P : List Fn) (n : List UInt8) (k : Nat) : Prop := headI P 0 n < 0 ∨ (hdF P n).params.length ≠ k
instance (P : List Fn) (n : List UInt8) (k : Nat) : Decidable (badH P n k) := by unfold badH; infer_instance
def lookR : List Pm → List UInt8 → Int
  | [], _ => 0
  | x :: xs, n => if x.name = n then x.type else lookR xs n
def lookE (env : List Pm) (n : List UInt8) : Int := lookR env.reverse n
def wantedI (P : List Fn) (op : Int) (n : List UInt8) (ty : Int) (i : Nat) (t : Int) : Int :=
  if op = 14 then 2 else if op = 18 then (if i = 1 then 3 else 1) else if op = 7 then ((hdF P n).params[i]?.getD default).type else
  if op = 19 then (if i = 0 then 2 else t) else if op = 20 then (if i = 0 then 3 else t) else if op = 21 ∨ op = 22 then (if i = 0 then ty else t) else 1
def withinI (env : List Pm) (op : Int) (n tl : List UInt8) (ty : Int) (i : Nat) : List Pm :=
  if op = 21 ∨ (op = 22 ∧ i = 1) then env ++ [⟨n, ty, 0⟩] else if op = 20 ∧ i = 2 then env ++ [⟨n, 1, 0⟩, ⟨tl, 3, 0⟩] else env
def ownI (P : List Fn) (env : List Pm) (op : Int) (n : List UInt8) (ty : Int) (k : Nat) : Int :=
  if op = 2 ∨ op = 3 then 2 else if op = 4 then 3 else if op = 5 then ty else if op = 6 then lookE env n else
  if op = 7 then (if badH P n k then 0 else (hdF P n).type) else if op = 14 then 2 else if op = 18 then 3 else if op = 12 ∨ op = 13 then 2 else 1
def ctlI (op : Int) : Prop := op = 19 ∨ op = 20 ∨ op = 21 ∨ op = 22
instance (op : Int) : Decidable (ctlI op) := by unfold ctlI; infer_instance
mutual
def wantL (P : List Fn) : List Pm → Ex → Int → List Int
  | env, .mk op n tl ty _ args p, t => (if op = 7 ∧ badH P n args.length then [] else wantsL P env op n tl ty t 0 args) ++ (if ctlI op ∨ ownI P env op n ty args.length = t then [] else [p])
def wantsL (P : List Fn) (env : List Pm) (op : Int) (n tl : List UInt8) (ty t : Int) (i : Nat) : List Ex → List Int
  | [] => []
  | x :: xs => wantL P (withinI env op n tl ty i) x (wantedI P op n ty i t) ++ wantsL P env op n tl ty t (i + 1) xs
end
mutual
def Sh : Ex → Prop
  | .mk op _ _ ty _ args _ => shape op ty args.length ∧ Shs args
def Shs : List Ex → Prop
  | [] => True
  | e :: es => Sh e ∧ Shs es
end
theorem Shs_mem : ∀ {l : List Ex} {x : Ex}, Shs l → x ∈ l → Sh x
  | e :: es, x, h, hx => by
    unfold Shs at h
    rcases List.mem_cons.1 hx with rfl | hx
    · exact h.1
    · exact Shs_mem h.2 hx
structure Cok (c : C7) : Prop where
  wr : Wr c
  rp : Rp c.P c.hd
  len : c.P.length < 2 ^ 40
def WT (e : Ex) : Prop := ∀ ⦃c : C7⦄ ⦃mem : Mem⦄ ⦃nx ver : Nat⦄ ⦃env : List Pm⦄ ⦃X : List (List D)⦄ ⦃s : Ft⦄ ⦃t : Int⦄ ⦃K : KD⦄, Cok c → E7 c mem nx env ver X s → env.length + 2 * size e ≤ 5 * 2 ^ 40 → Sh e →
  (∀ ver' X' nx', nx ≤ nx' → K (.tup []) (mem7 c mem env ver' X' ((wantL c.P env e t).foldl c.step s)) nx') → CallT Try.prog 22 [.opt c.cid 0, .agg (encEx e), I t] mem nx K
theorem wall_c (t : Int) (l : List Ex) (ih : ∀ x ∈ l, WT x) ⦃c : C7⦄ ⦃mem : Mem⦄ ⦃nx ver : Nat⦄ ⦃env : List Pm⦄ ⦃X : List (List D)⦄ ⦃s : Ft⦄ ⦃K : KD⦄ (hc : Cok c) (h : E7 c mem nx env ver X s) (hl : ∀ x ∈ l, env.length + 2 * size x ≤ 5 * 2 ^ 40) (hll : l.length ≤ 5 * 2 ^ 40) (hs : ∀ x ∈ l, Sh x)
    (hk : ∀ ver' X' nx', nx ≤ nx' → K (.tup []) (mem7 c mem env ver' X' ((l.flatMap (fun x => wantL c.P env x t)).foldl c.step s)) nx') :
    CallT Try.prog 33 [.opt c.cid 0, I t, .sl (em encEx l)] mem nx K := by
  refine ct33 (by simp) fun hfr => ?_
  generalize hR : (l.flatMap (fun x => wantL c.P env x t)).foldl c.step s = R at hk
  simp -implicitDefEqProofs [ac33]
  refine lp33_0 (α := Nat × Nat × List (List D) × Ft) (fun s _ => [(7, .top), (10, I s.1)]) (fun s _ => mem7 c mem env s.2.1 s.2.2.1 s.2.2.2) (fun s k => nx ≤ k ∧ s.1 ≤ l.length ∧ ((l.drop s.1).flatMap (fun x => wantL c.P env x t)).foldl c.step s.2.2.2 = R) (fun s => l.length - s.1) (0, ver, X, s) ⟨by omega, by simp, hR⟩ (by simp) (by simp [mem7_same h]) ?_
  rintro ⟨i, v1, X1, s1⟩ k ⟨hk1, hi, hr⟩
  simp only at hi hr
  by_cases hlt : i < l.length
  · have hd : l.drop i = l[i] :: l.drop (i + 1) := List.drop_eq_getElem_cons hlt
    have hmem : l[i] ∈ l := List.getElem_mem hlt
    rw [hd] at hr
    obtain ⟨x, hxe⟩ : ∃ x, l[i] = x := ⟨_, rfl⟩
    rw [hxe] at hr hmem
    rw [List.flatMap_cons, List.foldl_append] at hr
    have w1 := wr64 (x := (i : Int) + 1) (by omega) (by omega)
    have hE : E7 c (mem7 c mem env v1 X1 s1) k env v1 X1 s1 := h.up hk1
    have hx := fun (K : KD) (b : Nat) (n : Nat) (hb : k ≤ b) (hn : b < n) => ih x hmem hc (hE.cons (k := b) (b := .box (encEx x)) (nx' := n) hb (by omega)) (hl x hmem) (hs x hmem) (t := t) (K := K)
    simp only [encEx_eq] at hx
    simp -implicitDefEqProofs [lb33_0, hlt, hxe]
    have h1 := h.ic
    have h2 := h.ie
    have h3 := h.if'
    refine clK_of (hx _ _ _ (by omega) (by omega) (fun v2 X2 n2 hn2 => ?_))
    rw [mem7_cons (by omega) (by omega) (by omega), mem7_mem7 h.ce h.cf h.ef]
    simp -implicitDefEqProofs [w1]
    refine again_of (i + 1, v2, X2, _) ⟨by omega, hlt, hr⟩ (by simp only; omega) (by simp) (memLe_skip (memLe_refl _) ?_)
    rw [look7 (by omega) (by omega) (by omega)]
    exact hfr _ (by omega)
  · have hi2 : l.drop i = [] := List.drop_eq_nil_of_le (by omega)
    rw [hi2] at hr
    simp only [List.flatMap_nil, List.foldl_nil] at hr
    subst hr
    simp -implicitDefEqProofs [lb33_0, hlt]
    exact ⟨_, memSub_refl _, hk _ _ _ (by omega)⟩
end Go.Fx.Ythbainhddfajfaa

namespace Go.Fx.Ythbainhddfajfaa
open Go Go.Fx Go.Proofs Go.Fx.Flt
theorem call7_c (n tl : List UInt8) (ty : Int) (z : Cx) (args : List Ex) (p t : Int) (ih : ∀ x ∈ args, WT x) ⦃c : C7⦄ ⦃mem : Mem⦄ ⦃nx ver : Nat⦄ ⦃env : List Pm⦄ ⦃X : List (List D)⦄ ⦃s : Ft⦄ ⦃K : KD⦄ (hc : Cok c) (h : E7 c mem nx env ver X s) (hl : ∀ x ∈ args, env.length + 2 * size x ≤ 5 * 2 ^ 40) (hll : args.length ≤ 5 * 2 ^ 40) (hs : ∀ x ∈ args, Sh x)
    (hk : ∀ ver' X' nx', nx ≤ nx' → K (I (if badH c.P n args.length then 0 else (hdF c.P n).type)) (mem7 c mem env ver' X' ((if badH c.P n args.length then [] else wantsL c.P env 7 n tl ty t 0 args).foldl c.step s)) nx') :
    CallT Try.prog 51 [.opt c.cid 0, .agg (encEx (.mk 7 n tl ty z args p))] mem nx K := by
  refine ct51 (by simp) fun hfr => ?_
  have hlen := hc.len
  have hrp := hc.rp n
  have hh := headI_lt c.P 0 n
  have lc := h.lc
  have lh := h.lh
  unfold C7.box at lc
  generalize hQ : hdF c.P n = q at hk
  unfold hdF at hQ
  generalize hat : headI c.P 0 n = at' at *
  have w1 : IntKind.i64.wrap (at' + 1 - 1) = at' := by rw [wr64 (by omega) (by omega)]; omega
  have w2 : IntKind.i64.wrap at' = at' := wr64 (by omega) (by omega)
  simp only [encEx_mk]
  by_cases hb : at' < 0
  · have e0 : at' + 1 = 0 := by omega
    have hbad : badH c.P n args.length := .inl (by omega)
    rw [if_pos hbad, if_pos hbad] at hk
    simp -implicitDefEqProofs [ac51, lc, lh, hrp, e0]
    exact ⟨_, memSub_refl _, by simpa [mem7_same h] using hk ver X _ (by omega)⟩
  · have e0 : ¬ at' + 1 = 0 := by omega
    have b1 : 0 ≤ at' := by omega
    have b2 : at' < c.P.length := by omega
    have hil : at'.toNat < c.P.length := by omega
    have hq2 : c.P[at'.toNat]?.getD default = q := hQ
    have hq1 : c.P[at'.toNat] = q := by rw [List.getElem?_eq_getElem hil] at hQ; exact hQ
    have hq3 : hdF c.P n = q := by unfold hdF; rw [hat]; exact hQ
    by_cases hln : q.params.length = args.length
    · have hl2 : (q.params.length : Int) = (args.length : Int) := by omega
      have hbad : ¬ badH c.P n args.length := by unfold badH; rw [hq3]; omega
      rw [if_neg hbad, if_neg hbad] at hk
      simp -implicitDefEqProofs [ac51, lc, lh, hrp, e0, b1, b2, hq1, hq2, w1, w2, hl2]
      have hwi : ∀ i, withinI env 7 n tl ty i = env := fun i => by simp [withinI]
      have hwt : ∀ i, wantedI c.P 7 n ty i t = (q.params[i]?.getD default).type := fun i => by simp [wantedI, hq3]
      generalize hR : (wantsL c.P env 7 n tl ty t 0 args).foldl c.step s = R at hk
      have h1 := h.ic
      have h2 := h.ie
      have h3 := h.if'
      refine lp51_0 (α := Nat × Nat × List (List D) × Ft) (fun s _ => [(6, .top), (7, .top), (43, I s.1)]) (fun s _ => mem7 c mem env s.2.1 s.2.2.1 s.2.2.2) (fun s k => nx ≤ k ∧ s.1 ≤ args.length ∧ (wantsL c.P env 7 n tl ty t s.1 (args.drop s.1)).foldl c.step s.2.2.2 = R) (fun s => args.length - s.1) (0, ver, X, s) ⟨by omega, by simp, hR⟩ (by simp) (by simp [mem7_same h]) ?_
      rintro ⟨i, v1, X1, s1⟩ k ⟨hk1, hi, hr⟩
      simp only at hi hr
      have hE : E7 c (mem7 c mem env v1 X1 s1) k env v1 X1 s1 := h.up hk1
      by_cases hlt : i < args.length
      · have hd : args.drop i = args[i] :: args.drop (i + 1) := List.drop_eq_getElem_cons hlt
        have hmem : args[i] ∈ args := List.getElem_mem hlt
        have hltp : i < q.params.length := by omega
        rw [hd] at hr
        obtain ⟨x, hxe⟩ : ∃ x, args[i] = x := ⟨_, rfl⟩
        obtain ⟨y, hye⟩ : ∃ y, q.params[i] = y := ⟨_, rfl⟩
        have hye2 : q.params[i]?.getD default = y := by rw [List.getElem?_eq_getElem hltp]; exact hye
        rw [hxe] at hr hmem
        unfold wantsL at hr
        rw [List.foldl_append, hwi, hwt, hye2] at hr
        have w3 := wr64 (x := (i : Int) + 1) (by omega) (by omega)
        have hx := fun (K : KD) (b : Nat) (n : Nat) (hb : k ≤ b) (hn : b < n) => ih x hmem hc (hE.cons (k := b) (b := .box (encPm y)) (nx' := n) hb (by omega)) (hl x hmem) (hs x hmem) (t := y.type) (K := K)
        simp only [encEx_eq] at hx
        have hlt2 : (i : Int) < (q.params.length : Int) := by omega
        have hlt3 : (i : Int) < (args.length : Int) := by omega
        simp -implicitDefEqProofs [lb51_0, hlt, hltp, hxe, hye, hlt2, hlt3]
        refine clK_of (hx _ _ _ (by omega) (by omega) (fun v2 X2 n2 hn2 => ?_))
        rw [mem7_cons (by omega) (by omega) (by omega), mem7_mem7 h.ce h.cf h.ef]
        simp -implicitDefEqProofs [w3]
        refine again_of (i + 1, v2, X2, _) ⟨by omega, hlt, hr⟩ (by simp only; omega) (by simp) (memLe_skip (memLe_refl _) ?_)
        rw [look7 (by omega) (by omega) (by omega)]
        exact hfr _ (by omega)
      · have hi2 : args.drop i = [] := List.drop_eq_nil_of_le (by omega)
        rw [hi2] at hr
        unfold wantsL at hr
        simp only [List.foldl_nil] at hr
        subst hr
        have lc3 := hE.lc
        unfold C7.box at lc3
        have hlt2 : ¬ (i : Int) < (q.params.length : Int) := by omega
        have hlt3 : ¬ i < q.params.length := by omega
        simp -implicitDefEqProofs [lb51_0, hlt, hlt2, hlt3, lc3, b1, b2, hq1, hq2, w1, w2]
        exact ⟨_, memSub_refl _, hk _ _ _ (by omega)⟩
    · have hl2 : ¬ (q.params.length : Int) = (args.length : Int) := by omega
      have hbad : badH c.P n args.length := by unfold badH; rw [hq3]; exact .inr hln
      rw [if_pos hbad, if_pos hbad] at hk
      simp -implicitDefEqProofs [ac51, lc, lh, hrp, e0, b1, b2, hq1, hq2, w1, w2, hl2]
      exact ⟨_, memSub_refl _, by simpa [mem7_same h] using hk ver X _ (by omega)⟩
end Go.Fx.Ythbainhddfajfaa

namespace Go.Fx.Ythbainhddfajfaa
open Go Go.Fx Go.Proofs Go.Fx.Flt
theorem wantsL_all {P : List Fn} {env : List Pm} {op : Int} {n tl : List UInt8} {ty t T : Int} : ∀ (l : List Ex) (i : Nat), (∀ j, withinI env op n tl ty j = env ∧ wantedI P op n ty j t = T) → wantsL P env op n tl ty t i l = l.flatMap (fun x => wantL P env x T)
  | [], i, _ => rfl
  | x :: xs, i, h => by
    unfold wantsL
    rw [(h i).1, (h i).2, wantsL_all xs (i + 1) h, List.flatMap_cons]
theorem own7_c (op : Int) (n tl : List UInt8) (ty : Int) (z : Cx) (args : List Ex) (p t : Int) (ih : ∀ x ∈ args, WT x) (hctl : ¬ ctlI op) (hsh : shape op ty args.length) ⦃c : C7⦄ ⦃mem : Mem⦄ ⦃nx ver : Nat⦄ ⦃env : List Pm⦄ ⦃X : List (List D)⦄ ⦃s : Ft⦄ ⦃K : KD⦄ (hc : Cok c) (h : E7 c mem nx env ver X s) (hel : env.length ≤ 5 * 2 ^ 40) (hl : ∀ x ∈ args, env.length + 2 * size x ≤ 5 * 2 ^ 40) (hll : args.length ≤ 5 * 2 ^ 40) (hs : ∀ x ∈ args, Sh x)
    (hk : ∀ ver' X' nx', nx ≤ nx' → K (I (ownI c.P env op n ty args.length)) (mem7 c mem env ver' X' ((if op = 7 ∧ badH c.P n args.length then [] else wantsL c.P env op n tl ty t 0 args).foldl c.step s)) nx') :
    CallT Try.prog 38 [.opt c.cid 0, .agg (encEx (.mk op n tl ty z args p))] mem nx K := by
  refine ct38 (by simp) fun hfr => ?_
  have lc := h.lc
  have le := h.le
  unfold C7.box at lc
  unfold C7.arr at le
  have h1 := h.ic
  have h2 := h.ie
  have h3 := h.if'
  have hnil : ∀ (v : Int), args = [] → op ≠ 7 → ownI c.P env op n ty args.length = v → ∀ nx', nx ≤ nx' → ∃ mem', memSub mem mem' ∧ K (I v) mem' nx' := by
    intro v ha h7 hv nx' hn
    subst ha
    have := hk ver X nx' hn
    rw [if_neg (fun g => h7 g.1), hv] at this
    unfold wantsL at this
    rw [List.foldl_nil, mem7_same h] at this
    exact ⟨_, memSub_refl _, this⟩
  have hal : ∀ (T v : Int), op ≠ 7 → (∀ j, withinI env op n tl ty j = env ∧ wantedI c.P op n ty j t = T) → ownI c.P env op n ty args.length = v → ∀ (nx0 : Nat) (K' : KD), nx ≤ nx0 → (∀ ver' X' nx', nx0 ≤ nx' → (∀ nx2, nx' ≤ nx2 → K (I v) (mem7 c mem env ver' X' ((args.flatMap (fun x => wantL c.P env x T)).foldl c.step s)) nx2) → K' (.tup []) (mem7 c mem env ver' X' ((args.flatMap (fun x => wantL c.P env x T)).foldl c.step s)) nx') → CallT Try.prog 33 [.opt c.cid 0, I T, .sl (em encEx args)] mem nx0 K' := by
    intro T v h7 hw hv nx0 K' hn hK
    refine wall_c T args ih hc (h.le_nx hn) hl hll hs (fun ver' X' nx' hn' => hK ver' X' nx' hn' (fun nx2 hn2 => ?_))
    have := hk ver' X' nx2 (by omega)
    rw [if_neg (fun g => h7 g.1), hv, wantsL_all args 0 hw] at this
    exact this
  unfold ctlI at hctl
  simp only [encEx_mk]
  unfold shape at hsh
  by_cases e2 : op = 2
  · subst e2
    have ha : args = [] := List.eq_nil_of_length_eq_zero (by omega)
    simp -implicitDefEqProofs [ac38]
    exact hnil 2 ha (by decide) (by simp [ownI]) _ (by omega)
  by_cases e3 : op = 3
  · subst e3
    have ha : args = [] := List.eq_nil_of_length_eq_zero (by omega)
    simp -implicitDefEqProofs [ac38]
    exact hnil 2 ha (by decide) (by simp [ownI]) _ (by omega)
  by_cases e4 : op = 4
  · subst e4
    have ha : args = [] := List.eq_nil_of_length_eq_zero (by omega)
    simp -implicitDefEqProofs [ac38]
    exact hnil 3 ha (by decide) (by simp [ownI]) _ (by omega)
  by_cases e5 : op = 5
  · subst e5
    have ha : args = [] := List.eq_nil_of_length_eq_zero (by omega)
    simp -implicitDefEqProofs [ac38]
    exact hnil ty ha (by decide) (by simp [ownI]) _ (by omega)
  by_cases e6 : op = 6
  · subst e6
    have ha : args = [] := List.eq_nil_of_length_eq_zero (by omega)
    have w0 := wr64 (x := (env.length : Int) - 1) (by omega) (by omega)
    simp -implicitDefEqProofs [ac38, lc, le, w0]
    have hown : ownI c.P env 6 n ty args.length = lookR env.reverse n := by simp [ownI, lookE]
    have hfin := fun nx2 hn2 => hnil _ ha (by decide) hown nx2 hn2
    generalize hR : lookR env.reverse n = R at *
    refine lp38_0 (α := Nat) (fun s _ => [(4, .top), (5, I ((s : Int) - 1))]) (fun s _ => mem) (fun s k => nx ≤ k ∧ s ≤ env.length ∧ lookR (env.take s).reverse n = R) (fun s => s) env.length ⟨by omega, by simp, by rw [List.take_of_length_le (Nat.le_refl _)]; exact hR⟩ (by simp) (by simp) ?_
    rintro i k ⟨hk1, hi, hr⟩
    cases i with
    | zero =>
      simp only [List.take_zero, List.reverse_nil, lookR] at hr
      subst hr
      simp -implicitDefEqProofs [lb38_0]
      exact hfin _ (by omega)
    | succ j =>
      have hj : j < env.length := by omega
      have ht : (env.take (j + 1)).reverse = env[j] :: (env.take j).reverse := by
        rw [List.take_succ_eq_append_getElem hj, List.reverse_append]; rfl
      rw [ht] at hr
      unfold lookR at hr
      have hix : (em encPm env ++ X)[j]? = some [Tx env[j].name, I env[j].type, I env[j].at'] := by
        rw [List.getElem?_append_left (by simpa using hj)]; simp [em, hj, encPm]
      have hji : ((j + 1 : Nat) : Int) - 1 = j := by omega
      have w3 := wr64 (x := (j : Int) - 1) (by omega) (by omega)
      generalize env[j] = y at *
      by_cases hy : y.name = n
      · rw [if_pos hy] at hr
        subst hr
        simp -implicitDefEqProofs [lb38_0, hji, lc, le, hix, hy, hj]
        exact hfin _ (by omega)
      · rw [if_neg hy] at hr
        simp -implicitDefEqProofs [lb38_0, hji, lc, le, hix, hy, w3, hj]
        exact again_of j ⟨by omega, by omega, hr⟩ (by omega) (by simp) (by simp)
  by_cases e7 : op = 7
  · subst e7
    have hcall := fun (K : KD) (nx0 : Nat) (hn : nx ≤ nx0) => call7_c n tl ty z args p t ih (K := K) hc (h.le_nx hn) hl hll hs
    simp only [encEx_mk] at hcall
    simp -implicitDefEqProofs [ac38]
    refine clK_of (hcall _ _ (by omega) (fun v2 X2 n2 hn2 => ?_))
    simp -implicitDefEqProofs
    exact ⟨_, memSub_refl _, by simpa [ownI] using hk v2 X2 n2 (by omega)⟩
  by_cases e14 : op = 14
  · subst e14
    simp -implicitDefEqProofs [ac38]
    refine clK_of (hal 2 2 (by decide) (fun j => by simp [withinI, wantedI]) (by simp [ownI]) _ _ (by omega) (fun v2 X2 n2 hn2 hK => ?_))
    simp -implicitDefEqProofs
    exact ⟨_, memSub_refl _, hK _ (by omega)⟩
  by_cases e18 : op = 18
  · subst e18
    obtain ⟨a, b, rfl⟩ : ∃ a b, args = [a, b] := by
      match args, hsh with
      | [], hsh => simp at hsh
      | [a], hsh => simp at hsh
      | [a, b], _ => exact ⟨a, b, rfl⟩
      | a :: b :: c :: d, hsh => simp at hsh
    have ha := fun (K : KD) (nx0 : Nat) (hn : nx ≤ nx0) => ih a (by simp) (K := K) (t := 1) hc (h.le_nx hn) (hl a (by simp)) (hs a (by simp))
    have hb := fun (K : KD) (nx0 v1 : Nat) (X1 : List (List D)) (s1 : Ft) (hn : nx ≤ nx0) => ih b (by simp) (K := K) (t := 3) hc (h.up (nx' := nx0) (env' := env) (ver' := v1) (X' := X1) (s' := s1) hn) (hl b (by simp)) (hs b (by simp))
    simp only [encEx_eq] at ha hb
    simp -implicitDefEqProofs [ac38]
    refine clK_of (ha _ _ (by omega) (fun v2 X2 n2 hn2 => ?_))
    simp -implicitDefEqProofs
    refine clK_of (hb _ _ _ _ _ (by omega) (fun v3 X3 n3 hn3 => ?_))
    rw [mem7_mem7 h.ce h.cf h.ef]
    simp -implicitDefEqProofs
    exact ⟨_, memSub_refl _, by simpa [ownI, wantsL, withinI, wantedI] using hk v3 X3 (n3 + 1) (by omega)⟩
  simp -implicitDefEqProofs [ac38, e2, e3, e4, e5, e6, e7, e14, e18]
  have hwi : ∀ j, withinI env op n tl ty j = env ∧ wantedI c.P op n ty j t = 1 := fun j => by
    have e19 : ¬ op = 19 := fun g => hctl (.inl g)
    have e20 : ¬ op = 20 := fun g => hctl (.inr (.inl g))
    have e21 : ¬ op = 21 := fun g => hctl (.inr (.inr (.inl g)))
    have e22 : ¬ op = 22 := fun g => hctl (.inr (.inr (.inr g)))
    simp [withinI, wantedI, e7, e14, e18, e19, e20, e21, e22]
  refine clK_of (hal 1 _ e7 hwi rfl _ _ (by omega) (fun v2 X2 n2 hn2 hK => ?_))
  by_cases e12 : op = 12
  · have : ownI c.P env op n ty args.length = 2 := by subst e12; simp [ownI]
    rw [this] at hK
    simp -implicitDefEqProofs [e12]
    exact ⟨_, memSub_refl _, hK _ (by omega)⟩
  by_cases e13 : op = 13
  · have : ownI c.P env op n ty args.length = 2 := by subst e13; simp [ownI]
    rw [this] at hK
    simp -implicitDefEqProofs [e12, e13]
    exact ⟨_, memSub_refl _, hK _ (by omega)⟩
  have : ownI c.P env op n ty args.length = 1 := by simp [ownI, e2, e3, e4, e5, e6, e7, e14, e18, e12, e13]
  rw [this] at hK
  simp -implicitDefEqProofs [e12, e13]
  exact ⟨_, memSub_refl _, hK _ (by omega)⟩
end Go.Fx.Ythbainhddfajfaa

namespace Go.Fx.Ythbainhddfajfaa
open Go Go.Fx Go.Proofs Go.Fx.Flt
section
variable {op : Int} {n tl : List UInt8} {ty : Int} {z : Cx} {a b d : Ex} {p t : Int} {b3 b4 b5 : Nat} {c : C7} {mem : Mem} {nx ver : Nat} {env : List Pm} {X : List (List D)} {s : Ft} {K : KD}
theorem do1_c (hd : WT d) (l3 : look mem b3 = some (.box [.opt c.cid 0])) (l4 : look mem b4 = some (.box (encEx (.mk op n tl ty z [a, b, d] p)))) (l5 : look mem b5 = some (.box [I t])) (hc : Cok c) (h : E7 c mem nx env ver X s) (hz : env.length + 2 * size d ≤ 5 * 2 ^ 40) (hs : Sh d)
    (hk : ∀ ver' X' nx', nx ≤ nx' → K (.tup []) (mem7 c mem env ver' X' ((wantL c.P env d t).foldl c.step s)) nx') :
    CallT Try.prog 35 [.opt b3 0, .opt b4 0, .opt b5 0] mem nx K := by
  refine ct35 (by simp) fun hfr => ?_
  have hx := fun (K : KD) (nx0 : Nat) (hn : nx ≤ nx0) => hd (K := K) (t := t) hc (h.le_nx hn) hz hs
  simp only [encEx_mk] at l4
  simp only [encEx_eq] at hx
  simp -implicitDefEqProofs [ac35, l3, l4, l5]
  refine clK_of (hx _ _ (by omega) (fun v2 X2 n2 hn2 => ?_))
  simp -implicitDefEqProofs
  exact ⟨_, memSub_refl _, hk _ _ _ (by omega)⟩
theorem do2_c (ha : WT a) (hb : WT b) (l3 : look mem b3 = some (.box [.opt c.cid 0])) (l4 : look mem b4 = some (.box (encEx (.mk op n tl ty z [a, b] p)))) (l5 : look mem b5 = some (.box [I t])) (m3 : b3 ≠ c.cid ∧ b3 ≠ c.eid ∧ b3 ≠ c.fid) (m4 : b4 ≠ c.cid ∧ b4 ≠ c.eid ∧ b4 ≠ c.fid) (m5 : b5 ≠ c.cid ∧ b5 ≠ c.eid ∧ b5 ≠ c.fid) (hc : Cok c) (h : E7 c mem nx env ver X s) (hz : env.length + 2 * size a ≤ 5 * 2 ^ 40) (hzb : env.length + 2 * size b ≤ 5 * 2 ^ 40) (hs : Sh a) (hsb : Sh b)
    (hk : ∀ ver' X' nx', nx ≤ nx' → K (.tup []) (mem7 c mem env ver' X' ((wantL c.P env b t).foldl c.step ((wantL c.P env a ty).foldl c.step s))) nx') :
    CallT Try.prog 36 [.opt b3 0, .opt b4 0, .opt b5 0] mem nx K := by
  refine ct36 (by simp) fun hfr => ?_
  have hx := fun (K : KD) (nx0 : Nat) (hn : nx ≤ nx0) => ha (K := K) (t := ty) hc (h.le_nx hn) hz hs
  have hy := fun (K : KD) (nx0 v1 : Nat) (X1 : List (List D)) (s1 : Ft) (hn : nx ≤ nx0) => hb (K := K) (t := t) hc (h.up (nx' := nx0) (env' := env) (ver' := v1) (X' := X1) (s' := s1) hn) hzb hsb
  simp only [encEx_mk] at l4
  simp only [encEx_eq] at hx hy
  simp -implicitDefEqProofs [ac36, l3, l4, l5]
  refine clK_of (hx _ _ (by omega) (fun v2 X2 n2 hn2 => ?_))
  simp -implicitDefEqProofs [l3, l4, l5, look7 m3.1 m3.2.1 m3.2.2, look7 m4.1 m4.2.1 m4.2.2, look7 m5.1 m5.2.1 m5.2.2]
  refine clK_of (hy _ _ _ _ _ (by omega) (fun v3 X3 n3 hn3 => ?_))
  rw [mem7_mem7 h.ce h.cf h.ef]
  simp -implicitDefEqProofs
  exact ⟨_, memSub_refl _, hk _ _ _ (by omega)⟩
theorem do3_c (hb : WT b) (l3 : look mem b3 = some (.box [.opt c.cid 0])) (l4 : look mem b4 = some (.box (encEx (.mk op n tl ty z [a, b] p)))) (l5 : look mem b5 = some (.box [I t])) (hc : Cok c) (h : E7 c mem nx env ver X s) (hz : env.length + 2 * size b ≤ 5 * 2 ^ 40) (hs : Sh b)
    (hk : ∀ ver' X' nx', nx ≤ nx' → K (.tup []) (mem7 c mem env ver' X' ((wantL c.P env b t).foldl c.step s)) nx') :
    CallT Try.prog 37 [.opt b3 0, .opt b4 0, .opt b5 0] mem nx K := by
  refine ct37 (by simp) fun hfr => ?_
  have hx := fun (K : KD) (nx0 : Nat) (hn : nx ≤ nx0) => hb (K := K) (t := t) hc (h.le_nx hn) hz hs
  simp only [encEx_mk] at l4
  simp only [encEx_eq] at hx
  simp -implicitDefEqProofs [ac37, l3, l4, l5]
  refine clK_of (hx _ _ (by omega) (fun v2 X2 n2 hn2 => ?_))
  simp -implicitDefEqProofs
  exact ⟨_, memSub_refl _, hk _ _ _ (by omega)⟩
end
theorem two_of {l : List Ex} (h : l.length = 2) : ∃ a b, l = [a, b] := by
  match l, h with
  | [a, b], _ => exact ⟨a, b, rfl⟩
theorem three_of {l : List Ex} (h : l.length = 3) : ∃ a b d, l = [a, b, d] := by
  match l, h with
  | [a, b, d], _ => exact ⟨a, b, d, rfl⟩
theorem want_s (op : Int) (n tl : List UInt8) (ty : Int) (z : Cx) (args : List Ex) (p : Int) (ih : ∀ x ∈ args, WT x) : WT (.mk op n tl ty z args p) := by
  intro c mem nx ver env X s t K hc h hz hs hk
  have hsz : ∀ x ∈ args, env.length + 2 * size x + 2 ≤ 5 * 2 ^ 40 := fun x hx => by
    have := size_mem hx
    simp only [size] at hz; omega
  have hll : args.length ≤ 5 * 2 ^ 40 := by
    have := size_len args
    simp only [size] at hz; omega
  unfold Sh at hs
  have hsh : ∀ x ∈ args, Sh x := fun x hx => Shs_mem hs.2 hx
  have hs1 := hs.1
  have h1 := h.ic
  have h2 := h.ie
  have h3 := h.if'
  -- the end: is the type the wanted one?
  refine ct22 (by simp) fun hfr => ?_
  unfold wantL at hk
  rw [List.foldl_append] at hk
  simp only [encEx_mk]
  have hM0 : ∀ (M0 : Mem), M0 = (nx + 2, .box [I t]) :: (nx + 1, .box [I op, Tx n, Tx tl, I ty, CX z.re z.im, .sl (em encEx args), I p]) :: (nx, .box [.opt c.cid 0]) :: mem →
      (∀ n0, nx + 2 < n0 → E7 c M0 n0 env ver X s) ∧ (∀ v X' s', memSub (mem7 c M0 env v X' s') (mem7 c mem env v X' s')) ∧ (∀ e v X' s', look (mem7 c M0 e v X' s') nx = some (.box [.opt c.cid 0]) ∧ look (mem7 c M0 e v X' s') (nx + 1) = some (.box [I op, Tx n, Tx tl, I ty, CX z.re z.im, .sl (em encEx args), I p]) ∧ look (mem7 c M0 e v X' s') (nx + 2) = some (.box [I t])) := by
    rintro M0 rfl
    refine ⟨fun n0 hn => ((h.cons (nx' := nx + 1) (by omega) (by omega)).cons (nx' := nx + 2) (by omega) (by omega)).cons (by omega) (by omega), fun v X' s' => ?_, fun e v X' s' => ⟨?_, ?_, ?_⟩⟩
    · rw [mem7_cons (by omega) (by omega) (by omega), mem7_cons (by omega) (by omega) (by omega), mem7_cons (by omega) (by omega) (by omega)]
      have hn : ∀ j, nx ≤ j → look (mem7 c mem env v X' s') j = none := fun j hj => by
        rw [look7 (by omega) (by omega) (by omega)]; exact hfr j hj
      exact memSub_skip (memSub_skip (memSub_skip (memSub_refl _) (hn _ (by omega))) (hn _ (by omega))) (hn _ (by omega))
    · rw [look7 (by omega) (by omega) (by omega)]; simp [look]
    · rw [look7 (by omega) (by omega) (by omega)]; simp [look]
    · rw [look7 (by omega) (by omega) (by omega)]; simp [look]
  obtain ⟨hE0, hsub, hlk⟩ := hM0 _ rfl
  clear hM0
  have l3 := fun e v X' s' => (hlk e v X' s').1
  have l4 := fun e v X' s' => (hlk e v X' s').2.1
  have l5 := fun e v X' s' => (hlk e v X' s').2.2
  clear hlk
  have hown := fun (hctl : ¬ ctlI op) (K : KD) (nx0 : Nat) (hn : nx + 2 < nx0) => own7_c op n tl ty z args p t ih hctl hs1 (K := K) hc (hE0 nx0 hn) (by omega) (fun x hx => by have := hsz x hx; omega) hll hsh
  have hw : ∀ x ∈ args, ∀ (T : Int) (K : KD) (nx0 v1 : Nat) (X1 : List (List D)) (s1 : Ft), nx + 2 < nx0 → _ := fun x hx T K nx0 v1 X1 s1 hn => ih x hx (K := K) (t := T) hc ((hE0 nx0 hn).up (Nat.le_refl _) (env' := env) (ver' := v1) (X' := X1) (s' := s1)) (by have := hsz x hx; omega) (hsh x hx)
  have hwall : ∀ (l : List Ex), (∀ x ∈ l, x ∈ args) → l.length ≤ args.length → ∀ (T : Int) (K : KD) (nx0 v1 : Nat) (X1 : List (List D)) (s1 : Ft), nx + 2 < nx0 → _ := fun l hl hle T K nx0 v1 X1 s1 hn => wall_c T l (fun x hx => ih x (hl x hx)) (K := K) hc ((hE0 nx0 hn).up (Nat.le_refl _) (env' := env) (ver' := v1) (X' := X1) (s' := s1)) (fun x hx => by have := hsz x (hl x hx); omega) (by omega) (fun x hx => hsh x (hl x hx))
  simp only [mem7_mem7 h.ce h.cf h.ef] at hw hwall
  simp only [encEx_mk] at hown
  have hin : ∀ (M : List Pm) (F' : FuncId) (caps : List D) (K : KD) (nx0 v1 : Nat) (X1 : List (List D)) (s1 s2 : Ft), M.length ≤ 2 → nx + 2 < nx0 → _ := fun M F' caps K nx0 v1 X1 s1 s2 hM hn => in_c (M := M) (F' := F') (caps := caps) (s' := s2) (K := K) ((hE0 nx0 hn).up (Nat.le_refl _) (env' := env) (ver' := v1) (X' := X1) (s' := s1)) (by omega)
  simp only [mem7_mem7 h.ce h.cf h.ef] at hin
  have hsame := mem7_same (hE0 (nx + 3) (by omega))
  by_cases e19 : op = 19
  · subst e19
    obtain ⟨a, b, d, rfl⟩ : ∃ a b d, args = [a, b, d] := three_of (by unfold shape at hs1; omega)
    simp [ctlI, wantsL, withinI, wantedI] at hk
    simp only [encEx_eq] at hw
    simp -implicitDefEqProofs [ac22]
    generalize (nx + 2, Blk.box [I t]) :: (nx + 1, .box [I 19, Tx n, Tx tl, I ty, CX z.re z.im, .sl (em encEx [a, b, d]), I p]) :: (nx, .box [.opt c.cid 0]) :: mem = M0 at *
    rw [← hsame]
    refine clK_of (hw a (by simp) 2 _ _ _ _ _ (by omega) (fun v2 X2 n2 hn2 => ?_))
    have hsl : ∀ m, slsD m false 7 (.sl (em encEx [a, b, d])) (some (.pl (.int .i64 1))) none = some (.sl (em encEx [b, d])) := fun m => by
      simp [slsD, bound, em, encEx_eq]
    simp -implicitDefEqProofs [l3, l4, l5, hsl]
    refine clK_of (hwall [b, d] (by simp) (by simp) t _ _ _ _ _ (by omega) (fun v3 X3 n3 hn3 => ?_))
    simp -implicitDefEqProofs [l3, l4, l5]
    exact ⟨_, hsub _ _ _, by simpa using hk v3 X3 _ (by omega)⟩
  by_cases e20 : op = 20
  · subst e20
    obtain ⟨a, b, d, rfl⟩ : ∃ a b d, args = [a, b, d] := three_of (by unfold shape at hs1; omega)
    simp [ctlI, wantsL, withinI, wantedI] at hk
    simp only [encEx_eq] at hw
    simp -implicitDefEqProofs [ac22]
    generalize (nx + 2, Blk.box [I t]) :: (nx + 1, .box [I 20, Tx n, Tx tl, I ty, CX z.re z.im, .sl (em encEx [a, b, d]), I p]) :: (nx, .box [.opt c.cid 0]) :: mem = M0 at *
    rw [← hsame]
    refine clK_of (hw a (by simp) 3 _ _ _ _ _ (by omega) (fun v2 X2 n2 hn2 => ?_))
    simp -implicitDefEqProofs [l3, l4, l5]
    refine clK_of (hw b (by simp) t _ _ _ _ _ (by omega) (fun v3 X3 n3 hn3 => ?_))
    simp -implicitDefEqProofs [l3, l4, l5]
    refine clK_of (hin [⟨n, 1, 0⟩, ⟨tl, 3, 0⟩] _ _ _ _ _ _ _ ((wantL c.P (env ++ [⟨n, 1, 0⟩, ⟨tl, 3, 0⟩]) d t).foldl c.step ((wantL c.P env b t).foldl c.step ((wantL c.P env a 3).foldl c.step s))) (by simp) (by omega) (fun ver1 nx1 K' hn1 hK => ?_) (fun v4 X4 n4 hn4 => ?_))
    · refine do1_c (ih d (by simp)) (l3 _ _ _ _) (by rw [encEx_mk]; exact l4 _ _ _ _) (l5 _ _ _ _) hc ((hE0 _ (by omega)).up (Nat.le_refl _)) (by have := hsz d (by simp); simp only [List.length_append, List.length_cons, List.length_nil]; omega) (hsh d (by simp)) (fun v5 X5 n5 hn5 => ?_)
      rw [mem7_mem7 h.ce h.cf h.ef]
      exact hK _ _ _ hn5
    · simp -implicitDefEqProofs [l3, l4, l5]
      exact ⟨_, hsub _ _ _, by simpa using hk v4 X4 _ (by omega)⟩
  by_cases e21 : op = 21
  · subst e21
    obtain ⟨a, b, rfl⟩ : ∃ a b, args = [a, b] := two_of (by unfold shape at hs1; omega)
    simp [ctlI, wantsL, withinI, wantedI] at hk
    simp only [encEx_eq] at hw
    simp -implicitDefEqProofs [ac22]
    generalize (nx + 2, Blk.box [I t]) :: (nx + 1, .box [I 21, Tx n, Tx tl, I ty, CX z.re z.im, .sl (em encEx [a, b]), I p]) :: (nx, .box [.opt c.cid 0]) :: mem = M0 at *
    rw [← hsame]
    refine clK_of (hin [⟨n, ty, 0⟩] _ _ _ _ _ _ _ ((wantL c.P (env ++ [⟨n, ty, 0⟩]) b t).foldl c.step ((wantL c.P (env ++ [⟨n, ty, 0⟩]) a ty).foldl c.step s)) (by simp) (by omega) (fun ver1 nx1 K' hn1 hK => ?_) (fun v4 X4 n4 hn4 => ?_))
    · refine do2_c (ih a (by simp)) (ih b (by simp)) (l3 _ _ _ _) (by rw [encEx_mk]; exact l4 _ _ _ _) (l5 _ _ _ _) (by omega) (by omega) (by omega) hc ((hE0 _ (by omega)).up (Nat.le_refl _)) (by have := hsz a (by simp); simp only [List.length_append, List.length_cons, List.length_nil]; omega) (by have := hsz b (by simp); simp only [List.length_append, List.length_cons, List.length_nil]; omega) (hsh a (by simp)) (hsh b (by simp)) (fun v5 X5 n5 hn5 => ?_)
      rw [mem7_mem7 h.ce h.cf h.ef]
      exact hK _ _ _ hn5
    · simp -implicitDefEqProofs [l3, l4, l5]
      exact ⟨_, hsub _ _ _, by simpa using hk v4 X4 _ (by omega)⟩
  by_cases e22 : op = 22
  · subst e22
    obtain ⟨a, b, rfl⟩ : ∃ a b, args = [a, b] := two_of (by unfold shape at hs1; omega)
    simp [ctlI, wantsL, withinI, wantedI] at hk
    simp only [encEx_eq] at hw
    simp -implicitDefEqProofs [ac22]
    generalize (nx + 2, Blk.box [I t]) :: (nx + 1, .box [I 22, Tx n, Tx tl, I ty, CX z.re z.im, .sl (em encEx [a, b]), I p]) :: (nx, .box [.opt c.cid 0]) :: mem = M0 at *
    rw [← hsame]
    refine clK_of (hw a (by simp) ty _ _ _ _ _ (by omega) (fun v2 X2 n2 hn2 => ?_))
    simp -implicitDefEqProofs [l3, l4, l5]
    refine clK_of (hin [⟨n, ty, 0⟩] _ _ _ _ _ _ _ ((wantL c.P (env ++ [⟨n, ty, 0⟩]) b t).foldl c.step ((wantL c.P env a ty).foldl c.step s)) (by simp) (by omega) (fun ver1 nx1 K' hn1 hK => ?_) (fun v4 X4 n4 hn4 => ?_))
    · refine do3_c (ih b (by simp)) (l3 _ _ _ _) (by rw [encEx_mk]; exact l4 _ _ _ _) (l5 _ _ _ _) hc ((hE0 _ (by omega)).up (Nat.le_refl _)) (by have := hsz b (by simp); simp only [List.length_append, List.length_cons, List.length_nil]; omega) (hsh b (by simp)) (fun v5 X5 n5 hn5 => ?_)
      rw [mem7_mem7 h.ce h.cf h.ef]
      exact hK _ _ _ hn5
    · simp -implicitDefEqProofs [l3, l4, l5]
      exact ⟨_, hsub _ _ _, by simpa using hk v4 X4 _ (by omega)⟩
  have hctl : ¬ ctlI op := by unfold ctlI; omega
  simp -implicitDefEqProofs [ac22, e19, e20, e21, e22]
  generalize (nx + 2, Blk.box [I t]) :: (nx + 1, .box [I op, Tx n, Tx tl, I ty, CX z.re z.im, .sl (em encEx args), I p]) :: (nx, .box [.opt c.cid 0]) :: mem = M0 at *
  refine clK_of (hown hctl _ _ (by omega) (fun v2 X2 n2 hn2 => ?_))
  generalize (if op = 7 ∧ badH c.P n args.length then [] else wantsL c.P env op n tl ty t 0 args).foldl c.step s = s2 at *
  by_cases ho : ownI c.P env op n ty args.length = t
  · rw [if_pos (.inr ho)] at hk
    simp -implicitDefEqProofs [l3, l4, l5, ho]
    exact ⟨_, hsub _ _ _, hk v2 X2 _ (by omega)⟩
  · rw [if_neg (fun g => g.elim hctl ho)] at hk
    have hE2 := (hE0 n2 (by omega)).up (Nat.le_refl _) (env' := env) (ver' := v2) (X' := X2) (s' := s2)
    have lc2 := hE2.lc
    unfold C7.box at lc2
    simp -implicitDefEqProofs [l3, l4, l5, ho, lc2]
    refine clK_caps (hc.wr.call s2 p hE2.lf (by omega) (fun n3 hn3 => ?_))
    rw [mem7_f hE2, mem7_mem7 h.ce h.cf h.ef]
    simp -implicitDefEqProofs
    exact ⟨_, hsub _ _ _, hk v2 X2 _ (by omega)⟩
mutual
theorem twant_c : ∀ (e : Ex), WT e
  | .mk op n t ty z args p => want_s op n t ty z args p (twant_cs args)
theorem twant_cs : ∀ (l : List Ex), ∀ x ∈ l, WT x
  | [], x, h => by simp at h
  | e :: es, x, h => (List.mem_cons.1 h).elim (fun he => he ▸ twant_c e) (fun h => twant_cs es x h)
end
end Go.Fx.Ythbainhddfajfaa

namespace Go.Fx.Ythbainhddfajfaa
open Go Go.Fx Go.Proofs Go.Fx.Flt
theorem open_c (P : List Fn) (hP : P.length < 2 ^ 40) (F : FuncId) (fid : Nat) ⦃mem : Mem⦄ ⦃nx : Nat⦄ ⦃K : KD⦄
    (hk : ∀ (hd : Sm) nx', Rp P hd → nx + 8 ≤ nx' → K (.opt (nx + 7) 0) ((nx + 7, .box [.omap (nx + 2), .sl (em encFn P), .pl (.slice none 0 0), .fn F [.opt fid 0]]) :: (nx + 2, .map (encSm hd)) :: mem) nx') :
    CallT Try.prog 20 [.agg [.sl (em encFn P)], .fn F [.opt fid 0]] mem nx K := by
  refine ct20 (by simp) fun hfr => ?_
  have w0 := wr64 (x := (P.length : Int) - 1) (by omega) (by omega)
  simp -implicitDefEqProofs [ac20, w0]
  have hid : ∀ k, nx + 2 + 7 + 5 ≤ k → (nx + 2 + 5 = nx + 2) = False := fun k _ => eq_false (by omega)
  refine lp20_0 (α := Nat × Sm) (fun s _ => [(6, I ((s.1 : Int) - 1))]) (fun s _ => (nx + 2 + 5, .box [.omap (nx + 2), .sl (em encFn P), .pl (.slice none 0 0), .fn F [.opt fid 0]]) :: (nx + 2, .map (encSm s.2)) :: mem) (fun s k => nx + 14 ≤ k ∧ s.1 ≤ P.length ∧ ∀ n, getS s.2 n = headI (P.drop s.1) s.1 n + 1) (fun s => s.1) (P.length, []) ⟨by omega, by simp, fun n => by rw [List.drop_eq_nil_of_le (Nat.le_refl _), getS_nil]; rfl⟩ (by simp) (memLe_refl _) ?_
  rintro ⟨i, m⟩ k ⟨hk1, hi, hm⟩
  simp only at hi hm
  cases i with
  | zero =>
    rw [List.drop_zero] at hm
    simp -implicitDefEqProofs [lb20_0]
    exact ⟨_, memSub_refl _, hk m _ hm (by omega)⟩
  | succ j =>
    have hj : j < P.length := by omega
    have hji : ((j + 1 : Nat) : Int) - 1 = j := by omega
    have w1 := wr64 (x := (j : Int) + 1) (by omega) (by omega)
    have w3 := wr64 (x := (j : Int) - 1) (by omega) (by omega)
    have hd : P.drop j = P[j] :: P.drop (j + 1) := List.drop_eq_getElem_cons hj
    have hm2 : ∀ n, getS (putS m P[j].name (j + 1)) n = headI (P.drop j) j n + 1 := fun n => by
      rw [getS_put, hd]
      unfold headI
      by_cases e : P[j].name = n
      · rw [if_pos e, if_pos e]
      · rw [if_neg e, if_neg e, hm n]
    obtain ⟨x, hxe⟩ : ∃ x, P[j] = x := ⟨_, rfl⟩
    rw [hxe] at hm2
    simp -implicitDefEqProofs [lb20_0, hji, hxe, hj, w1, w3]
    exact again_of (j, putS m x.name (j + 1)) ⟨by omega, by omega, hm2⟩ (by simp only; omega) (by simp) (memLe_refl _)
end Go.Fx.Ythbainhddfajfaa

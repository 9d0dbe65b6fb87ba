/-
  Layer 6: scope's Check and the reference's answer alike. Plain.
  Layer 6: scope's Check and the reference's answer alike, for what some text is read as.
-/
import Derived.Test.YthbainhddfajfaaR6A
import Derived.Test.YthbainhddfajfaaSc
set_option linter.all false
set_option maxRecDepth 100000
set_option maxHeartbeats 4000000
namespace Go.Fx.Ythbainhddfajfaa
open Go Go.Fx Go.Proofs Go.Fx.Flt
theorem leastF_app : ∀ (a b : List Ft) (s : Ft), leastF (a ++ b) s = leastF b (leastF a s)
  | [], b, s => rfl
  | x :: xs, b, s => leastF_app xs b _
theorem seenFaults_app (P : List Fn) : ∀ (a b : List Sn), seenFaults P (a ++ b) = seenFaults P a ++ seenFaults P b
  | [], b => rfl
  | x :: xs, b => by
    show _ ++ seenFaults P (xs ++ b) = _ ++ seenFaults P xs ++ _
    rw [seenFaults_app P xs b]; simp only [List.append_assoc]
def Rm (m : Sm) (N : List (List UInt8)) : Prop := ∀ n, getS m n = (N.count n : Int)
theorem hasF_iff : ∀ (N : List (List UInt8)) (n : List UInt8), hasF N n = true ↔ 0 < N.count n
  | [], n => by simp [hasF]
  | x :: xs, n => by
    unfold hasF
    rw [List.count_cons]
    by_cases h : x = n
    · simp [h]
    · rw [if_neg h, hasF_iff xs n]; simp [h]
theorem Rm.inc {m : Sm} {N : List (List UInt8)} (h : Rm m N) (hN : N.length < 2 ^ 62) (x : List UInt8) : Rm (incM m x) (N ++ [x]) := fun n => by
  have hc := List.count_le_length (a := x) (l := N)
  unfold incM
  rw [getS_put, List.count_append, h x, wr64 (by omega) (by omega)]
  by_cases e : x = n
  · subst e; simp
  · rw [if_neg e, h n]
    simp [e]
theorem Rm.incs : ∀ (M : List (List UInt8)) {m : Sm} {N : List (List UInt8)}, Rm m N → N.length + M.length < 2 ^ 62 → Rm (M.foldl incM m) (N ++ M)
  | [], m, N, h, _ => by simpa using h
  | x :: xs, m, N, h, hl => by
    simp only [List.length_cons] at hl
    have := Rm.incs xs (h.inc (by omega) x) (by simp only [List.length_append, List.length_cons, List.length_nil]; omega)
    simpa using this
theorem Rm.decs : ∀ (M : List (List UInt8)) {m : Sm} {N : List (List UInt8)}, Rm m (N ++ M) → N.length + M.length < 2 ^ 62 → Rm (M.foldl decM m) N
  | [], m, N, h, _ => by simpa using h
  | x :: xs, m, N, h, hl => by
    simp only [List.length_cons] at hl
    refine Rm.decs xs (fun n => ?_) (by omega)
    have hx := h x
    rw [List.count_append, List.count_cons_self] at hx
    have hc := List.count_le_length (a := x) (l := N)
    have hc2 := List.count_le_length (a := x) (l := xs)
    unfold decM
    rw [getS_put, hx, wr64 (by omega) (by omega)]
    by_cases e : x = n
    · subst e; rw [if_pos rfl, List.count_append]; omega
    · rw [if_neg e, h n, List.count_append, List.count_append, List.count_cons_of_ne e]
def Rp (P : List Fn) (pl : Sm) : Prop := ∀ n, getS pl n = headI P 0 n + 1
theorem visit_eq {P : List Fn} {pl m : Sm} {N : List (List UInt8)} (h : Rm m N) (hp : Rp P pl) (op : Int) (n t : List UInt8) (ty : Int) (z : Cx) (args : List Ex) (p : Int) (s : Ft) (L : List Sn) (hL : L = if op = 6 ∨ op = 7 then [(.mk op n t ty z args p, op = 6 && !hasF N n)] else []) :
    visitF P pl op p n args.length m s = leastF (seenFaults P L) s := by
  unfold visitF
  have hg : (getS m n = 0) ↔ hasF N n = false := by
    rw [h n]
    have := hasF_iff N n
    cases hh : hasF N n with
    | true =>
      have := this.1 hh
      exact ⟨fun k => by omega, fun k => by simp at k⟩
    | false =>
      refine ⟨fun _ => rfl, fun _ => ?_⟩
      rw [hh] at this
      have h0 : ¬ 0 < N.count n := fun g => by simpa using this.2 g
      omega
  have hh := headI_lt P 0 n
  rw [hp n]
  by_cases h6 : op = 6
  · have h7 : ¬ op = 7 := by omega
    rw [if_pos (.inl h6)] at hL
    subst hL
    by_cases g : hasF N n = false
    · rw [if_pos ⟨h6, hg.2 g⟩]; simp [seenFaults, leastF, h6, g, callF, Ex.op, Ex.at']
    · rw [if_neg (fun k => g (hg.1 k.2)), if_neg (fun k => h7 k.1), if_neg (fun k => h7 k.1)]
      have g' : hasF N n = true := by simpa using g
      simp [seenFaults, leastF, h6, g', callF, Ex.op, Ex.at']
  · by_cases h7 : op = 7
    · rw [if_pos (.inr h7)] at hL
      subst hL
      rw [if_neg (fun k => h6 k.1)]
      by_cases g : headI P 0 n < 0
      · rw [if_pos ⟨h7, by omega⟩]; simp [seenFaults, leastF, h7, g, callF, Ex.op, Ex.at', Ex.name]
      · rw [if_neg (by omega)]
        have e : (headI P 0 n + 1).toNat - 1 = (headI P 0 n).toNat := by omega
        rw [e]
        by_cases g2 : (P[(headI P 0 n).toNat]?.getD default).params.length = args.length
        · rw [if_neg (fun k => k.2 g2)]; simp [seenFaults, leastF, h7, g, g2, callF, Ex.op, Ex.at', Ex.name, Ex.args]
        · rw [if_pos ⟨h7, g2⟩]; simp [seenFaults, leastF, h7, g, g2, callF, Ex.op, Ex.at', Ex.name, Ex.args]
    · rw [if_neg (by omega)] at hL
      subst hL
      rw [if_neg (fun k => h6 k.1), if_neg (fun k => h7 k.1), if_neg (fun k => h7 k.1)]; rfl
mutual
theorem walk_eq {P : List Fn} {pl : Sm} (hp : Rp P pl) : ∀ (e : Ex) (m : Sm) (N : List (List UInt8)) (s : Ft), Rm m N → N.length + 2 * size e < 2 ^ 62 → Rm (walkF P pl e m s).1 N ∧ (walkF P pl e m s).2 = leastF (seenFaults P (seenF e N)) s
  | .mk op n t ty z args p, m, N, s, h, hl => by
    simp only [size] at hl
    have := walks_eq hp op n t 0 args m N (visitF P pl op p n args.length m s) h (by omega)
    unfold walkF seenF
    rw [seenFaults_app, leastF_app, ← visit_eq h hp op n t ty z args p s _ rfl]
    exact this
theorem walks_eq {P : List Fn} {pl : Sm} (hp : Rp P pl) (op : Int) (n t : List UInt8) (i : Nat) : ∀ (l : List Ex) (m : Sm) (N : List (List UInt8)) (s : Ft), Rm m N → N.length + 2 + 2 * sizes l < 2 ^ 62 → Rm (walkFs P pl op n t i l m s).1 N ∧ (walkFs P pl op n t i l m s).2 = leastF (seenFaults P (seensF op n t i l N)) s
  | [], m, N, s, h, _ => ⟨h, rfl⟩
  | x :: xs, m, N, s, h, hl => by
    have hb := bound_len op n t i
    simp only [sizes] at hl
    have hs1 : 1 ≤ size x := by cases x; simp only [size]; omega
    have h1 := walk_eq hp x _ (N ++ boundO op n t i) s (Rm.incs (boundO op n t i) h (by omega)) (by rw [List.length_append]; omega)
    have h2 := walks_eq hp op n t (i + 1) xs _ N (walkF P pl x ((boundO op n t i).foldl incM m) s).2 (Rm.decs (boundO op n t i) h1.1 (by omega)) (by omega)
    unfold walkFs seensF
    rw [seenFaults_app, leastF_app, ← h1.2]
    exact h2
end
end Go.Fx.Ythbainhddfajfaa
namespace Go.Fx.Ythbainhddfajfaa
open Go Go.Fx Go.Proofs Go.Fx.Flt
theorem Rm_pos {m : Sm} {N : List (List UInt8)} (h : Rm m N) (n : List UInt8) : (getS m n > 0) ↔ hasF N n = true := by
  rw [hasF_iff, h n]; omega
theorem pars_eq : ∀ (l : List Pm) (m : Sm) (N : List (List UInt8)) (s : Ft), Rm m N → N.length + l.length < 2 ^ 62 → Rm (parsF l m s).1 (N ++ l.map Pm.name) ∧ (parsF l m s).2 = leastF (parFaults l N) s
  | [], m, N, s, h, _ => by simpa [parsF, parFaults, leastF] using h
  | x :: xs, m, N, s, h, hl => by
    simp only [List.length_cons] at hl
    have hi := h.inc (by omega) x.name
    have hp := Rm_pos h x.name
    unfold parsF parFaults
    by_cases g : getS m x.name > 0
    · rw [if_pos g, if_pos (hp.1 g)]
      have := pars_eq xs _ _ (tellF s 30 x.at') hi (by simp only [List.length_append, List.length_cons, List.length_nil]; omega)
      simp only [List.map_cons]
      rw [List.append_assoc] at this
      exact this
    · rw [if_neg g, if_neg (fun k => g (hp.2 k))]
      have := pars_eq xs _ _ s hi (by simp only [List.length_append, List.length_cons, List.length_nil]; omega)
      simp only [List.map_cons]
      rw [List.append_assoc] at this
      exact this
def bodyF (P : List Fn) (f : Fn) : List Ft := parFaults f.params [] ++ seenFaults P (seenF f.body (namesF f))
def bodiesF (P : List Fn) : List Fn → List Ft
  | [] => []
  | f :: fs => bodyF P f ++ bodiesF P fs
theorem Rm_nil : Rm [] [] := fun n => by rw [getS_nil]; simp
theorem funcs_eq {P : List Fn} {pl : Sm} (hp : Rp P pl) : ∀ (l : List Fn) (s : Ft), (∀ f ∈ l, size f.body ≤ 2 ^ 37 ∧ f.params.length ≤ 2 ^ 37) → funcsF P pl l s = leastF (bodiesF P l) s
  | [], s, _ => rfl
  | f :: fs, s, h => by
    obtain ⟨h1, h2⟩ := h f (by simp)
    have a := pars_eq f.params [] [] s Rm_nil (by simp only [List.length_nil]; omega)
    rw [List.nil_append] at a
    have b := walk_eq hp f.body _ (namesF f) (parsF f.params [] s).2 a.1 (by simp only [namesF, List.length_map]; omega)
    unfold funcsF bodiesF bodyF
    rw [b.2, a.2, leastF_app, leastF_app]
    exact funcs_eq hp fs _ (fun g hg => h g (by simp [hg]))
def twiceF (P : List Fn) : List Fn → Nat → List Ft
  | [], _ => []
  | f :: fs, i => (if headI P 0 f.name < i then [(30, f.at')] else []) ++ twiceF P fs (i + 1)
theorem headI_app (n : List UInt8) : ∀ (a b : List Fn) (k : Nat), headI (a ++ b) k n = if headI a k n = -1 then headI b (k + a.length) n else headI a k n
  | [], b, k => by simp [headI]
  | f :: fs, b, k => by
    have hc : ∀ l, headI (f :: l) k n = if f.name = n then (k : Int) else headI l (k + 1) n := fun l => rfl
    rw [List.cons_append, hc, hc]
    by_cases h : f.name = n
    · rw [if_pos h, if_pos h, if_neg (by omega)]
    · rw [if_neg h, if_neg h, headI_app n fs b (k + 1)]
      simp only [List.length_cons, Nat.add_assoc, Nat.add_comm 1 fs.length]
theorem places_eq (P : List Fn) : ∀ (l A : List Fn) (pl : Sm) (s : Ft), P = A ++ l → (∀ n, getS pl n = headI A 0 n + 1) → (∀ n, getS (placesF l A.length pl s).1 n = headI P 0 n + 1) ∧ (placesF l A.length pl s).2 = leastF (twiceF P l A.length) s
  | [], A, pl, s, hP, h => by
    rw [List.append_nil] at hP
    subst hP
    exact ⟨h, rfl⟩
  | f :: fs, A, pl, s, hP, h => by
    have hA := headI_lt A 0 f.name
    have hh : headI P 0 f.name = if headI A 0 f.name = -1 then (A.length : Int) else headI A 0 f.name := by
      rw [hP, headI_app]
      by_cases g : headI A 0 f.name = -1
      · rw [if_pos g, if_pos g]; unfold headI; rw [if_pos rfl]; simp
      · rw [if_neg g, if_neg g]
    have hP2 : P = (A ++ [f]) ++ fs := by rw [hP]; simp
    have hl : (A ++ [f]).length = A.length + 1 := by simp
    have hs : ∀ n, headI (A ++ [f]) 0 n = if headI A 0 n = -1 then (if f.name = n then (A.length : Int) else -1) else headI A 0 n := fun n => by
      rw [headI_app]
      simp [headI]
    unfold placesF twiceF
    rw [hh, h f.name]
    by_cases g : headI A 0 f.name = -1
    · rw [if_neg (by omega), if_pos g, if_neg (by omega)]
      have := places_eq P fs (A ++ [f]) (putS pl f.name (A.length + 1)) s hP2 (fun n => by
        rw [getS_put, hs n]
        by_cases e : f.name = n
        · subst e; rw [if_pos rfl, if_pos g, if_pos rfl]
        · rw [if_neg e, h n]
          by_cases g2 : headI A 0 n = -1
          · rw [if_pos g2, if_neg e, g2]
          · rw [if_neg g2])
      rw [hl] at this
      exact this
    · rw [if_pos (by omega), if_neg g, if_pos (by omega)]
      have := places_eq P fs (A ++ [f]) pl (tellF s 30 f.at') hP2 (fun n => by
        rw [hs n, h n]
        by_cases g2 : headI A 0 n = -1
        · rw [if_pos g2]
          by_cases e : f.name = n
          · subst e; exact absurd g2 g
          · rw [if_neg e, g2]
        · rw [if_neg g2])
      rw [hl] at this
      exact this
/-! ### The order in which faults are told makes no difference -/
theorem tell_comm {x y : Ft} (hx : x.1 ≠ 0) (hy : y.1 ≠ 0) (h : x.2 ≠ y.2) (s : Ft) : tellF (tellF s x.1 x.2) y.1 y.2 = tellF (tellF s y.1 y.2) x.1 x.2 := by
  unfold tellF
  by_cases h0 : s.1 = 0
  · by_cases g : y.2 < x.2
    · have : ¬ x.2 < y.2 := by omega
      simp [h0, hx, hy, g, this]
    · have : x.2 < y.2 := by omega
      simp [h0, hx, hy, g, this]
  · by_cases g1 : x.2 < s.2
    · by_cases g2 : y.2 < s.2
      · by_cases g : y.2 < x.2
        · have : ¬ x.2 < y.2 := by omega
          simp [h0, hx, hy, g, this, g1, g2]
        · have : x.2 < y.2 := by omega
          simp [h0, hx, hy, g, this, g1, g2]
      · have : ¬ y.2 < x.2 := by omega
        simp [h0, hx, hy, this, g1, g2]
    · by_cases g2 : y.2 < s.2
      · have : ¬ x.2 < y.2 := by omega
        simp [h0, hx, hy, this, g1, g2]
      · simp [h0, g1, g2]
theorem least_one {x : Ft} (hx : x.1 ≠ 0) : ∀ (B : List Ft) (s : Ft), (∀ y ∈ B, y.1 ≠ 0 ∧ x.2 ≠ y.2) → leastF B (tellF s x.1 x.2) = tellF (leastF B s) x.1 x.2
  | [], s, _ => rfl
  | y :: ys, s, h => by
    obtain ⟨h1, h2⟩ := h y (by simp)
    unfold leastF
    rw [tell_comm hx h1 h2]
    exact least_one hx ys _ (fun z hz => h z (by simp [hz]))
theorem least_comm : ∀ (A B : List Ft) (s : Ft), (∀ x ∈ A, x.1 ≠ 0) → (∀ y ∈ B, y.1 ≠ 0) → (∀ x ∈ A, ∀ y ∈ B, x.2 ≠ y.2) → leastF (A ++ B) s = leastF (B ++ A) s
  | [], B, s, _, _, _ => by simp
  | x :: xs, B, s, h1, h2, h3 => by
    have := least_comm xs B (tellF s x.1 x.2) (fun z hz => h1 z (by simp [hz])) h2 (fun z hz => h3 z (by simp [hz]))
    show leastF (xs ++ B) (tellF s x.1 x.2) = _
    rw [this, leastF_app, leastF_app, least_one (h1 x (by simp)) B s (fun y hy => ⟨h2 y hy, h3 x (by simp) y hy⟩)]
    rfl
/-- Faults whose places are marks from a to b. -/
def FtIn (ms : List Mk) (a b : Nat) (l : List Ft) : Prop := ∀ x ∈ l, x.1 ≠ 0 ∧ placeIn ms a b x.2
theorem FtIn.app {ms : List Mk} {a b : Nat} {l k : List Ft} (h : FtIn ms a b l) (g : FtIn ms a b k) : FtIn ms a b (l ++ k) := fun x hx => (List.mem_append.1 hx).elim (h x) (g x)
theorem FtIn.mono {ms : List Mk} {a b c d : Nat} {l : List Ft} (h : FtIn ms a b l) (h1 : c ≤ a) (h2 : b ≤ d) : FtIn ms c d l := fun x hx => ⟨(h x hx).1, (h x hx).2.mono h1 h2⟩
theorem FtIn.ite {ms : List Mk} {a b : Nat} {p : Prop} [Decidable p] {w q : Int} (hw : w ≠ 0) (h : placeIn ms a b q) : FtIn ms a b (if p then [(w, q)] else []) := by
  split
  · intro x hx
    simp only [List.mem_cons, List.not_mem_nil, or_false] at hx
    subst hx; exact ⟨hw, h⟩
  · intro x hx; simp at hx
theorem par_in {ms : List Mk} {a b : Nat} : ∀ (l : List Pm) (N : List (List UInt8)), (∀ p ∈ l, PmOk ms a b p) → FtIn ms a b (parFaults l N)
  | [], N, _ => fun x hx => by simp [parFaults] at hx
  | p :: ps, N, h => by
    unfold parFaults
    exact (FtIn.ite (by decide) (h p (by simp)).1).app (par_in ps _ (fun q hq => h q (by simp [hq])))
theorem call_in {ms : List Mk} {a b : Nat} {P : List Fn} {e : Ex} (h : placeIn ms a b e.at') : FtIn ms a b (callF P e) := by
  unfold callF
  split
  · intro x hx; simp at hx
  · split
    · intro x hx
      simp only [List.mem_cons, List.not_mem_nil, or_false] at hx
      subst hx; exact ⟨by simp, h⟩
    · exact FtIn.ite (by decide) h
theorem seens_in {ms : List Mk} {a b : Nat} {P : List Fn} : ∀ (l : List Sn), (∀ s ∈ l, placeIn ms a b s.1.at') → FtIn ms a b (seenFaults P l)
  | [], _ => fun x hx => by simp [seenFaults] at hx
  | s :: r, h => by
    unfold seenFaults
    exact ((FtIn.ite (by decide) (h s (by simp))).app (call_in (h s (by simp)))).app (seens_in r (fun q hq => h q (by simp [hq])))
mutual
theorem seenF_in {ms : List Mk} {a b : Nat} : ∀ (e : Ex) (N : List (List UInt8)), Wf ms a b e → ∀ s ∈ seenF e N, placeIn ms a b s.1.at'
  | .mk op n t ty z args p, N, hw, s, h => by
    unfold Wf at hw
    unfold seenF at h
    rcases List.mem_append.1 h with h | h
    · split at h
      · simp only [List.mem_cons, List.not_mem_nil, or_false] at h
        subst h; exact hw.1
      · simp at h
    · exact seensF_in op n t 0 args N hw.2.2 s h
theorem seensF_in {ms : List Mk} {a b : Nat} (op : Int) (n t : List UInt8) (i : Nat) : ∀ (l : List Ex) (N : List (List UInt8)), Wfs ms a b l → ∀ s ∈ seensF op n t i l N, placeIn ms a b s.1.at'
  | [], N, _, s, h => by simp [seensF] at h
  | x :: xs, N, hw, s, h => by
    unfold Wfs at hw
    unfold seensF at h
    rcases List.mem_append.1 h with h | h
    · exact seenF_in x _ hw.1 s h
    · exact seensF_in op n t (i + 1) xs N hw.2 s h
end
theorem body_in {ms : List Mk} {a b : Nat} {P : List Fn} {f : Fn} (h : FnOk ms a b f) : FtIn ms (a + 1) b (bodyF P f) :=
  (par_in f.params [] h.params).app (seens_in _ (seenF_in f.body _ h.body))
theorem Fns_le {ms : List Mk} : ∀ {l : List Fn} {a b : Nat}, Fns ms a l b → a ≤ b
  | [], a, b, h => h
  | f :: fs, a, b, h => by
    unfold Fns at h
    obtain ⟨c, hf, hs⟩ := h
    have := Fns_le hs
    have := hf.lt
    omega
theorem twice_in {ms : List Mk} {P : List Fn} : ∀ (l : List Fn) (a b i : Nat), Fns ms a l b → b < ms.length → FtIn ms a b (twiceF P l i)
  | [], a, b, i, _, _ => fun x hx => by simp [twiceF] at hx
  | f :: fs, a, b, i, h, hb => by
    unfold Fns at h
    obtain ⟨c, hf, hs⟩ := h
    have hcb : c ≤ b := Fns_le hs
    unfold twiceF
    refine (FtIn.ite (by decide) ⟨a, Nat.le_refl _, Nat.lt_of_lt_of_le hf.lt hcb, hf.place⟩).app ((twice_in fs c b (i + 1) hs hb).mono (Nat.le_of_lt hf.lt) (Nat.le_refl _))
theorem all_eq {ms : List Mk} {P : List Fn} (hr : Rising ms) : ∀ (l : List Fn) (a b i : Nat) (s : Ft), Fns ms a l b → b < ms.length → leastF (allF P l i) s = leastF (twiceF P l i ++ bodiesF P l) s
  | [], a, b, i, s, _, _ => rfl
  | f :: fs, a, b, i, s, h, hb => by
    unfold Fns at h
    obtain ⟨c, hf, hs⟩ := h
    have hcb : c ≤ b := Fns_le hs
    have e : allF P (f :: fs) i = (if headI P 0 f.name < i then [(30, f.at')] else []) ++ (bodyF P f ++ allF P fs (i + 1)) := by
      simp only [allF, fnF, bodyF, List.append_assoc]
    have e2 : twiceF P (f :: fs) i ++ bodiesF P (f :: fs) = (if headI P 0 f.name < i then [(30, f.at')] else []) ++ ((twiceF P fs (i + 1) ++ bodyF P f) ++ bodiesF P fs) := by
      simp only [twiceF, bodiesF, List.append_assoc]
    have hB := body_in (P := P) hf
    have hT := twice_in (P := P) fs c b (i + 1) hs hb
    have key : ∀ s1, leastF (bodyF P f ++ allF P fs (i + 1)) s1 = leastF ((twiceF P fs (i + 1) ++ bodyF P f) ++ bodiesF P fs) s1 := fun s1 => by
      rw [leastF_app, all_eq hr fs c b (i + 1) _ hs hb, ← leastF_app, ← List.append_assoc, leastF_app]
      rw [least_comm (bodyF P f) (twiceF P fs (i + 1)) s1 (fun x hx => (hB x hx).1) (fun x hx => (hT x hx).1) (fun x hx y hy he => by
        obtain ⟨j, j1, j2, j3⟩ := (hB x hx).2
        obtain ⟨k, k1, k2, k3⟩ := (hT y hy).2
        have := hr j k (by omega) (by omega)
        omega), ← leastF_app]
    rw [e, e2, leastF_app, key, ← leastF_app]
theorem par_len : ∀ (l : List Pm) (N : List (List UInt8)), (parFaults l N).length ≤ l.length
  | [], N => by simp [parFaults]
  | p :: ps, N => by
    have := par_len ps (N ++ [p.name])
    unfold parFaults
    rw [List.length_append, List.length_cons]
    split <;> simp <;> omega
theorem call_len (P : List Fn) (e : Ex) : (callF P e).length ≤ 1 := by
  unfold callF
  split
  · simp
  · split
    · simp
    · split <;> simp
theorem seens_len (P : List Fn) : ∀ (l : List Sn), (seenFaults P l).length ≤ 2 * l.length
  | [] => by simp [seenFaults]
  | s :: r => by
    have h1 := seens_len P r
    have h2 := call_len P s.1
    unfold seenFaults
    rw [List.length_append, List.length_append, List.length_cons]
    split <;> simp <;> omega
theorem all_len {ms : List Mk} {P : List Fn} : ∀ (l : List Fn) (a b i : Nat), Fns ms a l b → (allF P l i).length ≤ 4 * (b - a)
  | [], a, b, i, _ => by simp [allF]
  | f :: fs, a, b, i, h => by
    unfold Fns at h
    obtain ⟨c, hf, hs⟩ := h
    have hcb : c ≤ b := Fns_le hs
    have h1 := all_len (P := P) fs c b (i + 1) hs
    have h2 := par_len f.params []
    have h3 := seens_len P (seenF f.body (namesF f))
    have h4 := seenF_len f.body (namesF f)
    have := hf.lt; have := hf.len; have := hf.size
    unfold allF fnF
    simp only [List.length_append]
    split <;> simp <;> omega
/-- The fault of names of a program: none, (0, 0). -/
def ckF (P : List Fn) : Ft := leastF (allF P P 0) (0, 0)
theorem prog_sizes {ms : List Mk} : ∀ (l : List Fn) (a b : Nat), Fns ms a l b → l.length ≤ b - a ∧ ∀ f ∈ l, size f.body ≤ b - a ∧ f.params.length ≤ b - a
  | [], a, b, _ => by simp
  | f :: fs, a, b, h => by
    unfold Fns at h
    obtain ⟨c, hf, hs⟩ := h
    have hcb : c ≤ b := Fns_le hs
    obtain ⟨h1, h2⟩ := prog_sizes fs c b hs
    have := hf.lt; have := hf.len; have := hf.size
    refine ⟨by simp only [List.length_cons]; omega, fun g hg => ?_⟩
    rcases List.mem_cons.1 hg with rfl | hg
    · exact ⟨by omega, by omega⟩
    · have := h2 g hg; omega
theorem scope_ok {P : List Fn} (h : ProgOk P) : Pure Try.prog 19 [.agg [.sl (em encFn P)]] (.agg [I (ckF P).1, I (ckF P).2]) ∧ Pure Try.prog 12 [.agg [.sl (em encFn P)]] (.agg [I (ckF P).1, I (ckF P).2]) := by
  obtain ⟨ms, a, b, _, hl, hr, hb, hF, _⟩ := h
  obtain ⟨k1, k2⟩ := prog_sizes P a b hF
  have hn := all_len (P := P) P a b 0 hF
  have hs : ∀ f ∈ P, size f.body ≤ 2 ^ 37 ∧ f.params.length ≤ 2 ^ 37 := fun f hf => by have := k2 f hf; omega
  refine ⟨?_, ref6_c P (by omega) hs (by omega)⟩
  have e : scopeF P = ckF P := by
    obtain ⟨p1, p2⟩ := places_eq P P [] [] (0, 0) rfl (fun n => by rw [getS_nil]; rfl)
    unfold scopeF ckF
    rw [all_eq hr P a b 0 _ hF hb, leastF_app]
    simp only [List.length_nil] at p1 p2
    rw [← p2]
    exact funcs_eq p1 P _ hs
  rw [← e]
  exact scope_c P (by omega) (fun f hf => by have := hs f hf; omega)
end Go.Fx.Ythbainhddfajfaa

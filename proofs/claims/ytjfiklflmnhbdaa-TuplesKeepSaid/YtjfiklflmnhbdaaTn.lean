/-
  Tables: the answers of Clone, New, Set and Tuple are new memory.
-/
import Derived.Test.YtjfiklflmnhbdaaTd
import Derived.Test.YtjfiklflmnhbdaaRn
import Derived.Test.YtjfiklflmnhbdaaCodeTupn
set_option linter.all false
set_option maxRecDepth 100000
set_option maxHeartbeats 4000000
namespace Go.Fx.Ytjfiklflmnhbdaa
open Go Go.Fx Go.Proofs Go.Fx.Flt
/-- A slice of its own, or nil. -/
def SlN (k : Nat) (es : List (List D)) (nx : Nat) : KD := fun d m n => (es = [] ∧ d = .pl (.slice none 0 0) ∧ m = []) ∨ ∃ id ver, nx ≤ id ∧ id < n ∧ d = .osl id ver 0 es.length ∧ m = [(id, .arr ver k es)]
theorem CallT_slice {P : Program} {f : FuncId} {es : List (List D)} {mem : Mem} {nx : Nat} {K : KD} (h1 : CallT P f [.pl (.slice none 0 0)] mem nx K) (h2 : ∀ p c, CallT P f [.pl (.slice (some p) 0 c)] mem nx K) (h3 : es ≠ [] → CallT P f [.sl es] mem nx K) : CallT P f [.sl es] mem nx K := by
  by_cases he : es = []
  · subst he
    refine ⟨h1.1, fun S φ w xs hm hx => ?_⟩
    simp only [RepVs] at hx
    obtain ⟨x, rest, rfl, hx, rfl⟩ := hx
    simp only [Rep] at hx
    have hz : x = .slice none 0 0 ∨ ∃ p c, x = .slice (some p) 0 c := by
      rcases hx with ⟨_, hz | ⟨p, hz⟩⟩ | ⟨b, o, cap, k, hz, _⟩
      · exact .inl hz
      · exact .inr ⟨p, 0, hz⟩
      · exact .inr ⟨_, cap, hz⟩
    rcases hz with rfl | ⟨p, c, rfl⟩
    · exact h1.2 S φ w _ hm (by simp [RepVs, Rep])
    · exact (h2 p c).2 S φ w _ hm (by simp [RepVs, Rep])
  · exact h3 he
theorem Clone_n (l : List Int) (hl : l.length < 2 ^ 44) (nx : Nat) : CallT Try.prog 38 [.sl (em encI l)] [] nx (SlN 1 (em encI l) nx) := by
  by_cases he : l = []
  · subst he
    refine CallT_slice ?_ (fun p c => ?_) (fun h => absurd rfl h)
    · refine ct38 (by simp) fun hfr => ?_
      simp -implicitDefEqProofs [ac38, bin_slZ Try.underlying22]
      exact ⟨[], memSub_nil _, .inl ⟨rfl, rfl, rfl⟩⟩
    · refine ct38 (by simp) fun hfr => ?_
      simp -implicitDefEqProofs [ac38, bin_slP Try.underlying22]
      exact ⟨_, memSub_refl _, .inr ⟨_, 0, by omega, by omega, rfl, rfl⟩⟩
  · have hne : em encI l ≠ [] := by cases l with
      | nil => exact absurd rfl he
      | cons a l => simp [em]
    have b1 : l.length * 8 ≤ 3 * 2 ^ 46 := by omega
    refine ct38 (by simp) fun hfr => ?_
    simp -implicitDefEqProofs [-els, els_16, ac38, bin_slN Try.underlying22 hne, b1]
    exact ⟨_, memSub_refl _, .inr ⟨_, 0, by omega, by omega, by simp, rfl⟩⟩
theorem emI_cln {m : Mem} (l : List Int) : (em encI l).all (D.clns m) = true := by
  induction l with
  | nil => rfl
  | cons x l ih =>
    show (D.clns m (encI x) && (em encI l).all (D.clns m)) = true
    rw [ih]; rfl
section
variable {P : Program} {f : FuncId} {args args' : List D} {mem mf : Mem} {nx : Nat} {K : KD} {e : Int} {l : List Int}
theorem slN_call (hc : CallT P f args' [] nx (SlN 1 (em encI l) nx)) (hsub : memSub mem mf) (hfr : frzs mf 100 args = some args')
    (h0 : em encI l = [] → ∀ n', nx ≤ n' → K (.pl (.slice none 0 0)) mem n')
    (hk : ∀ id ver n', nx ≤ id → id < n' → K (.osl id ver 0 l.length) ((id, .arr ver 1 (em encI l)) :: mem) n') : CallT P f args mem nx K := by
  refine CallT_new hsub hfr hc ?_
  rintro d m n' hn h
  rcases h with ⟨h1, rfl, rfl⟩ | ⟨id, ver, h1, h2, rfl, rfl⟩
  · exact ⟨by simp [D.cln], fun i b hb => by simp [look] at hb, h0 h1 n' hn⟩
  · have e : (em encI l).length = l.length := by simp [em]
    rw [e]
    refine ⟨by simp [D.cln, look], fun i b hb => ?_, hk id ver n' h1 h2⟩
    rw [look_cons] at hb
    split at hb
    · simp only [Option.some.injEq] at hb; subst hb; exact emI_cln l
    · simp [look] at hb
theorem keep_new {id : Nat} {b : Blk} (h : look mem id = none) : memKeeps mem ((id, b) :: mem) := fun i x hx => by
  rw [look_cons]
  split
  · rename_i e; subst e; rw [h] at hx; simp at hx
  · exact hx
end
/-- A table whose rows are the answer's own. -/
def TabN (ps : List Int) (t n : Int) (l : List Int) (e : Int) (nx : Nat) : KD := fun d m k => ∃ dP mP idB verB n1, nx ≤ idB ∧ idB < n1 ∧ n1 ≤ k ∧ SlN 1 (em encI ps) n1 dP mP k ∧ d = .tup [.agg [dP, I t, I n, .osl idB verB 0 l.length], I e] ∧ m = mP ++ [(idB, .arr verB 1 (em encU l))]
def TabZ (e : Int) : KD := fun d m _ => d = .tup [.agg [.pl (.slice none 0 0), I 0, I 0, .pl (.slice none 0 0)], I e] ∧ m = []
theorem memSub_app {m : Mem} {a b : Mem} (ha : memSub m a) (hb : memSub m b) : memSub m (a ++ b) := fun i x hx => by
  rw [look_app] at hx
  split at hx
  · rename_i y hy
    simp only [Option.some.injEq] at hx; subst hx
    exact ha i _ hy
  · exact hb i x hx
theorem frz_sl {mf : Mem} {l : List Int} : frzs mf 100 [.sl (em encI l)] = some [.sl (em encI l)] := by simp [frzs, frz]
theorem frz_put {mf : Mem} {n i v : Int} {l : List Int} : frzs mf 100 [row n l, I i, I v] = some [row n l, I i, I v] := by simp [frzs, frz]
theorem Set_n (ps : List Int) (t n : Int) (l tu : List Int) (p : Int) (w : AllW l) (hl : ps.length < 2 ^ 44) (hu : tu.length < 2 ^ 48) (nx : Nat) :
    ((setF ps t n l tu p).2 = 0 → CallT Try.prog 25 [tb ps t n l, .sl (em encI tu), I p] [] nx (TabN ps t n (putL l (placeF ps t n l tu).1.toNat p) 0 nx)) ∧
    ((setF ps t n l tu p).2 ≠ 0 → CallT Try.prog 25 [tb ps t n l, .sl (em encI tu), I p] [] nx (TabZ (setF ps t n l tu p).2)) := by
  unfold setF
  by_cases h : (placeF ps t n l tu).2 = 0
  · obtain ⟨h1, _, h3, h4⟩ := place_in h
    have hg := h1.2.2.2.1
    have htop := h1.2.1
    rw [if_neg (by omega)]
    by_cases hc : 0 ≤ p ∧ p ≤ tp t
    · rw [if_pos hc]
      refine ⟨fun _ => ?_, fun h => absurd rfl h⟩
      have hck : ck t p = 0 := ck_ok.2 hc
      have hp3 : p ≤ 3 := by have := tp_is t; omega
      refine Own.ct25 (by simp) fun hfr => ?_
      simp -implicitDefEqProofs [Own.ac25]
      refine pcK_of (place_c ps t n l tu w hl hu) (by simp) ?_
      simp -implicitDefEqProofs [h]
      refine pcK_of (Check15_c t p) (by simp) ?_
      simp -implicitDefEqProofs [hck]
      have hput := fun nx => (CallT_mono (Put_n n (placeF ps t n l tu).1 p l nx) (fun d m k hk => by simpa only [PutK, hg, h3, h4, hc.1, hp3, and_self, if_true] using hk) : CallT _ _ _ [] nx (RowN n (putL l (placeF ps t n l tu).1.toNat p) 0 nx))
      refine clK_of (rowN_call (hput _) (memSub_nil _) frz_put (fun id ver n' g1 g2 => ?_))
      simp -implicitDefEqProofs []
      refine clK_of (slN_call (l := ps) (Clone_n ps hl _) (memSub_nil _) frz_sl (fun hz n1 q1 => ?_) (fun id1 ver1 n1 q1 q2 => ?_))
      · refine ⟨fun _ _ h => h, ?_⟩
        have z1 : (id = nx + 1) = False := eq_false (by omega)
        have z3 : (nx + 3 + 8 + 2 + 5 + 2 + 8 = id) = False := eq_false (by omega)
        simp -implicitDefEqProofs [z1, z3]
        exact ⟨_, memSub_one (by simp only [look_cons, z3, if_false, if_true]), _, [], id, ver, n', by omega, g2, by omega, .inl ⟨hz, rfl, rfl⟩, rfl, rfl⟩
      · have y1 : (nx + 3 + 8 + 2 + 5 + 2 + 8 = id1) = False := eq_false (by omega)
        have y2 : (id = id1) = False := eq_false (by omega)
        have y3 : (nx + 1 = id1) = False := eq_false (by omega)
        have y4 : (id1 = nx + 3 + 8 + 2 + 5 + 2 + 8) = False := eq_false (by omega)
        have y5 : (id1 = id) = False := eq_false (by omega)
        have y6 : (id1 = nx + 1) = False := eq_false (by omega)
        have z1 : (id = nx + 1) = False := eq_false (by omega)
        have z3 : (nx + 3 + 8 + 2 + 5 + 2 + 8 = id) = False := eq_false (by omega)
        refine ⟨keep_new (by simp only [look_cons, look, y1, y2, y3, if_false]), ?_⟩
        simp -implicitDefEqProofs [z1, z3, y1, y2, y3, y4, y5, y6]
        have e : (em encI ps).length = ps.length := by simp [em]
        exact ⟨_, memSub_app (memSub_one (by simp only [look_cons, if_true])) (memSub_one (by simp only [look_cons, z3, y4, y5, if_false, if_true])), _, _, id, ver, n', by omega, g2, by omega, .inr ⟨id1, ver1, by omega, by omega, by rw [e], rfl⟩, rfl, rfl⟩
    · rw [if_neg hc]
      refine ⟨fun h => by simp at h, fun _ => ?_⟩
      have hck : ck t p = 2 := by unfold ck; rw [if_neg (by omega), if_neg hc]
      refine Own.ct25 (by simp) fun hfr => ?_
      simp -implicitDefEqProofs [Own.ac25]
      refine pcK_of (place_c ps t n l tu w hl hu) (by simp) ?_
      simp -implicitDefEqProofs [h]
      refine pcK_of (Check15_c t p) (by simp) ?_
      simp -implicitDefEqProofs [hck]
      exact ⟨[], memSub_nil _, rfl, rfl⟩
  · rw [if_pos h]
    refine ⟨fun g => absurd g h, fun _ => ?_⟩
    refine Own.ct25 (by simp) fun hfr => ?_
    simp -implicitDefEqProofs [Own.ac25]
    refine pcK_of (place_c ps t n l tu w hl hu) (by simp) ?_
    simp -implicitDefEqProofs [h]
    exact ⟨[], memSub_nil _, rfl, rfl⟩
theorem frz_new {mf : Mem} {n : Int} : frzs mf 100 [I n] = some [I n] := by simp [frzs, frz]
theorem New_n2 (ps : List Int) (t : Int) (hl : ps.length < 2 ^ 44) (nx : Nat) :
    CallT Try.prog 17 [.sl (em encI ps), I t] [] nx (fun d m k => (TabN ps t (pr ps) (List.replicate ((pr ps + 31) / 32).toNat 0) 0 nx d m k ∧ pr ps ≤ 4096) ∨ ∃ e, TabZ e d m k) := by
  refine Own.ct17 (by simp) fun hfr => ?_
  simp -implicitDefEqProofs [Own.ac17]
  refine pcK_of (Count_c16 ps (by omega)) (by simp) ?_
  simp -implicitDefEqProofs
  by_cases he : (cntF ps).2 = 0
  · obtain ⟨ho, hp96, hp1⟩ := cntF_ok he
    have hpos := pr_pos ho
    simp -implicitDefEqProofs [he, hp1]
    refine pcK_of (size_c t) (by simp) ?_
    simp -implicitDefEqProofs
    by_cases hb : tp t < 0
    · have hb1 : ¬ 0 ≤ tp t := by omega
      simp -implicitDefEqProofs [hb, hb1]
      exact ⟨[], memSub_nil _, .inr ⟨3, rfl, rfl⟩⟩
    · have hb1 : 0 ≤ tp t := by omega
      have hN : 0 ≤ pr ps ∧ pr ps ≤ 4096 := by omega
      simp -implicitDefEqProofs [hb, hb1]
      have hnew := fun nx => (CallT_mono (New_n (pr ps) nx) (fun d m k hk => by simpa only [NewK, hN.1, hN.2, and_self, if_true] using hk) : CallT _ _ _ [] nx (RowN (pr ps) (List.replicate ((pr ps + 31) / 32).toNat 0) 0 nx))
      refine clK_of (rowN_call (hnew _) (memSub_nil _) frz_new (fun id ver n' g1 g2 => ?_))
      simp -implicitDefEqProofs []
      refine clK_of (slN_call (l := ps) (Clone_n ps hl _) (memSub_nil _) frz_sl (fun hz n1 q1 => ?_) (fun id1 ver1 n1 q1 q2 => ?_))
      · refine ⟨fun _ _ h => h, ?_⟩
        have z1 : (id = nx) = False := eq_false (by omega)
        have z3 : (nx + 2 + 7 + 2 + 7 + 2 + 5 = id) = False := eq_false (by omega)
        have z4 : (nx + 2 + 7 + 2 + 7 + 2 + 5 = nx) = False := eq_false (by omega)
        simp -implicitDefEqProofs [z1, z3, z4]
        exact ⟨_, memSub_one (by simp only [look_cons, z3, if_false, if_true]), .inl ⟨⟨_, [], id, ver, n', by omega, g2, by omega, .inl ⟨hz, rfl, rfl⟩, by simp, rfl⟩, hN.2⟩⟩
      · have y1 : (nx + 2 + 7 + 2 + 7 + 2 + 5 = id1) = False := eq_false (by omega)
        have y2 : (id = id1) = False := eq_false (by omega)
        have y3 : (nx = id1) = False := eq_false (by omega)
        have y4 : (id1 = nx + 2 + 7 + 2 + 7 + 2 + 5) = False := eq_false (by omega)
        have y5 : (id1 = id) = False := eq_false (by omega)
        have y6 : (id1 = nx) = False := eq_false (by omega)
        have z1 : (id = nx) = False := eq_false (by omega)
        have z3 : (nx + 2 + 7 + 2 + 7 + 2 + 5 = id) = False := eq_false (by omega)
        refine ⟨keep_new (by simp only [look_cons, look, y1, y2, y3, if_false]), ?_⟩
        have z4 : (nx + 2 + 7 + 2 + 7 + 2 + 5 = nx) = False := eq_false (by omega)
        simp -implicitDefEqProofs [z1, z3, z4, y1, y2, y3, y4, y5, y6]
        have e : (em encI ps).length = ps.length := by simp [em]
        exact ⟨_, memSub_app (memSub_one (by simp only [look_cons, if_true])) (memSub_one (by simp only [look_cons, z3, y4, y5, if_false, if_true])), .inl ⟨⟨_, _, id, ver, n', by omega, g2, by omega, .inr ⟨id1, ver1, by omega, by omega, by rw [e], rfl⟩, by simp, rfl⟩, hN.2⟩⟩
  · simp -implicitDefEqProofs [he]
    exact ⟨[], memSub_nil _, .inr ⟨(cntF ps).2, rfl, rfl⟩⟩
/-- Nil, or a block of its own. -/
def SlO (f : Int → List D) (mem : Mem) (d : D) (l : List Int) : Option Nat → Prop
  | none => d = .pl (.slice none 0 0) ∧ l = []
  | some id => ∃ ver, d = .osl id ver 0 l.length ∧ look mem id = some (.arr ver 1 (em f l))
theorem SlO.mono {f : Int → List D} {mem mem' : Mem} {d : D} {l : List Int} {o : Option Nat} (h : SlO f mem d l o) (hk : ∀ id, o = some id → look mem' id = look mem id) : SlO f mem' d l o := by
  cases o with
  | none => exact h
  | some id => obtain ⟨v, h1, h2⟩ := h; exact ⟨v, h1, by rw [hk id rfl]; exact h2⟩
/-- A table of new memory, or none. -/
def TabA (Q : List Int → Int → Int → List Int → Prop) (nx : Nat) : KD := fun d m k => (∃ ps t n l, ps.length < 2 ^ 44 ∧ l.length ≤ 199 ∧ Q ps t n l ∧ TabN ps t n l 0 nx d m k) ∨ Q [] 0 0 [] ∧ ∃ e, TabZ e d m k
theorem newA2 (ps : List Int) (t : Int) (hl : ps.length < 2 ^ 44) (nx : Nat) : CallT Try.prog 17 [.sl (em encI ps), I t] [] nx (TabA (fun _ _ _ _ => True) nx) :=
  CallT_mono (New_n2 ps t hl nx) fun d m k h => by
    rcases h with ⟨h, hn⟩ | h
    · exact .inl ⟨_, _, _, _, hl, by simp; omega, trivial, h⟩
    · exact .inr ⟨trivial, h⟩
theorem setA2 (ps : List Int) (t n : Int) (l tu : List Int) (p : Int) (w : AllW l) (hl : ps.length < 2 ^ 44) (hu : tu.length < 2 ^ 48) (nx : Nat) : CallT Try.prog 25 [tb ps t n l, .sl (em encI tu), I p] [] nx (TabA (fun a b c d => (setF ps t n l tu p).1 = tb a b c d) nx) := by
  obtain ⟨h1, h2⟩ := Set_n ps t n l tu p w hl hu nx
  by_cases h : (setF ps t n l tu p).2 = 0
  · refine CallT_mono (h1 h) fun d m k hk => .inl ⟨_, _, _, _, hl, ?_, ?_, hk⟩
    rotate_left
    · unfold setF at h ⊢
      split
      · rename_i g; rw [if_pos g] at h; exact absurd h g
      · rename_i g
        rw [if_neg g] at h
        split
        · rfl
        · rename_i g2; rw [if_neg g2] at h; simp at h
    have hp : (placeF ps t n l tu).2 = 0 := by
      unfold setF at h
      split at h
      · rename_i g; exact absurd h g
      · rename_i g; simpa using g
    obtain ⟨g1, _⟩ := place_in hp
    have := g1.2.2.2.1
    have a := this.2.1
    have b := this.2.2.1
    unfold putL; rw [List.length_set]; omega
  · refine CallT_mono (h2 h) fun d m k hk => .inr ⟨?_, _, hk⟩
    unfold setF at h ⊢
    split
    · rfl
    · rename_i g
      rw [if_neg g] at h
      split
      · rename_i g2; rw [if_pos g2] at h; simp at h
      · rfl
theorem tabA_call {P : Program} {f : FuncId} {args args' : List D} {mem mf : Mem} {nx : Nat} {K : KD} {Q : List Int → Int → Int → List Int → Prop} (hc : CallT P f args' [] nx (TabA Q nx)) (hsub : memSub mem mf) (hfr : frzs mf 100 args = some args') (hnew : ∀ i, nx ≤ i → look mem i = none)
    (hk : ∀ (t n e : Int) (dP dB : D) (lP lB : List Int) (oP oB : Option Nat) mem' n', Q lP t n lB → nx ≤ n' → (∀ i, i < nx → look mem' i = look mem i) → SlO encI mem' dP lP oP → SlO encU mem' dB lB oB → (∀ i, oP = some i → nx ≤ i ∧ i < n' ∧ oB ≠ some i) → (∀ i, oB = some i → nx ≤ i ∧ i < n') → lP.length < 2 ^ 44 → lB.length ≤ 199 → (∀ i, n' ≤ i → look mem' i = none) → K (.tup [.agg [dP, I t, I n, dB], I e]) mem' n') : CallT P f args mem nx K := by
  refine CallT_new hsub hfr hc ?_
  rintro d m n' hn h
  rcases h with ⟨ps, t, n, l, hp, hl, hQ, dP, mP, idB, verB, n1, g1, g2, g3, hs, rfl, rfl⟩ | ⟨hQ, e, rfl, rfl⟩
  · rcases hs with ⟨he, rfl, rfl⟩ | ⟨id, ver, i1, i2, rfl, rfl⟩
    · have hps : ps = [] := by cases ps with
        | nil => rfl
        | cons a l => simp [em] at he
      subst hps
      refine ⟨by simp [D.cln, D.clns, look], fun i b hb => ?_, ?_⟩
      · rw [List.nil_append, look_cons] at hb
        split at hb
        · simp only [Option.some.injEq] at hb; subst hb
          exact em_cln l
        · simp [look] at hb
      · refine hk t n 0 _ _ [] l none (some idB) _ n' hQ hn (fun i hi => ?_) ⟨rfl, rfl⟩ ⟨verB, rfl, ?_⟩ (fun i h => by simp at h) (fun i h => by cases h; exact ⟨g1, by omega⟩) (by simp) hl (fun i hi => ?_)
        · rw [List.nil_append, List.singleton_append, look_cons, if_neg (by omega)]
        · rw [List.nil_append, List.singleton_append, look_cons, if_pos rfl]
        · rw [List.nil_append, List.singleton_append, look_cons, if_neg (by omega)]; exact hnew i (by omega)
    · have e : (em encI ps).length = ps.length := by simp [em]
      rw [e]
      have y : (id = idB) = False := eq_false (by omega)
      refine ⟨by simp [D.cln, D.clns, look, y], fun i b hb => ?_, ?_⟩
      · rw [List.singleton_append, look_cons] at hb
        split at hb
        · simp only [Option.some.injEq] at hb; subst hb
          exact emI_cln ps
        · rw [look_cons] at hb
          split at hb
          · simp only [Option.some.injEq] at hb; subst hb
            exact em_cln l
          · simp [look] at hb
      · refine hk t n 0 _ _ ps l (some id) (some idB) _ n' hQ hn (fun i hi => ?_) ⟨ver, rfl, ?_⟩ ⟨verB, rfl, ?_⟩ (fun i h => by cases h; exact ⟨by omega, i2, fun h => by cases h; omega⟩) (fun i h => by cases h; exact ⟨g1, by omega⟩) hp hl (fun i hi => ?_)
        · simp only [List.singleton_append, List.cons_append, List.nil_append]
          rw [look_cons, if_neg (by omega), look_cons, if_neg (by omega)]
        · simp only [List.singleton_append, List.cons_append, List.nil_append]
          rw [look_cons, if_pos rfl]
        · simp only [List.singleton_append, List.cons_append, List.nil_append]
          rw [look_cons, if_neg (by omega), look_cons, if_pos rfl]
        · simp only [List.singleton_append, List.cons_append, List.nil_append]
          rw [look_cons, if_neg (by omega), look_cons, if_neg (by omega)]; exact hnew i (by omega)
  · refine ⟨by simp [D.cln, D.clns], fun i b hb => by simp [look] at hb, ?_⟩
    exact hk 0 0 e _ _ [] [] none none _ n' hQ hn (fun i hi => rfl) ⟨rfl, rfl⟩ ⟨rfl, rfl⟩ (fun i h => by simp at h) (fun i h => by simp at h) (by simp) (by simp) (fun i hi => hnew i (by omega))
end Go.Fx.Ytjfiklflmnhbdaa

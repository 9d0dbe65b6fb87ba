/-
  TuplesKeep: tables and tuples of their own memory.
-/
import Derived.Test.YtjfiklflmnhbdaaLt
import Derived.Test.YtjfiklflmnhbdaaTn
import Derived.Test.YtjfiklflmnhbdaaXH
import Derived.Test.YtjfiklflmnhbdaaCodeL16k
set_option linter.all false
set_option maxRecDepth 100000
set_option maxHeartbeats 4000000
namespace Go.Fx.Ytjfiklflmnhbdaa
open Go Go.Fx Go.Proofs Rows
theorem SlO.cell {f : Int → List D} {mem : Mem} {d : D} {l : List Int} {o : Option Nat} (h : SlO f mem d l o) : d.cell = true := by
  cases o with
  | none => obtain ⟨rfl, _⟩ := h; rfl
  | some id => obtain ⟨v, rfl, _⟩ := h; rfl
theorem tupA {ts : List Int} {n : Int} (hl : ts.length < 2 ^ 44) {mem : Mem} {nx : Nat} {K : KD} (hnew : ∀ i, nx ≤ i → look mem i = none)
    (hk : ∀ (d : D) (o : Option Nat) (e : Int) mem' n', nx ≤ n' → (∀ i, i < nx → look mem' i = look mem i) → SlO encI mem' d (tupF ts n).1 o → (∀ i, o = some i → nx ≤ i ∧ i < n') → (tupF ts n).1.length < 2 ^ 44 → (∀ i, n' ≤ i → look mem' i = none) → K (.tup [d, I e]) mem' n') : CallT Try.prog 14 [.sl (em encI ts), I n] mem nx K := by
  refine Tuple_t ts n hl (fun h id ver nx' g1 g2 => ?_) (fun h nx' g => ?_)
  · have e : (tupF ts n).1 = dg ts n := by rw [tupF_len h]
    have el : (dg ts n).length = ts.length := by simp [dg_len]
    refine hk _ (some id) 0 _ nx' (by omega) (fun i hi => by rw [look_cons, if_neg (by omega)]) ⟨ver, by rw [e, el], by rw [look_cons, if_pos rfl, e]⟩ (fun i h => by cases h; exact ⟨g1, g2⟩) (by rw [e, el]; exact hl) (fun i hi => by rw [look_cons, if_neg (by omega)]; exact hnew i (by omega))
  · refine hk _ none _ _ nx' g (fun i hi => rfl) ⟨rfl, by rw [tupF_no h]⟩ (fun i h => by cases h) (by rw [tupF_no h]; simp) (fun i hi => hnew i (by omega))
/-- A slice of its own that is written to. -/
structure Sl1 where
  f : Int → List D
  d : D
  n : Nat
  o : Option Nat
structure Ka (m5 : Mem) (ss : List Sl1) (M : Mem) : Prop where
  un : ∀ i, (∀ s ∈ ss, s.o ≠ some i) → look M i = look m5 i
  has : ∀ s ∈ ss, ∃ l', l'.length = s.n ∧ SlO s.f M s.d l' s.o
def Dj (ss : List Sl1) : Prop := ∀ s ∈ ss, ∀ s' ∈ ss, s ≠ s' → ∀ i, s.o = some i → s'.o ≠ some i
theorem Ka.write {m5 M : Mem} {ss : List Sl1} (h : Ka m5 ss M) (hdj : Dj ss) {s : Sl1} (hs : s ∈ ss) {id ver : Nat} {l' : List Int} {b : Blk} (ho : s.o = some id) (hd : s.d = .osl id ver 0 s.n) (hl : look M id = some b) (hn : l'.length = s.n) : Ka m5 ss (upd M id (.arr ver 1 (em s.f l'))) := by
  refine ⟨fun i hi => ?_, fun s' hs' => ?_⟩
  · rw [look_upd_ne _ (fun e => hi s hs (by rw [ho, e]))]; exact h.un i hi
  · by_cases e : s = s'
    · subst e
      exact ⟨l', hn, by rw [ho]; exact ⟨ver, by rw [hd, hn], look_upd_same _ _ _ _ hl⟩⟩
    · obtain ⟨k, h1, h2⟩ := h.has s' hs'
      exact ⟨k, h1, h2.mono fun j hj => look_upd_ne _ (fun g => hdj s hs s' hs' e id ho (by rw [hj, g])) _⟩
theorem frzs_tab {M : Mem} {t n : Int} {dP dB : D} {lP lB : List Int} {oP oB : Option Nat} (hP : SlO encI M dP lP oP) (hB : SlO encU M dB lB oB) : frzs M 100 [.agg [dP, I t, I n, dB], .agg [.sl (em encI lP), I t, I n, .sl (em encU lB)]] = some [tb lP t n lB, tb lP t n lB] := by
  cases oP with
  | none =>
    obtain ⟨rfl, rfl⟩ := hP
    cases oB with
    | none => obtain ⟨rfl, rfl⟩ := hB; simp [frzs, frz]
    | some j => obtain ⟨v, rfl, hl⟩ := hB; simp [frzs, frz, hl]
  | some i =>
    obtain ⟨v, rfl, hl⟩ := hP
    cases oB with
    | none => obtain ⟨rfl, rfl⟩ := hB; simp [frzs, frz, hl]
    | some j => obtain ⟨v, rfl, hl2⟩ := hB; simp [frzs, frz, hl, hl2]
theorem frzs_sl2 {M : Mem} {d : D} {l : List Int} {o : Option Nat} (h : SlO encI M d l o) : frzs M 100 [d, .sl (em encI l)] = some [.sl (em encI l), .sl (em encI l)] := by
  cases o with
  | none => obtain ⟨rfl, rfl⟩ := h; simp [frzs, frz]
  | some id => obtain ⟨v, rfl, hl⟩ := h; simp [frzs, frz, hl]
structure Lz where
  i : Nat
  mem : Mem
theorem law_TuplesKeep_at (ps : List Int) (t n : Int) (l tu : List Int) (p : Int) (hp4 : ps.length < 2 ^ 44) (hl4 : l.length < 2 ^ 44) (hu4 : tu.length < 2 ^ 44) (wl : AllW l) : Pure Try.prog 7 [tb ps t n l, .sl (em encI tu), I p] (B true) := by
  refine pu7 (by simp) ?_
  have b1 : tu.length * 8 ≤ 3 * 2 ^ 46 := by omega
  have b2 : (tu.length + 1) * 8 ≤ 3 * 2 ^ 46 := by omega
  have b3 : l.length * 8 ≤ 3 * 2 ^ 46 := by omega
  have b4 : (l.length + 1) * 8 ≤ 3 * 2 ^ 46 := by omega
  simp -implicitDefEqProofs [ac7]
  refine pcK_of (awake_c16) (by simp) ?_
  simp -implicitDefEqProofs
  refine pcK_of (copiedT_c ps t n l hp4 hl4) (by simp) ?_
  simp -implicitDefEqProofs
  have hlit1 : bslI 1 1 [.int .i64 0] [(0, 1, .pl (.int .i64 71))] = some (.sl (em encI [71])) := rfl
  have hlit2 : bslI 1 1 [.int .u64 0] [(0, 1, .pl (.int .u64 72))] = some (.sl (em encU [72])) := rfl
  have hsl1 : slsD [(10, Blk.arr 1 1 (em encI (tu ++ [71]))), (6, Blk.box [D.sl (em encI ps), I t, I n, D.sl (em encU l)])] false 1 (.osl 10 1 0 (tu.length + 1)) none (some (.pl (.int .i64 tu.length))) = some (.osl 10 1 0 tu.length) := by
    simp [slsD, curv, bound, look]
    omega
  have hsl2 : slsD [(23, Blk.arr 1 1 (em encU (l ++ [72]))), (10, Blk.arr 1 1 (em encI (tu ++ [71]))), (6, Blk.box [D.sl (em encI ps), I t, I n, D.sl (em encU l)])] false 1 (.osl 23 1 0 (l.length + 1)) none (some (.pl (.int .i64 l.length))) = some (.osl 23 1 0 l.length) := by
    simp [slsD, curv, bound, look]
    omega
  simp -implicitDefEqProofs [-bslI, hlit1, hlit2, b1, b2, b3, b4, hsl1, hsl2]
  have hf1 : frzs [(23, Blk.arr 1 1 (em encU (l ++ [72]))), (10, Blk.arr 1 1 (em encI (tu ++ [71]))), (6, Blk.box [D.sl (em encI ps), I t, I n, D.osl 23 1 0 l.length])] 100 [.agg [.sl (em encI ps), I t, I n, .osl 23 1 0 l.length], .osl 10 1 0 tu.length, I p] = some [tb ps t n l, .sl (em encI tu), I p] := by
    simp [frzs, frz, look]
  have hf2 : frzs [(23, Blk.arr 1 1 (em encU (l ++ [72]))), (10, Blk.arr 1 1 (em encI (tu ++ [71]))), (6, Blk.box [D.sl (em encI ps), I t, I n, D.osl 23 1 0 l.length])] 100 [.agg [.sl (em encI ps), I t, I n, .osl 23 1 0 l.length], tb ps t n l] = some [tb ps t n l, tb ps t n l] := by
    simp [frzs, frz, look]
  have hf3 : frzs [(23, Blk.arr 1 1 (em encU (l ++ [72]))), (10, Blk.arr 1 1 (em encI (tu ++ [71]))), (6, Blk.box [D.sl (em encI ps), I t, I n, D.osl 23 1 0 l.length])] 100 [.osl 10 1 0 tu.length, .sl (em encI tu)] = some [.sl (em encI tu), .sl (em encI tu)] := by
    simp [frzs, frz, look]
  have hf4 : ∀ m0, frzs m0 100 [.sl (em encI ps), I t] = some [.sl (em encI ps), I t] := fun m0 => by simp [frzs, frz]
  have h6 : look [(23, Blk.arr 1 1 (em encU (l ++ [72]))), (10, Blk.arr 1 1 (em encI (tu ++ [71]))), (6, Blk.box [D.sl (em encI ps), I t, I n, D.osl 23 1 0 l.length])] 6 = some (.box [.sl (em encI ps), I t, I n, .osl 23 1 0 l.length]) := rfl
  have h10 : look [(23, Blk.arr 1 1 (em encU (l ++ [72]))), (10, Blk.arr 1 1 (em encI (tu ++ [71]))), (6, Blk.box [D.sl (em encI ps), I t, I n, D.osl 23 1 0 l.length])] 10 = some (.arr 1 1 (em encI (tu ++ [71]))) := rfl
  have h23 : look [(23, Blk.arr 1 1 (em encU (l ++ [72]))), (10, Blk.arr 1 1 (em encI (tu ++ [71]))), (6, Blk.box [D.sl (em encI ps), I t, I n, D.osl 23 1 0 l.length])] 23 = some (.arr 1 1 (em encU (l ++ [72]))) := rfl
  have hno : ∀ i, 36 ≤ i → look [(23, Blk.arr 1 1 (em encU (l ++ [72]))), (10, Blk.arr 1 1 (em encI (tu ++ [71]))), (6, Blk.box [D.sl (em encI ps), I t, I n, D.osl 23 1 0 l.length])] i = none := fun i hi => by
    simp only [look]; rw [if_neg (by omega), if_neg (by omega), if_neg (by omega)]
  have hms : ∀ {mem : Mem}, (∀ i, i < 36 → look mem i = look [(23, Blk.arr 1 1 (em encU (l ++ [72]))), (10, Blk.arr 1 1 (em encI (tu ++ [71]))), (6, Blk.box [D.sl (em encI ps), I t, I n, D.osl 23 1 0 l.length])] i) → memSub mem [(23, Blk.arr 1 1 (em encU (l ++ [72]))), (10, Blk.arr 1 1 (em encI (tu ++ [71]))), (6, Blk.box [D.sl (em encI ps), I t, I n, D.osl 23 1 0 l.length])] := fun h i b hb => by
    rcases Nat.lt_or_ge i 36 with g | g
    · rw [h i g]; exact hb
    · rw [hno i g] at hb; simp at hb
  generalize [(23, Blk.arr 1 1 (em encU (l ++ [72]))), (10, Blk.arr 1 1 (em encI (tu ++ [71]))), (6, Blk.box [D.sl (em encI ps), I t, I n, D.osl 23 1 0 l.length])] = mem0 at *
  have hu48 : tu.length < 2 ^ 48 := by omega
  refine clK_of (tabA_call (setA2 ps t n l tu p wl hp4 hu48 _) (memSub_refl _) hf1 (fun i hi => hno i (by omega)) (fun t1 n1 e1 dP1 dB1 lP1 lB1 oP1 oB1 m1 k1 Q1 g1 a1 sP1 sB1 cP1 cB1 bP1 bB1 f1 => ?_))
  have o1 : ∀ i, i < 36 → look m1 i = look mem0 i := fun i hi => a1 i (by omega)
  have p6_1 : look m1 6 = some (.box [.sl (em encI ps), I t, I n, .osl 23 1 0 l.length]) := by rw [o1 6 (by omega), h6]
  have zz1 : ∀ c, c < 46 → (k1 = c) = False := fun c hc => eq_false (by omega)
  simp -implicitDefEqProofs [p6_1, zz1]
  refine ⟨⟨sP1.cell, sB1.cell⟩, ?_⟩
  refine clK_of (tabA_call (setA2 ps t n l tu p wl hp4 hu48 _) (hms (fun i hi => by rw [look_cons, if_neg (by omega)]; exact o1 i hi)) hf1 (fun i hi => by rw [look_cons, if_neg (by omega)]; exact f1 i (by omega)) (fun t2 n2 e2 dP2 dB2 lP2 lB2 oP2 oB2 m2 k2 Q2 g2 a2 sP2 sB2 cP2 cB2 bP2 bB2 f2 => ?_))
  have o2 : ∀ i, i < 36 → look m2 i = look mem0 i := fun i hi => by rw [a2 i (by omega), look_cons, if_neg (by omega)]; exact o1 i hi
  have p6_2 : look m2 6 = some (.box [.sl (em encI ps), I t, I n, .osl 23 1 0 l.length]) := by rw [o2 6 (by omega), h6]
  have zz2 : ∀ c, c < 46 → (k2 = c) = False := fun c hc => eq_false (by omega)
  simp -implicitDefEqProofs [p6_2, zz1, zz2]
  refine ⟨⟨sP2.cell, sB2.cell⟩, ?_⟩
  refine clK_of (tabA_call (newA2 ps t hp4 _) (memSub_nil _) (hf4 _) (fun i hi => by rw [look_cons, if_neg (by omega)]; exact f2 i (by omega)) (fun t3 n3 e3 dP3 dB3 lP3 lB3 oP3 oB3 m3 k3 Q3 g3 a3 sP3 sB3 cP3 cB3 bP3 bB3 f3 => ?_))
  have o3 : ∀ i, i < 36 → look m3 i = look mem0 i := fun i hi => by rw [a3 i (by omega), look_cons, if_neg (by omega)]; exact o2 i hi
  have p6_3 : look m3 6 = some (.box [.sl (em encI ps), I t, I n, .osl 23 1 0 l.length]) := by rw [o3 6 (by omega), h6]
  have zz3 : ∀ c, c < 46 → (k3 = c) = False := fun c hc => eq_false (by omega)
  simp -implicitDefEqProofs [p6_3, zz1, zz2, zz3]
  refine ⟨⟨sP3.cell, sB3.cell⟩, ?_⟩
  refine clK_of (tupA hp4 (fun i hi => by rw [look_cons, if_neg (by omega)]; exact f3 i (by omega)) (fun d4 q4 e4 m4 k4 g4 a4 s4 c4 b4 f4 => ?_))
  have o4 : ∀ i, i < 36 → look m4 i = look mem0 i := fun i hi => by rw [a4 i (by omega), look_cons, if_neg (by omega)]; exact o3 i hi
  have p6_4 : look m4 6 = some (.box [.sl (em encI ps), I t, I n, .osl 23 1 0 l.length]) := by rw [o4 6 (by omega), h6]
  have zz4 : ∀ c, c < 46 → (k4 = c) = False := fun c hc => eq_false (by omega)
  simp -implicitDefEqProofs [p6_4, zz1, zz2, zz3, zz4]
  refine clK_of (tupA hp4 (fun i hi => f4 i (by omega)) (fun d5 q5 e5 m5 k5 g5 a5 s5 c5 b5 f5 => ?_))
  have o5 : ∀ i, i < 36 → look m5 i = look mem0 i := fun i hi => by rw [a5 i (by omega)]; exact o4 i hi
  have p6_5 : look m5 6 = some (.box [.sl (em encI ps), I t, I n, .osl 23 1 0 l.length]) := by rw [o5 6 (by omega), h6]
  have zz5 : ∀ c, c < 46 → (k5 = c) = False := fun c hc => eq_false (by omega)
  simp -implicitDefEqProofs [p6_5, zz1, zz2, zz3, zz4, zz5]
  have x1 : look m5 43 = some (.box [dP1, I t1, I n1, dB1]) := by repeat (first | rw [look_cons, if_pos rfl] | rw [look_cons, if_neg (by omega)] | rw [a5 _ (by omega)] | rw [a4 _ (by omega)] | rw [a3 _ (by omega)] | rw [a2 _ (by omega)])
  have x2 : look m5 (k1 + 7) = some (.box [dP2, I t2, I n2, dB2]) := by repeat (first | rw [look_cons, if_pos rfl] | rw [look_cons, if_neg (by omega)] | rw [a5 _ (by omega)] | rw [a4 _ (by omega)] | rw [a3 _ (by omega)] | rw [a2 _ (by omega)])
  have x3 : look m5 (k2 + 8) = some (.box [dP3, I t3, I n3, dB3]) := by repeat (first | rw [look_cons, if_pos rfl] | rw [look_cons, if_neg (by omega)] | rw [a5 _ (by omega)] | rw [a4 _ (by omega)] | rw [a3 _ (by omega)] | rw [a2 _ (by omega)])
  have r1 : ∀ i, 46 ≤ i → i < k1 → look m5 i = look m1 i := fun i h1 h2 => by
    rw [a5 _ (by omega), a4 _ (by omega), look_cons, if_neg (by omega), a3 _ (by omega), look_cons, if_neg (by omega), a2 _ (by omega), look_cons, if_neg (by omega)]
  have r2 : ∀ i, k1 + 10 ≤ i → i < k2 → look m5 i = look m2 i := fun i h1 h2 => by
    rw [a5 _ (by omega), a4 _ (by omega), look_cons, if_neg (by omega), a3 _ (by omega), look_cons, if_neg (by omega)]
  have r3 : ∀ i, k2 + 11 ≤ i → i < k3 → look m5 i = look m3 i := fun i h1 h2 => by
    rw [a5 _ (by omega), a4 _ (by omega), look_cons, if_neg (by omega)]
  have r4 : ∀ i, k3 + 8 ≤ i → i < k4 → look m5 i = look m4 i := fun i h1 h2 => by rw [a5 _ (by omega)]
  have yB1 := sB1.mono (mem' := m5) fun i h => r1 i (cB1 i h).1 (cB1 i h).2
  have yP1 := sP1.mono (mem' := m5) fun i h => r1 i (cP1 i h).1 (cP1 i h).2.1
  have yB2 := sB2.mono (mem' := m5) fun i h => r2 i (cB2 i h).1 (cB2 i h).2
  have yP2 := sP2.mono (mem' := m5) fun i h => r2 i (cP2 i h).1 (cP2 i h).2.1
  have yP3 := sP3.mono (mem' := m5) fun i h => r3 i (cP3 i h).1 (cP3 i h).2.1
  have y4 := s4.mono (mem' := m5) fun i h => r4 i (c4 i h).1 (c4 i h).2
  obtain ⟨l4, hl4e⟩ : ∃ l4, (tupF ps 0).1 = l4 := ⟨_, rfl⟩
  rw [hl4e] at y4 s5 b4
  obtain ⟨ss, hss⟩ : ∃ ss : List Sl1, [⟨encU, dB1, lB1.length, oB1⟩, ⟨encI, dP1, lP1.length, oP1⟩, ⟨encI, dP3, lP3.length, oP3⟩, ⟨encI, d4, l4.length, q4⟩] = ss := ⟨_, rfl⟩
  have hdj : Dj ss := by
    intro s hs s' hs' hne i h1 h2
    rw [← hss] at hs hs'
    simp only [List.mem_cons, List.not_mem_nil, or_false] at hs hs'
    rcases hs with rfl | rfl | rfl | rfl <;> rcases hs' with rfl | rfl | rfl | rfl <;> simp only at h1 h2 <;> first | exact hne rfl | exact (cP1 _ h2).2.2 h1 | exact (cP1 _ h1).2.2 h2 | (have a := cB1 _ h1; have b := cP3 _ h2; omega) | (have a := cB1 _ h2; have b := cP3 _ h1; omega) | (have a := cB1 _ h1; have b := c4 _ h2; omega) | (have a := cB1 _ h2; have b := c4 _ h1; omega) | (have a := cP1 _ h1; have b := cP3 _ h2; omega) | (have a := cP1 _ h2; have b := cP3 _ h1; omega) | (have a := cP1 _ h1; have b := c4 _ h2; omega) | (have a := cP1 _ h2; have b := c4 _ h1; omega) | (have a := cP3 _ h1; have b := c4 _ h2; omega) | (have a := cP3 _ h2; have b := c4 _ h1; omega)
  have hout : ∀ i, (i < 46 ∨ (k1 ≤ i ∧ i < k2 + 11) ∨ k4 ≤ i) → ∀ s ∈ ss, s.o ≠ some i := by
    intro i hi s hs h
    rw [← hss] at hs
    simp only [List.mem_cons, List.not_mem_nil, or_false] at hs
    rcases hs with rfl | rfl | rfl | rfl <;> simp only at h
    · have := cB1 _ h; omega
    · have := cP1 _ h; omega
    · have := cP3 _ h; omega
    · have := c4 _ h; omega
  have hlow : ∀ i, i < 46 → ∀ s ∈ ss, s.o ≠ some i := fun i h => hout i (.inl h)
  have hk28 := hout (k2 + 8) (.inr (.inl ⟨by omega, by omega⟩))
  have ka : Ka m5 ss m5 := by
    refine ⟨fun _ _ => rfl, fun s hs => ?_⟩
    rw [← hss] at hs
    simp only [List.mem_cons, List.not_mem_nil, or_false] at hs
    rcases hs with rfl | rfl | rfl | rfl
    · exact ⟨lB1, rfl, yB1⟩
    · exact ⟨lP1, rfl, yP1⟩
    · exact ⟨lP3, rfl, yP3⟩
    · exact ⟨l4, rfl, y4⟩
  have hnx : k5 ≤ k5 + 9 := by omega
  obtain ⟨mem, hmem⟩ : ∃ mem, m5 = mem := ⟨_, rfl⟩
  rw [hmem]
  have ka : Ka m5 ss mem := by rw [← hmem]; exact ka
  clear hmem
  refine lp7_3 (α := Lz) (fun x _ => [(21, I x.i)]) (fun x _ => x.mem) (fun x nx => k5 ≤ nx ∧ x.i ≤ lB1.length ∧ Ka m5 ss x.mem) (fun x => lB1.length - x.i) ⟨0, mem, ⟩ ⟨by omega, by simp, ka⟩ (by simp) (memLe_refl _) ?_
  clear ka hnx
  rintro ⟨i, mem⟩ nx ⟨hnx, hi, ka⟩
  simp only at hnx hi ka
  obtain ⟨l', hl', hS⟩ := ka.has ⟨encU, dB1, lB1.length, oB1⟩ (by rw [← hss]; simp)
  simp only at hl' hS
  have hb43 : look mem 43 = some (.box [dP1, I t1, I n1, dB1]) := by rw [ka.un 43 (hlow 43 (by omega)), x1]
  have hb3 : look mem (k2 + 8) = some (.box [dP3, I t3, I n3, dB3]) := by rw [ka.un (k2 + 8) hk28, x3]
  have w1 := wr64 (x := (i : Int) + 1) (by omega) (by omega)
  by_cases hlt : i < lB1.length
  · have hlt2 : (i : Int) < (lB1.length : Int) := by omega
    obtain ⟨id, ho⟩ : ∃ id, oB1 = some id := by
      rcases ho : oB1 with _ | id
      · rw [ho] at hS; obtain ⟨_, h⟩ := hS; rw [h] at hl'; simp at hl'; omega
      · exact ⟨id, rfl⟩
    rw [ho] at hS
    obtain ⟨ver, hd, hlk⟩ := hS
    rw [hl'] at hd
    have hleno : lenD mem false (.osl id ver 0 lB1.length) = some (I lB1.length) := by simp [lenD, curv, hlk, hl']
    have hlt3 : i < l'.length := by omega
    simp -implicitDefEqProofs [-lenD, lb7_3, hb43, hb3, hd, hlk, hleno, hlt, hlt2, hlt3, hl', w1]
    have ka' := ka.write hdj (s := ⟨encU, dB1, lB1.length, oB1⟩) (by rw [← hss]; simp) (id := id) (ver := ver) (l' := l'.set i 99) ho hd hlk (by simp [hl'])
    exact again_of ⟨i + 1, _⟩ ⟨by omega, hlt, ka'⟩ (by simp only; omega) (by simp) (memLe_refl _)
  · have hlt2 : ¬ (i : Int) < (lB1.length : Int) := by omega
    have hleno : lenD mem false dB1 = some (I lB1.length) := by
      rcases ho : oB1 with _ | id
      · rw [ho] at hS; obtain ⟨hd, h⟩ := hS; rw [h] at hl'; rw [hd, ← hl']; rfl
      · rw [ho] at hS; obtain ⟨ver, hd, hlk⟩ := hS; rw [hd, ← hl']; simp [lenD, curv, hlk]
    simp -implicitDefEqProofs [-lenD, lb7_3, hb43, hb3, hleno, hlt2]
    clear hlt hlt2 hS hl' l' w1 hleno hb43 hb3
    refine lp7_2 (α := Lz) (fun x _ => [(22, I x.i)]) (fun x _ => x.mem) (fun x nx => k5 ≤ nx ∧ x.i ≤ lP1.length ∧ Ka m5 ss x.mem) (fun x => lP1.length - x.i) ⟨0, mem, ⟩ ⟨by omega, by simp, ka⟩ (by simp) (memLe_refl _) ?_
    clear ka hnx
    rintro ⟨i, mem⟩ nx ⟨hnx, hi, ka⟩
    simp only at hnx hi ka
    obtain ⟨l', hl', hS⟩ := ka.has ⟨encI, dP1, lP1.length, oP1⟩ (by rw [← hss]; simp)
    simp only at hl' hS
    have hb43 : look mem 43 = some (.box [dP1, I t1, I n1, dB1]) := by rw [ka.un 43 (hlow 43 (by omega)), x1]
    have hb3 : look mem (k2 + 8) = some (.box [dP3, I t3, I n3, dB3]) := by rw [ka.un (k2 + 8) hk28, x3]
    have w1 := wr64 (x := (i : Int) + 1) (by omega) (by omega)
    by_cases hlt : i < lP1.length
    · have hlt2 : (i : Int) < (lP1.length : Int) := by omega
      obtain ⟨id, ho⟩ : ∃ id, oP1 = some id := by
        rcases ho : oP1 with _ | id
        · rw [ho] at hS; obtain ⟨_, h⟩ := hS; rw [h] at hl'; simp at hl'; omega
        · exact ⟨id, rfl⟩
      rw [ho] at hS
      obtain ⟨ver, hd, hlk⟩ := hS
      rw [hl'] at hd
      have hleno : lenD mem false (.osl id ver 0 lP1.length) = some (I lP1.length) := by simp [lenD, curv, hlk, hl']
      have hlt3 : i < l'.length := by omega
      simp -implicitDefEqProofs [-lenD, lb7_2, hb43, hb3, hd, hlk, hleno, hlt, hlt2, hlt3, hl', w1]
      have ka' := ka.write hdj (s := ⟨encI, dP1, lP1.length, oP1⟩) (by rw [← hss]; simp) (id := id) (ver := ver) (l' := l'.set i 98) ho hd hlk (by simp [hl'])
      exact again_of ⟨i + 1, _⟩ ⟨by omega, hlt, ka'⟩ (by simp only; omega) (by simp) (memLe_refl _)
    · have hlt2 : ¬ (i : Int) < (lP1.length : Int) := by omega
      have hleno : lenD mem false dP1 = some (I lP1.length) := by
        rcases ho : oP1 with _ | id
        · rw [ho] at hS; obtain ⟨hd, h⟩ := hS; rw [h] at hl'; rw [hd, ← hl']; rfl
        · rw [ho] at hS; obtain ⟨ver, hd, hlk⟩ := hS; rw [hd, ← hl']; simp [lenD, curv, hlk]
      simp -implicitDefEqProofs [-lenD, lb7_2, hb43, hb3, hleno, hlt2]
      clear hlt hlt2 hS hl' l' w1 hleno hb43 hb3
      refine lp7_1 (α := Lz) (fun x _ => [(23, I x.i)]) (fun x _ => x.mem) (fun x nx => k5 ≤ nx ∧ x.i ≤ lP3.length ∧ Ka m5 ss x.mem) (fun x => lP3.length - x.i) ⟨0, mem, ⟩ ⟨by omega, by simp, ka⟩ (by simp) (memLe_refl _) ?_
      clear ka hnx
      rintro ⟨i, mem⟩ nx ⟨hnx, hi, ka⟩
      simp only at hnx hi ka
      obtain ⟨l', hl', hS⟩ := ka.has ⟨encI, dP3, lP3.length, oP3⟩ (by rw [← hss]; simp)
      simp only at hl' hS
      have hb43 : look mem 43 = some (.box [dP1, I t1, I n1, dB1]) := by rw [ka.un 43 (hlow 43 (by omega)), x1]
      have hb3 : look mem (k2 + 8) = some (.box [dP3, I t3, I n3, dB3]) := by rw [ka.un (k2 + 8) hk28, x3]
      have w1 := wr64 (x := (i : Int) + 1) (by omega) (by omega)
      by_cases hlt : i < lP3.length
      · have hlt2 : (i : Int) < (lP3.length : Int) := by omega
        obtain ⟨id, ho⟩ : ∃ id, oP3 = some id := by
          rcases ho : oP3 with _ | id
          · rw [ho] at hS; obtain ⟨_, h⟩ := hS; rw [h] at hl'; simp at hl'; omega
          · exact ⟨id, rfl⟩
        rw [ho] at hS
        obtain ⟨ver, hd, hlk⟩ := hS
        rw [hl'] at hd
        have hleno : lenD mem false (.osl id ver 0 lP3.length) = some (I lP3.length) := by simp [lenD, curv, hlk, hl']
        have hlt3 : i < l'.length := by omega
        simp -implicitDefEqProofs [-lenD, lb7_1, hb43, hb3, hd, hlk, hleno, hlt, hlt2, hlt3, hl', w1]
        have ka' := ka.write hdj (s := ⟨encI, dP3, lP3.length, oP3⟩) (by rw [← hss]; simp) (id := id) (ver := ver) (l' := l'.set i 97) ho hd hlk (by simp [hl'])
        exact again_of ⟨i + 1, _⟩ ⟨by omega, hlt, ka'⟩ (by simp only; omega) (by simp) (memLe_refl _)
      · have hlt2 : ¬ (i : Int) < (lP3.length : Int) := by omega
        have hleno : lenD mem false dP3 = some (I lP3.length) := by
          rcases ho : oP3 with _ | id
          · rw [ho] at hS; obtain ⟨hd, h⟩ := hS; rw [h] at hl'; rw [hd, ← hl']; rfl
          · rw [ho] at hS; obtain ⟨ver, hd, hlk⟩ := hS; rw [hd, ← hl']; simp [lenD, curv, hlk]
        simp -implicitDefEqProofs [-lenD, lb7_1, hb43, hb3, hleno, hlt2]
        clear hlt hlt2 hS hl' l' w1 hleno hb43 hb3
        refine lp7_0 (α := Lz) (fun x _ => [(24, I x.i)]) (fun x _ => x.mem) (fun x nx => k5 ≤ nx ∧ x.i ≤ l4.length ∧ Ka m5 ss x.mem) (fun x => l4.length - x.i) ⟨0, mem, ⟩ ⟨by omega, by simp, ka⟩ (by simp) (memLe_refl _) ?_
        clear ka hnx
        rintro ⟨i, mem⟩ nx ⟨hnx, hi, ka⟩
        simp only at hnx hi ka
        obtain ⟨l', hl', hS⟩ := ka.has ⟨encI, d4, l4.length, q4⟩ (by rw [← hss]; simp)
        simp only at hl' hS
        have hb43 : look mem 43 = some (.box [dP1, I t1, I n1, dB1]) := by rw [ka.un 43 (hlow 43 (by omega)), x1]
        have hb3 : look mem (k2 + 8) = some (.box [dP3, I t3, I n3, dB3]) := by rw [ka.un (k2 + 8) hk28, x3]
        have w1 := wr64 (x := (i : Int) + 1) (by omega) (by omega)
        by_cases hlt : i < l4.length
        · have hlt2 : (i : Int) < (l4.length : Int) := by omega
          obtain ⟨id, ho⟩ : ∃ id, q4 = some id := by
            rcases ho : q4 with _ | id
            · rw [ho] at hS; obtain ⟨_, h⟩ := hS; rw [h] at hl'; simp at hl'; omega
            · exact ⟨id, rfl⟩
          rw [ho] at hS
          obtain ⟨ver, hd, hlk⟩ := hS
          rw [hl'] at hd
          have hleno : lenD mem false (.osl id ver 0 l4.length) = some (I l4.length) := by simp [lenD, curv, hlk, hl']
          have hlt3 : i < l'.length := by omega
          simp -implicitDefEqProofs [-lenD, lb7_0, hb43, hb3, hd, hlk, hleno, hlt, hlt2, hlt3, hl', w1]
          have ka' := ka.write hdj (s := ⟨encI, d4, l4.length, q4⟩) (by rw [← hss]; simp) (id := id) (ver := ver) (l' := l'.set i 96) ho hd hlk (by simp [hl'])
          exact again_of ⟨i + 1, _⟩ ⟨by omega, hlt, ka'⟩ (by simp only; omega) (by simp) (memLe_refl _)
        · have hlt2 : ¬ (i : Int) < (l4.length : Int) := by omega
          have hleno : lenD mem false d4 = some (I l4.length) := by
            rcases ho : q4 with _ | id
            · rw [ho] at hS; obtain ⟨hd, h⟩ := hS; rw [h] at hl'; rw [hd, ← hl']; rfl
            · rw [ho] at hS; obtain ⟨ver, hd, hlk⟩ := hS; rw [hd, ← hl']; simp [lenD, curv, hlk]
          simp -implicitDefEqProofs [-lenD, lb7_0, hb43, hb3, hleno, hlt2]
          clear hlt hlt2 hS hl' l' w1 hleno hb43 hb3
          have hb43 : look mem 43 = some (.box [dP1, I t1, I n1, dB1]) := by rw [ka.un 43 (hlow 43 (by omega)), x1]
          have hlit3 : bslI 1 1 [.int .u64 0] [(0, 1, .pl (.int .u64 95))] = some (.sl (em encU [95])) := rfl
          have zzn : ∀ c, c < 46 → (nx = c) = False := fun c hc => eq_false (by omega)
          obtain ⟨lb, hlb, hS⟩ := ka.has ⟨encU, dB1, lB1.length, oB1⟩ (by rw [← hss]; simp)
          simp only at hlb hS
          have hkeep : ∀ i, (i < 46 ∨ (k1 ≤ i ∧ i < k2 + 11) ∨ k4 ≤ i) → look mem i = look m5 i := fun i hi => ka.un i (hout i hi)
          rcases ho : oB1 with _ | id
          · rw [ho] at hS
            obtain ⟨hd, hl0⟩ := hS
            simp -implicitDefEqProofs [-bslI, hlit3, hd, hb43, zzn]
            obtain ⟨Mx, hMx⟩ : ∃ M : Mem, ((nx + 4 + 4, Blk.arr 0 1 [[D.pl (Value.int IntKind.u64 95)]]) :: upd mem 43 (Blk.box [dP1, I t1, I n1, D.osl (nx + 4 + 4) 0 0 1])) = M := ⟨_, rfl⟩
            rw [hMx]
            have hx : ∀ i, i ≠ 43 → (i < 46 ∨ (k1 ≤ i ∧ i < k2 + 11) ∨ (k4 ≤ i ∧ i < k5)) → look Mx i = look m5 i := fun i h43 hi => by
              rw [← hMx]
              rw [look_cons, if_neg (by omega), look_upd_ne _ h43]; exact hkeep i (by omega)
            clear hMx
            have hl36 : ∀ i, i < 36 → look Mx i = look mem0 i := fun i hi => by rw [hx i (by omega) (by omega), o5 i hi]
            have hsub := hms hl36
            have u6 : look Mx 6 = some (.box [.sl (em encI ps), I t, I n, .osl 23 1 0 l.length]) := by rw [hl36 6 (by omega), h6]
            have u10 : look Mx 10 = some (.arr 1 1 (em encI (tu ++ [71]))) := by rw [hl36 10 (by omega), h10]
            have u23 : look Mx 23 = some (.arr 1 1 (em encU (l ++ [72]))) := by rw [hl36 23 (by omega), h23]
            have u2 : look Mx (k1 + 7) = some (.box [dP2, I t2, I n2, dB2]) := by rw [hx _ (by omega) (by omega), x2]
            have vB2 := yB2.mono (mem' := Mx) fun i h => hx i (by have := cB2 i h; omega) (by have := cB2 i h; omega)
            have vP2 := yP2.mono (mem' := Mx) fun i h => hx i (by have := cP2 i h; omega) (by have := cP2 i h; omega)
            have v5 := s5.mono (mem' := Mx) fun i h => hx i (by have := c5 i h; omega) (by have := c5 i h; omega)
            have hset : Pure Try.prog 26 [tb ps t n l, .sl (em encI tu), I p] (.tup [tb lP2 t2 n2 lB2, I (setF ps t n l tu p).2]) := by
              have h := refSet_c16 ps t n l tu p wl hp4 hu48
              rw [Q2] at h; exact h
            have htup := refTuple_c ps 0 hp4
            rw [hl4e] at htup
            refine pcK_of hset (by simp) ?_
            simp -implicitDefEqProofs [zzn]
            refine pcK_of htup (by simp) ?_
            simp -implicitDefEqProofs [zzn, u6]
            refine clK_of (CallT_flat (d0 := B (decide (ps = ps ∧ t = t ∧ n = n ∧ l = l))) rfl (by first | exact hsub | exact fun i b hb => by rw [look_cons, if_neg (by rintro rfl; rw [hno _ (by omega)] at hb; simp at hb)]; exact hsub i b hb) hf2 (Same_c16 ps ps t t n n l l (by omega) (by omega)) ?_)
            simp -implicitDefEqProofs [u10, u6]
            refine clK_of (CallT_flat (d0 := B (decide (tu = tu))) rfl (by first | exact hsub | exact fun i b hb => by rw [look_cons, if_neg (by rintro rfl; rw [hno _ (by omega)] at hb; simp at hb)]; exact hsub i b hb) hf3 (same_c16 tu tu (by omega)) ?_)
            have zk1 : (nx + 12 = k1) = False := eq_false (by omega)
            have zk2 : (nx + 4 + 8 + 7 = k1 + 7) = False := eq_false (by omega)
            have zk3 : (nx + 4 + 8 = k1) = False := eq_false (by omega)
            simp -implicitDefEqProofs [u10, u6, u23, u2, zzn, zk1, zk2, zk3]
            refine ⟨by omega, by omega, ?_⟩
            have vB2' := vB2.mono (mem' := (nx + 4 + 8 + 7, Blk.box [D.sl (em encI lP2), I t2, I n2, D.sl (em encU lB2)]) :: Mx) fun i h => by rw [look_cons, if_neg (by have := cB2 i h; omega)]
            have vP2' := vP2.mono (mem' := (nx + 4 + 8 + 7, Blk.box [D.sl (em encI lP2), I t2, I n2, D.sl (em encU lB2)]) :: Mx) fun i h => by rw [look_cons, if_neg (by have := cP2 i h; omega)]
            have v5' := v5.mono (mem' := (nx + 4 + 8 + 7, Blk.box [D.sl (em encI lP2), I t2, I n2, D.sl (em encU lB2)]) :: Mx) fun i h => by rw [look_cons, if_neg (by have := c5 i h; omega)]
            have hf7 : frzs ((nx + 4 + 8 + 7, Blk.box [D.sl (em encI lP2), I t2, I n2, D.sl (em encU lB2)]) :: Mx) 100 [.agg [dP2, I t2, I n2, dB2], .agg [.sl (em encI lP2), I t2, I n2, .sl (em encU lB2)]] = some [tb lP2 t2 n2 lB2, tb lP2 t2 n2 lB2] := frzs_tab vP2' vB2'
            have hf8 : frzs ((nx + 4 + 8 + 7, Blk.box [D.sl (em encI lP2), I t2, I n2, D.sl (em encU lB2)]) :: Mx) 100 [d5, .sl (em encI l4)] = some [.sl (em encI l4), .sl (em encI l4)] := frzs_sl2 v5'
            refine clK_of (CallT_flat (d0 := B (decide (lP2 = lP2 ∧ t2 = t2 ∧ n2 = n2 ∧ lB2 = lB2))) rfl (memSub_refl _) hf7 (Same_c16 lP2 lP2 t2 t2 n2 n2 lB2 lB2 (by omega) (by omega)) ?_)
            simp -implicitDefEqProofs []
            refine clK_of (CallT_flat (d0 := B (decide (l4 = l4))) rfl (memSub_refl _) hf8 (same_c16 l4 l4 (by omega)) ?_)
            simp -implicitDefEqProofs []
          · rw [ho] at hS
            obtain ⟨ver, hd, hlk⟩ := hS
            have hi43 : (id = 43) = False := eq_false (by have := cB1 id ho; omega)
            have hu : ∀ B, look (upd mem id B) 43 = some (.box [dP1, I t1, I n1, dB1]) := fun B => by rw [look_upd_ne _ (by have := cB1 id ho; omega), hb43]
            have b9 : (lb.length + 1) * 8 ≤ 3 * 2 ^ 46 := by omega
            have b8 : lb.length ≤ 199 := by omega
            simp -implicitDefEqProofs [-bslI, hlit3, hd, hb43, zzn, hlk, hi43, hu, b9]
            obtain ⟨Mx, hMx⟩ : ∃ M : Mem, upd (upd mem id (Blk.arr (ver + 1) 1 (em encU (lb ++ [95])))) 43 (Blk.box [dP1, I t1, I n1, D.osl id (ver + 1) 0 (lb.length + 1)]) = M := ⟨_, rfl⟩
            rw [hMx]
            have hx : ∀ i, i ≠ 43 → (i < 46 ∨ (k1 ≤ i ∧ i < k2 + 11) ∨ (k4 ≤ i ∧ i < k5)) → look Mx i = look m5 i := fun i h43 hi => by
              rw [← hMx]
              rw [look_upd_ne _ h43, look_upd_ne _ (by have := cB1 id ho; omega)]; exact hkeep i (by omega)
            clear hMx
            have hl36 : ∀ i, i < 36 → look Mx i = look mem0 i := fun i hi => by rw [hx i (by omega) (by omega), o5 i hi]
            have hsub := hms hl36
            have u6 : look Mx 6 = some (.box [.sl (em encI ps), I t, I n, .osl 23 1 0 l.length]) := by rw [hl36 6 (by omega), h6]
            have u10 : look Mx 10 = some (.arr 1 1 (em encI (tu ++ [71]))) := by rw [hl36 10 (by omega), h10]
            have u23 : look Mx 23 = some (.arr 1 1 (em encU (l ++ [72]))) := by rw [hl36 23 (by omega), h23]
            have u2 : look Mx (k1 + 7) = some (.box [dP2, I t2, I n2, dB2]) := by rw [hx _ (by omega) (by omega), x2]
            have vB2 := yB2.mono (mem' := Mx) fun i h => hx i (by have := cB2 i h; omega) (by have := cB2 i h; omega)
            have vP2 := yP2.mono (mem' := Mx) fun i h => hx i (by have := cP2 i h; omega) (by have := cP2 i h; omega)
            have v5 := s5.mono (mem' := Mx) fun i h => hx i (by have := c5 i h; omega) (by have := c5 i h; omega)
            have hset : Pure Try.prog 26 [tb ps t n l, .sl (em encI tu), I p] (.tup [tb lP2 t2 n2 lB2, I (setF ps t n l tu p).2]) := by
              have h := refSet_c16 ps t n l tu p wl hp4 hu48
              rw [Q2] at h; exact h
            have htup := refTuple_c ps 0 hp4
            rw [hl4e] at htup
            refine pcK_of hset (by simp) ?_
            simp -implicitDefEqProofs [zzn]
            refine pcK_of htup (by simp) ?_
            simp -implicitDefEqProofs [zzn, u6]
            refine clK_of (CallT_flat (d0 := B (decide (ps = ps ∧ t = t ∧ n = n ∧ l = l))) rfl (by first | exact hsub | exact fun i b hb => by rw [look_cons, if_neg (by rintro rfl; rw [hno _ (by omega)] at hb; simp at hb)]; exact hsub i b hb) hf2 (Same_c16 ps ps t t n n l l (by omega) (by omega)) ?_)
            simp -implicitDefEqProofs [u10, u6]
            refine clK_of (CallT_flat (d0 := B (decide (tu = tu))) rfl (by first | exact hsub | exact fun i b hb => by rw [look_cons, if_neg (by rintro rfl; rw [hno _ (by omega)] at hb; simp at hb)]; exact hsub i b hb) hf3 (same_c16 tu tu (by omega)) ?_)
            have zk1 : (nx + 12 = k1) = False := eq_false (by omega)
            have zk2 : (nx + 4 + 8 + 7 = k1 + 7) = False := eq_false (by omega)
            have zk3 : (nx + 4 + 8 = k1) = False := eq_false (by omega)
            simp -implicitDefEqProofs [u10, u6, u23, u2, zzn, zk1, zk2, zk3]
            refine ⟨by omega, by omega, ?_⟩
            have vB2' := vB2.mono (mem' := (nx + 4 + 8 + 7, Blk.box [D.sl (em encI lP2), I t2, I n2, D.sl (em encU lB2)]) :: Mx) fun i h => by rw [look_cons, if_neg (by have := cB2 i h; omega)]
            have vP2' := vP2.mono (mem' := (nx + 4 + 8 + 7, Blk.box [D.sl (em encI lP2), I t2, I n2, D.sl (em encU lB2)]) :: Mx) fun i h => by rw [look_cons, if_neg (by have := cP2 i h; omega)]
            have v5' := v5.mono (mem' := (nx + 4 + 8 + 7, Blk.box [D.sl (em encI lP2), I t2, I n2, D.sl (em encU lB2)]) :: Mx) fun i h => by rw [look_cons, if_neg (by have := c5 i h; omega)]
            have hf7 : frzs ((nx + 4 + 8 + 7, Blk.box [D.sl (em encI lP2), I t2, I n2, D.sl (em encU lB2)]) :: Mx) 100 [.agg [dP2, I t2, I n2, dB2], .agg [.sl (em encI lP2), I t2, I n2, .sl (em encU lB2)]] = some [tb lP2 t2 n2 lB2, tb lP2 t2 n2 lB2] := frzs_tab vP2' vB2'
            have hf8 : frzs ((nx + 4 + 8 + 7, Blk.box [D.sl (em encI lP2), I t2, I n2, D.sl (em encU lB2)]) :: Mx) 100 [d5, .sl (em encI l4)] = some [.sl (em encI l4), .sl (em encI l4)] := frzs_sl2 v5'
            refine clK_of (CallT_flat (d0 := B (decide (lP2 = lP2 ∧ t2 = t2 ∧ n2 = n2 ∧ lB2 = lB2))) rfl (memSub_refl _) hf7 (Same_c16 lP2 lP2 t2 t2 n2 n2 lB2 lB2 (by omega) (by omega)) ?_)
            simp -implicitDefEqProofs []
            refine clK_of (CallT_flat (d0 := B (decide (l4 = l4))) rfl (memSub_refl _) hf8 (same_c16 l4 l4 (by omega)) ?_)
            simp -implicitDefEqProofs []
theorem law_TuplesKeep : ∀ xs, Args Try.prog Try.f7.params.toList xs → Pure Try.prog 7 xs (B true) := by
  intro xs h
  rw [Try.params7] at h
  simp only [Args] at h
  obtain ⟨x, r, rfl, hx, y, r2, rfl, hy, z, r3, rfl, hz, rfl⟩ := h
  obtain ⟨ps, t, n, l, rfl, hp, hw, hl⟩ := arg_table hx
  obtain ⟨tu, rfl, hu⟩ := arg_pts hy
  obtain ⟨p, rfl, _⟩ := arg_int hz
  exact law_TuplesKeep_at ps t n l tu p hp hl hu hw
end Go.Fx.Ytjfiklflmnhbdaa

/-
  Layer 13: the heap's calls by what the heap is: the blocks in J are its own, all others stay.
-/
import Derived.Test.YtdjhlljgedknaaaHe
set_option linter.all false
set_option maxRecDepth 100000
set_option maxHeartbeats 4000000
namespace Go.Fx.Ytdjhlljgedknaaa
open Go Go.Fx Go.Proofs Go.Fx.Flt
def SlI (mem : Mem) (k : Nat) (d : D) (es : List (List D)) (J : Nat → Prop) (hid : Nat) : Prop :=
  (d = nilD ∧ es = []) ∨ ∃ id ver, d = .osl id ver 0 es.length ∧ look mem id = some (.arr ver k es) ∧ J id ∧ id ≠ hid
structure Hp (mem : Mem) (nx : Nat) (J : Nat → Prop) (hid : Nat) (ns : List Nd) (ps : List (Ce × Ce)) (th up : Int) : Prop where
  ex : ∃ nd pd, look mem hid = some (.box [nd, pd, I th, I up]) ∧ SlI mem 6 nd (em encNd ns) J hid ∧ SlI mem 8 pd (em encPr ps) J hid
  h0 : J hid
  lt : ∀ i, J i → i < nx
/-- What lies outside of J stays; J grows by new blocks. -/
structure Fm (mem : Mem) (nx : Nat) (J : Nat → Prop) (mem' : Mem) (nx' : Nat) (J' : Nat → Prop) : Prop where
  le : nx ≤ nx'
  keep : ∀ i, i < nx → ¬ J i → look mem' i = look mem i
  news : ∀ i, J' i → J i ∨ nx ≤ i
theorem Fm.refl (mem : Mem) {nx nx' : Nat} (J : Nat → Prop) (h : nx ≤ nx') : Fm mem nx J mem nx' J := ⟨h, fun _ _ _ => rfl, fun _ h => .inl h⟩
theorem SlI.mono {mem mem' : Mem} {k : Nat} {d : D} {es : List (List D)} {J J' : Nat → Prop} {hid : Nat} (h : SlI mem k d es J hid)
    (hk : ∀ id ver, look mem id = some (.arr ver k es) → J id → id ≠ hid → look mem' id = look mem id) (hJ : ∀ i, J i → J' i) : SlI mem' k d es J' hid := by
  rcases h with h | ⟨id, ver, h1, h2, h3, h4⟩
  · exact .inl h
  · exact .inr ⟨id, ver, h1, by rw [hk id ver h2 h3 h4, h2], hJ _ h3, h4⟩
theorem SlI.sees {mem : Mem} {k : Nat} {d : D} {es : List (List D)} {J : Nat → Prop} {hid : Nat} (h : SlI mem k d es J hid) (hi : D.immss es = true) : Sees mem d es := by
  rcases h with ⟨rfl, rfl⟩ | ⟨id, ver, rfl, h, _⟩
  · exact sees_nil
  · exact sees_osl h hi
theorem em_nil {α : Type} {enc : α → List D} {l : List α} (h : em enc l = []) : l = [] := by
  cases l with
  | nil => rfl
  | cons x l => simp [em] at h
section
variable {mem : Mem} {nx hid : Nat} {J : Nat → Prop} {ns : List Nd} {ps : List (Ce × Ce)} {th up : Int} {K : KD}
theorem Hp.mono {mem' : Mem} {nx' : Nat} (h : Hp mem nx J hid ns ps th up) (hk : ∀ i, J i → look mem' i = look mem i) (hn : nx ≤ nx') : Hp mem' nx' J hid ns ps th up := by
  obtain ⟨nd, pd, hb, h1, h2⟩ := h.ex
  exact ⟨⟨nd, pd, by rw [hk _ h.h0, hb], h1.mono (fun i _ _ hj _ => hk i hj) fun _ h => h, h2.mono (fun i _ _ hj _ => hk i hj) fun _ h => h⟩, h.h0, fun i hi => Nat.lt_of_lt_of_le (h.lt i hi) hn⟩
theorem Hp.cons {q nx' : Nat} {b : Blk} (h : Hp mem nx J hid ns ps th up) (hq : nx ≤ q) (hn : nx ≤ nx') : Hp ((q, b) :: mem) nx' J hid ns ps th up :=
  h.mono (fun i hi => by have := h.lt i hi; rw [look_cons, if_neg (by omega)]) hn
theorem Hp.later {nx' : Nat} (h : Hp mem nx J hid ns ps th up) (hn : nx ≤ nx') : Hp mem nx' J hid ns ps th up := h.mono (fun _ _ => rfl) hn
theorem Hp.updO {q : Nat} {b : Blk} (h : Hp mem nx J hid ns ps th up) (hq : ¬ J q) : Hp (upd mem q b) nx J hid ns ps th up :=
  h.mono (fun i hi => look_upd_ne b (fun e => hq (by rw [← e]; exact hi)) mem) (Nat.le_refl _)
theorem New_h (hk : ∀ id nx', nx ≤ id → id < nx' → Hp ((id, .box [.pl (.slice none 0 0), .pl (.slice none 0 0), I 0, I 0]) :: mem) nx' (fun i => i = id) id [] [] 0 0 → K (.opt id 0) ((id, .box [.pl (.slice none 0 0), .pl (.slice none 0 0), I 0, I 0]) :: mem) nx') : CallT Try.prog 8 [] mem nx K :=
  New_t fun id nx' h1 h2 => hk id nx' h1 h2 ⟨⟨_, _, by rw [look_cons, if_pos rfl], .inl ⟨rfl, rfl⟩, .inl ⟨rfl, rfl⟩⟩, rfl, fun i hi => by omega⟩
/-- The nodes grow by one that lies in a row already. -/
theorem grow_o {nid ver : Nat} {pd : D} {n : Nd} {th' : Int} {nx' : Nat} (h : Hp mem nx J hid ns ps th up) (h2 : SlI mem 8 pd (em encPr ps) J hid) (h3 : look mem nid = some (.arr ver 6 (em encNd ns))) (h4 : J nid) (h5 : nid ≠ hid) (hl : look mem hid ≠ none) (hn : nx ≤ nx') :
    Hp (upd (upd mem nid (.arr (ver + 1) 6 (em encNd (ns ++ [n])))) hid (.box [.osl nid (ver + 1) 0 (ns.length + 1), pd, I th', I up])) nx' J hid (ns ++ [n]) ps th' up ∧
    Fm mem nx J (upd (upd mem nid (.arr (ver + 1) 6 (em encNd (ns ++ [n])))) hid (.box [.osl nid (ver + 1) 0 (ns.length + 1), pd, I th', I up])) nx' J := by
  obtain ⟨b, hb⟩ := Option.ne_none_iff_exists'.mp hl
  refine ⟨⟨⟨_, _, look_upd_same hid _ b _ (by rw [look_upd_ne _ (Ne.symm h5), hb]), .inr ⟨nid, ver + 1, by simp, ?_, h4, h5⟩, h2.mono (fun i v hi hj he => ?_) fun _ h => h⟩, h.h0, fun i hi => Nat.lt_of_lt_of_le (h.lt i hi) hn⟩, hn, fun i hi hj => ?_, fun _ h => .inl h⟩
  · rw [look_upd_ne _ h5, look_upd_same nid _ _ _ h3]
  · rw [look_upd_ne _ he, look_upd_ne _ (fun e => by subst e; rw [h3] at hi; simp at hi)]
  · rw [look_upd_ne _ (fun e => hj (by rw [e]; exact h.h0)), look_upd_ne _ (fun e => hj (by rw [e]; exact h4))]
theorem grow_z {id : Nat} {pd : D} {n : Nd} {th' : Int} {nx' : Nat} (h : Hp mem nx J hid [] ps th up) (h2 : SlI mem 8 pd (em encPr ps) J hid) (hl : look mem hid ≠ none) (hi : nx ≤ id) (hn : id < nx') :
    Hp ((id, .arr 0 6 (em encNd [n])) :: upd mem hid (.box [.osl id 0 0 1, pd, I th', I up])) nx' (fun i => J i ∨ i = id) hid [n] ps th' up ∧
    Fm mem nx J ((id, .arr 0 6 (em encNd [n])) :: upd mem hid (.box [.osl id 0 0 1, pd, I th', I up])) nx' (fun i => J i ∨ i = id) := by
  obtain ⟨b, hb⟩ := Option.ne_none_iff_exists'.mp hl
  have h0 := h.lt _ h.h0
  refine ⟨⟨⟨_, _, by rw [look_cons, if_neg (by omega), look_upd_same hid _ b _ hb]; rfl, .inr ⟨id, 0, rfl, by rw [look_cons, if_pos rfl], .inr rfl, by omega⟩, h2.mono (fun i v hi hj he => ?_) fun _ h => .inl h⟩, .inl h.h0, fun i hi => ?_⟩, by omega, fun i hi hj => ?_, fun i h => ?_⟩
  · have := h.lt _ hj; rw [look_cons, if_neg (by omega), look_upd_ne _ he]
  · rcases hi with hi | rfl
    · have := h.lt _ hi; omega
    · exact hn
  · rw [look_cons, if_neg (by omega), look_upd_ne _ (fun e => hj (by rw [e]; exact h.h0))]
  · rcases h with h | rfl
    · exact .inl h
    · exact .inr hi
theorem Delay_h (tag : Int) (h : Hp mem nx J hid ns ps th up) (hl : ns.length < 2 ^ 41) (ht : 0 ≤ th) (ht2 : th < 2 ^ 62)
    (hk : ∀ mem' nx' J', Hp mem' nx' J' hid (ns ++ [⟨1, tag, ce0⟩]) ps (th + 1) up → Fm mem nx J mem' nx' J' → K (.tup [I ns.length, I 0]) mem' nx') : CallT Try.prog 10 [.opt hid 0, I tag] mem nx K := by
  obtain ⟨nd, pd, hb, h1, h2⟩ := h.ex
  have hne : look mem hid ≠ none := by rw [hb]; simp
  rcases h1 with ⟨rfl, h1⟩ | ⟨nid, ver, rfl, h3, h4, h5⟩
  · obtain rfl := em_nil h1
    refine Delay_z tag hb (h.lt _ h.h0) ht ht2 fun id nx' g1 g2 => ?_
    obtain ⟨k1, k2⟩ := grow_z (n := ⟨1, tag, ce0⟩) (th' := th + 1) (nx' := nx') h h2 hne g1 g2
    exact hk _ _ _ k1 k2
  · rw [em_len] at hb
    refine Delay_o tag hb h3 h5 (h.lt _ h.h0) (h.lt _ h4) hl ht ht2 fun nx' g1 => ?_
    obtain ⟨k1, k2⟩ := grow_o (n := ⟨1, tag, ce0⟩) (th' := th + 1) (nx' := nx') h h2 h3 h4 h5 hne g1
    exact hk _ _ _ k1 k2
theorem Poison_h (h : Hp mem nx J hid ns ps th up) (hl : ns.length < 2 ^ 41)
    (hk : ∀ mem' nx' J', Hp mem' nx' J' hid (ns ++ [⟨4, 0, ce0⟩]) ps th up → Fm mem nx J mem' nx' J' → K (.tup [I ns.length, I 0]) mem' nx') : CallT Try.prog 11 [.opt hid 0] mem nx K := by
  obtain ⟨nd, pd, hb, h1, h2⟩ := h.ex
  have hne : look mem hid ≠ none := by rw [hb]; simp
  rcases h1 with ⟨rfl, h1⟩ | ⟨nid, ver, rfl, h3, h4, h5⟩
  · obtain rfl := em_nil h1
    refine Poison_z hb (h.lt _ h.h0) fun id nx' g1 g2 => ?_
    obtain ⟨k1, k2⟩ := grow_z (n := ⟨4, 0, ce0⟩) (th' := th) (nx' := nx') h h2 hne g1 g2
    exact hk _ _ _ k1 k2
  · rw [em_len] at hb
    refine Poison_o hb h3 h5 (h.lt _ h.h0) (h.lt _ h4) hl fun nx' g1 => ?_
    obtain ⟨k1, k2⟩ := grow_o (n := ⟨4, 0, ce0⟩) (th' := th) (nx' := nx') h h2 h3 h4 h5 hne g1
    exact hk _ _ _ k1 k2
def pairOk (ns : List Nd) (ps : List (Ce × Ce)) (a b : Ce) : Bool := cellF ns.length ps.length a && cellF ns.length ps.length b
theorem Pair_h (a b : Ce) (ha : a.re < 2 ^ 64 ∧ a.im < 2 ^ 64) (hb' : b.re < 2 ^ 64 ∧ b.im < 2 ^ 64) (h : Hp mem nx J hid ns ps th up) (hl : ps.length < 2 ^ 41)
    (hk : ∀ mem' nx' J', Hp mem' nx' J' hid ns (if pairOk ns ps a b then ps ++ [(a, b)] else ps) th up → Fm mem nx J mem' nx' J' → K (if pairOk ns ps a b then .tup [I ps.length, I 0] else .tup [I 0, I 3]) mem' nx') :
    CallT Try.prog 12 [.opt hid 0, .agg (encCe a), .agg (encCe b)] mem nx K := by
  obtain ⟨nd, pd, hb, h1, h2⟩ := h.ex
  obtain ⟨ok, hok⟩ : ∃ o, pairOk ns ps a b = o := ⟨_, rfl⟩
  rw [hok] at hk
  cases ok with
  | false => exact Pair_no a b ha hb' hb (h1.sees (imm_Nd ns)) (h2.sees (imm_Pr ps)) hok fun nx' g => hk _ _ _ (h.later g) (.refl _ _ g)
  | true =>
    rcases h2 with ⟨rfl, h2⟩ | ⟨pid, ver, rfl, h3, h4, h5⟩
    · obtain rfl := em_nil h2
      refine Pair_z a b ha hb' hb (h1.sees (imm_Nd ns)) (h.lt _ h.h0) hok fun id nx' g1 g2 => ?_
      have h0 := h.lt _ h.h0
      refine hk _ _ (fun i => J i ∨ i = id) ⟨⟨_, _, by rw [look_cons, if_neg (by omega), look_upd_same hid _ _ _ hb]; rfl, h1.mono (fun i v hi hj he => ?_) fun _ h => .inl h, .inr ⟨id, 0, rfl, by rw [look_cons, if_pos rfl]; rfl, .inr rfl, by omega⟩⟩, .inl h.h0, fun i hi => ?_⟩ ⟨by omega, fun i hi hj => ?_, fun i h => ?_⟩
      · have := h.lt _ hj; rw [look_cons, if_neg (by omega), look_upd_ne _ he]
      · rcases hi with hi | rfl
        · have := h.lt _ hi; omega
        · exact g2
      · rw [look_cons, if_neg (by omega), look_upd_ne _ (fun e => hj (by rw [e]; exact h.h0))]
      · rcases h with h | rfl
        · exact .inl h
        · exact .inr g1
    · rw [em_len] at hb
      refine Pair_o a b ha hb' hb (h1.sees (imm_Nd ns)) h3 h5 (h.lt _ h.h0) (h.lt _ h4) hl hok fun nx' g1 => ?_
      refine hk _ _ J ⟨⟨_, _, look_upd_same hid _ _ _ (by rw [look_upd_ne _ (Ne.symm h5), hb]), h1.mono (fun i v hi hj he => ?_) fun _ h => h, .inr ⟨pid, ver + 1, by simp, ?_, h4, h5⟩⟩, h.h0, fun i hi => Nat.lt_of_lt_of_le (h.lt i hi) g1⟩ ⟨g1, fun i hi hj => ?_, fun _ h => .inl h⟩
      · rw [look_upd_ne _ he, look_upd_ne _ (fun e => by subst e; rw [h3] at hi; simp at hi)]
      · rw [look_upd_ne _ h5, look_upd_same pid _ _ _ h3]; simp
      · rw [look_upd_ne _ (fun e => hj (by rw [e]; exact h.h0)), look_upd_ne _ (fun e => hj (by rw [e]; exact h4))]
theorem Look_h (i : Int) (h : Hp mem nx J hid ns ps th up) (hk : K (.tup [.agg (encNd (lookF ns i).1), I (lookF ns i).2]) mem nx) : CallT Try.prog 15 [.opt hid 0, I i] mem nx K := by
  obtain ⟨nd, pd, hb, h1, h2⟩ := h.ex
  exact Look_t i (memSub_refl _) hb (h1.sees (imm_Nd ns)) (h2.sees (imm_Pr ps)) hk
theorem Parts_h (i : Int) (h : Hp mem nx J hid ns ps th up) (hk : K (.tup [.agg (encCe (partsF ps i).1.1), .agg (encCe (partsF ps i).1.2), I (partsF ps i).2]) mem nx) : CallT Try.prog 21 [.opt hid 0, I i] mem nx K := by
  obtain ⟨nd, pd, hb, h1, h2⟩ := h.ex
  exact Parts_t i (memSub_refl _) hb (h1.sees (imm_Nd ns)) (h2.sees (imm_Pr ps)) hk
theorem Counts_h (h : Hp mem nx J hid ns ps th up) (hk : K (.tup [I th, I up]) mem nx) : CallT Try.prog 18 [.opt hid 0] mem nx K := by
  obtain ⟨nd, pd, hb, h1, h2⟩ := h.ex
  exact Counts_t (memSub_refl _) hb (h1.sees (imm_Nd ns)) (h2.sees (imm_Pr ps)) hk
theorem set_h {nid ver : Nat} {pd : D} {ns' : List Nd} {nx' : Nat} (h : Hp mem nx J hid ns ps th up) (hb : look mem hid = some (.box [.osl nid ver 0 ns.length, pd, I th, I up])) (h2 : SlI mem 8 pd (em encPr ps) J hid) (h3 : look mem nid = some (.arr ver 6 (em encNd ns))) (h4 : J nid) (h5 : nid ≠ hid) (hn : nx ≤ nx') (he : ns'.length = ns.length) :
    Hp (upd mem nid (.arr ver 6 (em encNd ns'))) nx' J hid ns' ps th up ∧ Fm mem nx J (upd mem nid (.arr ver 6 (em encNd ns'))) nx' J := by
  refine ⟨⟨⟨_, _, by rw [look_upd_ne _ (Ne.symm h5), hb], .inr ⟨nid, ver, by simp [he], look_upd_same nid _ _ _ h3, h4, h5⟩, h2.mono (fun i v hi hj he => ?_) fun _ h => h⟩, h.h0, fun i hi => Nat.lt_of_lt_of_le (h.lt i hi) hn⟩, hn, fun i hi hj => ?_, fun _ h => .inl h⟩
  · rw [look_upd_ne _ (fun e => by subst e; rw [h3] at hi; simp at hi)]
  · rw [look_upd_ne _ (fun e => hj (by rw [e]; exact h4))]
theorem enterF_len {ns : List Nd} {i : Int} : (enterF ns i).2.length = ns.length := by
  unfold enterF
  split
  · rfl
  · split
    · rfl
    · split
      · rfl
      · split <;> simp
theorem Enter_h (i : Int) (h : Hp mem nx J hid ns ps th up) (hk : ∀ mem' nx' J', Hp mem' nx' J' hid (enterF ns i).2 ps th up → Fm mem nx J mem' nx' J' → K (.tup [.agg (encNd (enterF ns i).1.1), I (enterF ns i).1.2]) mem' nx') : CallT Try.prog 16 [.opt hid 0, I i] mem nx K := by
  obtain ⟨nd, pd, hb, h1, h2⟩ := h.ex
  rcases h1 with ⟨rfl, h1⟩ | ⟨nid, ver, rfl, h3, h4, h5⟩
  · obtain rfl := em_nil h1
    have hl : enterF [] i = ((nd0, 2), []) := by
      have hlk : lookF [] i = (nd0, 2) := by unfold lookF; rw [if_neg (by simp)]
      unfold enterF; rw [hlk]; simp
    rw [hl] at hk
    exact Enter_z i hb (h2.sees (imm_Pr ps)) (h.lt _ h.h0) fun nx' g => hk _ _ _ (h.later g) (.refl _ _ g)
  · rw [em_len] at hb
    refine Enter_o i hb h3 (h2.sees (imm_Pr ps)) h5 (h.lt _ h.h0) (h.lt _ h4) fun nx' g => ?_
    obtain ⟨k1, k2⟩ := set_h (ns' := (enterF ns i).2) h hb h2 h3 h4 h5 g enterF_len
    exact hk _ _ _ k1 k2
theorem Update_h (i : Int) (c : Ce) (hc : c.re < 2 ^ 64 ∧ c.im < 2 ^ 64) (h : Hp mem nx J hid ns ps th up) (hu : 0 ≤ up) (hu2 : up < 2 ^ 62)
    (hk : ∀ mem' nx' J', Hp mem' nx' J' hid (if updE ns ps.length i c = 0 then ns.set i.toNat ⟨3, 0, c⟩ else ns) ps th (if updE ns ps.length i c = 0 then up + 1 else up) → Fm mem nx J mem' nx' J' → K (I (updE ns ps.length i c)) mem' nx') :
    CallT Try.prog 14 [.opt hid 0, I i, .agg (encCe c)] mem nx K := by
  obtain ⟨nd, pd, hb, h1, h2⟩ := h.ex
  obtain ⟨e, he⟩ : ∃ e, updE ns ps.length i c = e := ⟨_, rfl⟩
  rw [he] at hk
  by_cases h0 : e = 0
  · subst h0
    rcases h1 with ⟨rfl, h1⟩ | ⟨nid, ver, rfl, h3, h4, h5⟩
    · obtain rfl := em_nil h1
      unfold updE lookF at he
      rw [if_pos (by rw [if_neg (by simp)]; simp)] at he
      rw [if_neg (by simp)] at he
      simp at he
    · rw [em_len] at hb
      refine Update_ok i c hc hb h3 (h2.sees (imm_Pr ps)) h5 (h.lt _ h.h0) (h.lt _ h4) hu hu2 he fun nx' g => ?_
      rw [if_pos rfl, if_pos rfl] at hk
      refine hk _ _ J ⟨⟨_, _, look_upd_same hid _ _ _ (by rw [look_upd_ne _ (Ne.symm h5), hb]), .inr ⟨nid, ver, by simp, ?_, h4, h5⟩, h2.mono (fun i v hi hj he => ?_) fun _ h => h⟩, h.h0, fun i hi => Nat.lt_of_lt_of_le (h.lt i hi) g⟩ ⟨g, fun i hi hj => ?_, fun _ h => .inl h⟩
      · rw [look_upd_ne _ h5, look_upd_same nid _ _ _ h3]
      · rw [look_upd_ne _ he, look_upd_ne _ (fun e => by subst e; rw [h3] at hi; simp at hi)]
      · rw [look_upd_ne _ (fun e => hj (by rw [e]; exact h.h0)), look_upd_ne _ (fun e => hj (by rw [e]; exact h4))]
  · rw [if_neg h0, if_neg h0] at hk
    exact Update_no i c hc hb (h1.sees (imm_Nd ns)) (h2.sees (imm_Pr ps)) (h.lt _ h.h0) he h0 fun nx' g => hk _ _ _ (h.later g) (.refl _ _ g)
end
end Go.Fx.Ytdjhlljgedknaaa

/-
  The library, XA: X1, X2, X3, X4, X5, X6.
-/
import Derived.Calls
import Derived.Laws.IdiomStrings
import Derived.Orders
import Derived.Scope
import Derived.Deep.MidRow
import Derived.RangeFuncLeaves
import Derived.RangeFuncNested
import Derived.OrdersIn
import Derived.Scope
/-
  Deep values, owned blocks, and the relation of an abstract state to the model's own.
  A program part is run on deep values ('D'): what is only read is a value, what is written has an owned block.
-/




set_option linter.all false
namespace Go.Fx
open Go

/-- Deep values. 'sl': a slice that is only read, element by element, each element its cells; 'pt': a pointer to cells that are only read; 'opt', 'osl', 'oel', 'omap': into an owned block; 'top': nothing known. -/
inductive D where
  | top
  | pl (v : Value)
  | zs
  | sl (es : List (List D))
  | pt (cs : List D)
  | opt (id off : Nat)
  | osl (id ver lo n : Nat)
  | oel (id ver i off : Nat)
  | omap (id : Nat)
  | fn (f : FuncId) (caps : List D)
  | agg (cs : List D)
  | tup (vs : List D)

/-- Where an owned block lies: 'real' false: a slice that is nil. -/
structure Loc where
  arr : Bool
  real : Bool
  b : Nat
  base : Nat
  k : Nat
  ver : Nat
  size : Nat

abbrev Locs := Nat → Option Loc

/-- A slice without room. -/
def Zs (_S : Nat → Prop) (x : Value) : Prop := x = .slice none 0 0 ∨ ∃ p, x = .slice (some p) 0 0

mutual
def Rep (w : World) (S : Nat → Prop) (φ : Locs) : D → Value → Prop
  | .top, _ => True
  | .pl v, x => x = v
  | .zs, x => Zs S x
  | .sl es, x => (es = [] ∧ Zs S x) ∨ ∃ b o cap k, x = .slice (some ⟨b, o, none⟩) es.length cap ∧ es.length ≤ cap ∧ S b ∧ RepEs w S φ es k b o
  | .pt cs, x => ∃ b o, x = .pointer (some ⟨b, o, none⟩) ∧ S b ∧ RepCs w S φ cs b o
  | .opt id off, x => ∃ l, φ id = some l ∧ l.arr = false ∧ x = .pointer (some ⟨l.b, l.base + off, none⟩)
  | .osl id ver lo n, x => ∃ l, φ id = some l ∧ ver ≤ l.ver ∧ (∃ p m c, x = .slice p m c) ∧ (l.ver = ver →
      (l.real = false ∧ lo = 0 ∧ n = 0 ∧ Zs S x) ∨
      (l.real = true ∧ ∃ cap, x = .slice (some ⟨l.b, l.base + lo * l.k, none⟩) n cap ∧ n ≤ cap ∧ l.base + (lo + cap) * l.k ≤ l.size))
  | .oel id ver i off, x => ∃ l, φ id = some l ∧ ver ≤ l.ver ∧ (∃ p, x = .pointer p) ∧ (l.ver = ver → l.real = true ∧ x = .pointer (some ⟨l.b, l.base + i * l.k + off, none⟩))
  | .omap id, x => ∃ l, φ id = some l ∧ l.arr = false ∧ x = .map (some l.b)
  | .fn f caps, x => ∃ vs : Array Value, x = .func (.func f) #[] vs ∧ RepVs w S φ caps vs.toList
  | .agg cs, x => ∃ vs : Array Value, x = .agg vs ∧ RepVs w S φ cs vs.toList
  | .tup ds, x => ∃ vs : Array Value, x = .tuple vs ∧ RepVs w S φ ds vs.toList
def RepVs (w : World) (S : Nat → Prop) (φ : Locs) : List D → List Value → Prop
  | [], xs => xs = []
  | d :: ds, xs => ∃ x r, xs = x :: r ∧ Rep w S φ d x ∧ RepVs w S φ ds r
def RepCs (w : World) (S : Nat → Prop) (φ : Locs) : List D → Nat → Nat → Prop
  | [], _, _ => True
  | d :: ds, b, o => (∃ x, w.cell? ⟨b, o, none⟩ = some x ∧ Rep w S φ d x) ∧ RepCs w S φ ds b (o + 1)
def RepEs (w : World) (S : Nat → Prop) (φ : Locs) : List (List D) → Nat → Nat → Nat → Prop
  | [], _, _, _ => True
  | e :: es, k, b, o => e.length = k ∧ RepCs w S φ e b o ∧ RepEs w S φ es k b (o + k)
end

/-- What is read stays: the blocks that are only read hold what they held, and owned blocks keep their places or have a greater version. -/
structure Stays (w : World) (S : Nat → Prop) (φ : Locs) (w' : World) (S' : Nat → Prop) (φ' : Locs) : Prop where
  sub : ∀ b, S b → S' b
  cell : ∀ b, S b → ∀ o, w'.cell? ⟨b, o, none⟩ = w.cell? ⟨b, o, none⟩
  loc : ∀ id l, φ id = some l → ∃ l', φ' id = some l' ∧ (l' = l ∨ (l.arr = true ∧ l'.arr = true ∧ l.ver < l'.ver))

theorem Zs.mono {S S' : Nat → Prop} {x : Value} (h : ∀ b, S b → S' b) : Zs S x → Zs S' x
  | .inl e => .inl e
  | .inr e => .inr e

mutual
theorem Rep.mono {w w' : World} {S S' : Nat → Prop} {φ φ' : Locs} (h : Stays w S φ w' S' φ') : ∀ (d : D) (x : Value), Rep w S φ d x → Rep w' S' φ' d x
  | .top, _, _ => by simp [Rep]
  | .pl v, x, hr => by simpa [Rep] using hr
  | .zs, x, hr => by simp only [Rep] at hr ⊢; exact Zs.mono h.sub hr
  | .sl es, x, hr => by
    simp only [Rep] at hr ⊢
    rcases hr with hr | ⟨b, o, cap, k, hx, hc, hs, he⟩
    · exact .inl ⟨hr.1, Zs.mono h.sub hr.2⟩
    · exact .inr ⟨b, o, cap, k, hx, hc, h.sub b hs, RepEs.mono h es k b o (h.cell b hs) he⟩
  | .pt cs, x, hr => by
    simp only [Rep] at hr ⊢
    obtain ⟨b, o, hx, hs, hc⟩ := hr
    exact ⟨b, o, hx, h.sub b hs, RepCs.mono h cs b o (h.cell b hs) hc⟩
  | .opt id off, x, hr => by
    simp only [Rep] at hr ⊢
    obtain ⟨l, hl, ha, hx⟩ := hr
    obtain ⟨l', hl', he⟩ := h.loc id l hl
    rcases he with rfl | he
    · exact ⟨l', hl', ha, hx⟩
    · simp [ha] at he
  | .osl id ver lo n, x, hr => by
    simp only [Rep] at hr ⊢
    obtain ⟨l, hl, hv, hs, hx⟩ := hr
    obtain ⟨l', hl', he⟩ := h.loc id l hl
    rcases he with rfl | ⟨_, _, he⟩
    · refine ⟨l', hl', hv, hs, fun e => ?_⟩
      rcases hx e with ⟨h1, h2, h3, h4⟩ | h1
      · exact .inl ⟨h1, h2, h3, Zs.mono h.sub h4⟩
      · exact .inr h1
    · exact ⟨l', hl', by omega, hs, fun e => by omega⟩
  | .oel id ver i off, x, hr => by
    simp only [Rep] at hr ⊢
    obtain ⟨l, hl, hv, hs, hx⟩ := hr
    obtain ⟨l', hl', he⟩ := h.loc id l hl
    rcases he with rfl | ⟨_, _, he⟩
    · exact ⟨l', hl', hv, hs, hx⟩
    · exact ⟨l', hl', by omega, hs, fun e => by omega⟩
  | .omap id, x, hr => by
    simp only [Rep] at hr ⊢
    obtain ⟨l, hl, ha, hx⟩ := hr
    obtain ⟨l', hl', he⟩ := h.loc id l hl
    rcases he with rfl | he
    · exact ⟨l', hl', ha, hx⟩
    · simp [ha] at he
  | .fn f caps, x, hr => by
    simp only [Rep] at hr ⊢
    obtain ⟨vs, hx, hv⟩ := hr
    exact ⟨vs, hx, RepVs.mono h caps _ hv⟩
  | .agg cs, x, hr => by
    simp only [Rep] at hr ⊢
    obtain ⟨vs, hx, hv⟩ := hr
    exact ⟨vs, hx, RepVs.mono h cs _ hv⟩
  | .tup cs, x, hr => by
    simp only [Rep] at hr ⊢
    obtain ⟨vs, hx, hv⟩ := hr
    exact ⟨vs, hx, RepVs.mono h cs _ hv⟩
theorem RepVs.mono {w w' : World} {S S' : Nat → Prop} {φ φ' : Locs} (h : Stays w S φ w' S' φ') : ∀ (ds : List D) (xs : List Value), RepVs w S φ ds xs → RepVs w' S' φ' ds xs
  | [], xs, hr => by simpa [RepVs] using hr
  | d :: ds, xs, hr => by
    simp only [RepVs] at hr ⊢
    obtain ⟨x, r, hx, h1, h2⟩ := hr
    exact ⟨x, r, hx, Rep.mono h d x h1, RepVs.mono h ds r h2⟩
theorem RepCs.mono {w w' : World} {S S' : Nat → Prop} {φ φ' : Locs} (h : Stays w S φ w' S' φ') : ∀ (ds : List D) (b o : Nat), (∀ o, w'.cell? ⟨b, o, none⟩ = w.cell? ⟨b, o, none⟩) → RepCs w S φ ds b o → RepCs w' S' φ' ds b o
  | [], b, o, _, hr => by simp [RepCs]
  | d :: ds, b, o, hs, hr => by
    simp only [RepCs] at hr ⊢
    obtain ⟨⟨x, hx, h1⟩, h2⟩ := hr
    exact ⟨⟨x, by rw [hs]; exact hx, Rep.mono h d x h1⟩, RepCs.mono h ds b (o + 1) hs h2⟩
theorem RepEs.mono {w w' : World} {S S' : Nat → Prop} {φ φ' : Locs} (h : Stays w S φ w' S' φ') : ∀ (es : List (List D)) (k b o : Nat), (∀ o, w'.cell? ⟨b, o, none⟩ = w.cell? ⟨b, o, none⟩) → RepEs w S φ es k b o → RepEs w' S' φ' es k b o
  | [], k, b, o, _, hr => by simp [RepEs]
  | e :: es, k, b, o, hs, hr => by
    simp only [RepEs] at hr ⊢
    obtain ⟨h0, h1, h2⟩ := hr
    exact ⟨h0, RepCs.mono h e b o hs h1, RepEs.mono h es k b (o + k) hs h2⟩
end

/-! ### States -/
def look {α : Type} : List (Nat × α) → Nat → Option α
  | [], _ => none
  | (k, d) :: e, j => if k = j then some d else look e j

def upd {α : Type} : List (Nat × α) → Nat → α → List (Nat × α)
  | [], _, _ => []
  | (k, x) :: e, j, d => if k = j then (k, d) :: e else (k, x) :: upd e j d

@[simp] theorem upd_nil {α : Type} (j : Nat) (d : α) : upd ([] : List (Nat × α)) j d = [] := (rfl)

theorem look_upd {α : Type} (j : Nat) (d : α) : ∀ (e : List (Nat × α)) (i : Nat) (x : α), look (upd e j d) i = some x → (i = j ∧ x = d) ∨ (i ≠ j ∧ look e i = some x)
  | [], i, x, h => by simp [upd, look] at h
  | (k, y) :: e, i, x, h => by
    simp only [upd] at h
    by_cases hk : k = j
    · simp only [hk, if_true, look] at h
      by_cases hi : j = i
      · simp only [hi, if_true, Option.some.injEq] at h; exact .inl ⟨hi.symm, h.symm⟩
      · simp only [hi, if_false] at h
        exact .inr ⟨fun e => hi e.symm, by simp only [look, hk, hi, if_false]; exact h⟩
    · simp only [hk, if_false, look] at h
      by_cases hi : k = i
      · simp only [hi, if_true, Option.some.injEq] at h
        exact .inr ⟨fun e => hk (hi.trans e), by simp only [look, hi, if_true, h]⟩
      · simp only [hi, if_false] at h
        rcases look_upd j d e i x h with h' | ⟨h1, h2⟩
        · exact .inl h'
        · exact .inr ⟨h1, by simp only [look, hi, if_false]; exact h2⟩

theorem look_upd_same {α : Type} (j : Nat) (d x : α) : ∀ (e : List (Nat × α)), look e j = some x → look (upd e j d) j = some d
  | [], h => by simp [look] at h
  | (k, y) :: e, h => by
    simp only [look] at h
    by_cases hk : k = j
    · simp [upd, look, hk]
    · simp only [hk, if_false] at h
      simp only [upd, hk, if_false, look]; exact look_upd_same j d x e h

theorem look_upd_ne {α : Type} {j i : Nat} (d : α) (hne : i ≠ j) : ∀ (e : List (Nat × α)), look (upd e j d) i = look e i
  | [] => rfl
  | (k, y) :: e => by
    by_cases hk : k = j
    · subst hk; simp only [upd, if_true, look]; rw [if_neg (fun e => hne e.symm), if_neg (fun e => hne e.symm)]
    · simp only [upd, hk, if_false, look, look_upd_ne d hne e]

/-- Owned blocks: a variable's cells; the row behind slices (its version, the cells of an element, the elements); a map. -/
inductive Blk where
  | box (cs : List D)
  | arr (ver k : Nat) (es : List (List D))
  | map (es : List (Value × D))

abbrev Mem := List (Nat × Blk)
abbrev Env := List (Nat × D)

/-- What a function's text is run with: the program, how many slots, which of them are variables, which operations' results are owned. -/
structure Cfg where
  P : Program
  n : Nat
  gs : List Nat
  own : List Nat

structure St where
  env : Env
  tl : Env
  mem : Mem
  nx : Nat

/-- A map's entries, in the order in which they came. -/
def RepMs (w : World) (S : Nat → Prop) (φ : Locs) : List (Value × D) → List MapEntry → Prop
  | [], ms => ms = []
  | e :: es, ms => ∃ m r, ms = m :: r ∧ m.key = e.1 ∧ Rep w S φ e.2 m.val ∧ RepMs w S φ es r

theorem RepMs.mono {w w' : World} {S S' : Nat → Prop} {φ φ' : Locs} (h : Stays w S φ w' S' φ') : ∀ (es : List (Value × D)) (ms : List MapEntry), RepMs w S φ es ms → RepMs w' S' φ' es ms
  | [], ms, hr => hr
  | e :: es, ms, ⟨m, r, h1, h2, h3, h4⟩ => ⟨m, r, h1, h2, Rep.mono h _ _ h3, RepMs.mono h es r h4⟩

def BRep (w : World) (S : Nat → Prop) (φ : Locs) (l : Loc) : Blk → Prop
  | .box cs => l.real = true ∧ l.arr = false ∧ l.base = 0 ∧ (∃ c t, w.heap[l.b]? = some (.cells c t (0, 0)) ∧ c.size = cs.length) ∧ RepCs w S φ cs l.b 0
  | .arr ver k es => l.arr = true ∧ l.ver = ver ∧ l.k = k ∧ ((l.real = false ∧ es = []) ∨
      (l.real = true ∧ (∃ c t, w.heap[l.b]? = some (.cells c t (0, 0)) ∧ c.size = l.size) ∧ l.base + es.length * k ≤ l.size ∧ RepEs w S φ es k l.b l.base))
  | .map es => l.real = true ∧ l.arr = false ∧ ∃ (ms : Array MapEntry) (clock : Nat), w.heap[l.b]? = some (.map ms clock) ∧ RepMs w S φ es ms.toList

structure MSim (S : Nat → Prop) (φ : Locs) (mem : Mem) (nx : Nat) (w : World) : Prop where
  mem : ∀ id blk, look mem id = some blk → ∃ l, φ id = some l ∧ (l.real = true → ¬ S l.b) ∧ BRep w S φ l blk
  inj : ∀ i j l m, φ i = some l → φ j = some m → l.real = true → m.real = true → l.b = m.b → i = j
  lt : ∀ i l, φ i = some l → l.real = true → l.b < w.heap.size
  fresh : ∀ i, nx ≤ i → φ i = none
  sub : ∀ b, S b → b < w.heap.size

/-- Where a piece of code runs: in a function's frame or in a round's; the blocks from B on are the call's. -/
structure Rx where
  rd : Option Nat
  B : Nat

/-- Deferred calls are marks of ranges over functions alone; their blocks are empty, the call's own, and read by nobody. -/
structure Dfr (x : Rx) (S : Nat → Prop) (w : World) (ds : List Deferred) : Prop where
  nd : (ds.map (·.target)).Nodup
  marks : ∀ d ∈ ds, ∃ D, x.B ≤ D ∧ d.target = .collected D ∧ w.heap[D]? = some (.deferred (some [])) ∧ ¬ S D
  rd : ∀ l, x.rd = some l → ∃ r, w.heap[l]? = some (.loop r)
theorem Dfr.nil {B : Nat} {S : Nat → Prop} {w : World} : Dfr ⟨none, B⟩ S w [] := ⟨by simp, fun d h => by simp at h, fun l h => by simp at h⟩

structure Sim (C : Cfg) (B : Rx) (S : Nat → Prop) (φ : Locs) (s : St) (a : Act) (w : World) : Prop where
  size : a.tmps.size = C.n
  defers : Dfr B S w a.defers
  env : ∀ j d, j ∈ C.gs → look s.env j = some d → Rep w S φ d (a.tmps.getD j undef)
  tl : ∀ j d, j ∉ C.gs → look s.tl j = some d → Rep w S φ d (a.tmps.getD j undef)
  m : MSim S φ s.mem s.nx w

def Own (φ : Locs) (mem : Mem) (b : Nat) : Prop := ∃ id blk l, look mem id = some blk ∧ φ id = some l ∧ l.real = true ∧ l.b = b

structure Ext (S : Nat → Prop) (φ : Locs) (mem : Mem) (w : World) (S' : Nat → Prop) (φ' : Locs) (mem' : Mem) (w' : World) : Prop where
  sub : ∀ b, S b → S' b
  keep : ∀ b, b < w.heap.size → ¬ Own φ mem b → w'.heap[b]? = w.heap[b]?
  size : w.heap.size ≤ w'.heap.size
  own : ∀ b, b < w.heap.size → Own φ' mem' b → Own φ mem b
  news : ∀ b, S' b → S b ∨ w.heap.size ≤ b ∨ Own φ mem b
  os : w'.os = w.os
  output : w'.output = w.output
  tape : w'.tape = w.tape

theorem Ext.refl (S : Nat → Prop) (φ : Locs) (mem : Mem) (w : World) : Ext S φ mem w S φ mem w :=
  ⟨fun _ h => h, fun _ _ _ => rfl, Nat.le_refl _, fun _ _ h => h, fun _ h => .inl h, rfl, rfl, rfl⟩

theorem Ext.trans {S S1 S2 : Nat → Prop} {φ φ1 φ2 : Locs} {m m1 m2 : Mem} {w w1 w2 : World} (h : Ext S φ m w S1 φ1 m1 w1) (k : Ext S1 φ1 m1 w1 S2 φ2 m2 w2) :
    Ext S φ m w S2 φ2 m2 w2 where
  sub b hb := k.sub b (h.sub b hb)
  keep b hb ho := (k.keep b (Nat.lt_of_lt_of_le hb h.size) fun e => ho (h.own b hb e)).trans (h.keep b hb ho)
  size := Nat.le_trans h.size k.size
  own b hb ho := h.own b hb (k.own b (Nat.lt_of_lt_of_le hb h.size) ho)
  news b hb := by
    rcases k.news b hb with h1 | h1 | h1
    · exact h.news b h1
    · exact .inr (.inl (Nat.le_trans h.size h1))
    · by_cases hlt : b < w.heap.size
      · exact .inr (.inr (h.own b hlt h1))
      · exact .inr (.inl (by omega))
  os := k.os.trans h.os
  output := k.output.trans h.output
  tape := k.tape.trans h.tape

theorem own_kind {S : Nat → Prop} {φ : Locs} {mem : Mem} {nx : Nat} {w : World} {b : Nat} (hm : MSim S φ mem nx w) (h : Own φ mem b) : (∃ c t f, w.heap[b]? = some (.cells c t f)) ∨ ∃ ms k, w.heap[b]? = some (.map ms k) := by
  obtain ⟨id, blk, l, h1, h2, h3, rfl⟩ := h
  obtain ⟨l', g1, _, g3⟩ := hm.mem id blk h1
  rw [h2] at g1
  simp only [Option.some.injEq] at g1
  subst g1
  cases blk with
  | box cs =>
    simp only [BRep] at g3
    obtain ⟨_, _, _, ⟨c, t, hc, _⟩, _⟩ := g3
    exact .inl ⟨c, t, _, hc⟩
  | arr ver k es =>
    simp only [BRep] at g3
    obtain ⟨_, _, _, ⟨hr, _⟩ | ⟨_, ⟨c, t, hc, _⟩, _⟩⟩ := g3
    · rw [h3] at hr; simp at hr
    · exact .inl ⟨c, t, _, hc⟩
  | map es =>
    simp only [BRep] at g3
    obtain ⟨_, _, ms, k, hc, _⟩ := g3
    exact .inr ⟨ms, k, hc⟩
theorem not_own {S : Nat → Prop} {φ : Locs} {mem : Mem} {nx : Nat} {w : World} {b : Nat} {x : Option (List Deferred)} (hm : MSim S φ mem nx w) (h : w.heap[b]? = some (.deferred x)) : ¬ Own φ mem b := fun ho => by
  rcases own_kind hm ho with ⟨c, t, f, hc⟩ | ⟨ms, k, hc⟩ <;> · rw [h] at hc; simp at hc
theorem not_own_loop {S : Nat → Prop} {φ : Locs} {mem : Mem} {nx : Nat} {w : World} {b : Nat} {x : Loop} (hm : MSim S φ mem nx w) (h : w.heap[b]? = some (.loop x)) : ¬ Own φ mem b := fun ho => by
  rcases own_kind hm ho with ⟨c, t, f, hc⟩ | ⟨ms, k, hc⟩ <;> · rw [h] at hc; simp at hc
theorem Dfr.ext {B : Rx} {S S' : Nat → Prop} {φ φ' : Locs} {mem mem' : Mem} {nx : Nat} {w w' : World} {ds : List Deferred} (h : Dfr B S w ds) (hm : MSim S φ mem nx w) (hx : Ext S φ mem w S' φ' mem' w') : Dfr B S' w' ds :=
  ⟨h.1, fun d hd => by
    obtain ⟨D, h1, h2, h3, h4⟩ := h.marks d hd
    have hlt : D < w.heap.size := (Array.getElem?_eq_some_iff.1 h3).1
    refine ⟨D, h1, h2, (hx.keep D hlt (not_own hm h3)).trans h3, fun hs => ?_⟩
    rcases hx.news D hs with g | g | g
    · exact h4 g
    · omega
    · exact not_own hm h3 g, fun l hl => by
    obtain ⟨r, hr⟩ := h.rd l hl
    exact ⟨r, (hx.keep l (Array.getElem?_eq_some_iff.1 hr).1 (not_own_loop hm hr)).trans hr⟩⟩

/-- Owned blocks keep their places or have a greater version; below N no number is taken; the next one is N or more. -/
structure Grow (N : Nat) (φ φ' : Locs) (nx' : Nat) : Prop where
  le : N ≤ nx'
  low : ∀ i, i < N → φ i = none → φ' i = none
  loc : ∀ id l, φ id = some l → ∃ l', φ' id = some l' ∧ (l' = l ∨ (l.arr = true ∧ l'.arr = true ∧ l.ver < l'.ver))

theorem Grow.refl {N nx : Nat} {φ : Locs} (h : N ≤ nx) : Grow N φ φ nx := ⟨h, fun _ _ h => h, fun _ l h => ⟨l, h, .inl rfl⟩⟩
theorem Grow.trans {N n1 n2 : Nat} {φ φ1 φ2 : Locs} (h : Grow N φ φ1 n1) (k : Grow N φ1 φ2 n2) : Grow N φ φ2 n2 where
  le := k.le
  low i hi hn := k.low i hi (h.low i hi hn)
  loc id l hl := by
    obtain ⟨l1, h1, h2⟩ := h.loc id l hl
    obtain ⟨l2, k1, k2⟩ := k.loc id l1 h1
    refine ⟨l2, k1, ?_⟩
    rcases h2 with rfl | ⟨a1, a2, a3⟩
    · exact k2
    · rcases k2 with rfl | ⟨b1, b2, b3⟩
      · exact .inr ⟨a1, a2, a3⟩
      · exact .inr ⟨a1, b2, by omega⟩

/-- Behind a piece of code: some state that Q allows. -/
def Post (C : Cfg) (B : Rx) (N : Nat) (S : Nat → Prop) (φ : Locs) (mem : Mem) (w : World) (Q : Exit → St → Prop) : Exit → Act → World → Prop :=
  fun e a' w' => ∃ s' S' φ', Q e s' ∧ Sim C B S' φ' s' a' w' ∧ Ext S φ mem w S' φ' s'.mem w' ∧ Grow N φ φ' s'.nx

theorem Post.trans {C : Cfg} {B : Rx} {N n1 : Nat} {S S1 : Nat → Prop} {φ φ1 : Locs} {m m1 : Mem} {w w1 : World} {Q : Exit → St → Prop} (h : Ext S φ m w S1 φ1 m1 w1) (g : Grow N φ φ1 n1) {e : Exit} {a : Act} {w2 : World}
    (hp : Post C B N S1 φ1 m1 w1 Q e a w2) : Post C B N S φ m w Q e a w2 :=
  let ⟨s', S', φ', hq, hs, hx, hg⟩ := hp
  ⟨s', S', φ', hq, hs, h.trans hx, g.trans hg⟩

/-- Any frame, or a round's. -/
def FrR (rd : Option Nat) : Fence := { fn := fun _ => True, depth := none, alive := false, round := rd }
theorem FrR_none : FrR none = Fence.wide := rfl
/-- From state s the code c comes, on every schedule, to a way out and a state that Q allows. -/
def T (C : Cfg) (c : Code) (Q : Exit → St → Prop) (s : St) : Prop :=
  ∀ (x : Rx) N S φ a w, N ≤ s.nx → x.B ≤ w.heap.size → Sim C x S φ s a w → c.wpIn (FrR x.rd) 0 C.P (Post C x N S φ s.mem w Q) a w

theorem Oper.wp_monoQ {P : Program} {Q Q' : Exit → Act → World → Prop} {o : Oper} {a : Act} {w : World} {K K' : Act → World → Prop} (h : ∀ a w, K a w → K' a w) (hq : ∀ e a w, Q e a w → Q' e a w)
    (hh : o.wp P a w K Q) : o.wp P a w K' Q' := by
  unfold Oper.wp at *
  generalize (execOp a.eval o).run P w = r at *
  cases r with
  | ok x w' =>
    cases x <;> simp only [Oper.upon] at hh ⊢ <;>
      first
        | exact h _ _ hh
        | exact Calls.mono hh (fun e w'' he => by
            cases e
            · exact h _ _ he
            · exact hq _ _ _ he
            · obtain ⟨a0, w0, h0⟩ := he; exact ⟨a0, w0, hq _ _ _ h0⟩)
        | exact Rows.mono hh (fun _ _ he => h _ _ he)
  | halt x w' => cases x <;> simp only [Oper.upon] at hh ⊢ <;> first | exact hq _ _ _ hh | exact hh

theorem wpOps_mono {P : Program} {ops : Array Oper} {Q Q' : Exit → Act → World → Prop} (hq : ∀ e a w, Q e a w → Q' e a w) : ∀ (l : List Nat) (a : Act) (w : World), wpOps P ops Q l a w → wpOps P ops Q' l a w
  | [], a, w, h => hq _ _ _ h
  | i :: l, a, w, h => by
    rw [wpOps_cons] at h ⊢
    unfold wpOp at h ⊢
    cases ho : ops[i]? with
    | none => simp only [ho] at h ⊢; exact wpOps_mono hq l _ _ h
    | some o =>
      simp only [ho] at h ⊢
      split
      · rename_i hw
        simp only [hw, if_true] at h
        rcases h with h | ⟨h1, a0, w0, h0⟩
        · exact .inl (Oper.wp_monoQ (fun a w => wpOps_mono hq l a w) hq h)
        · exact .inr ⟨h1, a0, w0, hq _ _ _ h0⟩
      · rename_i hw
        simp only [hw] at h
        exact wpOps_mono hq l _ _ h

section rules
variable {C : Cfg} {Q : Exit → St → Prop} {s : St}

theorem T_mono {c : Code} {Q' : Exit → St → Prop} (hq : ∀ e s, Q e s → Q' e s) (h : T C c Q s) : T C c Q' s :=
  fun x N S φ a w hn hB hs => wpIn_mono (h x N S φ a w hn hB hs) fun e a w ⟨s', S', φ', q, r⟩ => ⟨s', S', φ', hq _ _ q, r⟩

theorem T_skip (h : Q .normal s) : T C .skip Q s := fun x N S φ a w hn hB hs => wpIn_skip ⟨s, S, φ, h, hs, Ext.refl .., Grow.refl hn⟩
theorem T_label {l : Nat} (h : Q .normal s) : T C (.label l) Q s := fun x N S φ a w hn hB hs => wpIn_label ⟨s, S, φ, h, hs, Ext.refl .., Grow.refl hn⟩
theorem T_exit {id : Nat} (h : Q (.exit id) s) : T C (.exit id) Q s := fun x N S φ a w hn hB hs => wpIn_exit ⟨s, S, φ, h, hs, Ext.refl .., Grow.refl hn⟩
theorem T_goto {id : Nat} (h : Q (.goto id) s) : T C (.goto id) Q s := fun x N S φ a w hn hB hs => wpIn_goto ⟨s, S, φ, h, hs, Ext.refl .., Grow.refl hn⟩
theorem T_ret (h : Q .ret s) : T C .ret Q s := fun x N S φ a w hn hB hs => wpIn_ret ⟨s, S, φ, h, hs, Ext.refl .., Grow.refl hn⟩

def thenQ (next : St → Prop) (Q : Exit → St → Prop) : Exit → St → Prop
  | .normal, s => next s
  | e, s => Q e s

theorem T_seq {x y : Code} (h : T C x (thenQ (T C y Q) Q) s) : T C (.seq x y) Q s := by
  intro x N S φ a w hn hB hs
  refine wpIn_seq (wpIn_mono (h x N S φ a w hn hB hs) ?_)
  rintro e a' w' ⟨s', S', φ', hq, hs', hx, hg⟩
  cases e with
  | normal => exact wpIn_mono (hq x N S' φ' a' w' hg.le (Nat.le_trans hB hx.size) hs') fun e a w hp => hp.trans hx hg
  | _ => exact ⟨s', S', φ', hq, hs', hx, hg⟩

def blockQ (id : Nat) (Q : Exit → St → Prop) : Exit → St → Prop
  | .exit id', s => if id' = id then Q .normal s else Q (.exit id') s
  | e, s => Q e s

theorem T_block {id : Nat} {c : Code} (h : T C c (blockQ id Q) s) : T C (.block id c) Q s := by
  intro x N S φ a w hn hB hs
  refine wpIn_block (wpIn_mono (h x N S φ a w hn hB hs) ?_)
  rintro e a' w' ⟨s', S', φ', hq, hs', hx⟩
  cases e with
  | exit id' =>
    simp only [blockQ] at hq
    simp only [Exit.inBlock]
    split
    · rename_i h; simp only [h, if_true] at hq; exact ⟨s', S', φ', hq, hs', hx⟩
    · rename_i h; simp only [h, if_false] at hq; exact ⟨s', S', φ', hq, hs', hx⟩
  | _ => exact ⟨s', S', φ', hq, hs', hx⟩

theorem stepR_scope {P : Program} {b : Frame} {a : Act} {k : List Item} {cs : List Frame} {w : World} {c : Code} : step P (lone (b.atR a (.code (.scope c) :: k)) cs w) = .next (lone (b.atR a (.code c :: .inScope c :: k)) cs w) :=
  step_lone_go (by simp [stepG, stepG.exec, Frame.atR])
theorem stepR_inScope {P : Program} {b : Frame} {a : Act} {k : List Item} {cs : List Frame} {w : World} {c : Code} : step P (lone (b.atR a (.inScope c :: k)) cs w) = .next (lone (b.atR a k) cs w) :=
  step_lone_go (by simp [stepG, stepG.exec, Frame.atR])
theorem wpIn_scope_straight {F : Fence} {n : Nat} {P : Program} {Q : Exit → Act → World → Prop} {a : Act} {w : World} {c : Code} (h : c.wpIn F n P (Exit.noGoto Q) a w) : (Code.scope c).wpIn F n P Q a w := by
  intro b k cs hro hb hr
  obtain ⟨e, a₁, w₁, hq, harr⟩ := h b (.inScope c :: k) cs hro hb hr
  have h0 : (lone (b.atR a (.code (.scope c) :: k)) cs w).fenced P F := fenced_calm hb hr rfl
  cases e with
  | normal => exact ⟨.normal, a₁, w₁, hq, .head h0 stepR_scope (StepsIn.trans harr (.one (fenced_calm hb hr rfl) stepR_inScope))⟩
  | exit id => exact ⟨.exit id, a₁, w₁, hq, fun k' hk => .head h0 stepR_scope (harr.1 k' (by simp [exitTo, hk])), fun hr' hk => let ⟨k₁, h1, h2⟩ := harr.2 hr' (by simp [exitTo, hk]); ⟨k₁, h1, .head h0 stepR_scope h2⟩⟩
  | goto l => exact hq.elim
  | ret => exact ⟨_, a₁, w₁, hq, .of_steps (.one h0 stepR_scope) harr⟩
  | panic ch => exact ⟨_, a₁, w₁, hq, .of_steps (.one h0 stepR_scope) harr⟩
  | outgrown => exact ⟨_, a₁, w₁, hq, .of_steps (.one h0 stepR_scope) harr⟩
/-- A scope through which the run goes without a goto. -/
def straightQ (Q : Exit → St → Prop) : Exit → St → Prop
  | .goto _, _ => False
  | e, s => Q e s

theorem T_scope {c : Code} (h : T C c (straightQ Q) s) : T C (.scope c) Q s := by
  intro x N S φ a w hn hB hs
  refine wpIn_scope_straight (wpIn_mono (h x N S φ a w hn hB hs) ?_)
  rintro e a' w' ⟨s', S', φ', hq, hs', hx⟩
  cases e with
  | goto l => exact hq.elim
  | _ => exact ⟨s', S', φ', hq, hs', hx⟩

/-- A state may be seen as another one (less known, blocks let go or only read from now on). -/
def Wk (C : Cfg) (s s' : St) : Prop := ∀ (B : Rx) N S φ a w, N ≤ s.nx → Sim C B S φ s a w → ∃ S' φ', Sim C B S' φ' s' a w ∧ Ext S φ s.mem w S' φ' s'.mem w ∧ Grow N φ φ' s'.nx

theorem Wk.refl : Wk C s s := fun B N S φ _ _ hn h => ⟨S, φ, h, Ext.refl .., Grow.refl hn⟩
theorem Wk.trans {s1 s2 : St} (h : Wk C s s1) (k : Wk C s1 s2) : Wk C s s2 := fun B N S φ a w hn hs =>
  let ⟨S1, φ1, h1, x1, g1⟩ := h B N S φ a w hn hs
  let ⟨S2, φ2, h2, x2, g2⟩ := k B N S1 φ1 a w g1.le h1
  ⟨S2, φ2, h2, x1.trans x2, g1.trans g2⟩

theorem T_weaken {c : Code} {s' : St} (h : Wk C s s') (k : T C c Q s') : T C c Q s := fun x N S φ a w hn hB hs =>
  let ⟨S', φ', hs', hx, hg⟩ := h x N S φ a w hn hs
  wpIn_mono (k x N S' φ' a w hg.le hB hs') fun _ _ _ hp => hp.trans hx hg

theorem least {p : Nat → Prop} (h : ∃ m, p m) : ∃ m, p m ∧ ∀ k, p k → m ≤ k := by
  obtain ⟨m, hm⟩ := h
  induction m using Nat.strongRecOn with
  | _ m ih =>
    by_cases hk : ∃ k, k < m ∧ p k
    · obtain ⟨k, hlt, hp⟩ := hk; exact ih k hlt hp
    · exact ⟨m, hm, fun k hp => Nat.le_of_not_lt fun hlt => hk ⟨k, hlt, hp⟩⟩

theorem T_loop {α : Type} {c : Code} (st : α → St) (inv : α → Prop) (μ : α → Nat)
    (round : ∀ x, inv x → T C c (thenQ (fun s' => ∃ y, inv y ∧ μ y < μ x ∧ Wk C s' (st y)) Q) (st x)) (x0 : α) (h0 : inv x0) : T C (.loop c) Q (st x0) := by
  intro rx N S0 φ0 a0 w0 hn0 hB0 hs0
  classical
  let R : Nat → Act → World → Prop := fun m a w => ∃ x S φ, inv x ∧ μ x = m ∧ Sim C rx S φ (st x) a w ∧ Ext S0 φ0 (st x0).mem w0 S φ (st x).mem w ∧ Grow N φ0 φ (st x).nx
  let M : Act → World → Nat := fun a w => if h : ∃ m, R m a w then Classical.choose (least h) else 0
  refine wpIn_loop (fun a w => ∃ m, R m a w) M ⟨μ x0, x0, S0, φ0, h0, rfl, hs0, Ext.refl .., Grow.refl hn0⟩ ?_
  intro a w hI
  have hM : M a w = Classical.choose (least hI) := by simp only [M, dif_pos hI]
  obtain ⟨x, S, φ, hix, hmx, hsx, hex, heg⟩ := (Classical.choose_spec (least hI)).1
  refine wpIn_mono (round x hix rx N S φ a w heg.le (Nat.le_trans hB0 hex.size) hsx) ?_
  rintro e a' w' ⟨s', S', φ', hq, hs', hx, hg⟩
  cases e with
  | normal =>
    obtain ⟨y, hiy, hlt, hwk⟩ := hq
    obtain ⟨S2, φ2, hs2, hx2, hg2⟩ := hwk rx N S' φ' a' w' hg.le hs'
    have hR : R (μ y) a' w' := ⟨y, S2, φ2, hiy, rfl, hs2, (hex.trans hx).trans hx2, (heg.trans hg).trans hg2⟩
    refine ⟨⟨_, hR⟩, ?_⟩
    have hE : ∃ m, R m a' w' := ⟨_, hR⟩
    have h1 : M a' w' = Classical.choose (least hE) := by simp only [M, dif_pos hE]
    have h2 := (Classical.choose_spec (least hE)).2 _ hR
    show M a' w' < M a w
    rw [h1, hM, ← hmx]
    exact Nat.lt_of_le_of_lt h2 hlt
  | _ => exact ⟨s', S', φ', hq, hs', hex.trans hx, heg.trans hg⟩
end rules
end Go.Fx

/-
  A program's code, resolved: each operation with its sizes and places, its operands told apart (made in this region, or a variable).
-/

set_option linter.all false
namespace Go.Fx
open Go

inductive Opd where
  | t (j : Nat)
  | g (j : Nat)
  | c (v : Value)
  | f (i : FuncId)

inductive Dst where
  | no
  | t (j : Nat)
  | g (j : Nat)

/-- What an operation does ('ldp', 'fap': 'ld', 'fa' of what is only read). Up to 'pc' (a call by a contract) it changes nothing that is owned; 'al' to 'apn' make an owned block; the others write. -/
inductive I where
  | mv (x : Opd)
  | pick (c a b : Opd)
  | bld (zero : List Value) (parts : List (Nat × Nat × Opd))
  | bsl (k len : Nat) (zero : List Value) (parts : List (Nat × Nat × Opd))
  | z0
  | ld (agg : Bool) (n : Nat) (x : Opd)
  | chk (x : Opd)
  | bin (op : BinOp) (ty : TypeId) (x y : Opd)
  | un (op : UnOp) (x : Opd)
  | cv (src dst : TypeId) (x : Opd)
  | fa (off : Nat) (x : Opd)
  | fld (agg : Bool) (n off : Nat) (x : Opd)
  | ia (k : Nat) (x i : Opd)
  | iaa (len k : Nat) (x i : Opd)
  | ixs (x i : Opd)
  | ext (i : Nat) (x : Opd)
  | len (s : Bool) (x : Opd)
  | bi (b : Builtin) (args : List Opd)
  | sls (s : Bool) (k : Nat) (x : Opd) (lo hi : Option Opd)
  | mkf (i : FuncId) (caps : List Opd)
  | bxi (x : Opd)
  | mki (k bytes : Nat) (zero : List Value) (n : Opd)
  | lk (kd : Option IntKind) (z : Value) (two : Bool) (m k : Opd)
  | lnm (x : Opd)
  | mkm
  | pc (fn : Opd) (args : List Opd)
  | al (zero : List Value)
  | bx (x : Opd)
  | bso (k len : Nat) (zero : List Value) (parts : List (Nat × Nat × Opd))
  | mks (k bytes : Nat) (zero : List Value) (n : Opd)
  | apn (k bytes : Nat) (zero : List Value) (x y : Opd)
  | st (n : Nat) (a x : Opd)
  | sta (n : Nat) (a x : Opd) (ps : List Opd)
  | app (k bytes : Nat) (zero : List Value) (x y : Opd)
  | mup (kd : Option IntKind) (m k v : Opd)
  | cvo (x : Opd)
  | cl (fn : Opd) (args : List Opd)
  | ldp (agg : Bool) (n : Nat) (x : Opd)
  | fap (off : Nat) (x : Opd)
  | cln (fn : Opd) (args : List Opd)

/-- Operations that change nothing that is owned, or make a block of their own. -/
def I.free : I → Bool
  | .st .. | .sta .. | .app .. | .mup .. | .cl .. | .cln .. | .cvo .. => false
  | _ => true

structure Ins where
  dst : Dst
  guard : Option (Opd × Bool)
  i : I

inductive AC where
  | skip
  | reg (ins : List Ins)
  | ifr (ins : List Ins) (c : Opd) (x y : AC)
  | seq (x y : AC)
  | cond (c : Opd) (x y : AC)
  | block (id : Nat) (x : AC)
  | loop (x : AC)
  | rfn (g : Opd) (ps : List Nat) (x y : AC)
  | exit (id : Nat)
  | scope (x : AC)
  | label (l : Nat)
  | goto (l : Nat)
  | ret

def isStr (P : Program) (t : TypeId) : Bool :=
  match P.underlying t with
  | some .string => true
  | _ => false
def isBytes (P : Program) (t : TypeId) : Bool :=
  match P.underlying t with
  | some (.slice e) => (match P.underlying e with
    | some (.int .u8) => true
    | _ => false)
  | _ => false
def Program.tsz (P : Program) (t : TypeId) : Option (Bool × Nat) :=
  match P.underlying t, P.info? t with
  | some d, some i => some (d.isRow, i.size)
  | _, _ => none

def Program.zeroOf (P : Program) (t : TypeId) : Option (List Value) :=
  match P.info? t with
  | some i => match i.zero with
    | some v => some v.cells.toList
    | none => none
  | none => none

namespace Cfg
variable (C : Cfg)

def opd : Operand → Option Opd
  | .tmp t => some (if C.gs.contains t then .g t else .t t)
  | .const v => some (.c v)
  | .func f => some (.f f)
  | .global _ => none

def opdo : Option Operand → Option (Option Opd)
  | none => some none
  | some x => match C.opd x with
    | some y => some (some y)
    | none => none

def opds (l : List Operand) : Option (List Opd) := l.mapM C.opd

def dst : Option Tmp → Option Dst
  | none => some .no
  | some t => if t < C.n then some (if C.gs.contains t then .g t else .t t) else none

def owned : Option Tmp → Bool
  | none => false
  | some t => C.own.contains t

def parts (place : Nat → Option (Nat × Nat)) (l : List (Nat × Operand)) : Option (List (Nat × Nat × Opd)) :=
  l.mapM fun (i, x) => match place i, C.opd x with
    | some (o, n), some x => some (o, n, x)
    | _, _ => none

def fieldPlaces (fs : Array Field) (i : Nat) : Option (Nat × Nat) :=
  match fs[i]? with
  | some f => match Program.tsz C.P f.type with
    | some (_, n) => some (f.offset, n)
    | none => none
  | none => none

def call (own : Bool) (callee : Callee) (args : List Operand) (argTypes : List TypeId) : Option I := do
  let xs ← C.opds args
  match callee with
  | .value f =>
    let f ← C.opd f
    some (if own then .cl f xs else .pc f xs)
  | .invoke .. => none
  | .builtin b =>
    match b, xs, argTypes with
    | .len, [x], t :: _ => match C.P.underlying t with
      | some .string => some (.len true x)
      | some (.slice _) => some (.len false x)
      | some (.map _ _) => some (.lnm x)
      | _ => none
    | .append, [x, y], t :: u :: _ =>
      match C.P.underlying t, C.P.underlying u with
      | some (.slice e), some (.slice _) =>
        match Program.tsz C.P e, C.P.info? e, Program.zeroOf C.P e with
        | some (_, k), some inf, some z => if 0 < k ∧ z.length = k ∧ 0 < inf.bytes ∧ inf.bytes ≤ 2 ^ 20 then some (if own then .app k inf.bytes z x y else .apn k inf.bytes z x y) else none
        | _, _, _ => none
      | _, _ => none
    | .max, _, _ => some (.bi b xs)
    | .min, _, _ => some (.bi b xs)
    | .real, _, _ => some (.bi b xs)
    | .imag, _, _ => some (.bi b xs)
    | .complex, _, _ => some (.bi b xs)
    | _, _, _ => none

/-- Keys that are whole numbers of one kind, or texts. -/
def keyKind (t : TypeId) : Option (Option IntKind) :=
  match C.P.underlying t with
  | some (.int k) => some (some k)
  | some .string => some none
  | _ => none

def op (own : Bool) : Op → Option I
  | .move x | .assign x => (C.opd x).map .mv
  | .pick c a b => do some (.pick (← C.opd c) (← C.opd a) (← C.opd b))
  | .alloc e => (Program.zeroOf C.P e).map .al
  | .box _ x => (C.opd x).map fun x => if own then .bx x else .bxi x
  | .build t ps =>
    match Program.zeroOf C.P t, C.P.underlying t with
    | some z, some (.struct fs) => if fs.toList.all (fun f => (C.P.info? f.type).isSome) then (C.parts (C.fieldPlaces fs) ps.toList).map (.bld z) else none
    | some z, some (.array _ e) => match Program.tsz C.P e with
      | some (_, k) => (C.parts (fun i => some (i * k, k)) ps.toList).map (.bld z)
      | none => none
    | _, _ => none
  | .buildSlice t len ps =>
    match C.P.underlying t with
    | some (.slice e) => match Program.tsz C.P e, Program.zeroOf C.P e with
      | some (_, k), some z =>
        if len = 0 then (if ps.toList.isEmpty then some .z0 else none) else
        if len * k ≤ 2 ^ 24 ∧ 0 < k ∧ z.length = k then (C.parts (fun i => some (i * k, k)) ps.toList).map fun q => if own then .bso k len z q else .bsl k len z q else none
      | _, _ => none
    | _ => none
  | .load t a => match Program.tsz C.P t with
    | some (g, n) => (C.opd a).map (.ld g n)
    | none => none
  | .store t a x => match Program.tsz C.P t with
    | some (_, n) => do some (.st n (← C.opd a) (← C.opd x))
    | none => none
  | .nilCheck x => (C.opd x).map .chk
  | .binOp b t x y _ => do some (.bin b t (← C.opd x) (← C.opd y))
  | .unOp u _ x => (C.opd x).map (.un u)
  | .convert s d x => if (own && (s == d && isBytes C.P s)) = true then (C.opd x).map .cvo else (C.opd x).map (.cv s d)
  | .makeFunc (.func f) first caps => if first.toList.isEmpty then (C.opds caps.toList).map (.mkf f) else none
  | .makeSlice t l c =>
    match C.P.underlying t with
    | some (.slice e) => match Program.tsz C.P e, C.P.info? e, Program.zeroOf C.P e, l, c with
      | some (_, k), some inf, some z, .tmp i, .tmp j => if i = j ∧ 0 < k ∧ z.length = k ∧ 0 < inf.bytes then (C.opd l).map fun x => if own then .mks k inf.bytes z x else .mki k inf.bytes z x else none
      | some (_, k), some inf, some z, .const (.int .i64 a), .const (.int .i64 b) => if a = b ∧ 0 < k ∧ z.length = k ∧ 0 < inf.bytes then (C.opd l).map fun x => if own then .mks k inf.bytes z x else .mki k inf.bytes z x else none
      | _, _, _, _, _ => none
    | _ => none
  | .slice t x lo hi none =>
    match C.P.underlying t with
    | some .string => do some (.sls true 0 (← C.opd x) (← C.opdo lo) (← C.opdo hi))
    | some (.slice e) => match Program.tsz C.P e with
      | some (_, k) => do some (.sls false k (← C.opd x) (← C.opdo lo) (← C.opdo hi))
      | none => none
    | _ => none
  | .fieldAddr s x f =>
    match C.P.underlying s with
    | some (.struct fs) => match fs[f]? with
      | some fd => match Program.tsz C.P fd.type with
        | some (_, n) => if n = 0 then none else (C.opd x).map (.fa fd.offset)
        | none => none
      | none => none
    | _ => none
  | .field s x f =>
    match C.P.underlying s with
    | some (.struct fs) => match fs[f]? with
      | some fd => match Program.tsz C.P fd.type with
        | some (g, n) => (C.opd x).map (.fld g n fd.offset)
        | none => none
      | none => none
    | _ => none
  | .indexAddr t x i =>
    match C.P.underlying t with
    | some (.slice e) => match Program.tsz C.P e with
      | some (_, k) => do some (.ia k (← C.opd x) (← C.opd i))
      | none => none
    | some (.array len e) => match Program.tsz C.P e with
      | some (_, k) => do some (.iaa len k (← C.opd x) (← C.opd i))
      | none => none
    | _ => none
  | .index t x i =>
    match C.P.underlying t with
    | some .string => do some (.ixs (← C.opd x) (← C.opd i))
    | _ => none
  | .extract x i => (C.opd x).map (.ext i)
  | .makeMap t none => match C.P.underlying t with
    | some (.map _ _) => some .mkm
    | _ => none
  | .lookup t x i two => match C.P.underlying t with
    | some (.map kt et) => match C.keyKind kt, C.P.info? et with
      | some kd, some inf => match inf.zero with
        | some z => do some (.lk kd z two (← C.opd x) (← C.opd i))
        | none => none
      | _, _ => none
    | _ => none
  | .mapUpdate t m i x => match C.P.underlying t with
    | some (.map kt _) => match C.keyKind kt with
      | some kd => do some (.mup kd (← C.opd m) (← C.opd i) (← C.opd x))
      | none => none
    | _ => none
  | .call c => C.call own c.callee c.args.toList c.argTypes.toList
  | _ => none

def guardO (ops : Array Oper) : Option (Nat × Bool) → Option (Option (Opd × Bool))
  | none => some none
  | some (j, want) => match (ops[j]?).bind (·.dst) with
    | some t => some (some (if C.gs.contains t then Opd.g t else Opd.t t, want))
    | none => none

def ins (ops : Array Oper) (o : Oper) : Option Ins :=
  match C.dst o.dst, C.guardO ops o.guard, C.op (C.owned o.dst) o.op with
  | some d, some g, some i => some ⟨d, g, i⟩
  | _, _, _ => none

/-- The slots that an operation reads. -/
def seesO : Opd → List Nat
  | .t j => [j]
  | .g j => [j]
  | _ => []

def dstO : Dst → List Nat
  | .no => []
  | .t j => [j]
  | .g j => [j]

def seesI : I → List Nat
  | .mv x | .cvo x | .ldp _ _ x | .fap _ x | .ld _ _ x | .chk x | .un _ x | .cv _ _ x | .fa _ x | .fld _ _ _ x | .ext _ x | .len _ x | .bxi x | .bx x => seesO x
  | .mki _ _ _ x | .mks _ _ _ x => seesO x
  | .pick c a b => seesO c ++ seesO a ++ seesO b
  | .bld _ ps => ps.flatMap fun p => seesO p.2.2
  | .bsl _ _ _ ps | .bso _ _ _ ps => ps.flatMap fun p => seesO p.2.2
  | .z0 | .al _ | .mkm => []
  | .lnm x => seesO x
  | .lk _ _ _ x y => seesO x ++ seesO y
  | .mup _ m k v => seesO m ++ seesO k ++ seesO v
  | .bin _ _ x y | .ia _ x y | .iaa _ _ x y | .ixs x y => seesO x ++ seesO y
  | .bi _ xs | .mkf _ xs => xs.flatMap seesO
  | .sls _ _ x lo hi => seesO x ++ (match lo with | some l => seesO l | none => []) ++ (match hi with | some l => seesO l | none => [])
  | .pc f xs | .cl f xs | .cln f xs => seesO f ++ xs.flatMap seesO
  | .apn _ _ _ x y | .app _ _ _ x y => seesO x ++ seesO y
  | .st _ a x => seesO a ++ seesO x
  | .sta _ a x ps => seesO a ++ seesO x ++ ps.flatMap seesO

def sees (x : Ins) : List Nat := (match x.guard with | some (g, _) => seesO g | none => []) ++ seesI x.i

/-- Does it look at owned blocks? -/
def looksI : I → Bool
  | .ld .. | .ia .. | .iaa .. | .len .. | .sls .. | .fa .. | .apn .. | .lk .. | .lnm .. => true
  | _ => false
/-- Does it make an owned block? -/
def makesI : I → Bool
  | .al _ | .bx _ | .bso .. | .mks .. | .apn .. | .mkm => true
  | _ => false

/-- It neither looks at owned blocks nor makes nor writes any. -/
def quietI (i : I) : Bool := i.free && (!looksI i && !makesI i)

def callI : I → Bool
  | .cl .. | .cln .. => true
  | _ => false

/-- Neither writes what the other one writes or reads. -/
def slotsApart (x y : Ins) : Bool := ((dstO x.dst).all fun d => !(dstO y.dst).contains d && !(sees y).contains d) && (dstO y.dst).all fun d => !(sees x).contains d

/-- The operands whose owned blocks an operation looks at. -/
def lookO : I → List Opd
  | .ld _ _ x | .fa _ x | .ia _ x _ | .iaa _ _ x _ | .len _ x | .sls _ _ x _ _ => [x]
  | .apn _ _ _ _ y => [y]
  | .lk _ _ _ x _ | .lnm x => [x]
  | _ => []

/-- The same slot. -/
def sameO : Opd → Opd → Bool
  | .t j, .t k => j == k
  | .g j, .g k => j == k
  | _, _ => false

/-- Of which operand's block a value tells a part. -/
def partO : I → Option Opd
  | .mv p | .fa _ p | .chk p | .ia _ p _ | .iaa _ _ p _ => some p
  | _ => none

def rootOf (rm : List (Nat × Opd)) : Opd → Opd
  | .t k => match rm.find? (fun e => e.1 == k) with
    | some e => e.2
    | none => .t k
  | p => p

def rootFold (rm : List (Nat × Opd)) : List Ins → List (Nat × Opd)
  | [] => rm
  | x :: is => rootFold (match x.dst, partO x.i with
    | .t j, some p => if sameO (rootOf rm p) (rootOf rm p) then (j, rootOf rm p) :: rm else rm
    | _, _ => rm) is

/-- Is it written? -/
def writes (d : Dst) : Opd → Bool
  | .t j => match d with | .t k => j == k | _ => false
  | .g j => match d with | .g k => j == k | _ => false
  | _ => false

/-- Where the parts of blocks that a region makes come from: variables that it does not write. -/
def roots (is : List Ins) : List (Nat × Opd) := (rootFold [] is).filter fun e => is.all fun x => !writes x.dst e.2

/-- What an operation lays down fits what is told of the roots. -/
def rootFits (rm : List (Nat × Opd)) (x : Ins) : Bool :=
  (rm.all fun e => !writes x.dst e.2) && (match x.dst with
  | .t j => rm.all fun e => e.1 != j || (match partO x.i with
    | some p => sameO (rootOf rm p) e.2
    | none => false)
  | _ => true)

/-- The younger one writes into a block; the blocks that the elder one looks at or writes into are told to be others. -/
def staI (rm : List (Nat × Opd)) (x y : I) : Bool :=
  match x, y with
  | .st _ a _, .sta _ _ _ ps | .sta _ a _ _, .sta _ _ _ ps => ps.any (sameO (rootOf rm a))
  | x, .sta _ _ _ ps => x.free && (!makesI x && (lookO x).all fun p => ps.any (sameO (rootOf rm p)))
  | _, _ => false

/-- The younger one is a call that changes no block. -/
def clnI (x y : I) : Bool :=
  match y with
  | .cln .. => x.free && !makesI x
  | _ => false

/-- Of two operations, the elder one first: they may change places. -/
def swapI (rm : List (Nat × Opd)) (x y : Ins) : Bool := slotsApart x y && ((quietI y.i && !callI x.i) || quietI x.i || (x.i.free && y.i.free) || staI rm x.i y.i || clnI x.i y.i)

/-- Of what a store is told to be apart: without what these operations lay down. -/
def cutI (xs : List Ins) : I → I
  | .sta n a v ps => .sta n a v (ps.filter fun p => xs.all fun x => (dstO x.dst).all fun s => !(seesO p).contains s)
  | i => i
def cutL (xs : List Ins) (y : Ins) : Ins := ⟨y.dst, y.guard, cutI xs y.i⟩

/-- Slots are what they are told to be. -/
def fitO (gs : List Nat) : Opd → Bool
  | .t j => !gs.contains j
  | .g j => gs.contains j
  | _ => true

def notSta : I → Bool
  | .sta .. => false
  | _ => true
/-- A region that draws its order, read in the order 'pi': two operations whose order is open may change places. 'bf q p': the one read at p stands before the one read at q. -/
def drawOk (gs : List Nat) (ops : Array Oper) (pi : List Nat) (bf : Nat → Nat → Bool) (is : List Ins) : Bool :=
  (ops.toList.zipIdx.all fun (o, i) => o.after.toList.all fun e => !Region.binds .any e || e.on < i) &&
  (is.all (fun x => (lookO x.i).all (fitO gs) && rootFits (roots is) x) &&
  is.zipIdx.all fun (y, j) => is.zipIdx.all fun (x, i) => if i < j then pi.getD i 0 != pi.getD j 0 && (bf j i || swapI (roots is) x (cutL ((is.take j).drop i) y)) else true)

/-- A store whose order with elder looks and stores is open: their blocks are to be others than its own. A look whose order with a call is open ('c'): at what is only read. -/
def tellI (b : Nat → Bool) (c kp : Bool) (is : List Ins) (y : Ins) (j : Nat) : Ins :=
  match y.i with
  | .st n a x => match (is.take j).zipIdx.flatMap fun (z, i) => if b i then [] else (match z.i with | .st _ a _ => [rootOf (roots is) a] | i => (lookO i).map (rootOf (roots is))) with
    | [] => y
    | ps => ⟨y.dst, y.guard, .sta n a x ps⟩
  | .ld g n x => if c then ⟨y.dst, y.guard, .ldp g n x⟩ else y
  | .fa off x => if c then ⟨y.dst, y.guard, .fap off x⟩ else y
  | .cl f xs => if kp then ⟨y.dst, y.guard, .cln f xs⟩ else y
  | _ => y

def tell (bf : Nat → Nat → Bool) (late kp : Bool) (is : List Ins) : List Ins :=
  is.zipIdx.map fun (y, j) => tellI (bf j) (late && !kp && is.zipIdx.any fun (x, i) => callI x.i && (i != j && (!bf j i && !bf i j))) kp is y j

/-- Calls as late as may be. -/
def later (b : Array Nat) (is : List Ins) : Nat → List Nat → List Nat
  | 0, acc => acc.reverse
  | k + 1, acc =>
    let open' := is.zipIdx.filter fun (_, i) => !acc.contains i && (List.range is.length).all fun p => !(b.getD i 0).testBit p || acc.contains p
    match open'.find? fun (x, _) => !callI x.i with
    | some (_, i) => later b is k (i :: acc)
    | none => match open' with
      | (_, i) :: _ => later b is k (i :: acc)
      | [] => acc.reverse

/-- A region that draws its order: as the text has it; else with its calls late. -/
def drawI (ops : Array Oper) (is : List Ins) : Option (List Ins) :=
  let b := Region.before ops
  let bf := fun q p => (b.getD q 0).testBit p
  if C.P.follows .mixedOrders && is.all fun x => notSta x.i then
    if drawOk C.gs ops (List.range is.length) bf (tell bf false false is) then some (tell bf false false is) else
    let pi := later b is is.length []
    let bf := fun q p => (b.getD (pi.getD q 0) 0).testBit (pi.getD p 0)
    match pi.mapM (is[·]?) with
    | some js => if is.length == pi.length && drawOk C.gs ops pi bf (tell bf true (C.own.contains 1000000) js) then some (tell bf true (C.own.contains 1000000) js) else none
    | none => none
  else none

def comp : Code → Option AC
  | .skip => some .skip
  | .region _ ops draw => do
    let is ← ops.toList.mapM (C.ins ops)
    if draw then (match C.drawI ops is with | some js => some (.reg js) | none => none) else some (.reg is)
  | .seq x y => do
    let a ← comp x
    let b ← comp y
    match a, b with
    | .reg is, .cond c x y => some (.ifr is c x y)
    | .reg is, .seq (.cond c x y) z => some (.seq (.ifr is c x y) z)
    | _, _ => some (.seq a b)
  | .cond c x y => do some (.cond (← C.opd c) (← comp x) (← comp y))
  | .block id x => do some (.block id (← comp x))
  | .loop x => do some (.loop (← comp x))
  | .exit id => some (.exit id)
  | .scope x => do some (.scope (← comp x))
  | .label l => some (.label l)
  | .goto l => some (.goto l)
  | .ret => some .ret
  | .rangeFunc g ps x y => do
    let g ← C.opd g
    let a ← comp x
    let b ← comp y
    some (.rfn g ps.toList a b)
  | .refuse _ => none
end Cfg
end Go.Fx

/-
  The run of resolved code on deep values, as a condition on the state that it begins in.
-/

set_option linter.all false
namespace Go.Fx
open Go

/-- What the model's own operation tells of plain values, where it looks at the program alone. -/
def Sem.look (P : Program) {α : Type} : Sem α → Option α
  | .pure a => some a
  | .program k => Sem.look P (k P)
  | _ => none

def D.cells : D → List D
  | .agg cs => cs
  | d => [d]

/-- A cell's value (no struct, no tuple). -/
def D.cell : D → Bool
  | .pl (.agg _) => false
  | .pl (.tuple _) => false
  | .agg _ => false
  | .tup _ => false
  | .top => false
  | _ => true

/-- A struct, or a cell. -/
def D.solid : D → Bool
  | .agg _ => true
  | d => d.cell

def mkv (g : Bool) (cs : List D) : Option D :=
  if g then some (.agg cs) else match cs with
    | [d] => some d
    | _ => none

def rdc (mem : Mem) (n : Nat) : D → Option (List D)
  | .pt cs => if n ≤ cs.length then some (cs.take n) else none
  | .opt id off => match look mem id with
    | some (.box cs) => if off + n ≤ cs.length then some ((cs.drop off).take n) else none
    | _ => none
  | .oel id ver i off => match look mem id with
    | some (.arr v _ es) => if v = ver then (match es[i]? with
      | some e => if off + n ≤ e.length then some ((e.drop off).take n) else none
      | none => none) else none
    | _ => none
  | _ => none

def place (off : Nat) (cs new : List D) : List D := cs.take off ++ new ++ cs.drop (off + new.length)

def fillD (cells : List D) : List (Nat × Nat × D) → Option (List D)
  | [] => some cells
  | (off, n, d) :: r => if d.solid = true ∧ d.cells.length = n ∧ off + n ≤ cells.length then fillD (place off cells d.cells) r else none

/-- A plain value, whole. -/
def D.val : D → Option Value
  | .pl v => some v
  | .fn f [] => some (.func (.func f) #[] #[])
  | _ => none

def D.vals : List D → Option (List Value)
  | [] => some []
  | d :: ds => match D.val d, D.vals ds with
    | some v, some vs => some (v :: vs)
    | _, _ => none

def lit : Value → Bool
  | .nilIface => false
  | .iface _ _ => false
  | .agg _ => false
  | .tuple _ => false
  | .map _ => false
  | .chan _ => false
  | .func _ _ _ => false
  | .pointer (some _) => false
  | .slice (some _) _ _ => false
  | _ => true

/-- '==' and '!=' of a slice that is not nil with nil. -/
def nilS (P : Program) (op : BinOp) (ty : TypeId) : Option D :=
  match op, P.underlying ty with
  | .eql, some (.slice _) => some (.pl (.bool false))
  | .neq, some (.slice _) => some (.pl (.bool true))
  | _, _ => none
/-- '==' and '!=' of a pointer with nil, of structs of plain values; else what the model tells of plain values. -/
def binD (P : Program) (op : BinOp) (ty : TypeId) (x y : D) : Option D :=
  match x, y with
  | .pl a, .pl b => if lit a && lit b then (Sem.look P (binOp op ty a b)).map .pl else (match a, b with
    | .slice (some _) _ _, .slice none _ _ => nilS P op ty
    | _, _ => none)
  | .sl (_ :: _), .pl (.slice none _ _) => nilS P op ty
  | .agg xs, .agg ys => match D.vals xs, D.vals ys with
    | some a, some b => (Sem.look P (do eqGuard op ty (.tmp 0) (.tmp 0) (.agg a.toArray) (.agg b.toArray); binOp op ty (.agg a.toArray) (.agg b.toArray))).map .pl
    | _, _ => none
  | .pt _, .pl (.pointer none) | .opt _ _, .pl (.pointer none) =>
    match op, P.underlying ty with
    | .eql, some (.pointer _) => some (.pl (.bool false))
    | .neq, some (.pointer _) => some (.pl (.bool true))
    | _, _ => none
  | _, _ => none

def unD (P : Program) (op : UnOp) : D → Option D
  | .pl a => if lit a then (Sem.look P (Op.unary op a)).map .pl else none
  | _ => none

/-- A text's type; a type of bytes in a row. -/
def cellByte : List D → Option UInt8
  | [.pl (.int .u8 n)] => if 0 ≤ n ∧ n < 256 then some (UInt8.ofNat n.toNat) else none
  | _ => none
def cellBytes : List (List D) → Option (List UInt8)
  | [] => some []
  | e :: es => match cellByte e, cellBytes es with
    | some b, some bs => some (b :: bs)
    | _, _ => none
def byteCells (l : List UInt8) : List (List D) := l.map fun b => [.pl (.int .u8 b.toNat)]
/-- A conversion; of bytes to a text and back, too. -/
def cvD (P : Program) (s d : TypeId) : D → Option D
  | .sl es => if isBytes P s && isStr P d then (cellBytes es).map fun l => .pl (.string ⟨l.toArray⟩) else none
  | .pl (.string t) => if isStr P s && isBytes P d then some (.sl (byteCells t.data.toList)) else (Sem.look P (convert s d (.string t))).map .pl
  | .pl a => if lit a then (Sem.look P (convert s d a)).map .pl else none
  | _ => none

def biD (P : Program) (b : Builtin) (xs : List D) : Option D :=
  match D.vals xs with
  | some vs => if vs.all lit then (match b with
    | .max => (Sem.look P (Builtin.max_ #[] 0 vs.toArray)).map .pl
    | .min => (Sem.look P (Builtin.min_ #[] 0 vs.toArray)).map .pl
    | .real => (Sem.look P (Builtin.real_ #[] 0 vs.toArray)).map .pl
    | .imag => (Sem.look P (Builtin.imag_ #[] 0 vs.toArray)).map .pl
    | .complex => (Sem.look P (Builtin.complex_ #[] 0 vs.toArray)).map .pl
    | _ => none) else none
  | none => none

/-- Is it the row's own version? -/
def cur (mem : Mem) (id ver k : Nat) : Bool :=
  match look mem id with
  | some (.arr v k' _) => v == ver && k' == k
  | _ => false
def curv (mem : Mem) (id ver : Nat) : Bool :=
  match look mem id with
  | some (.arr v _ _) => v == ver
  | _ => false

def lenD (mem : Mem) (s : Bool) : D → Option D
  | .sl es => if s then none else some (.pl (.int .i64 es.length))
  | .osl id ver _ n => if s || !curv mem id ver then none else some (.pl (.int .i64 n))
  | .pl (.slice none 0 0) => if s then none else some (.pl (.int .i64 0))
  | .zs => if s then none else some (.pl (.int .i64 0))
  | .pl (.string b) => if s then some (.pl (.int .i64 b.size)) else none
  | _ => none

def iaD (mem : Mem) (k : Nat) (x i : D) : Option D :=
  match x, i with
  | .sl es, .pl (.int _ i) => if 0 ≤ i ∧ i < es.length then (match es[i.toNat]? with
    | some e => if e.length = k then some (.pt e) else none
    | none => none) else none
  | .osl id ver lo n, .pl (.int _ i) => if cur mem id ver k then (if 0 ≤ i ∧ i < n then some (.oel id ver (lo + i.toNat) 0) else none) else none
  | _, _ => none

def faD (mem : Mem) (off : Nat) : D → Option D
  | .pt cs => if off ≤ cs.length then some (.pt (cs.drop off)) else none
  | .opt id o => some (.opt id (o + off))
  | .oel id ver i o => if curv mem id ver then some (.oel id ver i (o + off)) else none
  | _ => none

/-- An element of an array behind an address. -/
def iaaD (mem : Mem) (len k : Nat) (x i : D) : Option D :=
  match i with
  | .pl (.int _ i) => if 0 ≤ i ∧ i < len then faD mem (i.toNat * k) x else none
  | _ => none

/-- A byte of a text. -/
def ixsD (x i : D) : Option D :=
  match x, i with
  | .pl (.string s), .pl (.int _ i) => match (if 0 ≤ i then s[i.toNat]? else none) with
    | some b => some (.pl (.int .u8 b.toNat))
    | none => none
  | _, _ => none

def kOk : Option IntKind → Value → Bool
  | some k, .int j _ => decide (j = k)
  | none, .string _ => true
  | _, _ => false
def keyEq : Value → Value → Bool
  | .int _ a, .int _ b => a == b
  | .string a, .string b => decide (a = b)
  | _, _ => false
def mfind (k : Value) : List (Value × D) → Option D
  | [] => none
  | e :: es => if keyEq e.1 k then some e.2 else mfind k es
def mput (k : Value) (v : D) : List (Value × D) → List (Value × D)
  | [] => [(k, v)]
  | e :: es => if keyEq e.1 k then (k, v) :: es else e :: mput k v es
/-- A value without anything, as a deep one. -/
def zD : Value → D
  | .agg cs => .agg (cs.toList.map .pl)
  | v => .pl v
/-- The entries of a map that is looked into: a nil one has none. -/
def mapOf (mem : Mem) (kd : Option IntKind) : D → Option (List (Value × D))
  | .omap id => match look mem id with
    | some (.map es) => if es.all (fun e => kOk kd e.1) then some es else none
    | _ => none
  | .pl (.map none) => some []
  | _ => none
def lkD (mem : Mem) (kd : Option IntKind) (z : Value) (two : Bool) (m k : D) : Option D :=
  match k, mapOf mem kd m with
  | .pl k, some es => if kOk kd k then some (match mfind k es with
    | some v => if two then .tup [v, .pl (.bool true)] else v
    | none => if two then .tup [zD z, .pl (.bool false)] else zD z) else none
  | _, _ => none
def lnmD (mem : Mem) : D → Option D
  | .omap id => match look mem id with
    | some (.map es) => some (.pl (.int .i64 es.length))
    | _ => none
  | .pl (.map none) => some (.pl (.int .i64 0))
  | _ => none
def mupM (mem : Mem) (kd : Option IntKind) (m k v : Option D) : Option (D × Mem) :=
  match m, k, v with
  | some (.omap id), some (.pl k), some v => match look mem id with
    | some (.map es) => if kOk kd k ∧ es.all (fun e => kOk kd e.1) then some (.top, upd mem id (.map (mput k v es))) else none
    | _ => none
  | _, _, _ => none

def bound (x : Option D) (d : Nat) : Option Int :=
  match x with
  | none => some d
  | some (.pl (.int _ i)) => some i
  | _ => none

def slsD (mem : Mem) (s : Bool) (k : Nat) (x : D) (lo hi : Option D) : Option D :=
  match x with
  | .sl es => if s then none else match bound lo 0, bound hi es.length with
    | some l, some h => if (0 ≤ l ∧ l ≤ h ∧ h ≤ es.length) ∧ (l = 0 ∨ es.all (fun e => e.length == k) = true) then some (.sl ((es.take h.toNat).drop l.toNat)) else none
    | _, _ => none
  | .osl id ver o n => if s || !curv mem id ver then none else match bound lo 0, bound hi n with
    | some l, some h => if l = 0 ∧ 0 ≤ h ∧ h ≤ n then some (.osl id ver o h.toNat) else none
    | _, _ => none
  | .pl (.string b) => if s then (match bound lo 0, bound hi b.size with
    | some l, some h => if 0 ≤ l ∧ l ≤ h ∧ h ≤ b.size then some (.pl (.string (b.extract l.toNat h.toNat))) else none
    | _, _ => none) else none
  | .pl (.slice none 0 0) => if s then none else match bound lo 0, bound hi 0 with
    | some l, some h => if l = 0 ∧ h = 0 then some (.pl (.slice none 0 0)) else none
    | _, _ => none
  | .zs => if s then none else match bound lo 0, bound hi 0 with
    | some l, some h => if l = 0 ∧ h = 0 then some .zs else none
    | _, _ => none
  | _ => none

def ro (tl env : Env) : Opd → Option D
  | .t j => look tl j
  | .g j => look env j
  | .c v => some (.pl v)
  | .f i => some (.fn i [])

def ros (tl env : Env) : List Opd → Option (List D)
  | [] => some []
  | x :: xs => match ro tl env x, ros tl env xs with
    | some d, some ds => some (d :: ds)
    | _, _ => none

def rps (tl env : Env) : List (Nat × Nat × Opd) → Option (List (Nat × Nat × D))
  | [] => some []
  | (o, n, x) :: xs => match ro tl env x, rps tl env xs with
    | some d, some ds => some ((o, n, d) :: ds)
    | _, _ => none

def chunks (k : Nat) : Nat → List D → List (List D)
  | 0, _ => []
  | n + 1, cs => cs.take k :: chunks k n (cs.drop k)

def bslD (k len : Nat) (zero : List Value) (ps : List (Nat × Nat × D)) : Option (List (List D)) :=
  (fillD ((List.replicate len (zero.map D.pl)).flatten) ps).map (chunks k len)

def ob {α : Type} (o : Option α) (K : α → Prop) : Prop :=
  match o with
  | some d => K d
  | none => False

def extD (i : Nat) : D → Option D
  | .tup ds => ds[i]?
  | _ => none

def chkD : D → Option D
  | .pt cs => some (.pt cs)
  | .opt id o => some (.opt id o)
  | .fn f c => some (.fn f c)
  | _ => none

def fldD (g : Bool) (n off : Nat) : D → Option D
  | .agg cs => if off + n ≤ cs.length then mkv g ((cs.drop off).take n) else none
  | _ => none

/-- A function that has a text. -/
def Enter (P : Program) (f : FuncId) : Prop := ∃ fn, P.funcs[f]? = some fn ∧ (fn.name == "runtime.NumGoroutine") = false ∧ fn.body.isNone = false

def noLocs : Locs := fun _ => none

/-- A function's contract: what is handed in and what comes back are deep values; nothing that is owned is seen. -/
def Pure (P : Program) (f : FuncId) (args : List D) (res : D) : Prop :=
  Enter P f ∧ ∀ (S : Nat → Prop) (w : World) (xs : List Value), (∀ b, S b → b < w.heap.size) → RepVs w S noLocs args xs →
    Calls P f xs.toArray w fun e w' => ∃ v S', e = .returned v ∧ Rep w' S' noLocs res v ∧ Ext S noLocs [] w S' noLocs [] w' ∧ ∀ b, S' b → b < w'.heap.size

/-- A function without a text that comes to a value at once. -/
def Extn (P : Program) (f : FuncId) (args : List D) (res : D) : Prop :=
  ∀ (S : Nat → Prop) (φ : Locs) (w : World) (xs : List Value), RepVs w S φ args xs → ∃ v, Rep w S φ res v ∧ (callFunc f xs.toArray).run P w = .ok (.value v) w

mutual
/-- Nothing owned in it. -/
def D.imm : D → Bool
  | .top => true
  | .zs => true
  | .pl _ => true
  | .sl es => D.immss es
  | .pt cs => D.imms cs
  | .opt _ _ | .osl _ _ _ _ | .oel _ _ _ _ | .omap _ => false
  | .fn _ caps => D.imms caps
  | .agg cs => D.imms cs
  | .tup ds => D.imms ds
def D.imms : List D → Bool
  | [] => true
  | d :: ds => D.imm d && D.imms ds
def D.immss : List (List D) → Bool
  | [] => true
  | e :: es => D.imms e && D.immss es
end

/-- What a call of f with these values comes to. -/
def CallT (P : Program) (f : FuncId) (args : List D) (mem : Mem) (nx : Nat) (K : D → Mem → Nat → Prop) : Prop :=
  Enter P f ∧ ∀ (S : Nat → Prop) (φ : Locs) (w : World) (xs : List Value), MSim S φ mem nx w → RepVs w S φ args xs →
    Calls P f xs.toArray w fun e w' => ∃ v d mem' nx' S' φ', e = .returned v ∧ K d mem' nx' ∧ nx ≤ nx' ∧ MSim S' φ' mem' nx' w' ∧ Rep w' S' φ' d v ∧ Stays w S φ w' S' φ' ∧ Ext S φ mem w S' φ' mem' w' ∧
      ∀ i, i < nx → φ i = none → φ' i = none

def put (d : Dst) (v : D) (env tl : Env) (K : Env → Env → Prop) : Prop :=
  match d with
  | .no => K env tl
  | .t j => K env ((j, v) :: tl)
  | .g j => K (upd env j v) tl

def wrc (mem : Mem) (n : Nat) (a : D) (new : List D) : Option Mem :=
  if new.length = n ∧ new.all D.cell then
    match a with
    | .opt id off => match look mem id with
      | some (.box cs) => if off + n ≤ cs.length then some (upd mem id (.box (place off cs new))) else none
      | _ => none
    | .oel id ver i off => match look mem id with
      | some (.arr v k es) => if v = ver then (match es[i]? with
        | some e => if off + n ≤ e.length then some (upd mem id (.arr v k (es.set i (place off e new)))) else none
        | none => none) else none
      | _ => none
    | _ => none
  else none

/-- The elements that an append adds, each of k cells. -/
def els (mem : Mem) (k : Nat) : D → Option (List (List D))
  | .sl es => if es.all (fun e => e.length == k && e.all D.cell) then some es else none
  | .pl (.slice none 0 0) => some []
  | .pl (.slice (some _) 0 _) => some []
  | .zs => some []
  | .osl id ver lo n => match look mem id with
    | some (.arr v k' es) => if v = ver ∧ k' = k ∧ lo + n ≤ es.length ∧ es.all (fun e => e.all D.cell) then some ((es.drop lo).take n) else none
    | _ => none
  | _ => none

/-! What follows an operation ('K') stands nowhere behind a bound variable: so rewriting takes one operation at a time. -/
abbrev KD := D → Mem → Nat → Prop

def k0 (o : Option D) (mem : Mem) (nx : Nat) (K : KD) : Prop :=
  match o with
  | some d => K d mem nx
  | none => False
def k1 (o : Option D) (g : D → Option D) (mem : Mem) (nx : Nat) (K : KD) : Prop :=
  match o with
  | some x => k0 (g x) mem nx K
  | none => False
def k2 (o p : Option D) (g : D → D → Option D) (mem : Mem) (nx : Nat) (K : KD) : Prop :=
  match o, p with
  | some x, some y => k0 (g x y) mem nx K
  | _, _ => False
def kl {α : Type} (o : Option α) (g : α → Option D) (mem : Mem) (nx : Nat) (K : KD) : Prop :=
  match o with
  | some x => k0 (g x) mem nx K
  | none => False
/-- Behind an operation that changes the owned blocks: its value and the blocks. -/
def km (o : Option (D × Mem)) (nx : Nat) (K : KD) : Prop :=
  match o with
  | some x => K x.1 x.2 nx
  | none => False

def bldD (z : List Value) (ps : List (Nat × Nat × D)) : Option D := (fillD (z.map .pl) ps).map .agg
def bslI (k len : Nat) (z : List Value) (ps : List (Nat × Nat × D)) : Option D := (bslD k len z ps).map .sl
def ldD (mem : Mem) (g : Bool) (n : Nat) (x : D) : Option D :=
  match rdc mem n x with
  | some cs => mkv g cs
  | none => none
/-- Of what is only read. -/
def ldpD (g : Bool) (n : Nat) : D → Option D
  | .pt cs => ldD [] g n (.pt cs)
  | _ => none
def fapD (off : Nat) : D → Option D
  | .pt cs => faD [] off (.pt cs)
  | _ => none
def bxiD (x : D) : Option D := if x.cells.all D.cell then some (.pt x.cells) else none
def mkiD (bytes : Nat) (z : List Value) : D → Option D
  | .pl (.int .i64 n) => if 0 ≤ n ∧ n * bytes ≤ 2 ^ 47 then some (.sl (List.replicate n.toNat (z.map .pl))) else none
  | _ => none
def pickD (a b : Option D) : D → Option D
  | .pl (.bool c) => match c with | true => a | false => b
  | _ => none
def mkfD (f : FuncId) (cs : List D) : Option D := some (.fn f cs)
def roo (tl env : Env) : Option Opd → Option (Option D)
  | none => some none
  | some x => match ro tl env x with
    | some d => some (some d)
    | none => none
def slsO (mem : Mem) (s : Bool) (k : Nat) (x : Option D) (lo hi : Option (Option D)) : Option D :=
  match x, lo, hi with
  | some x, some lo, some hi => slsD mem s k x lo hi
  | _, _, _ => none

/-- A call by contract. -/
def pcK (P : Program) (f : Option D) (xs : Option (List D)) (mem : Mem) (nx : Nat) (K : KD) : Prop :=
  match f, xs with
  | some (.fn f caps), some xs => ∃ r, (Pure P f (xs ++ caps) r ∨ Extn P f (xs ++ caps) r) ∧ D.imms (xs ++ caps) = true ∧ K r mem nx
  | _, _ => False
/-- All blocks are as they were. -/
def memKeeps (mem m : Mem) : Prop := ∀ id b, look mem id = some b → look m id = some b
def clK (P : Program) (f : Option D) (xs : Option (List D)) (mem : Mem) (nx : Nat) (K : KD) : Prop :=
  match f, xs with
  | some (.fn f caps), some xs => CallT P f (xs ++ caps) mem nx K
  | _, _ => False

def bxM (id : Nat) (mem : Mem) : Option D → Option (D × Mem)
  | some x => if x.cells.all D.cell then some (.opt id 0, (id, .box x.cells) :: mem) else none
  | none => none
def bsoM (id : Nat) (mem : Mem) (k len : Nat) (z : List Value) : Option (List (Nat × Nat × D)) → Option (D × Mem)
  | some ps => match bslD k len z ps with
    | some es => some (.osl id 0 0 len, (id, .arr 0 k es) :: mem)
    | none => none
  | none => none
def mksM (id : Nat) (mem : Mem) (k bytes : Nat) (z : List Value) : Option D → Option (D × Mem)
  | some (.pl (.int .i64 n)) => if 0 ≤ n ∧ n * bytes ≤ 2 ^ 47 then some (.osl id 0 0 n.toNat, (id, .arr 0 k (List.replicate n.toNat (z.map .pl))) :: mem) else none
  | _ => none
/-- Is it a slice without room? -/
def D.roomless : D → Bool
  | .pl (.slice none 0 0) => true
  | .zs => true
  | _ => false
def apnM (id : Nat) (mem : Mem) (k bytes : Nat) (x y : Option D) : Option (D × Mem) :=
  match x, y with
  | some x, some y => if x.roomless then (match els mem k y with
    | some es => if es.length * bytes ≤ 3 * 2 ^ 46 then some (.osl id 0 0 es.length, (id, .arr 0 k es) :: mem) else none
    | none => none) else none
  | _, _ => none
def appM (id : Nat) (mem : Mem) (k bytes : Nat) (x y : Option D) : Option (D × Mem) :=
  match x, y with
  | some (.osl i ver lo n), some y => match look mem i, els mem k y with
    | some (.arr v k' es), some new => if v = ver ∧ k' = k ∧ lo + n ≤ es.length ∧ (n + new.length) * bytes ≤ 3 * 2 ^ 46 then some (.osl i (v + 1) 0 (n + new.length), upd mem i (.arr (v + 1) k ((es.drop lo).take n ++ new))) else none
    | _, _ => none
  | x, y => apnM id mem k bytes x y
/-- A constant text as bytes: its block is only read from then on. -/
def cvoM (mem : Mem) (x : Option D) : Option (D × Mem) :=
  match x with
  | some (.osl i ver 0 n) => match look mem i with
    | some (.arr v k es) => if (v = ver ∧ k = 1 ∧ n = es.length) ∧ es.isEmpty = false then some (.sl es, upd mem i (.arr (v + 1) 1 [])) else none
    | _ => none
  | _ => none
def stM (mem : Mem) (n : Nat) (a x : Option D) : Option (D × Mem) :=
  match a, x with
  | some a, some x => match wrc mem n a x.cells with
    | some m => some (.top, m)
    | none => none
  | _, _ => none

/-- The owned block that a value leads into. -/
def D.hd : D → Option Nat
  | .opt id _ | .osl id _ _ _ | .oel id _ _ _ | .omap id => some id
  | _ => none
def apartD (a : Option D) (ps : Option (List D)) : Bool :=
  match a, ps with
  | some a, some ps => ps.all fun p => p.hd.isNone || p.hd != a.hd
  | _, _ => false
def staM (mem : Mem) (n : Nat) (a x : Option D) (ps : Option (List D)) : Option (D × Mem) := if apartD a ps = true then stM mem n a x else none

/-- One operation, as a condition: K: what is asked behind it. 'id': the block's number, if it makes one. -/
def stepI (C : Cfg) (id : Nat) (i : I) (env tl : Env) (mem : Mem) (nx : Nat) (K : KD) : Prop :=
  match i with
  | .mv x => k0 (ro tl env x) mem nx K
  | .pick c a b => k1 (ro tl env c) (pickD (ro tl env a) (ro tl env b)) mem nx K
  | .bld z ps => kl (rps tl env ps) (bldD z) mem nx K
  | .bsl k len z ps => kl (rps tl env ps) (bslI k len z) mem nx K
  | .z0 => K .zs mem nx
  | .ld g n x => k1 (ro tl env x) (ldD mem g n) mem nx K
  | .chk x => k1 (ro tl env x) chkD mem nx K
  | .bin op ty x y => k2 (ro tl env x) (ro tl env y) (binD C.P op ty) mem nx K
  | .un op x => k1 (ro tl env x) (unD C.P op) mem nx K
  | .cv s d x => k1 (ro tl env x) (cvD C.P s d) mem nx K
  | .fa off x => k1 (ro tl env x) (faD mem off) mem nx K
  | .fld g n off x => k1 (ro tl env x) (fldD g n off) mem nx K
  | .ia k x i => k2 (ro tl env x) (ro tl env i) (iaD mem k) mem nx K
  | .ext i x => k1 (ro tl env x) (extD i) mem nx K
  | .iaa len k x i => k2 (ro tl env x) (ro tl env i) (iaaD mem len k) mem nx K
  | .ixs x i => k2 (ro tl env x) (ro tl env i) ixsD mem nx K
  | .lk kd z two m k => k2 (ro tl env m) (ro tl env k) (lkD mem kd z two) mem nx K
  | .lnm x => k1 (ro tl env x) (lnmD mem) mem nx K
  | .mkm => K (.omap id) ((id, .map []) :: mem) nx
  | .cvo x => km (cvoM mem (ro tl env x)) nx K
  | .mup kd m k v => km (mupM mem kd (ro tl env m) (ro tl env k) (ro tl env v)) nx K
  | .len s x => k1 (ro tl env x) (lenD mem s) mem nx K
  | .bi b xs => kl (ros tl env xs) (biD C.P b) mem nx K
  | .sls s k x lo hi => k0 (slsO mem s k (ro tl env x) (roo tl env lo) (roo tl env hi)) mem nx K
  | .mkf f caps => kl (ros tl env caps) (mkfD f) mem nx K
  | .bxi x => k1 (ro tl env x) bxiD mem nx K
  | .mki _ bytes z n => k1 (ro tl env n) (mkiD bytes z) mem nx K
  | .pc f xs => pcK C.P (ro tl env f) (ros tl env xs) mem nx K
  | .al z => K (.opt id 0) ((id, .box (z.map .pl)) :: mem) nx
  | .bx x => km (bxM id mem (ro tl env x)) nx K
  | .bso k len z ps => km (bsoM id mem k len z (rps tl env ps)) nx K
  | .mks k bytes z n => km (mksM id mem k bytes z (ro tl env n)) nx K
  | .apn k bytes _ x y => km (apnM id mem k bytes (ro tl env x) (ro tl env y)) nx K
  | .st n a x => km (stM mem n (ro tl env a) (ro tl env x)) nx K
  | .sta n a x ps => km (staM mem n (ro tl env a) (ro tl env x) (ros tl env ps)) nx K
  | .app k bytes _ x y => km (appM id mem k bytes (ro tl env x) (ro tl env y)) nx K
  | .cl f xs => clK C.P (ro tl env f) (ros tl env xs) mem nx K
  | .cln f xs => clK C.P (ro tl env f) (ros tl env xs) mem nx fun d m n => memKeeps mem m ∧ K d m n
  | .ldp g n x => k1 (ro tl env x) (ldpD g n) mem nx K
  | .fap off x => k1 (ro tl env x) (fapD off) mem nx K

/-- What follows an operation: its result is laid down, the next ones are run. -/
def nextK (d : Dst) (env tl : Env) (go : Env → Env → Mem → Nat → Prop) : KD :=
  fun v mem nx => put d v env tl fun env tl => go env tl mem nx

def setT (b : Bool) (tl : Env) : Opd → Env
  | .t j => upd tl j (.pl (.bool b))
  | _ => tl
def setE (b : Bool) (env : Env) : Opd → Env
  | .g j => upd env j (.pl (.bool b))
  | _ => env

/-- A guarded operation: by cases of its guard, which is known from then on. -/
def gd (C : Cfg) (o : Option D) (g : Opd) (want : Bool) (d : Dst) (id : Nat) (i : I) (env tl : Env) (mem : Mem) (nx : Nat) (go : Env → Env → Mem → Nat → Prop) : Prop :=
  match o with
  | some (.pl (.bool b)) =>
    (b = want → stepI C id i (setE want env g) (setT want tl g) mem nx (nextK d (setE want env g) (setT want tl g) go)) ∧
    (b = (!want) → nextK d (setE (!want) env g) (setT (!want) tl g) go (.pl undef) mem nx)
  | some (.pl (.tuple _)) => nextK d env tl go (.pl undef) mem nx
  | _ => False

def run (C : Cfg) (base : Nat) (K : Env → Env → Mem → Nat → Prop) : List Ins → Nat → Env → Env → Mem → Nat → Prop
  | [], _, env, tl, mem, nx => K env tl mem nx
  | ⟨d, none, i⟩ :: r, j, env, tl, mem, nx => stepI C (base + j) i env tl mem nx (nextK d env tl (run C base K r (j + 1)))
  | ⟨d, some (g, want), i⟩ :: r, j, env, tl, mem, nx => gd C (ro tl env g) g want d (base + j) i env tl mem nx (run C base K r (j + 1))

def TA (C : Cfg) (c : AC) (Q : Exit → St → Prop) (s : St) : Prop := ∀ code, C.comp code = some c → T C code Q s

def regK (Q : Exit → St → Prop) : Env → Env → Mem → Nat → Prop := fun env _ mem nx => Q .normal ⟨env, [], mem, nx⟩

def ifb (o : Option D) (p q : Env → Mem → Nat → Prop) (env : Env) (mem : Mem) (nx : Nat) : Prop :=
  match o with
  | some (.pl (.bool b)) => (b = true → p env mem nx) ∧ (b = false → q env mem nx)
  | _ => False

def ifK (c : Opd) (x y : Env → Mem → Nat → Prop) : Env → Env → Mem → Nat → Prop := fun env tl mem nx => ifb (ro tl env c) x y env mem nx

def A (C : Cfg) : AC → (Exit → St → Prop) → Env → Mem → Nat → Prop
  | .skip, Q, env, mem, nx => Q .normal ⟨env, [], mem, nx⟩
  | .reg is, Q, env, mem, nx => run C nx (regK Q) is 0 env [] mem (nx + is.length)
  | .ifr is c x y, Q, env, mem, nx => run C nx (ifK c (A C x Q) (A C y Q)) is 0 env [] mem (nx + is.length)
  | .seq x y, Q, env, mem, nx => A C x (thenQ (fun s => A C y Q s.env s.mem s.nx) Q) env mem nx
  | .cond c x y, Q, env, mem, nx => ifK c (A C x Q) (A C y Q) env [] mem nx
  | .block id x, Q, env, mem, nx => A C x (blockQ id Q) env mem nx
  | .loop x, Q, env, mem, nx => TA C (.loop x) Q ⟨env, [], mem, nx⟩
  | .scope x, Q, env, mem, nx => TA C (.scope x) Q ⟨env, [], mem, nx⟩
  | .rfn g ps x y, Q, env, mem, nx => TA C (.rfn g ps x y) Q ⟨env, [], mem, nx⟩
  | .exit id, Q, env, mem, nx => Q (.exit id) ⟨env, [], mem, nx⟩
  | .label _, Q, env, mem, nx => Q .normal ⟨env, [], mem, nx⟩
  | .goto l, Q, env, mem, nx => Q (.goto l) ⟨env, [], mem, nx⟩
  | .ret, Q, env, mem, nx => Q .ret ⟨env, [], mem, nx⟩

/-! ### The same as rewrite rules: what follows is kept on a list, so that nothing is run before its turn -/
inductive Fr where
  | seq (y : AC)
  | block (id : Nat)

def Kont (C : Cfg) (Q : Exit → St → Prop) : List Fr → Exit → St → Prop
  | [], e, s => Q e s
  | .seq y :: k, e, s => thenQ (fun s => A C y (Kont C Q k) s.env s.mem s.nx) (Kont C Q k) e s
  | .block id :: k, e, s => blockQ id (Kont C Q k) e s

section
variable {C : Cfg} {Q : Exit → St → Prop} {k : List Fr} {x y : AC} {env tl : Env} {mem : Mem} {nx : Nat}
theorem A_seq : A C (.seq x y) (Kont C Q k) env mem nx = A C x (Kont C Q (.seq y :: k)) env mem nx := (rfl)
theorem A_block {id : Nat} : A C (.block id x) (Kont C Q k) env mem nx = A C x (Kont C Q (.block id :: k)) env mem nx := (rfl)
theorem A_skip {Q : Exit → St → Prop} : A C .skip Q env mem nx = Q .normal ⟨env, [], mem, nx⟩ := (rfl)
theorem A_ret {Q : Exit → St → Prop} : A C .ret Q env mem nx = Q .ret ⟨env, [], mem, nx⟩ := (rfl)
theorem A_exit {Q : Exit → St → Prop} {id : Nat} : A C (.exit id) Q env mem nx = Q (.exit id) ⟨env, [], mem, nx⟩ := (rfl)
theorem A_label {Q : Exit → St → Prop} {id : Nat} : A C (.label id) Q env mem nx = Q .normal ⟨env, [], mem, nx⟩ := (rfl)
theorem A_goto {Q : Exit → St → Prop} {id : Nat} : A C (.goto id) Q env mem nx = Q (.goto id) ⟨env, [], mem, nx⟩ := (rfl)
theorem A_loop {Q : Exit → St → Prop} : A C (.loop x) Q env mem nx = TA C (.loop x) Q ⟨env, [], mem, nx⟩ := (rfl)
theorem A_rfn {Q : Exit → St → Prop} {g : Opd} {ps : List Nat} : A C (.rfn g ps x y) Q env mem nx = TA C (.rfn g ps x y) Q ⟨env, [], mem, nx⟩ := (rfl)
theorem A_scope {Q : Exit → St → Prop} : A C (.scope x) Q env mem nx = TA C (.scope x) Q ⟨env, [], mem, nx⟩ := (rfl)
theorem A_reg {Q : Exit → St → Prop} {is : List Ins} : A C (.reg is) Q env mem nx = run C nx (regK Q) is 0 env [] mem (nx + is.length) := (rfl)
theorem A_ifr {Q : Exit → St → Prop} {is : List Ins} {c : Opd} : A C (.ifr is c x y) Q env mem nx = run C nx (ifK c (A C x Q) (A C y Q)) is 0 env [] mem (nx + is.length) := (rfl)
theorem A_cond {Q : Exit → St → Prop} {c : Opd} : A C (.cond c x y) Q env mem nx = ifK c (A C x Q) (A C y Q) env [] mem nx := (rfl)
theorem Kont_nil {e : Exit} {s : St} : Kont C Q [] e s = Q e s := (rfl)
theorem Kont_seq {s : St} : Kont C Q (.seq y :: k) .normal s = A C y (Kont C Q k) s.env s.mem s.nx := (rfl)
theorem Kont_seq_ret {s : St} : Kont C Q (.seq y :: k) .ret s = Kont C Q k .ret s := (rfl)
theorem Kont_seq_exit {s : St} {id : Nat} : Kont C Q (.seq y :: k) (.exit id) s = Kont C Q k (.exit id) s := (rfl)
theorem Kont_seq_goto {s : St} {id : Nat} : Kont C Q (.seq y :: k) (.goto id) s = Kont C Q k (.goto id) s := (rfl)
theorem Kont_block {s : St} {id : Nat} : Kont C Q (.block id :: k) .normal s = Kont C Q k .normal s := (rfl)
theorem Kont_block_ret {s : St} {id : Nat} : Kont C Q (.block id :: k) .ret s = Kont C Q k .ret s := (rfl)
theorem Kont_block_goto {s : St} {id l : Nat} : Kont C Q (.block id :: k) (.goto l) s = Kont C Q k (.goto l) s := (rfl)
theorem Kont_block_exit {s : St} {id j : Nat} : Kont C Q (.block id :: k) (.exit j) s = if j = id then Kont C Q k .normal s else Kont C Q k (.exit j) s := (rfl)
theorem ifK_at {c : Opd} {p q : Env → Mem → Nat → Prop} : ifK c p q env tl mem nx = ifb (ro tl env c) p q env mem nx := (rfl)
theorem ifb_true {p q : Env → Mem → Nat → Prop} : ifb (some (.pl (.bool true))) p q env mem nx = p env mem nx := by simp [ifb]
theorem ifb_false {p q : Env → Mem → Nat → Prop} : ifb (some (.pl (.bool false))) p q env mem nx = q env mem nx := by simp [ifb]
theorem ifb_any {b : Bool} {p q : Env → Mem → Nat → Prop} : ifb (some (.pl (.bool b))) p q env mem nx = ((b = true → p env mem nx) ∧ (b = false → q env mem nx)) := (rfl)
theorem regK_at {Q : Exit → St → Prop} : regK Q env tl mem nx = Q .normal ⟨env, [], mem, nx⟩ := (rfl)
theorem nextK_no {go : Env → Env → Mem → Nat → Prop} {v : D} : nextK .no env tl go v mem nx = go env tl mem nx := (rfl)
theorem nextK_t {go : Env → Env → Mem → Nat → Prop} {v : D} {j : Nat} : nextK (.t j) env tl go v mem nx = go env ((j, v) :: tl) mem nx := (rfl)
theorem nextK_g {go : Env → Env → Mem → Nat → Prop} {v : D} {j : Nat} : nextK (.g j) env tl go v mem nx = go (upd env j v) tl mem nx := (rfl)
theorem run_nil {base j : Nat} {K : Env → Env → Mem → Nat → Prop} : run C base K [] j env tl mem nx = K env tl mem nx := (rfl)
theorem run_cons {base j : Nat} {K : Env → Env → Mem → Nat → Prop} {d : Dst} {i : I} {r : List Ins} : run C base K (⟨d, none, i⟩ :: r) j env tl mem nx =
  stepI C (base + j) i env tl mem nx (nextK d env tl (run C base K r (j + 1))) := (rfl)
theorem run_guard {base j : Nat} {K : Env → Env → Mem → Nat → Prop} {d : Dst} {i : I} {r : List Ins} {g : Opd} {want : Bool} : run C base K (⟨d, some (g, want), i⟩ :: r) j env tl mem nx =
  gd C (ro tl env g) g want d (base + j) i env tl mem nx (run C base K r (j + 1)) := (rfl)
theorem gd_yes {g : Opd} {want : Bool} {d : Dst} {id : Nat} {i : I} {go : Env → Env → Mem → Nat → Prop} : gd C (some (.pl (.bool want))) g want d id i env tl mem nx go =
    stepI C id i (setE want env g) (setT want tl g) mem nx (nextK d (setE want env g) (setT want tl g) go) := by simp [gd]
theorem gd_undef {g : Opd} {want : Bool} {d : Dst} {id : Nat} {i : I} {go : Env → Env → Mem → Nat → Prop} : gd C (some (.pl undef)) g want d id i env tl mem nx go =
    nextK d env tl go (.pl undef) mem nx := (rfl)
theorem gd_tf {g : Opd} {d : Dst} {id : Nat} {i : I} {go : Env → Env → Mem → Nat → Prop} : gd C (some (.pl (.bool true))) g false d id i env tl mem nx go =
    nextK d (setE true env g) (setT true tl g) go (.pl undef) mem nx := by simp [gd]
theorem gd_ft {g : Opd} {d : Dst} {id : Nat} {i : I} {go : Env → Env → Mem → Nat → Prop} : gd C (some (.pl (.bool false))) g true d id i env tl mem nx go =
    nextK d (setE false env g) (setT false tl g) go (.pl undef) mem nx := by simp [gd]
theorem gd_any {g : Opd} {b want : Bool} {d : Dst} {id : Nat} {i : I} {go : Env → Env → Mem → Nat → Prop} : gd C (some (.pl (.bool b))) g want d id i env tl mem nx go =
    ((b = want → stepI C id i (setE want env g) (setT want tl g) mem nx (nextK d (setE want env g) (setT want tl g) go)) ∧
    (b = (!want) → nextK d (setE (!want) env g) (setT (!want) tl g) go (.pl undef) mem nx)) := (rfl)
theorem setT_t {b : Bool} {j : Nat} : setT b tl (.t j) = upd tl j (.pl (.bool b)) := (rfl)
theorem setT_g {b : Bool} {j : Nat} : setT b tl (.g j) = tl := (rfl)
theorem setE_t {b : Bool} {j : Nat} : setE b env (.t j) = env := (rfl)
theorem setE_g {b : Bool} {j : Nat} : setE b env (.g j) = upd env j (.pl (.bool b)) := (rfl)
theorem k0_some {K : KD} (d : D) : k0 (some d) mem nx K = K d mem nx := (rfl)
theorem k0_if {K : KD} (p : Prop) [Decidable p] (d : D) : k0 (if p then some d else none) mem nx K = (p ∧ K d mem nx) := by by_cases h : p <;> simp [h, k0]
theorem k1_some {K : KD} {g : D → Option D} (d : D) : k1 (some d) g mem nx K = k0 (g d) mem nx K := (rfl)
theorem k2_some {K : KD} {g : D → D → Option D} (d e : D) : k2 (some d) (some e) g mem nx K = k0 (g d e) mem nx K := (rfl)
theorem kl_some {α : Type} {K : KD} {g : α → Option D} (d : α) : kl (some d) g mem nx K = k0 (g d) mem nx K := (rfl)
theorem km_some {K : KD} (d : D) (m : Mem) : km (some (d, m)) nx K = K d m nx := (rfl)
theorem km_if {K : KD} (p : Prop) [Decidable p] (d : D) (m : Mem) : km (if p then some (d, m) else none) nx K = (p ∧ K d m nx) := by by_cases h : p <;> simp [h, km]
theorem pcK_some {P : Program} {K : KD} (f : FuncId) (caps xs : List D) : pcK P (some (.fn f caps)) (some xs) mem nx K = pcK P (some (.fn f [])) (some (xs ++ caps)) mem nx K := by simp [pcK]
theorem look_cons {α : Type} (i j : Nat) (d : α) (e : List (Nat × α)) : look ((i, d) :: e) j = if i = j then some d else look e j := (rfl)
theorem look_nil {α : Type} (j : Nat) : look ([] : List (Nat × α)) j = none := (rfl)
theorem upd_cons {α : Type} (i j : Nat) (d x : α) (e : List (Nat × α)) : upd ((i, x) :: e) j d = if i = j then (i, d) :: e else (i, x) :: upd e j d := (rfl)
theorem ro_t {j : Nat} : ro tl env (.t j) = look tl j := (rfl)
theorem ro_g {j : Nat} : ro tl env (.g j) = look env j := (rfl)
theorem ro_c {v : Value} : ro tl env (.c v) = some (.pl v) := (rfl)
theorem ro_f {v : Nat} : ro tl env (.f v) = some (.fn v []) := (rfl)
end
end Go.Fx

/-
  One operation of the model's is what it is on deep values: operations that change no owned block.
-/

set_option linter.all false
namespace Go.Fx
open Go

structure Known (C : Cfg) (w : World) (S : Nat → Prop) (φ : Locs) (env tl : Env) (a : Act) : Prop where
  env : ∀ j d, j ∈ C.gs → look env j = some d → Rep w S φ d (a.tmps.getD j undef)
  tl : ∀ j d, j ∉ C.gs → look tl j = some d → Rep w S φ d (a.tmps.getD j undef)

def Out (S : Nat → Prop) (φ : Locs) (mem : Mem) (nx : Nat) (w : World) (id : Nat) (K : KD) (x : Value) (w' : World) : Prop :=
  ∃ v mem' nx' S' φ', K v mem' nx' ∧ nx ≤ nx' ∧ Rep w' S' φ' v x ∧ MSim S' φ' mem' nx' w' ∧ Stays w S φ w' S' φ' ∧ Ext S φ mem w S' φ' mem' w' ∧ ∀ i, i ≠ id → i < nx → φ i = none → φ' i = none

/-- An operation comes to a value. -/
def Does (P : Program) (o : Oper) (a : Act) (w : World) (R : Value → World → Prop) : Prop :=
  o.wp P a w (fun a' w' => ∃ x, a' = a.put o.dst x ∧ R x w') (fun _ _ _ => False)

theorem Stays.refl (w : World) (S : Nat → Prop) (φ : Locs) : Stays w S φ w S φ := ⟨fun _ h => h, fun _ _ _ => rfl, fun _ l h => ⟨l, h, .inl rfl⟩⟩

theorem Stays.trans {w w1 w2 : World} {S S1 S2 : Nat → Prop} {φ φ1 φ2 : Locs} (h : Stays w S φ w1 S1 φ1) (k : Stays w1 S1 φ1 w2 S2 φ2) : Stays w S φ w2 S2 φ2 where
  sub b hb := k.sub b (h.sub b hb)
  cell b hb o := (k.cell b (h.sub b hb) o).trans (h.cell b hb o)
  loc id l hl := by
    obtain ⟨l1, h1, e1⟩ := h.loc id l hl
    obtain ⟨l2, h2, e2⟩ := k.loc id l1 h1
    refine ⟨l2, h2, ?_⟩
    rcases e1 with rfl | ⟨a1, b1, e1⟩ <;> rcases e2 with rfl | ⟨a2, b2, e2⟩
    · exact .inl rfl
    · exact .inr ⟨a2, b2, e2⟩
    · exact .inr ⟨a1, b1, e1⟩
    · exact .inr ⟨a1, b2, by omega⟩

section
variable {C : Cfg} {w : World} {S : Nat → Prop} {φ : Locs} {a : Act} {env tl : Env} {mem : Mem} {nx id : Nat} {K : KD}

theorem out_same {v : D} {x : Value} (hm : MSim S φ mem nx w) (hk : K v mem nx) (hr : Rep w S φ v x) : Out S φ mem nx w id K x w :=
  ⟨v, mem, nx, S, φ, hk, Nat.le_refl _, hr, hm, Stays.refl .., Ext.refl .., fun _ _ _ h => h⟩

theorem does_value {P : Program} {o : Oper} {x : Value} {w' : World} {R : Value → World → Prop} (h : (execOp a.eval o).run P w = .ok (.value x) w') (hr : R x w') : Does P o a w R := by
  unfold Does Oper.wp
  rw [h]
  exact ⟨x, rfl, hr⟩

theorem does_skip {P : Program} {o : Oper} {w' : World} {R : Value → World → Prop} (h : (execOp a.eval o).run P w = .ok .skip w') (hr : R undef w') : Does P o a w R := by
  unfold Does Oper.wp
  rw [h]
  exact ⟨undef, rfl, hr⟩

theorem ro_sound (hk : Known C w S φ env tl a) {x : Operand} {y : Opd} (h : C.opd x = some y) {d : D} (hd : ro tl env y = some d) : Rep w S φ d (a.eval x) := by
  cases x with
  | tmp t =>
    simp only [Cfg.opd, Option.some.injEq] at h
    subst h
    by_cases ht : t ∈ C.gs
    · have : C.gs.contains t = true := by simpa using ht
      simp only [this, if_true, ro] at hd
      exact hk.env t d ht hd
    · have : C.gs.contains t = false := by simpa using ht
      simp only [this, Bool.false_eq_true, if_false, ro] at hd
      exact hk.tl t d ht hd
  | const v =>
    simp only [Cfg.opd, Option.some.injEq] at h
    subst h
    simp only [ro, Option.some.injEq] at hd
    subst hd
    simp [Rep, Act.eval]
  | global g => simp [Cfg.opd] at h
  | func f =>
    simp only [Cfg.opd, Option.some.injEq] at h
    subst h
    simp only [ro, Option.some.injEq] at hd
    subst hd
    simp only [Rep, Act.eval]
    exact ⟨#[], rfl, by simp [RepVs]⟩

theorem look_run {P : Program} {α : Type} {s : Sem α} {x : α} (h : Sem.look P s = some x) (w : World) : s.run P w = .ok x w := by
  induction s with
  | pure a => simp only [Sem.look, Option.some.injEq] at h; subst h; rfl
  | program k ih => simp only [Sem.look] at h; simp only [Sem.run]; exact ih P h
  | _ => simp [Sem.look] at h

theorem k0_out {o : Option D} (h : k0 o mem nx K) : ∃ d, o = some d ∧ K d mem nx := by
  cases o with
  | none => exact h.elim
  | some d => exact ⟨d, rfl, h⟩
theorem k1_out {o : Option D} {g : D → Option D} (h : k1 o g mem nx K) : ∃ x d, o = some x ∧ g x = some d ∧ K d mem nx := by
  cases o with
  | none => exact h.elim
  | some x => obtain ⟨d, h1, h2⟩ := k0_out h; exact ⟨x, d, rfl, h1, h2⟩
theorem k2_out {o p : Option D} {g : D → D → Option D} (h : k2 o p g mem nx K) : ∃ x y d, o = some x ∧ p = some y ∧ g x y = some d ∧ K d mem nx := by
  cases o with
  | none => exact h.elim
  | some x => cases p with
    | none => exact h.elim
    | some y => obtain ⟨d, h1, h2⟩ := k0_out h; exact ⟨x, y, d, rfl, rfl, h1, h2⟩
theorem kl_out {α : Type} {o : Option α} {g : α → Option D} (h : kl o g mem nx K) : ∃ x d, o = some x ∧ g x = some d ∧ K d mem nx := by
  cases o with
  | none => exact h.elim
  | some x => obtain ⟨d, h1, h2⟩ := k0_out h; exact ⟨x, d, rfl, h1, h2⟩
theorem km_out {o : Option (D × Mem)} (h : km o nx K) : ∃ d m, o = some (d, m) ∧ K d m nx := by
  cases o with
  | none => exact h.elim
  | some x => obtain ⟨d, m⟩ := x; exact ⟨d, m, rfl, h⟩

/-! #### Plain values -/
theorem eqGuard_lit {op : BinOp} {ty : TypeId} {x y : Operand} {u v : Value} (hu : lit u = true) (P : Program) (w : World) : (eqGuard op ty x y u v).run P w = .ok () w := by
  cases u <;> first | (simp [lit] at hu; done) | (cases op <;> rfl)

theorem valsRep : ∀ (ds : List D) (vs xs : List Value), D.vals ds = some vs → RepVs w S φ ds xs → xs = vs
  | [], vs, xs, h, hr => by
    simp only [D.vals, Option.some.injEq] at h; subst h
    simpa [RepVs] using hr
  | d :: ds, vs, xs, h, hr => by
    simp only [D.vals] at h
    cases hd : D.val d with
    | none => simp [hd] at h
    | some v =>
      cases hs : D.vals ds with
      | none => simp [hd, hs] at h
      | some us =>
        simp only [hd, hs, Option.some.injEq] at h; subst h
        simp only [RepVs] at hr
        obtain ⟨x, r, rfl, h1, h2⟩ := hr
        rw [valsRep ds us r hs h2]
        have : x = v := by
          cases d with
          | pl u => simp only [D.val, Option.some.injEq] at hd; simp only [Rep] at h1; rw [h1, hd]
          | fn f caps =>
            cases caps with
            | nil =>
              simp only [D.val, Option.some.injEq] at hd; subst hd
              simp only [Rep, RepVs] at h1
              obtain ⟨us', rfl, hn⟩ := h1
              have : us' = #[] := by simpa using hn
              rw [this]
            | cons _ _ => simp [D.val] at hd
          | _ => simp [D.val] at hd
        rw [this]

theorem ptr_nil {op : BinOp} {ty : TypeId} {d : D} {X Y : Operand} {p : Addr} (h : (match op, C.P.underlying ty with
    | .eql, some (.pointer _) => some (D.pl (.bool false))
    | .neq, some (.pointer _) => some (D.pl (.bool true))
    | _, _ => none) = some d) :
    ∃ r, Rep w S φ d r ∧ (do eqGuard op ty X Y (.pointer (some p)) (.pointer none); binOp op ty (.pointer (some p)) (.pointer none) : Sem Value).run C.P w = .ok r w := by
  have hg : (eqGuard op ty X Y (.pointer (some p)) (.pointer none)).run C.P w = .ok () w := by unfold eqGuard; cases op <;> rfl
  have heq : ∀ e, C.P.underlying ty = some (.pointer e) → (Op.equal ty (.pointer (some p)) (.pointer none)).run C.P w = .ok false w := by
    intro e he
    unfold Op.equal Op.maxDepth Op.equalIn
    simp [Sem.run_bind, run_underlying he]
  split at h
  · rename_i e he
    simp only [Option.some.injEq] at h; subst h
    exact ⟨.bool false, by simp [Rep], by simp [hg, binOp, heq e he]⟩
  · rename_i e he
    simp only [Option.some.injEq] at h; subst h
    exact ⟨.bool true, by simp [Rep], by simp [hg, binOp, heq e he]⟩
  · simp at h

theorem slice_nil {op : BinOp} {ty : TypeId} {d : D} {X Y : Operand} {p : Addr} {n c n2 c2 : Nat} (h : nilS C.P op ty = some d) :
    ∃ r, Rep w S φ d r ∧ (do eqGuard op ty X Y (.slice (some p) n c) (.slice none n2 c2); binOp op ty (.slice (some p) n c) (.slice none n2 c2) : Sem Value).run C.P w = .ok r w := by
  unfold nilS at h
  have hg : (eqGuard op ty X Y (.slice (some p) n c) (.slice none n2 c2)).run C.P w = .ok () w := by unfold eqGuard; cases op <;> rfl
  have heq : ∀ e, C.P.underlying ty = some (.slice e) → (Op.equal ty (.slice (some p) n c) (.slice none n2 c2)).run C.P w = .ok false w := by
    intro e he
    unfold Op.equal Op.maxDepth Op.equalIn
    simp [Sem.run_bind, run_underlying he]
  split at h
  · rename_i e he
    simp only [Option.some.injEq] at h; subst h
    exact ⟨.bool false, by simp [Rep], by simp [hg, binOp, heq e he]⟩
  · rename_i e he
    simp only [Option.some.injEq] at h; subst h
    exact ⟨.bool true, by simp [Rep], by simp [hg, binOp, heq e he]⟩
  · simp at h

theorem bin_sound {op : BinOp} {ty : TypeId} {x y d : D} {X Y : Operand} {u v : Value} (h : binD C.P op ty x y = some d) (hx : Rep w S φ x u) (hy : Rep w S φ y v) :
    ∃ r, Rep w S φ d r ∧ (do eqGuard op ty X Y u v; binOp op ty u v : Sem Value).run C.P w = .ok r w := by
  unfold binD at h
  split at h
  · rename_i p q
    simp only [Rep] at hx hy
    subst hx hy
    split at h
    · rename_i hl
      simp only [Bool.and_eq_true] at hl
      cases hb : Sem.look C.P (binOp op ty u v) with
      | none => simp [hb] at h
      | some r =>
        simp only [hb, Option.map_some, Option.some.injEq] at h
        subst h
        exact ⟨r, by simp [Rep], by simp [eqGuard_lit hl.1, look_run hb]⟩
    · split at h
      · exact slice_nil h
      · simp at h
  · simp only [Rep] at hx hy
    subst hy
    rcases hx with ⟨h0, _⟩ | ⟨b, o, cap, k, rfl, _⟩
    · simp at h0
    · exact slice_nil h
  · rename_i xs ys
    simp only [Rep] at hx hy
    obtain ⟨us, rfl, hus⟩ := hx
    obtain ⟨vs, rfl, hvs⟩ := hy
    split at h
    · rename_i p q hp hq
      have e1 := valsRep _ _ _ hp hus
      have e2 := valsRep _ _ _ hq hvs
      have e1' : us = p.toArray := by rw [← e1]
      have e2' : vs = q.toArray := by rw [← e2]
      subst e1' e2'
      cases hb : Sem.look C.P (do eqGuard op ty (.tmp 0) (.tmp 0) (.agg p.toArray) (.agg q.toArray); binOp op ty (.agg p.toArray) (.agg q.toArray)) with
      | none => simp [hb] at h
      | some r =>
        simp only [hb, Option.map_some, Option.some.injEq] at h
        subst h
        exact ⟨r, by simp [Rep], look_run hb w⟩
    · simp at h
  · rename_i cs
    simp only [Rep] at hx hy
    obtain ⟨b, o, rfl, _, _⟩ := hx
    subst hy
    exact ptr_nil h
  · rename_i id off
    simp only [Rep] at hx hy
    obtain ⟨l, _, _, rfl⟩ := hx
    subst hy
    exact ptr_nil h
  · simp at h

theorem tsz_out {P : Program} {t : TypeId} {g : Bool} {n : Nat} (h : Program.tsz P t = some (g, n)) : ∃ d i, P.underlying t = some d ∧ P.info? t = some i ∧ i.size = n ∧ g = d.isRow := by
  unfold Program.tsz at h
  split at h
  · rename_i d i h1 h2
    simp only [Option.some.injEq, Prod.mk.injEq] at h
    exact ⟨d, i, h1, h2, h.2, h.1.symm⟩
  · simp at h

theorem run_isAgg {P : Program} {t : TypeId} {d : TypeDesc} (h : P.underlying t = some d) (w : World) : (isAgg t).run P w = .ok d.isRow w := by
  unfold isAgg
  rw [Sem.run_bind, run_underlying h w]
  cases d <;> rfl

theorem run_sizeOf {P : Program} {t : TypeId} {i : TypeInfo} (h : P.info? t = some i) (w : World) : (sizeOf t).run P w = .ok i.size w := by
  simp [sizeOf, typeInfo, h]

/-! #### Cells -/
theorem RepCs_vals : ∀ (cs : List D) (b o : Nat), RepCs w S φ cs b o → ∃ vs : List Value, vs.length = cs.length ∧ w.rangeAt b o vs ∧ RepVs w S φ cs vs
  | [], b, o, _ => ⟨[], rfl, fun j v hv => by simp at hv, by simp [RepVs]⟩
  | d :: ds, b, o, h => by
    simp only [RepCs] at h
    obtain ⟨⟨x, hx, hd⟩, hr⟩ := h
    obtain ⟨vs, hl, hg, hv⟩ := RepCs_vals ds b (o + 1) hr
    refine ⟨x :: vs, by simp [hl], ?_, by simp only [RepVs]; exact ⟨x, vs, rfl, hd, hv⟩⟩
    intro j v hj
    cases j with
    | zero => simp only [List.getElem?_cons_zero, Option.some.injEq] at hj; subst hj; exact hx
    | succ j =>
      simp only [List.getElem?_cons_succ] at hj
      have := hg j v hj
      rw [show o + (j + 1) = o + 1 + j by omega]
      exact this

theorem RepCs_of_vals : ∀ (cs : List D) (vs : List Value) (b o : Nat), RepVs w S φ cs vs → w.rangeAt b o vs → RepCs w S φ cs b o
  | [], vs, b, o, _, _ => by simp [RepCs]
  | d :: ds, vs, b, o, h, hg => by
    simp only [RepVs] at h
    obtain ⟨x, r, rfl, h1, h2⟩ := h
    simp only [RepCs]
    refine ⟨⟨x, hg 0 x rfl, h1⟩, RepCs_of_vals ds r b (o + 1) h2 fun j v hj => ?_⟩
    have := hg (j + 1) v (by simpa using hj)
    rw [show o + (j + 1) = o + 1 + j by omega] at this
    exact this

theorem RepCs_drop : ∀ (k : Nat) (cs : List D) (b o : Nat), RepCs w S φ cs b o → RepCs w S φ (cs.drop k) b (o + k)
  | 0, cs, b, o, h => by simpa using h
  | k + 1, [], b, o, h => by simp [RepCs]
  | k + 1, d :: ds, b, o, h => by
    simp only [RepCs] at h
    rw [List.drop_succ_cons, show o + (k + 1) = o + 1 + k by omega]
    exact RepCs_drop k ds b (o + 1) h.2

theorem RepCs_take : ∀ (k : Nat) (cs : List D) (b o : Nat), RepCs w S φ cs b o → RepCs w S φ (cs.take k) b o
  | 0, cs, b, o, h => by simp [RepCs]
  | k + 1, [], b, o, h => by simp [RepCs]
  | k + 1, d :: ds, b, o, h => by
    simp only [RepCs, List.take_succ_cons] at h ⊢
    exact ⟨h.1, RepCs_take k ds b (o + 1) h.2⟩

theorem RepCs_append : ∀ (cs ds : List D) (b o : Nat), RepCs w S φ cs b o → RepCs w S φ ds b (o + cs.length) → RepCs w S φ (cs ++ ds) b o
  | [], ds, b, o, _, h => by simpa using h
  | c :: cs, ds, b, o, h, k => by
    simp only [RepCs, List.cons_append] at h ⊢
    refine ⟨h.1, RepCs_append cs ds b (o + 1) h.2 ?_⟩
    rw [show o + 1 + cs.length = o + (c :: cs).length by simp; omega]
    exact k

theorem RepEs_get : ∀ (es : List (List D)) (k b o i : Nat) (e : List D), RepEs w S φ es k b o → es[i]? = some e → e.length = k ∧ RepCs w S φ e b (o + i * k)
  | [], k, b, o, i, e, _, h => by simp at h
  | x :: es, k, b, o, 0, e, h, he => by
    simp only [List.getElem?_cons_zero, Option.some.injEq] at he; subst he
    simp only [RepEs] at h
    exact ⟨h.1, by simpa using h.2.1⟩
  | x :: es, k, b, o, i + 1, e, h, he => by
    simp only [List.getElem?_cons_succ] at he
    simp only [RepEs] at h
    have := RepEs_get es k b (o + k) i e h.2.2 he
    rw [show o + (i + 1) * k = o + k + i * k by rw [Nat.succ_mul]; omega]
    exact this

theorem RepEs_drop : ∀ (i : Nat) (es : List (List D)) (k b o : Nat), RepEs w S φ es k b o → RepEs w S φ (es.drop i) k b (o + i * k)
  | 0, es, k, b, o, h => by simpa using h
  | i + 1, [], k, b, o, h => by simp [RepEs]
  | i + 1, e :: es, k, b, o, h => by
    simp only [RepEs] at h
    rw [List.drop_succ_cons, show o + (i + 1) * k = o + k + i * k by rw [Nat.succ_mul]; omega]
    exact RepEs_drop i es k b (o + k) h.2.2

theorem RepEs_take : ∀ (i : Nat) (es : List (List D)) (k b o : Nat), RepEs w S φ es k b o → RepEs w S φ (es.take i) k b o
  | 0, es, k, b, o, h => by simp [RepEs]
  | i + 1, [], k, b, o, h => by simp [RepEs]
  | i + 1, e :: es, k, b, o, h => by
    simp only [RepEs, List.take_succ_cons] at h ⊢
    exact ⟨h.1, h.2.1, RepEs_take i es k b (o + k) h.2.2⟩

theorem RepEs_append : ∀ (es fs : List (List D)) (k b o : Nat), RepEs w S φ es k b o → RepEs w S φ fs k b (o + es.length * k) → RepEs w S φ (es ++ fs) k b o
  | [], fs, k, b, o, _, h => by simpa using h
  | e :: es, fs, k, b, o, h, g => by
    simp only [RepEs, List.cons_append] at h ⊢
    refine ⟨h.1, h.2.1, RepEs_append es fs k b (o + k) h.2.2 ?_⟩
    rw [show o + k + es.length * k = o + (e :: es).length * k by simp [Nat.succ_mul]; omega]
    exact g

/-- What is read at an address. -/
theorem rdc_sound {n : Nat} {x : D} {cs : List D} {v : Value} (h : rdc mem n x = some cs) (hm : MSim S φ mem nx w) (hx : Rep w S φ x v) :
    cs.length = n ∧ ∃ b o, v = .pointer (some ⟨b, o, none⟩) ∧ RepCs w S φ cs b o := by
  cases x with
  | pt ds =>
    simp only [rdc, Option.ite_none_right_eq_some, Option.some.injEq] at h
    obtain ⟨hn, rfl⟩ := h
    simp only [Rep] at hx
    obtain ⟨b, o, rfl, _, hc⟩ := hx
    exact ⟨by simp; omega, b, o, rfl, RepCs_take n ds b o hc⟩
  | opt i off =>
    simp only [rdc] at h
    split at h
    · rename_i ds hl
      simp only [Option.ite_none_right_eq_some, Option.some.injEq] at h
      obtain ⟨hn, rfl⟩ := h
      obtain ⟨l, hφ, _, hb⟩ := hm.mem i _ hl
      simp only [Rep] at hx
      obtain ⟨l', hφ', _, rfl⟩ := hx
      rw [hφ] at hφ'
      simp only [Option.some.injEq] at hφ'
      subst hφ'
      simp only [BRep] at hb
      obtain ⟨_, _, h0, _, hc⟩ := hb
      refine ⟨by simp; omega, l.b, l.base + off, rfl, RepCs_take n _ _ _ ?_⟩
      have := RepCs_drop off ds l.b 0 hc
      rwa [h0]
    · simp at h
  | oel i ver ix off =>
    simp only [rdc] at h
    split at h
    · rename_i v' k es hl
      split at h
      · rename_i hv
        split at h
        · rename_i e he
          simp only [Option.ite_none_right_eq_some, Option.some.injEq] at h
          obtain ⟨hn, rfl⟩ := h
          obtain ⟨l, hφ, _, hb⟩ := hm.mem i _ hl
          simp only [Rep] at hx
          obtain ⟨l', hφ', _, _, hx⟩ := hx
          rw [hφ] at hφ'
          simp only [Option.some.injEq] at hφ'
          subst hφ'
          simp only [BRep] at hb
          obtain ⟨_, hv1, hk, hb⟩ := hb
          obtain ⟨hr, rfl⟩ := hx (by omega)
          rcases hb with hb | ⟨_, _, _, hes⟩
          · simp [hb.2] at he
          · obtain ⟨_, hc⟩ := RepEs_get es k l.b l.base ix e hes he
            refine ⟨by simp; omega, l.b, l.base + ix * l.k + off, rfl, RepCs_take n _ _ _ ?_⟩
            rw [hk]
            exact RepCs_drop off e l.b _ hc
        · simp at h
      · simp at h
    · simp at h
  | _ => simp [rdc] at h

theorem ld_sound {t : TypeId} {g : Bool} {n : Nat} {x d : D} {v : Value} (ht : Program.tsz C.P t = some (g, n)) (h : ldD mem g n x = some d) (hm : MSim S φ mem nx w) (hx : Rep w S φ x v) :
    ∃ r, Rep w S φ d r ∧ (Instr.loadAt t v).run C.P w = .ok r w := by
  unfold ldD at h
  split at h
  · rename_i cs hc
    obtain ⟨hn, b, o, rfl, hr⟩ := rdc_sound hc hm hx
    obtain ⟨ds, i, hu, hi, hsz, hg⟩ := tsz_out ht
    obtain ⟨vs, hl, hrg, hvs⟩ := RepCs_vals cs b o hr
    unfold mkv at h
    cases hgb : g with
    | true =>
      simp only [hgb, if_true, Option.some.injEq] at h
      subst h
      refine ⟨.agg vs.toArray, ?_, ?_⟩
      · simp only [Rep]; exact ⟨vs.toArray, rfl, by simpa using hvs⟩
      · refine run_loadAt_mid w b o t vs ds hrg hu (by rw [← hg, hgb]) ?_
        rw [hi]; simp; omega
    | false =>
      simp only [hgb, Bool.false_eq_true, if_false] at h
      split at h
      · rename_i c
        simp only [Option.some.injEq] at h
        subst h
        simp only [RepVs] at hvs
        obtain ⟨x, r, rfl, hx1, hr1⟩ := hvs
        refine ⟨x, hx1, ?_⟩
        have hcell := hrg 0 x rfl
        simp only [Nat.add_zero] at hcell
        simp only [Instr.loadAt, Instr.sureAddr, loadVar, Sem.run_bind, Sem.run_pure, Result.andThen_ok, run_isAgg hu w, ← hg, hgb, Bool.false_eq_true, if_false, run_load, hcell]
      · simp at h
  · simp at h
end
end Go.Fx

/-
  Operations that change no owned block, one by one (second part).
-/

set_option linter.all false
namespace Go.Fx
open Go
section
variable {C : Cfg} {w : World} {S : Nat → Prop} {φ : Locs} {a : Act} {env tl : Env} {mem : Mem} {nx id : Nat} {K : KD}

theorem un_sound {op : UnOp} {x d : D} {v : Value} (h : unD C.P op x = some d) (hx : Rep w S φ x v) : ∃ r, Rep w S φ d r ∧ (Op.unary op v).run C.P w = .ok r w := by
  cases x with
  | pl u =>
    simp only [Rep] at hx; subst hx
    simp only [unD, Option.ite_none_right_eq_some] at h
    obtain ⟨_, h⟩ := h
    cases hb : Sem.look C.P (Op.unary op v) with
    | none => simp [hb] at h
    | some r =>
      simp only [hb, Option.map_some, Option.some.injEq] at h
      subst h
      exact ⟨r, by simp [Rep], look_run hb w⟩
  | _ => simp [unD] at h

theorem Addr.add_plain (b o j : Nat) : (⟨b, o, none⟩ : Addr).add j = ⟨b, o + j, none⟩ := by
  cases j with
  | zero => rfl
  | succ j => rfl
theorem isStr_out {P : Program} {t : TypeId} (h : isStr P t = true) : P.underlying t = some .string := by
  unfold isStr at h
  split at h
  · assumption
  · simp at h
theorem isBytes_out {P : Program} {t : TypeId} (h : isBytes P t = true) : ∃ e, P.underlying t = some (.slice e) ∧ P.underlying e = some (.int .u8) := by
  unfold isBytes at h
  split at h
  · rename_i e he
    split at h
    · exact ⟨e, he, by assumption⟩
    · simp at h
  · simp at h
theorem cellByte_out {e : List D} {b : UInt8} (h : cellByte e = some b) : e = [.pl (.int .u8 b.toNat)] := by
  unfold cellByte at h
  split at h
  · rename_i n
    simp only [Option.ite_none_right_eq_some, Option.some.injEq] at h
    obtain ⟨⟨h1, h2⟩, rfl⟩ := h
    have h3 : (UInt8.ofNat n.toNat).toNat = n.toNat := by
      have h4 : n.toNat < 256 := by omega
      rw [UInt8.toNat_ofNat']
      exact Nat.mod_eq_of_lt h4
    rw [h3, Int.toNat_of_nonneg h1]
  · simp at h
theorem bytes_rep {k b : Nat} : ∀ {es : List (List D)} {l : List UInt8} {o : Nat}, cellBytes es = some l → RepEs w S φ es k b o → es.length = l.length ∧ ∀ j (hj : j < l.length), w.cell? ⟨b, o + j, none⟩ = some (.int .u8 (l[j].toNat : Int))
  | [], l, o, h, _ => by
    simp only [cellBytes, Option.some.injEq] at h; subst h
    exact ⟨rfl, fun j hj => by simp at hj⟩
  | e :: es, l, o, h, hr => by
    simp only [cellBytes] at h
    split at h
    · rename_i c cs hc hcs
      simp only [Option.some.injEq] at h; subst h
      have he := cellByte_out hc
      subst he
      simp only [RepEs] at hr
      obtain ⟨hk, h1, h2⟩ := hr
      simp only [List.length_cons, List.length_nil, Nat.zero_add] at hk
      subst hk
      obtain ⟨hl, hrest⟩ := bytes_rep hcs h2
      refine ⟨by simp [hl], fun j hj => ?_⟩
      cases j with
      | zero =>
        simp only [RepCs, Rep] at h1
        obtain ⟨⟨x, hx, rfl⟩, _⟩ := h1
        simpa using hx
      | succ j =>
        have h3 := hrest j (by simpa using hj)
        rw [show o + 1 + j = o + (j + 1) by omega] at h3
        simpa using h3
    · simp at h
theorem cv_sound {s t : TypeId} {x d : D} {v : Value} (h : cvD C.P s t x = some d) (hx : Rep w S φ x v) : (∃ r, Rep w S φ d r ∧ (convert s t v).run C.P w = .ok r w) ∨
    ∃ u e, v = .string u ∧ C.P.underlying s = some .string ∧ C.P.underlying t = some (.slice e) ∧ C.P.underlying e = some (.int .u8) ∧ d = .sl (byteCells u.data.toList) := by
  have look : ∀ {u : Value}, (Sem.look C.P (convert s t u)).map D.pl = some d → v = u → ∃ r, Rep w S φ d r ∧ (convert s t v).run C.P w = .ok r w := fun {u} h e => by
    subst e
    cases hb : Sem.look C.P (convert s t v) with
    | none => simp [hb] at h
    | some r =>
      simp only [hb, Option.map_some, Option.some.injEq] at h
      subst h
      exact ⟨r, by simp [Rep], look_run hb w⟩
  cases x with
  | pl u =>
    simp only [Rep] at hx
    cases u with
    | string u =>
      simp only [cvD] at h
      split at h
      · rename_i hc
        simp only [Bool.and_eq_true] at hc
        simp only [Option.some.injEq] at h
        obtain ⟨e, h1, h2⟩ := isBytes_out hc.2
        exact .inr ⟨u, e, hx, isStr_out hc.1, h1, h2, h.symm⟩
      · exact .inl (look h hx)
    | _ =>
      simp only [cvD, Option.ite_none_right_eq_some] at h
      exact .inl (look h.2 hx)
  | sl es =>
    left
    simp only [cvD, Option.ite_none_right_eq_some, Bool.and_eq_true] at h
    obtain ⟨⟨hb, hs⟩, h⟩ := h
    have hs := isStr_out hs
    obtain ⟨e, h1, h2⟩ := isBytes_out hb
    cases hl : cellBytes es with
    | none => simp [hl] at h
    | some l =>
      simp only [hl, Option.map_some, Option.some.injEq] at h; subst h
      refine ⟨.string ⟨l.toArray⟩, by simp [Rep], ?_⟩
      simp only [Rep] at hx
      rcases hx with ⟨rfl, rfl | ⟨p, rfl⟩⟩ | ⟨b, o, cap, k, rfl, _, _, hr⟩
      · simp only [cellBytes, Option.some.injEq] at hl; subst hl
        rw [run_convert_bytes_string w s t e none 0 0 h1 h2 hs]
        rfl
      · simp only [cellBytes, Option.some.injEq] at hl; subst hl
        exact run_convert_bytes_back w s t e p 0 [] h1 h2 hs (fun j hj => by simp at hj)
      · obtain ⟨g1, g2⟩ := bytes_rep hl hr
        rw [g1]
        exact run_convert_bytes_back w s t e ⟨b, o, none⟩ cap l h1 h2 hs (fun j hj => by rw [Addr.add_plain]; exact g2 j hj)
  | _ => simp [cvD] at h

theorem bi_sound {b : Builtin} {xs : List D} {d : D} {vs : List Value} {ts : Array TypeId} {ty : TypeId} {cs : Array Bool} (h : biD C.P b xs = some d) (hx : RepVs w S φ xs vs) :
    ∃ r, Rep w S φ d r ∧ (builtin b ts ty cs vs.toArray).run C.P w = .ok (.value r) w := by
  unfold biD at h
  split at h
  · rename_i us hu
    have e := valsRep _ _ _ hu hx
    subst e
    simp only [Option.ite_none_right_eq_some] at h
    obtain ⟨_, h⟩ := h
    split at h
    · cases hb : Sem.look C.P (Builtin.max_ #[] 0 vs.toArray) with
      | none => simp [hb] at h
      | some r =>
        simp only [hb, Option.map_some, Option.some.injEq] at h; subst h
        refine ⟨r, by simp [Rep], ?_⟩
        have := look_run hb w
        simp only [builtin, Sem.run_bind]
        rw [show Builtin.max_ ts ty vs.toArray = Builtin.max_ #[] 0 vs.toArray from rfl, this]; rfl
    · cases hb : Sem.look C.P (Builtin.min_ #[] 0 vs.toArray) with
      | none => simp [hb] at h
      | some r =>
        simp only [hb, Option.map_some, Option.some.injEq] at h; subst h
        refine ⟨r, by simp [Rep], ?_⟩
        have := look_run hb w
        simp only [builtin, Sem.run_bind]
        rw [show Builtin.min_ ts ty vs.toArray = Builtin.min_ #[] 0 vs.toArray from rfl, this]; rfl
    · cases hb : Sem.look C.P (Builtin.real_ #[] 0 vs.toArray) with
      | none => simp [hb] at h
      | some r =>
        simp only [hb, Option.map_some, Option.some.injEq] at h; subst h
        refine ⟨r, by simp [Rep], ?_⟩
        have := look_run hb w
        simp only [builtin, Sem.run_bind]
        rw [show Builtin.real_ ts ty vs.toArray = Builtin.real_ #[] 0 vs.toArray from rfl, this]; rfl
    · cases hb : Sem.look C.P (Builtin.imag_ #[] 0 vs.toArray) with
      | none => simp [hb] at h
      | some r =>
        simp only [hb, Option.map_some, Option.some.injEq] at h; subst h
        refine ⟨r, by simp [Rep], ?_⟩
        have := look_run hb w
        simp only [builtin, Sem.run_bind]
        rw [show Builtin.imag_ ts ty vs.toArray = Builtin.imag_ #[] 0 vs.toArray from rfl, this]; rfl
    · cases hb : Sem.look C.P (Builtin.complex_ #[] 0 vs.toArray) with
      | none => simp [hb] at h
      | some r =>
        simp only [hb, Option.map_some, Option.some.injEq] at h; subst h
        refine ⟨r, by simp [Rep], ?_⟩
        have := look_run hb w
        simp only [builtin, Sem.run_bind]
        rw [show Builtin.complex_ ts ty vs.toArray = Builtin.complex_ #[] 0 vs.toArray from rfl, this]; rfl
    · simp at h
  · simp at h

theorem RepVs_length : ∀ (ds : List D) (xs : List Value), RepVs w S φ ds xs → xs.length = ds.length
  | [], xs, h => by simp only [RepVs] at h; simp [h]
  | d :: ds, xs, h => by
    simp only [RepVs] at h
    obtain ⟨x, r, rfl, _, h2⟩ := h
    simp [RepVs_length ds r h2]

theorem RepVs_drop : ∀ (k : Nat) (ds : List D) (xs : List Value), RepVs w S φ ds xs → RepVs w S φ (ds.drop k) (xs.drop k)
  | 0, ds, xs, h => by simpa using h
  | k + 1, [], xs, h => by simp only [RepVs] at h; simp [h, RepVs]
  | k + 1, d :: ds, xs, h => by
    simp only [RepVs] at h
    obtain ⟨x, r, rfl, _, h2⟩ := h
    simpa using RepVs_drop k ds r h2

theorem RepVs_take : ∀ (k : Nat) (ds : List D) (xs : List Value), RepVs w S φ ds xs → RepVs w S φ (ds.take k) (xs.take k)
  | 0, ds, xs, h => by simp [RepVs]
  | k + 1, [], xs, h => by simp only [RepVs] at h; simp [h, RepVs]
  | k + 1, d :: ds, xs, h => by
    simp only [RepVs] at h
    obtain ⟨x, r, rfl, h1, h2⟩ := h
    simp only [List.take_succ_cons, RepVs]
    exact ⟨x, r.take k, rfl, h1, RepVs_take k ds r h2⟩

theorem RepVs_append : ∀ (ds es : List D) (xs ys : List Value), RepVs w S φ ds xs → RepVs w S φ es ys → RepVs w S φ (ds ++ es) (xs ++ ys)
  | [], es, xs, ys, h, k => by simp only [RepVs] at h; simpa [h] using k
  | d :: ds, es, xs, ys, h, k => by
    simp only [RepVs] at h
    obtain ⟨x, r, rfl, h1, h2⟩ := h
    simp only [List.cons_append, RepVs]
    exact ⟨x, r ++ ys, rfl, h1, RepVs_append ds es r ys h2 k⟩

theorem RepVs_get : ∀ (ds : List D) (xs : List Value) (i : Nat) (d : D), RepVs w S φ ds xs → ds[i]? = some d → ∃ x, xs[i]? = some x ∧ Rep w S φ d x
  | [], xs, i, d, h, hd => by simp at hd
  | e :: ds, xs, 0, d, h, hd => by
    simp only [List.getElem?_cons_zero, Option.some.injEq] at hd; subst hd
    simp only [RepVs] at h
    obtain ⟨x, r, rfl, h1, h2⟩ := h
    exact ⟨x, rfl, h1⟩
  | e :: ds, xs, i + 1, d, h, hd => by
    simp only [List.getElem?_cons_succ] at hd
    simp only [RepVs] at h
    obtain ⟨x, r, rfl, h1, h2⟩ := h
    simpa using RepVs_get ds r i d h2 hd

theorem mkv_sound {g : Bool} {n off : Nat} {cs : List D} {d : D} {vs : Array Value} {t : TypeId} (ht : Program.tsz C.P t = some (g, n)) (h : mkv g ((cs.drop off).take n) = some d) (hl : off + n ≤ cs.length)
    (hv : RepVs w S φ cs vs.toList) : ∃ r, Rep w S φ d r ∧ (part t vs off).run C.P w = .ok r w := by
  obtain ⟨ds, inf, hu, hi, hsz, hg⟩ := tsz_out ht
  have hv' := RepVs_take n _ _ (RepVs_drop off _ _ hv)
  unfold mkv at h
  cases hgb : g with
  | true =>
    simp only [hgb, if_true, Option.some.injEq] at h; subst h
    refine ⟨.agg (vs.extract off (off + n)), ?_, ?_⟩
    · simp only [Rep]
      refine ⟨_, rfl, ?_⟩
      simp only [Array.toList_extract, List.extract_eq_take_drop, Nat.add_sub_cancel_left]
      exact hv'
    · simp only [part, Sem.run_bind, run_isAgg hu, ← hg, hgb, Result.andThen_ok, if_true, run_sizeOf hi, hsz, Sem.run_pure]
  | false =>
    simp only [hgb, Bool.false_eq_true, if_false] at h
    split at h
    · rename_i c hc
      simp only [Option.some.injEq] at h; subst h
      rw [hc] at hv'
      simp only [RepVs] at hv'
      obtain ⟨x, r, hx, h1, rfl⟩ := hv'
      refine ⟨x, h1, ?_⟩
      have hget : vs[off]? = some x := by
        have h0 : ((vs.toList.drop off).take n)[0]? = some x := by rw [hx]; rfl
        rw [List.getElem?_take] at h0
        split at h0
        · simpa using h0
        · simp at h0
      simp only [part, Sem.run_bind, run_isAgg hu, ← hg, hgb, Result.andThen_ok, Bool.false_eq_true, if_false, hget, Sem.run_pure]
    · simp at h

theorem fld_sound {s : TypeId} {fs : Array Field} {f : Nat} {fd : Field} {g : Bool} {n : Nat} {x d : D} {v : Value} (hs : C.P.underlying s = some (.struct fs)) (hf : fs[f]? = some fd)
    (ht : Program.tsz C.P fd.type = some (g, n)) (h : fldD g n fd.offset x = some d) (hx : Rep w S φ x v) : ∃ r, Rep w S φ d r ∧ (Instr.field s v f).run C.P w = .ok r w := by
  cases x with
  | agg cs =>
    simp only [fldD, Option.ite_none_right_eq_some] at h
    obtain ⟨hl, h⟩ := h
    simp only [Rep] at hx
    obtain ⟨vs, rfl, hv⟩ := hx
    obtain ⟨r, h1, h2⟩ := mkv_sound ht h hl hv
    refine ⟨r, h1, ?_⟩
    simp only [Instr.field, Sem.run_bind, run_underlying hs, Result.andThen_ok, hf, asAgg, Sem.run_pure, h2]
  | _ => simp [fldD] at h

theorem ext_sound {i : Nat} {x d : D} {v : Value} (h : extD i x = some d) (hx : Rep w S φ x v) : ∃ r, Rep w S φ d r ∧ (Instr.extract v i).run C.P w = .ok r w := by
  cases x with
  | tup ds =>
    simp only [extD] at h
    simp only [Rep] at hx
    obtain ⟨vs, rfl, hv⟩ := hx
    obtain ⟨y, hy, hr⟩ := RepVs_get _ _ _ _ hv h
    refine ⟨y, hr, ?_⟩
    have : vs[i]? = some y := by simpa using hy
    simp only [Instr.extract, this, Sem.run_pure]
  | _ => simp [extD] at h

/-- The version of a row that is its own. -/
theorem curv_out {i ver : Nat} (h : curv mem i ver = true) (hm : MSim S φ mem nx w) : ∃ k es l, look mem i = some (.arr ver k es) ∧ φ i = some l ∧ l.ver = ver ∧ BRep w S φ l (.arr ver k es) ∧ (l.real = true → ¬ S l.b) := by
  unfold curv at h
  split at h
  · rename_i v k es hl
    have hv : v = ver := by simpa using h
    subst hv
    obtain ⟨l, h1, h2, h3⟩ := hm.mem i _ hl
    refine ⟨k, es, l, hl, h1, ?_, h3, h2⟩
    simp only [BRep] at h3
    exact h3.2.1
  · simp at h

theorem fa_sound {s : TypeId} {fs : Array Field} {f : Nat} {fd : Field} {g : Bool} {n : Nat} {x d : D} {v : Value} (hs : C.P.underlying s = some (.struct fs)) (hf : fs[f]? = some fd)
    (ht : Program.tsz C.P fd.type = some (g, n)) (hn : n ≠ 0) (h : faD mem fd.offset x = some d) (hx : Rep w S φ x v) (hm : MSim S φ mem nx w) :
    ∃ r, Rep w S φ d r ∧ (Instr.fieldAt s v f).run C.P w = .ok r w := by
  obtain ⟨ds, inf, hu, hi, hsz, _⟩ := tsz_out ht
  have key : ∀ b o, (Instr.fieldAt s (.pointer (some ⟨b, o, none⟩)) f).run C.P w = .ok (.pointer (some ⟨b, o + fd.offset, none⟩)) w := by
    intro b o
    simp only [Instr.fieldAt, Sem.run_bind, run_underlying hs, Result.andThen_ok, hf, Instr.sureAddr, Sem.run_pure, fieldPlace, run_sizeOf hi, hsz, hn, if_false, Addr.add_mid]
  cases x with
  | pt cs =>
    simp only [faD, Option.ite_none_right_eq_some, Option.some.injEq] at h
    obtain ⟨_, rfl⟩ := h
    simp only [Rep] at hx
    obtain ⟨b, o, rfl, hS, hc⟩ := hx
    refine ⟨_, ?_, key b o⟩
    simp only [Rep]
    exact ⟨b, o + fd.offset, rfl, hS, RepCs_drop _ _ _ _ hc⟩
  | opt i off =>
    simp only [faD, Option.some.injEq] at h; subst h
    simp only [Rep] at hx
    obtain ⟨l, hl, ha, rfl⟩ := hx
    refine ⟨_, ?_, key _ _⟩
    simp only [Rep]
    exact ⟨l, hl, ha, by rw [Nat.add_assoc]⟩
  | oel i ver ix off =>
    simp only [faD, Option.ite_none_right_eq_some, Option.some.injEq] at h
    obtain ⟨hc, rfl⟩ := h
    obtain ⟨k, es, l, _, hl, hv, _, _⟩ := curv_out hc hm
    simp only [Rep] at hx
    obtain ⟨l', hl', hle, hsh, hx⟩ := hx
    rw [hl] at hl'; simp only [Option.some.injEq] at hl'; subst hl'
    obtain ⟨hr, rfl⟩ := hx hv
    refine ⟨_, ?_, key _ _⟩
    simp only [Rep]
    exact ⟨l, hl, hle, ⟨_, rfl⟩, fun _ => ⟨hr, by rw [Nat.add_assoc]⟩⟩
  | _ => simp [faD] at h

theorem len_sound {ty : TypeId} {ts : Array TypeId} {t : TypeId} {cs : Array Bool} {s : Bool} {x d : D} {v : Value} (hts : ts[0]? = some t) (ht : (s = true ∧ C.P.underlying t = some .string) ∨ (s = false ∧ ∃ e, C.P.underlying t = some (.slice e)))
    (h : lenD mem s x = some d) (hx : Rep w S φ x v) (hm : MSim S φ mem nx w) : ∃ r, Rep w S φ d r ∧ (builtin .len ts ty cs #[v]).run C.P w = .ok (.value r) w := by
  have key : ∀ r, (Builtin.len_ ts ty #[v]).run C.P w = .ok r w → (builtin .len ts ty cs #[v]).run C.P w = .ok (.value r) w := by
    intro r hr; simp only [builtin, Sem.run_bind, hr, Result.andThen_ok, Sem.run_pure]
  have ksl : ∀ (p : Option Addr) (n c : Nat) (e : TypeId), C.P.underlying t = some (.slice e) → v = .slice p n c → (Builtin.len_ ts ty #[v]).run C.P w = .ok (goInt n) w := by
    rintro p n c e he rfl
    simp [Builtin.len_, hts, run_underlying he]
  cases x with
  | sl es =>
    simp only [lenD] at h
    cases s with
    | true => simp at h
    | false =>
      simp only [Bool.false_eq_true, if_false, Option.some.injEq] at h; subst h
      obtain ⟨e, he⟩ : ∃ e, C.P.underlying t = some (.slice e) := by simpa using ht
      simp only [Rep] at hx
      rcases hx with ⟨rfl, rfl | ⟨p, rfl⟩⟩ | ⟨b, o, cap, k, rfl, _⟩
      · exact ⟨_, by simp only [Rep, List.length_nil]; rfl, key _ (ksl _ _ _ e he rfl)⟩
      · exact ⟨_, by simp only [Rep, List.length_nil]; rfl, key _ (ksl _ _ _ e he rfl)⟩
      · exact ⟨_, by simp only [Rep]; rfl, key _ (ksl _ _ _ e he rfl)⟩
  | osl i ver lo n =>
    simp only [lenD] at h
    split at h
    · simp at h
    · rename_i hc
      simp only [Option.some.injEq] at h; subst h
      simp only [Bool.or_eq_true, Bool.not_eq_true', not_or, Bool.not_eq_true, Bool.not_eq_false] at hc
      obtain ⟨hs, hcv⟩ := hc
      obtain ⟨e, he⟩ : ∃ e, C.P.underlying t = some (.slice e) := by simpa [hs] using ht
      obtain ⟨k, es, l, _, hl, hv, _, _⟩ := curv_out hcv hm
      simp only [Rep] at hx
      obtain ⟨l', hl', _, _, hx⟩ := hx
      rw [hl] at hl'; simp only [Option.some.injEq] at hl'; subst hl'
      rcases hx hv with ⟨_, _, rfl, rfl | ⟨_, rfl⟩⟩ | ⟨_, cap, rfl, _⟩
      · exact ⟨_, by simp only [Rep]; rfl, key _ (ksl _ _ _ e he rfl)⟩
      · exact ⟨_, by simp only [Rep]; rfl, key _ (ksl _ _ _ e he rfl)⟩
      · exact ⟨_, by simp only [Rep]; rfl, key _ (ksl _ _ _ e he rfl)⟩
  | pl u =>
    simp only [Rep] at hx; subst hx
    cases v with
    | slice p n c =>
      cases p with
      | some _ => simp [lenD] at h
      | none =>
        cases n with
        | succ _ => simp [lenD] at h
        | zero =>
          cases c with
          | succ _ => simp [lenD] at h
          | zero =>
            simp only [lenD] at h
            cases s with
            | true => simp at h
            | false =>
              simp only [Bool.false_eq_true, if_false, Option.some.injEq] at h; subst h
              obtain ⟨e, he⟩ : ∃ e, C.P.underlying t = some (.slice e) := by simpa using ht
              exact ⟨_, by simp only [Rep]; rfl, key _ (ksl _ _ _ e he rfl)⟩
    | string b =>
      simp only [lenD] at h
      cases s with
      | false => simp at h
      | true =>
        simp only [if_true, Option.some.injEq] at h; subst h
        have he : C.P.underlying t = some .string := by simpa using ht
        refine ⟨goInt b.size, by simp [Rep, goInt], key _ ?_⟩
        simp [Builtin.len_, hts, run_underlying he]
    | _ => simp [lenD] at h
  | zs =>
    simp only [lenD] at h
    cases s with
    | true => simp at h
    | false =>
      simp only [Bool.false_eq_true, if_false, Option.some.injEq] at h; subst h
      obtain ⟨e, he⟩ : ∃ e, C.P.underlying t = some (.slice e) := by simpa using ht
      simp only [Rep] at hx
      rcases hx with rfl | ⟨b, o, rfl, _⟩
      · exact ⟨_, by simp only [Rep]; rfl, key _ (ksl _ _ _ e he rfl)⟩
      · exact ⟨_, by simp only [Rep]; rfl, key _ (ksl _ _ _ e he rfl)⟩
  | _ => simp [lenD] at h

theorem run_asIntOf {k : IntKind} {n : Int} (P : Program) (w : World) : (asIntOf (.int k n)).run P w = .ok (k, n) w := rfl

theorem cur_curv {i ver k : Nat} (h : cur mem i ver k = true) : curv mem i ver = true := by
  unfold cur at h; unfold curv
  cases hl : look mem i with
  | none => simp [hl] at h
  | some b => cases b <;> simp_all

theorem ia_sound {t e : TypeId} {g : Bool} {k : Nat} {x i d : D} {v u : Value} (ht : C.P.underlying t = some (.slice e)) (he : Program.tsz C.P e = some (g, k)) (h : iaD mem k x i = some d)
    (hx : Rep w S φ x v) (hi : Rep w S φ i u) (hm : MSim S φ mem nx w) : ∃ r, Rep w S φ d r ∧ (Instr.indexAt t v u).run C.P w = .ok r w := by
  obtain ⟨ds, inf, hu, hinf, hsz, _⟩ := tsz_out he
  have key : ∀ (b o len cap : Nat) (kd : IntKind) (n : Int), 0 ≤ n → n < len → (Instr.indexAt t (.slice (some ⟨b, o, none⟩) len cap) (.int kd n)).run C.P w = .ok (.pointer (some ⟨b, o + n.toNat * k, none⟩)) w := by
    intro b o len cap kd n h0 h1
    simp only [Instr.indexAt, Sem.run_bind, run_asIntOf, Result.andThen_ok, run_underlying ht, Sem.run_pure, h0, h1, and_self, if_true, run_sizeOf hinf, hsz, Addr.add_mid]
  unfold iaD at h
  split at h
  · rename_i es kd n
    simp only [Rep] at hi; subst hi
    simp only [Option.ite_none_right_eq_some] at h
    obtain ⟨⟨h0, h1⟩, h⟩ := h
    split at h
    · rename_i e' he'
      simp only [Option.ite_none_right_eq_some, Option.some.injEq] at h
      obtain ⟨hlen, rfl⟩ := h
      simp only [Rep] at hx
      rcases hx with ⟨rfl, _⟩ | ⟨b, o, cap, k', rfl, hc, hS, hes⟩
      · simp at h1; omega
      · obtain ⟨hk, hr⟩ := RepEs_get es k' b o n.toNat e' hes he'
        refine ⟨_, ?_, key b o _ cap kd n h0 h1⟩
        simp only [Rep]
        refine ⟨b, _, rfl, hS, ?_⟩
        rw [← hlen, hk]; exact hr
    · simp at h
  · rename_i i' ver lo m kd n
    simp only [Rep] at hi; subst hi
    simp only [Option.ite_none_right_eq_some, Option.some.injEq] at h
    obtain ⟨hc, ⟨h0, h1⟩, rfl⟩ := h
    have hcv := cur_curv hc
    obtain ⟨k2, es, l, hlk, hl, hv, hb, _⟩ := curv_out hcv hm
    have hk2 : k2 = k := by
      unfold cur at hc
      rw [hlk] at hc
      simpa using hc
    subst hk2
    simp only [Rep] at hx
    obtain ⟨l', hl', hle, hsh, hx⟩ := hx
    rw [hl] at hl'; simp only [Option.some.injEq] at hl'; subst hl'
    rcases hx hv with ⟨_, _, rfl, _⟩ | ⟨hr, cap, rfl, _⟩
    · omega
    · refine ⟨_, ?_, key _ _ _ cap kd n h0 (by exact_mod_cast h1)⟩
      simp only [Rep]
      refine ⟨l, hl, hle, ⟨_, rfl⟩, fun _ => ⟨hr, ?_⟩⟩
      simp only [BRep] at hb
      rw [← hb.2.2.1, Nat.add_zero, Nat.add_mul]
      simp [Nat.add_assoc]
  · simp at h

theorem chk_sound {X : Operand} {o : Oper} {x d : D} (ho : o.op = .nilCheck X) (h : chkD x = some d) (hx : Rep w S φ x (a.eval X)) : ∃ r, Rep w S φ d r ∧ (execOp a.eval o).run C.P w = .ok (.value r) w := by
  have e : d = x := by cases x <;> simp [chkD] at h <;> exact h.symm
  subst e
  cases d with
  | pt cs =>
    refine ⟨_, hx, ?_⟩
    simp only [Rep] at hx
    obtain ⟨b, o', hv, _⟩ := hx
    unfold execOp; simp only [ho, hv, Sem.run_pure]
  | opt i off =>
    refine ⟨_, hx, ?_⟩
    simp only [Rep] at hx
    obtain ⟨l, _, _, hv⟩ := hx
    unfold execOp; simp only [ho, hv, Sem.run_pure]
  | fn f cs =>
    refine ⟨_, hx, ?_⟩
    simp only [Rep] at hx
    obtain ⟨vs, hv, _⟩ := hx
    unfold execOp; simp only [ho, hv, Sem.run_pure]
  | _ => simp [chkD] at h
end
end Go.Fx

/-
  Memory: a new block, only read or owned; a store into an owned block.
-/

set_option linter.all false
namespace Go.Fx
open Go
section
variable {C : Cfg} {w w' : World} {S : Nat → Prop} {φ : Locs} {a : Act} {env tl : Env} {mem : Mem} {nx id : Nat} {K : KD}

theorem cell_of_heap {b : Nat} (h : w'.heap[b]? = w.heap[b]?) (o : Nat) : w'.cell? ⟨b, o, none⟩ = w.cell? ⟨b, o, none⟩ := by
  simp only [World.cell?, h]

theorem BRep.mono {S' : Nat → Prop} {φ' : Locs} (h : Stays w S φ w' S' φ') {l : Loc} (hb : l.real = true → w'.heap[l.b]? = w.heap[l.b]?) : ∀ (blk : Blk), BRep w S φ l blk → BRep w' S' φ' l blk
  | .box cs, hr => by
    simp only [BRep] at hr ⊢
    obtain ⟨h1, h2, h3, ⟨c, t, h4, h5⟩, h6⟩ := hr
    exact ⟨h1, h2, h3, ⟨c, t, (hb h1).trans h4, h5⟩, RepCs.mono h cs l.b 0 (cell_of_heap (hb h1)) h6⟩
  | .arr ver k es, hr => by
    simp only [BRep] at hr ⊢
    obtain ⟨h1, h2, h3, h4⟩ := hr
    refine ⟨h1, h2, h3, ?_⟩
    rcases h4 with h4 | ⟨h4, ⟨c, t, h5, h6⟩, h7, h8⟩
    · exact .inl h4
    · exact .inr ⟨h4, ⟨c, t, (hb h4).trans h5, h6⟩, h7, RepEs.mono h es k l.b l.base (cell_of_heap (hb h4)) h8⟩
  | .map es, hr => by
    simp only [BRep] at hr ⊢
    obtain ⟨h1, h2, ms, clock, h3, h4⟩ := hr
    exact ⟨h1, h2, ms, clock, (hb h1).trans h3, RepMs.mono h _ _ h4⟩

theorem alloc_old (o : Obj) {b : Nat} (h : b < w.heap.size) : (w.alloc o).heap[b]? = w.heap[b]? := by
  show (w.heap.push o)[b]? = _
  rw [Array.getElem?_push, if_neg (by omega)]
theorem alloc_new (o : Obj) : (w.alloc o).heap[w.heap.size]? = some o := by
  show (w.heap.push o)[w.heap.size]? = _
  simp
theorem alloc_size (o : Obj) : (w.alloc o).heap.size = w.heap.size + 1 := by
  show (w.heap.push o).size = _
  simp

theorem Stays.of_heap {S' : Nat → Prop} {φ' : Locs} (hS : ∀ b, S b → S' b) (hb : ∀ b, S b → w'.heap[b]? = w.heap[b]?) (hφ : ∀ id l, φ id = some l → φ' id = some l) : Stays w S φ w' S' φ' :=
  ⟨hS, fun b h o => cell_of_heap (hb b h) o, fun id l h => ⟨l, hφ id l h, .inl rfl⟩⟩

/-- A new block that is only read. -/
theorem alloc_imm (hm : MSim S φ mem nx w) (o : Obj) : MSim (fun b => S b ∨ b = w.heap.size) φ mem nx (w.alloc o) ∧ Stays w S φ (w.alloc o) (fun b => S b ∨ b = w.heap.size) φ ∧
    Ext S φ mem w (fun b => S b ∨ b = w.heap.size) φ mem (w.alloc o) := by
  have hst : Stays w S φ (w.alloc o) (fun b => S b ∨ b = w.heap.size) φ := Stays.of_heap (fun b h => .inl h) (fun b h => alloc_old o (hm.sub b h)) (fun _ _ h => h)
  refine ⟨⟨?_, hm.inj, ?_, hm.fresh, ?_⟩, hst, ⟨fun b h => .inl h, fun b hb _ => alloc_old o hb, by rw [alloc_size]; omega, fun b _ h => h, ?_, rfl, rfl, rfl⟩⟩
  · intro i blk hi
    obtain ⟨l, h1, h2, h3⟩ := hm.mem i blk hi
    refine ⟨l, h1, fun hr => ?_, h3.mono hst fun hr => alloc_old o (hm.lt i l h1 hr)⟩
    rintro (h | h)
    · exact h2 hr h
    · have := hm.lt i l h1 hr; omega
  · intro i l h hr; rw [alloc_size]; have := hm.lt i l h hr; omega
  · rintro b (h | h)
    · rw [alloc_size]; have := hm.sub b h; omega
    · rw [alloc_size]; omega
  · rintro b (h | h)
    · exact .inl h
    · exact .inr (.inl (by omega))

/-- A new owned block. -/
theorem alloc_own (hm : MSim S φ mem nx w) (o : Obj) (hid : φ id = none) (hlt : id < nx) {l : Loc} (hr : l.real = true) (hl : l.b = w.heap.size) {blk : Blk}
    (hb : ∀ φ', Stays w S φ (w.alloc o) S φ' → BRep (w.alloc o) S φ' l blk) :
    ∃ φ', φ' id = some l ∧ MSim S φ' ((id, blk) :: mem) nx (w.alloc o) ∧ Stays w S φ (w.alloc o) S φ' ∧ Ext S φ mem w S φ' ((id, blk) :: mem) (w.alloc o) ∧ ∀ i, i ≠ id → φ' i = φ i := by
  refine ⟨fun i => if i = id then some l else φ i, by simp, ?_⟩
  have hst : Stays w S φ (w.alloc o) S (fun i => if i = id then some l else φ i) := by
    refine Stays.of_heap (fun b h => h) (fun b h => alloc_old o (hm.sub b h)) fun i l' h => ?_
    by_cases e : i = id
    · subst e; rw [hid] at h; simp at h
    · simp [e, h]
  refine ⟨⟨?_, ?_, ?_, ?_, ?_⟩, hst, ⟨fun b h => h, fun b hb _ => alloc_old o hb, by rw [alloc_size]; omega, ?_, fun b h => .inl h, rfl, rfl, rfl⟩, fun i h => by simp [h]⟩
  · intro i blk' hi
    simp only [look] at hi
    by_cases e : id = i
    · subst e
      simp only [if_true, Option.some.injEq] at hi; subst hi
      exact ⟨l, by simp, fun _ h => by have := hm.sub _ h; omega, hb _ hst⟩
    · simp only [e, if_false] at hi
      obtain ⟨l', h1, h2, h3⟩ := hm.mem i blk' hi
      exact ⟨l', by simp [Ne.symm e, h1], h2, h3.mono hst fun hr => alloc_old o (hm.lt i l' h1 hr)⟩
  · intro i j l1 l2 h1 h2 r1 r2 hbb
    by_cases e1 : i = id <;> by_cases e2 : j = id
    · rw [e1, e2]
    · simp only [e1, if_true, Option.some.injEq] at h1
      simp only [e2, if_false] at h2
      have := hm.lt j l2 h2 r2
      subst h1; omega
    · simp only [e2, if_true, Option.some.injEq] at h2
      simp only [e1, if_false] at h1
      have := hm.lt i l1 h1 r1
      subst h2; omega
    · simp only [e1, if_false] at h1
      simp only [e2, if_false] at h2
      exact hm.inj i j l1 l2 h1 h2 r1 r2 hbb
  · intro i l' h hr'
    rw [alloc_size]
    by_cases e : i = id
    · simp only [e, if_true, Option.some.injEq] at h; subst h; omega
    · simp only [e, if_false] at h
      have := hm.lt i l' h hr'; omega
  · intro i h
    have e : i ≠ id := by omega
    simp only [e, if_false]; exact hm.fresh i h
  · intro b h; rw [alloc_size]; have := hm.sub b h; omega
  · rintro b hlt' ⟨i, blk', l', h1, h2, h3, h4⟩
    simp only [look] at h1
    by_cases e : id = i
    · subst e
      simp only [if_true, Option.some.injEq] at h2; subst h2; omega
    · simp only [e, if_false] at h1
      simp only [Ne.symm e, if_false] at h2
      exact ⟨i, blk', l', h1, h2, h3, h4⟩

/-- A nil slice as an owned one: no block yet. -/
theorem own_nil (hm : MSim S φ mem nx w) (hid : φ id = none) (hlt : id < nx) (k : Nat) :
    ∃ φ', φ' id = some ⟨true, false, 0, 0, k, 0, 0⟩ ∧ MSim S φ' ((id, .arr 0 k []) :: mem) nx w ∧ Stays w S φ w S φ' ∧ Ext S φ mem w S φ' ((id, .arr 0 k []) :: mem) w ∧ ∀ i, i ≠ id → φ' i = φ i := by
  refine ⟨fun i => if i = id then some ⟨true, false, 0, 0, k, 0, 0⟩ else φ i, by simp, ?_⟩
  have hst : Stays w S φ w S (fun i => if i = id then some ⟨true, false, 0, 0, k, 0, 0⟩ else φ i) := by
    refine Stays.of_heap (fun b h => h) (fun b h => rfl) fun i l' h => ?_
    by_cases e : i = id
    · subst e; rw [hid] at h; simp at h
    · simp [e, h]
  refine ⟨⟨?_, ?_, ?_, ?_, hm.sub⟩, hst, ⟨fun b h => h, fun b _ _ => rfl, Nat.le_refl _, ?_, fun b h => .inl h, rfl, rfl, rfl⟩, fun i h => by simp [h]⟩
  · intro i blk' hi
    simp only [look] at hi
    by_cases e : id = i
    · subst e
      simp only [if_true, Option.some.injEq] at hi; subst hi
      exact ⟨⟨true, false, 0, 0, k, 0, 0⟩, by simp, fun h => by simp at h, by simp [BRep]⟩
    · simp only [e, if_false] at hi
      obtain ⟨l', h1, h2, h3⟩ := hm.mem i blk' hi
      exact ⟨l', by simp [Ne.symm e, h1], h2, h3.mono hst fun _ => rfl⟩
  · intro i j l1 l2 h1 h2 r1 r2 hbb
    by_cases e1 : i = id <;> by_cases e2 : j = id
    · rw [e1, e2]
    · simp only [e1, if_true, Option.some.injEq] at h1; subst h1; simp at r1
    · simp only [e2, if_true, Option.some.injEq] at h2; subst h2; simp at r2
    · simp only [e1, if_false] at h1
      simp only [e2, if_false] at h2
      exact hm.inj i j l1 l2 h1 h2 r1 r2 hbb
  · intro i l' h hr'
    by_cases e : i = id
    · simp only [e, if_true, Option.some.injEq] at h; subst h; simp at hr'
    · simp only [e, if_false] at h
      exact hm.lt i l' h hr'
  · intro i h
    have e : i ≠ id := by omega
    simp only [e, if_false]; exact hm.fresh i h
  · rintro b hlt' ⟨i, blk', l', h1, h2, h3, h4⟩
    simp only [look] at h1
    by_cases e : id = i
    · subst e
      simp only [if_true, Option.some.injEq] at h2; subst h2; simp at h3
    · simp only [e, if_false] at h1
      simp only [Ne.symm e, if_false] at h2
      exact ⟨i, blk', l', h1, h2, h3, h4⟩

/-- A block that is owned turns; all others stay. -/
theorem write_own (hm : MSim S φ mem nx w) {l : Loc} (hl : φ id = some l) (hr : l.real = true) {old blk : Blk} (ho : look mem id = some old) (hw : ∀ b, b ≠ l.b → w'.heap[b]? = w.heap[b]?) (hsz : w'.heap.size = w.heap.size)
    (hos : w'.os = w.os) (hout : w'.output = w.output) (htp : w'.tape = w.tape) (hb : Stays w S φ w' S φ → BRep w' S φ l blk) :
    MSim S φ (upd mem id blk) nx w' ∧ Stays w S φ w' S φ ∧ Ext S φ mem w S φ (upd mem id blk) w' := by
  obtain ⟨l0, h0, hS, _⟩ := hm.mem id _ ho
  rw [hl] at h0; simp only [Option.some.injEq] at h0; subst h0
  have hst : Stays w S φ w' S φ := Stays.of_heap (fun b h => h) (fun b h => hw b fun e => hS hr (e ▸ h)) (fun _ _ h => h)
  refine ⟨⟨?_, hm.inj, ?_, hm.fresh, ?_⟩, hst, ⟨fun b h => h, ?_, by omega, ?_, fun b h => .inl h, hos, hout, htp⟩⟩
  · intro i blk' hi
    rcases look_upd id blk mem i blk' hi with ⟨rfl, rfl⟩ | ⟨hne, hi⟩
    · exact ⟨l, hl, hS, hb hst⟩
    · obtain ⟨l', h1, h2, h3⟩ := hm.mem i blk' hi
      exact ⟨l', h1, h2, h3.mono hst fun hr' => hw _ fun e => hne (hm.inj i id l' l h1 hl hr' hr e)⟩
  · intro i l' h hr'; rw [hsz]; exact hm.lt i l' h hr'
  · intro b h; rw [hsz]; exact hm.sub b h
  · intro b _ hn
    exact hw b fun e => hn ⟨id, old, l, ho, hl, hr, e.symm⟩
  · rintro b _ ⟨i, blk', l', h1, h2, h3, h4⟩
    rcases look_upd id blk mem i blk' h1 with ⟨rfl, rfl⟩ | ⟨hne, hi⟩
    · exact ⟨i, old, l', ho, h2, h3, h4⟩
    · exact ⟨i, blk', l', hi, h2, h3, h4⟩

/-- A row goes over to a new block (or was nil), with a new version. -/
theorem move_own (hm : MSim S φ mem nx w) {l l' : Loc} (hl : φ id = some l) (ha : l.arr = true) (ha' : l'.arr = true) (hv : l.ver < l'.ver) {old blk : Blk} (ho : look mem id = some old) (o : Obj) (hr' : l'.real = true) (hb' : l'.b = w.heap.size)
    (hb : ∀ φ', φ' id = some l' → Stays w S φ (w.alloc o) S φ' → BRep (w.alloc o) S φ' l' blk) :
    ∃ φ', φ' id = some l' ∧ MSim S φ' (upd mem id blk) nx (w.alloc o) ∧ Stays w S φ (w.alloc o) S φ' ∧ Ext S φ mem w S φ' (upd mem id blk) (w.alloc o) ∧ ∀ i, i ≠ id → φ' i = φ i := by
  refine ⟨fun i => if i = id then some l' else φ i, by simp, ?_⟩
  have hst : Stays w S φ (w.alloc o) S (fun i => if i = id then some l' else φ i) := by
    refine ⟨fun b h => h, fun b h o' => cell_of_heap (alloc_old o (hm.sub b h)) o', fun i l1 h => ?_⟩
    by_cases e : i = id
    · subst e; rw [hl] at h; simp only [Option.some.injEq] at h; subst h
      exact ⟨l', by simp, .inr ⟨ha, ha', hv⟩⟩
    · exact ⟨l1, by simp [e, h], .inl rfl⟩
  refine ⟨⟨?_, ?_, ?_, ?_, ?_⟩, hst, ⟨fun b h => h, fun b hb _ => alloc_old o hb, by rw [alloc_size]; omega, ?_, fun b h => .inl h, rfl, rfl, rfl⟩, fun i h => by simp [h]⟩
  · intro i blk' hi
    rcases look_upd id blk mem i blk' hi with ⟨rfl, rfl⟩ | ⟨hne, hi⟩
    · exact ⟨l', by simp, fun _ h => by have := hm.sub _ h; omega, hb _ (by simp) hst⟩
    · obtain ⟨l1, h1, h2, h3⟩ := hm.mem i blk' hi
      exact ⟨l1, by simp [hne, h1], h2, h3.mono hst fun hr => alloc_old o (hm.lt i l1 h1 hr)⟩
  · intro i j l1 l2 h1 h2 r1 r2 hbb
    by_cases e1 : i = id <;> by_cases e2 : j = id
    · rw [e1, e2]
    · simp only [e1, if_true, Option.some.injEq] at h1
      simp only [e2, if_false] at h2
      have := hm.lt j l2 h2 r2
      subst h1; omega
    · simp only [e2, if_true, Option.some.injEq] at h2
      simp only [e1, if_false] at h1
      have := hm.lt i l1 h1 r1
      subst h2; omega
    · simp only [e1, if_false] at h1
      simp only [e2, if_false] at h2
      exact hm.inj i j l1 l2 h1 h2 r1 r2 hbb
  · intro i l1 h hr1
    rw [alloc_size]
    by_cases e : i = id
    · simp only [e, if_true, Option.some.injEq] at h; subst h; omega
    · simp only [e, if_false] at h
      have := hm.lt i l1 h hr1; omega
  · intro i h
    have e : i ≠ id := by rintro rfl; rw [hm.fresh _ h] at hl; simp at hl
    simp only [e, if_false]; exact hm.fresh i h
  · intro b h; rw [alloc_size]; have := hm.sub b h; omega
  · rintro b hlt' ⟨i, blk', l1, h1, h2, h3, h4⟩
    rcases look_upd id blk mem i blk' h1 with ⟨rfl, rfl⟩ | ⟨hne, hi⟩
    · simp only [if_true, Option.some.injEq] at h2; subst h2; omega
    · simp only [hne, if_false] at h2
      exact ⟨i, blk', l1, hi, h2, h3, h4⟩

/-- A row stays where it is, with a new version. -/
theorem bump_own (hm : MSim S φ mem nx w) {l l' : Loc} (hl : φ id = some l) (ha : l.arr = true) (ha' : l'.arr = true) (hv : l.ver < l'.ver) {old blk : Blk} (ho : look mem id = some old) (hrr : l'.real = l.real) (hbb : l'.b = l.b)
    (hw : ∀ b, (l.real = true → b ≠ l.b) → w'.heap[b]? = w.heap[b]?) (hsz : w'.heap.size = w.heap.size) (hos : w'.os = w.os) (hout : w'.output = w.output) (htp : w'.tape = w.tape)
    (hb : ∀ φ', φ' id = some l' → Stays w S φ w' S φ' → BRep w' S φ' l' blk) :
    ∃ φ', φ' id = some l' ∧ MSim S φ' (upd mem id blk) nx w' ∧ Stays w S φ w' S φ' ∧ Ext S φ mem w S φ' (upd mem id blk) w' ∧ ∀ i, i ≠ id → φ' i = φ i := by
  obtain ⟨l0, h0, hS, _⟩ := hm.mem id _ ho
  rw [hl] at h0; simp only [Option.some.injEq] at h0; subst h0
  refine ⟨fun i => if i = id then some l' else φ i, by simp, ?_⟩
  have hst : Stays w S φ w' S (fun i => if i = id then some l' else φ i) := by
    refine ⟨fun b h => h, fun b h o' => cell_of_heap (hw b fun hr e => hS hr (e ▸ h)) o', fun i l1 h => ?_⟩
    by_cases e : i = id
    · subst e; rw [hl] at h; simp only [Option.some.injEq] at h; subst h
      exact ⟨l', by simp, .inr ⟨ha, ha', hv⟩⟩
    · exact ⟨l1, by simp [e, h], .inl rfl⟩
  refine ⟨⟨?_, ?_, ?_, ?_, ?_⟩, hst, ⟨fun b h => h, ?_, by omega, ?_, fun b h => .inl h, hos, hout, htp⟩, fun i h => by simp [h]⟩
  · intro i blk' hi
    rcases look_upd id blk mem i blk' hi with ⟨rfl, rfl⟩ | ⟨hne, hi⟩
    · exact ⟨l', by simp, fun hr => by rw [hbb]; exact hS (hrr ▸ hr), hb _ (by simp) hst⟩
    · obtain ⟨l1, h1, h2, h3⟩ := hm.mem i blk' hi
      exact ⟨l1, by simp [hne, h1], h2, h3.mono hst fun hr => hw _ fun hr0 e => hne (hm.inj i id l1 l h1 hl hr hr0 e)⟩
  · intro i j l1 l2 h1 h2 r1 r2 hb2
    by_cases e1 : i = id <;> by_cases e2 : j = id
    · rw [e1, e2]
    · simp only [e1, if_true, Option.some.injEq] at h1
      simp only [e2, if_false] at h2
      subst h1; rw [hbb] at hb2
      exact e1.trans (hm.inj id j l l2 hl h2 (hrr ▸ r1) r2 hb2)
    · simp only [e2, if_true, Option.some.injEq] at h2
      simp only [e1, if_false] at h1
      subst h2; rw [hbb] at hb2
      exact (hm.inj i id l1 l h1 hl r1 (hrr ▸ r2) hb2).trans e2.symm
    · simp only [e1, if_false] at h1
      simp only [e2, if_false] at h2
      exact hm.inj i j l1 l2 h1 h2 r1 r2 hb2
  · intro i l1 h hr1
    rw [hsz]
    by_cases e : i = id
    · simp only [e, if_true, Option.some.injEq] at h; subst h; rw [hbb]; exact hm.lt id l hl (hrr ▸ hr1)
    · simp only [e, if_false] at h
      exact hm.lt i l1 h hr1
  · intro i h
    have e : i ≠ id := by rintro rfl; rw [hm.fresh _ h] at hl; simp at hl
    simp only [e, if_false]; exact hm.fresh i h
  · intro b h; rw [hsz]; exact hm.sub b h
  · intro b _ hn
    exact hw b fun hr e => hn ⟨id, old, l, ho, hl, hr, e.symm⟩
  · rintro b hlt' ⟨i, blk', l1, h1, h2, h3, h4⟩
    rcases look_upd id blk mem i blk' h1 with ⟨rfl, rfl⟩ | ⟨hne, hi⟩
    · simp only [if_true, Option.some.injEq] at h2; subst h2
      exact ⟨i, old, l, ho, hl, hrr ▸ h3, hbb ▸ h4⟩
    · simp only [hne, if_false] at h2
      exact ⟨i, blk', l1, hi, h2, h3, h4⟩
end
end Go.Fx

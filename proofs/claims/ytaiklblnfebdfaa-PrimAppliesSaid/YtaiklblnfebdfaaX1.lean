/-
  Deep values, owned blocks, and the relation of an abstract state to the model's own.
  A program part is run on deep values ('D'): what is only read is a value, what is written has an owned block.
-/
import Derived.Calls
import Derived.Orders
import Derived.Scope
import Derived.Deep.MidRow
set_option linter.all false
namespace Go.Fx
open Go

/-- Deep values. 'sl': a slice that is only read, element by element, each element its cells; 'pt': a pointer to cells that are only read; 'opt', 'osl', 'oel', 'omap': into an owned block; 'top': nothing known. -/
inductive D where
  | top
  | pl (v : Value)
  | zs
  | sl (es : List (List D))
  | pt (cs : List D)
  | opt (id off : Nat)
  | osl (id ver lo n : Nat)
  | oel (id ver i off : Nat)
  | omap (id : Nat)
  | fn (f : FuncId) (caps : List D)
  | agg (cs : List D)
  | tup (vs : List D)

/-- Where an owned block lies: 'real' false: a slice that is nil. -/
structure Loc where
  arr : Bool
  real : Bool
  b : Nat
  base : Nat
  k : Nat
  ver : Nat
  size : Nat

abbrev Locs := Nat → Option Loc

/-- A slice without room. -/
def Zs (_S : Nat → Prop) (x : Value) : Prop := x = .slice none 0 0 ∨ ∃ p, x = .slice (some p) 0 0

mutual
def Rep (w : World) (S : Nat → Prop) (φ : Locs) : D → Value → Prop
  | .top, _ => True
  | .pl v, x => x = v
  | .zs, x => Zs S x
  | .sl es, x => (es = [] ∧ Zs S x) ∨ ∃ b o cap k, x = .slice (some ⟨b, o, none⟩) es.length cap ∧ es.length ≤ cap ∧ S b ∧ RepEs w S φ es k b o
  | .pt cs, x => ∃ b o, x = .pointer (some ⟨b, o, none⟩) ∧ S b ∧ RepCs w S φ cs b o
  | .opt id off, x => ∃ l, φ id = some l ∧ l.arr = false ∧ x = .pointer (some ⟨l.b, l.base + off, none⟩)
  | .osl id ver lo n, x => ∃ l, φ id = some l ∧ ver ≤ l.ver ∧ (∃ p m c, x = .slice p m c) ∧ (l.ver = ver →
      (l.real = false ∧ lo = 0 ∧ n = 0 ∧ Zs S x) ∨
      (l.real = true ∧ ∃ cap, x = .slice (some ⟨l.b, l.base + lo * l.k, none⟩) n cap ∧ n ≤ cap ∧ l.base + (lo + cap) * l.k ≤ l.size))
  | .oel id ver i off, x => ∃ l, φ id = some l ∧ ver ≤ l.ver ∧ (∃ p, x = .pointer p) ∧ (l.ver = ver → l.real = true ∧ x = .pointer (some ⟨l.b, l.base + i * l.k + off, none⟩))
  | .omap id, x => ∃ l, φ id = some l ∧ l.arr = false ∧ x = .map (some l.b)
  | .fn f caps, x => ∃ vs : Array Value, x = .func (.func f) #[] vs ∧ RepVs w S φ caps vs.toList
  | .agg cs, x => ∃ vs : Array Value, x = .agg vs ∧ RepVs w S φ cs vs.toList
  | .tup ds, x => ∃ vs : Array Value, x = .tuple vs ∧ RepVs w S φ ds vs.toList
def RepVs (w : World) (S : Nat → Prop) (φ : Locs) : List D → List Value → Prop
  | [], xs => xs = []
  | d :: ds, xs => ∃ x r, xs = x :: r ∧ Rep w S φ d x ∧ RepVs w S φ ds r
def RepCs (w : World) (S : Nat → Prop) (φ : Locs) : List D → Nat → Nat → Prop
  | [], _, _ => True
  | d :: ds, b, o => (∃ x, w.cell? ⟨b, o, none⟩ = some x ∧ Rep w S φ d x) ∧ RepCs w S φ ds b (o + 1)
def RepEs (w : World) (S : Nat → Prop) (φ : Locs) : List (List D) → Nat → Nat → Nat → Prop
  | [], _, _, _ => True
  | e :: es, k, b, o => e.length = k ∧ RepCs w S φ e b o ∧ RepEs w S φ es k b (o + k)
end

/-- What is read stays: the blocks that are only read hold what they held, and owned blocks keep their places or have a greater version. -/
structure Stays (w : World) (S : Nat → Prop) (φ : Locs) (w' : World) (S' : Nat → Prop) (φ' : Locs) : Prop where
  sub : ∀ b, S b → S' b
  cell : ∀ b, S b → ∀ o, w'.cell? ⟨b, o, none⟩ = w.cell? ⟨b, o, none⟩
  loc : ∀ id l, φ id = some l → ∃ l', φ' id = some l' ∧ (l' = l ∨ (l.arr = true ∧ l'.arr = true ∧ l.ver < l'.ver))

theorem Zs.mono {S S' : Nat → Prop} {x : Value} (h : ∀ b, S b → S' b) : Zs S x → Zs S' x
  | .inl e => .inl e
  | .inr e => .inr e

mutual
theorem Rep.mono {w w' : World} {S S' : Nat → Prop} {φ φ' : Locs} (h : Stays w S φ w' S' φ') : ∀ (d : D) (x : Value), Rep w S φ d x → Rep w' S' φ' d x
  | .top, _, _ => by simp [Rep]
  | .pl v, x, hr => by simpa [Rep] using hr
  | .zs, x, hr => by simp only [Rep] at hr ⊢; exact Zs.mono h.sub hr
  | .sl es, x, hr => by
    simp only [Rep] at hr ⊢
    rcases hr with hr | ⟨b, o, cap, k, hx, hc, hs, he⟩
    · exact .inl ⟨hr.1, Zs.mono h.sub hr.2⟩
    · exact .inr ⟨b, o, cap, k, hx, hc, h.sub b hs, RepEs.mono h es k b o (h.cell b hs) he⟩
  | .pt cs, x, hr => by
    simp only [Rep] at hr ⊢
    obtain ⟨b, o, hx, hs, hc⟩ := hr
    exact ⟨b, o, hx, h.sub b hs, RepCs.mono h cs b o (h.cell b hs) hc⟩
  | .opt id off, x, hr => by
    simp only [Rep] at hr ⊢
    obtain ⟨l, hl, ha, hx⟩ := hr
    obtain ⟨l', hl', he⟩ := h.loc id l hl
    rcases he with rfl | he
    · exact ⟨l', hl', ha, hx⟩
    · simp [ha] at he
  | .osl id ver lo n, x, hr => by
    simp only [Rep] at hr ⊢
    obtain ⟨l, hl, hv, hs, hx⟩ := hr
    obtain ⟨l', hl', he⟩ := h.loc id l hl
    rcases he with rfl | ⟨_, _, he⟩
    · refine ⟨l', hl', hv, hs, fun e => ?_⟩
      rcases hx e with ⟨h1, h2, h3, h4⟩ | h1
      · exact .inl ⟨h1, h2, h3, Zs.mono h.sub h4⟩
      · exact .inr h1
    · exact ⟨l', hl', by omega, hs, fun e => by omega⟩
  | .oel id ver i off, x, hr => by
    simp only [Rep] at hr ⊢
    obtain ⟨l, hl, hv, hs, hx⟩ := hr
    obtain ⟨l', hl', he⟩ := h.loc id l hl
    rcases he with rfl | ⟨_, _, he⟩
    · exact ⟨l', hl', hv, hs, hx⟩
    · exact ⟨l', hl', by omega, hs, fun e => by omega⟩
  | .omap id, x, hr => by
    simp only [Rep] at hr ⊢
    obtain ⟨l, hl, ha, hx⟩ := hr
    obtain ⟨l', hl', he⟩ := h.loc id l hl
    rcases he with rfl | he
    · exact ⟨l', hl', ha, hx⟩
    · simp [ha] at he
  | .fn f caps, x, hr => by
    simp only [Rep] at hr ⊢
    obtain ⟨vs, hx, hv⟩ := hr
    exact ⟨vs, hx, RepVs.mono h caps _ hv⟩
  | .agg cs, x, hr => by
    simp only [Rep] at hr ⊢
    obtain ⟨vs, hx, hv⟩ := hr
    exact ⟨vs, hx, RepVs.mono h cs _ hv⟩
  | .tup cs, x, hr => by
    simp only [Rep] at hr ⊢
    obtain ⟨vs, hx, hv⟩ := hr
    exact ⟨vs, hx, RepVs.mono h cs _ hv⟩
theorem RepVs.mono {w w' : World} {S S' : Nat → Prop} {φ φ' : Locs} (h : Stays w S φ w' S' φ') : ∀ (ds : List D) (xs : List Value), RepVs w S φ ds xs → RepVs w' S' φ' ds xs
  | [], xs, hr => by simpa [RepVs] using hr
  | d :: ds, xs, hr => by
    simp only [RepVs] at hr ⊢
    obtain ⟨x, r, hx, h1, h2⟩ := hr
    exact ⟨x, r, hx, Rep.mono h d x h1, RepVs.mono h ds r h2⟩
theorem RepCs.mono {w w' : World} {S S' : Nat → Prop} {φ φ' : Locs} (h : Stays w S φ w' S' φ') : ∀ (ds : List D) (b o : Nat), (∀ o, w'.cell? ⟨b, o, none⟩ = w.cell? ⟨b, o, none⟩) → RepCs w S φ ds b o → RepCs w' S' φ' ds b o
  | [], b, o, _, hr => by simp [RepCs]
  | d :: ds, b, o, hs, hr => by
    simp only [RepCs] at hr ⊢
    obtain ⟨⟨x, hx, h1⟩, h2⟩ := hr
    exact ⟨⟨x, by rw [hs]; exact hx, Rep.mono h d x h1⟩, RepCs.mono h ds b (o + 1) hs h2⟩
theorem RepEs.mono {w w' : World} {S S' : Nat → Prop} {φ φ' : Locs} (h : Stays w S φ w' S' φ') : ∀ (es : List (List D)) (k b o : Nat), (∀ o, w'.cell? ⟨b, o, none⟩ = w.cell? ⟨b, o, none⟩) → RepEs w S φ es k b o → RepEs w' S' φ' es k b o
  | [], k, b, o, _, hr => by simp [RepEs]
  | e :: es, k, b, o, hs, hr => by
    simp only [RepEs] at hr ⊢
    obtain ⟨h0, h1, h2⟩ := hr
    exact ⟨h0, RepCs.mono h e b o hs h1, RepEs.mono h es k b (o + k) hs h2⟩
end

/-! ### States -/
def look {α : Type} : List (Nat × α) → Nat → Option α
  | [], _ => none
  | (k, d) :: e, j => if k = j then some d else look e j

def upd {α : Type} : List (Nat × α) → Nat → α → List (Nat × α)
  | [], _, _ => []
  | (k, x) :: e, j, d => if k = j then (k, d) :: e else (k, x) :: upd e j d

@[simp] theorem upd_nil {α : Type} (j : Nat) (d : α) : upd ([] : List (Nat × α)) j d = [] := (rfl)

theorem look_upd {α : Type} (j : Nat) (d : α) : ∀ (e : List (Nat × α)) (i : Nat) (x : α), look (upd e j d) i = some x → (i = j ∧ x = d) ∨ (i ≠ j ∧ look e i = some x)
  | [], i, x, h => by simp [upd, look] at h
  | (k, y) :: e, i, x, h => by
    simp only [upd] at h
    by_cases hk : k = j
    · simp only [hk, if_true, look] at h
      by_cases hi : j = i
      · simp only [hi, if_true, Option.some.injEq] at h; exact .inl ⟨hi.symm, h.symm⟩
      · simp only [hi, if_false] at h
        exact .inr ⟨fun e => hi e.symm, by simp only [look, hk, hi, if_false]; exact h⟩
    · simp only [hk, if_false, look] at h
      by_cases hi : k = i
      · simp only [hi, if_true, Option.some.injEq] at h
        exact .inr ⟨fun e => hk (hi.trans e), by simp only [look, hi, if_true, h]⟩
      · simp only [hi, if_false] at h
        rcases look_upd j d e i x h with h' | ⟨h1, h2⟩
        · exact .inl h'
        · exact .inr ⟨h1, by simp only [look, hi, if_false]; exact h2⟩

theorem look_upd_same {α : Type} (j : Nat) (d x : α) : ∀ (e : List (Nat × α)), look e j = some x → look (upd e j d) j = some d
  | [], h => by simp [look] at h
  | (k, y) :: e, h => by
    simp only [look] at h
    by_cases hk : k = j
    · simp [upd, look, hk]
    · simp only [hk, if_false] at h
      simp only [upd, hk, if_false, look]; exact look_upd_same j d x e h

theorem look_upd_ne {α : Type} {j i : Nat} (d : α) (hne : i ≠ j) : ∀ (e : List (Nat × α)), look (upd e j d) i = look e i
  | [] => rfl
  | (k, y) :: e => by
    by_cases hk : k = j
    · subst hk; simp only [upd, if_true, look]; rw [if_neg (fun e => hne e.symm), if_neg (fun e => hne e.symm)]
    · simp only [upd, hk, if_false, look, look_upd_ne d hne e]

/-- Owned blocks: a variable's cells; the row behind slices (its version, the cells of an element, the elements); a map. -/
inductive Blk where
  | box (cs : List D)
  | arr (ver k : Nat) (es : List (List D))
  | map (es : List (Value × D))

abbrev Mem := List (Nat × Blk)
abbrev Env := List (Nat × D)

/-- What a function's text is run with: the program, how many slots, which of them are variables, which operations' results are owned. -/
structure Cfg where
  P : Program
  n : Nat
  gs : List Nat
  own : List Nat

structure St where
  env : Env
  tl : Env
  mem : Mem
  nx : Nat

/-- A map's entries, in the order in which they came. -/
def RepMs (w : World) (S : Nat → Prop) (φ : Locs) : List (Value × D) → List MapEntry → Prop
  | [], ms => ms = []
  | e :: es, ms => ∃ m r, ms = m :: r ∧ m.key = e.1 ∧ Rep w S φ e.2 m.val ∧ RepMs w S φ es r

theorem RepMs.mono {w w' : World} {S S' : Nat → Prop} {φ φ' : Locs} (h : Stays w S φ w' S' φ') : ∀ (es : List (Value × D)) (ms : List MapEntry), RepMs w S φ es ms → RepMs w' S' φ' es ms
  | [], ms, hr => hr
  | e :: es, ms, ⟨m, r, h1, h2, h3, h4⟩ => ⟨m, r, h1, h2, Rep.mono h _ _ h3, RepMs.mono h es r h4⟩

def BRep (w : World) (S : Nat → Prop) (φ : Locs) (l : Loc) : Blk → Prop
  | .box cs => l.real = true ∧ l.arr = false ∧ l.base = 0 ∧ (∃ c t, w.heap[l.b]? = some (.cells c t (0, 0)) ∧ c.size = cs.length) ∧ RepCs w S φ cs l.b 0
  | .arr ver k es => l.arr = true ∧ l.ver = ver ∧ l.k = k ∧ ((l.real = false ∧ es = []) ∨
      (l.real = true ∧ (∃ c t, w.heap[l.b]? = some (.cells c t (0, 0)) ∧ c.size = l.size) ∧ l.base + es.length * k ≤ l.size ∧ RepEs w S φ es k l.b l.base))
  | .map es => l.real = true ∧ l.arr = false ∧ ∃ (ms : Array MapEntry) (clock : Nat), w.heap[l.b]? = some (.map ms clock) ∧ RepMs w S φ es ms.toList

structure MSim (S : Nat → Prop) (φ : Locs) (mem : Mem) (nx : Nat) (w : World) : Prop where
  mem : ∀ id blk, look mem id = some blk → ∃ l, φ id = some l ∧ (l.real = true → ¬ S l.b) ∧ BRep w S φ l blk
  inj : ∀ i j l m, φ i = some l → φ j = some m → l.real = true → m.real = true → l.b = m.b → i = j
  lt : ∀ i l, φ i = some l → l.real = true → l.b < w.heap.size
  fresh : ∀ i, nx ≤ i → φ i = none
  sub : ∀ b, S b → b < w.heap.size

structure Sim (C : Cfg) (S : Nat → Prop) (φ : Locs) (s : St) (a : Act) (w : World) : Prop where
  size : a.tmps.size = C.n
  defers : a.defers = []
  env : ∀ j d, j ∈ C.gs → look s.env j = some d → Rep w S φ d (a.tmps.getD j undef)
  tl : ∀ j d, j ∉ C.gs → look s.tl j = some d → Rep w S φ d (a.tmps.getD j undef)
  m : MSim S φ s.mem s.nx w

def Own (φ : Locs) (mem : Mem) (b : Nat) : Prop := ∃ id blk l, look mem id = some blk ∧ φ id = some l ∧ l.real = true ∧ l.b = b

structure Ext (S : Nat → Prop) (φ : Locs) (mem : Mem) (w : World) (S' : Nat → Prop) (φ' : Locs) (mem' : Mem) (w' : World) : Prop where
  sub : ∀ b, S b → S' b
  keep : ∀ b, b < w.heap.size → ¬ Own φ mem b → w'.heap[b]? = w.heap[b]?
  size : w.heap.size ≤ w'.heap.size
  own : ∀ b, b < w.heap.size → Own φ' mem' b → Own φ mem b
  news : ∀ b, S' b → S b ∨ w.heap.size ≤ b ∨ Own φ mem b
  os : w'.os = w.os
  output : w'.output = w.output
  tape : w'.tape = w.tape

theorem Ext.refl (S : Nat → Prop) (φ : Locs) (mem : Mem) (w : World) : Ext S φ mem w S φ mem w :=
  ⟨fun _ h => h, fun _ _ _ => rfl, Nat.le_refl _, fun _ _ h => h, fun _ h => .inl h, rfl, rfl, rfl⟩

theorem Ext.trans {S S1 S2 : Nat → Prop} {φ φ1 φ2 : Locs} {m m1 m2 : Mem} {w w1 w2 : World} (h : Ext S φ m w S1 φ1 m1 w1) (k : Ext S1 φ1 m1 w1 S2 φ2 m2 w2) :
    Ext S φ m w S2 φ2 m2 w2 where
  sub b hb := k.sub b (h.sub b hb)
  keep b hb ho := (k.keep b (Nat.lt_of_lt_of_le hb h.size) fun e => ho (h.own b hb e)).trans (h.keep b hb ho)
  size := Nat.le_trans h.size k.size
  own b hb ho := h.own b hb (k.own b (Nat.lt_of_lt_of_le hb h.size) ho)
  news b hb := by
    rcases k.news b hb with h1 | h1 | h1
    · exact h.news b h1
    · exact .inr (.inl (Nat.le_trans h.size h1))
    · by_cases hlt : b < w.heap.size
      · exact .inr (.inr (h.own b hlt h1))
      · exact .inr (.inl (by omega))
  os := k.os.trans h.os
  output := k.output.trans h.output
  tape := k.tape.trans h.tape

/-- Owned blocks keep their places or have a greater version; below N no number is taken; the next one is N or more. -/
structure Grow (N : Nat) (φ φ' : Locs) (nx' : Nat) : Prop where
  le : N ≤ nx'
  low : ∀ i, i < N → φ i = none → φ' i = none
  loc : ∀ id l, φ id = some l → ∃ l', φ' id = some l' ∧ (l' = l ∨ (l.arr = true ∧ l'.arr = true ∧ l.ver < l'.ver))

theorem Grow.refl {N nx : Nat} {φ : Locs} (h : N ≤ nx) : Grow N φ φ nx := ⟨h, fun _ _ h => h, fun _ l h => ⟨l, h, .inl rfl⟩⟩
theorem Grow.trans {N n1 n2 : Nat} {φ φ1 φ2 : Locs} (h : Grow N φ φ1 n1) (k : Grow N φ1 φ2 n2) : Grow N φ φ2 n2 where
  le := k.le
  low i hi hn := k.low i hi (h.low i hi hn)
  loc id l hl := by
    obtain ⟨l1, h1, h2⟩ := h.loc id l hl
    obtain ⟨l2, k1, k2⟩ := k.loc id l1 h1
    refine ⟨l2, k1, ?_⟩
    rcases h2 with rfl | ⟨a1, a2, a3⟩
    · exact k2
    · rcases k2 with rfl | ⟨b1, b2, b3⟩
      · exact .inr ⟨a1, a2, a3⟩
      · exact .inr ⟨a1, b2, by omega⟩

/-- Behind a piece of code: some state that Q allows. -/
def Post (C : Cfg) (N : Nat) (S : Nat → Prop) (φ : Locs) (mem : Mem) (w : World) (Q : Exit → St → Prop) : Exit → Act → World → Prop :=
  fun e a' w' => ∃ s' S' φ', Q e s' ∧ Sim C S' φ' s' a' w' ∧ Ext S φ mem w S' φ' s'.mem w' ∧ Grow N φ φ' s'.nx

theorem Post.trans {C : Cfg} {N n1 : Nat} {S S1 : Nat → Prop} {φ φ1 : Locs} {m m1 : Mem} {w w1 : World} {Q : Exit → St → Prop} (h : Ext S φ m w S1 φ1 m1 w1) (g : Grow N φ φ1 n1) {e : Exit} {a : Act} {w2 : World}
    (hp : Post C N S1 φ1 m1 w1 Q e a w2) : Post C N S φ m w Q e a w2 :=
  let ⟨s', S', φ', hq, hs, hx, hg⟩ := hp
  ⟨s', S', φ', hq, hs, h.trans hx, g.trans hg⟩

/-- From state s the code c comes, on every schedule, to a way out and a state that Q allows. -/
def T (C : Cfg) (c : Code) (Q : Exit → St → Prop) (s : St) : Prop :=
  ∀ N S φ a w, N ≤ s.nx → Sim C S φ s a w → c.wp C.P (Post C N S φ s.mem w Q) a w

theorem Oper.wp_monoQ {P : Program} {Q Q' : Exit → Act → World → Prop} {o : Oper} {a : Act} {w : World} {K K' : Act → World → Prop} (h : ∀ a w, K a w → K' a w) (hq : ∀ e a w, Q e a w → Q' e a w)
    (hh : o.wp P a w K Q) : o.wp P a w K' Q' := by
  unfold Oper.wp at *
  generalize (execOp a.eval o).run P w = r at *
  cases r with
  | ok x w' =>
    cases x <;> simp only [Oper.upon] at hh ⊢ <;>
      first
        | exact h _ _ hh
        | exact Calls.mono hh (fun e w'' he => by
            cases e
            · exact h _ _ he
            · exact hq _ _ _ he
            · obtain ⟨a0, w0, h0⟩ := he; exact ⟨a0, w0, hq _ _ _ h0⟩)
        | exact Rows.mono hh (fun _ _ he => h _ _ he)
  | halt x w' => cases x <;> simp only [Oper.upon] at hh ⊢ <;> first | exact hq _ _ _ hh | exact hh

theorem wpOps_mono {P : Program} {ops : Array Oper} {Q Q' : Exit → Act → World → Prop} (hq : ∀ e a w, Q e a w → Q' e a w) : ∀ (l : List Nat) (a : Act) (w : World), wpOps P ops Q l a w → wpOps P ops Q' l a w
  | [], a, w, h => hq _ _ _ h
  | i :: l, a, w, h => by
    rw [wpOps_cons] at h ⊢
    unfold wpOp at h ⊢
    cases ho : ops[i]? with
    | none => simp only [ho] at h ⊢; exact wpOps_mono hq l _ _ h
    | some o =>
      simp only [ho] at h ⊢
      split
      · rename_i hw
        simp only [hw, if_true] at h
        rcases h with h | ⟨h1, a0, w0, h0⟩
        · exact .inl (Oper.wp_monoQ (fun a w => wpOps_mono hq l a w) hq h)
        · exact .inr ⟨h1, a0, w0, hq _ _ _ h0⟩
      · rename_i hw
        simp only [hw] at h
        exact wpOps_mono hq l _ _ h

section rules
variable {C : Cfg} {Q : Exit → St → Prop} {s : St}

theorem T_mono {c : Code} {Q' : Exit → St → Prop} (hq : ∀ e s, Q e s → Q' e s) (h : T C c Q s) : T C c Q' s :=
  fun N S φ a w hn hs => wp_mono (h N S φ a w hn hs) fun e a w ⟨s', S', φ', q, r⟩ => ⟨s', S', φ', hq _ _ q, r⟩

theorem T_skip (h : Q .normal s) : T C .skip Q s := fun N S φ a w hn hs => wp_skip ⟨s, S, φ, h, hs, Ext.refl .., Grow.refl hn⟩
theorem T_label {l : Nat} (h : Q .normal s) : T C (.label l) Q s := fun N S φ a w hn hs => wp_label ⟨s, S, φ, h, hs, Ext.refl .., Grow.refl hn⟩
theorem T_exit {id : Nat} (h : Q (.exit id) s) : T C (.exit id) Q s := fun N S φ a w hn hs => wp_exit ⟨s, S, φ, h, hs, Ext.refl .., Grow.refl hn⟩
theorem T_goto {id : Nat} (h : Q (.goto id) s) : T C (.goto id) Q s := fun N S φ a w hn hs => wp_goto ⟨s, S, φ, h, hs, Ext.refl .., Grow.refl hn⟩
theorem T_ret (h : Q .ret s) : T C .ret Q s := fun N S φ a w hn hs => wp_ret ⟨s, S, φ, h, hs, Ext.refl .., Grow.refl hn⟩

def thenQ (next : St → Prop) (Q : Exit → St → Prop) : Exit → St → Prop
  | .normal, s => next s
  | e, s => Q e s

theorem T_seq {x y : Code} (h : T C x (thenQ (T C y Q) Q) s) : T C (.seq x y) Q s := by
  intro N S φ a w hn hs
  refine wp_seq (wp_mono (h N S φ a w hn hs) ?_)
  rintro e a' w' ⟨s', S', φ', hq, hs', hx, hg⟩
  cases e with
  | normal => exact wp_mono (hq N S' φ' a' w' hg.le hs') fun e a w hp => hp.trans hx hg
  | _ => exact ⟨s', S', φ', hq, hs', hx, hg⟩

def blockQ (id : Nat) (Q : Exit → St → Prop) : Exit → St → Prop
  | .exit id', s => if id' = id then Q .normal s else Q (.exit id') s
  | e, s => Q e s

theorem T_block {id : Nat} {c : Code} (h : T C c (blockQ id Q) s) : T C (.block id c) Q s := by
  intro N S φ a w hn hs
  refine wp_block (wp_mono (h N S φ a w hn hs) ?_)
  rintro e a' w' ⟨s', S', φ', hq, hs', hx⟩
  cases e with
  | exit id' =>
    simp only [blockQ] at hq
    simp only [Exit.inBlock]
    split
    · rename_i h; simp only [h, if_true] at hq; exact ⟨s', S', φ', hq, hs', hx⟩
    · rename_i h; simp only [h, if_false] at hq; exact ⟨s', S', φ', hq, hs', hx⟩
  | _ => exact ⟨s', S', φ', hq, hs', hx⟩

/-- A scope through which the run goes without a goto. -/
def straightQ (Q : Exit → St → Prop) : Exit → St → Prop
  | .goto _, _ => False
  | e, s => Q e s

theorem T_scope {c : Code} (h : T C c (straightQ Q) s) : T C (.scope c) Q s := by
  intro N S φ a w hn hs
  refine wp_scope_straight (wp_mono (h N S φ a w hn hs) ?_)
  rintro e a' w' ⟨s', S', φ', hq, hs', hx⟩
  cases e with
  | goto l => exact hq.elim
  | _ => exact ⟨s', S', φ', hq, hs', hx⟩

/-- A state may be seen as another one (less known, blocks let go or only read from now on). -/
def Wk (C : Cfg) (s s' : St) : Prop := ∀ N S φ a w, N ≤ s.nx → Sim C S φ s a w → ∃ S' φ', Sim C S' φ' s' a w ∧ Ext S φ s.mem w S' φ' s'.mem w ∧ Grow N φ φ' s'.nx

theorem Wk.refl : Wk C s s := fun N S φ _ _ hn h => ⟨S, φ, h, Ext.refl .., Grow.refl hn⟩
theorem Wk.trans {s1 s2 : St} (h : Wk C s s1) (k : Wk C s1 s2) : Wk C s s2 := fun N S φ a w hn hs =>
  let ⟨S1, φ1, h1, x1, g1⟩ := h N S φ a w hn hs
  let ⟨S2, φ2, h2, x2, g2⟩ := k N S1 φ1 a w g1.le h1
  ⟨S2, φ2, h2, x1.trans x2, g1.trans g2⟩

theorem T_weaken {c : Code} {s' : St} (h : Wk C s s') (k : T C c Q s') : T C c Q s := fun N S φ a w hn hs =>
  let ⟨S', φ', hs', hx, hg⟩ := h N S φ a w hn hs
  wp_mono (k N S' φ' a w hg.le hs') fun _ _ _ hp => hp.trans hx hg

theorem least {p : Nat → Prop} (h : ∃ m, p m) : ∃ m, p m ∧ ∀ k, p k → m ≤ k := by
  obtain ⟨m, hm⟩ := h
  induction m using Nat.strongRecOn with
  | _ m ih =>
    by_cases hk : ∃ k, k < m ∧ p k
    · obtain ⟨k, hlt, hp⟩ := hk; exact ih k hlt hp
    · exact ⟨m, hm, fun k hp => Nat.le_of_not_lt fun hlt => hk ⟨k, hlt, hp⟩⟩

theorem T_loop {α : Type} {c : Code} (st : α → St) (inv : α → Prop) (μ : α → Nat)
    (round : ∀ x, inv x → T C c (thenQ (fun s' => ∃ y, inv y ∧ μ y < μ x ∧ Wk C s' (st y)) Q) (st x)) (x0 : α) (h0 : inv x0) : T C (.loop c) Q (st x0) := by
  intro N S0 φ0 a0 w0 hn0 hs0
  classical
  let R : Nat → Act → World → Prop := fun m a w => ∃ x S φ, inv x ∧ μ x = m ∧ Sim C S φ (st x) a w ∧ Ext S0 φ0 (st x0).mem w0 S φ (st x).mem w ∧ Grow N φ0 φ (st x).nx
  let M : Act → World → Nat := fun a w => if h : ∃ m, R m a w then Classical.choose (least h) else 0
  refine wp_loop (fun a w => ∃ m, R m a w) M ⟨μ x0, x0, S0, φ0, h0, rfl, hs0, Ext.refl .., Grow.refl hn0⟩ ?_
  intro a w hI
  have hM : M a w = Classical.choose (least hI) := by simp only [M, dif_pos hI]
  obtain ⟨x, S, φ, hix, hmx, hsx, hex, heg⟩ := (Classical.choose_spec (least hI)).1
  refine wp_mono (round x hix N S φ a w heg.le hsx) ?_
  rintro e a' w' ⟨s', S', φ', hq, hs', hx, hg⟩
  cases e with
  | normal =>
    obtain ⟨y, hiy, hlt, hwk⟩ := hq
    obtain ⟨S2, φ2, hs2, hx2, hg2⟩ := hwk N S' φ' a' w' hg.le hs'
    have hR : R (μ y) a' w' := ⟨y, S2, φ2, hiy, rfl, hs2, (hex.trans hx).trans hx2, (heg.trans hg).trans hg2⟩
    refine ⟨⟨_, hR⟩, ?_⟩
    have hE : ∃ m, R m a' w' := ⟨_, hR⟩
    have h1 : M a' w' = Classical.choose (least hE) := by simp only [M, dif_pos hE]
    have h2 := (Classical.choose_spec (least hE)).2 _ hR
    show M a' w' < M a w
    rw [h1, hM, ← hmx]
    exact Nat.lt_of_le_of_lt h2 hlt
  | _ => exact ⟨s', S', φ', hq, hs', hex.trans hx, heg.trans hg⟩
end rules
end Go.Fx

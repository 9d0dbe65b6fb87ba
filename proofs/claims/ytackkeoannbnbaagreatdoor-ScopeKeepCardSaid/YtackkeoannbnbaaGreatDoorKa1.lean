/- Joined texts of this claim. No condition. -/
import Derived.Calls
import Derived.Laws.IdiomStrings
import Derived.Orders
import Derived.Scope
import Derived.Deep.MidRow
import Derived.RangeFuncLeaves
import Derived.RangeFuncNested
import Derived.OrdersIn
import Derived.MapKept
import Derived.IntWalk
import Derived.KernelRfl
import Derived.Laws.Strings
import Derived.ChangeOld
import Derived.ChangeBears
import Derived.Handed
import Derived.DataReads
import Derived.OpenShut
import Derived.WalkKit
import Derived.ProofKit
import Derived.ShutString
import Derived.Below
import Derived.Carry
import Derived.SizedLaws
import Derived.JoinedOf
import Derived.Test.YtackkeoannbnbaaGreatDoorCards
import Derived.Test.YtackkeoannbnbaaGreatDoorTie
import Derived.Shelf.SlGeneric
import Derived.Shelf.SlIter.Nil
import Derived.Shelf.SortM.Plain
import Derived.Shelf.SortM.SortNone
import Derived.Ground.GgzProg
import Derived.Ground.SlgmProg
import Derived.Shelf.Strconv.Itoa3
import Derived.Shelf.LaysM
import Derived.Ground.NamesProg
import Derived.Test.YtackkeoannbnbaaGreatDoorProg
import Derived.Laws.FloatArith
import Derived.Sort.KeysCollected
import Derived.Lib.LaidTab
import Derived.MakeChecks
import Derived.Stop.Joined
import Derived.Test.YtackkeoannbnbaaGreatDoorChecked
import Derived.Sort.Walk0
import Derived.Lay
import Derived.LaidMore
import Derived.LaidLaws
import Derived.SevenTiedAt
set_option linter.all false
namespace Go.Fx
open Go
inductive D where
 | top
 | pl (v : Value)
 | zs
 | sl (es : List (List D))
 | pt (cs : List D)
 | opt (id off : Nat)
 | osl (id ver lo n : Nat)
 | oel (id ver i off : Nat)
 | omap (id : Nat)
 | fn (f : FuncId) (caps : List D)
 | agg (cs : List D)
 | tup (vs : List D)
structure Loc where
 arr : Bool
 real : Bool
 b : Nat
 base : Nat
 k : Nat
 ver : Nat
 size : Nat
abbrev aW := Nat → Option Loc
def Zs (_S : Nat → Prop) (x : Value) : Prop := x = .slice none 0 0 ∨ ∃ p, x = .slice (some p) 0 0
mutual
def Rep (w : World) (S : Nat → Prop) (φ : aW) : D → Value → Prop
 | .top, _ => True
 | .pl v, x => x = v
 | .zs, x => Zs S x
 | .sl es, x => (es = [] ∧ Zs S x) ∨ ∃ b o cap k, x = .slice (some ⟨b, o, none⟩) es.length cap ∧ es.length ≤ cap ∧ S b ∧ RepEs w S φ es k b o
 | .pt cs, x => ∃ b o, x = .pointer (some ⟨b, o, none⟩) ∧ S b ∧ RepCs w S φ cs b o
 | .opt id off, x => ∃ l, φ id = some l ∧ l.arr = false ∧ x = .pointer (some ⟨l.b, l.base + off, none⟩)
 | .osl id ver lo n, x => ∃ l, φ id = some l ∧ ver ≤ l.ver ∧ (∃ p m c, x = .slice p m c) ∧ (l.ver = ver →
   (l.real = false ∧ lo = 0 ∧ n = 0 ∧ Zs S x) ∨
   (l.real = true ∧ ∃ cap, x = .slice (some ⟨l.b, l.base + lo * l.k, none⟩) n cap ∧ n ≤ cap ∧ l.base + (lo + cap) * l.k ≤ l.size) ∨
   (l.real = true ∧ n = 0 ∧ 0 < lo ∧ ∃ o c, x = .slice (some ⟨l.b, o, none⟩) 0 c))
 | .oel id ver i off, x => ∃ l, φ id = some l ∧ ver ≤ l.ver ∧ (∃ p, x = .pointer p) ∧ (l.ver = ver → l.real = true ∧ x = .pointer (some ⟨l.b, l.base + i * l.k + off, none⟩))
 | .omap id, x => ∃ l, φ id = some l ∧ l.arr = false ∧ x = .map (some l.b)
 | .fn f caps, x => ∃ vs : Array Value, x = .func (.func f) #[] vs ∧ RepVs w S φ caps vs.toList
 | .agg cs, x => ∃ vs : Array Value, x = .agg vs ∧ RepVs w S φ cs vs.toList
 | .tup ds, x => ∃ vs : Array Value, x = .tuple vs ∧ RepVs w S φ ds vs.toList
def RepVs (w : World) (S : Nat → Prop) (φ : aW) : List D → List Value → Prop
 | [], xs => xs = []
 | d :: ds, xs => ∃ x r, xs = x :: r ∧ Rep w S φ d x ∧ RepVs w S φ ds r
def RepCs (w : World) (S : Nat → Prop) (φ : aW) : List D → Nat → Nat → Prop
 | [], _, _ => True
 | d :: ds, b, o => (∃ x, w.cell? ⟨b, o, none⟩ = some x ∧ Rep w S φ d x) ∧ RepCs w S φ ds b (o + 1)
def RepEs (w : World) (S : Nat → Prop) (φ : aW) : List (List D) → Nat → Nat → Nat → Prop
 | [], _, _, _ => True
 | e :: es, k, b, o => e.length = k ∧ RepCs w S φ e b o ∧ RepEs w S φ es k b (o + k)
end
structure Stays (w : World) (S : Nat → Prop) (φ : aW) (w' : World) (S' : Nat → Prop) (φ' : aW) : Prop where
 sub : ∀ b, S b → S' b
 cell : ∀ b, S b → ∀ o, w'.cell? ⟨b, o, none⟩ = w.cell? ⟨b, o, none⟩
 loc : ∀ id l, φ id = some l → ∃ l', φ' id = some l' ∧ (l' = l ∨ (l.arr = true ∧ l'.arr = true ∧ l.ver < l'.ver))
theorem Zs.mono {S S' : Nat → Prop} {x : Value} (h : ∀ b, S b → S' b) : Zs S x → Zs S' x
 | .inl e => .inl e
 | .inr e => .inr e
mutual
theorem Rep.mono {w w' : World} {S S' : Nat → Prop} {φ φ' : aW} (h : Stays w S φ w' S' φ') : ∀ (d : D) (x : Value), Rep w S φ d x → Rep w' S' φ' d x
 | .top, _, _ => by simp [Rep]
 | .pl v, x, hr => by simpa [Rep] using hr
 | .zs, x, hr => by simp only [Rep] at hr ⊢; exact Zs.mono h.sub hr
 | .sl es, x, hr => by
  simp only [Rep] at hr ⊢
  rcases hr with hr | ⟨b, o, cap, k, hx, hc, hs, he⟩
  ·exact .inl ⟨hr.1, Zs.mono h.sub hr.2⟩
  ·exact .inr ⟨b, o, cap, k, hx, hc, h.sub b hs, RepEs.mono h es k b o (h.cell b hs) he⟩
 | .pt cs, x, hr => by
  simp only [Rep] at hr ⊢
  obtain ⟨b, o, hx, hs, hc⟩ := hr
  exact ⟨b, o, hx, h.sub b hs, RepCs.mono h cs b o (h.cell b hs) hc⟩
 | .opt id off, x, hr => by
  simp only [Rep] at hr ⊢
  obtain ⟨l, hl, ha, hx⟩ := hr
  obtain ⟨l', hl', he⟩ := h.loc id l hl
  rcases he with rfl | he
  ·exact ⟨l', hl', ha, hx⟩
  ·simp [ha] at he
 | .osl id ver lo n, x, hr => by
  simp only [Rep] at hr ⊢
  obtain ⟨l, hl, hv, hs, hx⟩ := hr
  obtain ⟨l', hl', he⟩ := h.loc id l hl
  rcases he with rfl | ⟨_, _, he⟩
  ·refine ⟨l', hl', hv, hs, fun e => ?_⟩
   rcases hx e with ⟨h1, h2, h3, h4⟩ | h1
   ·exact .inl ⟨h1, h2, h3, Zs.mono h.sub h4⟩
   ·exact .inr h1
  ·exact ⟨l', hl', by omega, hs, fun e => by omega⟩
 | .oel id ver i off, x, hr => by
  simp only [Rep] at hr ⊢
  obtain ⟨l, hl, hv, hs, hx⟩ := hr
  obtain ⟨l', hl', he⟩ := h.loc id l hl
  rcases he with rfl | ⟨_, _, he⟩
  ·exact ⟨l', hl', hv, hs, hx⟩
  ·exact ⟨l', hl', by omega, hs, fun e => by omega⟩
 | .omap id, x, hr => by
  simp only [Rep] at hr ⊢
  obtain ⟨l, hl, ha, hx⟩ := hr
  obtain ⟨l', hl', he⟩ := h.loc id l hl
  rcases he with rfl | he
  ·exact ⟨l', hl', ha, hx⟩
  ·simp [ha] at he
 | .fn f caps, x, hr => by
  simp only [Rep] at hr ⊢
  obtain ⟨vs, hx, hv⟩ := hr
  exact ⟨vs, hx, RepVs.mono h caps _ hv⟩
 | .agg cs, x, hr => by
  simp only [Rep] at hr ⊢
  obtain ⟨vs, hx, hv⟩ := hr
  exact ⟨vs, hx, RepVs.mono h cs _ hv⟩
 | .tup cs, x, hr => by
  simp only [Rep] at hr ⊢
  obtain ⟨vs, hx, hv⟩ := hr
  exact ⟨vs, hx, RepVs.mono h cs _ hv⟩
theorem RepVs.mono {w w' : World} {S S' : Nat → Prop} {φ φ' : aW} (h : Stays w S φ w' S' φ') : ∀ (ds : List D) (xs : List Value), RepVs w S φ ds xs → RepVs w' S' φ' ds xs
 | [], xs, hr => by simpa [RepVs] using hr
 | d :: ds, xs, hr => by
  simp only [RepVs] at hr ⊢
  obtain ⟨x, r, hx, h1, h2⟩ := hr
  exact ⟨x, r, hx, Rep.mono h d x h1, RepVs.mono h ds r h2⟩
theorem RepCs.mono {w w' : World} {S S' : Nat → Prop} {φ φ' : aW} (h : Stays w S φ w' S' φ') : ∀ (ds : List D) (b o : Nat), (∀ o, w'.cell? ⟨b, o, none⟩ = w.cell? ⟨b, o, none⟩) → RepCs w S φ ds b o → RepCs w' S' φ' ds b o
 | [], b, o, _, hr => by simp [RepCs]
 | d :: ds, b, o, hs, hr => by
  simp only [RepCs] at hr ⊢
  obtain ⟨⟨x, hx, h1⟩, h2⟩ := hr
  exact ⟨⟨x, by rw [hs]; exact hx, Rep.mono h d x h1⟩, RepCs.mono h ds b (o + 1) hs h2⟩
theorem RepEs.mono {w w' : World} {S S' : Nat → Prop} {φ φ' : aW} (h : Stays w S φ w' S' φ') : ∀ (es : List (List D)) (k b o : Nat), (∀ o, w'.cell? ⟨b, o, none⟩ = w.cell? ⟨b, o, none⟩) → RepEs w S φ es k b o → RepEs w' S' φ' es k b o
 | [], k, b, o, _, hr => by simp [RepEs]
 | e :: es, k, b, o, hs, hr => by
  simp only [RepEs] at hr ⊢
  obtain ⟨h0, h1, h2⟩ := hr
  exact ⟨h0, RepCs.mono h e b o hs h1, RepEs.mono h es k b (o + k) hs h2⟩
end
def look {α : Type} : List (Nat × α) → Nat → Option α
 | [], _ => none
 | (k, d) :: e, j => if k = j then some d else look e j
def upd {α : Type} : List (Nat × α) → Nat → α → List (Nat × α)
 | [], _, _ => []
 | (k, x) :: e, j, d => if k = j then (k, d) :: e else (k, x) :: upd e j d
@[simp] theorem HM {α : Type} (j : Nat) (d : α) : upd ([] : List (Nat × α)) j d = [] := (rfl)
theorem dC {α : Type} (j : Nat) (d : α) : ∀ (e : List (Nat × α)) (i : Nat) (x : α), look (upd e j d) i = some x → (i = j ∧ x = d) ∨ (i ≠ j ∧ look e i = some x)
 | [], i, x, h => by simp [upd, look] at h
 | (k, y) :: e, i, x, h => by
  simp only [upd] at h
  by_cases hk : k = j
  ·simp only [hk, if_true, look] at h
   by_cases hi : j = i
   ·simp only [hi, if_true, Option.some.injEq] at h; exact .inl ⟨hi.symm, h.symm⟩
   ·simp only [hi, if_false] at h
    exact .inr ⟨fun e => hi e.symm, by simp only [look, hk, hi, if_false]; exact h⟩
  ·simp only [hk, if_false, look] at h
   by_cases hi : k = i
   ·simp only [hi, if_true, Option.some.injEq] at h
    exact .inr ⟨fun e => hk (hi.trans e), by simp only [look, hi, if_true, h]⟩
   ·simp only [hi, if_false] at h
    rcases dC j d e i x h with h' | ⟨h1, h2⟩
    ·exact .inl h'
    ·exact .inr ⟨h1, by simp only [look, hi, if_false]; exact h2⟩
theorem nQ {α : Type} (j : Nat) (d x : α) : ∀ (e : List (Nat × α)), look e j = some x → look (upd e j d) j = some d
 | [], h => by simp [look] at h
 | (k, y) :: e, h => by
  simp only [look] at h
  by_cases hk : k = j
  ·simp [upd, look, hk]
  ·simp only [hk, if_false] at h
   simp only [upd, hk, if_false, look]; exact nQ j d x e h
theorem aZ {α : Type} {j i : Nat} (d : α) (hne : i ≠ j) : ∀ (e : List (Nat × α)), look (upd e j d) i = look e i
 | [] => rfl
 | (k, y) :: e => by
  by_cases hk : k = j
  ·subst hk; simp only [upd, if_true, look]; rw [if_neg (fun e => hne e.symm), if_neg (fun e => hne e.symm)]
  ·simp only [upd, hk, if_false, look, aZ d hne e]
inductive Blk where
 | box (cs : List D)
 | arr (ver k : Nat) (es : List (List D))
 | map (es : List (Value × D))
abbrev Mem := List (Nat × Blk)
abbrev Env := List (Nat × D)
structure Cfg where
 P : Program
 n : Nat
 gs : List Nat
 own : List Nat
structure St where
 env : Env
 tl : Env
 mem : Mem
 nx : Nat
def RepMs (w : World) (S : Nat → Prop) (φ : aW) : List (Value × D) → List MapEntry → Prop
 | [], ms => ms = []
 | e :: es, ms => ∃ m r, ms = m :: r ∧ m.key = e.1 ∧ Rep w S φ e.2 m.val ∧ RepMs w S φ es r
theorem RepMs.mono {w w' : World} {S S' : Nat → Prop} {φ φ' : aW} (h : Stays w S φ w' S' φ') : ∀ (es : List (Value × D)) (ms : List MapEntry), RepMs w S φ es ms → RepMs w' S' φ' es ms
 | [], ms, hr => hr
 | e :: es, ms, ⟨m, r, h1, h2, h3, h4⟩ => ⟨m, r, h1, h2, Rep.mono h _ _ h3, RepMs.mono h es r h4⟩
def BRep (w : World) (S : Nat → Prop) (φ : aW) (l : Loc) : Blk → Prop
 | .box cs => l.real = true ∧ l.arr = false ∧ l.base = 0 ∧ (∃ c t, w.heap[l.b]? = some (.cells c t (0, 0)) ∧ c.size = cs.length) ∧ RepCs w S φ cs l.b 0
 | .arr ver k es => l.arr = true ∧ l.ver = ver ∧ l.k = k ∧ ((l.real = false ∧ es = []) ∨
   (l.real = true ∧ (∃ c t, w.heap[l.b]? = some (.cells c t (0, 0)) ∧ c.size = l.size) ∧ l.base + es.length * k ≤ l.size ∧ RepEs w S φ es k l.b l.base))
 | .map es => l.real = true ∧ l.arr = false ∧ ∃ (ms : Array MapEntry) (clock : Nat), w.heap[l.b]? = some (.map ms clock) ∧ RepMs w S φ es ms.toList ∧ MapKept.Stamped ms clock
structure MSim (S : Nat → Prop) (φ : aW) (mem : Mem) (nx : Nat) (w : World) : Prop where
 mem : ∀ id blk, look mem id = some blk → ∃ l, φ id = some l ∧ (l.real = true → ¬ S l.b) ∧ BRep w S φ l blk
 inj : ∀ i j l m, φ i = some l → φ j = some m → l.real = true → m.real = true → l.b = m.b → i = j
 lt : ∀ i l, φ i = some l → l.real = true → l.b < w.heap.size
 fresh : ∀ i, nx ≤ i → φ i = none
 sub : ∀ b, S b → b < w.heap.size
structure Rx where
 rd : Option Nat
 B : Nat
def is20 (P : Program) (t : TypeId) : Bool :=
 match P.underlying t with
 | some (.array n e) => n == 20 && (match P.underlying e with
  | some (.int .u64) => true
  | _ => false)
 | _ => false
def powT : Array Value := ((List.range 20).map fun i => Value.int .u64 ((10 ^ i : Nat) : Int)).toArray
def TB (P : Program) (S : Nat → Prop) (w : World) : Prop := ∀ g gl, P.globals[g]? = some gl → is20 P gl.type = true → S g ∧ ∃ t f, w.heap[g]? = some (.cells powT t f)
theorem TB.mono {P : Program} {S S' : Nat → Prop} {w : World} (h : TB P S w) (hs : ∀ b, S b → S' b) : TB P S' w := fun g gl h1 h2 => ⟨hs g (h g gl h1 h2).1, (h g gl h1 h2).2⟩
theorem TB.same {P : Program} {S : Nat → Prop} {w w' : World} (h : TB P S w) (hs : ∀ b, S b → w'.heap[b]? = w.heap[b]?) : TB P S w' := fun g gl h1 h2 => by
 obtain ⟨a, t, f, b⟩ := h g gl h1 h2
 exact ⟨a, t, f, (hs g a).trans b⟩
theorem TB.none {P : Program} (h : P.globals.toList.all (fun gl => !is20 P gl.type) = true) (S : Nat → Prop) (w : World) : TB P S w := fun g gl h1 h2 => by
 have := List.all_eq_true.1 h gl (Array.mem_toList_iff.2 (Array.mem_of_getElem? h1))
 rw [h2] at this
 simp at this
structure Dfr (P : Program) (x : Rx) (S : Nat → Prop) (w : World) (ds : List Deferred) : Prop where
 nd : (ds.map (·.target)).Nodup
 marks : ∀ d ∈ ds, ∃ D, x.B ≤ D ∧ d.target = .collected D ∧ w.heap[D]? = some (.deferred (some [])) ∧ ¬ S D
 rd : ∀ l, x.rd = some l → ∃ r, w.heap[l]? = some (.loop r)
 tb : TB P S w
theorem Dfr.nil {P : Program} {B : Nat} {S : Nat → Prop} {w : World} (h : TB P S w) : Dfr P ⟨none, B⟩ S w [] := ⟨by simp, fun d h => by simp at h, fun l h => by simp at h, h⟩
structure Sim (C : Cfg) (B : Rx) (S : Nat → Prop) (φ : aW) (s : St) (a : Act) (w : World) : Prop where
 size : a.tmps.size = C.n
 defers : Dfr C.P B S w a.defers
 env : ∀ j d, j ∈ C.gs → look s.env j = some d → Rep w S φ d (a.tmps.getD j undef)
 tl : ∀ j d, j ∉ C.gs → look s.tl j = some d → Rep w S φ d (a.tmps.getD j undef)
 m : MSim S φ s.mem s.nx w
def Own (φ : aW) (mem : Mem) (b : Nat) : Prop := ∃ id blk l, look mem id = some blk ∧ φ id = some l ∧ l.real = true ∧ l.b = b
structure Ext (S : Nat → Prop) (φ : aW) (mem : Mem) (w : World) (S' : Nat → Prop) (φ' : aW) (mem' : Mem) (w' : World) : Prop where
 sub : ∀ b, S b → S' b
 keep : ∀ b, b < w.heap.size → ¬ Own φ mem b → w'.heap[b]? = w.heap[b]?
 size : w.heap.size ≤ w'.heap.size
 own : ∀ b, b < w.heap.size → Own φ' mem' b → Own φ mem b
 news : ∀ b, S' b → S b ∨ w.heap.size ≤ b ∨ Own φ mem b
 os : w'.os = w.os
 output : w'.output = w.output
 tape : w'.tape = w.tape
theorem Ext.refl (S : Nat → Prop) (φ : aW) (mem : Mem) (w : World) : Ext S φ mem w S φ mem w :=
 ⟨fun _ h => h, fun _ _ _ => rfl, Nat.le_refl _, fun _ _ h => h, fun _ h => .inl h, rfl, rfl, rfl⟩
theorem Ext.trans {S S1 S2 : Nat → Prop} {φ φ1 φ2 : aW} {m m1 m2 : Mem} {w w1 w2 : World} (h : Ext S φ m w S1 φ1 m1 w1) (k : Ext S1 φ1 m1 w1 S2 φ2 m2 w2) :
  Ext S φ m w S2 φ2 m2 w2 where
 sub b hb := k.sub b (h.sub b hb)
 keep b hb ho := (k.keep b (Nat.lt_of_lt_of_le hb h.size) fun e => ho (h.own b hb e)).trans (h.keep b hb ho)
 size := Nat.le_trans h.size k.size
 own b hb ho := h.own b hb (k.own b (Nat.lt_of_lt_of_le hb h.size) ho)
 news b hb := by
  rcases k.news b hb with h1 | h1 | h1
  ·exact h.news b h1
  ·exact .inr (.inl (Nat.le_trans h.size h1))
  ·by_cases hlt : b < w.heap.size
   ·exact .inr (.inr (h.own b hlt h1))
   ·exact .inr (.inl (by omega))
 os := k.os.trans h.os
 output := k.output.trans h.output
 tape := k.tape.trans h.tape
theorem vQ {S : Nat → Prop} {φ : aW} {mem : Mem} {nx : Nat} {w : World} {b : Nat} (hm : MSim S φ mem nx w) (h : Own φ mem b) : (∃ c t f, w.heap[b]? = some (.cells c t f)) ∨ ∃ ms k, w.heap[b]? = some (.map ms k) := by
 obtain ⟨id, blk, l, h1, h2, h3, rfl⟩ := h
 obtain ⟨l', g1, _, g3⟩ := hm.mem id blk h1
 rw [h2] at g1
 simp only [Option.some.injEq] at g1
 subst g1
 cases blk with
 | box cs =>
  simp only [BRep] at g3
  obtain ⟨_, _, _, ⟨c, t, hc, _⟩, _⟩ := g3
  exact .inl ⟨c, t, _, hc⟩
 | arr ver k es =>
  simp only [BRep] at g3
  obtain ⟨_, _, _, ⟨hr, _⟩ | ⟨_, ⟨c, t, hc, _⟩, _⟩⟩ := g3
  ·rw [h3] at hr; simp at hr
  ·exact .inl ⟨c, t, _, hc⟩
 | map es =>
  simp only [BRep] at g3
  obtain ⟨_, _, ms, k, hc, _⟩ := g3
  exact .inr ⟨ms, k, hc⟩
theorem sR {S : Nat → Prop} {φ : aW} {mem : Mem} {nx : Nat} {w : World} {b : Nat} {x : Option (List Deferred)} (hm : MSim S φ mem nx w) (h : w.heap[b]? = some (.deferred x)) : ¬ Own φ mem b := fun ho => by
 rcases vQ hm ho with ⟨c, t, f, hc⟩ | ⟨ms, k, hc⟩ <;> · rw [h] at hc; simp at hc
theorem wK {S : Nat → Prop} {φ : aW} {mem : Mem} {nx : Nat} {w : World} {b : Nat} {x : Loop} (hm : MSim S φ mem nx w) (h : w.heap[b]? = some (.loop x)) : ¬ Own φ mem b := fun ho => by
 rcases vQ hm ho with ⟨c, t, f, hc⟩ | ⟨ms, k, hc⟩ <;> · rw [h] at hc; simp at hc
theorem TB.ext {P : Program} {S S' : Nat → Prop} {φ φ' : aW} {mem mem' : Mem} {nx : Nat} {w w' : World} (h : TB P S w) (hm : MSim S φ mem nx w) (hx : Ext S φ mem w S' φ' mem' w') : TB P S' w' := by
 refine TB.mono (h.same fun b hb => hx.keep b (hm.sub b hb) ?_) hx.sub
 rintro ⟨i, blk, l, h1, h2, h3, rfl⟩
 obtain ⟨l', g1, g2, _⟩ := hm.mem i blk h1
 rw [h2] at g1; simp only [Option.some.injEq] at g1; subst g1
 exact g2 h3 hb
theorem Dfr.ext {P : Program} {B : Rx} {S S' : Nat → Prop} {φ φ' : aW} {mem mem' : Mem} {nx : Nat} {w w' : World} {ds : List Deferred} (h : Dfr P B S w ds) (hm : MSim S φ mem nx w) (hx : Ext S φ mem w S' φ' mem' w') : Dfr P B S' w' ds :=
 ⟨h.1, fun d hd => by
  obtain ⟨D, h1, h2, h3, h4⟩ := h.marks d hd
  have hlt : D < w.heap.size := (Array.getElem?_eq_some_iff.1 h3).1
  refine ⟨D, h1, h2, (hx.keep D hlt (sR hm h3)).trans h3, fun hs => ?_⟩
  rcases hx.news D hs with g | g | g
  ·exact h4 g
  ·omega
  ·exact sR hm h3 g, fun l hl => by
  obtain ⟨r, hr⟩ := h.rd l hl
  exact ⟨r, (hx.keep l (Array.getElem?_eq_some_iff.1 hr).1 (wK hm hr)).trans hr⟩, h.tb.ext hm hx⟩
structure Grow (N : Nat) (φ φ' : aW) (nx' : Nat) : Prop where
 le : N ≤ nx'
 low : ∀ i, i < N → φ i = none → φ' i = none
 loc : ∀ id l, φ id = some l → ∃ l', φ' id = some l' ∧ (l' = l ∨ (l.arr = true ∧ l'.arr = true ∧ l.ver < l'.ver))
theorem Grow.refl {N nx : Nat} {φ : aW} (h : N ≤ nx) : Grow N φ φ nx := ⟨h, fun _ _ h => h, fun _ l h => ⟨l, h, .inl rfl⟩⟩
theorem Grow.trans {N n1 n2 : Nat} {φ φ1 φ2 : aW} (h : Grow N φ φ1 n1) (k : Grow N φ1 φ2 n2) : Grow N φ φ2 n2 where
 le := k.le
 low i hi hn := k.low i hi (h.low i hi hn)
 loc id l hl := by
  obtain ⟨l1, h1, h2⟩ := h.loc id l hl
  obtain ⟨l2, k1, k2⟩ := k.loc id l1 h1
  refine ⟨l2, k1, ?_⟩
  rcases h2 with rfl | ⟨a1, a2, a3⟩
  ·exact k2
  ·rcases k2 with rfl | ⟨b1, b2, b3⟩
   ·exact .inr ⟨a1, a2, a3⟩
   ·exact .inr ⟨a1, b2, by omega⟩
def Post (C : Cfg) (B : Rx) (N : Nat) (S : Nat → Prop) (φ : aW) (mem : Mem) (w : World) (Q : Exit → St → Prop) : Exit → Act → World → Prop :=
 fun e a' w' => ∃ s' S' φ', Q e s' ∧ Sim C B S' φ' s' a' w' ∧ Ext S φ mem w S' φ' s'.mem w' ∧ Grow N φ φ' s'.nx
theorem Post.trans {C : Cfg} {B : Rx} {N n1 : Nat} {S S1 : Nat → Prop} {φ φ1 : aW} {m m1 : Mem} {w w1 : World} {Q : Exit → St → Prop} (h : Ext S φ m w S1 φ1 m1 w1) (g : Grow N φ φ1 n1) {e : Exit} {a : Act} {w2 : World}
  (hp : Post C B N S1 φ1 m1 w1 Q e a w2) : Post C B N S φ m w Q e a w2 :=
 let ⟨s', S', φ', hq, hs, hx, hg⟩ := hp
 ⟨s', S', φ', hq, hs, h.trans hx, g.trans hg⟩
def FrR (rd : Option Nat) : Fence := { fn := fun _ => True, depth := none, alive := false, round := rd }
def T (C : Cfg) (c : Code) (Q : Exit → St → Prop) (s : St) : Prop :=
 ∀ (x : Rx) N S φ a w, N ≤ s.nx → x.B ≤ w.heap.size → Sim C x S φ s a w → c.wpIn (FrR x.rd) 0 C.P (Post C x N S φ s.mem w Q) a w
theorem Oper.wp_monoQ {P : Program} {Q Q' : Exit → Act → World → Prop} {o : Oper} {a : Act} {w : World} {K K' : Act → World → Prop} (h : ∀ a w, K a w → K' a w) (hq : ∀ e a w, Q e a w → Q' e a w)
  (hh : o.wp P a w K Q) : o.wp P a w K' Q' := by
 unfold Oper.wp at *
 generalize (execOp a.eval o).run P w = r at *
 cases r with
 | ok x w' =>
  cases x <;> simp only [Oper.upon] at hh ⊢ <;>
   first
    | exact h _ _ hh
    | exact Calls.mono hh (fun e w'' he => by
      cases e
      ·exact h _ _ he
      ·exact hq _ _ _ he
      ·obtain ⟨a0, w0, h0⟩ := he; exact ⟨a0, w0, hq _ _ _ h0⟩)
    | exact Rows.mono hh (fun _ _ he => h _ _ he)
 | halt x w' => cases x <;> simp only [Oper.upon] at hh ⊢ <;> first | exact hq _ _ _ hh | exact hh
theorem j_ {P : Program} {ops : Array Oper} {Q Q' : Exit → Act → World → Prop} (hq : ∀ e a w, Q e a w → Q' e a w) : ∀ (l : List Nat) (a : Act) (w : World), wpOps P ops Q l a w → wpOps P ops Q' l a w
 | [], a, w, h => hq _ _ _ h
 | i :: l, a, w, h => by
  rw [wpOps_cons] at h ⊢
  unfold wpOp at h ⊢
  cases ho : ops[i]? with
  | none => simp only [ho] at h ⊢; exact j_ hq l _ _ h
  | some o =>
   simp only [ho] at h ⊢
   split
   ·rename_i hw
    simp only [hw, if_true] at h
    rcases h with h | ⟨h1, a0, w0, h0⟩
    ·exact .inl (Oper.wp_monoQ (fun a w => j_ hq l a w) hq h)
    ·exact .inr ⟨h1, a0, w0, hq _ _ _ h0⟩
   ·rename_i hw
    simp only [hw] at h
    exact j_ hq l _ _ h
section rules
variable {C : Cfg} {Q : Exit → St → Prop} {s : St}
theorem rF {c : Code} {Q' : Exit → St → Prop} (hq : ∀ e s, Q e s → Q' e s) (h : T C c Q s) : T C c Q' s :=
 fun x N S φ a w hn hB hs => wpIn_mono (h x N S φ a w hn hB hs) fun e a w ⟨s', S', φ', q, r⟩ => ⟨s', S', φ', hq _ _ q, r⟩
theorem T_skip (h : Q .normal s) : T C .skip Q s := fun x N S φ a w hn hB hs => wpIn_skip ⟨s, S, φ, h, hs, Ext.refl .., Grow.refl hn⟩
theorem FY {l : Nat} (h : Q .normal s) : T C (.label l) Q s := fun x N S φ a w hn hB hs => wpIn_label ⟨s, S, φ, h, hs, Ext.refl .., Grow.refl hn⟩
theorem T_exit {id : Nat} (h : Q (.exit id) s) : T C (.exit id) Q s := fun x N S φ a w hn hB hs => wpIn_exit ⟨s, S, φ, h, hs, Ext.refl .., Grow.refl hn⟩
theorem T_goto {id : Nat} (h : Q (.goto id) s) : T C (.goto id) Q s := fun x N S φ a w hn hB hs => wpIn_goto ⟨s, S, φ, h, hs, Ext.refl .., Grow.refl hn⟩
theorem T_ret (h : Q .ret s) : T C .ret Q s := fun x N S φ a w hn hB hs => wpIn_ret ⟨s, S, φ, h, hs, Ext.refl .., Grow.refl hn⟩
def eV (next : St → Prop) (Q : Exit → St → Prop) : Exit → St → Prop
 | .normal, s => next s
 | e, s => Q e s
theorem T_seq {x y : Code} (h : T C x (eV (T C y Q) Q) s) : T C (.seq x y) Q s := by
 intro x N S φ a w hn hB hs
 refine wpIn_seq (wpIn_mono (h x N S φ a w hn hB hs) ?_)
 rintro e a' w' ⟨s', S', φ', hq, hs', hx, hg⟩
 cases e with
 | normal => exact wpIn_mono (hq x N S' φ' a' w' hg.le (Nat.le_trans hB hx.size) hs') fun e a w hp => hp.trans hx hg
 | _ => exact ⟨s', S', φ', hq, hs', hx, hg⟩
def r5 (id : Nat) (Q : Exit → St → Prop) : Exit → St → Prop
 | .exit id', s => if id' = id then Q .normal s else Q (.exit id') s
 | e, s => Q e s
theorem FZ {id : Nat} {c : Code} (h : T C c (r5 id Q) s) : T C (.block id c) Q s := by
 intro x N S φ a w hn hB hs
 refine wpIn_block (wpIn_mono (h x N S φ a w hn hB hs) ?_)
 rintro e a' w' ⟨s', S', φ', hq, hs', hx⟩
 cases e with
 | exit id' =>
  simp only [r5] at hq
  simp only [Exit.inBlock]
  split
  ·rename_i h; simp only [h, if_true] at hq; exact ⟨s', S', φ', hq, hs', hx⟩
  ·rename_i h; simp only [h, if_false] at hq; exact ⟨s', S', φ', hq, hs', hx⟩
 | _ => exact ⟨s', S', φ', hq, hs', hx⟩
def oD (Q : Exit → St → Prop) : Exit → St → Prop
 | .goto _, _ => False
 | e, s => Q e s
def Wk (C : Cfg) (s s' : St) : Prop := ∀ (B : Rx) N S φ a w, N ≤ s.nx → Sim C B S φ s a w → ∃ S' φ', Sim C B S' φ' s' a w ∧ Ext S φ s.mem w S' φ' s'.mem w ∧ Grow N φ φ' s'.nx
theorem Wk.refl : Wk C s s := fun B N S φ _ _ hn h => ⟨S, φ, h, Ext.refl .., Grow.refl hn⟩
theorem Wk.trans {s1 s2 : St} (h : Wk C s s1) (k : Wk C s1 s2) : Wk C s s2 := fun B N S φ a w hn hs =>
 let ⟨S1, φ1, h1, x1, g1⟩ := h B N S φ a w hn hs
 let ⟨S2, φ2, h2, x2, g2⟩ := k B N S1 φ1 a w g1.le h1
 ⟨S2, φ2, h2, x1.trans x2, g1.trans g2⟩
theorem dK {c : Code} {s' : St} (h : Wk C s s') (k : T C c Q s') : T C c Q s := fun x N S φ a w hn hB hs =>
 let ⟨S', φ', hs', hx, hg⟩ := h x N S φ a w hn hs
 wpIn_mono (k x N S' φ' a w hg.le hB hs') fun _ _ _ hp => hp.trans hx hg
theorem qZ {p : Nat → Prop} (h : ∃ m, p m) : ∃ m, p m ∧ ∀ k, p k → m ≤ k := by
 obtain ⟨m, hm⟩ := h
 induction m using Nat.strongRecOn with
 | _ m ih =>
  by_cases hk : ∃ k, k < m ∧ p k
  ·obtain ⟨k, hlt, hp⟩ := hk; exact ih k hlt hp
  ·exact ⟨m, hm, fun k hp => Nat.le_of_not_lt fun hlt => hk ⟨k, hlt, hp⟩⟩
theorem T_loop {α : Type} {c : Code} (st : α → St) (inv : α → Prop) (μ : α → Nat)
  (round : ∀ x, inv x → T C c (eV (fun s' => ∃ y, inv y ∧ μ y < μ x ∧ Wk C s' (st y)) Q) (st x)) (x0 : α) (h0 : inv x0) : T C (.loop c) Q (st x0) := by
 intro rx N S0 φ0 a0 w0 hn0 hB0 hs0
 classical
 let R : Nat → Act → World → Prop := fun m a w => ∃ x S φ, inv x ∧ μ x = m ∧ Sim C rx S φ (st x) a w ∧ Ext S0 φ0 (st x0).mem w0 S φ (st x).mem w ∧ Grow N φ0 φ (st x).nx
 let M : Act → World → Nat := fun a w => if h : ∃ m, R m a w then Classical.choose (qZ h) else 0
 refine wpIn_loop (fun a w => ∃ m, R m a w) M ⟨μ x0, x0, S0, φ0, h0, rfl, hs0, Ext.refl .., Grow.refl hn0⟩ ?_
 intro a w hI
 have hM : M a w = Classical.choose (qZ hI) := by simp only [M, dif_pos hI]
 obtain ⟨x, S, φ, hix, hmx, hsx, hex, heg⟩ := (Classical.choose_spec (qZ hI)).1
 refine wpIn_mono (round x hix rx N S φ a w heg.le (Nat.le_trans hB0 hex.size) hsx) ?_
 rintro e a' w' ⟨s', S', φ', hq, hs', hx, hg⟩
 cases e with
 | normal =>
  obtain ⟨y, hiy, hlt, hwk⟩ := hq
  obtain ⟨S2, φ2, hs2, hx2, hg2⟩ := hwk rx N S' φ' a' w' hg.le hs'
  have hR : R (μ y) a' w' := ⟨y, S2, φ2, hiy, rfl, hs2, (hex.trans hx).trans hx2, (heg.trans hg).trans hg2⟩
  refine ⟨⟨_, hR⟩, ?_⟩
  have hE : ∃ m, R m a' w' := ⟨_, hR⟩
  have h1 : M a' w' = Classical.choose (qZ hE) := by simp only [M, dif_pos hE]
  have h2 := (Classical.choose_spec (qZ hE)).2 _ hR
  show M a' w' < M a w
  rw [h1, hM, ← hmx]
  exact Nat.lt_of_le_of_lt h2 hlt
 | _ => exact ⟨s', S', φ', hq, hs', hex.trans hx, heg.trans hg⟩
end rules
inductive Opd where
 | t (j : Nat)
 | g (j : Nat)
 | c (v : Value)
 | f (i : FuncId)
inductive Dst where
 | no
 | t (j : Nat)
 | g (j : Nat)
inductive I where
 | mv (x : Opd)
 | pick (c a b : Opd)
 | bld (zero : List Value) (parts : List (Nat × Nat × Opd))
 | bsl (k len : Nat) (zero : List Value) (parts : List (Nat × Nat × Opd))
 | z0
 | ld (agg : Bool) (n : Nat) (x : Opd)
 | chk (x : Opd)
 | bin (op : BinOp) (ty : TypeId) (x y : Opd)
 | un (op : UnOp) (x : Opd)
 | cv (src dst : TypeId) (x : Opd)
 | fa (off : Nat) (x : Opd)
 | fld (agg : Bool) (n off : Nat) (x : Opd)
 | ia (k : Nat) (x i : Opd)
 | iaa (len k : Nat) (x i : Opd)
 | ixs (x i : Opd)
 | ext (i : Nat) (x : Opd)
 | len (s : Bool) (x : Opd)
 | bi (b : Builtin) (args : List Opd)
 | sls (s : Bool) (k : Nat) (x : Opd) (lo hi : Option Opd)
 | mkf (i : FuncId) (caps : List Opd)
 | bxi (x : Opd)
 | mki (k bytes : Nat) (zero : List Value) (n : Opd)
 | lk (kd : Option IntKind) (z : Value) (two : Bool) (m k : Opd)
 | lnm (x : Opd)
 | mkm
 | pc (fn : Opd) (args : List Opd)
 | al (zero : List Value)
 | bx (x : Opd)
 | bso (k len : Nat) (zero : List Value) (parts : List (Nat × Nat × Opd))
 | mks (k bytes : Nat) (zero : List Value) (n : Opd)
 | apn (k bytes : Nat) (zero : List Value) (x y : Opd)
 | st (n : Nat) (a x : Opd)
 | sta (n : Nat) (a x : Opd) (ps : List Opd)
 | app (k bytes : Nat) (zero : List Value) (x y : Opd)
 | mup (kd : Option IntKind) (m k v : Opd)
 | cvo (x : Opd)
 | cl (fn : Opd) (args : List Opd)
 | ldp (agg : Bool) (n : Nat) (x : Opd)
 | fap (off : Nat) (x : Opd)
 | cln (fn : Opd) (args : List Opd)
def I.free : I → Bool
 | .st .. | .sta .. | .app .. | .mup .. | .cl .. | .cln .. | .cvo .. => false
 | _ => true
structure Ins where
 dst : Dst
 guard : Option (Opd × Bool)
 i : I
inductive AC where
 | skip
 | reg (ins : List Ins)
 | ifr (ins : List Ins) (c : Opd) (x y : AC)
 | seq (x y : AC)
 | cond (c : Opd) (x y : AC)
 | block (id : Nat) (x : AC)
 | loop (x : AC)
 | rfn (g : Opd) (ps : List Nat) (x y : AC)
 | exit (id : Nat)
 | scope (x : AC)
 | label (l : Nat)
 | goto (l : Nat)
 | ret
def pE (P : Program) (t : TypeId) : Bool :=
 match P.underlying t with
 | some .string => true
 | _ => false
def jF (P : Program) (t : TypeId) : Bool :=
 match P.underlying t with
 | some (.slice e) => (match P.underlying e with
  | some (.int .u8) => true
  | _ => false)
 | _ => false
def Program.tsz (P : Program) (t : TypeId) : Option (Bool × Nat) :=
 match P.underlying t, P.info? t with
 | some d, some i => some (d.isRow, i.size)
 | _, _ => none
def Program.zeroOf (P : Program) (t : TypeId) : Option (List Value) :=
 match P.info? t with
 | some i => match i.zero with
  | some v => some v.cells.toList
  | none => none
 | none => none
namespace Cfg
variable (C : Cfg)
def opd : Operand → Option Opd
 | .tmp t => some (if C.gs.contains t then .g t else .t t)
 | .const v => some (.c v)
 | .func f => some (.f f)
 | .global _ => none
def opdo : Option Operand → Option (Option Opd)
 | none => some none
 | some x => match C.opd x with
  | some y => some (some y)
  | none => none
def opds (l : List Operand) : Option (List Opd) := l.mapM C.opd
def dst : Option Tmp → Option Dst
 | none => some .no
 | some t => if t < C.n then some (if C.gs.contains t then .g t else .t t) else none
def owned : Option Tmp → Bool
 | none => false
 | some t => C.own.contains t
def parts (place : Nat → Option (Nat × Nat)) (l : List (Nat × Operand)) : Option (List (Nat × Nat × Opd)) :=
 l.mapM fun (i, x) => match place i, C.opd x with
  | some (o, n), some x => some (o, n, x)
  | _, _ => none
def fieldPlaces (fs : Array Field) (i : Nat) : Option (Nat × Nat) :=
 match fs[i]? with
 | some f => match Program.tsz C.P f.type with
  | some (_, n) => some (f.offset, n)
  | none => none
 | none => none
def call (own : Bool) (callee : Callee) (args : List Operand) (argTypes : List TypeId) : Option I := do
 let xs ← C.opds args
 match callee with
 | .value f =>
  let f ← C.opd f
  some (if own then .cl f xs else .pc f xs)
 | .invoke .. => none
 | .builtin b =>
  match b, xs, argTypes with
  | .len, [x], t :: _ => match C.P.underlying t with
   | some .string => some (.len true x)
   | some (.slice _) => some (.len false x)
   | some (.map _ _) => some (.lnm x)
   | _ => none
  | .append, [x, y], t :: u :: _ =>
   match C.P.underlying t, C.P.underlying u with
   | some (.slice e), some (.slice _) =>
    match Program.tsz C.P e, C.P.info? e, Program.zeroOf C.P e with
    | some (_, k), some inf, some z => if 0 < k ∧ z.length = k ∧ 0 < inf.bytes ∧ inf.bytes ≤ 2 ^ 20 then some (if own then .app k inf.bytes z x y else .apn k inf.bytes z x y) else none
    | _, _, _ => none
   | _, _ => none
  | .max, _, _ => some (.bi b xs)
  | .min, _, _ => some (.bi b xs)
  | .real, _, _ => some (.bi b xs)
  | .imag, _, _ => some (.bi b xs)
  | .complex, _, _ => some (.bi b xs)
  | _, _, _ => none
def keyKind (t : TypeId) : Option (Option IntKind) :=
 match C.P.underlying t with
 | some (.int k) => some (some k)
 | some .string => some none
 | _ => none
def op (own : Bool) : Op → Option I
 | .move x | .assign x => (C.opd x).map .mv
 | .pick c a b => do some (.pick (← C.opd c) (← C.opd a) (← C.opd b))
 | .alloc e => (Program.zeroOf C.P e).map .al
 | .box _ x => (C.opd x).map fun x => if own then .bx x else .bxi x
 | .build t ps =>
  match Program.zeroOf C.P t, C.P.underlying t with
  | some z, some (.struct fs) => if fs.toList.all (fun f => (C.P.info? f.type).isSome) then (C.parts (C.fieldPlaces fs) ps.toList).map (.bld z) else none
  | some z, some (.array _ e) => match Program.tsz C.P e with
   | some (_, k) => (C.parts (fun i => some (i * k, k)) ps.toList).map (.bld z)
   | none => none
  | _, _ => none
 | .buildSlice t len ps =>
  match C.P.underlying t with
  | some (.slice e) => match Program.tsz C.P e, Program.zeroOf C.P e with
   | some (_, k), some z =>
    if len = 0 then (if ps.toList.isEmpty then some .z0 else none) else
    if len * k ≤ 2 ^ 24 ∧ 0 < k ∧ z.length = k then (C.parts (fun i => some (i * k, k)) ps.toList).map fun q => if own then .bso k len z q else .bsl k len z q else none
   | _, _ => none
  | _ => none
 | .load t a => match Program.tsz C.P t with
  | some (g, n) => (C.opd a).map (.ld g n)
  | none => none
 | .store t a x => match Program.tsz C.P t with
  | some (_, n) => do some (.st n (← C.opd a) (← C.opd x))
  | none => none
 | .nilCheck x => (C.opd x).map .chk
 | .binOp b t x y _ => do some (.bin b t (← C.opd x) (← C.opd y))
 | .unOp u _ x => (C.opd x).map (.un u)
 | .convert s d x => if (own && (s == d && jF C.P s)) = true then (C.opd x).map .cvo else (C.opd x).map (.cv s d)
 | .makeFunc (.func f) first caps => if first.toList.isEmpty then (C.opds caps.toList).map (.mkf f) else none
 | .makeSlice t l c =>
  match C.P.underlying t with
  | some (.slice e) => match Program.tsz C.P e, C.P.info? e, Program.zeroOf C.P e, l, c with
   | some (_, k), some inf, some z, .tmp i, .tmp j => if i = j ∧ 0 < k ∧ z.length = k ∧ 0 < inf.bytes then (C.opd l).map fun x => if own then .mks k inf.bytes z x else .mki k inf.bytes z x else none
   | some (_, k), some inf, some z, .const (.int .i64 a), .const (.int .i64 b) => if a = b ∧ 0 < k ∧ z.length = k ∧ 0 < inf.bytes then (C.opd l).map fun x => if own then .mks k inf.bytes z x else .mki k inf.bytes z x else none
   | _, _, _, _, _ => none
  | _ => none
 | .slice t x lo hi none =>
  match C.P.underlying t with
  | some .string => do some (.sls true 0 (← C.opd x) (← C.opdo lo) (← C.opdo hi))
  | some (.slice e) => match Program.tsz C.P e with
   | some (_, k) => do some (.sls false k (← C.opd x) (← C.opdo lo) (← C.opdo hi))
   | none => none
  | _ => none
 | .fieldAddr s x f =>
  match C.P.underlying s with
  | some (.struct fs) => match fs[f]? with
   | some fd => match Program.tsz C.P fd.type with
    | some (_, n) => if n = 0 then none else (C.opd x).map (.fa fd.offset)
    | none => none
   | none => none
  | _ => none
 | .field s x f =>
  match C.P.underlying s with
  | some (.struct fs) => match fs[f]? with
   | some fd => match Program.tsz C.P fd.type with
    | some (g, n) => (C.opd x).map (.fld g n fd.offset)
    | none => none
   | none => none
  | _ => none
 | .indexAddr t x i =>
  match C.P.underlying t with
  | some (.slice e) => match Program.tsz C.P e with
   | some (_, k) => do some (.ia k (← C.opd x) (← C.opd i))
   | none => none
  | some (.array len e) => match Program.tsz C.P e with
   | some (_, k) => do some (.iaa len k (← C.opd x) (← C.opd i))
   | none => none
  | _ => none
 | .index t x i =>
  match C.P.underlying t with
  | some .string => do some (.ixs (← C.opd x) (← C.opd i))
  | _ => none
 | .extract x i => (C.opd x).map (.ext i)
 | .makeMap t none => match C.P.underlying t with
  | some (.map _ _) => some .mkm
  | _ => none
 | .lookup t x i two => match C.P.underlying t with
  | some (.map kt et) => match C.keyKind kt, C.P.info? et with
   | some kd, some inf => match inf.zero with
    | some z => do some (.lk kd z two (← C.opd x) (← C.opd i))
    | none => none
   | _, _ => none
  | _ => none
 | .mapUpdate t m i x | .insert t m i x => match C.P.underlying t with
  | some (.map kt _) => match C.keyKind kt with
   | some kd => do some (.mup kd (← C.opd m) (← C.opd i) (← C.opd x))
   | none => none
  | _ => none
 | .call c => C.call own c.callee c.args.toList c.argTypes.toList
 | _ => none
def guardO (ops : Array Oper) : Option (Nat × Bool) → Option (Option (Opd × Bool))
 | none => some none
 | some (j, want) => match (ops[j]?).bind (·.dst) with
  | some t => some (some (if C.gs.contains t then Opd.g t else Opd.t t, want))
  | none => none
def ins (ops : Array Oper) (o : Oper) : Option Ins :=
 match C.dst o.dst, C.guardO ops o.guard, C.op (C.owned o.dst) o.op with
 | some d, some g, some i => some ⟨d, g, i⟩
 | _, _, _ => none
def seesO : Opd → List Nat
 | .t j => [j]
 | .g j => [j]
 | _ => []
def dstO : Dst → List Nat
 | .no => []
 | .t j => [j]
 | .g j => [j]
def seesI : I → List Nat
 | .mv x | .cvo x | .ldp _ _ x | .fap _ x | .ld _ _ x | .chk x | .un _ x | .cv _ _ x | .fa _ x | .fld _ _ _ x | .ext _ x | .len _ x | .bxi x | .bx x => seesO x
 | .mki _ _ _ x | .mks _ _ _ x => seesO x
 | .pick c a b => seesO c ++ seesO a ++ seesO b
 | .bld _ ps => ps.flatMap fun p => seesO p.2.2
 | .bsl _ _ _ ps | .bso _ _ _ ps => ps.flatMap fun p => seesO p.2.2
 | .z0 | .al _ | .mkm => []
 | .lnm x => seesO x
 | .lk _ _ _ x y => seesO x ++ seesO y
 | .mup _ m k v => seesO m ++ seesO k ++ seesO v
 | .bin _ _ x y | .ia _ x y | .iaa _ _ x y | .ixs x y => seesO x ++ seesO y
 | .bi _ xs | .mkf _ xs => xs.flatMap seesO
 | .sls _ _ x lo hi => seesO x ++ (match lo with | some l => seesO l | none => []) ++ (match hi with | some l => seesO l | none => [])
 | .pc f xs | .cl f xs | .cln f xs => seesO f ++ xs.flatMap seesO
 | .apn _ _ _ x y | .app _ _ _ x y => seesO x ++ seesO y
 | .st _ a x => seesO a ++ seesO x
 | .sta _ a x ps => seesO a ++ seesO x ++ ps.flatMap seesO
def sees (x : Ins) : List Nat := (match x.guard with | some (g, _) => seesO g | none => []) ++ seesI x.i
def looksI : I → Bool
 | .ld .. | .ia .. | .iaa .. | .len .. | .sls .. | .fa .. | .apn .. | .lk .. | .lnm .. => true
 | _ => false
def makesI : I → Bool
 | .al _ | .bx _ | .bso .. | .mks .. | .apn .. | .mkm => true
 | _ => false
def quietI (i : I) : Bool := i.free && (!looksI i && !makesI i)
def callI : I → Bool
 | .cl .. | .cln .. => true
 | _ => false
def slotsApart (x y : Ins) : Bool := ((dstO x.dst).all fun d => !(dstO y.dst).contains d && !(sees y).contains d) && (dstO y.dst).all fun d => !(sees x).contains d
def lookO : I → List Opd
 | .ld _ _ x | .fa _ x | .ia _ x _ | .iaa _ _ x _ | .len _ x | .sls _ _ x _ _ => [x]
 | .apn _ _ _ _ y => [y]
 | .lk _ _ _ x _ | .lnm x => [x]
 | _ => []
def sameO : Opd → Opd → Bool
 | .t j, .t k => j == k
 | .g j, .g k => j == k
 | _, _ => false
def partO : I → Option Opd
 | .mv p | .fa _ p | .chk p | .ia _ p _ | .iaa _ _ p _ => some p
 | _ => none
def rootOf (rm : List (Nat × Opd)) : Opd → Opd
 | .t k => match rm.find? (fun e => e.1 == k) with
  | some e => e.2
  | none => .t k
 | p => p
def xF (rm : List (Nat × Opd)) : List Ins → List (Nat × Opd)
 | [] => rm
 | x :: is => xF (match x.dst, partO x.i with
  | .t j, some p => if sameO (rootOf rm p) (rootOf rm p) then (j, rootOf rm p) :: rm else rm
  | _, _ => rm) is
def writes (d : Dst) : Opd → Bool
 | .t j => match d with | .t k => j == k | _ => false
 | .g j => match d with | .g k => j == k | _ => false
 | _ => false
def roots (is : List Ins) : List (Nat × Opd) := (xF [] is).filter fun e => is.all fun x => !writes x.dst e.2
def rootFits (rm : List (Nat × Opd)) (x : Ins) : Bool :=
 (rm.all fun e => !writes x.dst e.2) && (match x.dst with
 | .t j => rm.all fun e => e.1 != j || (match partO x.i with
  | some p => sameO (rootOf rm p) e.2
  | none => false)
 | _ => true)
def staI (rm : List (Nat × Opd)) (x y : I) : Bool :=
 match x, y with
 | .st _ a _, .sta _ _ _ ps | .sta _ a _ _, .sta _ _ _ ps => ps.any (sameO (rootOf rm a))
 | x, .sta _ _ _ ps => x.free && (!makesI x && (lookO x).all fun p => ps.any (sameO (rootOf rm p)))
 | _, _ => false
def clnI (x y : I) : Bool :=
 match y with
 | .cln .. => x.free && !makesI x
 | _ => false
def swapI (rm : List (Nat × Opd)) (x y : Ins) : Bool := slotsApart x y && ((quietI y.i && !callI x.i) || quietI x.i || (x.i.free && y.i.free) || staI rm x.i y.i || clnI x.i y.i)
def cutI (xs : List Ins) : I → I
 | .sta n a v ps => .sta n a v (ps.filter fun p => xs.all fun x => (dstO x.dst).all fun s => !(seesO p).contains s)
 | i => i
def cutL (xs : List Ins) (y : Ins) : Ins := ⟨y.dst, y.guard, cutI xs y.i⟩
def fitO (gs : List Nat) : Opd → Bool
 | .t j => !gs.contains j
 | .g j => gs.contains j
 | _ => true
def notSta : I → Bool
 | .sta .. => false
 | _ => true
def drawOk (gs : List Nat) (ops : Array Oper) (pi : List Nat) (bf : Nat → Nat → Bool) (is : List Ins) : Bool :=
 (ops.toList.zipIdx.all fun (o, i) => o.after.toList.all fun e => !Region.binds .any e || e.on < i) &&
 (is.all (fun x => (lookO x.i).all (fitO gs) && rootFits (roots is) x) &&
 is.zipIdx.all fun (y, j) => is.zipIdx.all fun (x, i) => if i < j then pi.getD i 0 != pi.getD j 0 && (bf j i || swapI (roots is) x (cutL ((is.take j).drop i) y)) else true)
def tellI (b : Nat → Bool) (c kp : Bool) (is : List Ins) (y : Ins) (j : Nat) : Ins :=
 match y.i with
 | .st n a x => match (is.take j).zipIdx.flatMap fun (z, i) => if b i then [] else (match z.i with | .st _ a _ => [rootOf (roots is) a] | i => (lookO i).map (rootOf (roots is))) with
  | [] => y
  | ps => ⟨y.dst, y.guard, .sta n a x ps⟩
 | .ld g n x => if c then ⟨y.dst, y.guard, .ldp g n x⟩ else y
 | .fa off x => if c then ⟨y.dst, y.guard, .fap off x⟩ else y
 | .cl f xs => if kp then ⟨y.dst, y.guard, .cln f xs⟩ else y
 | _ => y
def tell (bf : Nat → Nat → Bool) (late kp : Bool) (is : List Ins) : List Ins :=
 is.zipIdx.map fun (y, j) => tellI (bf j) (late && !kp && is.zipIdx.any fun (x, i) => callI x.i && (i != j && (!bf j i && !bf i j))) kp is y j
def later (b : Array Nat) (is : List Ins) : Nat → List Nat → List Nat
 | 0, acc => acc.reverse
 | k + 1, acc =>
  let open' := is.zipIdx.filter fun (_, i) => !acc.contains i && (List.range is.length).all fun p => !(b.getD i 0).testBit p || acc.contains p
  match open'.find? fun (x, _) => !callI x.i with
  | some (_, i) => later b is k (i :: acc)
  | none => match open' with
   | (_, i) :: _ => later b is k (i :: acc)
   | [] => acc.reverse
def drawI (ops : Array Oper) (is : List Ins) : Option (List Ins) :=
 let b := Region.before ops
 let bf := fun q p => (b.getD q 0).testBit p
 if C.P.follows .mixedOrders && is.all fun x => notSta x.i then
  if drawOk C.gs ops (List.range is.length) bf (tell bf false false is) then some (tell bf false false is) else
  let pi := later b is is.length []
  let bf := fun q p => (b.getD (pi.getD q 0) 0).testBit (pi.getD p 0)
  match pi.mapM (is[·]?) with
  | some js => if is.length == pi.length && drawOk C.gs ops pi bf (tell bf true (C.own.contains 1000000) js) then some (tell bf true (C.own.contains 1000000) js) else none
  | none => none
 else none
def comp : Code → Option AC
 | .skip => some .skip
 | .region _ ops draw => do
  let is ← ops.toList.mapM (C.ins ops)
  if draw then (match C.drawI ops is with | some js => some (.reg js) | none => none) else some (.reg is)
 | .seq x y => do
  let a ← comp x
  let b ← comp y
  match a, b with
  | .reg is, .cond c x y => some (.ifr is c x y)
  | .reg is, .seq (.cond c x y) z => some (.seq (.ifr is c x y) z)
  | _, _ => some (.seq a b)
 | .cond c x y => do some (.cond (← C.opd c) (← comp x) (← comp y))
 | .block id x => do some (.block id (← comp x))
 | .loop x => do some (.loop (← comp x))
 | .exit id => some (.exit id)
 | .scope x => do some (.scope (← comp x))
 | .label l => some (.label l)
 | .goto l => some (.goto l)
 | .ret => some .ret
 | .rangeFunc g ps x y => do
  let g ← C.opd g
  let a ← comp x
  let b ← comp y
  some (.rfn g ps.toList a b)
 | .refuse _ => none
end Cfg
open Go
def Sem.look (P : Program) {α : Type} : Sem α → Option α
 | .pure a => some a
 | .program k => Sem.look P (k P)
 | _ => none
def D.cells : D → List D
 | .agg cs => cs
 | d => [d]
def D.cell : D → Bool
 | .pl (.agg _) => false
 | .pl (.tuple _) => false
 | .agg _ => false
 | .tup _ => false
 | .top => false
 | _ => true
def D.solid : D → Bool
 | .agg _ => true
 | d => d.cell
def mkv (g : Bool) (cs : List D) : Option D :=
 if g then some (.agg cs) else match cs with
  | [d] => some d
  | _ => none
def rdc (mem : Mem) (n : Nat) : D → Option (List D)
 | .pt cs => if n ≤ cs.length then some (cs.take n) else none
 | .opt id off => match look mem id with
  | some (.box cs) => if off + n ≤ cs.length then some ((cs.drop off).take n) else none
  | _ => none
 | .oel id ver i off => match look mem id with
  | some (.arr v _ es) => if v = ver then (match es[i]? with
   | some e => if off + n ≤ e.length then some ((e.drop off).take n) else none
   | none => none) else none
  | _ => none
 | _ => none
def place (off : Nat) (cs new : List D) : List D := cs.take off ++ new ++ cs.drop (off + new.length)
def gP (cells : List D) : List (Nat × Nat × D) → Option (List D)
 | [] => some cells
 | (off, n, d) :: r => if d.solid = true ∧ d.cells.length = n ∧ off + n ≤ cells.length then gP (place off cells d.cells) r else none
def D.val : D → Option Value
 | .pl v => some v
 | .fn f [] => some (.func (.func f) #[] #[])
 | _ => none
def D.vals : List D → Option (List Value)
 | [] => some []
 | d :: ds => match D.val d, D.vals ds with
  | some v, some vs => some (v :: vs)
  | _, _ => none
def lit : Value → Bool
 | .nilIface => false
 | .iface _ _ => false
 | .agg _ => false
 | .tuple _ => false
 | .map _ => false
 | .chan _ => false
 | .func _ _ _ => false
 | .pointer (some _) => false
 | .slice (some _) _ _ => false
 | _ => true
def nilS (P : Program) (op : BinOp) (ty : TypeId) : Option D :=
 match op, P.underlying ty with
 | .eql, some (.slice _) => some (.pl (.bool false))
 | .neq, some (.slice _) => some (.pl (.bool true))
 | _, _ => none
def bG (P : Program) (op : BinOp) (ty : TypeId) (x y : D) : Option D :=
 match x, y with
 | .pl a, .pl b => if lit a && lit b then (Sem.look P (binOp op ty a b)).map .pl else (match a, b with
  | .slice (some _) _ _, .slice none _ _ => nilS P op ty
  | _, _ => none)
 | .sl (_ :: _), .pl (.slice none _ _) => nilS P op ty
 | .agg xs, .agg ys => match D.vals xs, D.vals ys with
  | some a, some b => (Sem.look P (do eqGuard op ty (.tmp 0) (.tmp 0) (.agg a.toArray) (.agg b.toArray); binOp op ty (.agg a.toArray) (.agg b.toArray))).map .pl
  | _, _ => none
 | .pt _, .pl (.pointer none) | .opt _ _, .pl (.pointer none) =>
  match op, P.underlying ty with
  | .eql, some (.pointer _) => some (.pl (.bool false))
  | .neq, some (.pointer _) => some (.pl (.bool true))
  | _, _ => none
 | _, _ => none
def unD (P : Program) (op : UnOp) : D → Option D
 | .pl a => if lit a then (Sem.look P (Op.unary op a)).map .pl else none
 | _ => none
def kP : List D → Option UInt8
 | [.pl (.int .u8 n)] => if 0 ≤ n ∧ n < 256 then some (UInt8.ofNat n.toNat) else none
 | _ => none
def d_ : List (List D) → Option (List UInt8)
 | [] => some []
 | e :: es => match kP e, d_ es with
  | some b, some bs => some (b :: bs)
  | _, _ => none
def e_ (l : List UInt8) : List (List D) := l.map fun b => [.pl (.int .u8 b.toNat)]
def cvD (P : Program) (s d : TypeId) : D → Option D
 | .sl es => if jF P s && pE P d then (d_ es).map fun l => .pl (.string ⟨l.toArray⟩) else none
 | .pl (.string t) => if pE P s && jF P d then some (.sl (e_ t.data.toList)) else (Sem.look P (convert s d (.string t))).map .pl
 | .pl a => if lit a then (Sem.look P (convert s d a)).map .pl else none
 | _ => none
def biD (P : Program) (b : Builtin) (xs : List D) : Option D :=
 match D.vals xs with
 | some vs => if vs.all lit then (match b with
  | .max => (Sem.look P (Builtin.max_ #[] 0 vs.toArray)).map .pl
  | .min => (Sem.look P (Builtin.min_ #[] 0 vs.toArray)).map .pl
  | .real => (Sem.look P (Builtin.real_ #[] 0 vs.toArray)).map .pl
  | .imag => (Sem.look P (Builtin.imag_ #[] 0 vs.toArray)).map .pl
  | .complex => (Sem.look P (Builtin.complex_ #[] 0 vs.toArray)).map .pl
  | _ => none) else none
 | none => none
def cur (mem : Mem) (id ver k : Nat) : Bool :=
 match look mem id with
 | some (.arr v k' _) => v == ver && k' == k
 | _ => false
def j5 (mem : Mem) (id ver : Nat) : Bool :=
 match look mem id with
 | some (.arr v _ _) => v == ver
 | _ => false
def gE (mem : Mem) (s : Bool) : D → Option D
 | .sl es => if s then none else some (.pl (.int .i64 es.length))
 | .osl id ver _ n => if s || !j5 mem id ver then none else some (.pl (.int .i64 n))
 | .pl (.slice none 0 0) => if s then none else some (.pl (.int .i64 0))
 | .zs => if s then none else some (.pl (.int .i64 0))
 | .pl (.string b) => if s then some (.pl (.int .i64 b.size)) else none
 | _ => none
def iaD (mem : Mem) (k : Nat) (x i : D) : Option D :=
 match x, i with
 | .sl es, .pl (.int _ i) => if 0 ≤ i ∧ i < es.length then (match es[i.toNat]? with
  | some e => if e.length = k then some (.pt e) else none
  | none => none) else none
 | .osl id ver lo n, .pl (.int _ i) => if cur mem id ver k then (if 0 ≤ i ∧ i < n then some (.oel id ver (lo + i.toNat) 0) else none) else none
 | _, _ => none
def faD (mem : Mem) (off : Nat) : D → Option D
 | .pt cs => if off ≤ cs.length then some (.pt (cs.drop off)) else none
 | .opt id o => some (.opt id (o + off))
 | .oel id ver i o => if j5 mem id ver then some (.oel id ver i (o + off)) else none
 | _ => none
def mW (mem : Mem) (len k : Nat) (x i : D) : Option D :=
 match i with
 | .pl (.int _ i) => if 0 ≤ i ∧ i < len then faD mem (i.toNat * k) x else none
 | _ => none
def ixsD (x i : D) : Option D :=
 match x, i with
 | .pl (.string s), .pl (.int _ i) => match (if 0 ≤ i then s[i.toNat]? else none) with
  | some b => some (.pl (.int .u8 b.toNat))
  | none => none
 | _, _ => none
def kOk : Option IntKind → Value → Bool
 | some k, .int j _ => decide (j = k)
 | none, .string _ => true
 | _, _ => false
def fW : Value → Value → Bool
 | .int _ a, .int _ b => a == b
 | .string a, .string b => decide (a = b)
 | _, _ => false
def gY (k : Value) : List (Value × D) → Option D
 | [] => none
 | e :: es => if fW e.1 k then some e.2 else gY k es
def iZ (k : Value) (v : D) : List (Value × D) → List (Value × D)
 | [] => [(k, v)]
 | e :: es => if fW e.1 k then (k, v) :: es else e :: iZ k v es
def zD : Value → D
 | .agg cs => .agg (cs.toList.map .pl)
 | v => .pl v
def nO (mem : Mem) (kd : Option IntKind) : D → Option (List (Value × D))
 | .omap id => match look mem id with
  | some (.map es) => if es.all (fun e => kOk kd e.1) then some es else none
  | _ => none
 | .pl (.map none) => some []
 | _ => none
def lkD (mem : Mem) (kd : Option IntKind) (z : Value) (two : Bool) (m k : D) : Option D :=
 match k, nO mem kd m with
 | .pl k, some es => if kOk kd k then some (match gY k es with
  | some v => if two then .tup [v, .pl (.bool true)] else v
  | none => if two then .tup [zD z, .pl (.bool false)] else zD z) else none
 | _, _ => none
def qK (mem : Mem) : D → Option D
 | .omap id => match look mem id with
  | some (.map es) => some (.pl (.int .i64 es.length))
  | _ => none
 | .pl (.map none) => some (.pl (.int .i64 0))
 | _ => none
def kR (mem : Mem) (kd : Option IntKind) (m k v : Option D) : Option (D × Mem) :=
 match m, k, v with
 | some (.omap id), some (.pl k), some v => match look mem id with
  | some (.map es) => if kOk kd k ∧ es.all (fun e => kOk kd e.1) then some (.top, upd mem id (.map (iZ k v es))) else none
  | _ => none
 | _, _, _ => none
def bound (x : Option D) (d : Nat) : Option Int :=
 match x with
 | none => some d
 | some (.pl (.int _ i)) => some i
 | _ => none
def gQ (mem : Mem) (s : Bool) (k : Nat) (x : D) (lo hi : Option D) : Option D :=
 match x with
 | .sl es => if s then none else match bound lo 0, bound hi es.length with
  | some l, some h => if (0 ≤ l ∧ l ≤ h ∧ h ≤ es.length) ∧ (l = 0 ∨ es.all (fun e => e.length == k) = true) then some (.sl ((es.take h.toNat).drop l.toNat)) else none
  | _, _ => none
 | .osl id ver o n => if s || !j5 mem id ver then none else match bound lo 0, bound hi n with
  | some l, some h => if l = 0 ∧ 0 ≤ h ∧ h ≤ n then some (.osl id ver o h.toNat) else if (0 < l ∧ l ≤ h ∧ h ≤ n) ∧ cur mem id ver k = true then some (.osl id ver (o + l.toNat) (h - l).toNat) else none
  | _, _ => none
 | .pl (.string b) => if s then (match bound lo 0, bound hi b.size with
  | some l, some h => if 0 ≤ l ∧ l ≤ h ∧ h ≤ b.size then some (.pl (.string (b.extract l.toNat h.toNat))) else none
  | _, _ => none) else none
 | .pl (.slice none 0 0) => if s then none else match bound lo 0, bound hi 0 with
  | some l, some h => if l = 0 ∧ h = 0 then some (.pl (.slice none 0 0)) else none
  | _, _ => none
 | .zs => if s then none else match bound lo 0, bound hi 0 with
  | some l, some h => if l = 0 ∧ h = 0 then some .zs else none
  | _, _ => none
 | _ => none
def ro (tl env : Env) : Opd → Option D
 | .t j => look tl j
 | .g j => look env j
 | .c v => some (.pl v)
 | .f i => some (.fn i [])
def ros (tl env : Env) : List Opd → Option (List D)
 | [] => some []
 | x :: xs => match ro tl env x, ros tl env xs with
  | some d, some ds => some (d :: ds)
  | _, _ => none
def rps (tl env : Env) : List (Nat × Nat × Opd) → Option (List (Nat × Nat × D))
 | [] => some []
 | (o, n, x) :: xs => match ro tl env x, rps tl env xs with
  | some d, some ds => some ((o, n, d) :: ds)
  | _, _ => none
def eX (k : Nat) : Nat → List D → List (List D)
 | 0, _ => []
 | n + 1, cs => cs.take k :: eX k n (cs.drop k)
def bslD (k len : Nat) (zero : List Value) (ps : List (Nat × Nat × D)) : Option (List (List D)) :=
 (gP ((List.replicate len (zero.map D.pl)).flatten) ps).map (eX k len)
def ob {α : Type} (o : Option α) (K : α → Prop) : Prop :=
 match o with
 | some d => K d
 | none => False
def extD (i : Nat) : D → Option D
 | .tup ds => ds[i]?
 | _ => none
def qA : D → Option D
 | .pt cs => some (.pt cs)
 | .opt id o => some (.opt id o)
 | .fn f c => some (.fn f c)
 | _ => none
def fldD (g : Bool) (n off : Nat) : D → Option D
 | .agg cs => if off + n ≤ cs.length then mkv g ((cs.drop off).take n) else none
 | _ => none
def uS (P : Program) (f : FuncId) : Prop := ∃ fn, P.funcs[f]? = some fn ∧ (fn.name == "runtime.NumGoroutine") = false ∧ fn.body.isNone = false
def bS : aW := fun _ => none
def Pure (P : Program) (f : FuncId) (args : List D) (res : D) : Prop :=
 uS P f ∧ ∀ (S : Nat → Prop) (w : World) (xs : List Value), (∀ b, S b → b < w.heap.size) → TB P S w → RepVs w S bS args xs →
  Calls P f xs.toArray w fun e w' => ∃ v S', e = .returned v ∧ Rep w' S' bS res v ∧ Ext S bS [] w S' bS [] w' ∧ ∀ b, S' b → b < w'.heap.size
def Extn (P : Program) (f : FuncId) (args : List D) (res : D) : Prop :=
 ∀ (S : Nat → Prop) (φ : aW) (w : World) (xs : List Value), RepVs w S φ args xs → ∃ v, Rep w S φ res v ∧ (callFunc f xs.toArray).run P w = .ok (.value v) w
mutual
/-- Nothing owned in it. -/
def D.imm : D → Bool
 | .top => true
 | .zs => true
 | .pl _ => true
 | .sl es => D.immss es
 | .pt cs => D.imms cs
 | .opt _ _ | .osl _ _ _ _ | .oel _ _ _ _ | .omap _ => false
 | .fn _ caps => D.imms caps
 | .agg cs => D.imms cs
 | .tup ds => D.imms ds
def D.imms : List D → Bool
 | [] => true
 | d :: ds => D.imm d && D.imms ds
def D.immss : List (List D) → Bool
 | [] => true
 | e :: es => D.imms e && D.immss es
end
def bH (P : Program) (f : FuncId) (args : List D) (mem : Mem) (nx : Nat) (K : D → Mem → Nat → Prop) : Prop :=
 uS P f ∧ ∀ (S : Nat → Prop) (φ : aW) (w : World) (xs : List Value), MSim S φ mem nx w → TB P S w → RepVs w S φ args xs →
  Calls P f xs.toArray w fun e w' => ∃ v d mem' nx' S' φ', e = .returned v ∧ K d mem' nx' ∧ nx ≤ nx' ∧ MSim S' φ' mem' nx' w' ∧ Rep w' S' φ' d v ∧ Stays w S φ w' S' φ' ∧ Ext S φ mem w S' φ' mem' w' ∧
   ∀ i, i < nx → φ i = none → φ' i = none
def put (d : Dst) (v : D) (env tl : Env) (K : Env → Env → Prop) : Prop :=
 match d with
 | .no => K env tl
 | .t j => K env ((j, v) :: tl)
 | .g j => K (upd env j v) tl
def wrc (mem : Mem) (n : Nat) (a : D) (new : List D) : Option Mem :=
 if new.length = n ∧ new.all D.cell then
  match a with
  | .opt id off => match look mem id with
   | some (.box cs) => if off + n ≤ cs.length then some (upd mem id (.box (place off cs new))) else none
   | _ => none
  | .oel id ver i off => match look mem id with
   | some (.arr v k es) => if v = ver then (match es[i]? with
    | some e => if off + n ≤ e.length then some (upd mem id (.arr v k (es.set i (place off e new)))) else none
    | none => none) else none
   | _ => none
  | _ => none
 else none
def els (mem : Mem) (k : Nat) : D → Option (List (List D))
 | .sl es => if es.all (fun e => e.length == k && e.all D.cell) then some es else none
 | .pl (.slice none 0 0) => some []
 | .pl (.slice (some _) 0 _) => some []
 | .zs => some []
 | .osl id ver lo n => match look mem id with
  | some (.arr v k' es) => if v = ver ∧ k' = k ∧ lo + n ≤ es.length ∧ es.all (fun e => e.all D.cell) then some ((es.drop lo).take n) else none
  | _ => none
 | _ => none
abbrev KD := D → Mem → Nat → Prop
def k0 (o : Option D) (mem : Mem) (nx : Nat) (K : KD) : Prop :=
 match o with
 | some d => K d mem nx
 | none => False
def k1 (o : Option D) (g : D → Option D) (mem : Mem) (nx : Nat) (K : KD) : Prop :=
 match o with
 | some x => k0 (g x) mem nx K
 | none => False
def k2 (o p : Option D) (g : D → D → Option D) (mem : Mem) (nx : Nat) (K : KD) : Prop :=
 match o, p with
 | some x, some y => k0 (g x y) mem nx K
 | _, _ => False
def kl {α : Type} (o : Option α) (g : α → Option D) (mem : Mem) (nx : Nat) (K : KD) : Prop :=
 match o with
 | some x => k0 (g x) mem nx K
 | none => False
def km (o : Option (D × Mem)) (nx : Nat) (K : KD) : Prop :=
 match o with
 | some x => K x.1 x.2 nx
 | none => False
def pJ (z : List Value) (ps : List (Nat × Nat × D)) : Option D := (gP (z.map .pl) ps).map .agg
def qM (k len : Nat) (z : List Value) (ps : List (Nat × Nat × D)) : Option D := (bslD k len z ps).map .sl
def ldD (mem : Mem) (g : Bool) (n : Nat) (x : D) : Option D :=
 match rdc mem n x with
 | some cs => mkv g cs
 | none => none
def ldpD (g : Bool) (n : Nat) : D → Option D
 | .pt cs => ldD [] g n (.pt cs)
 | _ => none
def fapD (off : Nat) : D → Option D
 | .pt cs => faD [] off (.pt cs)
 | _ => none
def bxiD (x : D) : Option D := if x.cells.all D.cell then some (.pt x.cells) else none
def mkiD (bytes : Nat) (z : List Value) : D → Option D
 | .pl (.int .i64 n) => if 0 ≤ n ∧ n * bytes ≤ 2 ^ 47 then some (.sl (List.replicate n.toNat (z.map .pl))) else none
 | _ => none
def kC (a b : Option D) : D → Option D
 | .pl (.bool c) => match c with | true => a | false => b
 | _ => none
def mkfD (f : FuncId) (cs : List D) : Option D := some (.fn f cs)
def roo (tl env : Env) : Option Opd → Option (Option D)
 | none => some none
 | some x => match ro tl env x with
  | some d => some (some d)
  | none => none
def slsO (mem : Mem) (s : Bool) (k : Nat) (x : Option D) (lo hi : Option (Option D)) : Option D :=
 match x, lo, hi with
 | some x, some lo, some hi => gQ mem s k x lo hi
 | _, _, _ => none
def pcK (P : Program) (f : Option D) (xs : Option (List D)) (mem : Mem) (nx : Nat) (K : KD) : Prop :=
 match f, xs with
 | some (.fn f caps), some xs => ∃ r, (Pure P f (xs ++ caps) r ∨ Extn P f (xs ++ caps) r) ∧ D.imms (xs ++ caps) = true ∧ K r mem nx
 | _, _ => False
def kN (mem m : Mem) : Prop := ∀ id b, look mem id = some b → look m id = some b
def clK (P : Program) (f : Option D) (xs : Option (List D)) (mem : Mem) (nx : Nat) (K : KD) : Prop :=
 match f, xs with
 | some (.fn f caps), some xs => bH P f (xs ++ caps) mem nx K
 | _, _ => False
def bxM (id : Nat) (mem : Mem) : Option D → Option (D × Mem)
 | some x => if x.cells.all D.cell then some (.opt id 0, (id, .box x.cells) :: mem) else none
 | none => none
def oZ (id : Nat) (mem : Mem) (k len : Nat) (z : List Value) : Option (List (Nat × Nat × D)) → Option (D × Mem)
 | some ps => match bslD k len z ps with
  | some es => some (.osl id 0 0 len, (id, .arr 0 k es) :: mem)
  | none => none
 | none => none
def mksM (id : Nat) (mem : Mem) (k bytes : Nat) (z : List Value) : Option D → Option (D × Mem)
 | some (.pl (.int .i64 n)) => if 0 ≤ n ∧ n * bytes ≤ 2 ^ 47 then some (.osl id 0 0 n.toNat, (id, .arr 0 k (List.replicate n.toNat (z.map .pl))) :: mem) else none
 | _ => none
def D.roomless : D → Bool
 | .pl (.slice none 0 0) => true
 | .zs => true
 | _ => false
def gB (id : Nat) (mem : Mem) (k bytes : Nat) (x y : Option D) : Option (D × Mem) :=
 match x, y with
 | some x, some y => if x.roomless then (match els mem k y with
  | some es => if es.length * bytes ≤ 3 * 2 ^ 46 then some (.osl id 0 0 es.length, (id, .arr 0 k es) :: mem) else none
  | none => none) else none
 | _, _ => none
def lX (id : Nat) (mem : Mem) (k bytes : Nat) (x y : Option D) : Option (D × Mem) :=
 match x, y with
 | some (.osl i ver lo n), some y => match look mem i, els mem k y with
  | some (.arr v k' es), some new => if v = ver ∧ k' = k ∧ (lo = 0 ∧ lo + n ≤ es.length) ∧ (n + new.length) * bytes ≤ 3 * 2 ^ 46 then some (.osl i (v + 1) 0 (n + new.length), upd mem i (.arr (v + 1) k ((es.drop lo).take n ++ new))) else none
  | _, _ => none
 | x, y => gB id mem k bytes x y
def nT (mem : Mem) (x : Option D) : Option (D × Mem) :=
 match x with
 | some (.osl i ver 0 n) => match look mem i with
  | some (.arr v k es) => if (v = ver ∧ k = 1 ∧ n = es.length) ∧ es.isEmpty = false then some (.sl es, upd mem i (.arr (v + 1) 1 [])) else none
  | _ => none
 | _ => none
def stM (mem : Mem) (n : Nat) (a x : Option D) : Option (D × Mem) :=
 match a, x with
 | some a, some x => match wrc mem n a x.cells with
  | some m => some (.top, m)
  | none => none
 | _, _ => none
def D.hd : D → Option Nat
 | .opt id _ | .osl id _ _ _ | .oel id _ _ _ | .omap id => some id
 | _ => none
def jP (a : Option D) (ps : Option (List D)) : Bool :=
 match a, ps with
 | some a, some ps => ps.all fun p => p.hd.isNone || p.hd != a.hd
 | _, _ => false
def mT (mem : Mem) (n : Nat) (a x : Option D) (ps : Option (List D)) : Option (D × Mem) := if jP a ps = true then stM mem n a x else none
def aS (C : Cfg) (id : Nat) (i : I) (env tl : Env) (mem : Mem) (nx : Nat) (K : KD) : Prop :=
 match i with
 | .mv x => k0 (ro tl env x) mem nx K
 | .pick c a b => k1 (ro tl env c) (kC (ro tl env a) (ro tl env b)) mem nx K
 | .bld z ps => kl (rps tl env ps) (pJ z) mem nx K
 | .bsl k len z ps => kl (rps tl env ps) (qM k len z) mem nx K
 | .z0 => K .zs mem nx
 | .ld g n x => k1 (ro tl env x) (ldD mem g n) mem nx K
 | .chk x => k1 (ro tl env x) qA mem nx K
 | .bin op ty x y => k2 (ro tl env x) (ro tl env y) (bG C.P op ty) mem nx K
 | .un op x => k1 (ro tl env x) (unD C.P op) mem nx K
 | .cv s d x => k1 (ro tl env x) (cvD C.P s d) mem nx K
 | .fa off x => k1 (ro tl env x) (faD mem off) mem nx K
 | .fld g n off x => k1 (ro tl env x) (fldD g n off) mem nx K
 | .ia k x i => k2 (ro tl env x) (ro tl env i) (iaD mem k) mem nx K
 | .ext i x => k1 (ro tl env x) (extD i) mem nx K
 | .iaa len k x i => k2 (ro tl env x) (ro tl env i) (mW mem len k) mem nx K
 | .ixs x i => k2 (ro tl env x) (ro tl env i) ixsD mem nx K
 | .lk kd z two m k => k2 (ro tl env m) (ro tl env k) (lkD mem kd z two) mem nx K
 | .lnm x => k1 (ro tl env x) (qK mem) mem nx K
 | .mkm => K (.omap id) ((id, .map []) :: mem) nx
 | .cvo x => km (nT mem (ro tl env x)) nx K
 | .mup kd m k v => km (kR mem kd (ro tl env m) (ro tl env k) (ro tl env v)) nx K
 | .len s x => k1 (ro tl env x) (gE mem s) mem nx K
 | .bi b xs => kl (ros tl env xs) (biD C.P b) mem nx K
 | .sls s k x lo hi => k0 (slsO mem s k (ro tl env x) (roo tl env lo) (roo tl env hi)) mem nx K
 | .mkf f caps => kl (ros tl env caps) (mkfD f) mem nx K
 | .bxi x => k1 (ro tl env x) bxiD mem nx K
 | .mki _ bytes z n => k1 (ro tl env n) (mkiD bytes z) mem nx K
 | .pc f xs => pcK C.P (ro tl env f) (ros tl env xs) mem nx K
 | .al z => K (.opt id 0) ((id, .box (z.map .pl)) :: mem) nx
 | .bx x => km (bxM id mem (ro tl env x)) nx K
 | .bso k len z ps => km (oZ id mem k len z (rps tl env ps)) nx K
 | .mks k bytes z n => km (mksM id mem k bytes z (ro tl env n)) nx K
 | .apn k bytes _ x y => km (gB id mem k bytes (ro tl env x) (ro tl env y)) nx K
 | .st n a x => km (stM mem n (ro tl env a) (ro tl env x)) nx K
 | .sta n a x ps => km (mT mem n (ro tl env a) (ro tl env x) (ros tl env ps)) nx K
 | .app k bytes _ x y => km (lX id mem k bytes (ro tl env x) (ro tl env y)) nx K
 | .cl f xs => clK C.P (ro tl env f) (ros tl env xs) mem nx K
 | .cln f xs => clK C.P (ro tl env f) (ros tl env xs) mem nx fun d m n => kN mem m ∧ K d m n
 | .ldp g n x => k1 (ro tl env x) (ldpD g n) mem nx K
 | .fap off x => k1 (ro tl env x) (fapD off) mem nx K
def dM (d : Dst) (env tl : Env) (go : Env → Env → Mem → Nat → Prop) : KD :=
 fun v mem nx => put d v env tl fun env tl => go env tl mem nx
def g9 (b : Bool) (tl : Env) : Opd → Env
 | .t j => upd tl j (.pl (.bool b))
 | _ => tl
def gZ (b : Bool) (env : Env) : Opd → Env
 | .g j => upd env j (.pl (.bool b))
 | _ => env
def gd (C : Cfg) (o : Option D) (g : Opd) (want : Bool) (d : Dst) (id : Nat) (i : I) (env tl : Env) (mem : Mem) (nx : Nat) (go : Env → Env → Mem → Nat → Prop) : Prop :=
 match o with
 | some (.pl (.bool b)) =>
  (b = want → aS C id i (gZ want env g) (g9 want tl g) mem nx (dM d (gZ want env g) (g9 want tl g) go)) ∧
  (b = (!want) → dM d (gZ (!want) env g) (g9 (!want) tl g) go (.pl undef) mem nx)
 | some (.pl (.tuple _)) => dM d env tl go (.pl undef) mem nx
 | _ => False
def run (C : Cfg) (base : Nat) (K : Env → Env → Mem → Nat → Prop) : List Ins → Nat → Env → Env → Mem → Nat → Prop
 | [], _, env, tl, mem, nx => K env tl mem nx
 | ⟨d, none, i⟩ :: r, j, env, tl, mem, nx => aS C (base + j) i env tl mem nx (dM d env tl (run C base K r (j + 1)))
 | ⟨d, some (g, want), i⟩ :: r, j, env, tl, mem, nx => gd C (ro tl env g) g want d (base + j) i env tl mem nx (run C base K r (j + 1))
def TA (C : Cfg) (c : AC) (Q : Exit → St → Prop) (s : St) : Prop := ∀ code, C.comp code = some c → T C code Q s
def regK (Q : Exit → St → Prop) : Env → Env → Mem → Nat → Prop := fun env _ mem nx => Q .normal ⟨env, [], mem, nx⟩
def ifb (o : Option D) (p q : Env → Mem → Nat → Prop) (env : Env) (mem : Mem) (nx : Nat) : Prop :=
 match o with
 | some (.pl (.bool b)) => (b = true → p env mem nx) ∧ (b = false → q env mem nx)
 | _ => False
def ifK (c : Opd) (x y : Env → Mem → Nat → Prop) : Env → Env → Mem → Nat → Prop := fun env tl mem nx => ifb (ro tl env c) x y env mem nx
def A (C : Cfg) : AC → (Exit → St → Prop) → Env → Mem → Nat → Prop
 | .skip, Q, env, mem, nx => Q .normal ⟨env, [], mem, nx⟩
 | .reg is, Q, env, mem, nx => run C nx (regK Q) is 0 env [] mem (nx + is.length)
 | .ifr is c x y, Q, env, mem, nx => run C nx (ifK c (A C x Q) (A C y Q)) is 0 env [] mem (nx + is.length)
 | .seq x y, Q, env, mem, nx => A C x (eV (fun s => A C y Q s.env s.mem s.nx) Q) env mem nx
 | .cond c x y, Q, env, mem, nx => ifK c (A C x Q) (A C y Q) env [] mem nx
 | .block id x, Q, env, mem, nx => A C x (r5 id Q) env mem nx
 | .loop x, Q, env, mem, nx => TA C (.loop x) Q ⟨env, [], mem, nx⟩
 | .scope x, Q, env, mem, nx => TA C (.scope x) Q ⟨env, [], mem, nx⟩
 | .rfn g ps x y, Q, env, mem, nx => TA C (.rfn g ps x y) Q ⟨env, [], mem, nx⟩
 | .exit id, Q, env, mem, nx => Q (.exit id) ⟨env, [], mem, nx⟩
 | .label _, Q, env, mem, nx => Q .normal ⟨env, [], mem, nx⟩
 | .goto l, Q, env, mem, nx => Q (.goto l) ⟨env, [], mem, nx⟩
 | .ret, Q, env, mem, nx => Q .ret ⟨env, [], mem, nx⟩
inductive Fr where
 | seq (y : AC)
 | block (id : Nat)
def dG (C : Cfg) (Q : Exit → St → Prop) : List Fr → Exit → St → Prop
 | [], e, s => Q e s
 | .seq y :: k, e, s => eV (fun s => A C y (dG C Q k) s.env s.mem s.nx) (dG C Q k) e s
 | .block id :: k, e, s => r5 id (dG C Q k) e s
section
variable {C : Cfg} {Q : Exit → St → Prop} {k : List Fr} {x y : AC} {env tl : Env} {mem : Mem} {nx : Nat}
theorem A_seq : A C (.seq x y) (dG C Q k) env mem nx = A C x (dG C Q (.seq y :: k)) env mem nx := (rfl)
theorem F4 {id : Nat} : A C (.block id x) (dG C Q k) env mem nx = A C x (dG C Q (.block id :: k)) env mem nx := (rfl)
theorem A_skip {Q : Exit → St → Prop} : A C .skip Q env mem nx = Q .normal ⟨env, [], mem, nx⟩ := (rfl)
theorem A_ret {Q : Exit → St → Prop} : A C .ret Q env mem nx = Q .ret ⟨env, [], mem, nx⟩ := (rfl)
theorem A_exit {Q : Exit → St → Prop} {id : Nat} : A C (.exit id) Q env mem nx = Q (.exit id) ⟨env, [], mem, nx⟩ := (rfl)
theorem rM {Q : Exit → St → Prop} : A C (.loop x) Q env mem nx = TA C (.loop x) Q ⟨env, [], mem, nx⟩ := (rfl)
theorem A_reg {Q : Exit → St → Prop} {is : List Ins} : A C (.reg is) Q env mem nx = run C nx (regK Q) is 0 env [] mem (nx + is.length) := (rfl)
theorem A_ifr {Q : Exit → St → Prop} {is : List Ins} {c : Opd} : A C (.ifr is c x y) Q env mem nx = run C nx (ifK c (A C x Q) (A C y Q)) is 0 env [] mem (nx + is.length) := (rfl)
theorem A_cond {Q : Exit → St → Prop} {c : Opd} : A C (.cond c x y) Q env mem nx = ifK c (A C x Q) (A C y Q) env [] mem nx := (rfl)
theorem wP {e : Exit} {s : St} : dG C Q [] e s = Q e s := (rfl)
theorem D5 {s : St} : dG C Q (.seq y :: k) .normal s = A C y (dG C Q k) s.env s.mem s.nx := (rfl)
theorem vR {s : St} : dG C Q (.seq y :: k) .ret s = dG C Q k .ret s := (rfl)
theorem uR {s : St} {id : Nat} : dG C Q (.seq y :: k) (.exit id) s = dG C Q k (.exit id) s := (rfl)
theorem AE {s : St} {id : Nat} : dG C Q (.block id :: k) .normal s = dG C Q k .normal s := (rfl)
theorem sO {s : St} {id : Nat} : dG C Q (.block id :: k) .ret s = dG C Q k .ret s := (rfl)
theorem r7 {s : St} {id j : Nat} : dG C Q (.block id :: k) (.exit j) s = if j = id then dG C Q k .normal s else dG C Q k (.exit j) s := (rfl)
theorem ifK_at {c : Opd} {p q : Env → Mem → Nat → Prop} : ifK c p q env tl mem nx = ifb (ro tl env c) p q env mem nx := (rfl)
theorem DG {p q : Env → Mem → Nat → Prop} : ifb (some (.pl (.bool true))) p q env mem nx = p env mem nx := by simp [ifb]
theorem BM {p q : Env → Mem → Nat → Prop} : ifb (some (.pl (.bool false))) p q env mem nx = q env mem nx := by simp [ifb]
theorem F_ {b : Bool} {p q : Env → Mem → Nat → Prop} : ifb (some (.pl (.bool b))) p q env mem nx = ((b = true → p env mem nx) ∧ (b = false → q env mem nx)) := (rfl)
theorem GA {Q : Exit → St → Prop} : regK Q env tl mem nx = Q .normal ⟨env, [], mem, nx⟩ := (rfl)
theorem EL {go : Env → Env → Mem → Nat → Prop} {v : D} : dM .no env tl go v mem nx = go env tl mem nx := (rfl)
theorem HF {go : Env → Env → Mem → Nat → Prop} {v : D} {j : Nat} : dM (.t j) env tl go v mem nx = go env ((j, v) :: tl) mem nx := (rfl)
theorem G8 {go : Env → Env → Mem → Nat → Prop} {v : D} {j : Nat} : dM (.g j) env tl go v mem nx = go (upd env j v) tl mem nx := (rfl)
theorem HB {base j : Nat} {K : Env → Env → Mem → Nat → Prop} : run C base K [] j env tl mem nx = K env tl mem nx := (rfl)
theorem EF {base j : Nat} {K : Env → Env → Mem → Nat → Prop} {d : Dst} {i : I} {r : List Ins} : run C base K (⟨d, none, i⟩ :: r) j env tl mem nx =
 aS C (base + j) i env tl mem nx (dM d env tl (run C base K r (j + 1))) := (rfl)
theorem C7 {base j : Nat} {K : Env → Env → Mem → Nat → Prop} {d : Dst} {i : I} {r : List Ins} {g : Opd} {want : Bool} : run C base K (⟨d, some (g, want), i⟩ :: r) j env tl mem nx =
 gd C (ro tl env g) g want d (base + j) i env tl mem nx (run C base K r (j + 1)) := (rfl)
theorem gd_yes {g : Opd} {want : Bool} {d : Dst} {id : Nat} {i : I} {go : Env → Env → Mem → Nat → Prop} : gd C (some (.pl (.bool want))) g want d id i env tl mem nx go =
  aS C id i (gZ want env g) (g9 want tl g) mem nx (dM d (gZ want env g) (g9 want tl g) go) := by simp [gd]
theorem EJ {g : Opd} {want : Bool} {d : Dst} {id : Nat} {i : I} {go : Env → Env → Mem → Nat → Prop} : gd C (some (.pl undef)) g want d id i env tl mem nx go =
  dM d env tl go (.pl undef) mem nx := (rfl)
theorem gd_tf {g : Opd} {d : Dst} {id : Nat} {i : I} {go : Env → Env → Mem → Nat → Prop} : gd C (some (.pl (.bool true))) g false d id i env tl mem nx go =
  dM d (gZ true env g) (g9 true tl g) go (.pl undef) mem nx := by simp [gd]
theorem gd_ft {g : Opd} {d : Dst} {id : Nat} {i : I} {go : Env → Env → Mem → Nat → Prop} : gd C (some (.pl (.bool false))) g true d id i env tl mem nx go =
  dM d (gZ false env g) (g9 false tl g) go (.pl undef) mem nx := by simp [gd]
theorem gd_any {g : Opd} {b want : Bool} {d : Dst} {id : Nat} {i : I} {go : Env → Env → Mem → Nat → Prop} : gd C (some (.pl (.bool b))) g want d id i env tl mem nx go =
  ((b = want → aS C id i (gZ want env g) (g9 want tl g) mem nx (dM d (gZ want env g) (g9 want tl g) go)) ∧
  (b = (!want) → dM d (gZ (!want) env g) (g9 (!want) tl g) go (.pl undef) mem nx)) := (rfl)
theorem setT_t {b : Bool} {j : Nat} : g9 b tl (.t j) = upd tl j (.pl (.bool b)) := (rfl)
theorem setE_t {b : Bool} {j : Nat} : gZ b env (.t j) = env := (rfl)
theorem HN {K : KD} (d : D) : k0 (some d) mem nx K = K d mem nx := (rfl)
theorem k0_if {K : KD} (p : Prop) [Decidable p] (d : D) : k0 (if p then some d else none) mem nx K = (p ∧ K d mem nx) := by by_cases h : p <;> simp [h, k0]
theorem FP {K : KD} {g : D → Option D} (d : D) : k1 (some d) g mem nx K = k0 (g d) mem nx K := (rfl)
theorem GD {K : KD} {g : D → D → Option D} (d e : D) : k2 (some d) (some e) g mem nx K = k0 (g d e) mem nx K := (rfl)
theorem GP {α : Type} {K : KD} {g : α → Option D} (d : α) : kl (some d) g mem nx K = k0 (g d) mem nx K := (rfl)
theorem HC {K : KD} (d : D) (m : Mem) : km (some (d, m)) nx K = K d m nx := (rfl)
theorem km_if {K : KD} (p : Prop) [Decidable p] (d : D) (m : Mem) : km (if p then some (d, m) else none) nx K = (p ∧ K d m nx) := by by_cases h : p <;> simp [h, km]
theorem a7 {α : Type} (i j : Nat) (d : α) (e : List (Nat × α)) : look ((i, d) :: e) j = if i = j then some d else look e j := (rfl)
theorem DM {α : Type} (i j : Nat) (d x : α) (e : List (Nat × α)) : upd ((i, x) :: e) j d = if i = j then (i, d) :: e else (i, x) :: upd e j d := (rfl)
theorem ro_t {j : Nat} : ro tl env (.t j) = look tl j := (rfl)
theorem ro_g {j : Nat} : ro tl env (.g j) = look env j := (rfl)
theorem ro_c {v : Value} : ro tl env (.c v) = some (.pl v) := (rfl)
theorem ro_f {v : Nat} : ro tl env (.f v) = some (.fn v []) := (rfl)
end
structure dH (C : Cfg) (w : World) (S : Nat → Prop) (φ : aW) (env tl : Env) (a : Act) : Prop where
 env : ∀ j d, j ∈ C.gs → look env j = some d → Rep w S φ d (a.tmps.getD j undef)
 tl : ∀ j d, j ∉ C.gs → look tl j = some d → Rep w S φ d (a.tmps.getD j undef)
def Out (S : Nat → Prop) (φ : aW) (mem : Mem) (nx : Nat) (w : World) (id : Nat) (K : KD) (x : Value) (w' : World) : Prop :=
 ∃ v mem' nx' S' φ', K v mem' nx' ∧ nx ≤ nx' ∧ Rep w' S' φ' v x ∧ MSim S' φ' mem' nx' w' ∧ Stays w S φ w' S' φ' ∧ Ext S φ mem w S' φ' mem' w' ∧ ∀ i, i ≠ id → i < nx → φ i = none → φ' i = none
def fT (P : Program) (o : Oper) (a : Act) (w : World) (R : Value → World → Prop) : Prop :=
 o.wp P a w (fun a' w' => ∃ x, a' = a.put o.dst x ∧ R x w') (fun _ _ _ => False)
theorem Stays.refl (w : World) (S : Nat → Prop) (φ : aW) : Stays w S φ w S φ := ⟨fun _ h => h, fun _ _ _ => rfl, fun _ l h => ⟨l, h, .inl rfl⟩⟩
theorem Stays.trans {w w1 w2 : World} {S S1 S2 : Nat → Prop} {φ φ1 φ2 : aW} (h : Stays w S φ w1 S1 φ1) (k : Stays w1 S1 φ1 w2 S2 φ2) : Stays w S φ w2 S2 φ2 where
 sub b hb := k.sub b (h.sub b hb)
 cell b hb o := (k.cell b (h.sub b hb) o).trans (h.cell b hb o)
 loc id l hl := by
  obtain ⟨l1, h1, e1⟩ := h.loc id l hl
  obtain ⟨l2, h2, e2⟩ := k.loc id l1 h1
  refine ⟨l2, h2, ?_⟩
  rcases e1 with rfl | ⟨a1, b1, e1⟩ <;> rcases e2 with rfl | ⟨a2, b2, e2⟩
  ·exact .inl rfl
  ·exact .inr ⟨a2, b2, e2⟩
  ·exact .inr ⟨a1, b1, e1⟩
  ·exact .inr ⟨a1, b2, by omega⟩
section
variable {C : Cfg} {w : World} {S : Nat → Prop} {φ : aW} {a : Act} {env tl : Env} {mem : Mem} {nx id : Nat} {K : KD}
theorem DK {v : D} {x : Value} (hm : MSim S φ mem nx w) (hk : K v mem nx) (hr : Rep w S φ v x) : Out S φ mem nx w id K x w :=
 ⟨v, mem, nx, S, φ, hk, Nat.le_refl _, hr, hm, Stays.refl .., Ext.refl .., fun _ _ _ h => h⟩
theorem cD {P : Program} {o : Oper} {x : Value} {w' : World} {R : Value → World → Prop} (h : (execOp a.eval o).run P w = .ok (.value x) w') (hr : R x w') : fT P o a w R := by
 unfold fT Oper.wp
 rw [h]
 exact ⟨x, rfl, hr⟩
theorem tP {P : Program} {o : Oper} {w' : World} {R : Value → World → Prop} (h : (execOp a.eval o).run P w = .ok .skip w') (hr : R undef w') : fT P o a w R := by
 unfold fT Oper.wp
 rw [h]
 exact ⟨undef, rfl, hr⟩
theorem aP (hk : dH C w S φ env tl a) {x : Operand} {y : Opd} (h : C.opd x = some y) {d : D} (hd : ro tl env y = some d) : Rep w S φ d (a.eval x) := by
 cases x with
 | tmp t =>
  simp only [Cfg.opd, Option.some.injEq] at h
  subst h
  by_cases ht : t ∈ C.gs
  ·have : C.gs.contains t = true := by simpa using ht
   simp only [this, if_true, ro] at hd
   exact hk.env t d ht hd
  ·have : C.gs.contains t = false := by simpa using ht
   simp only [this, Bool.false_eq_true, if_false, ro] at hd
   exact hk.tl t d ht hd
 | const v =>
  simp only [Cfg.opd, Option.some.injEq] at h
  subst h
  simp only [ro, Option.some.injEq] at hd
  subst hd
  simp [Rep, Act.eval]
 | global g => simp [Cfg.opd] at h
 | func f =>
  simp only [Cfg.opd, Option.some.injEq] at h
  subst h
  simp only [ro, Option.some.injEq] at hd
  subst hd
  simp only [Rep, Act.eval]
  exact ⟨#[], rfl, by simp [RepVs]⟩
theorem fE {P : Program} {α : Type} {s : Sem α} {x : α} (h : Sem.look P s = some x) (w : World) : s.run P w = .ok x w := by
 induction s with
 | pure a => simp only [Sem.look, Option.some.injEq] at h; subst h; rfl
 | program k ih => simp only [Sem.look] at h; simp only [Sem.run]; exact ih P h
 | _ => simp [Sem.look] at h
theorem fZ {o : Option D} (h : k0 o mem nx K) : ∃ d, o = some d ∧ K d mem nx := by
 cases o with
 | none => exact h.elim
 | some d => exact ⟨d, rfl, h⟩
theorem bN {o : Option D} {g : D → Option D} (h : k1 o g mem nx K) : ∃ x d, o = some x ∧ g x = some d ∧ K d mem nx := by
 cases o with
 | none => exact h.elim
 | some x => obtain ⟨d, h1, h2⟩ := fZ h; exact ⟨x, d, rfl, h1, h2⟩
theorem e7 {o p : Option D} {g : D → D → Option D} (h : k2 o p g mem nx K) : ∃ x y d, o = some x ∧ p = some y ∧ g x y = some d ∧ K d mem nx := by
 cases o with
 | none => exact h.elim
 | some x => cases p with
  | none => exact h.elim
  | some y => obtain ⟨d, h1, h2⟩ := fZ h; exact ⟨x, y, d, rfl, rfl, h1, h2⟩
theorem gR {α : Type} {o : Option α} {g : α → Option D} (h : kl o g mem nx K) : ∃ x d, o = some x ∧ g x = some d ∧ K d mem nx := by
 cases o with
 | none => exact h.elim
 | some x => obtain ⟨d, h1, h2⟩ := fZ h; exact ⟨x, d, rfl, h1, h2⟩
theorem cW {o : Option (D × Mem)} (h : km o nx K) : ∃ d m, o = some (d, m) ∧ K d m nx := by
 cases o with
 | none => exact h.elim
 | some x => obtain ⟨d, m⟩ := x; exact ⟨d, m, rfl, h⟩
theorem xV {op : BinOp} {ty : TypeId} {x y : Operand} {u v : Value} (hu : lit u = true) (P : Program) (w : World) : (eqGuard op ty x y u v).run P w = .ok () w := by
 cases u <;> first | (simp [lit] at hu; done) | (cases op <;> rfl)
theorem o9 : ∀ (ds : List D) (vs xs : List Value), D.vals ds = some vs → RepVs w S φ ds xs → xs = vs
 | [], vs, xs, h, hr => by
  simp only [D.vals, Option.some.injEq] at h; subst h
  simpa [RepVs] using hr
 | d :: ds, vs, xs, h, hr => by
  simp only [D.vals] at h
  cases hd : D.val d with
  | none => simp [hd] at h
  | some v =>
   cases hs : D.vals ds with
   | none => simp [hd, hs] at h
   | some us =>
    simp only [hd, hs, Option.some.injEq] at h; subst h
    simp only [RepVs] at hr
    obtain ⟨x, r, rfl, h1, h2⟩ := hr
    rw [o9 ds us r hs h2]
    have : x = v := by
     cases d with
     | pl u => simp only [D.val, Option.some.injEq] at hd; simp only [Rep] at h1; rw [h1, hd]
     | fn f caps =>
      cases caps with
      | nil =>
       simp only [D.val, Option.some.injEq] at hd; subst hd
       simp only [Rep, RepVs] at h1
       obtain ⟨us', rfl, hn⟩ := h1
       have : us' = #[] := by simpa using hn
       rw [this]
      | cons _ _ => simp [D.val] at hd
     | _ => simp [D.val] at hd
    rw [this]
theorem yJ {op : BinOp} {ty : TypeId} {d : D} {X Y : Operand} {p : Addr} (h : (match op, C.P.underlying ty with
  | .eql, some (.pointer _) => some (D.pl (.bool false))
  | .neq, some (.pointer _) => some (D.pl (.bool true))
  | _, _ => none) = some d) :
  ∃ r, Rep w S φ d r ∧ (do eqGuard op ty X Y (.pointer (some p)) (.pointer none); binOp op ty (.pointer (some p)) (.pointer none) : Sem Value).run C.P w = .ok r w := by
 have hg : (eqGuard op ty X Y (.pointer (some p)) (.pointer none)).run C.P w = .ok () w := by unfold eqGuard; cases op <;> rfl
 have heq : ∀ e, C.P.underlying ty = some (.pointer e) → (Op.equal ty (.pointer (some p)) (.pointer none)).run C.P w = .ok false w := by
  intro e he
  unfold Op.equal Op.maxDepth Op.equalIn
  simp [Sem.run_bind, run_underlying he]
 split at h
 ·rename_i e he
  simp only [Option.some.injEq] at h; subst h
  exact ⟨.bool false, by simp [Rep], by simp [hg, binOp, heq e he]⟩
 ·rename_i e he
  simp only [Option.some.injEq] at h; subst h
  exact ⟨.bool true, by simp [Rep], by simp [hg, binOp, heq e he]⟩
 ·simp at h
theorem tK {op : BinOp} {ty : TypeId} {d : D} {X Y : Operand} {p : Addr} {n c n2 c2 : Nat} (h : nilS C.P op ty = some d) :
  ∃ r, Rep w S φ d r ∧ (do eqGuard op ty X Y (.slice (some p) n c) (.slice none n2 c2); binOp op ty (.slice (some p) n c) (.slice none n2 c2) : Sem Value).run C.P w = .ok r w := by
 unfold nilS at h
 have hg : (eqGuard op ty X Y (.slice (some p) n c) (.slice none n2 c2)).run C.P w = .ok () w := by unfold eqGuard; cases op <;> rfl
 have heq : ∀ e, C.P.underlying ty = some (.slice e) → (Op.equal ty (.slice (some p) n c) (.slice none n2 c2)).run C.P w = .ok false w := by
  intro e he
  unfold Op.equal Op.maxDepth Op.equalIn
  simp [Sem.run_bind, run_underlying he]
 split at h
 ·rename_i e he
  simp only [Option.some.injEq] at h; subst h
  exact ⟨.bool false, by simp [Rep], by simp [hg, binOp, heq e he]⟩
 ·rename_i e he
  simp only [Option.some.injEq] at h; subst h
  exact ⟨.bool true, by simp [Rep], by simp [hg, binOp, heq e he]⟩
 ·simp at h
theorem B7 {op : BinOp} {ty : TypeId} {x y d : D} {X Y : Operand} {u v : Value} (h : bG C.P op ty x y = some d) (hx : Rep w S φ x u) (hy : Rep w S φ y v) :
  ∃ r, Rep w S φ d r ∧ (do eqGuard op ty X Y u v; binOp op ty u v : Sem Value).run C.P w = .ok r w := by
 unfold bG at h
 split at h
 ·rename_i p q
  simp only [Rep] at hx hy
  subst hx hy
  split at h
  ·rename_i hl
   simp only [Bool.and_eq_true] at hl
   cases hb : Sem.look C.P (binOp op ty u v) with
   | none => simp [hb] at h
   | some r =>
    simp only [hb, Option.map_some, Option.some.injEq] at h
    subst h
    exact ⟨r, by simp [Rep], by simp [xV hl.1, fE hb]⟩
  ·split at h
   ·exact tK h
   ·simp at h
 ·simp only [Rep] at hx hy
  subst hy
  rcases hx with ⟨h0, _⟩ | ⟨b, o, cap, k, rfl, _⟩
  ·simp at h0
  ·exact tK h
 ·rename_i xs ys
  simp only [Rep] at hx hy
  obtain ⟨us, rfl, hus⟩ := hx
  obtain ⟨vs, rfl, hvs⟩ := hy
  split at h
  ·rename_i p q hp hq
   have e1 := o9 _ _ _ hp hus
   have e2 := o9 _ _ _ hq hvs
   have e1' : us = p.toArray := by rw [← e1]
   have e2' : vs = q.toArray := by rw [← e2]
   subst e1' e2'
   cases hb : Sem.look C.P (do eqGuard op ty (.tmp 0) (.tmp 0) (.agg p.toArray) (.agg q.toArray); binOp op ty (.agg p.toArray) (.agg q.toArray)) with
   | none => simp [hb] at h
   | some r =>
    simp only [hb, Option.map_some, Option.some.injEq] at h
    subst h
    exact ⟨r, by simp [Rep], fE hb w⟩
  ·simp at h
 ·rename_i cs
  simp only [Rep] at hx hy
  obtain ⟨b, o, rfl, _, _⟩ := hx
  subst hy
  exact yJ h
 ·rename_i id off
  simp only [Rep] at hx hy
  obtain ⟨l, _, _, rfl⟩ := hx
  subst hy
  exact yJ h
 ·simp at h
theorem eC {P : Program} {t : TypeId} {g : Bool} {n : Nat} (h : Program.tsz P t = some (g, n)) : ∃ d i, P.underlying t = some d ∧ P.info? t = some i ∧ i.size = n ∧ g = d.isRow := by
 unfold Program.tsz at h
 split at h
 ·rename_i d i h1 h2
  simp only [Option.some.injEq, Prod.mk.injEq] at h
  exact ⟨d, i, h1, h2, h.2, h.1.symm⟩
 ·simp at h
theorem oS {P : Program} {t : TypeId} {d : TypeDesc} (h : P.underlying t = some d) (w : World) : (isAgg t).run P w = .ok d.isRow w := by
 unfold isAgg
 rw [Sem.run_bind, run_underlying h w]
 cases d <;> rfl
theorem cI {P : Program} {t : TypeId} {i : TypeInfo} (h : P.info? t = some i) (w : World) : (sizeOf t).run P w = .ok i.size w := by
 simp [sizeOf, typeInfo, h]
theorem iC : ∀ (cs : List D) (b o : Nat), RepCs w S φ cs b o → ∃ vs : List Value, vs.length = cs.length ∧ w.rangeAt b o vs ∧ RepVs w S φ cs vs
 | [], b, o, _ => ⟨[], rfl, fun j v hv => by simp at hv, by simp [RepVs]⟩
 | d :: ds, b, o, h => by
  simp only [RepCs] at h
  obtain ⟨⟨x, hx, hd⟩, hr⟩ := h
  obtain ⟨vs, hl, hg, hv⟩ := iC ds b (o + 1) hr
  refine ⟨x :: vs, by simp [hl], ?_, by simp only [RepVs]; exact ⟨x, vs, rfl, hd, hv⟩⟩
  intro j v hj
  cases j with
  | zero => simp only [List.getElem?_cons_zero, Option.some.injEq] at hj; subst hj; exact hx
  | succ j =>
   simp only [List.getElem?_cons_succ] at hj
   have := hg j v hj
   rw [show o + (j + 1) = o + 1 + j by omega]
   exact this
theorem b_ : ∀ (cs : List D) (vs : List Value) (b o : Nat), RepVs w S φ cs vs → w.rangeAt b o vs → RepCs w S φ cs b o
 | [], vs, b, o, _, _ => by simp [RepCs]
 | d :: ds, vs, b, o, h, hg => by
  simp only [RepVs] at h
  obtain ⟨x, r, rfl, h1, h2⟩ := h
  simp only [RepCs]
  refine ⟨⟨x, hg 0 x rfl, h1⟩, b_ ds r b (o + 1) h2 fun j v hj => ?_⟩
  have := hg (j + 1) v (by simpa using hj)
  rw [show o + (j + 1) = o + 1 + j by omega] at this
  exact this
theorem eQ : ∀ (k : Nat) (cs : List D) (b o : Nat), RepCs w S φ cs b o → RepCs w S φ (cs.drop k) b (o + k)
 | 0, cs, b, o, h => by simpa using h
 | k + 1, [], b, o, h => by simp [RepCs]
 | k + 1, d :: ds, b, o, h => by
  simp only [RepCs] at h
  rw [List.drop_succ_cons, show o + (k + 1) = o + 1 + k by omega]
  exact eQ k ds b (o + 1) h.2
theorem gI : ∀ (k : Nat) (cs : List D) (b o : Nat), RepCs w S φ cs b o → RepCs w S φ (cs.take k) b o
 | 0, cs, b, o, h => by simp [RepCs]
 | k + 1, [], b, o, h => by simp [RepCs]
 | k + 1, d :: ds, b, o, h => by
  simp only [RepCs, List.take_succ_cons] at h ⊢
  exact ⟨h.1, gI k ds b (o + 1) h.2⟩
theorem oQ : ∀ (cs ds : List D) (b o : Nat), RepCs w S φ cs b o → RepCs w S φ ds b (o + cs.length) → RepCs w S φ (cs ++ ds) b o
 | [], ds, b, o, _, h => by simpa using h
 | c :: cs, ds, b, o, h, k => by
  simp only [RepCs, List.cons_append] at h ⊢
  refine ⟨h.1, oQ cs ds b (o + 1) h.2 ?_⟩
  rw [show o + 1 + cs.length = o + (c :: cs).length by simp; omega]
  exact k
theorem iA : ∀ (es : List (List D)) (k b o i : Nat) (e : List D), RepEs w S φ es k b o → es[i]? = some e → e.length = k ∧ RepCs w S φ e b (o + i * k)
 | [], k, b, o, i, e, _, h => by simp at h
 | x :: es, k, b, o, 0, e, h, he => by
  simp only [List.getElem?_cons_zero, Option.some.injEq] at he; subst he
  simp only [RepEs] at h
  exact ⟨h.1, by simpa using h.2.1⟩
 | x :: es, k, b, o, i + 1, e, h, he => by
  simp only [List.getElem?_cons_succ] at he
  simp only [RepEs] at h
  have := iA es k b (o + k) i e h.2.2 he
  rw [show o + (i + 1) * k = o + k + i * k by rw [Nat.succ_mul]; omega]
  exact this
theorem iF : ∀ (i : Nat) (es : List (List D)) (k b o : Nat), RepEs w S φ es k b o → RepEs w S φ (es.drop i) k b (o + i * k)
 | 0, es, k, b, o, h => by simpa using h
 | i + 1, [], k, b, o, h => by simp [RepEs]
 | i + 1, e :: es, k, b, o, h => by
  simp only [RepEs] at h
  rw [List.drop_succ_cons, show o + (i + 1) * k = o + k + i * k by rw [Nat.succ_mul]; omega]
  exact iF i es k b (o + k) h.2.2
theorem iH : ∀ (i : Nat) (es : List (List D)) (k b o : Nat), RepEs w S φ es k b o → RepEs w S φ (es.take i) k b o
 | 0, es, k, b, o, h => by simp [RepEs]
 | i + 1, [], k, b, o, h => by simp [RepEs]
 | i + 1, e :: es, k, b, o, h => by
  simp only [RepEs, List.take_succ_cons] at h ⊢
  exact ⟨h.1, h.2.1, iH i es k b (o + k) h.2.2⟩
theorem nX : ∀ (es fs : List (List D)) (k b o : Nat), RepEs w S φ es k b o → RepEs w S φ fs k b (o + es.length * k) → RepEs w S φ (es ++ fs) k b o
 | [], fs, k, b, o, _, h => by simpa using h
 | e :: es, fs, k, b, o, h, g => by
  simp only [RepEs, List.cons_append] at h ⊢
  refine ⟨h.1, h.2.1, nX es fs k b (o + k) h.2.2 ?_⟩
  rw [show o + k + es.length * k = o + (e :: es).length * k by simp [Nat.succ_mul]; omega]
  exact g
theorem t7 {n : Nat} {x : D} {cs : List D} {v : Value} (h : rdc mem n x = some cs) (hm : MSim S φ mem nx w) (hx : Rep w S φ x v) :
  cs.length = n ∧ ∃ b o, v = .pointer (some ⟨b, o, none⟩) ∧ RepCs w S φ cs b o := by
 cases x with
 | pt ds =>
  simp only [rdc, Option.ite_none_right_eq_some, Option.some.injEq] at h
  obtain ⟨hn, rfl⟩ := h
  simp only [Rep] at hx
  obtain ⟨b, o, rfl, _, hc⟩ := hx
  exact ⟨by simp; omega, b, o, rfl, gI n ds b o hc⟩
 | opt i off =>
  simp only [rdc] at h
  split at h
  ·rename_i ds hl
   simp only [Option.ite_none_right_eq_some, Option.some.injEq] at h
   obtain ⟨hn, rfl⟩ := h
   obtain ⟨l, hφ, _, hb⟩ := hm.mem i _ hl
   simp only [Rep] at hx
   obtain ⟨l', hφ', _, rfl⟩ := hx
   rw [hφ] at hφ'
   simp only [Option.some.injEq] at hφ'
   subst hφ'
   simp only [BRep] at hb
   obtain ⟨_, _, h0, _, hc⟩ := hb
   refine ⟨by simp; omega, l.b, l.base + off, rfl, gI n _ _ _ ?_⟩
   have := eQ off ds l.b 0 hc
   rwa [h0]
  ·simp at h
 | oel i ver ix off =>
  simp only [rdc] at h
  split at h
  ·rename_i v' k es hl
   split at h
   ·rename_i hv
    split at h
    ·rename_i e he
     simp only [Option.ite_none_right_eq_some, Option.some.injEq] at h
     obtain ⟨hn, rfl⟩ := h
     obtain ⟨l, hφ, _, hb⟩ := hm.mem i _ hl
     simp only [Rep] at hx
     obtain ⟨l', hφ', _, _, hx⟩ := hx
     rw [hφ] at hφ'
     simp only [Option.some.injEq] at hφ'
     subst hφ'
     simp only [BRep] at hb
     obtain ⟨_, hv1, hk, hb⟩ := hb
     obtain ⟨hr, rfl⟩ := hx (by omega)
     rcases hb with hb | ⟨_, _, _, hes⟩
     ·simp [hb.2] at he
     ·obtain ⟨_, hc⟩ := iA es k l.b l.base ix e hes he
      refine ⟨by simp; omega, l.b, l.base + ix * l.k + off, rfl, gI n _ _ _ ?_⟩
      rw [hk]
      exact eQ off e l.b _ hc
    ·simp at h
   ·simp at h
  ·simp at h
 | _ => simp [rdc] at h
theorem wS {t : TypeId} {g : Bool} {n : Nat} {x d : D} {v : Value} (ht : Program.tsz C.P t = some (g, n)) (h : ldD mem g n x = some d) (hm : MSim S φ mem nx w) (hx : Rep w S φ x v) :
  ∃ r, Rep w S φ d r ∧ (Instr.loadAt t v).run C.P w = .ok r w := by
 unfold ldD at h
 split at h
 ·rename_i cs hc
  obtain ⟨hn, b, o, rfl, hr⟩ := t7 hc hm hx
  obtain ⟨ds, i, hu, hi, hsz, hg⟩ := eC ht
  obtain ⟨vs, hl, hrg, hvs⟩ := iC cs b o hr
  unfold mkv at h
  cases hgb : g with
  | true =>
   simp only [hgb, if_true, Option.some.injEq] at h
   subst h
   refine ⟨.agg vs.toArray, ?_, ?_⟩
   ·simp only [Rep]; exact ⟨vs.toArray, rfl, by simpa using hvs⟩
   ·refine run_loadAt_mid w b o t vs ds hrg hu (by rw [← hg, hgb]) ?_
    rw [hi]; simp; omega
  | false =>
   simp only [hgb, Bool.false_eq_true, if_false] at h
   split at h
   ·rename_i c
    simp only [Option.some.injEq] at h
    subst h
    simp only [RepVs] at hvs
    obtain ⟨x, r, rfl, hx1, hr1⟩ := hvs
    refine ⟨x, hx1, ?_⟩
    have hcell := hrg 0 x rfl
    simp only [Nat.add_zero] at hcell
    simp only [Instr.loadAt, Instr.sureAddr, loadVar, Sem.run_bind, Sem.run_pure, Result.andThen_ok, oS hu w, ← hg, hgb, Bool.false_eq_true, if_false, run_load, hcell]
   ·simp at h
 ·simp at h
end
section
variable {C : Cfg} {w : World} {S : Nat → Prop} {φ : aW} {a : Act} {env tl : Env} {mem : Mem} {nx id : Nat} {K : KD}
theorem EQ {op : UnOp} {x d : D} {v : Value} (h : unD C.P op x = some d) (hx : Rep w S φ x v) : ∃ r, Rep w S φ d r ∧ (Op.unary op v).run C.P w = .ok r w := by
 cases x with
 | pl u =>
  simp only [Rep] at hx; subst hx
  simp only [unD, Option.ite_none_right_eq_some] at h
  obtain ⟨_, h⟩ := h
  cases hb : Sem.look C.P (Op.unary op v) with
  | none => simp [hb] at h
  | some r =>
   simp only [hb, Option.map_some, Option.some.injEq] at h
   subst h
   exact ⟨r, by simp [Rep], fE hb w⟩
 | _ => simp [unD] at h
theorem Addr.add_plain (b o j : Nat) : (⟨b, o, none⟩ : Addr).add j = ⟨b, o + j, none⟩ := by
 cases j with
 | zero => rfl
 | succ j => rfl
theorem tX {P : Program} {t : TypeId} (h : pE P t = true) : P.underlying t = some .string := by
 unfold pE at h
 split at h
 ·assumption
 ·simp at h
theorem lZ {P : Program} {t : TypeId} (h : jF P t = true) : ∃ e, P.underlying t = some (.slice e) ∧ P.underlying e = some (.int .u8) := by
 unfold jF at h
 split at h
 ·rename_i e he
  split at h
  ·exact ⟨e, he, by assumption⟩
  ·simp at h
 ·simp at h
theorem wE {e : List D} {b : UInt8} (h : kP e = some b) : e = [.pl (.int .u8 b.toNat)] := by
 unfold kP at h
 split at h
 ·rename_i n
  simp only [Option.ite_none_right_eq_some, Option.some.injEq] at h
  obtain ⟨⟨h1, h2⟩, rfl⟩ := h
  have h3 : (UInt8.ofNat n.toNat).toNat = n.toNat := by
   have h4 : n.toNat < 256 := by omega
   rw [UInt8.toNat_ofNat']
   exact Nat.mod_eq_of_lt h4
  rw [h3, Int.toNat_of_nonneg h1]
 ·simp at h
theorem tI {k b : Nat} : ∀ {es : List (List D)} {l : List UInt8} {o : Nat}, d_ es = some l → RepEs w S φ es k b o → es.length = l.length ∧ ∀ j (hj : j < l.length), w.cell? ⟨b, o + j, none⟩ = some (.int .u8 (l[j].toNat : Int))
 | [], l, o, h, _ => by
  simp only [d_, Option.some.injEq] at h; subst h
  exact ⟨rfl, fun j hj => by simp at hj⟩
 | e :: es, l, o, h, hr => by
  simp only [d_] at h
  split at h
  ·rename_i c cs hc hcs
   simp only [Option.some.injEq] at h; subst h
   have he := wE hc
   subst he
   simp only [RepEs] at hr
   obtain ⟨hk, h1, h2⟩ := hr
   simp only [List.length_cons, List.length_nil, Nat.zero_add] at hk
   subst hk
   obtain ⟨hl, hrest⟩ := tI hcs h2
   refine ⟨by simp [hl], fun j hj => ?_⟩
   cases j with
   | zero =>
    simp only [RepCs, Rep] at h1
    obtain ⟨⟨x, hx, rfl⟩, _⟩ := h1
    simpa using hx
   | succ j =>
    have h3 := hrest j (by simpa using hj)
    rw [show o + 1 + j = o + (j + 1) by omega] at h3
    simpa using h3
  ·simp at h
theorem E0 {s t : TypeId} {x d : D} {v : Value} (h : cvD C.P s t x = some d) (hx : Rep w S φ x v) : (∃ r, Rep w S φ d r ∧ (convert s t v).run C.P w = .ok r w) ∨
  ∃ u e, v = .string u ∧ C.P.underlying s = some .string ∧ C.P.underlying t = some (.slice e) ∧ C.P.underlying e = some (.int .u8) ∧ d = .sl (e_ u.data.toList) := by
 have look : ∀ {u : Value}, (Sem.look C.P (convert s t u)).map D.pl = some d → v = u → ∃ r, Rep w S φ d r ∧ (convert s t v).run C.P w = .ok r w := fun {u} h e => by
  subst e
  cases hb : Sem.look C.P (convert s t v) with
  | none => simp [hb] at h
  | some r =>
   simp only [hb, Option.map_some, Option.some.injEq] at h
   subst h
   exact ⟨r, by simp [Rep], fE hb w⟩
 cases x with
 | pl u =>
  simp only [Rep] at hx
  cases u with
  | string u =>
   simp only [cvD] at h
   split at h
   ·rename_i hc
    simp only [Bool.and_eq_true] at hc
    simp only [Option.some.injEq] at h
    obtain ⟨e, h1, h2⟩ := lZ hc.2
    exact .inr ⟨u, e, hx, tX hc.1, h1, h2, h.symm⟩
   ·exact .inl (look h hx)
  | _ =>
   simp only [cvD, Option.ite_none_right_eq_some] at h
   exact .inl (look h.2 hx)
 | sl es =>
  left
  simp only [cvD, Option.ite_none_right_eq_some, Bool.and_eq_true] at h
  obtain ⟨⟨hb, hs⟩, h⟩ := h
  have hs := tX hs
  obtain ⟨e, h1, h2⟩ := lZ hb
  cases hl : d_ es with
  | none => simp [hl] at h
  | some l =>
   simp only [hl, Option.map_some, Option.some.injEq] at h; subst h
   refine ⟨.string ⟨l.toArray⟩, by simp [Rep], ?_⟩
   simp only [Rep] at hx
   rcases hx with ⟨rfl, rfl | ⟨p, rfl⟩⟩ | ⟨b, o, cap, k, rfl, _, _, hr⟩
   ·simp only [d_, Option.some.injEq] at hl; subst hl
    rw [run_convert_bytes_string w s t e none 0 0 h1 h2 hs]
    rfl
   ·simp only [d_, Option.some.injEq] at hl; subst hl
    exact run_convert_bytes_back w s t e p 0 [] h1 h2 hs (fun j hj => by simp at hj)
   ·obtain ⟨g1, g2⟩ := tI hl hr
    rw [g1]
    exact run_convert_bytes_back w s t e ⟨b, o, none⟩ cap l h1 h2 hs (fun j hj => by rw [Addr.add_plain]; exact g2 j hj)
 | _ => simp [cvD] at h
theorem E7 {b : Builtin} {xs : List D} {d : D} {vs : List Value} {ts : Array TypeId} {ty : TypeId} {cs : Array Bool} (h : biD C.P b xs = some d) (hx : RepVs w S φ xs vs) :
  ∃ r, Rep w S φ d r ∧ (builtin b ts ty cs vs.toArray).run C.P w = .ok (.value r) w := by
 unfold biD at h
 split at h
 ·rename_i us hu
  have e := o9 _ _ _ hu hx
  subst e
  simp only [Option.ite_none_right_eq_some] at h
  obtain ⟨_, h⟩ := h
  split at h
  ·cases hb : Sem.look C.P (Builtin.max_ #[] 0 vs.toArray) with
   | none => simp [hb] at h
   | some r =>
    simp only [hb, Option.map_some, Option.some.injEq] at h; subst h
    refine ⟨r, by simp [Rep], ?_⟩
    have := fE hb w
    simp only [builtin, Sem.run_bind]
    rw [show Builtin.max_ ts ty vs.toArray = Builtin.max_ #[] 0 vs.toArray from rfl, this]; rfl
  ·cases hb : Sem.look C.P (Builtin.min_ #[] 0 vs.toArray) with
   | none => simp [hb] at h
   | some r =>
    simp only [hb, Option.map_some, Option.some.injEq] at h; subst h
    refine ⟨r, by simp [Rep], ?_⟩
    have := fE hb w
    simp only [builtin, Sem.run_bind]
    rw [show Builtin.min_ ts ty vs.toArray = Builtin.min_ #[] 0 vs.toArray from rfl, this]; rfl
  ·cases hb : Sem.look C.P (Builtin.real_ #[] 0 vs.toArray) with
   | none => simp [hb] at h
   | some r =>
    simp only [hb, Option.map_some, Option.some.injEq] at h; subst h
    refine ⟨r, by simp [Rep], ?_⟩
    have := fE hb w
    simp only [builtin, Sem.run_bind]
    rw [show Builtin.real_ ts ty vs.toArray = Builtin.real_ #[] 0 vs.toArray from rfl, this]; rfl
  ·cases hb : Sem.look C.P (Builtin.imag_ #[] 0 vs.toArray) with
   | none => simp [hb] at h
   | some r =>
    simp only [hb, Option.map_some, Option.some.injEq] at h; subst h
    refine ⟨r, by simp [Rep], ?_⟩
    have := fE hb w
    simp only [builtin, Sem.run_bind]
    rw [show Builtin.imag_ ts ty vs.toArray = Builtin.imag_ #[] 0 vs.toArray from rfl, this]; rfl
  ·cases hb : Sem.look C.P (Builtin.complex_ #[] 0 vs.toArray) with
   | none => simp [hb] at h
   | some r =>
    simp only [hb, Option.map_some, Option.some.injEq] at h; subst h
    refine ⟨r, by simp [Rep], ?_⟩
    have := fE hb w
    simp only [builtin, Sem.run_bind]
    rw [show Builtin.complex_ ts ty vs.toArray = Builtin.complex_ #[] 0 vs.toArray from rfl, this]; rfl
  ·simp at h
 ·simp at h
theorem bV : ∀ (ds : List D) (xs : List Value), RepVs w S φ ds xs → xs.length = ds.length
 | [], xs, h => by simp only [RepVs] at h; simp [h]
 | d :: ds, xs, h => by
  simp only [RepVs] at h
  obtain ⟨x, r, rfl, _, h2⟩ := h
  simp [bV ds r h2]
theorem nF : ∀ (k : Nat) (ds : List D) (xs : List Value), RepVs w S φ ds xs → RepVs w S φ (ds.drop k) (xs.drop k)
 | 0, ds, xs, h => by simpa using h
 | k + 1, [], xs, h => by simp only [RepVs] at h; simp [h, RepVs]
 | k + 1, d :: ds, xs, h => by
  simp only [RepVs] at h
  obtain ⟨x, r, rfl, _, h2⟩ := h
  simpa using nF k ds r h2
theorem mL : ∀ (k : Nat) (ds : List D) (xs : List Value), RepVs w S φ ds xs → RepVs w S φ (ds.take k) (xs.take k)
 | 0, ds, xs, h => by simp [RepVs]
 | k + 1, [], xs, h => by simp only [RepVs] at h; simp [h, RepVs]
 | k + 1, d :: ds, xs, h => by
  simp only [RepVs] at h
  obtain ⟨x, r, rfl, h1, h2⟩ := h
  simp only [List.take_succ_cons, RepVs]
  exact ⟨x, r.take k, rfl, h1, mL k ds r h2⟩
theorem dQ : ∀ (ds es : List D) (xs ys : List Value), RepVs w S φ ds xs → RepVs w S φ es ys → RepVs w S φ (ds ++ es) (xs ++ ys)
 | [], es, xs, ys, h, k => by simp only [RepVs] at h; simpa [h] using k
 | d :: ds, es, xs, ys, h, k => by
  simp only [RepVs] at h
  obtain ⟨x, r, rfl, h1, h2⟩ := h
  simp only [List.cons_append, RepVs]
  exact ⟨x, r ++ ys, rfl, h1, dQ ds es r ys h2 k⟩
theorem jT : ∀ (ds : List D) (xs : List Value) (i : Nat) (d : D), RepVs w S φ ds xs → ds[i]? = some d → ∃ x, xs[i]? = some x ∧ Rep w S φ d x
 | [], xs, i, d, h, hd => by simp at hd
 | e :: ds, xs, 0, d, h, hd => by
  simp only [List.getElem?_cons_zero, Option.some.injEq] at hd; subst hd
  simp only [RepVs] at h
  obtain ⟨x, r, rfl, h1, h2⟩ := h
  exact ⟨x, rfl, h1⟩
 | e :: ds, xs, i + 1, d, h, hd => by
  simp only [List.getElem?_cons_succ] at hd
  simp only [RepVs] at h
  obtain ⟨x, r, rfl, h1, h2⟩ := h
  simpa using jT ds r i d h2 hd
theorem DA {g : Bool} {n off : Nat} {cs : List D} {d : D} {vs : Array Value} {t : TypeId} (ht : Program.tsz C.P t = some (g, n)) (h : mkv g ((cs.drop off).take n) = some d) (hl : off + n ≤ cs.length)
  (hv : RepVs w S φ cs vs.toList) : ∃ r, Rep w S φ d r ∧ (part t vs off).run C.P w = .ok r w := by
 obtain ⟨ds, inf, hu, hi, hsz, hg⟩ := eC ht
 have hv' := mL n _ _ (nF off _ _ hv)
 unfold mkv at h
 cases hgb : g with
 | true =>
  simp only [hgb, if_true, Option.some.injEq] at h; subst h
  refine ⟨.agg (vs.extract off (off + n)), ?_, ?_⟩
  ·simp only [Rep]
   refine ⟨_, rfl, ?_⟩
   simp only [Array.toList_extract, List.extract_eq_take_drop, Nat.add_sub_cancel_left]
   exact hv'
  ·simp only [part, Sem.run_bind, oS hu, ← hg, hgb, Result.andThen_ok, if_true, cI hi, hsz, Sem.run_pure]
 | false =>
  simp only [hgb, Bool.false_eq_true, if_false] at h
  split at h
  ·rename_i c hc
   simp only [Option.some.injEq] at h; subst h
   rw [hc] at hv'
   simp only [RepVs] at hv'
   obtain ⟨x, r, hx, h1, rfl⟩ := hv'
   refine ⟨x, h1, ?_⟩
   have hget : vs[off]? = some x := by
    have h0 : ((vs.toList.drop off).take n)[0]? = some x := by rw [hx]; rfl
    rw [List.getElem?_take] at h0
    split at h0
    ·simpa using h0
    ·simp at h0
   simp only [part, Sem.run_bind, oS hu, ← hg, hgb, Result.andThen_ok, Bool.false_eq_true, if_false, hget, Sem.run_pure]
  ·simp at h
theorem B8 {s : TypeId} {fs : Array Field} {f : Nat} {fd : Field} {g : Bool} {n : Nat} {x d : D} {v : Value} (hs : C.P.underlying s = some (.struct fs)) (hf : fs[f]? = some fd)
  (ht : Program.tsz C.P fd.type = some (g, n)) (h : fldD g n fd.offset x = some d) (hx : Rep w S φ x v) : ∃ r, Rep w S φ d r ∧ (Instr.field s v f).run C.P w = .ok r w := by
 cases x with
 | agg cs =>
  simp only [fldD, Option.ite_none_right_eq_some] at h
  obtain ⟨hl, h⟩ := h
  simp only [Rep] at hx
  obtain ⟨vs, rfl, hv⟩ := hx
  obtain ⟨r, h1, h2⟩ := DA ht h hl hv
  refine ⟨r, h1, ?_⟩
  simp only [Instr.field, Sem.run_bind, run_underlying hs, Result.andThen_ok, hf, asAgg, Sem.run_pure, h2]
 | _ => simp [fldD] at h
theorem A5 {i : Nat} {x d : D} {v : Value} (h : extD i x = some d) (hx : Rep w S φ x v) : ∃ r, Rep w S φ d r ∧ (Instr.extract v i).run C.P w = .ok r w := by
 cases x with
 | tup ds =>
  simp only [extD] at h
  simp only [Rep] at hx
  obtain ⟨vs, rfl, hv⟩ := hx
  obtain ⟨y, hy, hr⟩ := jT _ _ _ _ hv h
  refine ⟨y, hr, ?_⟩
  have : vs[i]? = some y := by simpa using hy
  simp only [Instr.extract, this, Sem.run_pure]
 | _ => simp [extD] at h
theorem kS {i ver : Nat} (h : j5 mem i ver = true) (hm : MSim S φ mem nx w) : ∃ k es l, look mem i = some (.arr ver k es) ∧ φ i = some l ∧ l.ver = ver ∧ BRep w S φ l (.arr ver k es) ∧ (l.real = true → ¬ S l.b) := by
 unfold j5 at h
 split at h
 ·rename_i v k es hl
  have hv : v = ver := by simpa using h
  subst hv
  obtain ⟨l, h1, h2, h3⟩ := hm.mem i _ hl
  refine ⟨k, es, l, hl, h1, ?_, h3, h2⟩
  simp only [BRep] at h3
  exact h3.2.1
 ·simp at h
theorem E3 {s : TypeId} {fs : Array Field} {f : Nat} {fd : Field} {g : Bool} {n : Nat} {x d : D} {v : Value} (hs : C.P.underlying s = some (.struct fs)) (hf : fs[f]? = some fd)
  (ht : Program.tsz C.P fd.type = some (g, n)) (hn : n ≠ 0) (h : faD mem fd.offset x = some d) (hx : Rep w S φ x v) (hm : MSim S φ mem nx w) :
  ∃ r, Rep w S φ d r ∧ (Instr.fieldAt s v f).run C.P w = .ok r w := by
 obtain ⟨ds, inf, hu, hi, hsz, _⟩ := eC ht
 have key : ∀ b o, (Instr.fieldAt s (.pointer (some ⟨b, o, none⟩)) f).run C.P w = .ok (.pointer (some ⟨b, o + fd.offset, none⟩)) w := by
  intro b o
  simp only [Instr.fieldAt, Sem.run_bind, run_underlying hs, Result.andThen_ok, hf, Instr.sureAddr, Sem.run_pure, fieldPlace, cI hi, hsz, hn, if_false, Addr.add_mid]
 cases x with
 | pt cs =>
  simp only [faD, Option.ite_none_right_eq_some, Option.some.injEq] at h
  obtain ⟨_, rfl⟩ := h
  simp only [Rep] at hx
  obtain ⟨b, o, rfl, hS, hc⟩ := hx
  refine ⟨_, ?_, key b o⟩
  simp only [Rep]
  exact ⟨b, o + fd.offset, rfl, hS, eQ _ _ _ _ hc⟩
 | opt i off =>
  simp only [faD, Option.some.injEq] at h; subst h
  simp only [Rep] at hx
  obtain ⟨l, hl, ha, rfl⟩ := hx
  refine ⟨_, ?_, key _ _⟩
  simp only [Rep]
  exact ⟨l, hl, ha, by rw [Nat.add_assoc]⟩
 | oel i ver ix off =>
  simp only [faD, Option.ite_none_right_eq_some, Option.some.injEq] at h
  obtain ⟨hc, rfl⟩ := h
  obtain ⟨k, es, l, _, hl, hv, _, _⟩ := kS hc hm
  simp only [Rep] at hx
  obtain ⟨l', hl', hle, hsh, hx⟩ := hx
  rw [hl] at hl'; simp only [Option.some.injEq] at hl'; subst hl'
  obtain ⟨hr, rfl⟩ := hx hv
  refine ⟨_, ?_, key _ _⟩
  simp only [Rep]
  exact ⟨l, hl, hle, ⟨_, rfl⟩, fun _ => ⟨hr, by rw [Nat.add_assoc]⟩⟩
 | _ => simp [faD] at h
theorem s9 {ty : TypeId} {ts : Array TypeId} {t : TypeId} {cs : Array Bool} {s : Bool} {x d : D} {v : Value} (hts : ts[0]? = some t) (ht : (s = true ∧ C.P.underlying t = some .string) ∨ (s = false ∧ ∃ e, C.P.underlying t = some (.slice e)))
  (h : gE mem s x = some d) (hx : Rep w S φ x v) (hm : MSim S φ mem nx w) : ∃ r, Rep w S φ d r ∧ (builtin .len ts ty cs #[v]).run C.P w = .ok (.value r) w := by
 have key : ∀ r, (Builtin.len_ ts ty #[v]).run C.P w = .ok r w → (builtin .len ts ty cs #[v]).run C.P w = .ok (.value r) w := by
  intro r hr; simp only [builtin, Sem.run_bind, hr, Result.andThen_ok, Sem.run_pure]
 have ksl : ∀ (p : Option Addr) (n c : Nat) (e : TypeId), C.P.underlying t = some (.slice e) → v = .slice p n c → (Builtin.len_ ts ty #[v]).run C.P w = .ok (goInt n) w := by
  rintro p n c e he rfl
  simp [Builtin.len_, hts, run_underlying he]
 cases x with
 | sl es =>
  simp only [gE] at h
  cases s with
  | true => simp at h
  | false =>
   simp only [Bool.false_eq_true, if_false, Option.some.injEq] at h; subst h
   obtain ⟨e, he⟩ : ∃ e, C.P.underlying t = some (.slice e) := by simpa using ht
   simp only [Rep] at hx
   rcases hx with ⟨rfl, rfl | ⟨p, rfl⟩⟩ | ⟨b, o, cap, k, rfl, _⟩
   ·exact ⟨_, by simp only [Rep, List.length_nil]; rfl, key _ (ksl _ _ _ e he rfl)⟩
   ·exact ⟨_, by simp only [Rep, List.length_nil]; rfl, key _ (ksl _ _ _ e he rfl)⟩
   ·exact ⟨_, by simp only [Rep]; rfl, key _ (ksl _ _ _ e he rfl)⟩
 | osl i ver lo n =>
  simp only [gE] at h
  split at h
  ·simp at h
  ·rename_i hc
   simp only [Option.some.injEq] at h; subst h
   simp only [Bool.or_eq_true, Bool.not_eq_true', not_or, Bool.not_eq_true, Bool.not_eq_false] at hc
   obtain ⟨hs, hcv⟩ := hc
   obtain ⟨e, he⟩ : ∃ e, C.P.underlying t = some (.slice e) := by simpa [hs] using ht
   obtain ⟨k, es, l, _, hl, hv, _, _⟩ := kS hcv hm
   simp only [Rep] at hx
   obtain ⟨l', hl', _, _, hx⟩ := hx
   rw [hl] at hl'; simp only [Option.some.injEq] at hl'; subst hl'
   rcases hx hv with ⟨_, _, rfl, rfl | ⟨_, rfl⟩⟩ | ⟨_, cap, rfl, _⟩ | ⟨_, rfl, _, _, _, rfl⟩
   ·exact ⟨_, by simp only [Rep]; rfl, key _ (ksl _ _ _ e he rfl)⟩
   ·exact ⟨_, by simp only [Rep]; rfl, key _ (ksl _ _ _ e he rfl)⟩
   ·exact ⟨_, by simp only [Rep]; rfl, key _ (ksl _ _ _ e he rfl)⟩
   ·exact ⟨_, by simp only [Rep]; rfl, key _ (ksl _ _ _ e he rfl)⟩
 | pl u =>
  simp only [Rep] at hx; subst hx
  cases v with
  | slice p n c =>
   cases p with
   | some _ => simp [gE] at h
   | none =>
    cases n with
    | succ _ => simp [gE] at h
    | zero =>
     cases c with
     | succ _ => simp [gE] at h
     | zero =>
      simp only [gE] at h
      cases s with
      | true => simp at h
      | false =>
       simp only [Bool.false_eq_true, if_false, Option.some.injEq] at h; subst h
       obtain ⟨e, he⟩ : ∃ e, C.P.underlying t = some (.slice e) := by simpa using ht
       exact ⟨_, by simp only [Rep]; rfl, key _ (ksl _ _ _ e he rfl)⟩
  | string b =>
   simp only [gE] at h
   cases s with
   | false => simp at h
   | true =>
    simp only [if_true, Option.some.injEq] at h; subst h
    have he : C.P.underlying t = some .string := by simpa using ht
    refine ⟨goInt b.size, by simp [Rep, goInt], key _ ?_⟩
    simp [Builtin.len_, hts, run_underlying he]
  | _ => simp [gE] at h
 | zs =>
  simp only [gE] at h
  cases s with
  | true => simp at h
  | false =>
   simp only [Bool.false_eq_true, if_false, Option.some.injEq] at h; subst h
   obtain ⟨e, he⟩ : ∃ e, C.P.underlying t = some (.slice e) := by simpa using ht
   simp only [Rep] at hx
   rcases hx with rfl | ⟨b, o, rfl, _⟩
   ·exact ⟨_, by simp only [Rep]; rfl, key _ (ksl _ _ _ e he rfl)⟩
   ·exact ⟨_, by simp only [Rep]; rfl, key _ (ksl _ _ _ e he rfl)⟩
 | _ => simp [gE] at h
theorem l7 {k : IntKind} {n : Int} (P : Program) (w : World) : (asIntOf (.int k n)).run P w = .ok (k, n) w := rfl
theorem EG {i ver k : Nat} (h : cur mem i ver k = true) : j5 mem i ver = true := by
 unfold cur at h; unfold j5
 cases hl : look mem i with
 | none => simp [hl] at h
 | some b => cases b <;> simp_all
theorem DI {t e : TypeId} {g : Bool} {k : Nat} {x i d : D} {v u : Value} (ht : C.P.underlying t = some (.slice e)) (he : Program.tsz C.P e = some (g, k)) (h : iaD mem k x i = some d)
  (hx : Rep w S φ x v) (hi : Rep w S φ i u) (hm : MSim S φ mem nx w) : ∃ r, Rep w S φ d r ∧ (Instr.indexAt t v u).run C.P w = .ok r w := by
 obtain ⟨ds, inf, hu, hinf, hsz, _⟩ := eC he
 have key : ∀ (b o len cap : Nat) (kd : IntKind) (n : Int), 0 ≤ n → n < len → (Instr.indexAt t (.slice (some ⟨b, o, none⟩) len cap) (.int kd n)).run C.P w = .ok (.pointer (some ⟨b, o + n.toNat * k, none⟩)) w := by
  intro b o len cap kd n h0 h1
  simp only [Instr.indexAt, Sem.run_bind, l7, Result.andThen_ok, run_underlying ht, Sem.run_pure, h0, h1, and_self, if_true, cI hinf, hsz, Addr.add_mid]
 unfold iaD at h
 split at h
 ·rename_i es kd n
  simp only [Rep] at hi; subst hi
  simp only [Option.ite_none_right_eq_some] at h
  obtain ⟨⟨h0, h1⟩, h⟩ := h
  split at h
  ·rename_i e' he'
   simp only [Option.ite_none_right_eq_some, Option.some.injEq] at h
   obtain ⟨hlen, rfl⟩ := h
   simp only [Rep] at hx
   rcases hx with ⟨rfl, _⟩ | ⟨b, o, cap, k', rfl, hc, hS, hes⟩
   ·simp at h1; omega
   ·obtain ⟨hk, hr⟩ := iA es k' b o n.toNat e' hes he'
    refine ⟨_, ?_, key b o _ cap kd n h0 h1⟩
    simp only [Rep]
    refine ⟨b, _, rfl, hS, ?_⟩
    rw [← hlen, hk]; exact hr
  ·simp at h
 ·rename_i i' ver lo m kd n
  simp only [Rep] at hi; subst hi
  simp only [Option.ite_none_right_eq_some, Option.some.injEq] at h
  obtain ⟨hc, ⟨h0, h1⟩, rfl⟩ := h
  have hcv := EG hc
  obtain ⟨k2, es, l, hlk, hl, hv, hb, _⟩ := kS hcv hm
  have hk2 : k2 = k := by
   unfold cur at hc
   rw [hlk] at hc
   simpa using hc
  subst hk2
  simp only [Rep] at hx
  obtain ⟨l', hl', hle, hsh, hx⟩ := hx
  rw [hl] at hl'; simp only [Option.some.injEq] at hl'; subst hl'
  rcases hx hv with ⟨_, _, rfl, _⟩ | ⟨hr, cap, rfl, _⟩ | ⟨_, rfl, _⟩
  rotate_right
  ·omega
  ·omega
  ·refine ⟨_, ?_, key _ _ _ cap kd n h0 (by exact_mod_cast h1)⟩
   simp only [Rep]
   refine ⟨l, hl, hle, ⟨_, rfl⟩, fun _ => ⟨hr, ?_⟩⟩
   simp only [BRep] at hb
   rw [← hb.2.2.1, Nat.add_zero, Nat.add_mul]
   simp [Nat.add_assoc]
 ·simp at h
theorem CD {X : Operand} {o : Oper} {x d : D} (ho : o.op = .nilCheck X) (h : qA x = some d) (hx : Rep w S φ x (a.eval X)) : ∃ r, Rep w S φ d r ∧ (execOp a.eval o).run C.P w = .ok (.value r) w := by
 have e : d = x := by cases x <;> simp [qA] at h <;> exact h.symm
 subst e
 cases d with
 | pt cs =>
  refine ⟨_, hx, ?_⟩
  simp only [Rep] at hx
  obtain ⟨b, o', hv, _⟩ := hx
  unfold execOp; simp only [ho, hv, Sem.run_pure]
 | opt i off =>
  refine ⟨_, hx, ?_⟩
  simp only [Rep] at hx
  obtain ⟨l, _, _, hv⟩ := hx
  unfold execOp; simp only [ho, hv, Sem.run_pure]
 | fn f cs =>
  refine ⟨_, hx, ?_⟩
  simp only [Rep] at hx
  obtain ⟨vs, hv, _⟩ := hx
  unfold execOp; simp only [ho, hv, Sem.run_pure]
 | _ => simp [qA] at h
end
section
variable {C : Cfg} {w w' : World} {S : Nat → Prop} {φ : aW} {a : Act} {env tl : Env} {mem : Mem} {nx id : Nat} {K : KD}
theorem e8 {b : Nat} (h : w'.heap[b]? = w.heap[b]?) (o : Nat) : w'.cell? ⟨b, o, none⟩ = w.cell? ⟨b, o, none⟩ := by
 simp only [World.cell?, h]
theorem BRep.mono {S' : Nat → Prop} {φ' : aW} (h : Stays w S φ w' S' φ') {l : Loc} (hb : l.real = true → w'.heap[l.b]? = w.heap[l.b]?) : ∀ (blk : Blk), BRep w S φ l blk → BRep w' S' φ' l blk
 | .box cs, hr => by
  simp only [BRep] at hr ⊢
  obtain ⟨h1, h2, h3, ⟨c, t, h4, h5⟩, h6⟩ := hr
  exact ⟨h1, h2, h3, ⟨c, t, (hb h1).trans h4, h5⟩, RepCs.mono h cs l.b 0 (e8 (hb h1)) h6⟩
 | .arr ver k es, hr => by
  simp only [BRep] at hr ⊢
  obtain ⟨h1, h2, h3, h4⟩ := hr
  refine ⟨h1, h2, h3, ?_⟩
  rcases h4 with h4 | ⟨h4, ⟨c, t, h5, h6⟩, h7, h8⟩
  ·exact .inl h4
  ·exact .inr ⟨h4, ⟨c, t, (hb h4).trans h5, h6⟩, h7, RepEs.mono h es k l.b l.base (e8 (hb h4)) h8⟩
 | .map es, hr => by
  simp only [BRep] at hr ⊢
  obtain ⟨h1, h2, ms, clock, h3, h4, h5⟩ := hr
  exact ⟨h1, h2, ms, clock, (hb h1).trans h3, RepMs.mono h _ _ h4, h5⟩
theorem eN (o : Obj) {b : Nat} (h : b < w.heap.size) : (w.alloc o).heap[b]? = w.heap[b]? := by
 show (w.heap.push o)[b]? = _
 rw [Array.getElem?_push, if_neg (by omega)]
theorem eM (o : Obj) : (w.alloc o).heap[w.heap.size]? = some o := by
 show (w.heap.push o)[w.heap.size]? = _
 simp
theorem dN (o : Obj) : (w.alloc o).heap.size = w.heap.size + 1 := by
 show (w.heap.push o).size = _
 simp
theorem Stays.of_heap {S' : Nat → Prop} {φ' : aW} (hS : ∀ b, S b → S' b) (hb : ∀ b, S b → w'.heap[b]? = w.heap[b]?) (hφ : ∀ id l, φ id = some l → φ' id = some l) : Stays w S φ w' S' φ' :=
 ⟨hS, fun b h o => e8 (hb b h) o, fun id l h => ⟨l, hφ id l h, .inl rfl⟩⟩
theorem jO (hm : MSim S φ mem nx w) (o : Obj) : MSim (fun b => S b ∨ b = w.heap.size) φ mem nx (w.alloc o) ∧ Stays w S φ (w.alloc o) (fun b => S b ∨ b = w.heap.size) φ ∧
  Ext S φ mem w (fun b => S b ∨ b = w.heap.size) φ mem (w.alloc o) := by
 have hst : Stays w S φ (w.alloc o) (fun b => S b ∨ b = w.heap.size) φ := Stays.of_heap (fun b h => .inl h) (fun b h => eN o (hm.sub b h)) (fun _ _ h => h)
 refine ⟨⟨?_, hm.inj, ?_, hm.fresh, ?_⟩, hst, ⟨fun b h => .inl h, fun b hb _ => eN o hb, by rw [dN]; omega, fun b _ h => h, ?_, rfl, rfl, rfl⟩⟩
 ·intro i blk hi
  obtain ⟨l, h1, h2, h3⟩ := hm.mem i blk hi
  refine ⟨l, h1, fun hr => ?_, h3.mono hst fun hr => eN o (hm.lt i l h1 hr)⟩
  rintro (h | h)
  ·exact h2 hr h
  ·have := hm.lt i l h1 hr; omega
 ·intro i l h hr; rw [dN]; have := hm.lt i l h hr; omega
 ·rintro b (h | h)
  ·rw [dN]; have := hm.sub b h; omega
  ·rw [dN]; omega
 ·rintro b (h | h)
  ·exact .inl h
  ·exact .inr (.inl (by omega))
theorem h_ (hm : MSim S φ mem nx w) (o : Obj) (hid : φ id = none) (hlt : id < nx) {l : Loc} (hr : l.real = true) (hl : l.b = w.heap.size) {blk : Blk}
  (hb : ∀ φ', Stays w S φ (w.alloc o) S φ' → BRep (w.alloc o) S φ' l blk) :
  ∃ φ', φ' id = some l ∧ MSim S φ' ((id, blk) :: mem) nx (w.alloc o) ∧ Stays w S φ (w.alloc o) S φ' ∧ Ext S φ mem w S φ' ((id, blk) :: mem) (w.alloc o) ∧ ∀ i, i ≠ id → φ' i = φ i := by
 refine ⟨fun i => if i = id then some l else φ i, by simp, ?_⟩
 have hst : Stays w S φ (w.alloc o) S (fun i => if i = id then some l else φ i) := by
  refine Stays.of_heap (fun b h => h) (fun b h => eN o (hm.sub b h)) fun i l' h => ?_
  by_cases e : i = id
  ·subst e; rw [hid] at h; simp at h
  ·simp [e, h]
 refine ⟨⟨?_, ?_, ?_, ?_, ?_⟩, hst, ⟨fun b h => h, fun b hb _ => eN o hb, by rw [dN]; omega, ?_, fun b h => .inl h, rfl, rfl, rfl⟩, fun i h => by simp [h]⟩
 ·intro i blk' hi
  simp only [look] at hi
  by_cases e : id = i
  ·subst e
   simp only [if_true, Option.some.injEq] at hi; subst hi
   exact ⟨l, by simp, fun _ h => by have := hm.sub _ h; omega, hb _ hst⟩
  ·simp only [e, if_false] at hi
   obtain ⟨l', h1, h2, h3⟩ := hm.mem i blk' hi
   exact ⟨l', by simp [Ne.symm e, h1], h2, h3.mono hst fun hr => eN o (hm.lt i l' h1 hr)⟩
 ·intro i j l1 l2 h1 h2 r1 r2 hbb
  by_cases e1 : i = id <;> by_cases e2 : j = id
  ·rw [e1, e2]
  ·simp only [e1, if_true, Option.some.injEq] at h1
   simp only [e2, if_false] at h2
   have := hm.lt j l2 h2 r2
   subst h1; omega
  ·simp only [e2, if_true, Option.some.injEq] at h2
   simp only [e1, if_false] at h1
   have := hm.lt i l1 h1 r1
   subst h2; omega
  ·simp only [e1, if_false] at h1
   simp only [e2, if_false] at h2
   exact hm.inj i j l1 l2 h1 h2 r1 r2 hbb
 ·intro i l' h hr'
  rw [dN]
  by_cases e : i = id
  ·simp only [e, if_true, Option.some.injEq] at h; subst h; omega
  ·simp only [e, if_false] at h
   have := hm.lt i l' h hr'; omega
 ·intro i h
  have e : i ≠ id := by omega
  simp only [e, if_false]; exact hm.fresh i h
 ·intro b h; rw [dN]; have := hm.sub b h; omega
 ·rintro b hlt' ⟨i, blk', l', h1, h2, h3, h4⟩
  simp only [look] at h1
  by_cases e : id = i
  ·subst e
   simp only [if_true, Option.some.injEq] at h2; subst h2; omega
  ·simp only [e, if_false] at h1
   simp only [Ne.symm e, if_false] at h2
   exact ⟨i, blk', l', h1, h2, h3, h4⟩
theorem pD (hm : MSim S φ mem nx w) (hid : φ id = none) (hlt : id < nx) (k : Nat) :
  ∃ φ', φ' id = some ⟨true, false, 0, 0, k, 0, 0⟩ ∧ MSim S φ' ((id, .arr 0 k []) :: mem) nx w ∧ Stays w S φ w S φ' ∧ Ext S φ mem w S φ' ((id, .arr 0 k []) :: mem) w ∧ ∀ i, i ≠ id → φ' i = φ i := by
 refine ⟨fun i => if i = id then some ⟨true, false, 0, 0, k, 0, 0⟩ else φ i, by simp, ?_⟩
 have hst : Stays w S φ w S (fun i => if i = id then some ⟨true, false, 0, 0, k, 0, 0⟩ else φ i) := by
  refine Stays.of_heap (fun b h => h) (fun b h => rfl) fun i l' h => ?_
  by_cases e : i = id
  ·subst e; rw [hid] at h; simp at h
  ·simp [e, h]
 refine ⟨⟨?_, ?_, ?_, ?_, hm.sub⟩, hst, ⟨fun b h => h, fun b _ _ => rfl, Nat.le_refl _, ?_, fun b h => .inl h, rfl, rfl, rfl⟩, fun i h => by simp [h]⟩
 ·intro i blk' hi
  simp only [look] at hi
  by_cases e : id = i
  ·subst e
   simp only [if_true, Option.some.injEq] at hi; subst hi
   exact ⟨⟨true, false, 0, 0, k, 0, 0⟩, by simp, fun h => by simp at h, by simp [BRep]⟩
  ·simp only [e, if_false] at hi
   obtain ⟨l', h1, h2, h3⟩ := hm.mem i blk' hi
   exact ⟨l', by simp [Ne.symm e, h1], h2, h3.mono hst fun _ => rfl⟩
 ·intro i j l1 l2 h1 h2 r1 r2 hbb
  by_cases e1 : i = id <;> by_cases e2 : j = id
  ·rw [e1, e2]
  ·simp only [e1, if_true, Option.some.injEq] at h1; subst h1; simp at r1
  ·simp only [e2, if_true, Option.some.injEq] at h2; subst h2; simp at r2
  ·simp only [e1, if_false] at h1
   simp only [e2, if_false] at h2
   exact hm.inj i j l1 l2 h1 h2 r1 r2 hbb
 ·intro i l' h hr'
  by_cases e : i = id
  ·simp only [e, if_true, Option.some.injEq] at h; subst h; simp at hr'
  ·simp only [e, if_false] at h
   exact hm.lt i l' h hr'
 ·intro i h
  have e : i ≠ id := by omega
  simp only [e, if_false]; exact hm.fresh i h
 ·rintro b hlt' ⟨i, blk', l', h1, h2, h3, h4⟩
  simp only [look] at h1
  by_cases e : id = i
  ·subst e
   simp only [if_true, Option.some.injEq] at h2; subst h2; simp at h3
  ·simp only [e, if_false] at h1
   simp only [Ne.symm e, if_false] at h2
   exact ⟨i, blk', l', h1, h2, h3, h4⟩
theorem lP (hm : MSim S φ mem nx w) {l : Loc} (hl : φ id = some l) (hr : l.real = true) {old blk : Blk} (ho : look mem id = some old) (hw : ∀ b, b ≠ l.b → w'.heap[b]? = w.heap[b]?) (hsz : w'.heap.size = w.heap.size)
  (hos : w'.os = w.os) (hout : w'.output = w.output) (htp : w'.tape = w.tape) (hb : Stays w S φ w' S φ → BRep w' S φ l blk) :
  MSim S φ (upd mem id blk) nx w' ∧ Stays w S φ w' S φ ∧ Ext S φ mem w S φ (upd mem id blk) w' := by
 obtain ⟨l0, h0, hS, _⟩ := hm.mem id _ ho
 rw [hl] at h0; simp only [Option.some.injEq] at h0; subst h0
 have hst : Stays w S φ w' S φ := Stays.of_heap (fun b h => h) (fun b h => hw b fun e => hS hr (e ▸ h)) (fun _ _ h => h)
 refine ⟨⟨?_, hm.inj, ?_, hm.fresh, ?_⟩, hst, ⟨fun b h => h, ?_, by omega, ?_, fun b h => .inl h, hos, hout, htp⟩⟩
 ·intro i blk' hi
  rcases dC id blk mem i blk' hi with ⟨rfl, rfl⟩ | ⟨hne, hi⟩
  ·exact ⟨l, hl, hS, hb hst⟩
  ·obtain ⟨l', h1, h2, h3⟩ := hm.mem i blk' hi
   exact ⟨l', h1, h2, h3.mono hst fun hr' => hw _ fun e => hne (hm.inj i id l' l h1 hl hr' hr e)⟩
 ·intro i l' h hr'; rw [hsz]; exact hm.lt i l' h hr'
 ·intro b h; rw [hsz]; exact hm.sub b h
 ·intro b _ hn
  exact hw b fun e => hn ⟨id, old, l, ho, hl, hr, e.symm⟩
 ·rintro b _ ⟨i, blk', l', h1, h2, h3, h4⟩
  rcases dC id blk mem i blk' h1 with ⟨rfl, rfl⟩ | ⟨hne, hi⟩
  ·exact ⟨i, old, l', ho, h2, h3, h4⟩
  ·exact ⟨i, blk', l', hi, h2, h3, h4⟩
theorem wD (hm : MSim S φ mem nx w) {l l' : Loc} (hl : φ id = some l) (ha : l.arr = true) (ha' : l'.arr = true) (hv : l.ver < l'.ver) {old blk : Blk} (ho : look mem id = some old) (o : Obj) (hr' : l'.real = true) (hb' : l'.b = w.heap.size)
  (hb : ∀ φ', φ' id = some l' → Stays w S φ (w.alloc o) S φ' → BRep (w.alloc o) S φ' l' blk) :
  ∃ φ', φ' id = some l' ∧ MSim S φ' (upd mem id blk) nx (w.alloc o) ∧ Stays w S φ (w.alloc o) S φ' ∧ Ext S φ mem w S φ' (upd mem id blk) (w.alloc o) ∧ ∀ i, i ≠ id → φ' i = φ i := by
 refine ⟨fun i => if i = id then some l' else φ i, by simp, ?_⟩
 have hst : Stays w S φ (w.alloc o) S (fun i => if i = id then some l' else φ i) := by
  refine ⟨fun b h => h, fun b h o' => e8 (eN o (hm.sub b h)) o', fun i l1 h => ?_⟩
  by_cases e : i = id
  ·subst e; rw [hl] at h; simp only [Option.some.injEq] at h; subst h
   exact ⟨l', by simp, .inr ⟨ha, ha', hv⟩⟩
  ·exact ⟨l1, by simp [e, h], .inl rfl⟩
 refine ⟨⟨?_, ?_, ?_, ?_, ?_⟩, hst, ⟨fun b h => h, fun b hb _ => eN o hb, by rw [dN]; omega, ?_, fun b h => .inl h, rfl, rfl, rfl⟩, fun i h => by simp [h]⟩
 ·intro i blk' hi
  rcases dC id blk mem i blk' hi with ⟨rfl, rfl⟩ | ⟨hne, hi⟩
  ·exact ⟨l', by simp, fun _ h => by have := hm.sub _ h; omega, hb _ (by simp) hst⟩
  ·obtain ⟨l1, h1, h2, h3⟩ := hm.mem i blk' hi
   exact ⟨l1, by simp [hne, h1], h2, h3.mono hst fun hr => eN o (hm.lt i l1 h1 hr)⟩
 ·intro i j l1 l2 h1 h2 r1 r2 hbb
  by_cases e1 : i = id <;> by_cases e2 : j = id
  ·rw [e1, e2]
  ·simp only [e1, if_true, Option.some.injEq] at h1
   simp only [e2, if_false] at h2
   have := hm.lt j l2 h2 r2
   subst h1; omega
  ·simp only [e2, if_true, Option.some.injEq] at h2
   simp only [e1, if_false] at h1
   have := hm.lt i l1 h1 r1
   subst h2; omega
  ·simp only [e1, if_false] at h1
   simp only [e2, if_false] at h2
   exact hm.inj i j l1 l2 h1 h2 r1 r2 hbb
 ·intro i l1 h hr1
  rw [dN]
  by_cases e : i = id
  ·simp only [e, if_true, Option.some.injEq] at h; subst h; omega
  ·simp only [e, if_false] at h
   have := hm.lt i l1 h hr1; omega
 ·intro i h
  have e : i ≠ id := by rintro rfl; rw [hm.fresh _ h] at hl; simp at hl
  simp only [e, if_false]; exact hm.fresh i h
 ·intro b h; rw [dN]; have := hm.sub b h; omega
 ·rintro b hlt' ⟨i, blk', l1, h1, h2, h3, h4⟩
  rcases dC id blk mem i blk' h1 with ⟨rfl, rfl⟩ | ⟨hne, hi⟩
  ·simp only [if_true, Option.some.injEq] at h2; subst h2; omega
  ·simp only [hne, if_false] at h2
   exact ⟨i, blk', l1, hi, h2, h3, h4⟩
theorem u7 (hm : MSim S φ mem nx w) {l l' : Loc} (hl : φ id = some l) (ha : l.arr = true) (ha' : l'.arr = true) (hv : l.ver < l'.ver) {old blk : Blk} (ho : look mem id = some old) (hrr : l'.real = l.real) (hbb : l'.b = l.b)
  (hw : ∀ b, (l.real = true → b ≠ l.b) → w'.heap[b]? = w.heap[b]?) (hsz : w'.heap.size = w.heap.size) (hos : w'.os = w.os) (hout : w'.output = w.output) (htp : w'.tape = w.tape)
  (hb : ∀ φ', φ' id = some l' → Stays w S φ w' S φ' → BRep w' S φ' l' blk) :
  ∃ φ', φ' id = some l' ∧ MSim S φ' (upd mem id blk) nx w' ∧ Stays w S φ w' S φ' ∧ Ext S φ mem w S φ' (upd mem id blk) w' ∧ ∀ i, i ≠ id → φ' i = φ i := by
 obtain ⟨l0, h0, hS, _⟩ := hm.mem id _ ho
 rw [hl] at h0; simp only [Option.some.injEq] at h0; subst h0
 refine ⟨fun i => if i = id then some l' else φ i, by simp, ?_⟩
 have hst : Stays w S φ w' S (fun i => if i = id then some l' else φ i) := by
  refine ⟨fun b h => h, fun b h o' => e8 (hw b fun hr e => hS hr (e ▸ h)) o', fun i l1 h => ?_⟩
  by_cases e : i = id
  ·subst e; rw [hl] at h; simp only [Option.some.injEq] at h; subst h
   exact ⟨l', by simp, .inr ⟨ha, ha', hv⟩⟩
  ·exact ⟨l1, by simp [e, h], .inl rfl⟩
 refine ⟨⟨?_, ?_, ?_, ?_, ?_⟩, hst, ⟨fun b h => h, ?_, by omega, ?_, fun b h => .inl h, hos, hout, htp⟩, fun i h => by simp [h]⟩
 ·intro i blk' hi
  rcases dC id blk mem i blk' hi with ⟨rfl, rfl⟩ | ⟨hne, hi⟩
  ·exact ⟨l', by simp, fun hr => by rw [hbb]; exact hS (hrr ▸ hr), hb _ (by simp) hst⟩
  ·obtain ⟨l1, h1, h2, h3⟩ := hm.mem i blk' hi
   exact ⟨l1, by simp [hne, h1], h2, h3.mono hst fun hr => hw _ fun hr0 e => hne (hm.inj i id l1 l h1 hl hr hr0 e)⟩
 ·intro i j l1 l2 h1 h2 r1 r2 hb2
  by_cases e1 : i = id <;> by_cases e2 : j = id
  ·rw [e1, e2]
  ·simp only [e1, if_true, Option.some.injEq] at h1
   simp only [e2, if_false] at h2
   subst h1; rw [hbb] at hb2
   exact e1.trans (hm.inj id j l l2 hl h2 (hrr ▸ r1) r2 hb2)
  ·simp only [e2, if_true, Option.some.injEq] at h2
   simp only [e1, if_false] at h1
   subst h2; rw [hbb] at hb2
   exact (hm.inj i id l1 l h1 hl r1 (hrr ▸ r2) hb2).trans e2.symm
  ·simp only [e1, if_false] at h1
   simp only [e2, if_false] at h2
   exact hm.inj i j l1 l2 h1 h2 r1 r2 hb2
 ·intro i l1 h hr1
  rw [hsz]
  by_cases e : i = id
  ·simp only [e, if_true, Option.some.injEq] at h; subst h; rw [hbb]; exact hm.lt id l hl (hrr ▸ hr1)
  ·simp only [e, if_false] at h
   exact hm.lt i l1 h hr1
 ·intro i h
  have e : i ≠ id := by rintro rfl; rw [hm.fresh _ h] at hl; simp at hl
  simp only [e, if_false]; exact hm.fresh i h
 ·intro b h; rw [hsz]; exact hm.sub b h
 ·intro b _ hn
  exact hw b fun hr e => hn ⟨id, old, l, ho, hl, hr, e.symm⟩
 ·rintro b hlt' ⟨i, blk', l1, h1, h2, h3, h4⟩
  rcases dC id blk mem i blk' h1 with ⟨rfl, rfl⟩ | ⟨hne, hi⟩
  ·simp only [if_true, Option.some.injEq] at h2; subst h2
   exact ⟨i, old, l, ho, hl, hrr ▸ h3, hbb ▸ h4⟩
  ·simp only [hne, if_false] at h2
   exact ⟨i, blk', l1, hi, h2, h3, h4⟩
end
abbrev JA (d e : Nat) : Ins := .mk (.t d) none (.mv (.g e))
abbrev JB (d e : Nat) : Ins := .mk (.g d) none (.mv (.t e))
abbrev JC (d e : Nat) : Ins := .mk (.t d) none (.mv (.t e))
abbrev JD (d n e : Nat) : Ins := .mk (.t d) none (.ld false n (.t e))
abbrev JE (d n e : Nat) : Ins := .mk (.t d) none (.ld true n (.t e))
abbrev JF (d n e : Nat) : Ins := .mk (.t d) none (.ld true n (.g e))
abbrev JG (d n e : Nat) : Ins := .mk (.t d) none (.fa n (.g e))
abbrev JH (d n e : Nat) : Ins := .mk (.t d) none (.fa n (.t e))
abbrev JI (d : Nat) (z : Int) : Ins := .mk (.g d) none (.mv (.c (.int .i64 z)))
abbrev JK (d n e : Nat) : Ins := .mk (.t d) none (.ext n (.t e))
abbrev JL (d n e f : Nat) : Ins := .mk (.t d) none (.ia n (.t e) (.t f))
abbrev JM (d e : Nat) : Ins := .mk (.t d) none (.chk (.t e))
abbrev JN (d e : Nat) : Ins := .mk (.g d) none (.bxi (.g e))
abbrev JO (d : Nat) (i : I) : Ins := .mk (.t d) none i
abbrev JP (d : Nat) (i : I) : Ins := .mk (.g d) none i
abbrev JQ (i : I) : Ins := .mk .no none i
abbrev JR (d e : Nat) (i : I) : Ins := .mk (.t d) (some (.t e, false)) i
abbrev JS (d e : Nat) (i : I) : Ins := .mk (.t d) (some (.t e, true)) i
abbrev JT (z : Int) : Opd := .c (.int .i64 z)
def JU : Value := .string (ByteArray.mk (Array.mk []))
@[simp] theorem JU_eq : JU = .string (ByteArray.mk (Array.mk [])) := (rfl)
def JV : Value := .int .i64 0
@[simp] theorem JV_eq : JV = .int .i64 0 := (rfl)
def JW : Value := .slice none 0 0
@[simp] theorem JW_eq : JW = .slice none 0 0 := (rfl)
abbrev JX : Opd := .c (.bool true)
abbrev JY : Opd := .c (.bool false)
section
variable {C : Cfg} {w w' : World} {S : Nat → Prop} {φ : aW} {a : Act} {env tl : Env} {mem : Mem} {nx id : Nat} {K : KD}
theorem vS {d : D} {v : Value} (hr : Rep w S φ d v) (hc : d.cell = true) : v.oneCell' = true := by
 cases d with
 | pl u => simp only [Rep] at hr; subst hr; cases v <;> simp [D.cell] at hc <;> rfl
 | sl es =>
  simp only [Rep] at hr
  rcases hr with ⟨_, rfl | ⟨p, rfl⟩⟩ | ⟨b, o, cap, k, rfl, _⟩ <;> rfl
 | zs => simp only [Rep] at hr; rcases hr with rfl | ⟨p, rfl⟩ <;> rfl
 | pt cs => simp only [Rep] at hr; obtain ⟨b, o, rfl, _⟩ := hr; rfl
 | opt i off => simp only [Rep] at hr; obtain ⟨l, _, _, rfl⟩ := hr; rfl
 | osl i v lo n => simp only [Rep] at hr; obtain ⟨l, _, _, ⟨p, m, c, rfl⟩, _⟩ := hr; rfl
 | oel i v lo n => simp only [Rep] at hr; obtain ⟨l, _, _, ⟨p, rfl⟩, _⟩ := hr; rfl
 | omap i => simp only [Rep] at hr; obtain ⟨l, _, _, rfl⟩ := hr; rfl
 | fn f cs => simp only [Rep] at hr; obtain ⟨vs, rfl, _⟩ := hr; rfl
 | _ => simp [D.cell] at hc
theorem lO {d : D} {v : Value} (hr : Rep w S φ d v) (hc : d.solid = true) : RepVs w S φ d.cells v.cells.toList := by
 cases d with
 | agg cs =>
  simp only [Rep] at hr
  obtain ⟨vs, rfl, h⟩ := hr
  exact h
 | _ =>
  all_goals
   have h1 := vS hr (by simpa [D.solid] using hc)
   have : v.cells = #[v] := by cases v <;> first | rfl | simp [Value.oneCell'] at h1
   rw [this]
   simp only [D.cells, RepVs]
   exact ⟨v, [], rfl, hr, rfl⟩
theorem lG : ∀ (cs : List D) (vs : List Value), RepVs w S φ cs vs → cs.all D.cell = true → ∀ u ∈ vs, u.oneCell' = true
 | [], vs, h, _ => by simp only [RepVs] at h; simp [h]
 | c :: cs, vs, h, hc => by
  simp only [RepVs] at h
  obtain ⟨x, r, rfl, h1, h2⟩ := h
  simp only [List.all_cons, Bool.and_eq_true] at hc
  intro u hu
  rcases List.mem_cons.1 hu with rfl | hu
  ·exact vS h1 hc.1
  ·exact lG cs r h2 hc.2 u hu
theorem kL {d : D} (h : d.cells.all D.cell = true) : d.solid = true := by
 cases d <;> first | rfl | simpa [D.cells, D.solid] using h
theorem dR (vs : Array Value) (t : TypeId) (fr : Nat × Nat) : (w.alloc (.cells vs t fr)).rangeAt w.heap.size 0 vs.toList := by
 intro j v hj
 have hs : (w.alloc (.cells vs t fr)).heap[w.heap.size]? = some (.cells vs t fr) := eM _
 simp only [World.cell?, hs, Option.isSome_none, Bool.false_eq_true, if_false, Nat.zero_add]
 simpa using hj
theorem gD : ∀ (cs : List D) (b o : Nat), (∀ m d, cs[m]? = some d → ∃ x, w.cell? ⟨b, o + m, none⟩ = some x ∧ Rep w S φ d x) → RepCs w S φ cs b o
 | [], b, o, _ => by simp [RepCs]
 | c :: cs, b, o, h => by
  simp only [RepCs]
  refine ⟨h 0 c rfl, gD cs b (o + 1) fun m d hd => ?_⟩
  have := h (m + 1) d (by simpa using hd)
  rwa [show o + (m + 1) = o + 1 + m by omega] at this
theorem gF : ∀ (es : List (List D)) (k b o : Nat), (∀ i e, es[i]? = some e → e.length = k ∧ RepCs w S φ e b (o + i * k)) → RepEs w S φ es k b o
 | [], k, b, o, _ => by simp [RepEs]
 | e :: es, k, b, o, h => by
  simp only [RepEs]
  have h0 := h 0 e rfl
  refine ⟨h0.1, by simpa using h0.2, gF es k b (o + k) fun i e' he => ?_⟩
  have := h (i + 1) e' (by simpa using he)
  rwa [show o + (i + 1) * k = o + k + i * k by rw [Nat.succ_mul]; omega] at this
theorem jB : ∀ (vs : List Value), RepVs w S φ (vs.map .pl) vs
 | [] => by simp [RepVs]
 | v :: vs => by simp only [List.map_cons, RepVs, Rep]; exact ⟨v, vs, rfl, rfl, jB vs⟩
theorem jD {P : Program} {t : TypeId} {z : List Value} (h : Program.zeroOf P t = some z) (w : World) : ∃ v, (zeroValue t).run P w = .ok v w ∧ v.cells.toList = z := by
 unfold Program.zeroOf at h
 split at h
 ·rename_i i hi
  split at h
  ·rename_i v hv
   simp only [Option.some.injEq] at h
   exact ⟨v, by simp [zeroValue, typeInfo, hi, hv], h⟩
  ·simp at h
 ·simp at h
theorem DL {e : TypeId} {z : List Value} {o : Oper} (ho : o.op = .alloc e) (hz : Program.zeroOf C.P e = some z) (hm : MSim S φ mem nx w) (hid : φ id = none) (hlt : id < nx) (hk : K (.opt id 0) ((id, .box (z.map .pl)) :: mem) nx) :
  fT C.P o a w (Out S φ mem nx w id K) := by
 obtain ⟨v, hv, hvz⟩ := jD hz w
 refine cD (x := .pointer (some ⟨w.heap.size, 0, none⟩)) (w' := w.alloc (.cells v.cells e)) ?_ ?_
 ·unfold execOp
  simp only [ho, Instr.alloc, Sem.run_bind, hv, Result.andThen_ok, newVar, newRow, run_newObj, Sem.run_pure]
  rfl
 ·have hnew := dR (w := w) v.cells e (0, 0)
  obtain ⟨φ', h1, h2, h3, h4, h5⟩ := h_ (l := ⟨false, true, w.heap.size, 0, 0, 0, 0⟩) (blk := .box (z.map .pl)) hm (.cells v.cells e) hid hlt rfl rfl (by
   intro φ' _
   simp only [BRep]
   refine ⟨trivial, trivial, trivial, ⟨v.cells, e, eM _, by simp [← hvz]⟩, b_ _ _ _ _ ?_ hnew⟩
   rw [hvz]; exact jB z)
  refine ⟨.opt id 0, _, nx, S, φ', hk, Nat.le_refl _, ?_, h2, h3, h4, fun i hi _ hn => by rw [h5 i hi]; exact hn⟩
  simp only [Rep]
  exact ⟨_, h1, rfl, rfl⟩
theorem DQ {e : TypeId} {X : Operand} {d : D} {o : Oper} (ho : o.op = .box e X) (hd : d.cells.all D.cell = true) (hx : Rep w S φ d (a.eval X)) (hm : MSim S φ mem nx w) (hid : φ id = none) (hlt : id < nx)
  (hk : K (.opt id 0) ((id, .box d.cells) :: mem) nx) : fT C.P o a w (Out S φ mem nx w id K) := by
 refine cD (x := .pointer (some ⟨w.heap.size, 0, none⟩)) (w' := w.alloc (.cells (a.eval X).cells e)) ?_ ?_
 ·unfold execOp
  simp only [ho, Instr.box, Sem.run_bind, Result.andThen_ok, newVar, newRow, run_newObj, Sem.run_pure]
  rfl
 ·have hnew := dR (w := w) (a.eval X).cells e (0, 0)
  have hc := lO hx (kL hd)
  obtain ⟨φ', h1, h2, h3, h4, h5⟩ := h_ (l := ⟨false, true, w.heap.size, 0, 0, 0, 0⟩) (blk := .box d.cells) hm (.cells (a.eval X).cells e) hid hlt rfl rfl (by
   intro φ' hst
   simp only [BRep]
   refine ⟨trivial, trivial, trivial, ⟨_, e, eM _, by rw [← Array.length_toList, bV _ _ hc]⟩, b_ _ _ _ _ (RepVs.mono hst _ _ hc) hnew⟩)
  refine ⟨.opt id 0, _, nx, S, φ', hk, Nat.le_refl _, ?_, h2, h3, h4, fun i hi _ hn => by rw [h5 i hi]; exact hn⟩
  simp only [Rep]
  exact ⟨_, h1, rfl, rfl⟩
theorem BG {e : TypeId} {X : Operand} {d : D} {o : Oper} (ho : o.op = .box e X) (hd : d.cells.all D.cell = true) (hx : Rep w S φ d (a.eval X)) (hm : MSim S φ mem nx w)
  (hk : K (.pt d.cells) mem nx) : fT C.P o a w (Out S φ mem nx w id K) := by
 refine cD (x := .pointer (some ⟨w.heap.size, 0, none⟩)) (w' := w.alloc (.cells (a.eval X).cells e)) ?_ ?_
 ·unfold execOp
  simp only [ho, Instr.box, Sem.run_bind, Result.andThen_ok, newVar, newRow, run_newObj, Sem.run_pure]
  rfl
 ·have hnew := dR (w := w) (a.eval X).cells e (0, 0)
  have hc := lO hx (kL hd)
  obtain ⟨h1, h2, h3⟩ := jO hm (.cells (a.eval X).cells e)
  refine ⟨.pt d.cells, mem, nx, _, φ, hk, Nat.le_refl _, ?_, h1, h2, h3, fun i _ _ hn => hn⟩
  simp only [Rep]
  exact ⟨_, 0, rfl, .inr rfl, b_ _ _ _ _ (RepVs.mono h2 _ _ hc) hnew⟩
theorem FF {n : Int} (h0 : 0 ≤ n) (h : n ≤ 2 ^ 48) : IntKind.i64.wrap n = n := IntWalk.i64_in n (by omega)
theorem vT {t e : TypeId} {g : Bool} {k : Nat} {inf : TypeInfo} {z : List Value} {n : Int} (ht : C.P.underlying t = some (.slice e)) (he : Program.tsz C.P e = some (g, k)) (hi : C.P.info? e = some inf) (hz : Program.zeroOf C.P e = some z)
  (hk : 0 < k) (hzk : z.length = k) (hb : 0 < inf.bytes) (h0 : 0 ≤ n) (h1 : n * inf.bytes ≤ 2 ^ 47) (w : World) :
  ∃ cs : Array Value, (Instr.makeSlice t (.int .i64 n) (.int .i64 n)).run C.P w = .ok (.slice (some ⟨w.heap.size, 0, none⟩) n.toNat n.toNat) (w.alloc (.cells cs e)) ∧ cs.size = n.toNat * k ∧
   ∀ j, j < n.toNat * k → cs[j]? = z[j % k]? := by
 obtain ⟨ds, inf', hu, hinf, hsz, _⟩ := eC he
 have hsz : inf.size = k := by rw [hi] at hinf; rw [Option.some.inj hinf]; exact hsz
 have hinf := hi
 obtain ⟨v, hv, hvz⟩ := jD hz w
 have hn : n ≤ 2 ^ 47 := Int.le_trans (by have : n * 1 ≤ n * inf.bytes := Int.mul_le_mul_of_nonneg_left (by exact_mod_cast hb) h0; omega) h1
 have hw := FF h0 (by omega)
 have hbn : (inf.bytes : Int) * n ≤ 2 ^ 47 := by rw [Int.mul_comm]; exact h1
 have c1 : ¬ n < 0 := by omega
 have c2 : ¬ ((inf.bytes : Int) * n > 2 ^ 48) := by omega
 have hvs : v.cells.size = k := by rw [← Array.length_toList, hvz, hzk]
 have c0 : (decide (n < 0) || decide ((inf.bytes : Int) * n > 2 ^ 48) || decide (n < 0) || decide (n > n)) = false := by
  rw [decide_eq_false c1, decide_eq_false c2, decide_eq_false (Int.lt_irrefl n)]; rfl
 by_cases hz0 : n.toNat * k = 0
 ·refine ⟨#[], ?_, by simp [hz0], fun j hj => by omega⟩
  simp only [Instr.makeSlice, Sem.run_bind, run_underlying ht, Result.andThen_ok, asInt, asIntOf, Sem.run_pure, typeInfo, run_program, hi, hw]
  rw [if_neg (by rw [c0]; simp)]
  simp only [Sem.run_bind, run_askRoom, Result.andThen_ok, cI hi, hsz, hz0, if_true, Sem.run_pure, newRow, run_newObj]
  have hemp : ∀ f : Nat → Value, Array.map f (Array.range 0) = #[] := by intro f; simp
  rw [hemp]; rfl
 ·refine ⟨(Array.range (n.toNat * k)).map (v.cells[· % v.cells.size]!), ?_, by simp, fun j hj => ?_⟩
  ·simp only [Instr.makeSlice, Sem.run_bind, run_underlying ht, Result.andThen_ok, asInt, asIntOf, Sem.run_pure, typeInfo, run_program, hi, hw]
   rw [if_neg (by rw [c0]; simp)]
   simp only [Sem.run_bind, run_askRoom, Result.andThen_ok, cI hi, hsz, hz0, if_false, Sem.run_pure, newRow, run_newObj, hv]
   rfl
  ·have h1 : j % k < v.cells.size := by rw [hvs]; exact Nat.mod_lt _ hk
   rw [← hvz]
   simp only [Array.getElem?_map, Array.getElem?_range, hj, if_true, Option.map_some, hvs]
   rw [Array.getElem?_toList, getElem!_pos v.cells (j % k) h1, Array.getElem?_eq_getElem h1]
theorem pT {n k b : Nat} {z : List Value} {cs : Array Value} (hzk : z.length = k) (hcs : ∀ j, j < n * k → cs[j]? = z[j % k]?) (hsz : cs.size = n * k) (hr : w.rangeAt b 0 cs.toList) :
  RepEs w S φ (List.replicate n (z.map .pl)) k b 0 := by
 refine gF _ _ _ _ fun i e he => ?_
 obtain ⟨hi, rfl⟩ : i < n ∧ e = z.map .pl := by
  rw [List.getElem?_replicate] at he
  split at he
  ·rename_i h; simp only [Option.some.injEq] at he; exact ⟨h, he.symm⟩
  ·simp at he
 refine ⟨by simp [hzk], gD _ _ _ fun m d hd => ?_⟩
 rw [List.getElem?_map] at hd
 obtain ⟨v, hv, rfl⟩ : ∃ v, z[m]? = some v ∧ D.pl v = d := by
  cases h : z[m]? with
  | none => simp [h] at hd
  | some v => rw [h] at hd; exact ⟨v, rfl, by simpa using hd⟩
 have hm : m < k := by rw [← hzk]; exact (List.getElem?_eq_some_iff.1 hv).1
 have hj : i * k + m < n * k := by
  have : (i + 1) * k ≤ n * k := Nat.mul_le_mul_right k hi
  rw [Nat.succ_mul] at this; omega
 have hc := hcs (i * k + m) hj
 rw [Nat.mul_add_mod_self_right, Nat.mod_eq_of_lt hm, hv] at hc
 refine ⟨v, ?_, by simp [Rep]⟩
 have := hr (i * k + m) v (by simpa using hc)
 rwa [Nat.zero_add] at this ⊢
theorem CJ {t e : TypeId} {X Y : Operand} {g : Bool} {k : Nat} {inf : TypeInfo} {z : List Value} {n : Int} {o : Oper} (ho : o.op = .makeSlice t X Y) (ht : C.P.underlying t = some (.slice e)) (he : Program.tsz C.P e = some (g, k)) (hi : C.P.info? e = some inf)
  (hz : Program.zeroOf C.P e = some z) (hk : 0 < k) (hzk : z.length = k) (hb : 0 < inf.bytes) (hX : a.eval X = .int .i64 n) (hY : a.eval Y = .int .i64 n) (h0 : 0 ≤ n) (h1 : n * inf.bytes ≤ 2 ^ 47) (hm : MSim S φ mem nx w)
  (hK : K (.sl (List.replicate n.toNat (z.map .pl))) mem nx) : fT C.P o a w (Out S φ mem nx w id K) := by
 obtain ⟨cs, hrun, hsz, hcs⟩ := vT ht he hi hz hk hzk hb h0 h1 w
 refine cD (x := .slice (some ⟨w.heap.size, 0, none⟩) n.toNat n.toNat) (w' := w.alloc (.cells cs e)) ?_ ?_
 ·unfold execOp
  simp only [ho, hX, hY, Sem.run_bind, hrun, Result.andThen_ok, Sem.run_pure]
 ·have hnew := dR (w := w) cs e (0, 0)
  obtain ⟨h1, h2, h3⟩ := jO hm (.cells cs e)
  refine ⟨_, mem, nx, _, φ, hK, Nat.le_refl _, ?_, h1, h2, h3, fun i _ _ hn => hn⟩
  simp only [Rep]
  exact .inr ⟨_, 0, n.toNat, k, by simp, by simp, .inr rfl, pT hzk hcs hsz hnew⟩
theorem BP {t e : TypeId} {X Y : Operand} {g : Bool} {k : Nat} {inf : TypeInfo} {z : List Value} {n : Int} {o : Oper} (ho : o.op = .makeSlice t X Y) (ht : C.P.underlying t = some (.slice e)) (he : Program.tsz C.P e = some (g, k)) (hi : C.P.info? e = some inf)
  (hz : Program.zeroOf C.P e = some z) (hk : 0 < k) (hzk : z.length = k) (hb : 0 < inf.bytes) (hX : a.eval X = .int .i64 n) (hY : a.eval Y = .int .i64 n) (h0 : 0 ≤ n) (h1 : n * inf.bytes ≤ 2 ^ 47) (hm : MSim S φ mem nx w) (hid : φ id = none) (hlt : id < nx)
  (hK : K (.osl id 0 0 n.toNat) ((id, .arr 0 k (List.replicate n.toNat (z.map .pl))) :: mem) nx) : fT C.P o a w (Out S φ mem nx w id K) := by
 obtain ⟨cs, hrun, hsz, hcs⟩ := vT ht he hi hz hk hzk hb h0 h1 w
 refine cD (x := .slice (some ⟨w.heap.size, 0, none⟩) n.toNat n.toNat) (w' := w.alloc (.cells cs e)) ?_ ?_
 ·unfold execOp
  simp only [ho, hX, hY, Sem.run_bind, hrun, Result.andThen_ok, Sem.run_pure]
 ·have hnew := dR (w := w) cs e (0, 0)
  obtain ⟨φ', h1, h2, h3, h4, h5⟩ := h_ (l := ⟨true, true, w.heap.size, 0, k, 0, n.toNat * k⟩) (blk := .arr 0 k (List.replicate n.toNat (z.map .pl))) hm (.cells cs e) hid hlt rfl rfl (by
   intro φ' _
   simp only [BRep]
   exact ⟨trivial, trivial, trivial, .inr ⟨trivial, ⟨cs, e, eM _, hsz⟩, by simp, pT hzk hcs hsz hnew⟩⟩)
  refine ⟨_, _, nx, S, φ', hK, Nat.le_refl _, ?_, h2, h3, h4, fun i hi _ hn => by rw [h5 i hi]; exact hn⟩
  simp only [Rep]
  exact ⟨_, h1, Nat.le_refl _, ⟨_, _, _, rfl⟩, fun _ => .inr (.inl ⟨rfl, n.toNat, by simp, Nat.le_refl _, by simp⟩)⟩
end
section
variable {C : Cfg} {w w' : World} {S : Nat → Prop} {φ : aW} {a : Act} {env tl : Env} {mem : Mem} {nx id : Nat} {K : KD}
theorem pS (off : Nat) : ∀ (l : List Value) (k : Nat) (cells : Array Value), off + k + l.length ≤ cells.size →
  ((l.zipIdx k).foldl (fun cs (x : Value × Nat) => cs.setIfInBounds (off + x.2) x.1) cells).toList = cells.toList.take (off + k) ++ l ++ cells.toList.drop (off + k + l.length)
 | [], k, cells, h => by simp
 | v :: l, k, cells, h => by
  simp only [List.zipIdx_cons, List.foldl_cons]
  simp only [List.length_cons] at h
  rw [pS off l (k + 1) (cells.setIfInBounds (off + k) v) (by simp; omega)]
  have hlt : off + k < cells.toList.length := by simp; omega
  rw [Array.toList_setIfInBounds]
  have e1 : (cells.toList.set (off + k) v).take (off + (k + 1)) = cells.toList.take (off + k) ++ [v] := by
   rw [← Nat.add_assoc, List.take_succ_eq_append_getElem (by simpa using hlt)]
   simp [List.take_set_of_le]
  have e2 : (cells.toList.set (off + k) v).drop (off + (k + 1) + l.length) = cells.toList.drop (off + k + (v :: l).length) := by
   rw [List.drop_set_of_lt (by omega)]
   congr 1; simp; omega
  rw [e1, e2]; simp
theorem xM {off : Nat} {cs new : List D} {vs ns : List Value} (h : RepVs w S φ cs vs) (k : RepVs w S φ new ns) : RepVs w S φ (place off cs new) (vs.take off ++ ns ++ vs.drop (off + ns.length)) := by
 unfold place
 refine dQ _ _ _ _ (dQ _ _ _ _ (mL off _ _ h) k) ?_
 rw [bV _ _ k]
 exact nF _ _ _ h
theorem j9 (hk : dH C w S φ env tl a) (pl : Nat → Option (Nat × Nat)) : ∀ (ps : List (Nat × Operand)) (qs : List (Nat × Nat × Opd)) (ds : List (Nat × Nat × D)) (cs out : List D) (vs : Array Value),
  C.parts pl ps = some qs → rps tl env qs = some ds → RepVs w S φ cs vs.toList → gP cs ds = some out →
  ∃ vs', Instr.fill pl vs (ps.map fun p => (p.1, a.eval p.2)) = some vs' ∧ RepVs w S φ out vs'.toList
 | [], qs, ds, cs, out, vs, h1, h2, h3, h4 => by
  simp only [Cfg.parts, List.mapM_nil, Option.pure_def, Option.some.injEq] at h1; subst h1
  simp only [rps, Option.some.injEq] at h2; subst h2
  simp only [gP, Option.some.injEq] at h4; subst h4
  exact ⟨vs, rfl, h3⟩
 | (i, x) :: ps, qs, ds, cs, out, vs, h1, h2, h3, h4 => by
  simp only [Cfg.parts, List.mapM_cons, Option.bind_eq_bind, Option.bind_eq_some_iff, Option.pure_def, Option.some.injEq] at h1
  obtain ⟨q, hq, qs', hqs, rfl⟩ := h1
  split at hq
  ·rename_i o n y hpl hy
   simp only [Option.some.injEq] at hq; subst hq
   simp only [rps] at h2
   split at h2
   ·rename_i d ds' hd hds
    simp only [Option.some.injEq] at h2; subst h2
    simp only [gP, Option.ite_none_right_eq_some] at h4
    obtain ⟨⟨hsol, hlen, hle⟩, h4⟩ := h4
    have hr := lO (aP hk hy hd) hsol
    have hl1 := bV _ _ hr
    have hl2 := bV _ _ h3
    simp only [Array.length_toList] at hl1 hl2
    have hsz : (a.eval x).cells.size = n := by omega
    have hsz2 : o + (a.eval x).cells.size ≤ vs.size := by omega
    have hfold := pS o (a.eval x).cells.toList 0 vs (by simp; omega)
    obtain ⟨vs', hf, hv⟩ := j9 hk pl ps qs' ds' (place o cs d.cells) out ((a.eval x).cells.zipIdx.foldl (fun cs (x : Value × Nat) => cs.setIfInBounds (o + x.2) x.1) vs) hqs hds (by
     rw [← Array.foldl_toList, Array.toList_zipIdx, hfold]
     simpa using xM (off := o) h3 hr) h4
    refine ⟨vs', ?_, hv⟩
    simp only [List.map_cons, Instr.fill, hpl]
    rw [if_neg (by simp; omega)]
    exact hf
   ·simp at h2
  ·simp at hq
theorem nR {P : Program} {α β : Type} (f : α → Sem β) (g : α → β) (w : World) : ∀ (l : List α), (∀ x ∈ l, (f x).run P w = .ok (g x) w) → (l.mapM f).run P w = .ok (l.map g) w
 | [], _ => by simp [List.mapM_nil]
 | x :: l, h => by
  rw [List.mapM_cons, Sem.run_bind, h x (by simp), Result.andThen_ok, Sem.run_bind, nR f g w l (fun y hy => h y (by simp [hy]))]
  simp
theorem EO {P : Program} {α β : Type} (f : α → Sem β) (g : α → β) (w : World) (l : Array α) (h : ∀ x ∈ l.toList, (f x).run P w = .ok (g x) w) : (l.mapM f).run P w = .ok (l.map g) w := by
 rw [Array.mapM_eq_mapM_toList, Sem.run_map, nR f g w l.toList h]
 simp only [Result.andThen_ok]
 congr 1
 apply Array.ext'
 simp
theorem AQ {t : TypeId} {fs : Array Field} {z : List Value} {ps : Array (Nat × Operand)} {qs : List (Nat × Nat × Opd)} {ds : List (Nat × Nat × D)} {d : D} (hk : dH C w S φ env tl a) (hz : Program.zeroOf C.P t = some z) (ht : C.P.underlying t = some (.struct fs))
  (hall : fs.toList.all (fun f => (C.P.info? f.type).isSome) = true) (hq : C.parts (C.fieldPlaces fs) ps.toList = some qs) (hd : rps tl env qs = some ds) (h : pJ z ds = some d) :
  ∃ r, Rep w S φ d r ∧ (Instr.build t (ps.map fun (i, x) => (i, a.eval x))).run C.P w = .ok r w := by
 obtain ⟨v, hv, hvz⟩ := jD hz w
 unfold pJ at h
 cases hf : gP (z.map .pl) ds with
 | none => simp [hf] at h
 | some out =>
  simp only [hf, Option.map_some, Option.some.injEq] at h; subst h
  have hpl : ∀ i p, C.fieldPlaces fs i = some p → (fs.map fun f => (f.offset, ((C.P.info? f.type).map (·.size)).getD 0))[i]? = some p := by
   intro i p hp
   unfold Cfg.fieldPlaces at hp
   split at hp
   ·rename_i f hfi
    split at hp
    ·rename_i g n htz
     simp only [Option.some.injEq] at hp; subst hp
     obtain ⟨dd, inf, _, hi, hsz, _⟩ := eC htz
     simp [hfi, hi, hsz]
    ·simp at hp
   ·simp at hp
  have hparts : C.parts (fun i => (fs.map fun f => (f.offset, ((C.P.info? f.type).map (·.size)).getD 0))[i]?) ps.toList = some qs := by
   clear hd hf
   generalize ps.toList = l at hq
   induction l generalizing qs with
   | nil => simpa [Cfg.parts] using hq
   | cons p l ih =>
    obtain ⟨i, x⟩ := p
    simp only [Cfg.parts, List.mapM_cons, Option.bind_eq_bind, Option.bind_eq_some_iff, Option.pure_def, Option.some.injEq] at hq ⊢
    obtain ⟨q, h1, qs', h2, rfl⟩ := hq
    refine ⟨q, ?_, qs', ih h2, rfl⟩
    cases hp : C.fieldPlaces fs i with
    | none => simp [hp] at h1
    | some p =>
     rw [hp] at h1
     rw [hpl i p hp]
     exact h1
  obtain ⟨vs', hfill, hrep⟩ := j9 hk _ ps.toList qs ds (z.map .pl) out v.cells hparts hd (by rw [hvz]; exact jB z) hf
  refine ⟨.agg vs', by simp only [Rep]; exact ⟨vs', rfl, hrep⟩, ?_⟩
  have hm := EO (P := C.P) (fun f : Field => (do pure (f.offset, ← sizeOf f.type) : Sem (Nat × Nat))) (fun f => (f.offset, ((C.P.info? f.type).map (·.size)).getD 0)) w fs (by
   intro f hf
   have := List.all_eq_true.1 hall f hf
   obtain ⟨i, hi⟩ := Option.isSome_iff_exists.1 this
   simp [cI hi, hi])
  simp only [Instr.build, Sem.run_bind, hv, Result.andThen_ok, run_underlying ht, hm]
  rw [show (ps.map fun (x : Nat × Operand) => (x.1, a.eval x.2)).toList = ps.toList.map fun p => (p.1, a.eval p.2) by simp]
  rw [hfill]
  simp
theorem B1 {t e : TypeId} {len : Nat} {g : Bool} {k : Nat} {z : List Value} {ps : Array (Nat × Operand)} {qs : List (Nat × Nat × Opd)} {ds : List (Nat × Nat × D)} {d : D} (hk : dH C w S φ env tl a) (hz : Program.zeroOf C.P t = some z) (ht : C.P.underlying t = some (.array len e))
  (he : Program.tsz C.P e = some (g, k)) (hq : C.parts (fun i => some (i * k, k)) ps.toList = some qs) (hd : rps tl env qs = some ds) (h : pJ z ds = some d) :
  ∃ r, Rep w S φ d r ∧ (Instr.build t (ps.map fun (i, x) => (i, a.eval x))).run C.P w = .ok r w := by
 obtain ⟨v, hv, hvz⟩ := jD hz w
 obtain ⟨dd, inf, _, hi, hsz, _⟩ := eC he
 unfold pJ at h
 cases hf : gP (z.map .pl) ds with
 | none => simp [hf] at h
 | some out =>
  simp only [hf, Option.map_some, Option.some.injEq] at h; subst h
  obtain ⟨vs', hfill, hrep⟩ := j9 hk _ ps.toList qs ds (z.map .pl) out v.cells hq hd (by rw [hvz]; exact jB z) hf
  refine ⟨.agg vs', by simp only [Rep]; exact ⟨vs', rfl, hrep⟩, ?_⟩
  simp only [Instr.build, Sem.run_bind, hv, Result.andThen_ok, run_underlying ht, cI hi, hsz]
  rw [show (ps.map fun (x : Nat × Operand) => (x.1, a.eval x.2)).toList = ps.toList.map fun p => (p.1, a.eval p.2) by simp]
  rw [hfill]
  simp
theorem rA (z : List Value) : ∀ (n : Nat), RepVs w S φ (List.replicate n (z.map D.pl)).flatten (List.replicate n z).flatten
 | 0 => by simp [RepVs]
 | n + 1 => by
  simp only [List.replicate_succ, List.flatten_cons]
  exact dQ _ _ _ _ (jB z) (rA z n)
theorem AI (k : Nat) (hk : 0 < k) (z : Array Value) (hz : z.size = k) : ∀ n, ((Array.range (n * k)).map (z[· % z.size]!)).toList = (List.replicate n z.toList).flatten := by
 intro n
 rw [Array.toList_map, Array.toList_range]
 induction n with
 | zero => simp
 | succ n ih =>
  rw [Nat.succ_mul, List.replicate_succ', List.flatten_append, ← ih, List.range_add, List.map_append]
  congr 1
  simp only [List.map_map, List.flatten_cons, List.flatten_nil, List.append_nil]
  apply List.ext_getElem?
  intro i
  by_cases hi : i < k
  ·have h1 : (n * k + i) % z.size = i := by rw [hz, Nat.mul_add_mod_self_right, Nat.mod_eq_of_lt hi]
   rw [List.getElem?_map, List.getElem?_range hi]
   simp only [Option.map_some, Function.comp, h1]
   rw [getElem!_pos z i (by omega), Array.getElem?_toList, Array.getElem?_eq_getElem (by omega)]
  ·rw [List.getElem?_eq_none (by simp; omega), List.getElem?_eq_none (by simp; omega)]
theorem mH (k b : Nat) : ∀ (n : Nat) (cs : List D) (o : Nat), cs.length = n * k → RepCs w S φ cs b o → RepEs w S φ (eX k n cs) k b o
 | 0, cs, o, _, _ => by simp [eX, RepEs]
 | n + 1, cs, o, hl, h => by
  simp only [eX, RepEs]
  rw [Nat.succ_mul] at hl
  exact ⟨by simp; omega, gI k cs b o h, mH k b n (cs.drop k) (o + k) (by simp; omega) (eQ k cs b o h)⟩
theorem fH (k : Nat) : ∀ (n : Nat) (cs : List D), (eX k n cs).length = n
 | 0, cs => rfl
 | n + 1, cs => by simp [eX, fH k n]
theorem CR {t e : TypeId} {g : Bool} {k len : Nat} {z : List Value} {ps : Array (Nat × Operand)} {qs : List (Nat × Nat × Opd)} {ds : List (Nat × Nat × D)} {es : List (List D)} (hk : dH C w S φ env tl a) (ht : C.P.underlying t = some (.slice e)) (he : Program.tsz C.P e = some (g, k))
  (hz : Program.zeroOf C.P e = some z) (h0 : len ≠ 0) (hlen : len * k ≤ 2 ^ 24) (hkp : 0 < k) (hzk : z.length = k) (hq : C.parts (fun i => some (i * k, k)) ps.toList = some qs) (hd : rps tl env qs = some ds) (h : bslD k len z ds = some es) :
  ∃ cs : Array Value, (Instr.buildSlice t len (ps.map fun (i, x) => (i, a.eval x))).run C.P w = .ok (.slice (some ⟨w.heap.size, 0, none⟩) len len) (w.alloc (.cells cs e)) ∧ cs.size = len * k ∧ es.length = len ∧ RepVs w S φ es.flatten cs.toList ∧ ∃ out, RepVs w S φ out cs.toList ∧ out.length = len * k ∧ es = eX k len out := by
 obtain ⟨v, hv, hvz⟩ := jD hz w
 obtain ⟨dd, inf, _, hi, hsz, _⟩ := eC he
 unfold bslD at h
 cases hf : gP (List.replicate len (z.map D.pl)).flatten ds with
 | none => simp [hf] at h
 | some out =>
  simp only [hf, Option.map_some, Option.some.injEq] at h; subst h
  have hvs : v.cells.size = k := by rw [← Array.length_toList, hvz, hzk]
  have hflat := AI k hkp v.cells hvs len
  obtain ⟨vs', hfill, hrep⟩ := j9 hk _ ps.toList qs ds _ out ((Array.range (len * k)).map (v.cells[· % v.cells.size]!)) hq hd (by
   rw [hflat, hvz]; exact rA z len) hf
  have hlenD : ∀ (ds : List (Nat × Nat × D)) (cs out : List D), gP cs ds = some out → out.length = cs.length := by
   intro ds
   induction ds with
   | nil => intro cs out h; simp only [gP, Option.some.injEq] at h; rw [h]
   | cons p ds ih =>
    obtain ⟨o, n, d⟩ := p
    intro cs out h
    simp only [gP, Option.ite_none_right_eq_some] at h
    obtain ⟨⟨_, h1, h2⟩, h3⟩ := h
    rw [ih _ _ h3]; simp [place]; omega
  have hol : out.length = len * k := by
   rw [hlenD _ _ _ hf]; simp [hzk]
  have hvl := bV _ _ hrep
  refine ⟨vs', ?_, by rw [← Array.length_toList, hvl, hol], fH _ _ _, ?_, out, hrep, hol, rfl⟩
  ·have hnz : ¬ (len * k = 0) := by have := Nat.mul_pos (Nat.pos_of_ne_zero h0) hkp; omega
   simp only [Instr.buildSlice, Sem.run_bind, run_underlying ht, Result.andThen_ok, cI hi, hsz]
   rw [if_neg (by omega)]
   simp only [hnz, if_false, Sem.run_bind, hv, Result.andThen_ok, Sem.run_pure]
   rw [show (ps.map fun (x : Nat × Operand) => (x.1, a.eval x.2)).toList = ps.toList.map fun p => (p.1, a.eval p.2) by simp, hfill]
   simp only [Sem.run_bind, newRow, run_newObj, Result.andThen_ok, Sem.run_pure]
   rfl
  ·have : ∀ (n : Nat) (cs : List D), cs.length = n * k → (eX k n cs).flatten = cs := by
    intro n
    induction n with
    | zero => intro cs h; simp at h; simp [eX, h]
    | succ n ih => intro cs h; rw [Nat.succ_mul] at h; simp only [eX, List.flatten_cons]; rw [ih _ (by simp; omega), List.take_append_drop]
   rw [this len out hol]; exact hrep
end
section
variable {C : Cfg} {w w' : World} {S : Nat → Prop} {φ : aW} {a : Act} {env tl : Env} {mem : Mem} {nx id : Nat} {K : KD}
theorem gG (b : Nat) : ∀ (vs : List Value) (o : Nat) (w : World), (∀ b', b' ≠ b → (w.setCells b o vs).heap[b']? = w.heap[b']?) ∧ (w.setCells b o vs).heap.size = w.heap.size ∧
  (w.setCells b o vs).os = w.os ∧ (w.setCells b o vs).output = w.output ∧ (w.setCells b o vs).tape = w.tape ∧
  ∀ c t fr, w.heap[b]? = some (.cells c t fr) → ∃ c', (w.setCells b o vs).heap[b]? = some (.cells c' t fr) ∧ c'.size = c.size
 | [], o, w => ⟨fun _ _ => rfl, rfl, rfl, rfl, rfl, fun c t fr h => ⟨c, h, rfl⟩⟩
 | v :: vs, o, w => by
  obtain ⟨h1, h2, h3, h4, h5, h6⟩ := gG b vs (o + 1) (w.setCell ⟨b, o, none⟩ v)
  rw [World.setCells]
  refine ⟨fun b' hb => (h1 b' hb).trans ?_, h2.trans ?_, h3, h4, h5, fun c t fr h => ?_⟩
  ·simp only [World.setCell, Array.getElem?_modify]
   rw [if_neg (by omega)]
  ·simp [World.setCell]
  ·have : (w.setCell ⟨b, o, none⟩ v).heap[b]? = some (.cells (c.setIfInBounds o v) t fr) := by
    simp only [World.setCell, Array.getElem?_modify, if_true, h, Option.map_some, Option.isSome_none, Bool.false_eq_true, if_false]
   obtain ⟨c', hc, hs⟩ := h6 _ _ _ this
   exact ⟨c', hc, by rw [hs]; simp⟩
theorem i6 {b : Nat} {c : Array Value} {t : TypeId} (h : w.heap[b]? = some (.cells c t (0, 0))) {o n : Nat} (hn : o + n ≤ c.size) : w.there b o n := by
 intro j hj
 constructor
 ·simp only [World.cell?, h, Option.isSome_none, Bool.false_eq_true, if_false]
  simp; omega
 ·simp [World.frozen?, h]
theorem lL {t : TypeId} {b o n : Nat} {v : Value} {i : TypeInfo} {P : Program} (hi : P.info? t = some i) (hn : i.size = n) (hv : v.cells.size = n) (ht : w.there b o n) (h1 : ∀ u ∈ v.cells.toList, u.oneCell' = true) :
  (Instr.storeAt t (.pointer (some ⟨b, o, none⟩)) v).run P w = .ok () (w.setCells b o v.cells.toList) := by
 have h := run_storeAt_mid (P := P) w b o t v.cells (by rw [hv]; exact ht) (by rw [hi]; simp; omega) (Array.all_eq_true_iff_forall_mem.2 fun u hu => h1 u (by simpa using hu))
 rw [show Instr.storeAt t (.pointer (some ⟨b, o, none⟩)) v = Instr.storeAt t (.pointer (some ⟨b, o, none⟩)) (.agg v.cells) from rfl]
 exact h
theorem jV : ∀ (cs : List D) (b o m : Nat) (d : D), RepCs w S φ cs b o → cs[m]? = some d → ∃ x, w.cell? ⟨b, o + m, none⟩ = some x ∧ Rep w S φ d x
 | [], b, o, m, d, _, h => by simp at h
 | c :: cs, b, o, 0, d, h, hd => by
  simp only [List.getElem?_cons_zero, Option.some.injEq] at hd; subst hd
  simp only [RepCs] at h
  exact h.1
 | c :: cs, b, o, m + 1, d, h, hd => by
  simp only [List.getElem?_cons_succ] at hd
  simp only [RepCs] at h
  have := jV cs b (o + 1) m d h.2 hd
  rwa [show o + 1 + m = o + (m + 1) by omega] at this
theorem oU {cs new : List D} {b o off : Nat} {ns : List Value} (hst : Stays w S φ (w.setCells b (o + off) ns) S φ) (h : RepCs w S φ cs b o) (hn : RepVs w S φ new ns) (hl : off + new.length ≤ cs.length)
  (ht : w.there b (o + off) ns.length) : RepCs (w.setCells b (o + off) ns) S φ (place off cs new) b o := by
 have hlen := bV _ _ hn
 refine gD _ _ _ fun m d hd => ?_
 unfold place at hd
 by_cases h1 : m < off
 ·rw [List.append_assoc, List.getElem?_append_left (by simp; omega), List.getElem?_take_of_lt h1] at hd
  obtain ⟨x, hx, hr⟩ := jV cs b o m d h hd
  refine ⟨x, ?_, Rep.mono hst _ _ hr⟩
  rw [World.cell?_setCells_out _ _ _ _ _ (fun _ _ => .inl (by show o + m < o + off; omega))]; exact hx
 ·by_cases h2 : m < off + new.length
  ·rw [List.append_assoc, List.getElem?_append_right (by simp; omega), List.getElem?_append_left (by simp; omega)] at hd
   have hmin : (cs.take off).length = off := by simp; omega
   rw [hmin] at hd
   obtain ⟨x, hx, hr⟩ := jT _ _ _ _ hn hd
   have hj : m - off < ns.length := by omega
   have := World.cell?_setCells_in b ns (o + off) w (fun j hj => (ht j hj).1) (m - off) hj
   rw [show o + off + (m - off) = o + m by omega] at this
   refine ⟨x, ?_, Rep.mono hst _ _ hr⟩
   rw [this, ← hx, List.getElem?_eq_getElem hj]
  ·have hmin : (cs.take off ++ new).length = off + new.length := by simp; omega
   rw [List.getElem?_append_right (by rw [hmin]; omega), hmin, List.getElem?_drop] at hd
   rw [show off + new.length + (m - (off + new.length)) = m by omega] at hd
   obtain ⟨x, hx, hr⟩ := jV cs b o m d h hd
   refine ⟨x, ?_, Rep.mono hst _ _ hr⟩
   rw [World.cell?_setCells_out _ _ _ _ _ (fun _ _ => .inr (by show o + off + ns.length ≤ o + m; omega))]; exact hx
theorem xO {cs : List D} {b o s : Nat} {ns : List Value} (hst : Stays w S φ (w.setCells b s ns) S φ) (h : RepCs w S φ cs b o) (hl : o + cs.length ≤ s ∨ s + ns.length ≤ o) : RepCs (w.setCells b s ns) S φ cs b o := by
 refine gD _ _ _ fun m d hd => ?_
 have hm : m < cs.length := (List.getElem?_eq_some_iff.1 hd).1
 obtain ⟨x, hx, hr⟩ := jV cs b o m d h hd
 refine ⟨x, ?_, Rep.mono hst _ _ hr⟩
 have hs : o + m < s ∨ s + ns.length ≤ o + m := by omega
 rw [World.cell?_setCells_out _ _ _ _ _ (fun _ _ => hs)]; exact hx
theorem BR {t : TypeId} {g : Bool} {n : Nat} {x y : D} {v u : Value} {mem' : Mem} (ht : Program.tsz C.P t = some (g, n)) (h : wrc mem n x y.cells = some mem') (hm : MSim S φ mem nx w) (hx : Rep w S φ x v) (hu : Rep w S φ y u) :
  ∃ w', (Instr.storeAt t v u).run C.P w = .ok () w' ∧ MSim S φ mem' nx w' ∧ Stays w S φ w' S φ ∧ Ext S φ mem w S φ mem' w' := by
 obtain ⟨ds, inf, hun, hi, hsz, _⟩ := eC ht
 unfold wrc at h
 simp only [Option.ite_none_right_eq_some] at h
 obtain ⟨⟨hlen, hcell⟩, h⟩ := h
 have hvs := lO hu (kL hcell)
 have hvl : u.cells.size = n := by rw [← Array.length_toList, bV _ _ hvs, hlen]
 have h1 := lG _ _ hvs hcell
 split at h
 ·rename_i i off
  split at h
  ·rename_i cs hl
   simp only [Option.ite_none_right_eq_some, Option.some.injEq] at h
   obtain ⟨hle, rfl⟩ := h
   obtain ⟨l, hφ, hS, hb⟩ := hm.mem i _ hl
   simp only [Rep] at hx
   obtain ⟨l', hφ', _, rfl⟩ := hx
   rw [hφ] at hφ'; simp only [Option.some.injEq] at hφ'; subst hφ'
   have hb0 := hb
   simp only [BRep] at hb
   obtain ⟨hr, ha, hbase, ⟨c, t', hc, hcs⟩, hrep⟩ := hb
   have hth : w.there l.b (l.base + off) n := i6 hc (by omega)
   refine ⟨_, lL hi hsz hvl hth h1, ?_⟩
   obtain ⟨f1, f2, f3, f4, f5, f6⟩ := gG l.b u.cells.toList (l.base + off) w
   refine lP hm hφ hr hl f1 f2 f3 f4 f5 fun hst => ?_
   obtain ⟨c', hc', hs'⟩ := f6 _ _ _ hc
   simp only [BRep]
   have hpl : (place off cs y.cells).length = cs.length := by simp [place]; omega
   refine ⟨hr, ha, hbase, ⟨c', t', hc', by rw [hs', hcs, hpl]⟩, ?_⟩
   rw [hbase] at hst hth ⊢
   exact oU hst hrep hvs (by omega) (by simpa [hvl] using hth)
  ·simp at h
 ·rename_i i ver ix off
  split at h
  ·rename_i v' k es hl
   split at h
   ·rename_i hv
    split at h
    ·rename_i e he
     simp only [Option.ite_none_right_eq_some, Option.some.injEq] at h
     obtain ⟨hle, rfl⟩ := h
     obtain ⟨l, hφ, hS, hb⟩ := hm.mem i _ hl
     simp only [Rep] at hx
     obtain ⟨l', hφ', _, _, hx⟩ := hx
     rw [hφ] at hφ'; simp only [Option.some.injEq] at hφ'; subst hφ'
     simp only [BRep] at hb
     obtain ⟨ha, hver, hk, hb⟩ := hb
     obtain ⟨hr, rfl⟩ := hx (by omega)
     rcases hb with hb | ⟨_, ⟨c, t', hc, hcs⟩, hbd, hes⟩
     ·simp [hb.2] at he
     ·obtain ⟨hek, hec⟩ := iA es k l.b l.base ix e hes he
      have hix : ix < es.length := (List.getElem?_eq_some_iff.1 he).1
      have hbd2 : (ix + 1) * k ≤ es.length * k := Nat.mul_le_mul_right k hix
      rw [Nat.succ_mul] at hbd2
      have hth : w.there l.b (l.base + ix * l.k + off) n := i6 hc (by rw [hk]; omega)
      refine ⟨_, lL hi hsz hvl hth h1, ?_⟩
      obtain ⟨f1, f2, f3, f4, f5, f6⟩ := gG l.b u.cells.toList (l.base + ix * l.k + off) w
      refine lP hm hφ hr hl f1 f2 f3 f4 f5 fun hst => ?_
      obtain ⟨c', hc', hs'⟩ := f6 _ _ _ hc
      simp only [BRep]
      refine ⟨ha, hver, hk, .inr ⟨hr, ⟨c', t', hc', by rw [hs', hcs]⟩, by simpa using hbd, ?_⟩⟩
      rw [hk] at hst hth ⊢
      refine gF _ _ _ _ fun j e' he' => ?_
      rw [List.getElem?_set] at he'
      split at he'
      ·rename_i hij
       subst hij
       simp only [hix, if_true, Option.some.injEq] at he'; subst he'
       exact ⟨by simp [place]; omega, oU hst hec hvs (by omega) (by simpa [hvl] using hth)⟩
      ·rename_i hij
       obtain ⟨q1, q2⟩ := iA es k l.b l.base j e' hes he'
       refine ⟨q1, xO hst q2 ?_⟩
       have hul : u.cells.toList.length = n := by simpa using hvl
       rcases Nat.lt_or_gt_of_ne hij with hlt | hgt
       ·right
        have : (ix + 1) * k ≤ j * k := Nat.mul_le_mul_right k hlt
        rw [Nat.succ_mul] at this; omega
       ·left
        have : (j + 1) * k ≤ ix * k := Nat.mul_le_mul_right k hgt
        rw [Nat.succ_mul] at this; omega
    ·simp at h
   ·simp at h
  ·simp at h
 ·simp at h
end
section
variable {C : Cfg} {w w' : World} {S : Nat → Prop} {φ : aW} {a : Act} {env tl : Env} {mem : Mem} {nx id : Nat} {K : KD}
theorem fO : ∀ (es : List (List D)) (k b o : Nat), RepEs w S φ es k b o → RepCs w S φ es.flatten b o ∧ es.flatten.length = es.length * k
 | [], k, b, o, _ => by simp [RepCs]
 | e :: es, k, b, o, h => by
  simp only [RepEs] at h
  obtain ⟨h1, h2⟩ := fO es k b (o + k) h.2.2
  simp only [List.flatten_cons, List.length_append, List.length_cons, Nat.succ_mul]
  exact ⟨oQ _ _ _ _ h.2.1 (by rw [h.1]; exact h1), by rw [h2, h.1]; omega⟩
theorem eL (k b : Nat) : ∀ (es : List (List D)) (o : Nat), (∀ e ∈ es, e.length = k) → RepCs w S φ es.flatten b o → RepEs w S φ es k b o
 | [], o, _, _ => by simp [RepEs]
 | e :: es, o, hk, h => by
  simp only [List.flatten_cons] at h
  simp only [RepEs]
  have he := hk e (by simp)
  have h1 := gI e.length _ b o h
  have h2 := eQ e.length _ b o h
  rw [List.take_left] at h1
  rw [List.drop_left, he] at h2
  exact ⟨he, h1, eL k b es (o + k) (fun e h => hk e (by simp [h])) h2⟩
theorem kG : ∀ (es : List (List D)) (k b o : Nat), RepEs w S φ es k b o → ∀ e ∈ es, e.length = k
 | [], k, b, o, _, e, he => by simp at he
 | x :: es, k, b, o, h, e, he => by
  simp only [RepEs] at h
  rcases List.mem_cons.1 he with rfl | he
  ·exact h.1
  ·exact kG es k b (o + k) h.2.2 e he
theorem qV {w1 : World} (h : w1.heap = w.heap) {b o : Nat} {cs : List Value} (hr : w.rangeAt b o cs) : w1.rangeAt b o cs := by
 intro j v hj
 have := hr j v hj
 simp only [World.cell?, h] at this ⊢
 exact this
theorem jE {P : Program} {k n cap b o : Nat} {vs : List Value} {w1 : World} (h : w1.heap = w.heap) (hr : w.rangeAt b o vs) (hl : vs.length = n * k) :
  (Builtin.firstCells k n (.slice (some ⟨b, o, none⟩) n cap)).run P w1 = .ok vs.toArray w1 := by
 simp only [Builtin.firstCells, ← hl]
 exact run_loadCells_list (P := P) w1 ⟨b, o, none⟩ vs fun j v hv => by rw [Addr.add_mid]; exact qV h hr j v hv
theorem tN {es : List (List D)} (h : es.all (fun e => e.all D.cell) = true) : es.flatten.all D.cell = true := by
 rw [List.all_flatten]; exact h
theorem uH {k : Nat} {y : D} {new : List (List D)} {v : Value} (h : els mem k y = some new) (hy : Rep w S φ y v) (hm : MSim S φ mem nx w) :
  ∃ p c, v = .slice p new.length c ∧ ∃ ns : Array Value, (∀ w1 : World, w1.heap = w.heap → (Builtin.firstCells k new.length v).run C.P w1 = .ok ns w1) ∧ RepVs w S φ new.flatten ns.toList ∧ (∀ u ∈ ns.toList, u.oneCell' = true) ∧ ∀ e ∈ new, e.length = k := by
 cases y with
 | sl es =>
  simp only [els, Option.ite_none_right_eq_some, Option.some.injEq] at h
  obtain ⟨hall, rfl⟩ := h
  have hk : ∀ e ∈ es, e.length = k := fun e he => by have := List.all_eq_true.1 hall e he; simp at this; exact this.1
  have hc : es.flatten.all D.cell = true := tN (List.all_eq_true.2 fun e he => by have := List.all_eq_true.1 hall e he; simp only [Bool.and_eq_true] at this; exact this.2)
  simp only [Rep] at hy
  rcases hy with ⟨rfl, rfl | ⟨p, rfl⟩⟩ | ⟨b, o, cap, k', rfl, hcap, hS, hes⟩
  ·exact ⟨none, 0, rfl, #[], fun w1 _ => rfl, by simp [RepVs], by simp, by simp⟩
  ·exact ⟨some p, 0, rfl, #[], fun w1 _ => by simp [Builtin.firstCells, loadCells, loadCellsFrom], by simp [RepVs], by simp, by simp⟩
  ·obtain ⟨hf, hfl⟩ := fO es k' b o hes
   obtain ⟨vs, hl, hrg, hvs⟩ := iC _ b o hf
   have hlen : es.flatten.length = es.length * k := by
    clear hf hfl hl hvs hc hes hcap hall
    induction es with
    | nil => simp
    | cons e es ih =>
     simp only [List.flatten_cons, List.length_append, List.length_cons, Nat.succ_mul]
     rw [ih (fun e h => hk e (by simp [h])), hk e (by simp)]; omega
   refine ⟨_, _, rfl, vs.toArray, fun w1 h1 => jE h1 hrg (by rw [hl, hlen]), by simpa using hvs, ?_, hk⟩
   simpa using lG _ _ hvs hc
 | pl u =>
  simp only [Rep] at hy; subst hy
  cases v with
  | slice p n c =>
   cases p with
   | some p =>
    cases n with
    | succ _ => simp [els] at h
    | zero =>
     simp only [els, Option.some.injEq] at h; subst h
     exact ⟨some p, c, rfl, #[], fun w1 _ => by simp [Builtin.firstCells, loadCells, loadCellsFrom], by simp [RepVs], by simp, by simp⟩
   | none =>
    cases n with
    | succ _ => simp [els] at h
    | zero =>
     cases c with
     | succ _ => simp [els] at h
     | zero =>
      simp only [els, Option.some.injEq] at h; subst h
      exact ⟨none, 0, rfl, #[], fun w1 _ => rfl, by simp [RepVs], by simp, by simp⟩
  | _ => simp [els] at h
 | zs =>
  simp only [els, Option.some.injEq] at h; subst h
  simp only [Rep] at hy
  rcases hy with rfl | ⟨p, rfl⟩
  ·exact ⟨none, 0, rfl, #[], fun w1 _ => rfl, by simp [RepVs], by simp, by simp⟩
  ·exact ⟨some p, 0, rfl, #[], fun w1 _ => by simp [Builtin.firstCells, loadCells, loadCellsFrom], by simp [RepVs], by simp, by simp⟩
 | osl i ver lo n =>
  simp only [els] at h
  split at h
  ·rename_i v' k' es hl
   simp only [Option.ite_none_right_eq_some, Option.some.injEq] at h
   obtain ⟨⟨hv, hk', hln, hall⟩, rfl⟩ := h
   subst hv hk'
   obtain ⟨l, hφ, hS, hb⟩ := hm.mem i _ hl
   simp only [Rep] at hy
   obtain ⟨l', hφ', _, _, hx⟩ := hy
   rw [hφ] at hφ'; simp only [Option.some.injEq] at hφ'; subst hφ'
   simp only [BRep] at hb
   obtain ⟨ha, hver, hk, hb⟩ := hb
   have hlen : ((es.drop lo).take n).length = n := by simp; omega
   rw [hlen]
   rcases hx hver with ⟨hr, rfl, rfl, hz⟩ | ⟨hr, cap, rfl, hc1, hc2⟩ | ⟨hr, rfl, _, oo, c0, rfl⟩
   rotate_right
   ·exact ⟨some ⟨l.b, oo, none⟩, c0, rfl, #[], fun w1 _ => by simp [Builtin.firstCells, loadCells, loadCellsFrom], by simp [RepVs], by simp, by simp⟩
   ·rcases hz with rfl | ⟨p, rfl⟩
    ·exact ⟨none, 0, rfl, #[], fun w1 _ => rfl, by simp [RepVs], by simp, by simp⟩
    ·exact ⟨some p, 0, rfl, #[], fun w1 _ => by simp [Builtin.firstCells, loadCells, loadCellsFrom], by simp [RepVs], by simp, by simp⟩
   ·rcases hb with hb | ⟨_, ⟨c, t, hc, hcs⟩, hbd, hes⟩
    ·simp [hb.1] at hr
    ·have hes' := iH n _ _ _ _ (iF lo es _ _ _ hes)
     obtain ⟨hf, hfl⟩ := fO _ _ _ _ hes'
     obtain ⟨vs, hvl, hrg, hvs⟩ := iC _ _ _ hf
     have hcell : ((es.drop lo).take n).flatten.all D.cell = true := tN (List.all_eq_true.2 fun e he => List.all_eq_true.1 hall e (List.mem_of_mem_drop (List.mem_of_mem_take he)))
     refine ⟨_, _, rfl, vs.toArray, fun w1 h1 => jE h1 (by rw [hk]; exact hrg) (by rw [hvl, hfl, hlen]), by simpa using hvs, ?_, kG _ _ _ _ hes'⟩
     simpa using lG _ _ hvs hcell
  ·simp at h
 | _ => simp [els] at h
theorem uP (n : Nat) : ∀ (r c : Nat), c ≤ n + (n + 768) / 4 → Builtin.growBy n r c ≤ n + (n + 768) / 4
 | 0, c, h => h
 | r + 1, c, h => by
  simp only [Builtin.growBy]
  split
  ·exact h
  ·exact uP n r _ (by omega)
theorem zY {n c bytes : Nat} (h1 : c < n) (h2 : n * bytes ≤ 3 * 2 ^ 46) (h3 : bytes ≤ 2 ^ 20) : Builtin.nextslicecap n c * bytes ≤ 2 ^ 48 := by
 have hle : Builtin.nextslicecap n c ≤ n + (n + 768) / 4 + 512 := by
  unfold Builtin.nextslicecap
  split
  ·omega
  ·split
   ·omega
   ·have := uP n 4 c (by omega); omega
 have h4 : Builtin.nextslicecap n c * bytes ≤ (n + (n + 768) / 4 + 512) * bytes := Nat.mul_le_mul_right _ hle
 have h5 : 4 * ((n + (n + 768) / 4 + 512) * bytes) ≤ (5 * n + 2816) * bytes := by
  rw [← Nat.mul_assoc]
  exact Nat.mul_le_mul_right _ (by omega)
 have h6 : (5 * n + 2816) * bytes = 5 * (n * bytes) + 2816 * bytes := by rw [Nat.add_mul, Nat.mul_assoc]
 omega
theorem MSim.of_heap {w1 : World} (h : w1.heap = w.heap) (hos : w1.os = w.os) (hout : w1.output = w.output) (htp : w1.tape = w.tape) (hm : MSim S φ mem nx w) :
  MSim S φ mem nx w1 ∧ Stays w S φ w1 S φ ∧ Ext S φ mem w S φ mem w1 := by
 have hst : Stays w S φ w1 S φ := Stays.of_heap (fun b h => h) (fun b _ => by rw [h]) (fun _ _ h => h)
 refine ⟨⟨fun i blk hi => ?_, hm.inj, fun i l h1 hr => by rw [h]; exact hm.lt i l h1 hr, hm.fresh, fun b hb => by rw [h]; exact hm.sub b hb⟩, hst,
  ⟨fun b h => h, fun b _ _ => by rw [h], by rw [h]; exact Nat.le_refl _, fun b _ h => h, fun b h => .inl h, hos, hout, htp⟩⟩
 obtain ⟨l, h1, h2, h3⟩ := hm.mem i blk hi
 exact ⟨l, h1, h2, h3.mono hst fun _ => by rw [h]⟩
theorem iD {P : Program} {t : TypeId} {i : TypeInfo} (h : P.info? t = some i) (w : World) : (typeInfo t).run P w = .ok i w := by
 simp [typeInfo, h]
theorem mG {P : Program} {st xt e k n cap m : Nat} {ts : Array TypeId} {ty : TypeId} {inf : TypeInfo} {z : List Value} {p q : Option Addr} {c2 : Nat} {os ns : Array Value} (hts : ts[0]? = some st) (hxs : ts[1]? = some xt) (hst : P.underlying st = some (.slice e)) {e2 : TypeId} (hxt : P.underlying xt = some (.slice e2))
  (hi : P.info? e = some inf) (hsz : inf.size = k) (hz : Program.zeroOf P e = some z) (hzk : z.length = k) (hb0 : 0 < inf.bytes) (hb1 : inf.bytes ≤ 2 ^ 20) (hnr : cap < n + m) (hbd : (n + m) * inf.bytes ≤ 3 * 2 ^ 46)
  (hold : ∀ w1 : World, w1.heap = w.heap → (Builtin.firstCells k n (.slice p n cap)).run P w1 = .ok os w1) (hnew : ∀ w1 : World, w1.heap = w.heap → (Builtin.firstCells k m (.slice q m c2)).run P w1 = .ok ns w1) :
  ∃ (newCap : Nat) (w1 : World) (rest : Array Value), n + m ≤ newCap ∧ w1.heap = w.heap ∧ w1.os = w.os ∧ w1.output = w.output ∧ w1.tape = w.tape ∧ rest.size = (newCap - (n + m)) * k ∧
   (Builtin.append_ ts ty #[.slice p n cap, .slice q m c2]).run P w = .ok (.slice (some ⟨w1.heap.size, 0, none⟩) (n + m) newCap) (w1.alloc (.cells (os ++ ns ++ rest) e)) := by
 let w1 : World := { w with drawn := w.drawn + 1 }
 obtain ⟨v, hv, hvz⟩ := jD hz w1
 let newCap := (Question.appendCap (n + m) cap e).cut (w.tape w.drawn (.appendCap (n + m) cap e))
 refine ⟨newCap, w1, Builtin.zeroCells v.cells (newCap - (n + m)), by simp [newCap, Question.cut], rfl, rfl, rfl, rfl, ?_, ?_⟩
 ·have : v.cells.size = k := by rw [← Array.length_toList, hvz, hzk]
  simp [Builtin.zeroCells, this]
 ·have hlt : ¬ ((n + m : Int) > IntKind.i64.max ∧ (false = true ∨ inf.bytes = 0)) := by simp; omega
  have hcap := zY hnr hbd hb1
  have g1 : ¬ (n + m ≤ cap) := by omega
  have g2 : ¬ (Builtin.nextslicecap (n + m) cap * inf.bytes > 2 ^ 48) := by omega
  have g3 : ¬ inf.bytes = 0 := by omega
  have d1 := hold w1 rfl
  have d2 := hnew w1 rfl
  simp only [Builtin.append_, List.getElem?_toArray, hts, hxs, Sem.run_bind, run_underlying hst, run_underlying hxt, Result.andThen_ok, cI hi, hsz, Sem.run_pure, List.getElem?_cons_zero, List.getElem?_cons_succ]
  simp only [Bool.false_eq_true, if_false, Builtin.lenOf, Sem.run_bind, Sem.run_pure, Result.andThen_ok, g1, iD hi, Bool.not_false, if_true]
  rw [if_neg (by simp; omega)]
  simp only [Sem.run_bind, iD hi, Result.andThen_ok]
  rw [if_neg g2]
  have hch : (choose (.appendCap (n + m) cap e)).run P w = .ok newCap w1 := by
   rw [run_choose, if_neg (by simp [Question.forced])]
  simp only [Sem.run_bind, hch, Result.andThen_ok, iD hi, run_askRoom, d1, d2, hv, Sem.run_pure, newRow, run_newObj]
  rfl
theorem xX {P : Program} {st xt e k n cap m : Nat} {ts : Array TypeId} {ty : TypeId} {inf : TypeInfo} {b o : Nat} {q : Option Addr} {c2 : Nat} {ns : Array Value} (hts : ts[0]? = some st) (hxs : ts[1]? = some xt) (hst : P.underlying st = some (.slice e)) {e2 : TypeId} (hxt : P.underlying xt = some (.slice e2))
  (hi : P.info? e = some inf) (hsz : inf.size = k) (hr : n + m ≤ cap) (hnew : (Builtin.firstCells k m (.slice q m c2)).run P w = .ok ns w) (ht : w.there b (o + n * k) ns.toList.length) (h1 : ∀ u ∈ ns.toList, u.oneCell' = true) :
  (Builtin.append_ ts ty #[.slice (some ⟨b, o, none⟩) n cap, .slice q m c2]).run P w = .ok (.slice (some ⟨b, o, none⟩) (n + m) cap) (w.setCells b (o + n * k) ns.toList) := by
 simp only [Builtin.append_, List.getElem?_toArray, hts, hxs, Sem.run_bind, run_underlying hst, run_underlying hxt, Result.andThen_ok, cI hi, hsz, Sem.run_pure, List.getElem?_cons_zero, List.getElem?_cons_succ]
 simp only [Bool.false_eq_true, if_false, Builtin.lenOf, Sem.run_bind, Sem.run_pure, Result.andThen_ok, hr, Bool.not_false, if_true, hnew, Addr.add_mid]
 have := run_storeCells_cells (P := P) b (o + n * k) ns.toList 0 w (fun j hj => by simpa using (ht j hj).1) (fun j hj => by simpa using (ht j hj).2) h1
 simp only [Nat.add_zero] at this
 rw [this]; rfl
theorem pW {P : Program} {st xt e k : Nat} {ts : Array TypeId} {ty : TypeId} {inf : TypeInfo} {p q : Option Addr} {c2 : Nat} {ns : Array Value} (hts : ts[0]? = some st) (hxs : ts[1]? = some xt) (hst : P.underlying st = some (.slice e)) {e2 : TypeId} (hxt : P.underlying xt = some (.slice e2))
  (hi : P.info? e = some inf) (hsz : inf.size = k) (hnew : (Builtin.firstCells k 0 (.slice q 0 c2)).run P w = .ok ns w) (hn : ns = #[]) :
  (Builtin.append_ ts ty #[.slice p 0 0, .slice q 0 c2]).run P w = .ok (.slice p 0 0) w := by
 subst hn
 simp only [Builtin.append_, List.getElem?_toArray, hts, hxs, Sem.run_bind, run_underlying hst, run_underlying hxt, Result.andThen_ok, cI hi, hsz, Sem.run_pure, List.getElem?_cons_zero, List.getElem?_cons_succ]
 simp only [Bool.false_eq_true, if_false, Builtin.lenOf, Sem.run_bind, Sem.run_pure, Result.andThen_ok, Nat.add_zero, Nat.le_refl, Bool.not_false, if_true, hnew]
 cases p <;> simp [storeCells]
theorem mM {x : Value} (h : Zs S x) : ∃ p, x = .slice p 0 0 := by
 rcases h with rfl | ⟨p, rfl⟩
 ·exact ⟨none, rfl⟩
 ·exact ⟨_, rfl⟩
theorem xP {d : D} {x : Value} (h : d.roomless = true) (hr : Rep w S φ d x) : Zs S x := by
 cases d with
 | zs => simpa [Rep] using hr
 | pl u =>
  simp only [Rep] at hr; subst hr
  cases x with
  | slice p n c => cases p <;> cases n <;> cases c <;> simp [D.roomless] at h; exact .inl rfl
  | _ => simp [D.roomless] at h
 | _ => simp [D.roomless] at h
theorem jL {b o : Nat} {xs ys : List Value} (h : w.rangeAt b o (xs ++ ys)) : w.rangeAt b o xs ∧ w.rangeAt b (o + xs.length) ys := by
 constructor
 ·intro j v hj
  exact h j v (by rw [List.getElem?_append_left (List.getElem?_eq_some_iff.1 hj).1]; exact hj)
 ·intro j v hj
  have := h (xs.length + j) v (by rw [List.getElem?_append_right (by omega), Nat.add_sub_cancel_left]; exact hj)
  rwa [← Nat.add_assoc] at this
structure App (P : Program) (k : Nat) (ts : Array TypeId) (e : TypeId) (inf : TypeInfo) (z : List Value) : Prop where
 t0 : ∃ st, ts[0]? = some st ∧ P.underlying st = some (.slice e)
 t1 : ∃ xt e2, ts[1]? = some xt ∧ P.underlying xt = some (.slice e2)
 hinf : P.info? e = some inf
 size : inf.size = k
 zero : Program.zeroOf P e = some z
 kpos : 0 < k
 zlen : z.length = k
 bpos : 0 < inf.bytes
 bmax : inf.bytes ≤ 2 ^ 20
theorem tB {k : Nat} {ts : Array TypeId} {e ty : TypeId} {inf : TypeInfo} {z : List Value} {x y d : D} {u v : Value} {m : Mem} (hA : App C.P k ts e inf z) (h : gB id mem k inf.bytes (some x) (some y) = some (d, m)) (hx : Rep w S φ x u) (hy : Rep w S φ y v)
  (hm : MSim S φ mem nx w) (hid : φ id = none) (hlt : id < nx) (hk : K d m nx) : ∃ r w', (Builtin.append_ ts ty #[u, v]).run C.P w = .ok r w' ∧ Out S φ mem nx w id K r w' := by
 simp only [gB, Option.ite_none_right_eq_some] at h
 obtain ⟨hrl, h⟩ := h
 split at h
 ·rename_i es hes
  simp only [Option.ite_none_right_eq_some, Option.some.injEq, Prod.mk.injEq] at h
  obtain ⟨hbd, rfl, rfl⟩ := h
  have hz := xP hrl hx
  obtain ⟨p, rfl⟩ := mM hz
  obtain ⟨q, c2, rfl, ns, hns, hnv, hn1, hek⟩ := uH hes hy hm
  obtain ⟨st, hst0, hst⟩ := hA.t0
  obtain ⟨xt, e2, hxt0, hxt⟩ := hA.t1
  have hnl := bV _ _ hnv
  cases es with
  | nil =>
   have hn0 : ns = #[] := by simpa using hnl
   refine ⟨_, _, pW hst0 hxt0 hst hxt hA.hinf hA.size (hns w rfl) hn0, ?_⟩
   obtain ⟨φ', h1, h2, h3, h4, h5⟩ := pD hm hid hlt k
   refine ⟨_, _, nx, S, φ', hk, Nat.le_refl _, ?_, h2, h3, h4, fun i hi _ hn => by rw [h5 i hi]; exact hn⟩
   simp only [Rep]
   exact ⟨_, h1, Nat.le_refl _, ⟨_, _, _, rfl⟩, fun _ => .inl ⟨rfl, trivial, rfl, hz⟩⟩
  | cons e0 es0 =>
   obtain ⟨newCap, w1, rest, g1, g2, g3, g4, g5, g6, hrun⟩ := mG (w := w) (n := 0) (cap := 0) (m := (e0 :: es0).length) (p := p) (q := q) (c2 := c2) (ty := ty) (os := #[]) (ns := ns) hst0 hxt0 hst hxt hA.hinf hA.size hA.zero hA.zlen hA.bpos hA.bmax (by simp) (by simpa using hbd)
    (fun w1 _ => by cases p <;> simp [Builtin.firstCells, loadCells, loadCellsFrom]) (fun w1 h => hns w1 h)
   refine ⟨_, _, hrun, ?_⟩
   obtain ⟨m1, m2, m3⟩ := MSim.of_heap g2 g3 g4 g5 hm
   have hnew := dR (w := w1) (#[] ++ ns ++ rest) e (0, 0)
   have hfl : (e0 :: es0).flatten.length = (e0 :: es0).length * k := by
    have : ∀ l : List (List D), (∀ e ∈ l, e.length = k) → l.flatten.length = l.length * k := by
     intro l hl
     induction l with
     | nil => simp
     | cons a l ih => simp only [List.flatten_cons, List.length_append, List.length_cons, Nat.succ_mul]; rw [ih (fun e h => hl e (by simp [h])), hl a (by simp)]; omega
    exact this _ hek
   have hsz : (#[] ++ ns ++ rest : Array Value).size = newCap * k := by
    have e1 : ns.size = (e0 :: es0).length * k := by rw [← Array.length_toList, hnl, hfl]
    simp only [Array.size_append, Array.size_empty, e1, g6, Nat.zero_add]
    rw [← Nat.add_mul]; congr 1; omega
   obtain ⟨φ', h1, h2, h3, h4, h5⟩ := h_ (l := ⟨true, true, w1.heap.size, 0, k, 0, newCap * k⟩) (blk := .arr 0 k (e0 :: es0)) m1 (.cells (#[] ++ ns ++ rest) e) hid hlt rfl rfl (by
    intro φ' hst'
    simp only [BRep]
    refine ⟨trivial, trivial, trivial, .inr ⟨trivial, ⟨_, e, eM _, hsz⟩, ?_, eL _ _ _ _ hek (b_ _ ns.toList _ _ (RepVs.mono (m2.trans hst') _ _ hnv) ?_)⟩⟩
    ·rw [Nat.zero_add]; exact Nat.mul_le_mul_right k (by omega)
    ·have := hnew
     simp only [Array.toList_append, Array.toList_empty, List.nil_append] at this
     exact (jL this).1)
   refine ⟨_, _, nx, S, φ', hk, Nat.le_refl _, ?_, h2, m2.trans h3, m3.trans h4, fun i hi _ hn => by rw [h5 i hi]; exact hn⟩
   simp only [Rep]
   refine ⟨_, h1, Nat.le_refl _, ⟨_, _, _, rfl⟩, fun _ => .inr (.inl ⟨rfl, newCap, by simp, by omega, by simp⟩)⟩
 ·simp at h
theorem xZ {k : Nat} : ∀ l : List (List D), (∀ e ∈ l, e.length = k) → l.flatten.length = l.length * k := by
 intro l hl
 induction l with
 | nil => simp
 | cons a l ih => simp only [List.flatten_cons, List.length_append, List.length_cons, Nat.succ_mul]; rw [ih (fun e h => hl e (by simp [h])), hl a (by simp)]; omega
theorem A8 {k : Nat} {ts : Array TypeId} {e ty : TypeId} {inf : TypeInfo} {z : List Value} {x y d : D} {u v : Value} {m : Mem} (hA : App C.P k ts e inf z) (h : lX id mem k inf.bytes (some x) (some y) = some (d, m)) (hx : Rep w S φ x u) (hy : Rep w S φ y v)
  (hm : MSim S φ mem nx w) (hid : φ id = none) (hlt : id < nx) (hk : K d m nx) : ∃ r w', (Builtin.append_ ts ty #[u, v]).run C.P w = .ok r w' ∧ Out S φ mem nx w id K r w' := by
 unfold lX at h
 split at h
 ·rename_i i ver lo n y' hx' hy'
  simp only [Option.some.injEq] at hx' hy'
  subst hx' hy'
  split at h
  ·rename_i v' k' es new hl hes
   simp only [Option.ite_none_right_eq_some, Option.some.injEq, Prod.mk.injEq] at h
   obtain ⟨⟨hv, hk', ⟨hlo0, hln⟩, hbd⟩, rfl, rfl⟩ := h
   subst hv hk'
   obtain ⟨st, hst0, hst⟩ := hA.t0
   obtain ⟨xt, e2, hxt0, hxt⟩ := hA.t1
   obtain ⟨q, c2, rfl, ns, hns, hnv, hn1, hek⟩ := uH hes hy hm
   have hnl := bV _ _ hnv
   have hnsz : ns.toList.length = new.length * k' := by rw [hnl, xZ new hek]
   obtain ⟨l, hφ, hS, hb⟩ := hm.mem i _ hl
   simp only [Rep] at hx
   obtain ⟨l0, hφ0, _, _, hx⟩ := hx
   rw [hφ] at hφ0; simp only [Option.some.injEq] at hφ0; subst hφ0
   have hb0 := hb
   simp only [BRep] at hb
   obtain ⟨ha, hver, hkk, hb⟩ := hb
   have hsub : ((es.drop lo).take n).length = n := by simp; omega
   have hne : ∀ i' : Nat, i' ≠ id → i' < nx → φ i' = none → i' ≠ i := by rintro i' _ _ h rfl; rw [hφ] at h; simp at h
   rcases hx hver with ⟨hr, rfl, rfl, hzs⟩ | ⟨hr, cap, rfl, hc1, hc2⟩ | ⟨_, _, g, _⟩
   rotate_right
   ·omega
   ·-- a slice without a block
    have hes0 : es = [] := by rcases hb with hb | hb; exact hb.2; simp [hr] at hb
    subst hes0
    obtain ⟨p, rfl⟩ := mM hzs
    cases new with
    | nil =>
     have hn0 : ns = #[] := by simpa using hnsz
     refine ⟨_, _, pW hst0 hxt0 hst hxt hA.hinf hA.size (hns w rfl) hn0, ?_⟩
     obtain ⟨φ', h1, h2, h3, h4, h5⟩ := u7 (l' := { l with ver := v' + 1 }) (blk := .arr (v' + 1) k' ((([] : List (List D)).drop 0).take 0 ++ [])) (w' := w) hm hφ ha ha (by rw [hver]; exact Nat.lt_succ_self _) hl rfl rfl (fun _ _ => rfl) rfl rfl rfl rfl (by
      intro φ' _ _
      simp only [BRep]
      exact ⟨ha, trivial, hkk, .inl ⟨hr, by simp⟩⟩)
     refine ⟨_, _, nx, S, φ', hk, Nat.le_refl _, ?_, h2, h3, h4, fun i' g1 g2 g3 => by rw [h5 i' (hne i' g1 g2 g3)]; exact g3⟩
     simp only [Rep]
     exact ⟨_, h1, Nat.le_refl _, ⟨_, _, _, rfl⟩, fun _ => .inl ⟨hr, trivial, rfl, hzs⟩⟩
    | cons e0 es0 =>
     obtain ⟨newCap, w1, rest, g1, g2, g3, g4, g5, g6, hrun⟩ := mG (w := w) (n := 0) (cap := 0) (m := (e0 :: es0).length) (p := p) (q := q) (c2 := c2) (ty := ty) (os := #[]) (ns := ns) hst0 hxt0 hst hxt hA.hinf hA.size hA.zero hA.zlen hA.bpos hA.bmax (by simp) (by simpa using hbd)
      (fun w1 _ => by cases p <;> simp [Builtin.firstCells, loadCells, loadCellsFrom]) (fun w1 h => hns w1 h)
     refine ⟨_, _, hrun, ?_⟩
     obtain ⟨m1, m2, m3⟩ := MSim.of_heap g2 g3 g4 g5 hm
     have hnew := dR (w := w1) (#[] ++ ns ++ rest) e (0, 0)
     have hsz : (#[] ++ ns ++ rest : Array Value).size = newCap * k' := by
      have e1 : ns.size = (e0 :: es0).length * k' := by rw [← Array.length_toList, hnsz]
      simp only [Array.size_append, Array.size_empty, e1, g6, Nat.zero_add]
      rw [← Nat.add_mul]; congr 1; omega
     obtain ⟨φ', h1, h2, h3, h4, h5⟩ := wD (l' := ⟨true, true, w1.heap.size, 0, k', v' + 1, newCap * k'⟩) (blk := .arr (v' + 1) k' ((([] : List (List D)).drop 0).take 0 ++ (e0 :: es0))) m1 hφ ha rfl (by rw [hver]; exact Nat.lt_succ_self _) hl (.cells (#[] ++ ns ++ rest) e) rfl rfl (by
      intro φ' _ hst'
      simp only [BRep]
      refine ⟨trivial, trivial, trivial, .inr ⟨trivial, ⟨_, e, eM _, hsz⟩, ?_, ?_⟩⟩
      ·simp only [List.drop_nil, List.take_nil, List.nil_append, Nat.zero_add]; exact Nat.mul_le_mul_right k' (by omega)
      ·simp only [List.drop_nil, List.take_nil, List.nil_append]
       refine eL _ _ _ _ hek (b_ _ ns.toList _ _ (RepVs.mono (m2.trans hst') _ _ hnv) ?_)
       have := hnew
       simp only [Array.toList_append, Array.toList_empty, List.nil_append] at this
       exact (jL this).1)
     refine ⟨_, _, nx, S, φ', hk, Nat.le_refl _, ?_, h2, m2.trans h3, m3.trans h4, fun i' q1 q2 q3 => by rw [h5 i' (hne i' q1 q2 q3)]; exact q3⟩
     simp only [Rep]
     refine ⟨_, h1, Nat.le_refl _, ⟨_, _, _, rfl⟩, fun _ => .inr (.inl ⟨rfl, newCap, by simp, by omega, by simp⟩)⟩
   ·-- a slice of a block
    rcases hb with hb | ⟨_, ⟨c, t, hc, hcs⟩, hbd2, hes2⟩
    ·simp [hb.1] at hr
    have hbase : l.base + lo * l.k = l.base + lo * k' := by rw [hkk]
    have hc2' : l.base + (lo + cap) * k' ≤ l.size := by rw [← hkk]; exact hc2
    have hold := iH n _ _ _ _ (iF lo es _ _ _ hes2)
    by_cases hroom : n + new.length ≤ cap
    ·-- in place
     have hin : l.base + lo * k' + n * k' + new.length * k' ≤ l.size := by
      have e1 : (lo + (n + new.length)) * k' ≤ (lo + cap) * k' := Nat.mul_le_mul_right k' (by omega)
      rw [Nat.add_mul, Nat.add_mul] at e1; omega
     have hth : w.there l.b (l.base + lo * k' + n * k') ns.toList.length := i6 hc (by rw [hnsz, hcs]; exact hin)
     have hrun := xX (w := w) (b := l.b) (o := l.base + lo * k') (n := n) (cap := cap) (m := new.length) (q := q) (c2 := c2) (ty := ty) (ns := ns) hst0 hxt0 hst hxt hA.hinf hA.size hroom (hns w rfl) hth hn1
     rw [hbase]
     refine ⟨_, _, hrun, ?_⟩
     obtain ⟨f1, f2, f3, f4, f5, f6⟩ := gG l.b ns.toList (l.base + lo * k' + n * k') w
     obtain ⟨c', hc', hs'⟩ := f6 _ _ _ hc
     obtain ⟨φ', h1, h2, h3, h4, h5⟩ := u7 (l' := { l with ver := v' + 1, base := l.base + lo * k' }) (blk := .arr (v' + 1) k' ((es.drop lo).take n ++ new)) (w' := w.setCells l.b (l.base + lo * k' + n * k') ns.toList) hm hφ ha ha (by rw [hver]; exact Nat.lt_succ_self _) hl rfl rfl (fun b hb => f1 b (hb hr)) f2 f3 f4 f5 (by
      intro φ' _ hst'
      simp only [BRep]
      refine ⟨ha, trivial, hkk, .inr ⟨hr, ⟨c', t, hc', by rw [hs', hcs]⟩, ?_, ?_⟩⟩
      ·rw [List.length_append, hsub, Nat.add_mul]; omega
      ·refine nX _ _ _ _ _ ?_ ?_
       ·refine gF _ _ _ _ fun j e' he' => ?_
        obtain ⟨q1, q2⟩ := iA _ _ _ _ _ _ hold he'
        have hj : j < n := by have := (List.getElem?_eq_some_iff.1 he').1; omega
        refine ⟨q1, gD _ _ _ fun m' d hd => ?_⟩
        have hm' : m' < e'.length := (List.getElem?_eq_some_iff.1 hd).1
        obtain ⟨x, hx, hr'⟩ := jV _ _ _ _ _ q2 hd
        refine ⟨x, ?_, Rep.mono hst' _ _ hr'⟩
        have e1 : (j + 1) * k' ≤ n * k' := Nat.mul_le_mul_right k' hj
        rw [Nat.succ_mul] at e1
        rw [World.cell?_setCells_out _ _ _ _ _ (fun _ _ => .inl (by show l.base + lo * k' + j * k' + m' < l.base + lo * k' + n * k'; omega))]; exact hx
       ·rw [hsub]
        refine eL _ _ _ _ hek (b_ _ ns.toList _ _ (RepVs.mono hst' _ _ hnv) ?_)
        exact World.rangeAt_setCells_same _ _ _ _ hth)
     refine ⟨_, _, nx, S, φ', hk, Nat.le_refl _, ?_, h2, h3, h4, fun i' q1 q2 q3 => by rw [h5 i' (hne i' q1 q2 q3)]; exact q3⟩
     simp only [Rep]
     refine ⟨_, h1, Nat.le_refl _, ⟨_, _, _, rfl⟩, fun _ => .inr (.inl ⟨hr, cap, by simp, hroom, ?_⟩)⟩
     show l.base + lo * k' + (0 + cap) * l.k ≤ l.size
     rw [hkk, Nat.zero_add]
     rw [Nat.add_mul] at hc2'; omega
    ·-- a new block
     obtain ⟨vs, hvl, hrg, hvs⟩ := iC _ _ _ (fO _ _ _ _ hold).1
     have hvl2 : vs.length = n * k' := by rw [hvl, (fO _ _ _ _ hold).2, hsub]
     obtain ⟨newCap, w1, rest, g1, g2, g3, g4, g5, g6, hrun⟩ := mG (w := w) (n := n) (cap := cap) (m := new.length) (p := some ⟨l.b, l.base + lo * k', none⟩) (q := q) (c2 := c2) (ty := ty) (os := vs.toArray) (ns := ns) hst0 hxt0 hst hxt hA.hinf hA.size hA.zero hA.zlen hA.bpos hA.bmax (by omega) hbd
      (fun w1 h => jE h hrg hvl2) (fun w1 h => hns w1 h)
     rw [hbase]
     refine ⟨_, _, hrun, ?_⟩
     obtain ⟨m1, m2, m3⟩ := MSim.of_heap g2 g3 g4 g5 hm
     have hnew := dR (w := w1) (vs.toArray ++ ns ++ rest) e (0, 0)
     have hsz : (vs.toArray ++ ns ++ rest : Array Value).size = newCap * k' := by
      have e1 : ns.size = new.length * k' := by rw [← Array.length_toList, hnsz]
      simp only [Array.size_append, List.size_toArray, hvl2, e1, g6]
      rw [← Nat.add_mul, ← Nat.add_mul]; congr 1; omega
     obtain ⟨φ', h1, h2, h3, h4, h5⟩ := wD (l' := ⟨true, true, w1.heap.size, 0, k', v' + 1, newCap * k'⟩) (blk := .arr (v' + 1) k' ((es.drop lo).take n ++ new)) m1 hφ ha rfl (by rw [hver]; exact Nat.lt_succ_self _) hl (.cells (vs.toArray ++ ns ++ rest) e) rfl rfl (by
      intro φ' _ hst'
      simp only [BRep]
      refine ⟨trivial, trivial, trivial, .inr ⟨trivial, ⟨_, e, eM _, hsz⟩, ?_, ?_⟩⟩
      ·rw [List.length_append, hsub, Nat.zero_add]; exact Nat.mul_le_mul_right k' (by omega)
      ·have hn' := hnew
       simp only [Array.toList_append] at hn'
       obtain ⟨r1, _⟩ := jL hn'
       refine eL _ _ _ _ (fun e' he' => ?_) (b_ _ (vs ++ ns.toList) _ _ ?_ r1)
       ·rcases List.mem_append.1 he' with he' | he'
        ·exact kG _ _ _ _ hold e' he'
        ·exact hek e' he'
       ·rw [List.flatten_append]
        exact dQ _ _ _ _ (RepVs.mono (m2.trans hst') _ _ hvs) (RepVs.mono (m2.trans hst') _ _ hnv))
     refine ⟨_, _, nx, S, φ', hk, Nat.le_refl _, ?_, h2, m2.trans h3, m3.trans h4, fun i' q1 q2 q3 => by rw [h5 i' (hne i' q1 q2 q3)]; exact q3⟩
     simp only [Rep]
     refine ⟨_, h1, Nat.le_refl _, ⟨_, _, _, rfl⟩, fun _ => .inr (.inl ⟨rfl, newCap, by simp, by omega, by simp⟩)⟩
  ·simp at h
 ·exact tB hA h hx hy hm hid hlt hk
end
section
variable {C : Cfg} {w w' : World} {S : Nat → Prop} {φ : aW} {a : Act} {env tl : Env} {mem : Mem} {nx id : Nat} {K : KD}
mutual
theorem sN {φ' : aW} : ∀ (d : D) (x : Value), D.imm d = true → Rep w S φ d x → Rep w S φ' d x
 | .top, _, _, _ => by simp [Rep]
 | .zs, x, _, h => by simpa [Rep] using h
 | .pl v, x, _, h => by simpa [Rep] using h
 | .sl es, x, hi, h => by
  simp only [Rep, D.imm] at hi h ⊢
  rcases h with h | ⟨b, o, cap, k, h1, h2, h3, h4⟩
  ·exact .inl h
  ·exact .inr ⟨b, o, cap, k, h1, h2, h3, oM es k b o hi h4⟩
 | .pt cs, x, hi, h => by
  simp only [Rep, D.imm] at hi h ⊢
  obtain ⟨b, o, h1, h2, h3⟩ := h
  exact ⟨b, o, h1, h2, n_ cs b o hi h3⟩
 | .opt _ _, _, hi, _ => by simp [D.imm] at hi
 | .osl _ _ _ _, _, hi, _ => by simp [D.imm] at hi
 | .oel _ _ _ _, _, hi, _ => by simp [D.imm] at hi
 | .omap _, _, hi, _ => by simp [D.imm] at hi
 | .fn f cs, x, hi, h => by
  simp only [Rep, D.imm] at hi h ⊢
  obtain ⟨vs, h1, h2⟩ := h
  exact ⟨vs, h1, jQ cs _ hi h2⟩
 | .agg cs, x, hi, h => by
  simp only [Rep, D.imm] at hi h ⊢
  obtain ⟨vs, h1, h2⟩ := h
  exact ⟨vs, h1, jQ cs _ hi h2⟩
 | .tup cs, x, hi, h => by
  simp only [Rep, D.imm] at hi h ⊢
  obtain ⟨vs, h1, h2⟩ := h
  exact ⟨vs, h1, jQ cs _ hi h2⟩
theorem jQ {φ' : aW} : ∀ (ds : List D) (xs : List Value), D.imms ds = true → RepVs w S φ ds xs → RepVs w S φ' ds xs
 | [], xs, _, h => by simpa [RepVs] using h
 | d :: ds, xs, hi, h => by
  simp only [RepVs, D.imms, Bool.and_eq_true] at hi h ⊢
  obtain ⟨x, r, h1, h2, h3⟩ := h
  exact ⟨x, r, h1, sN d x hi.1 h2, jQ ds r hi.2 h3⟩
theorem n_ {φ' : aW} : ∀ (ds : List D) (b o : Nat), D.imms ds = true → RepCs w S φ ds b o → RepCs w S φ' ds b o
 | [], b, o, _, h => by simp [RepCs]
 | d :: ds, b, o, hi, h => by
  simp only [RepCs, D.imms, Bool.and_eq_true] at hi h ⊢
  obtain ⟨⟨x, h1, h2⟩, h3⟩ := h
  exact ⟨⟨x, h1, sN d x hi.1 h2⟩, n_ ds b (o + 1) hi.2 h3⟩
theorem oM {φ' : aW} : ∀ (es : List (List D)) (k b o : Nat), D.immss es = true → RepEs w S φ es k b o → RepEs w S φ' es k b o
 | [], k, b, o, _, h => by simp [RepEs]
 | e :: es, k, b, o, hi, h => by
  simp only [RepEs, D.immss, Bool.and_eq_true] at hi h ⊢
  exact ⟨h.1, n_ e b o hi.1 h.2.1, oM es k b (o + k) hi.2 h.2.2⟩
end
theorem Stays.none (hS : ∀ b, S b → b < w.heap.size) : ∀ (d : D) (x : Value), Rep w S bS d x → Rep w S φ d x := by
 intro d x h
 exact Rep.mono (w := w) (S := S) (φ := bS) ⟨fun _ h => h, fun _ _ _ => rfl, fun _ _ h => by simp [bS] at h⟩ d x h
theorem kM : ∀ (l : List Operand) (ys : List Opd) (ds : List D), dH C w S φ env tl a → C.opds l = some ys → ros tl env ys = some ds → RepVs w S φ ds (l.map a.eval)
 | [], ys, ds, hk, h1, h2 => by
  simp only [Cfg.opds, List.mapM_nil, Option.pure_def, Option.some.injEq] at h1; subst h1
  simp only [ros, Option.some.injEq] at h2; subst h2
  simp [RepVs]
 | x :: l, ys, ds, hk, h1, h2 => by
  simp only [Cfg.opds, List.mapM_cons, Option.bind_eq_bind, Option.bind_eq_some_iff, Option.pure_def, Option.some.injEq] at h1
  obtain ⟨y, hy, ys', hys, rfl⟩ := h1
  simp only [ros] at h2
  split at h2
  ·rename_i d ds' hd hds
   simp only [Option.some.injEq] at h2; subst h2
   simp only [List.map_cons, RepVs]
   exact ⟨_, _, rfl, aP hk hy hd, kM l ys' ds' hk hys hds⟩
  ·simp at h2
theorem vX {P : Program} {f : FuncId} {c : Call} {X : Operand} {caps : Array Value} {ty : TypeId} (he : uS P f) (hc : c.callee = .value X) (hX : a.eval X = .func (.func f) #[] caps) :
  (do let d ← resolve a.eval c ty; invoke d.target d.args : Sem Next).run P w = .ok (.enter f ((c.args.toList.map a.eval) ++ caps.toList).toArray) w := by
 obtain ⟨fn, h1, h2, h3⟩ := he
 simp only [resolve, hc, Sem.run_bind, hX, Deferred.ofValue, Sem.run_pure, Result.andThen_ok, invoke, callFunc, run_program, h1, h2, h3, Bool.false_eq_true, if_false]
 congr 2
 apply Array.ext'
 simp
theorem G6 {P : Program} {f : FuncId} {c : Call} {X : Operand} {caps : Array Value} {ty : TypeId} {v : Value} {w' : World} (hc : c.callee = .value X) (hX : a.eval X = .func (.func f) #[] caps) (h : (callFunc f ((c.args.toList.map a.eval) ++ caps.toList).toArray).run P w = .ok (.value v) w') :
  (do let d ← resolve a.eval c ty; invoke d.target d.args : Sem Next).run P w = .ok (.value v) w' := by
 simp only [resolve, hc, Sem.run_bind, hX, Deferred.ofValue, Sem.run_pure, Result.andThen_ok, invoke]
 rw [← h]
 congr 2
 apply Array.ext'
 simp
theorem sM {P : Program} {f : Option D} {xs : Option (List D)} (h : pcK P f xs mem nx K) : ∃ g caps ys r, f = some (.fn g caps) ∧ xs = some ys ∧ (Pure P g (ys ++ caps) r ∨ Extn P g (ys ++ caps) r) ∧ D.imms (ys ++ caps) = true ∧ K r mem nx := by
 unfold pcK at h
 split at h
 ·obtain ⟨r, h1, h2, h3⟩ := h; exact ⟨_, _, _, r, rfl, rfl, h1, h2, h3⟩
 ·exact h.elim
theorem DV {P : Program} {f : FuncId} {ds : List D} {r : D} {xs : List Value} (h : Pure P f ds r) (hi : D.imms ds = true) (hx : RepVs w S φ ds xs) (hm : MSim S φ mem nx w) (htb : TB P S w) (hk : K r mem nx) :
  Calls P f xs.toArray w fun e w' => ∃ v, e = .returned v ∧ Out S φ mem nx w id K v w' := by
 refine (h.2 S w xs hm.sub htb (jQ _ _ hi hx)).mono ?_
 rintro e w' ⟨v, S', rfl, hr, hx, hS'⟩
 have hsame : ∀ b, b < w.heap.size → w'.heap[b]? = w.heap[b]? := fun b hb => hx.keep b hb (by rintro ⟨i, blk, l, h1, _⟩; simp [look] at h1)
 have hst : Stays w S φ w' S' φ := Stays.of_heap hx.sub (fun b hb => hsame b (hm.sub b hb)) (fun _ _ h => h)
 have hnews : ∀ b, S' b → S b ∨ w.heap.size ≤ b := fun b hb => by
  rcases hx.news b hb with h | h | ⟨i, blk, l, h1, _⟩
  ·exact .inl h
  ·exact .inr h
  ·simp [look] at h1
 refine ⟨v, rfl, r, mem, nx, S', φ, hk, Nat.le_refl _, Rep.mono (φ' := φ) ⟨fun _ h => h, fun _ _ _ => rfl, fun _ _ h => by simp [bS] at h⟩ _ _ hr, ⟨?_, hm.inj, ?_, hm.fresh, hS'⟩, hst,
  ⟨hx.sub, fun b hb _ => hsame b hb, hx.size, fun b _ h => h, fun b hb => by rcases hnews b hb with h | h; exact .inl h; exact .inr (.inl h), hx.os, hx.output, hx.tape⟩, fun _ _ _ h => h⟩
 ·intro i blk hi'
  obtain ⟨l, h1, h2, h3⟩ := hm.mem i blk hi'
  refine ⟨l, h1, fun hr hs => ?_, h3.mono hst fun hr => hsame _ (hm.lt i l h1 hr)⟩
  rcases hnews _ hs with h | h
  ·exact h2 hr h
  ·have := hm.lt i l h1 hr; omega
 ·intro i l h1 hr
  exact Nat.lt_of_lt_of_le (hm.lt i l h1 hr) hx.size
theorem t6 {P : Program} {o : Oper} {f : FuncId} {args : Array Value} {R : Value → World → Prop} (h : (execOp a.eval o).run P w = .ok (.enter f args) w) (hc : Calls P f args w fun e w' => ∃ v, e = .returned v ∧ R v w') : fT P o a w R := by
 unfold fT Oper.wp
 rw [h]
 refine hc.mono ?_
 rintro e w' ⟨v, rfl, hv⟩
 exact ⟨v, rfl, hv⟩
theorem jG {P : Program} {f : Option D} {xs : Option (List D)} (h : clK P f xs mem nx K) : ∃ g caps ys, f = some (.fn g caps) ∧ xs = some ys ∧ bH P g (ys ++ caps) mem nx K := by
 unfold clK at h
 split at h
 ·exact ⟨_, _, _, rfl, rfl, h⟩
 ·exact h.elim
def iS (w : World) (S : Nat → Prop) (φ : aW) : Option D → Option Value → Prop
 | none, none => True
 | some d, some v => Rep w S φ d v
 | _, _ => False
theorem uF {x : Option D} {X : Option Value} {d : Nat} {n : Int} {y : Nat} {code : BoundsCode} {P : Program} (h : bound x d = some n) (hr : iS w S φ x X) (h0 : 0 ≤ n) (hy : n ≤ y) :
  (match X with | some v => Instr.sliceBound v y code | none => pure d : Sem Nat).run P w = .ok n.toNat w := by
 cases x with
 | none =>
  cases X with
  | none => simp only [bound, Option.some.injEq] at h; subst h; simp
  | some v => exact hr.elim
 | some dd =>
  cases X with
  | none => exact hr.elim
  | some v =>
   cases dd with
   | pl u =>
    simp only [iS, Rep] at hr; subst hr
    cases v with
    | int k m =>
     simp only [bound, Option.some.injEq] at h; subst h
     simp [Instr.sliceBound, asIntOf, h0, hy]
    | _ => simp [bound] at h
   | _ => simp [bound] at h
theorem lH {lo hi : Option D} {LO HI : Option Value} {len cap : Nat} {l h : Int} {b : Bool} {P : Program} (hl : bound lo 0 = some l) (hh : bound hi len = some h)
  (hlo : iS w S φ lo LO) (hhi : iS w S φ hi HI) (h0 : 0 ≤ l) (h1 : l ≤ h) (h2 : h ≤ len) (hc : len ≤ cap) :
  (Instr.sliceBounds b len cap LO HI none).run P w = .ok (l.toNat, h.toNat, cap) w := by
 have e1 := uF (P := P) (code := if b then .sliceAcap else .sliceAlen) (y := cap) hh hhi (by omega) (by omega)
 have e2 := uF (P := P) (code := .sliceB) (y := h.toNat) hl hlo h0 (by omega)
 unfold Instr.sliceBounds
 cases HI with
 | none =>
  cases LO with
  | none => simp at e1 e2 ⊢; simp [e1, e2]
  | some v => simp at e1 e2 ⊢; simp [e1, e2]
 | some u =>
  cases LO with
  | none => simp at e1 e2 ⊢; simp [e1, e2]
  | some v => simp at e1 e2 ⊢; simp [e1, e2]
theorem B_ {t e : TypeId} {g : Bool} {k : Nat} {x d : D} {v : Value} {lo hi : Option D} {LO HI : Option Value} (ht : C.P.underlying t = some (.slice e)) (he : Program.tsz C.P e = some (g, k)) (h : gQ mem false k x lo hi = some d)
  (hx : Rep w S φ x v) (hlo : iS w S φ lo LO) (hhi : iS w S φ hi HI) (hm : MSim S φ mem nx w) : ∃ r, Rep w S φ d r ∧ (Instr.sliceAt t v LO HI none).run C.P w = .ok r w := by
 obtain ⟨ds, inf, hu, hinf, hsz, _⟩ := eC he
 have key : ∀ (p : Option Addr) (len cap : Nat) (l h : Int), bound lo 0 = some l → bound hi len = some h → 0 ≤ l → l ≤ h → h ≤ len → len ≤ cap →
   (Instr.sliceAt t (.slice p len cap) LO HI none).run C.P w = .ok (.slice (if cap = l.toNat then p else p.map (·.add (l.toNat * k))) (h.toNat - l.toNat) (cap - l.toNat)) w := by
  intro p len cap l h h1 h2 h3 h4 h5 h6
  simp only [Instr.sliceAt, Instr.slice, Sem.run_bind, run_underlying ht, Result.andThen_ok, lH h1 h2 hlo hhi h3 h4 h5 h6, cI hinf, hsz, Sem.run_pure]
 unfold gQ at h
 split at h
 ·rename_i es
  simp only [Bool.false_eq_true, if_false] at h
  split at h
  ·rename_i l hh h1 h2
   simp only [Option.ite_none_right_eq_some, Option.some.injEq] at h
   obtain ⟨⟨⟨q1, q2, q3⟩, q4⟩, rfl⟩ := h
   simp only [Rep] at hx
   rcases hx with ⟨rfl, rfl | ⟨p, rfl⟩⟩ | ⟨b, o, cap, k', rfl, hc, hS, hes⟩
   ·refine ⟨_, ?_, key none 0 0 l hh h1 (by simpa using h2) q1 q2 (by simpa using q3) (Nat.le_refl _)⟩
    simp only [Rep, List.take_nil, List.drop_nil]
    left
    simp at q3
    have : l = 0 := by omega
    have : hh = 0 := by omega
    subst_vars; simp [Zs]
   ·refine ⟨_, ?_, key (some p) 0 0 l hh h1 (by simpa using h2) q1 q2 (by simpa using q3) (Nat.le_refl _)⟩
    simp only [Rep, List.take_nil, List.drop_nil]
    left
    simp at q3
    have : l = 0 := by omega
    have : hh = 0 := by omega
    subst_vars; simp [Zs]
   ·refine ⟨_, ?_, key _ _ _ l hh h1 h2 q1 q2 q3 hc⟩
    have hlen : ((es.take hh.toNat).drop l.toNat).length = hh.toNat - l.toNat := by simp; omega
    by_cases hcl : cap = l.toNat
    ·have hz : hh.toNat - l.toNat = 0 := by omega
     rw [if_pos hcl, hz]
     have : (es.take hh.toNat).drop l.toNat = [] := List.eq_nil_of_length_eq_zero (by rw [hlen, hz])
     rw [this]
     simp only [Rep]
     right
     exact ⟨b, o, cap - l.toNat, k', by simp, by simp, hS, by simp [RepEs]⟩
    ·rw [if_neg hcl]
     simp only [Rep]
     right
     have hes' := iF l.toNat _ _ _ _ (iH hh.toNat es k' b o hes)
     refine ⟨b, o + l.toNat * k, cap - l.toNat, k', by rw [hlen]; simp [Addr.add_mid], by rw [hlen]; omega, hS, ?_⟩
     rcases q4 with q4 | q4
     ·subst q4; simpa using hes'
     ·by_cases hn : es = []
      ·subst hn; simp [RepEs]
      ·have : k = k' := by
        obtain ⟨e0, he0⟩ := List.exists_mem_of_ne_nil es hn
        have a1 := kG es k' b o hes e0 he0
        have a2 := List.all_eq_true.1 q4 e0 he0
        simp at a2; omega
       rw [this]; exact hes'
  ·simp at h
 ·rename_i i ver o n
  split at h
  ·simp at h
  ·rename_i hcv
   simp only [Bool.false_or, Bool.not_eq_true', Bool.not_eq_false] at hcv
   split at h
   ·rename_i l hh h1 h2
    obtain ⟨k2, es, L0, hlk, hl0, hv0, hb0, _⟩ := kS hcv hm
    split at h
    rotate_left
    ·simp only [Option.ite_none_right_eq_some, Option.some.injEq] at h
     obtain ⟨⟨⟨q1, q2, q3⟩, hck⟩, rfl⟩ := h
     have hk2 : k2 = k := by
      unfold cur at hck
      rw [hlk] at hck
      simp only [Bool.and_eq_true, beq_iff_eq] at hck
      exact hck.2
     simp only [Rep] at hx
     obtain ⟨l', hl', hle, hsh, hx⟩ := hx
     rw [hl0] at hl'; simp only [Option.some.injEq] at hl'; subst hl'
     rcases hx hv0 with ⟨r1, rfl, rfl, hz⟩ | ⟨r1, cap, rfl, c1, c2⟩ | ⟨_, rfl, _⟩
     ·simp at q3; omega
     ·refine ⟨_, ?_, key _ n cap l hh h1 h2 (by omega) q2 q3 c1⟩
      have hkk : L0.k = k := by
       simp only [BRep] at hb0
       rw [hb0.2.2.1, hk2]
      by_cases he0 : l = hh
      ·subst he0
       have e1 : (l - l).toNat = 0 := by omega
       have e2 : l.toNat - l.toNat = 0 := by omega
       simp only [Rep]
       rw [e1, e2]
       refine ⟨L0, hl0, hle, ⟨_, _, _, rfl⟩, fun _ => .inr (.inr ⟨r1, rfl, by omega, ?_⟩)⟩
       split
       ·exact ⟨_, _, rfl⟩
       ·exact ⟨L0.base + o * L0.k + l.toNat * k, cap - l.toNat, by simp [Addr.add]⟩
      ·have hne : ¬ cap = l.toNat := by omega
       rw [if_neg hne]
       simp only [Rep]
       refine ⟨L0, hl0, hle, ⟨_, _, _, rfl⟩, fun _ => .inr (.inl ⟨r1, cap - l.toNat, ?_, by omega, ?_⟩)⟩
       ·simp [Addr.add, hkk, Nat.add_mul, Nat.add_assoc]
        omega
       ·have : o + l.toNat + (cap - l.toNat) = o + cap := by omega
        rw [this]; exact c2
     ·simp at q3; omega
    rename_i hcc
    simp only [Option.some.injEq] at h
    obtain ⟨rfl, q2, q3⟩ := hcc
    subst h
    obtain ⟨l, hl, hv, hb⟩ : ∃ l, φ i = some l ∧ l.ver = ver ∧ True := ⟨L0, hl0, hv0, trivial⟩
    simp only [Rep] at hx
    obtain ⟨l', hl', hle, hsh, hx⟩ := hx
    rw [hl] at hl'; simp only [Option.some.injEq] at hl'; subst hl'
    rcases hx hv with ⟨r1, rfl, rfl, hz⟩ | ⟨r1, cap, rfl, c1, c2⟩ | ⟨r1, rfl, ho0, oo, c0, rfl⟩
    rotate_right
    ·have hh0 : hh = 0 := by simp at q3; omega
     subst hh0
     refine ⟨_, ?_, key _ 0 c0 0 0 h1 h2 (by omega) (by omega) (by simp) (by omega)⟩
     simp only [Rep]
     refine ⟨l, hl, hle, ⟨_, _, _, rfl⟩, fun _ => .inr (.inr ⟨r1, rfl, ho0, ?_⟩)⟩
     split
     ·exact ⟨_, _, rfl⟩
     ·exact ⟨oo, c0, by simp [Addr.add]⟩
    ·obtain ⟨p, rfl⟩ := mM hz
     have hh0 : hh = 0 := by simp at q3; omega
     subst hh0
     refine ⟨_, ?_, key p 0 0 0 0 h1 h2 (by omega) (by omega) (by simp) (Nat.le_refl _)⟩
     simp only [Rep]
     refine ⟨l, hl, hle, ⟨_, _, _, rfl⟩, fun _ => .inl ⟨r1, trivial, rfl, ?_⟩⟩
     simpa using hz
    ·refine ⟨_, ?_, key _ n cap 0 hh h1 h2 (by omega) q2 q3 c1⟩
     have : (if cap = Int.toNat 0 then (some (⟨l.b, l.base + o * l.k, none⟩ : Addr)) else (some (⟨l.b, l.base + o * l.k, none⟩ : Addr)).map (·.add (Int.toNat 0 * k))) = some ⟨l.b, l.base + o * l.k, none⟩ := by
      split <;> simp [Addr.add]
     rw [this]
     simp only [Rep]
     exact ⟨l, hl, hle, ⟨_, _, _, rfl⟩, fun _ => .inr (.inl ⟨r1, cap, by simp, by omega, c2⟩)⟩
   ·simp at h
 ·simp at h
 ·rename_i hne
  simp only [Bool.false_eq_true, if_false] at h
  split at h
  ·rename_i l hh h1 h2
   simp only [Option.ite_none_right_eq_some, Option.some.injEq] at h
   obtain ⟨⟨rfl, rfl⟩, rfl⟩ := h
   simp only [Rep] at hx; subst hx
   refine ⟨_, ?_, key none 0 0 0 0 h1 h2 (by omega) (by omega) (by simp) (Nat.le_refl _)⟩
   simp [Rep]
  ·simp at h
 ·simp only [Bool.false_eq_true, if_false] at h
  split at h
  ·rename_i l hh h1 h2
   simp only [Option.ite_none_right_eq_some, Option.some.injEq] at h
   obtain ⟨⟨rfl, rfl⟩, rfl⟩ := h
   simp only [Rep] at hx
   obtain ⟨p, rfl⟩ := mM hx
   refine ⟨_, ?_, key p 0 0 0 0 h1 h2 (by omega) (by omega) (by simp) (Nat.le_refl _)⟩
   simpa [Rep] using hx
  ·simp at h
 ·simp at h
theorem AB {t : TypeId} {k : Nat} {x d : D} {v : Value} {lo hi : Option D} {LO HI : Option Value} (ht : C.P.underlying t = some .string) (h : gQ mem true k x lo hi = some d)
  (hx : Rep w S φ x v) (hlo : iS w S φ lo LO) (hhi : iS w S φ hi HI) : ∃ r, Rep w S φ d r ∧ (Instr.sliceAt t v LO HI none).run C.P w = .ok r w := by
 unfold gQ at h
 split at h
 ·simp at h
 ·simp at h
 ·rename_i b
  simp only [if_true] at h
  split at h
  ·rename_i l hh h1 h2
   simp only [Option.ite_none_right_eq_some, Option.some.injEq] at h
   obtain ⟨⟨q1, q2, q3⟩, rfl⟩ := h
   simp only [Rep] at hx; subst hx
   refine ⟨_, by simp only [Rep]; rfl, ?_⟩
   simp [Instr.sliceAt, Instr.slice, run_underlying ht, lH h1 h2 hlo hhi q1 q2 q3 (Nat.le_refl _)]
  ·simp at h
 ·simp at h
 ·simp at h
 ·simp at h
end
section
variable {C : Cfg} {w w' : World} {S : Nat → Prop} {φ : aW} {a : Act} {env tl : Env} {mem : Mem} {nx id : Nat} {K : KD}
theorem fa_at {off : Nat} {x d : D} {v : Value} (h : faD mem off x = some d) (hx : Rep w S φ x v) (hm : MSim S φ mem nx w) : ∃ b o, v = .pointer (some ⟨b, o, none⟩) ∧ Rep w S φ d (.pointer (some ⟨b, o + off, none⟩)) := by
 cases x with
 | pt cs =>
  simp only [faD, Option.ite_none_right_eq_some, Option.some.injEq] at h
  obtain ⟨_, rfl⟩ := h
  simp only [Rep] at hx ⊢
  obtain ⟨b, o, rfl, hS, hc⟩ := hx
  exact ⟨b, o, rfl, b, o + off, rfl, hS, eQ _ _ _ _ hc⟩
 | opt i o =>
  simp only [faD, Option.some.injEq] at h; subst h
  simp only [Rep] at hx ⊢
  obtain ⟨l, hl, ha, rfl⟩ := hx
  exact ⟨_, _, rfl, l, hl, ha, by rw [Nat.add_assoc]⟩
 | oel i ver ix o =>
  simp only [faD, Option.ite_none_right_eq_some, Option.some.injEq] at h
  obtain ⟨hc, rfl⟩ := h
  obtain ⟨k, es, l, _, hl, hv, _, _⟩ := kS hc hm
  simp only [Rep] at hx ⊢
  obtain ⟨l', hl', hle, hsh, hx⟩ := hx
  rw [hl] at hl'; simp only [Option.some.injEq] at hl'; subst hl'
  obtain ⟨hr, rfl⟩ := hx hv
  exact ⟨_, _, rfl, l, hl, hle, ⟨_, rfl⟩, fun _ => ⟨hr, by rw [Nat.add_assoc]⟩⟩
 | _ => simp [faD] at h
theorem CY {t e : TypeId} {len : Nat} {g : Bool} {k : Nat} {x i d : D} {v u : Value} (ht : C.P.underlying t = some (.array len e)) (he : Program.tsz C.P e = some (g, k)) (h : mW mem len k x i = some d)
  (hx : Rep w S φ x v) (hi : Rep w S φ i u) (hm : MSim S φ mem nx w) : ∃ r, Rep w S φ d r ∧ (Instr.indexAt t v u).run C.P w = .ok r w := by
 obtain ⟨ds, inf, hu, hinf, hsz, _⟩ := eC he
 unfold mW at h
 split at h
 ·rename_i kk n
  simp only [Option.ite_none_right_eq_some] at h
  obtain ⟨⟨h0, h1⟩, h⟩ := h
  simp only [Rep] at hi; subst hi
  obtain ⟨b, o, rfl, hr⟩ := fa_at h hx hm
  refine ⟨_, hr, ?_⟩
  simp only [Instr.indexAt, Sem.run_bind, l7, run_underlying ht, Result.andThen_ok, Instr.sureAddr, Sem.run_pure]
  rw [if_pos ⟨h0, h1⟩]
  simp only [Sem.run_bind, cI hinf, Result.andThen_ok, Sem.run_pure, hsz, Addr.add_mid]
 ·simp at h
theorem BA {t : TypeId} {x i d : D} {v u : Value} (ht : C.P.underlying t = some .string) (h : ixsD x i = some d) (hx : Rep w S φ x v) (hi : Rep w S φ i u) : ∃ r, Rep w S φ d r ∧ (Instr.index t v u).run C.P w = .ok r w := by
 unfold ixsD at h
 split at h
 ·rename_i s kk n
  simp only [Rep] at hx hi; subst hx hi
  split at h
  ·rename_i b hb
   simp only [Option.some.injEq] at h; subst h
   refine ⟨.int .u8 b.toNat, by simp only [Rep], ?_⟩
   simp only [Instr.index, Sem.run_bind, l7, run_underlying ht, Result.andThen_ok, hb, Sem.run_pure]
  ·simp at h
 ·simp at h
def KeyT (P : Program) (t : TypeId) (kd : Option IntKind) (d : TypeDesc) : Prop := P.underlying t = some d ∧ ((∃ k, kd = some k ∧ d = .int k) ∨ (kd = none ∧ d = .string))
theorem zT {kd : Option IntKind} {k : Value} (h : kOk kd k = true) : fW k k = true := by
 cases kd <;> cases k <;> simp [kOk] at h <;> simp [fW]
theorem pP {t : TypeId} {kd : Option IntKind} (h : C.keyKind t = some kd) : ∃ d, KeyT C.P t kd d := by
 unfold Cfg.keyKind at h
 split at h
 ·rename_i k hk
  simp only [Option.some.injEq] at h; subst h
  exact ⟨_, hk, .inl ⟨k, rfl, rfl⟩⟩
 ·rename_i hk
  simp only [Option.some.injEq] at h; subst h
  exact ⟨_, hk, .inr ⟨rfl, rfl⟩⟩
 ·simp at h
theorem lD {t : TypeId} {kd : Option IntKind} {d : TypeDesc} {k : Value} (h : KeyT C.P t kd d) (hk : kOk kd k = true) : MapKept.IsKey d k := by
 obtain ⟨_, ⟨k0, rfl, rfl⟩ | ⟨rfl, rfl⟩⟩ := h
 ·cases k <;> simp [kOk] at hk; simpa [MapKept.IsKey] using hk
 ·cases k <;> simp [kOk] at hk; simp [MapKept.IsKey]
theorem EI {t : TypeId} {kd : Option IntKind} {d : TypeDesc} {k j : Value} (h : KeyT C.P t kd d) (hk : kOk kd k = true) (hj : kOk kd j = true) : Instr.sameNow d k j = some (fW j k) ∧ (fW j k = true → j = k) := by
 have e : fW j k = true ↔ j = k := by
  cases kd <;> cases k <;> simp [kOk] at hk <;> cases j <;> simp [kOk] at hj
  ·simp [fW]
  ·subst hk hj; simp [fW]
 obtain ⟨r, h1, h2⟩ := MapKept.sameNow_of_keys (lD h hk) (lD h hj)
 refine ⟨?_, e.1⟩
 rw [h1]
 congr 1
 rw [Bool.eq_iff_iff, h2, e]
 exact eq_comm
theorem qE {t : TypeId} {kd : Option IntKind} {d : TypeDesc} {k : Value} (h : KeyT C.P t kd d) (hk : kOk kd k = true) : ∀ (es : List (Value × D)) (ms : List MapEntry) (i : Nat), RepMs w S φ es ms → es.all (fun e => kOk kd e.1) = true →
  (gY k es = none ∧ Instr.findNow d k ms i = some none ∧ ∀ v, iZ k v es = es ++ [(k, v)]) ∨
  ∃ j m dv, gY k es = some dv ∧ Instr.findNow d k ms i = some (some (i + j, m.val)) ∧ ms[j]? = some m ∧ m.key = k ∧ Rep w S φ dv m.val ∧
   ∀ (w2 : World) (v : D) (x : Value), RepMs w2 S φ es ms → Rep w2 S φ v x → RepMs w2 S φ (iZ k v es) (ms.set j { m with val := x })
 | [], ms, i, hr, _ => by
  simp only [RepMs] at hr; subst hr
  exact .inl ⟨rfl, rfl, fun v => rfl⟩
 | e :: es, ms, i, hr, ha => by
  obtain ⟨m, r, rfl, h1, h2, h3⟩ := hr
  simp only [List.all_cons, Bool.and_eq_true] at ha
  obtain ⟨s1, s2⟩ := EI h hk ha.1
  cases hq : fW e.1 k with
  | true =>
   rw [hq] at s1
   refine .inr ⟨0, m, e.2, by simp [gY, hq], by simp [Instr.findNow, h1, s1], rfl, by rw [h1]; exact s2 hq, h2, fun w2 v x hr2 hv => ?_⟩
   obtain ⟨m', r', e1, g1, g2, g3⟩ := hr2
   simp only [List.cons.injEq] at e1
   obtain ⟨rfl, rfl⟩ := e1
   simp only [iZ, hq, if_true, List.set_cons_zero]
   exact ⟨_, _, rfl, by rw [g1]; exact s2 hq, hv, g3⟩
  | false =>
   rw [hq] at s1
   rcases qE h hk es r (i + 1) h3 ha.2 with ⟨g1, g2, g3⟩ | ⟨j, m', dv, g1, g2, g3, g4, g5, g6⟩
   ·exact .inl ⟨by simp [gY, hq, g1], by simp [Instr.findNow, h1, s1, g2], fun v => by simp [iZ, hq, g3]⟩
   ·refine .inr ⟨j + 1, m', dv, by simp [gY, hq, g1], by simp [Instr.findNow, h1, s1, g2]; omega, by simpa using g3, g4, g5, fun w2 v x hr2 hv => ?_⟩
    obtain ⟨m2, r2, e1, k1, k2, k3⟩ := hr2
    simp only [List.cons.injEq] at e1
    obtain ⟨rfl, rfl⟩ := e1
    simp only [iZ, hq, Bool.false_eq_true, if_false, List.set_cons_succ]
    exact ⟨_, _, rfl, k1, k2, g6 w2 v x k3 hv⟩
theorem oI : ∀ (es fs : List (Value × D)) (ms ns : List MapEntry), RepMs w S φ es ms → RepMs w S φ fs ns → RepMs w S φ (es ++ fs) (ms ++ ns)
 | [], fs, ms, ns, h, k => by simp only [RepMs] at h; subst h; exact k
 | e :: es, fs, ms, ns, ⟨m, r, h1, h2, h3, h4⟩, k => ⟨m, r ++ ns, by rw [h1]; rfl, h2, h3, oI es fs r ns h4 k⟩
theorem oR : ∀ (es : List (Value × D)) (ms : List MapEntry), RepMs w S φ es ms → ms.length = es.length
 | [], ms, h => by simp only [RepMs] at h; rw [h]; rfl
 | e :: es, ms, ⟨m, r, h1, h2, h3, h4⟩ => by rw [h1]; simp [oR es r h4]
theorem BD (z : Value) : Rep w S φ (zD z) z := by
 unfold zD
 split
 ·simp only [Rep]; exact ⟨_, rfl, jB _⟩
 ·simp only [Rep]
theorem rX {i : Nat} {es : List (Value × D)} {v : Value} (hl : look mem i = some (.map es)) (hx : Rep w S φ (.omap i) v) (hm : MSim S φ mem nx w) :
  ∃ l ms clock, φ i = some l ∧ l.real = true ∧ l.arr = false ∧ v = .map (some l.b) ∧ w.heap[l.b]? = some (.map ms clock) ∧ RepMs w S φ es ms.toList ∧ MapKept.Stamped ms clock := by
 simp only [Rep] at hx
 obtain ⟨l, h1, h2, rfl⟩ := hx
 obtain ⟨l', g1, g2, g3⟩ := hm.mem i _ hl
 rw [h1] at g1; simp only [Option.some.injEq] at g1; subst g1
 simp only [BRep] at g3
 obtain ⟨k1, k2, ms, clock, k3, k4, k5⟩ := g3
 exact ⟨l, ms, clock, h1, k1, k2, rfl, k3, k4, k5⟩
theorem uD : ∀ (es : List (Value × D)) (ms : List MapEntry) (x : MapEntry), RepMs w S φ es ms → x ∈ ms → ∃ e ∈ es, e.1 = x.key
 | [], ms, x, h, hx => by simp only [RepMs] at h; subst h; simp at hx
 | e :: es, ms, x, ⟨m, r, h1, h2, h3, h4⟩, hx => by
  subst h1
  rcases List.mem_cons.1 hx with rfl | hx
  ·exact ⟨e, by simp, h2.symm⟩
  ·obtain ⟨e', g1, g2⟩ := uD es r x h4 hx
   exact ⟨e', by simp [g1], g2⟩
theorem rZ {k : Value} : ∀ (es : List (Value × D)), gY k es = none → ∀ e ∈ es, fW e.1 k = false
 | [], _, e, h => by simp at h
 | f :: es, h, e, he => by
  unfold gY at h
  cases hq : fW f.1 k with
  | true => rw [hq] at h; simp at h
  | false =>
   rcases List.mem_cons.1 he with rfl | he
   ·exact hq
   ·rw [hq] at h; exact rZ es (by simpa using h) e he
theorem FA {t kt et : TypeId} {kd : Option IntKind} {inf : TypeInfo} {z : Value} {two : Bool} {m k d : D} {v u : Value} (ht : C.P.underlying t = some (.map kt et)) (hkd : C.keyKind kt = some kd)
  (hinf : C.P.info? et = some inf) (hz : inf.zero = some z) (h : lkD mem kd z two m k = some d) (hx : Rep w S φ m v) (hk : Rep w S φ k u) (hm : MSim S φ mem nx w) :
  ∃ r, Rep w S φ d r ∧ (Instr.lookup t v u two).run C.P w = .ok r w := by
 obtain ⟨td, htd⟩ := pP hkd
 unfold lkD at h
 split at h
 ·rename_i kv es hes
  simp only [Option.ite_none_right_eq_some, Option.some.injEq] at h
  obtain ⟨hko, h⟩ := h
  simp only [Rep] at hk; subst hk
  have hzr : (zeroValue et).run C.P w = .ok z w := by
   simp [zeroValue, Sem.run_bind, iD hinf, hz]
  have fin : ∀ (ms : List MapEntry), RepMs w S φ es ms → es.all (fun e => kOk kd e.1) = true →
    ∃ r fr, Rep w S φ d r ∧ (Instr.findKey kt u ms).run C.P w = .ok fr w ∧ r = (match fr with | some (_, v) => if two then .tuple #[v, .bool true] else v | none => if two then .tuple #[z, .bool false] else z) := by
   intro ms hrep hall
   rcases qE htd hko es ms 0 hrep hall with ⟨g1, g2, g3⟩ | ⟨j, m', dv, g1, g2, g3, g4, g5, g6⟩
   ·rw [g1] at h
    simp only at h
    refine ⟨if two then .tuple #[z, .bool false] else z, none, ?_, MapKept.run_findKey htd.1 g2, rfl⟩
    subst h
    cases two
    ·exact BD z
    ·simp only [if_true, Rep]
     exact ⟨_, rfl, by simp only [RepVs]; exact ⟨_, _, rfl, BD z, _, _, rfl, by simp only [Rep], rfl⟩⟩
   ·rw [g1] at h
    simp only at h
    refine ⟨if two then .tuple #[m'.val, .bool true] else m'.val, some (0 + j, m'.val), ?_, MapKept.run_findKey htd.1 g2, rfl⟩
    subst h
    cases two
    ·exact g5
    ·simp only [if_true, Rep]
     exact ⟨_, rfl, by simp only [RepVs]; exact ⟨_, _, rfl, g5, _, _, rfl, by simp only [Rep], rfl⟩⟩
  have hck := fun (e : Bool) (n : Nat) => MapKept.run_checkKey (w := w) htd.1 (lD htd hko) e n
  unfold nO at hes
  split at hes
  ·rename_i i
   split at hes
   ·rename_i es' hl
    simp only [Option.ite_none_right_eq_some, Option.some.injEq] at hes
    obtain ⟨hall, rfl⟩ := hes
    obtain ⟨l, ms, clock, h1, h2, h3, rfl, h5, h6, _⟩ := rX hl hx hm
    obtain ⟨r, fr, hr1, hr2, hr3⟩ := fin ms.toList h6 hall
    refine ⟨r, hr1, ?_⟩
    simp only [Instr.lookup, Sem.run_bind, run_underlying ht, Result.andThen_ok, MapKept.run_getObj_map h5, Sem.run_pure, hck, hr2]
    subst hr3
    cases fr with
    | none => simp only [hzr, Sem.run_bind, Result.andThen_ok, Sem.run_pure]
    | some p => simp only [Sem.run_bind, Result.andThen_ok, Sem.run_pure]
   ·simp at hes
  ·simp only [Option.some.injEq] at hes; subst hes
   simp only [Rep] at hx; subst hx
   obtain ⟨r, fr, hr1, hr2, hr3⟩ := fin [] rfl (by simp)
   refine ⟨r, hr1, ?_⟩
   simp only [Instr.lookup, Sem.run_bind, run_underlying ht, Result.andThen_ok, Sem.run_pure, hck, hr2]
   subst hr3
   cases fr with
   | none => simp only [hzr, Sem.run_bind, Result.andThen_ok, Sem.run_pure]
   | some p => simp only [Sem.run_bind, Result.andThen_ok, Sem.run_pure]
  ·simp at hes
 ·simp at h
theorem CE {t kt et : TypeId} {o : Oper} (ho : o.op = .makeMap t none) (hm : MSim S φ mem nx w) (hid : φ id = none) (hlt : id < nx) (hk : K (.omap id) ((id, .map []) :: mem) nx) : fT C.P o a w (Out S φ mem nx w id K) := by
 refine cD (x := .map (some w.heap.size)) (w' := w.alloc (.map #[] 0)) ?_ ?_
 ·unfold execOp
  simp only [ho, Instr.makeMap, Option.map_none, Sem.run_bind, run_newObj, Result.andThen_ok, Sem.run_pure]
  rfl
 ·obtain ⟨φ', h1, h2, h3, h4, h5⟩ := h_ (l := ⟨false, true, w.heap.size, 0, 0, 0, 0⟩) (blk := .map []) hm (.map #[] 0) hid hlt rfl rfl (by
   intro φ' _
   simp only [BRep]
   exact ⟨trivial, trivial, #[], 0, eM _, rfl, MapKept.stamped_empty 0⟩)
  refine ⟨.omap id, _, nx, S, φ', hk, Nat.le_refl _, ?_, h2, h3, h4, fun i hi _ hn => by rw [h5 i hi]; exact hn⟩
  simp only [Rep]
  exact ⟨_, h1, rfl, rfl⟩
theorem A7 {t kt et : TypeId} {kd : Option IntKind} {m k v d : D} {mem' : Mem} {um uk uv : Value} (ht : C.P.underlying t = some (.map kt et)) (hkd : C.keyKind kt = some kd) (h : kR mem kd (some m) (some k) (some v) = some (d, mem'))
  (hx : Rep w S φ m um) (hk : Rep w S φ k uk) (hv : Rep w S φ v uv) (hm : MSim S φ mem nx w) :
  ∃ w', (Instr.mapUpdate t um uk uv).run C.P w = .ok () w' ∧ MSim S φ mem' nx w' ∧ Stays w S φ w' S φ ∧ Ext S φ mem w S φ mem' w' ∧ d = .top := by
 obtain ⟨td, htd⟩ := pP hkd
 unfold kR at h
 split at h
 ·rename_i i kv v' hm1 hk1 hv1
  simp only [Option.some.injEq] at hm1 hk1 hv1; subst hm1 hk1 hv1
  split at h
  ·rename_i es hl
   simp only [Option.ite_none_right_eq_some, Option.some.injEq, Prod.mk.injEq] at h
   obtain ⟨⟨hko, hall⟩, rfl, rfl⟩ := h
   simp only [Rep] at hk; subst hk
   obtain ⟨l, ms, clock, h1, h2, h3, rfl, h5, h6, hst0⟩ := rX hl hx hm
   have hkey := lD htd hko
   have hblk : ∀ o : Obj, (∀ b, b ≠ l.b → (w.heap.setIfInBounds l.b o)[b]? = w.heap[b]?) ∧ (w.heap.setIfInBounds l.b o).size = w.heap.size ∧ (w.heap.setIfInBounds l.b o)[l.b]? = some o :=
    fun o => ⟨fun b hb => (MapKept.heap_set h5).2 b hb, by simp, (MapKept.heap_set h5).1⟩
   rcases qE htd hko es ms.toList 0 h6 hall with ⟨g1, g2, g3⟩ | ⟨j, m', dv, g1, g2, g3, g4, g5, g6⟩
   ·obtain ⟨b1, b2, b3⟩ := hblk (.map (ms.push { key := uk, val := uv, born := clock }) (clock + 1))
    refine ⟨{ w with heap := w.heap.setIfInBounds l.b (.map (ms.push { key := uk, val := uv, born := clock }) (clock + 1)) }, ?_, ?_⟩
    ·simp [Instr.mapUpdate, run_underlying ht, MapKept.run_getObj_map h5, MapKept.run_checkKey htd.1 hkey, MapKept.run_findKey htd.1 g2, MapKept.run_setObj_map _ h5, Result.andThen]
    ·obtain ⟨q1, q2, q3⟩ := lP (w' := { w with heap := w.heap.setIfInBounds l.b (.map (ms.push { key := uk, val := uv, born := clock }) (clock + 1)) }) (blk := .map (iZ uk v es)) hm h1 h2 hl b1 b2 rfl rfl rfl (fun hst => by
      simp only [BRep]
      refine ⟨h2, h3, _, _, b3, ?_, MapKept.stamped_push hst0 (fun x hx2 he => ?_)⟩
      ·rw [g3, Array.toList_push]
       exact oI _ _ _ _ (RepMs.mono hst _ _ h6) ⟨_, _, rfl, rfl, Rep.mono hst _ _ hv, rfl⟩
      ·obtain ⟨e, e1, e2⟩ := uD _ _ x h6 hx2
       have := rZ es g1 e e1
       rw [e2, he] at this
       rw [zT hko] at this
       simp at this)
     exact ⟨q1, q2, q3, rfl⟩
   ·have hj : ms[j]? = some m' := by simpa using g3
    have hjs : j < ms.size := (Array.getElem?_eq_some_iff.1 hj).1
    obtain ⟨b1, b2, b3⟩ := hblk (.map (ms.modify j fun e => { e with key := uk, val := uv }) clock)
    refine ⟨{ w with heap := w.heap.setIfInBounds l.b (.map (ms.modify j fun e => { e with key := uk, val := uv }) clock) }, ?_, ?_⟩
    ·simp [Instr.mapUpdate, run_underlying ht, MapKept.run_getObj_map h5, MapKept.run_checkKey htd.1 hkey, MapKept.run_findKey htd.1 g2, hj, g4, MapKept.run_keyThatStays hkey, MapKept.run_setObj_map _ h5, Result.andThen]
    ·obtain ⟨q1, q2, q3⟩ := lP (w' := { w with heap := w.heap.setIfInBounds l.b (.map (ms.modify j fun e => { e with key := uk, val := uv }) clock) }) (blk := .map (iZ uk v es)) hm h1 h2 hl b1 b2 rfl rfl rfl (fun hst => by
      simp only [BRep]
      refine ⟨h2, h3, _, _, b3, ?_, MapKept.stamped_modify hst0 j _ (fun _ _ => rfl) (fun e he hje => ?_)⟩
      rotate_left
      ·rw [hj] at hje
       simp only [Option.some.injEq] at hje
       subst hje
       exact g4.symm
      have e : (ms.modify j fun e => { e with key := uk, val := uv }).toList = ms.toList.set j { m' with val := uv } := by
       rw [Array.toList_modify]
       apply List.ext_getElem?
       intro n
       rw [List.getElem?_modify, List.getElem?_set]
       by_cases hn : j = n
       ·subst hn
        have hm2 : ms[j] = m' := by
         have := Array.getElem?_eq_getElem hjs
         rw [hj] at this; exact (Option.some.inj this).symm
        simp [hj, hjs, g4, hm2]
       ·simp [hn]
      rw [e]
      exact g6 _ _ _ (RepMs.mono hst _ _ h6) (Rep.mono hst _ _ hv))
     exact ⟨q1, q2, q3, rfl⟩
  ·simp at h
 ·simp at h
theorem CO {ty : TypeId} {ts : Array TypeId} {t kt et : TypeId} {cs : Array Bool} {x d : D} {v : Value} (hts : ts[0]? = some t) (ht : C.P.underlying t = some (.map kt et)) (h : qK mem x = some d)
  (hx : Rep w S φ x v) (hm : MSim S φ mem nx w) : ∃ r, Rep w S φ d r ∧ (builtin .len ts ty cs #[v]).run C.P w = .ok (.value r) w := by
 unfold qK at h
 split at h
 ·rename_i i
  split at h
  ·rename_i es hl
   simp only [Option.some.injEq] at h; subst h
   obtain ⟨l, ms, clock, h1, h2, h3, rfl, h5, h6, _⟩ := rX hl hx hm
   have hlen : ms.size = es.length := by have := oR _ _ h6; simpa using this
   refine ⟨.int .i64 es.length, by simp only [Rep], ?_⟩
   rw [← hlen]
   simp [builtin, Builtin.len_, hts, run_underlying ht, MapKept.run_getObj_map h5, goInt]
  ·simp at h
 ·simp only [Option.some.injEq] at h; subst h
  simp only [Rep] at hx; subst hx
  refine ⟨.int .i64 0, by simp only [Rep], ?_⟩
  simp [builtin, Builtin.len_, hts, run_underlying ht, goInt]
 ·simp at h
end
section
variable {C : Cfg} {w w' : World} {S : Nat → Prop} {φ : aW} {a : Act} {env tl : Env} {mem : Mem} {nx id : Nat} {K : KD}
theorem bQ {o : Oper} {d : D} {r : Value} (hm : MSim S φ mem nx w) (hk : K d mem nx) (hr : Rep w S φ d r) (h : (execOp a.eval o).run C.P w = .ok (.value r) w) : fT C.P o a w (Out S φ mem nx w id K) :=
 cD h (DK hm hk hr)
theorem nG {lo : Option Operand} {ylo : Option Opd} {dlo : Option D} (hk : dH C w S φ env tl a) (h : C.opdo lo = some ylo) (hr : roo tl env ylo = some dlo) : iS w S φ dlo (lo.map a.eval) := by
 cases lo with
 | none =>
  simp only [Cfg.opdo, Option.some.injEq] at h; subst h
  simp only [roo, Option.some.injEq] at hr; subst hr
  trivial
 | some x =>
  simp only [Cfg.opdo] at h
  split at h
  ·rename_i y hy
   simp only [Option.some.injEq] at h; subst h
   simp only [roo] at hr
   split at hr
   ·rename_i d hd
    simp only [Option.some.injEq] at hr; subst hr
    exact aP hk hy hd
   ·simp at hr
  ·simp at h
theorem cT {α β : Type} {f : α → β} {o : Option α} {y : β} (h : o.map f = some y) : ∃ x, o = some x ∧ f x = y := by
 cases o with
 | none => simp at h
 | some x => exact ⟨x, rfl, by simpa using h⟩
theorem wM {l : List Operand} {x : Opd} (h : C.opds l = some [x]) : ∃ X, l = [X] ∧ C.opd X = some x := by
 cases l with
 | nil => simp [Cfg.opds] at h
 | cons X l =>
  simp only [Cfg.opds, List.mapM_cons, Option.bind_eq_bind, Option.bind_eq_some_iff, Option.pure_def, Option.some.injEq] at h
  obtain ⟨y, hy, ys, hys, e⟩ := h
  simp only [List.cons.injEq] at e
  obtain ⟨rfl, rfl⟩ := e
  cases l with
  | nil => exact ⟨X, rfl, hy⟩
  | cons Z l =>
   simp only [List.mapM_cons, Option.bind_eq_bind, Option.bind_eq_some_iff, Option.pure_def, Option.some.injEq] at hys
   obtain ⟨_, _, _, _, e⟩ := hys
   simp at e
theorem ED {l : List Operand} {x y : Opd} (h : C.opds l = some [x, y]) : ∃ X Y, l = [X, Y] ∧ C.opd X = some x ∧ C.opd Y = some y := by
 cases l with
 | nil => simp [Cfg.opds] at h
 | cons X l =>
  simp only [Cfg.opds, List.mapM_cons, Option.bind_eq_bind, Option.bind_eq_some_iff, Option.pure_def, Option.some.injEq] at h
  obtain ⟨z, hy, ys, hys, e⟩ := h
  simp only [List.cons.injEq] at e
  obtain ⟨rfl, rfl⟩ := e
  obtain ⟨Y, rfl, h2⟩ := wM (C := C) (l := l) hys
  exact ⟨X, Y, rfl, hy, h2⟩
theorem AT {dst : Option Tmp} {c : Call} {type : TypeId} {pos : String} {after : Array Edge} {guard : Option (Nat × Bool)} {own : Bool} {i : I} (hi : C.call own c.callee c.args.toList c.argTypes.toList = some i) (hs : aS C id i env tl mem nx K)
  (hk : dH C w S φ env tl a) (hm : MSim S φ mem nx w) (htb : TB C.P S w) (hid : φ id = none) (hlt : id < nx) : fT C.P ⟨dst, .call c, type, pos, after, guard⟩ a w (Out S φ mem nx w id K) := by
 simp only [Cfg.call, Option.bind_eq_bind, Option.bind_eq_some_iff] at hi
 obtain ⟨ys, hys, hi⟩ := hi
 split at hi
 ·rename_i X hc
  simp only [Option.bind_eq_some_iff, Option.some.injEq] at hi
  obtain ⟨y, hy, rfl⟩ := hi
  cases own with
  | false =>
   simp only [Bool.false_eq_true, if_false] at hs
   obtain ⟨g, caps, ds, r, hf, hds, hp, himm, hK⟩ := sM hs
   have hX := aP hk hy hf
   simp only [Rep] at hX
   obtain ⟨vs, hX, hcaps⟩ := hX
   have hargs := kM c.args.toList ys ds hk hys hds
   rcases hp with hp | hp
   ·refine t6 (by show (do let d ← resolve a.eval c type; invoke d.target d.args : Sem Next).run C.P w = _; exact vX hp.1 hc hX) ?_
    exact DV hp himm (dQ _ _ _ _ hargs hcaps) hm htb hK
   ·obtain ⟨v, hv, hrun⟩ := hp S φ w _ (dQ _ _ _ _ hargs hcaps)
    exact bQ hm hK hv (by show (do let d ← resolve a.eval c type; invoke d.target d.args : Sem Next).run C.P w = _; exact G6 hc hX hrun)
  | true =>
   simp only [if_true] at hs
   obtain ⟨g, caps, ds, hf, hds, hp⟩ := jG hs
   have hX := aP hk hy hf
   simp only [Rep] at hX
   obtain ⟨vs, hX, hcaps⟩ := hX
   have hargs := kM c.args.toList ys ds hk hys hds
   refine t6 (by show (do let d ← resolve a.eval c type; invoke d.target d.args : Sem Next).run C.P w = _; exact vX hp.1 hc hX) ?_
   refine (hp.2 S φ w _ hm htb (dQ _ _ _ _ hargs hcaps)).mono ?_
   rintro e w' ⟨v, d, mem', nx', S', φ', rfl, h1, h2, h3, h4, h5, h6, h7⟩
   exact ⟨v, rfl, d, mem', nx', S', φ', h1, h2, h4, h3, h5, h6, fun i _ hi hn => h7 i hi hn⟩
 ·simp at hi
 ·rename_i b hc
  have hrun : ∀ (xs : List Value) (r : Value) (w' : World), c.args.toList.map a.eval = xs → (builtin b c.argTypes type (c.args.map fun | .const _ => true | _ => false) xs.toArray).run C.P w = .ok (.value r) w' →
    (execOp a.eval ⟨dst, .call c, type, pos, after, guard⟩).run C.P w = .ok (.value r) w' := by
   intro xs r w' hxs hb
   have e : c.args.map a.eval = xs.toArray := by apply Array.ext'; simp [hxs]
   show (do let d ← resolve a.eval c type; invoke d.target d.args : Sem Next).run C.P w = _
   simp only [resolve, hc, Sem.run_bind, Sem.run_pure, Result.andThen_ok, invoke, e]
   exact hb
  split at hi
  ·rename_i x t ts hts
   have hts0 : c.argTypes[0]? = some t := by rw [← Array.getElem?_toList, hts]; rfl
   obtain ⟨X, hX, hy⟩ := wM hys
   split at hi
   ·rename_i hu
    simp only [Option.some.injEq] at hi; subst hi
    obtain ⟨d, r, h1, h2, h3⟩ := bN hs
    obtain ⟨v, hv, hl⟩ := s9 (ty := type) (ts := c.argTypes) (cs := c.args.map fun | .const _ => true | _ => false) hts0 (.inl ⟨rfl, hu⟩) h2 (aP hk hy h1) hm
    exact bQ hm h3 hv (hrun [a.eval X] v w (by rw [hX]; rfl) hl)
   ·rename_i e hu
    simp only [Option.some.injEq] at hi; subst hi
    obtain ⟨d, r, h1, h2, h3⟩ := bN hs
    obtain ⟨v, hv, hl⟩ := s9 (ty := type) (ts := c.argTypes) (cs := c.args.map fun | .const _ => true | _ => false) hts0 (.inr ⟨rfl, e, hu⟩) h2 (aP hk hy h1) hm
    exact bQ hm h3 hv (hrun [a.eval X] v w (by rw [hX]; rfl) hl)
   ·rename_i kt et hu
    simp only [Option.some.injEq] at hi; subst hi
    obtain ⟨d, r, h1, h2, h3⟩ := bN hs
    obtain ⟨v, hv, hl⟩ := CO (ty := type) (ts := c.argTypes) (cs := c.args.map fun | .const _ => true | _ => false) hts0 hu h2 (aP hk hy h1) hm
    exact bQ hm h3 hv (hrun [a.eval X] v w (by rw [hX]; rfl) hl)
   ·simp at hi
  ·rename_i x1 y1 t u ts hts
   have hts0 : c.argTypes[0]? = some t := by rw [← Array.getElem?_toList, hts]; rfl
   have hts1 : c.argTypes[1]? = some u := by rw [← Array.getElem?_toList, hts]; rfl
   obtain ⟨X, Y, hX, hx1, hy1⟩ := ED hys
   split at hi
   ·rename_i e e2 ht hu
    split at hi
    ·rename_i g k inf z hsz hinf hz
     simp only [Option.ite_none_right_eq_some, Option.some.injEq] at hi
     obtain ⟨⟨q1, q2, q3, q4⟩, rfl⟩ := hi
     obtain ⟨ds, inf', _, hinf', hsz', _⟩ := eC hsz
     have hA : App C.P k c.argTypes e inf z := ⟨⟨t, hts0, ht⟩, ⟨u, e2, hts1, hu⟩, hinf, by rw [hinf] at hinf'; rw [Option.some.inj hinf']; exact hsz', hz, q1, q2, q3, q4⟩
     cases own with
     | true =>
      simp only [if_true] at hs
      obtain ⟨d, m, h1, hK⟩ := cW hs
      cases hdx : ro tl env x1 with
      | none => simp [hdx, lX, gB] at h1
      | some dx =>
       cases hdy : ro tl env y1 with
       | none => rw [hdx, hdy] at h1; cases dx <;> simp [lX, gB] at h1
       | some dy =>
        rw [hdx, hdy] at h1
        obtain ⟨r, w', hr, hout⟩ := A8 (ty := type) hA h1 (aP hk hx1 hdx) (aP hk hy1 hdy) hm hid hlt hK
        refine cD (hrun [a.eval X, a.eval Y] r w' (by rw [hX]; rfl) ?_) hout
        simp only [builtin, Sem.run_bind, hr, Result.andThen_ok, Sem.run_pure]
     | false =>
      simp only [Bool.false_eq_true, if_false] at hs
      obtain ⟨d, m, h1, hK⟩ := cW hs
      cases hdx : ro tl env x1 with
      | none => simp [hdx, gB] at h1
      | some dx =>
       cases hdy : ro tl env y1 with
       | none => simp [hdx, hdy, gB] at h1
       | some dy =>
        rw [hdx, hdy] at h1
        obtain ⟨r, w', hr, hout⟩ := tB (ty := type) hA h1 (aP hk hx1 hdx) (aP hk hy1 hdy) hm hid hlt hK
        refine cD (hrun [a.eval X, a.eval Y] r w' (by rw [hX]; rfl) ?_) hout
        simp only [builtin, Sem.run_bind, hr, Result.andThen_ok, Sem.run_pure]
    ·simp at hi
   ·simp at hi
  all_goals
   first
   | (simp at hi; done)
   | (simp only [Option.some.injEq] at hi; subst hi
      obtain ⟨ds, r, h1, h2, h3⟩ := gR hs
      obtain ⟨v, hv, hl⟩ := E7 (ty := type) (ts := c.argTypes) (cs := c.args.map fun | .const _ => true | _ => false) h2 (kM _ _ _ hk hys h1)
      exact bQ hm h3 hv (hrun _ v w rfl hl))
theorem AK {X A B : Operand} {x aa bb : Opd} {o : Oper} (ho : o.op = .pick X A B) (hk : dH C w S φ env tl a) (hX : C.opd X = some x) (hA : C.opd A = some aa) (hB : C.opd B = some bb) (hm : MSim S φ mem nx w)
  (hs : k1 (ro tl env x) (kC (ro tl env aa) (ro tl env bb)) mem nx K) : fT C.P o a w (Out S φ mem nx w id K) := by
 obtain ⟨d, r, h1, h2, h3⟩ := bN hs
 have hx := aP hk hX h1
 cases d with
 | pl u =>
  simp only [Rep] at hx
  cases u with
  | bool c =>
   cases c with
   | true =>
    refine bQ hm h3 (aP hk hA h2) ?_
    unfold execOp; simp [ho, hx, asBool]
   | false =>
    refine bQ hm h3 (aP hk hB h2) ?_
    unfold execOp; simp [ho, hx, asBool]
  | _ => simp [kC] at h2
 | _ => simp [kC] at h2
theorem EA {dst : Option Tmp} {t e : TypeId} {len : Nat} {ps : Array (Nat × Operand)} {type : TypeId} {pos : String} {after : Array Edge} {guard : Option (Nat × Bool)} {own g : Bool} {k : Nat} {z : List Value} {q : List (Nat × Nat × Opd)}
  (ht : C.P.underlying t = some (.slice e)) (he : Program.tsz C.P e = some (g, k)) (hz : Program.zeroOf C.P e = some z) (h0 : len ≠ 0) (hlen : len * k ≤ 2 ^ 24) (hkp : 0 < k) (hzk : z.length = k) (hq : C.parts (fun i => some (i * k, k)) ps.toList = some q)
  (hs : aS C id (if own then .bso k len z q else .bsl k len z q) env tl mem nx K) (hk : dH C w S φ env tl a) (hm : MSim S φ mem nx w) (hid : φ id = none) (hlt : id < nx) : fT C.P ⟨dst, .buildSlice t len ps, type, pos, after, guard⟩ a w (Out S φ mem nx w id K) := by
 cases own with
 | false =>
  simp only [Bool.false_eq_true, if_false] at hs
  obtain ⟨ds, d, h1, h2, h3⟩ := gR hs
  obtain ⟨es, h4, rfl⟩ := cT h2
  obtain ⟨cs, hrun, hsz, hesl, _, out, hout, hol, rfl⟩ := CR (w := w) hk ht he hz h0 hlen hkp hzk hq h1 h4
  refine cD (x := .slice (some ⟨w.heap.size, 0, none⟩) len len) (w' := w.alloc (.cells cs e)) ?_ ?_
  ·unfold execOp; simp only [Sem.run_bind, hrun, Result.andThen_ok, Sem.run_pure]
  ·have hnew := dR (w := w) cs e (0, 0)
   obtain ⟨g1, g2, g3⟩ := jO hm (.cells cs e)
   refine ⟨_, mem, nx, _, φ, h3, Nat.le_refl _, ?_, g1, g2, g3, fun i _ _ hn => hn⟩
   simp only [Rep]
   exact .inr ⟨_, 0, len, k, by rw [fH], by rw [fH]; exact Nat.le_refl _, .inr rfl, mH k _ len out 0 hol (b_ _ _ _ _ (RepVs.mono g2 _ _ hout) hnew)⟩
 | true =>
  simp only [if_true] at hs
  obtain ⟨d, m, h1, h3⟩ := cW hs
  cases hr : rps tl env q with
  | none => simp [hr, oZ] at h1
  | some ds =>
   rw [hr] at h1
   simp only [oZ] at h1
   split at h1
   ·rename_i es h4
    simp only [Option.some.injEq, Prod.mk.injEq] at h1
    obtain ⟨rfl, rfl⟩ := h1
    obtain ⟨cs, hrun, hsz, hesl, _, out, hout, hol, rfl⟩ := CR (w := w) hk ht he hz h0 hlen hkp hzk hq hr h4
    refine cD (x := .slice (some ⟨w.heap.size, 0, none⟩) len len) (w' := w.alloc (.cells cs e)) ?_ ?_
    ·unfold execOp; simp only [Sem.run_bind, hrun, Result.andThen_ok, Sem.run_pure]
    ·have hnew := dR (w := w) cs e (0, 0)
     obtain ⟨φ', g1, g2, g3, g4, g5⟩ := h_ (l := ⟨true, true, w.heap.size, 0, k, 0, len * k⟩) (blk := .arr 0 k (eX k len out)) hm (.cells cs e) hid hlt rfl rfl (by
      intro φ' hst'
      simp only [BRep]
      exact ⟨trivial, trivial, trivial, .inr ⟨trivial, ⟨cs, e, eM _, hsz⟩, by rw [fH]; simp, mH k _ len out 0 hol (b_ _ _ _ _ (RepVs.mono hst' _ _ hout) hnew)⟩⟩)
     refine ⟨_, _, nx, S, φ', h3, Nat.le_refl _, ?_, g2, g3, g4, fun i hi _ hn => by rw [g5 i hi]; exact hn⟩
     simp only [Rep]
     exact ⟨_, g1, Nat.le_refl _, ⟨_, _, _, rfl⟩, fun _ => .inr (.inl ⟨rfl, len, by simp, Nat.le_refl _, by simp⟩)⟩
   ·simp at h1
theorem BH {e : TypeId} {u : ByteArray} (hm : MSim S φ mem nx w) (hk : K (.sl (e_ u.data.toList)) mem nx) : Out S φ mem nx w id K (.slice (some ⟨w.heap.size, 0, none⟩) u.size (grownCap w u.size 0 e))
  (w.drew.alloc (.cells (bytesRow u (grownCap w u.size 0 e)) e ((bytesRow u (grownCap w u.size 0 e)).size, (bytesRow u (grownCap w u.size 0 e)).size + 1))) := by
 obtain ⟨m1, m2, m3⟩ := MSim.of_heap (w := w) (w1 := w.drew) rfl rfl rfl rfl hm
 generalize hc : grownCap w u.size 0 e = cap
 have hcap : u.size ≤ cap := by rw [← hc]; exact grownCap_ge w u.size 0 e
 obtain ⟨g1, g2, g3⟩ := jO m1 (.cells (bytesRow u cap) e ((bytesRow u cap).size, (bytesRow u cap).size + 1))
 refine ⟨_, mem, nx, _, φ, hk, Nat.le_refl _, ?_, g1, m2.trans g2, m3.trans g3, fun i _ _ hn => hn⟩
 have hnew := dR (w := w.drew) (bytesRow u cap) e ((bytesRow u cap).size, (bytesRow u cap).size + 1)
 have hsz : u.size = (e_ u.data.toList).length := by unfold e_; rw [List.length_map, Array.length_toList]; rfl
 simp only [Rep]
 refine .inr ⟨w.heap.size, 0, cap, 1, by rw [← hsz], by rw [← hsz]; exact hcap, .inr rfl, eL _ _ _ _ (fun c hc => ?_) ?_⟩
 ·simp only [e_, List.mem_map] at hc
  obtain ⟨b, _, rfl⟩ := hc
  rfl
 ·have hfl : (e_ u.data.toList).flatten = u.data.toList.map fun b => D.pl (.int .u8 b.toNat) := by
   unfold e_
   generalize u.data.toList = l
   induction l with
   | nil => rfl
   | cons a l ih => simp [List.flatten_cons, ih]
  rw [hfl]
  refine b_ _ (u.data.toList.map fun b => Value.int .u8 b.toNat) _ _ ?_ ?_
  ·generalize u.data.toList = l
   induction l with
   | nil => simp [RepVs]
   | cons a l ih => simp only [List.map_cons, RepVs]; exact ⟨_, _, rfl, by simp [Rep], ih⟩
  ·have : (bytesRow u cap).toList = (u.data.toList.map fun b => Value.int .u8 b.toNat) ++ List.replicate (cap - u.size) (.int .u8 0) := by simp [bytesRow]
   rw [this] at hnew
   exact (jL hnew).1
theorem pR {b n : Nat} {c : Array Value} {t : TypeId} (h : w.heap[b]? = some (.cells c t (0, 0))) : (w.freeze ⟨b, n, none⟩ 1).heap[b]? = some (.cells c t (n, n + 1)) ∧ ∀ j, j ≠ b → (w.freeze ⟨b, n, none⟩ 1).heap[j]? = w.heap[j]? := by
 unfold World.freeze
 rw [if_neg (by decide)]
 refine ⟨?_, fun j hj => ?_⟩
 ·simp [Array.getElem?_modify, h]
 ·simp only [Array.getElem?_modify]
  rw [if_neg (fun g => hj g.symm)]
theorem xQ {b n : Nat} {c : Array Value} {t : TypeId} (h : w.heap[b]? = some (.cells c t (0, 0))) (j o : Nat) : (w.freeze ⟨b, n, none⟩ 1).cell? ⟨j, o, none⟩ = w.cell? ⟨j, o, none⟩ := by
 obtain ⟨h1, h2⟩ := pR (n := n) h
 unfold World.cell?
 by_cases g : j = b
 ·subst g; simp only [h1, h]
 ·simp only [h2 j g]
theorem xT {b n : Nat} : (w.freeze ⟨b, n, none⟩ 1).heap.size = w.heap.size := by
 unfold World.freeze
 rw [if_neg (by decide)]
 simp
theorem BF {s e : TypeId} (hs : C.P.underlying s = some (.slice e)) (he : C.P.underlying e = some (.int .u8)) {i ver : Nat} {es : List (List D)} {v : Value} (hl : look mem i = some (.arr ver 1 es)) (hne : es ≠ []) (hx : Rep w S φ (.osl i ver 0 es.length) v) (hm : MSim S φ mem nx w) :
  ∃ w' S' φ', (convert s s v).run C.P w = .ok v w' ∧ Rep w' S' φ' (.sl es) v ∧ MSim S' φ' (upd mem i (.arr (ver + 1) 1 [])) nx w' ∧ Stays w S φ w' S' φ' ∧ Ext S φ mem w S' φ' (upd mem i (.arr (ver + 1) 1 [])) w' ∧ ∀ j, φ j = none → φ' j = none := by
 obtain ⟨l, hφ, hnS, hB⟩ := hm.mem i _ hl
 simp only [BRep] at hB
 obtain ⟨ha, hv, hk, hB⟩ := hB
 rcases hB with ⟨_, rfl⟩ | ⟨hreal, ⟨c, t, hc, hcs⟩, hsz, hes⟩
 ·exact absurd rfl hne
 simp only [Rep] at hx
 obtain ⟨l', hφ', _, _, hx⟩ := hx
 rw [hφ] at hφ'
 simp only [Option.some.injEq] at hφ'
 subst hφ'
 rcases hx hv with ⟨hr, _⟩ | ⟨_, cap, rfl, hcap, hroom⟩ | ⟨_, _, g, _⟩
 rotate_right
 ·omega
 ·rw [hreal] at hr; simp at hr
 have hi : i < nx := by
  rcases Nat.lt_or_ge i nx with g | g
  ·exact g
  ·rw [hm.fresh i g] at hφ; simp at hφ
 simp only [Nat.zero_mul, Nat.add_zero] at *
 have hsh : w.shape? l.b = some (t, c.size) := by unfold World.shape?; rw [hc]
 obtain ⟨f1, f2⟩ := pR (n := c.size) hc
 have hcell := fun j o => xQ (n := c.size) hc j o
 have hsize : (w.freeze ⟨l.b, c.size, none⟩ 1).heap.size = w.heap.size := xT
 have hst : Stays w S φ (w.freeze ⟨l.b, c.size, none⟩ 1) (fun b => S b ∨ b = l.b) (fun j => if j = i then some { l with real := false, ver := l.ver + 1 } else φ j) :=
  ⟨fun b hb => .inl hb, fun b _ o => hcell b o, fun j m hj => by
   by_cases g : j = i
   ·subst g
    rw [hφ] at hj
    simp only [Option.some.injEq] at hj
    subst hj
    exact ⟨_, if_pos rfl, .inr ⟨ha, ha, Nat.lt_succ_self _⟩⟩
   ·exact ⟨m, (if_neg g).trans hj, .inl rfl⟩⟩
 refine ⟨w.freeze ⟨l.b, c.size, none⟩ 1, _, _, ?_, ?_, ⟨?_, ?_, ?_, ?_, ?_⟩, hst, ⟨fun b hb => .inl hb, ?_, Nat.le_of_eq hsize.symm, ?_, ?_, ?_, ?_, ?_⟩, ?_⟩
 ·simp [convert, run_underlying hs, run_underlying he, markStringish, hsh]
 ·simp only [Rep]
  refine .inr ⟨l.b, l.base, cap, 1, rfl, hcap, .inr rfl, ?_⟩
  exact RepEs.mono hst es 1 l.b l.base (fun o => hcell l.b o) hes
 ·intro j blk hj
  by_cases g : j = i
  ·subst g
   rw [nQ _ _ _ _ hl] at hj
   simp only [Option.some.injEq] at hj
   subst hj
   exact ⟨_, if_pos rfl, fun h => by simp at h, by simp [BRep, ha, hv, hk]⟩
  ·rw [aZ _ g] at hj
   obtain ⟨m, g1, g2, g3⟩ := hm.mem j blk hj
   have hne2 : m.real = true → m.b ≠ l.b := fun hr e => g (hm.inj j i m l g1 hφ hr hreal e)
   refine ⟨m, (if_neg g).trans g1, fun hr hb => hb.elim (g2 hr) (hne2 hr), g3.mono hst fun hr => f2 _ (hne2 hr)⟩
 ·intro j k m n h1 h2 r1 r2 e
  replace h1 : (if j = i then some { l with real := false, ver := l.ver + 1 } else φ j) = some m := h1
  replace h2 : (if k = i then some { l with real := false, ver := l.ver + 1 } else φ k) = some n := h2
  by_cases g : j = i
  ·rw [if_pos g] at h1
   simp only [Option.some.injEq] at h1
   subst h1
   simp at r1
  ·by_cases g2 : k = i
   ·rw [if_pos g2] at h2
    simp only [Option.some.injEq] at h2
    subst h2
    simp at r2
   ·rw [if_neg g] at h1
    rw [if_neg g2] at h2
    exact hm.inj j k m n h1 h2 r1 r2 e
 ·intro j m h1 r
  replace h1 : (if j = i then some { l with real := false, ver := l.ver + 1 } else φ j) = some m := h1
  by_cases g : j = i
  ·rw [if_pos g] at h1
   simp only [Option.some.injEq] at h1
   subst h1
   simp at r
  ·rw [if_neg g] at h1
   rw [hsize]; exact hm.lt j m h1 r
 ·intro j hj
  show (if j = i then _ else φ j) = none
  rw [if_neg (by omega)]
  exact hm.fresh j hj
 ·intro b hb
  rw [hsize]
  rcases hb with hb | rfl
  ·exact hm.sub b hb
  ·exact hm.lt i l hφ hreal
 ·intro b hb ho
  exact f2 b (fun e => ho ⟨i, _, l, hl, hφ, hreal, e.symm⟩)
 ·rintro b hb ⟨j, blk, m, g1, g2, g3, g4⟩
  replace g2 : (if j = i then some { l with real := false, ver := l.ver + 1 } else φ j) = some m := g2
  by_cases g : j = i
  ·rw [if_pos g] at g2
   simp only [Option.some.injEq] at g2
   subst g2
   simp at g3
  ·rw [if_neg g] at g2
   rw [aZ _ g] at g1
   exact ⟨j, blk, m, g1, g2, g3, g4⟩
 ·rintro b (hb | rfl)
  ·exact .inl hb
  ·exact .inr (.inr ⟨i, _, l, hl, hφ, hreal, rfl⟩)
 ·unfold World.freeze; rw [if_neg (by decide)]
 ·unfold World.freeze; rw [if_neg (by decide)]
 ·unfold World.freeze; rw [if_neg (by decide)]
 ·intro j hj
  show (if j = i then _ else φ j) = none
  by_cases g : j = i
  ·subst g; rw [hφ] at hj; simp at hj
  ·rw [if_neg g]; exact hj
theorem zO {o : Oper} {own : Bool} {i : I} (hi : C.op own o.op = some i) (hs : aS C id i env tl mem nx K) (hk : dH C w S φ env tl a) (hm : MSim S φ mem nx w) (htb : TB C.P S w) (hid : φ id = none) (hlt : id < nx) :
  fT C.P o a w (Out S φ mem nx w id K) := by
 obtain ⟨dst, op, type, pos, after, guard⟩ := o
 cases op with
 | move x =>
  obtain ⟨y, hy, rfl⟩ := cT hi
  obtain ⟨d, h1, h2⟩ := fZ hs
  exact bQ hm h2 (aP hk hy h1) (by unfold execOp; simp)
 | assign x =>
  obtain ⟨y, hy, rfl⟩ := cT hi
  obtain ⟨d, h1, h2⟩ := fZ hs
  exact bQ hm h2 (aP hk hy h1) (by unfold execOp; simp)
 | pick x y z =>
  simp only [Cfg.op, Option.bind_eq_bind, Option.bind_eq_some_iff, Option.some.injEq] at hi
  obtain ⟨x', hx, y', hy, z', hz, rfl⟩ := hi
  exact AK rfl hk hx hy hz hm hs
 | alloc e =>
  obtain ⟨z, hz, rfl⟩ := cT hi
  exact DL rfl hz hm hid hlt hs
 | box e x =>
  obtain ⟨y, hy, hi⟩ := cT hi
  cases own with
  | true =>
   simp only [if_true] at hi; subst hi
   obtain ⟨d, m, h1, h2⟩ := cW hs
   cases hd : ro tl env y with
   | none => simp [hd, bxM] at h1
   | some dd =>
    rw [hd] at h1
    simp only [bxM, Option.ite_none_right_eq_some, Option.some.injEq, Prod.mk.injEq] at h1
    obtain ⟨h3, rfl, rfl⟩ := h1
    exact DQ rfl h3 (aP hk hy hd) hm hid hlt h2
  | false =>
   simp only [Bool.false_eq_true, if_false] at hi; subst hi
   obtain ⟨d, r, h1, h2, h3⟩ := bN hs
   simp only [bxiD, Option.ite_none_right_eq_some, Option.some.injEq] at h2
   obtain ⟨h4, rfl⟩ := h2
   exact BG rfl h4 (aP hk hy h1) hm h3
 | build t ps =>
  simp only [Cfg.op] at hi
  split at hi
  ·rename_i z fs hz ht
   simp only [Option.ite_none_right_eq_some] at hi
   obtain ⟨hall, hi⟩ := hi
   obtain ⟨q, hq, rfl⟩ := cT hi
   obtain ⟨ds, r, h1, h2, h3⟩ := gR hs
   obtain ⟨v, hv, hrun⟩ := AQ (w := w) (S := S) (φ := φ) hk hz ht hall hq h1 h2
   exact bQ hm h3 hv (by unfold execOp; simp only [Sem.run_bind, hrun, Result.andThen_ok, Sem.run_pure])
  ·rename_i z len e hz ht
   split at hi
   ·rename_i g k he
    obtain ⟨q, hq, rfl⟩ := cT hi
    obtain ⟨ds, r, h1, h2, h3⟩ := gR hs
    obtain ⟨v, hv, hrun⟩ := B1 (w := w) (S := S) (φ := φ) hk hz ht he hq h1 h2
    exact bQ hm h3 hv (by unfold execOp; simp only [Sem.run_bind, hrun, Result.andThen_ok, Sem.run_pure])
   ·simp at hi
  ·simp at hi
 | buildSlice t len ps =>
  simp only [Cfg.op] at hi
  split at hi
  ·rename_i e ht
   split at hi
   ·rename_i g k z he hz
    split at hi
    ·rename_i h0
     simp only [Option.ite_none_right_eq_some, Option.some.injEq] at hi
     obtain ⟨hps, rfl⟩ := hi
     obtain ⟨ds, inf, _, hinf, hsz, _⟩ := eC he
     have hp : ps = #[] := by simpa using hps
     subst h0 hp
     obtain ⟨g1, g2, g3⟩ := jO hm (.cells #[] e)
     refine cD (x := .slice (some ⟨w.heap.size, 0, none⟩) 0 0) (w' := w.alloc (.cells #[] e)) ?_ ⟨_, mem, nx, _, φ, hs, Nat.le_refl _, ?_, g1, g2, g3, fun i _ _ hn => hn⟩
     ·unfold execOp
      have hemp : ∀ f : Nat → Value, Array.map f (Array.range 0) = #[] := by intro f; simp
      simp only [Instr.buildSlice, Sem.run_bind, run_underlying ht, Result.andThen_ok, cI hinf, Nat.zero_mul]
      rw [if_neg (by omega)]
      simp only [if_true, Sem.run_bind, Sem.run_pure, Result.andThen_ok, hemp]
      simp only [Array.map_empty, Instr.fill, Sem.run_bind, newRow, run_newObj, Result.andThen_ok, Sem.run_pure]
      rfl
     ·simp only [Rep]
      exact .inr ⟨_, rfl⟩
    ·rename_i h0
     simp only [Option.ite_none_right_eq_some] at hi
     obtain ⟨⟨h1, h2, h3⟩, hi⟩ := hi
     obtain ⟨q, hq, rfl⟩ := cT hi
     exact EA ht he hz h0 h1 h2 h3 hq hs hk hm hid hlt
   ·simp at hi
  ·simp at hi
 | load t x =>
  simp only [Cfg.op] at hi
  split at hi
  ·rename_i g n ht
   obtain ⟨y, hy, rfl⟩ := cT hi
   obtain ⟨d, r, h1, h2, h3⟩ := bN hs
   obtain ⟨v, hv, hrun⟩ := wS ht h2 hm (aP hk hy h1)
   exact bQ hm h3 hv (by unfold execOp; simp only [Sem.run_bind, hrun, Result.andThen_ok, Sem.run_pure])
  ·simp at hi
 | store t x y =>
  simp only [Cfg.op] at hi
  split at hi
  ·rename_i g n ht
   simp only [Option.bind_eq_bind, Option.bind_eq_some_iff, Option.some.injEq] at hi
   obtain ⟨x', hx, y', hy, rfl⟩ := hi
   obtain ⟨d, m, h1, h2⟩ := cW hs
   cases hdx : ro tl env x' with
   | none => simp [hdx, stM] at h1
   | some dx =>
    cases hdy : ro tl env y' with
    | none => simp [hdx, hdy, stM] at h1
    | some dy =>
     rw [hdx, hdy] at h1
     simp only [stM] at h1
     split at h1
     ·rename_i m' hw
      simp only [Option.some.injEq, Prod.mk.injEq] at h1
      obtain ⟨rfl, rfl⟩ := h1
      obtain ⟨w', hrun, g1, g2, g3⟩ := BR ht hw hm (aP hk hx hdx) (aP hk hy hdy)
      refine tP (w' := w') (by unfold execOp; simp only [Sem.run_bind, hrun, Result.andThen_ok, Sem.run_pure]) ⟨_, _, nx, S, φ, h2, Nat.le_refl _, by simp [Rep], g1, g2, g3, fun _ _ _ h => h⟩
     ·simp at h1
  ·simp at hi
 | nilCheck x =>
  obtain ⟨y, hy, rfl⟩ := cT hi
  obtain ⟨d, r, h1, h2, h3⟩ := bN hs
  obtain ⟨v, hv, hrun⟩ := CD (C := C) (o := ⟨dst, .nilCheck x, type, pos, after, guard⟩) rfl h2 (aP hk hy h1)
  exact bQ hm h3 hv hrun
 | binOp b t x y yt =>
  simp only [Cfg.op, Option.bind_eq_bind, Option.bind_eq_some_iff, Option.some.injEq] at hi
  obtain ⟨x', hx, y', hy, rfl⟩ := hi
  obtain ⟨dx, dy, r, h1, h2, h3, h4⟩ := e7 hs
  obtain ⟨v, hv, hrun⟩ := B7 (X := x) (Y := y) h3 (aP hk hx h1) (aP hk hy h2)
  exact bQ hm h4 hv (by unfold execOp; simp only [Sem.run_bind] at hrun ⊢; simp only [hrun, Result.andThen_ok, Sem.run_pure])
 | unOp u t x =>
  obtain ⟨y, hy, rfl⟩ := cT hi
  obtain ⟨d, r, h1, h2, h3⟩ := bN hs
  obtain ⟨v, hv, hrun⟩ := EQ h2 (aP hk hy h1)
  exact bQ hm h3 hv (by unfold execOp; simp only [Sem.run_bind, hrun, Result.andThen_ok, Sem.run_pure])
 | convert s t x =>
  simp only [Cfg.op] at hi
  split at hi
  ·rename_i hc
   simp only [Bool.and_eq_true, beq_iff_eq] at hc
   obtain ⟨_, rfl, hb⟩ := hc
   obtain ⟨e, g1, g2⟩ := lZ hb
   obtain ⟨y, hy, rfl⟩ := cT hi
   obtain ⟨d, m, h1, h2⟩ := cW hs
   cases hd : ro tl env y with
   | none => simp [hd, nT] at h1
   | some dd =>
    rw [hd] at h1
    have hx := aP hk hy hd
    unfold nT at h1
    split at h1
    ·rename_i i ver n heq
     simp only [Option.some.injEq] at heq
     subst heq
     split at h1
     ·rename_i v k es hl
      split at h1
      ·rename_i hcc
       obtain ⟨⟨rfl, rfl, rfl⟩, hne⟩ := hcc
       simp only [Option.some.injEq, Prod.mk.injEq] at h1
       obtain ⟨rfl, rfl⟩ := h1
       obtain ⟨w', S', φ', hrun, q1, q2, q3, q4, q5⟩ := BF g1 g2 hl (by intro h; subst h; simp at hne) hx hm
       exact cD (by unfold execOp; simp only [Sem.run_bind, hrun, Result.andThen_ok, Sem.run_pure]) ⟨_, _, nx, S', φ', h2, Nat.le_refl _, q1, q2, q3, q4, fun j _ _ hj => q5 j hj⟩
      ·simp at h1
     ·simp at h1
    ·simp at h1
  obtain ⟨y, hy, rfl⟩ := cT hi
  obtain ⟨d, r, h1, h2, h3⟩ := bN hs
  rcases E0 h2 (aP hk hy h1) with ⟨v, hv, hrun⟩ | ⟨u, e, hu, k1, k2, k3, rfl⟩
  ·exact bQ hm h3 hv (by unfold execOp; simp only [Sem.run_bind, hrun, Result.andThen_ok, Sem.run_pure])
  ·have hrun := run_bytes_of_string (P := C.P) w s t e u k1 k2 k3
   rw [← hu] at hrun
   exact cD (x := .slice (some ⟨w.heap.size, 0, none⟩) u.size (grownCap w u.size 0 e))
    (w' := w.drew.alloc (.cells (bytesRow u (grownCap w u.size 0 e)) e ((bytesRow u (grownCap w u.size 0 e)).size, (bytesRow u (grownCap w u.size 0 e)).size + 1)))
    (by unfold execOp; simp only [Sem.run_bind, hrun, Result.andThen_ok, Sem.run_pure]) (BH hm h3)
 | makeFunc fn first caps =>
  cases fn with
  | func f =>
   simp only [Cfg.op, Option.ite_none_right_eq_some] at hi
   obtain ⟨hf, hi⟩ := hi
   obtain ⟨ys, hys, rfl⟩ := cT hi
   obtain ⟨ds, r, h1, h2, h3⟩ := gR hs
   simp only [mkfD, Option.some.injEq] at h2; subst h2
   have hfe : first = #[] := by simpa using hf
   subst hfe
   refine bQ (r := .func (.func f) #[] (caps.map a.eval)) hm h3 ?_ ?_
   ·simp only [Rep]
    exact ⟨_, rfl, by simpa using kM _ _ _ hk hys h1⟩
   ·unfold execOp; simp [Instr.makeFunc]
  | _ => simp [Cfg.op] at hi
 | makeSlice t l c =>
  simp only [Cfg.op] at hi
  split at hi
  ·rename_i e ht
   have fin : ∀ (g : Bool) (k : Nat) (inf : TypeInfo) (z : List Value) (y : Opd), Program.tsz C.P e = some (g, k) → C.P.info? e = some inf → Program.zeroOf C.P e = some z → 0 < k → z.length = k → 0 < inf.bytes → C.opd l = some y → a.eval l = a.eval c →
     i = (if own then .mks k inf.bytes z y else .mki k inf.bytes z y) → fT C.P ⟨dst, .makeSlice t l c, type, pos, after, guard⟩ a w (Out S φ mem nx w id K) := by
    intro g k inf z y he hinf hz hkp hzk hb hy hlc hi'
    subst hi'
    cases own with
    | true =>
     simp only [if_true] at hs
     obtain ⟨d, m, h1, h2⟩ := cW hs
     unfold mksM at h1
     split at h1
     ·rename_i n hro
      simp only [Option.ite_none_right_eq_some, Option.some.injEq, Prod.mk.injEq] at h1
      obtain ⟨⟨h3, h4⟩, rfl, rfl⟩ := h1
      have hv := aP hk hy hro
      simp only [Rep] at hv
      exact BP rfl ht he hinf hz hkp hzk hb hv (by rw [← hlc]; exact hv) h3 h4 hm hid hlt h2
     ·simp at h1
    | false =>
     simp only [Bool.false_eq_true, if_false] at hs
     obtain ⟨d, r, h1, h2, h3⟩ := bN hs
     unfold mkiD at h2
     split at h2
     ·rename_i n
      simp only [Option.ite_none_right_eq_some, Option.some.injEq] at h2
      obtain ⟨⟨h4, h5⟩, rfl⟩ := h2
      have hv := aP hk hy h1
      simp only [Rep] at hv
      exact CJ rfl ht he hinf hz hkp hzk hb hv (by rw [← hlc]; exact hv) h4 h5 hm h3
     ·simp at h2
   split at hi
   ·rename_i g k inf z i1 i2 he hinf hz
    simp only [Option.ite_none_right_eq_some] at hi
    obtain ⟨⟨rfl, h2, h3, h4⟩, hi⟩ := hi
    obtain ⟨y, hy, hi⟩ := cT hi
    exact fin g k inf z y he hinf hz h2 h3 h4 hy rfl hi.symm
   ·rename_i g k inf z i1 i2 he hinf hz
    simp only [Option.ite_none_right_eq_some] at hi
    obtain ⟨⟨rfl, h2, h3, h4⟩, hi⟩ := hi
    obtain ⟨y, hy, hi⟩ := cT hi
    exact fin g k inf z y he hinf hz h2 h3 h4 hy rfl hi.symm
   ·simp at hi
  ·simp at hi
 | slice t x lo hi' mx =>
  cases mx with
  | some m => simp [Cfg.op] at hi
  | none =>
   simp only [Cfg.op] at hi
   have hopt : ∀ (yx : Opd) (ylo yhi : Option Opd) (s : Bool) (k : Nat) (d : D), slsO mem s k (ro tl env yx) (roo tl env ylo) (roo tl env yhi) = some d →
     ∃ dx dlo dhi, ro tl env yx = some dx ∧ roo tl env ylo = some dlo ∧ roo tl env yhi = some dhi ∧ gQ mem s k dx dlo dhi = some d := by
    intro yx ylo yhi s k d h
    unfold slsO at h
    split at h
    ·exact ⟨_, _, _, by assumption, by assumption, by assumption, h⟩
    ·simp at h
   split at hi
   ·rename_i ht
    simp only [Option.bind_eq_bind, Option.bind_eq_some_iff, Option.some.injEq] at hi
    obtain ⟨yx, hyx, ylo, hylo, yhi, hyhi, rfl⟩ := hi
    obtain ⟨d, h1, h2⟩ := fZ hs
    obtain ⟨dx, dlo, dhi, e1, e2, e3, h3⟩ := hopt _ _ _ _ _ _ h1
    obtain ⟨v, hv, hrun⟩ := AB (C := C) ht h3 (aP hk hyx e1) (nG hk hylo e2) (nG hk hyhi e3)
    exact bQ hm h2 hv (by unfold execOp; simp only [Sem.run_bind, Option.map_none, hrun, Result.andThen_ok, Sem.run_pure])
   ·rename_i e ht
    split at hi
    ·rename_i g k he
     simp only [Option.bind_eq_bind, Option.bind_eq_some_iff, Option.some.injEq] at hi
     obtain ⟨yx, hyx, ylo, hylo, yhi, hyhi, rfl⟩ := hi
     obtain ⟨d, h1, h2⟩ := fZ hs
     obtain ⟨dx, dlo, dhi, e1, e2, e3, h3⟩ := hopt _ _ _ _ _ _ h1
     obtain ⟨v, hv, hrun⟩ := B_ ht he h3 (aP hk hyx e1) (nG hk hylo e2) (nG hk hyhi e3) hm
     exact bQ hm h2 hv (by unfold execOp; simp only [Sem.run_bind, Option.map_none, hrun, Result.andThen_ok, Sem.run_pure])
    ·simp at hi
   ·simp at hi
 | fieldAddr s x f =>
  simp only [Cfg.op] at hi
  split at hi
  ·rename_i fs hs'
   split at hi
   ·rename_i fd hf
    split at hi
    ·rename_i g n ht
     split at hi
     ·simp at hi
     ·rename_i hn
      obtain ⟨y, hy, rfl⟩ := cT hi
      obtain ⟨d, r, h1, h2, h3⟩ := bN hs
      obtain ⟨v, hv, hrun⟩ := E3 hs' hf ht hn h2 (aP hk hy h1) hm
      exact bQ hm h3 hv (by unfold execOp; simp only [Sem.run_bind, hrun, Result.andThen_ok, Sem.run_pure])
    ·simp at hi
   ·simp at hi
  ·simp at hi
 | field s x f =>
  simp only [Cfg.op] at hi
  split at hi
  ·rename_i fs hs'
   split at hi
   ·rename_i fd hf
    split at hi
    ·rename_i g n ht
     obtain ⟨y, hy, rfl⟩ := cT hi
     obtain ⟨d, r, h1, h2, h3⟩ := bN hs
     obtain ⟨v, hv, hrun⟩ := B8 hs' hf ht h2 (aP hk hy h1)
     exact bQ hm h3 hv (by unfold execOp; simp only [Sem.run_bind, hrun, Result.andThen_ok, Sem.run_pure])
    ·simp at hi
   ·simp at hi
  ·simp at hi
 | indexAddr t x y =>
  simp only [Cfg.op] at hi
  split at hi
  ·rename_i e ht
   split at hi
   ·rename_i g k he
    simp only [Option.bind_eq_bind, Option.bind_eq_some_iff, Option.some.injEq] at hi
    obtain ⟨x', hx, y', hy, rfl⟩ := hi
    obtain ⟨dx, dy, r, h1, h2, h3, h4⟩ := e7 hs
    obtain ⟨v, hv, hrun⟩ := DI ht he h3 (aP hk hx h1) (aP hk hy h2) hm
    exact bQ hm h4 hv (by unfold execOp; simp only [Sem.run_bind, hrun, Result.andThen_ok, Sem.run_pure])
   ·simp at hi
  ·split at hi
   ·rename_i g k he
    simp only [Option.bind_eq_bind, Option.bind_eq_some_iff, Option.some.injEq] at hi
    obtain ⟨x', hx, y', hy, rfl⟩ := hi
    obtain ⟨dx, dy, r, h1, h2, h3, h4⟩ := e7 hs
    obtain ⟨v, hv, hrun⟩ := CY (by assumption) he h3 (aP hk hx h1) (aP hk hy h2) hm
    exact bQ hm h4 hv (by unfold execOp; simp only [Sem.run_bind, hrun, Result.andThen_ok, Sem.run_pure])
   ·simp at hi
  ·simp at hi
 | index t x y =>
  simp only [Cfg.op] at hi
  split at hi
  ·rename_i ht
   simp only [Option.bind_eq_bind, Option.bind_eq_some_iff, Option.some.injEq] at hi
   obtain ⟨x', hx, y', hy, rfl⟩ := hi
   obtain ⟨dx, dy, r, h1, h2, h3, h4⟩ := e7 hs
   obtain ⟨v, hv, hrun⟩ := BA (C := C) ht h3 (aP hk hx h1) (aP hk hy h2)
   exact bQ hm h4 hv (by unfold execOp; simp only [Sem.run_bind, hrun, Result.andThen_ok, Sem.run_pure])
  ·simp at hi
 | makeMap t r =>
  cases r with
  | some r => simp [Cfg.op] at hi
  | none =>
   simp only [Cfg.op] at hi
   split at hi
   ·simp only [Option.some.injEq] at hi; subst hi
    exact CE (t := t) (kt := 0) (et := 0) rfl hm hid hlt hs
   ·simp at hi
 | lookup t x y two =>
  simp only [Cfg.op] at hi
  split at hi
  ·rename_i kt et ht
   split at hi
   ·rename_i kd inf hkd hinf
    split at hi
    ·rename_i z hz
     simp only [Option.bind_eq_bind, Option.bind_eq_some_iff, Option.some.injEq] at hi
     obtain ⟨x', hx, y', hy, rfl⟩ := hi
     obtain ⟨dx, dy, r, h1, h2, h3, h4⟩ := e7 hs
     obtain ⟨v, hv, hrun⟩ := FA ht hkd hinf hz h3 (aP hk hx h1) (aP hk hy h2) hm
     exact bQ hm h4 hv (by unfold execOp; simp only [Sem.run_bind, hrun, Result.andThen_ok, Sem.run_pure])
    ·simp at hi
   ·simp at hi
  ·simp at hi
 | mapUpdate t x y z | insert t x y z =>
  simp only [Cfg.op] at hi
  split at hi
  ·rename_i kt et ht
   split at hi
   ·rename_i kd hkd
    simp only [Option.bind_eq_bind, Option.bind_eq_some_iff, Option.some.injEq] at hi
    obtain ⟨x', hx, y', hy, z', hz, rfl⟩ := hi
    obtain ⟨d, m, h1, h2⟩ := cW hs
    cases hdx : ro tl env x' with
    | none => simp [hdx, kR] at h1
    | some dx =>
     cases hdy : ro tl env y' with
     | none => simp [hdy, kR] at h1
     | some dy =>
      cases hdz : ro tl env z' with
      | none => simp [hdz, kR] at h1
      | some dz =>
       rw [hdx, hdy, hdz] at h1
       obtain ⟨w', hrun, g1, g2, g3, rfl⟩ := A7 ht hkd h1 (aP hk hx hdx) (aP hk hy hdy) (aP hk hz hdz) hm
       refine tP (w' := w') (by unfold execOp; simp only [Sem.run_bind, hrun, Result.andThen_ok, Sem.run_pure]) ⟨_, _, nx, S, φ, h2, Nat.le_refl _, by simp [Rep], g1, g2, g3, fun _ _ _ h => h⟩
   ·simp at hi
  ·simp at hi
 | extract x j =>
  obtain ⟨y, hy, rfl⟩ := cT hi
  obtain ⟨d, r, h1, h2, h3⟩ := bN hs
  obtain ⟨v, hv, hrun⟩ := A5 (C := C) h2 (aP hk hy h1)
  exact bQ hm h3 hv (by unfold execOp; simp only [Sem.run_bind, hrun, Result.andThen_ok, Sem.run_pure])
 | call c => exact AT hi hs hk hm htb hid hlt
 | _ => simp [Cfg.op] at hi
end
end Go.Fx

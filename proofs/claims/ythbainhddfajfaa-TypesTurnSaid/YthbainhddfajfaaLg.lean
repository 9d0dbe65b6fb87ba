/-
  Layer 7: what awake reads.
-/
import Derived.Test.YthbainhddfajfaaCodeL7
import Derived.Test.YthbainhddfajfaaRfA
set_option linter.all false
set_option maxRecDepth 100000
set_option maxHeartbeats 4000000
namespace Go.Fx.Ythbainhddfajfaa
open Go Go.Fx Go.Proofs Go.Fx.Flt
theorem read_at (t : List UInt8) (ht : t.length ≤ 32768) (hm : (marksL t).2 < 0) {n : Nat} (hN : n ≤ 2 ^ 40) {L : List Fn} {q : Rd} (hp : progF n [] (rd0 t 32768 32768 32768 32768) = some (L, q)) (hw : q.why = 0) (hlt : q.at' < (marksL t).1.length) : ReadAs t L 0 0 := by
  have hk := rd0_ok (t := t) (lt := 32768) (lF := 32768) (lA := 32768) (lN := 32768) (by omega) hm (by decide)
  have hc := Parse_ok t ht hm hN hp
  rw [if_pos hw] at hc
  obtain ⟨g1, g2, k, g3, g4, g5⟩ := made_prog _ _ _ L q hp hw
  simp only [List.nil_append] at g3
  subst g3
  refine ⟨hc, fun _ => ⟨(marksL t).1, 0, q.at', hk.ms, hk.len, ?_, hlt, g4, g5 rfl⟩, fun h => absurd rfl h⟩
  exact marksF_rising _ t 0 [] (by omega) (fun i j _ h => by simp at h) (fun i h => by simp at h) hm
def t1 : List UInt8 := [102, 40, 120, 32, 78, 41, 58, 66, 61, 120, 61, 61, 49, 59]
def t2 : List UInt8 := [102, 40, 120, 32, 66, 41, 58, 78, 61, 120, 43, 49, 59]
theorem tt1 : (marksL t1).2 < 0 := by decide
end Go.Fx.Ythbainhddfajfaa

import Derived.Test.YtjfiklflmnhbdaaCodeRows
import Derived.Test.YtjfiklflmnhbdaaRW3
set_option linter.all false
namespace Go.Fx.Ytjfiklflmnhbdaa
open Go Go.Fx Go.Proofs Go.Fx.Rows

section
variable {n m : Int} {l k : List Int}
theorem Join_yes (h : Two n l m k) : Pure Try.prog 30 [row n l, row m k] (tup2 n (jn l k) 0) := by
  have := Join_c n m l k; rwa [bothF, if_pos h] at this
theorem Join_no (h : ¬ Two n l m k) : Pure Try.prog 30 [row n l, row m k] (tup2 0 [] 3) := by
  have := Join_c n m l k; rwa [bothF, if_neg h] at this
theorem Meet_yes (h : Two n l m k) : Pure Try.prog 31 [row n l, row m k] (tup2 n (mt l k) 0) := by
  have := Meet_c n m l k; rwa [bothF, if_pos h] at this
theorem Meet_no (h : ¬ Two n l m k) : Pure Try.prog 31 [row n l, row m k] (tup2 0 [] 3) := by
  have := Meet_c n m l k; rwa [bothF, if_neg h] at this
end
theorem good_len {n : Int} {l : List Int} (h : Good n l) : l.length ≤ 128 := by have := h.2.1; have := h.2.2.1; omega
theorem good_same {n : Int} {l k : List Int} (h : Good n l) (g : Good n k) : l.length = k.length := by have := h.2.2.1; have := g.2.2.1; omega

end Go.Fx.Ytjfiklflmnhbdaa

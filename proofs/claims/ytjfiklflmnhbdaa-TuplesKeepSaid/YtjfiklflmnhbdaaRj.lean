import Derived.Test.YtjfiklflmnhbdaaRi
import Derived.Test.YtjfiklflmnhbdaaRh
set_option linter.all false
namespace Go.Fx.Ytjfiklflmnhbdaa
open Go Go.Fx Go.Proofs Go.Fx.Rows
section
variable {n m : Int} {l k : List Int}
theorem good_ok (w : AllW l) : Good n l ↔ CellsOk n l := good_cells (n := n) fun u hu => Wwf (w u hu)
theorem Cells_y (w : AllW l) (g : Good n l) : Pure Try.prog 41 [row n l] (.tup [.sl (em encI (cl n l)), B true]) := by
  have := Cells_c n l; rwa [cellsF_yes ((good_ok w).1 g)] at this
theorem Cells_n (w : AllW l) (g : ¬ Good n l) : Pure Try.prog 41 [row n l] (.tup [.sl [], B false]) := by
  have := Cells_c n l; rwa [cellsF_no fun h => g ((good_ok w).2 h)] at this

end
end Go.Fx.Ytjfiklflmnhbdaa

/-
  WHAT IS PROVED HERE: that the variable internal/bytealg.MaxLen holds a number. No condition.
-/
import Derived.Test.YtnaindoeihnmpaaDoorZLift
import Derived.Shelf.Vars
namespace Go.Proofs.YtnaindoeihnmpaaDoor
open Go Go.ChangeShapes Go.WideShapes Go.ChangeAt
theorem maxlen_cell {w : World} (h : w.ShapedOpen Tryd.prog) : ∃ m, w.cell? ⟨1, 0, none⟩ = some (.int .i64 m) :=
  cell_of_shapedOpen_int (g := 1) (t := 3) (zero := #[.int .i64 0]) h (of_decide_eq_true (by kernel_rfl)) (by kernel_rfl) rfl (by kernel_rfl) (by kernel_rfl) Tryd.underlying3
end Go.Proofs.YtnaindoeihnmpaaDoor

/-
  How this seat's program was made. Conditions: none.
-/
import Derived.Test.YtbhgbfhgdccghaaDat
import Derived.Test.YtbhgbfhgdccghaaRows
set_option linter.all false
namespace Go.Wm
open Go.RowKit Go.Proofs
theorem mayEnter_ok : Try.prog.mayEnter = true := by kernel_rfl
end Go.Wm
namespace Go.Wm
open Go.RowKit Go.Proofs
theorem liftsFinal_nil : Try.prog.liftsFinal = false := by kernel_rfl
end Go.Wm
namespace Go.Wm
open Go.RowKit Go.Proofs
theorem make_eq : Try.prog.make = some (({ program := "", sum := "", func := "", spec := "" } : OpenClaim).make) := by kernel_rfl
end Go.Wm

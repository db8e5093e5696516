/-
  How the arguments of this seat's laws read. Conditions: none.
-/
import Derived.Test.YtbhgbfhgdccghaaGreatDat
import Derived.Test.YtbhgbfhgdccghaaGreatCoB
import Derived.Test.YtbhgbfhgdccghaaGreatRows
set_option linter.all false
namespace Go.Wm
open Go.RowKit Go.Proofs Go.ChangeShapes Go.WideShapes
theorem own : ownKnob Tryz.prog.godebug = none := by kernel_rfl
theorem laidOut : laidOutB Tryz.prog = true := by kernel_rfl
end Go.Wm

/-
  How the arguments of this seat's laws read. Conditions: none.
-/
import Derived.Test.YtbhgbfhgdccghaaDat
import Derived.Test.YtbhgbfhgdccghaaCoB
import Derived.Test.YtbhgbfhgdccghaaRows
set_option linter.all false
namespace Go.Wm
open Go.RowKit Go.Proofs Go.ChangeShapes Go.WideShapes
theorem own : ownKnob Try.prog.godebug = none := by kernel_rfl
theorem laidOut : laidOutB Try.prog = true := by kernel_rfl
end Go.Wm

/-
  How the arguments of this seat's laws read. Conditions: none.
-/
import Derived.Test.YteimghjhiiffjaaGreatDat
import Derived.Test.YteimghjhiiffjaaGreatCoB
import Derived.Test.YteimghjhiiffjaaGreatRows
set_option linter.all false
namespace Go.Wm
open Go.RowKit Go.Proofs Go.ChangeShapes Go.WideShapes
instance : RdW Tryz.prog 43 (tSl tStep) (fun xs => xs.length * Tryz.prog.bytesOf 29 ≤ reachBytes ∧ ∀ x ∈ xs, x.small) := rdw_slice Tryz.underlying43 (by kernel_rfl) (by decide)
theorem own : ownKnob Tryz.prog.godebug = none := by kernel_rfl
theorem laidOut : laidOutB Tryz.prog = true := by kernel_rfl
end Go.Wm

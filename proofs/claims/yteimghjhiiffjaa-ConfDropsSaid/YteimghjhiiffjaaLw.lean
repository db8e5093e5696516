/-
  How the arguments of this seat's laws read. Conditions: none.
-/
import Derived.Test.YteimghjhiiffjaaDat
import Derived.Test.YteimghjhiiffjaaCoB
import Derived.Test.YteimghjhiiffjaaRows
set_option linter.all false
namespace Go.Wm
open Go.RowKit Go.Proofs Go.ChangeShapes Go.WideShapes
instance : RdW Try.prog 28 (tSl tStep) (fun xs => xs.length * Try.prog.bytesOf 37 ≤ reachBytes ∧ ∀ x ∈ xs, x.small) := rdw_slice Try.underlying28 (by kernel_rfl) (by decide)
theorem own : ownKnob Try.prog.godebug = none := by kernel_rfl
theorem laidOut : laidOutB Try.prog = true := by kernel_rfl
end Go.Wm

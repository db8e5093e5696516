/-
  How the arguments of this seat's laws read. Conditions: none.
-/
import Derived.Test.YtgalkgidjpbiaaaGreatDat
import Derived.Test.YtgalkgidjpbiaaaGreatCoB
import Derived.Test.YtgalkgidjpbiaaaGreatRows
set_option linter.all false
namespace Go.Wm
open Go.RowKit Go.Proofs Go.ChangeShapes Go.WideShapes
instance : RdW Tryz.prog 43 (tSl tStep) (fun xs => xs.length * Tryz.prog.bytesOf 35 ≤ reachBytes ∧ ∀ x ∈ xs, x.small) := rdw_slice Tryz.underlying43 (by kernel_rfl) (by decide)
theorem own : ownKnob Tryz.prog.godebug = none := by kernel_rfl
theorem laidOut : laidOutB Tryz.prog = true := by kernel_rfl
end Go.Wm

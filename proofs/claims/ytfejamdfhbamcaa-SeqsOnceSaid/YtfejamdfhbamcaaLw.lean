/-
  How the arguments of this seat's laws read. Conditions: none.
-/
import Derived.Test.YtfejamdfhbamcaaDat
import Derived.Test.YtfejamdfhbamcaaCoB
import Derived.Test.YtfejamdfhbamcaaRows
set_option linter.all false
namespace Go.Wm
open Go.RowKit Go.Proofs Go.ChangeShapes Go.WideShapes
instance : RdW Try.prog 22 (tSl tProdT) (fun xs => xs.length * Try.prog.bytesOf 51 ≤ reachBytes ∧ ∀ x ∈ xs, x.small) := rdw_slice Try.underlying22 (by kernel_rfl) (by decide)
instance : RdW Try.prog 35 (tSl tBatch) (fun xs => xs.length * Try.prog.bytesOf 25 ≤ reachBytes ∧ ∀ x ∈ xs, x.small) := rdw_slice Try.underlying35 (by kernel_rfl) (by decide)
theorem own : ownKnob Try.prog.godebug = none := by kernel_rfl
theorem laidOut : laidOutB Try.prog = true := by kernel_rfl
end Go.Wm

/-
  How the arguments of this seat's laws read. Conditions: none.
-/
import Derived.Test.YtjonlpdnhbnmmaaGreatDat
import Derived.Test.YtjonlpdnhbnmmaaGreatCoB
import Derived.Test.YtjonlpdnhbnmmaaGreatRows
set_option linter.all false
namespace Go.Wm
open Go.RowKit Go.Proofs Go.ChangeShapes Go.WideShapes
instance : RdW Tryz.prog 97 (tSl tView) (fun xs => xs.length * Tryz.prog.bytesOf 96 ≤ reachBytes ∧ ∀ x ∈ xs, x.small) := rdw_slice Tryz.underlying97 (by kernel_rfl) (by decide)
instance : RdW Tryz.prog 53 (tSl tMark) (fun xs => xs.length * Tryz.prog.bytesOf 52 ≤ reachBytes ∧ ∀ x ∈ xs, x.small) := rdw_slice Tryz.underlying53 (by kernel_rfl) (by decide)
instance : RdW Tryz.prog 26 (tSl tBatch) (fun xs => xs.length * Tryz.prog.bytesOf 45 ≤ reachBytes ∧ ∀ x ∈ xs, x.small) := rdw_slice Tryz.underlying26 (by kernel_rfl) (by decide)
theorem own : ownKnob Tryz.prog.godebug = none := by kernel_rfl
theorem laidOut : laidOutB Tryz.prog = true := by kernel_rfl
end Go.Wm
-- cut by zcut

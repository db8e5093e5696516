/-
  How the arguments of this seat's laws read. Conditions: none.
-/
import Derived.Test.YtjonlpdnhbnmmaaDat
import Derived.Test.YtjonlpdnhbnmmaaCoB
import Derived.Test.YtjonlpdnhbnmmaaRows
set_option linter.all false
namespace Go.Wm
open Go.RowKit Go.Proofs Go.ChangeShapes Go.WideShapes
instance : RdW Try.prog 22 (tSl tView) (fun xs => xs.length * Try.prog.bytesOf 45 ≤ reachBytes ∧ ∀ x ∈ xs, x.small) := rdw_slice Try.underlying22 (by kernel_rfl) (by decide)
instance : RdW Try.prog 23 (tSl tMark) (fun xs => xs.length * Try.prog.bytesOf 39 ≤ reachBytes ∧ ∀ x ∈ xs, x.small) := rdw_slice Try.underlying23 (by kernel_rfl) (by decide)
instance : RdW Try.prog 54 (tSl tBatch) (fun xs => xs.length * Try.prog.bytesOf 60 ≤ reachBytes ∧ ∀ x ∈ xs, x.small) := rdw_slice Try.underlying54 (by kernel_rfl) (by decide)
instance : RdW Try.prog 50 (tSl (tSl tBatch)) (fun xs => xs.length * Try.prog.bytesOf 54 ≤ reachBytes ∧ ∀ x ∈ xs, x.length * Try.prog.bytesOf 60 ≤ reachBytes ∧ ∀ y ∈ x, y.small) := rdw_slice Try.underlying50 (by kernel_rfl) (by decide)
theorem own : ownKnob Try.prog.godebug = none := by kernel_rfl
theorem laidOut : laidOutB Try.prog = true := by kernel_rfl
end Go.Wm

/-
  How the arguments of this seat's laws read. Conditions: none.
-/
import Derived.Test.YtpinnhemlcpkaaaDat
import Derived.Test.YtpinnhemlcpkaaaCoB
import Derived.Test.YtpinnhemlcpkaaaRows
set_option linter.all false
namespace Go.Wm
open Go.RowKit Go.Proofs Go.ChangeShapes Go.WideShapes
instance : RdW Try.prog 22 (tSl tTold) (fun xs => xs.length * Try.prog.bytesOf 43 ≤ reachBytes ∧ ∀ x ∈ xs, x.small) := rdw_slice Try.underlying22 (by kernel_rfl) (by decide)
instance : RdW Try.prog 23 (tSl tMark) (fun xs => xs.length * Try.prog.bytesOf 45 ≤ reachBytes ∧ ∀ x ∈ xs, x.small) := rdw_slice Try.underlying23 (by kernel_rfl) (by decide)
instance : RdW Try.prog 34 (tSl tBatch) (fun xs => xs.length * Try.prog.bytesOf 51 ≤ reachBytes ∧ ∀ x ∈ xs, x.small) := rdw_slice Try.underlying34 (by kernel_rfl) (by decide)
instance : RdW Try.prog 35 (tSl tGone) (fun xs => xs.length * Try.prog.bytesOf 77 ≤ reachBytes ∧ ∀ x ∈ xs, x.small) := rdw_slice Try.underlying35 (by kernel_rfl) (by decide)
instance : RdW Try.prog 36 (tSl tFact) (fun xs => xs.length * Try.prog.bytesOf 56 ≤ reachBytes ∧ ∀ x ∈ xs, x.small) := rdw_slice Try.underlying36 (by kernel_rfl) (by decide)
theorem own : ownKnob Try.prog.godebug = none := by kernel_rfl
theorem laidOut : laidOutB Try.prog = true := by kernel_rfl
end Go.Wm

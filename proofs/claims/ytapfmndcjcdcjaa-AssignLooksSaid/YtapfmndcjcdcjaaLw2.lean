/-
  What the form's own reach says of shares. Conditions: none.
-/
import Derived.Test.YtapfmndcjcdcjaaLw
import Derived.Test.YtapfmndcjcdcjaaWgt
set_option linter.all false
namespace Go.Wm
open Go.RowKit Go.Proofs
instance wTp : RdW Try.prog 37 tTp (fun _ => True) := rdw_plain
instance wTps : RdW Try.prog 23 (tSl tTp) (fun xs => xs.length * Try.prog.bytesOf 37 ≤ reachBytes ∧ ∀ x ∈ xs, True) := rdw_slice Try.underlying23 (by kernel_rfl) (by decide)
instance wShare : RdW Try.prog 26 (tSl (tSl tTp)) (fun xs => xs.length * Try.prog.bytesOf 23 ≤ reachBytes ∧ ∀ x ∈ xs, x.length * Try.prog.bytesOf 37 ≤ reachBytes ∧ ∀ y ∈ x, True) := rdw_slice Try.underlying26 (by kernel_rfl) (by decide)
theorem bytes37 : Try.prog.bytesOf 37 = 32 := by kernel_rfl
theorem share_bd {xs : List (List Tp)} (h : xs.length * Try.prog.bytesOf 23 ≤ reachBytes ∧ ∀ x ∈ xs, x.length * Try.prog.bytesOf 37 ≤ reachBytes ∧ ∀ y ∈ x, True) : ∀ r ∈ xs, r.length ≤ 140737488355328 := by
  intro r hr
  have := (h.2 r hr).1
  rw [bytes37] at this
  unfold reachBytes at this
  omega
end Go.Wm

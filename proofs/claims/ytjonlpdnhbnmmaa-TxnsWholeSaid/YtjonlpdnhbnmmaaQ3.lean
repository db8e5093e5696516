/-
  What is shown, in plain Lean: of the same, of more, of what is hidden between two offsets. Conditions: those of each law.
-/
import Derived.Test.YtjonlpdnhbnmmaaQ2
set_option linter.all false
namespace Go.Wm
open Go.RowKit Go.Proofs

def liveB (to : Int) (b : Batch) : Bool := decide (b.ctl = 0) && decide (b.last < to)
def trimL (start : Int) (l : List Gone) : List Gone := l.filter fun g => !decide (g.last < start)
def ahead (fr : Int) (b : Batch) : Bool := decide (fr ≤ b.base) && decide (chkB b = 0)
end Go.Wm

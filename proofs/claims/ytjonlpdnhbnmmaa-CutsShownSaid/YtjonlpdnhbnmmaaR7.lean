/-
  Whether a transaction is below marks wherever it stands, the document's. Conditions: that what is handed in reads as data.
-/
import Derived.Test.YtjonlpdnhbnmmaaR6
set_option linter.all false
namespace Go.Wm
open Go.RowKit Go.Proofs
attribute [local irreducible] RG CG EG WA Loc Det Alc CT Exit.then Exit.inBlock Code.wp bodyPost

/-- One that is not below its mark. -/
def hit (pid no m : Int) (g : Gone) : Bool := (decide (g.pid = pid) && decide (g.no = no)) && decide (m ≤ g.last)
end Go.Wm

/-
  SeqsLooks, SeqsTwice and SeqsFences, walked. Conditions: that what is handed in reads as data.
-/
import Derived.Test.YtfejamdfhbamcaaG18
import Derived.Test.YtfejamdfhbamcaaG3
import Derived.Test.YtfejamdfhbamcaaCoB
set_option linter.all false
namespace Go.Wm
open Go.RowKit Go.Proofs
attribute [local irreducible] RG CG EG WA Loc Det Alc CT Exit.then Exit.inBlock Code.wp bodyPost
theorem short_of {b : Batch} (h : b.small) : Short b := fun r hr => ⟨(h.2.2.2.2.2.2.2.2.2.2 r hr).2.1, (h.2.2.2.2.2.2.2.2.2.2 r hr).2.2.1⟩
end Go.Wm

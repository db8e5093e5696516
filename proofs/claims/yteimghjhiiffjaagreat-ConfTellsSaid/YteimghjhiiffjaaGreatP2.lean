/-
  What somebody may, bit by bit, in plain Lean. Conditions: none.
-/
import Derived.Test.YteimghjhiiffjaaGreatD9
set_option linter.all false
namespace Go.Wm
open Go.RowKit Go.Proofs
def bitsN : List Nat := [1, 2, 4]
def eachF (f : Nat → Bool) (w : Nat) (l : List Nat) : Bool := l.all fun b => !decide (w / b % 2 = 1) || f b
theorem conf_may {x : Conf} (h : confP x = true) : ∀ r ∈ x.rules, inI r.may 1 7 = true := fun r hr' => by
  obtain ⟨j, hj, rfl⟩ := List.getElem_of_mem hr'
  have := ((conf_parts h).2.2.2.1 j hj).1
  simp only [ruleP, Bool.and_eq_true] at this
  exact this.2.2
end Go.Wm

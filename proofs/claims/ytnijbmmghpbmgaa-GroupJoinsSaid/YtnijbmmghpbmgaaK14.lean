/-
  A round, in plain Lean. Conditions: none.
-/
import Derived.Test.YtnijbmmghpbmgaaL4
set_option linter.all false
namespace Go.Wm
open Go.RowKit Go.Proofs
def rejoin (now : Int) (m : Member) : Member := { m with beat := now, joined := true }
/-- The members behind i of them have joined again. -/
structure RInv (g : Group) (mx : Member) (now : Int) (i : Nat) (x : Group) : Prop where
  chk : ChkG x
  gen : x.gen = g.gen + 1
  mem : ∀ y, y ∈ x.l ↔ y = mx ∨ ∃ j, ∃ hj : j < g.l.length, y = if j < i then rejoin now g.l[j] else unjoin g.l[j]
  st : x.state = 2 ↔ i = g.l.length
theorem RInv.at {g : Group} {mx : Member} {now : Int} {i : Nat} {x : Group} (h : RInv g mx now i x) {j : Nat} (hj : j < g.l.length) : hasId g.l[j].id x.l = true ∧ ∀ y ∈ x.l, y.id = g.l[j].id → y = if j < i then rejoin now g.l[j] else unjoin g.l[j] := by
  have hm : (if j < i then rejoin now g.l[j] else unjoin g.l[j]) ∈ x.l := (h.mem _).2 (.inr ⟨j, hj, rfl⟩)
  have hid : (if j < i then rejoin now g.l[j] else unjoin g.l[j]).id = g.l[j].id := by split <;> rfl
  exact ⟨hasId_true.2 ⟨_, hm, hid⟩, fun y hy he => id_uniq h.chk.right hy hm (he.trans hid.symm)⟩
end Go.Wm

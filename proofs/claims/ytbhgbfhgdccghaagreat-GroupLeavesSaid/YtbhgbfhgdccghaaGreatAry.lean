/-
  Arrays of seven whole numbers: a literal, and one of its numbers; what a call in a region that draws has told, taken apart. Conditions: none beyond those of each law.
-/
import Derived.Test.YtbhgbfhgdccghaaGreatCoB
import Derived.Test.YtbhgbfhgdccghaaGreatS9
set_option linter.all false
namespace Go.Wm
variable [Dfr]
open Go.RowKit
section
variable {P : Program} {o : Oper} {e : Env} {k : PH}
/-- What is worked out of what a slot holds. -/
theorem loci_pure {n : Nat} {ops : Array Oper} {I : PH → World → Prop} {t : Nat} {φ ψ : PH → Value → Prop} (hg : get e t = some (.such φ)) (ht : (o.looksAt ops).contains t = true) (hgd : o.guard = none) (hm : (PV.such ψ).Mono) (h : ∀ v k1, Le k k1 → φ k1 v → ∃ u, peval ((t, .is v) :: e) o.op = some u ∧ ψ k1 u) : LocI P n ops I o e k (.such ψ) := by
  refine LocI.elim t hg ht hm fun v k1 hle hv => ?_
  obtain ⟨u, h1, h2⟩ := h v k1 hle hv
  have hl : Loc P n ops o ((t, .is v) :: e) k1 (.is u) := loc_det (by simp [wantedE, hgd]) (d_pure h1)
  refine ⟨hm, fun a w k2 hk hs _ hsz hlo => ?_⟩
  have := hl.2 a w k2 hk hs hsz hlo
  split
  · rename_i hw
    rw [if_pos hw] at this
    refine this.mono fun q w' ⟨k', g1, g2, g3, g4⟩ => ⟨k', g1, g2, g3, ?_⟩
    have : q = u := g4
    subst this
    exact hm k1 k' q (hk.trans (g2.le hs)) h2
  · rename_i hw
    rw [if_neg hw] at this
    have h5 : undef = u := this
    show ψ k2 undef
    rw [h5]
    exact hm k1 k2 u hk h2
end
end Go.Wm

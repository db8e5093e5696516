/-
  Whether a cut is whole, the document's. Conditions: that what is handed in reads as data.
-/
import Derived.Test.YtjonlpdnhbnmmaaR9
set_option linter.all false
namespace Go.Wm
open Go.RowKit Go.Proofs
attribute [local irreducible] RG CG EG WA Loc Det Alc CT Exit.then Exit.inBlock Code.wp bodyPost

def offs (cut : List Mark) : List Int := cut.map (·.off)
def CutOk (l : List View) (cut : List Mark) : Prop := ∀ i, (h : i < l.length) → (h' : i < cut.length) → cut[i].tp = l[i].tp ∧ 0 ≤ cut[i].off ∧ cut[i].off ≤ stabP l[i].tx l[i].high
instance (l : List View) (cut : List Mark) : Decidable (CutOk l cut) := by unfold CutOk; infer_instance
/-- Are marks a cut that is whole? -/
def wholeB (l : List View) (cut : List Mark) : Bool := decide (MayV l) && (decide (cut.length = l.length) && (decide (CutOk l cut) && decide (lowP l (offs cut) = offs cut)))
theorem wholeB_iff {l : List View} {cut : List Mark} : wholeB l cut = true ↔ MayV l ∧ cut.length = l.length ∧ CutOk l cut ∧ WholeM l (offs cut) := by
  unfold wholeB
  simp only [Bool.and_eq_true, decide_eq_true_eq]
  constructor
  · rintro ⟨h1, h2, h3, h4⟩
    exact ⟨h1, h2, h3, (whole_iff (by simp [offs, h2])).1 h4⟩
  · rintro ⟨h1, h2, h3, h4⟩
    exact ⟨h1, h2, h3, (whole_iff (by simp [offs, h2])).2 h4⟩

end Go.Wm

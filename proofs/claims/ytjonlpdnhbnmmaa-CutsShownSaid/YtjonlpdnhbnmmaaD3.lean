/-
  Cuts in plain Lean: the greatest one, and the lesser of two. Conditions: none.
-/
import Derived.Test.YtjonlpdnhbnmmaaD2
set_option linter.all false
namespace Go.Wm
open Go.RowKit Go.Proofs

theorem marksOf_at {l : List View} {m : List Int} {i : Nat} (hi : i < l.length) (hm : i < m.length) (h : i < (marksOf l m).length) : (marksOf l m)[i] = ⟨l[i].tp, m[i]⟩ := by
  simp [marksOf]
theorem marksOf_off {l : List View} {m : List Int} (h : m.length = l.length) : offs (marksOf l m) = m := by
  apply List.ext_getElem
  · simp [offs, marksOf, h]
  · intro i h1 h2
    simp [offs, marksOf]
theorem cut_whole {l : List View} {m : List Int} (hl : MayV l) (h : IsCut l (stableL l) m) (h0 : ∀ n ∈ m, 0 ≤ n) : wholeB l (marksOf l m) = true := by
  have e1 := marksOf_len h.len
  rw [wholeB_iff, marksOf_off h.len]
  refine ⟨hl, e1, fun i hi hi' => ?_, h.whole⟩
  have hm : i < m.length := by rw [h.len]; exact hi
  rw [marksOf_at hi hm]
  have h2 := h.safe.2 i hm (by simp [stableL]; omega)
  exact ⟨rfl, h0 _ (List.getElem_mem hm), by simpa [stableL] using h2⟩
/-- The lesser ones. -/
def minL (a b : List Int) : List Int := List.zipWith minI a b
end Go.Wm

/-
  Cuts in plain Lean: what the laws of the layer say of them. Conditions: none.
-/
import Derived.Test.YtjonlpdnhbnmmaaA16
set_option linter.all false
namespace Go.Wm
open Go.RowKit Go.Proofs

/-- Marks whose partitions are unlike. -/
def Once (l : List Mark) : Prop := ∀ i j, (hi : i < l.length) → (hj : j < l.length) → l[i].tp = l[j].tp → i = j
/-- What a cut tells, without memory. -/
def CutIs (l : List View) (ms : List Mark) (e : Int) : Prop := (MayV l ∧ e = 0 ∧ ∃ m, IsCut l (stableL l) m ∧ (∀ n ∈ m, 0 ≤ n) ∧ ms = marksOf l m) ∨ (¬ MayV l ∧ e = 1 ∧ ms = [])
theorem CutR.is {l : List View} {k : PH} {v : Value} (h : CutR l k v) : ∃ ms e a c, v = .tuple #[.slice a ms.length c, .int .i64 e] ∧ Sl tMark k a c ms ∧ CutIs l ms e := by
  unfold CutR at h
  by_cases hm : MayV l
  · rw [if_pos hm] at h
    obtain ⟨m, a, c, h1, h2, h3, h4⟩ := h
    exact ⟨_, _, a, c, h3, h4, .inl ⟨hm, rfl, m, h1, h2, rfl⟩⟩
  · rw [if_neg hm] at h
    exact ⟨[], 1, none, 0, h, sl_none _ _, .inr ⟨hm, rfl, rfl⟩⟩
theorem few_small {l : List View} (h : fewV l = true) : l.length ≤ 8 ∧ SmallV l ∧ ∀ v ∈ l, fewOne v = true := by
  unfold fewV at h
  simp only [Bool.and_eq_true, decide_eq_true_eq, List.all_eq_true] at h
  have hall : ∀ v ∈ l, fewOne v = true := fun v hv => h.1 v (by rw [List.take_of_length_le (by omega)]; exact hv)
  refine ⟨h.2, fun v hv => ?_, hall⟩
  have := hall v hv
  unfold fewOne at this
  simp only [Bool.and_eq_true, decide_eq_true_eq] at this
  omega
end Go.Wm

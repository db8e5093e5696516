/-
  What is shown, in plain Lean: of the same, of more, of what is hidden between two offsets. Conditions: those of each law.
-/
import Derived.Test.YtjonlpdnhbnmmaaQ2
set_option linter.all false
namespace Go.Wm
open Go.RowKit Go.Proofs

def liveB (to : Int) (b : Batch) : Bool := decide (b.ctl = 0) && decide (b.last < to)
theorem any_same {g1 g2 : List Gone} {p : Gone → Bool} (h : ∀ g ∈ g1, g ∉ g2 → p g = false) (hs : ∀ g ∈ g2, g ∈ g1) : g1.any p = g2.any p := by
  cases e : g2.any p with
  | true =>
    obtain ⟨g, hg, hp⟩ := List.any_eq_true.1 e
    exact List.any_eq_true.2 ⟨g, hs g hg, hp⟩
  | false =>
    rw [List.any_eq_false] at e ⊢
    intro g hg hp
    by_cases hm : g ∈ g2
    · exact e g hm hp
    · rw [h g hg hm] at hp; cases hp
def trimL (start : Int) (l : List Gone) : List Gone := l.filter fun g => !decide (g.last < start)
/-- What lies between two offsets is enough. -/
theorem show_hidden {t : Tx} {fr to : Int} {b : Batch} (hb : fr ≤ b.base) (hl : b.base ≤ b.last) : showB (hiddenL t fr to) to b = showB t.gone to b := by
  unfold showB
  cases hc : (decide (b.ctl = 0) && decide (b.last < to))
  · rfl
  simp only [Bool.and_eq_true, decide_eq_true_eq] at hc
  congr 2
  refine (any_same (fun g hg hn => ?_) (fun g hg => (List.mem_filter.1 hg).1)).symm
  cases e : isP b g with
  | false => rfl
  | true =>
    refine absurd (List.mem_filter.2 ⟨hg, ?_⟩) hn
    simp only [isP, Bool.and_eq_true, decide_eq_true_eq] at e
    simp only [farG, Bool.not_eq_true', Bool.or_eq_false_iff, decide_eq_false_iff_not]
    omega
theorem show_trim {gone : List Gone} {fr to : Int} {b : Batch} (hb : fr ≤ b.base) : showB (trimL fr gone) to b = showB gone to b := by
  unfold showB
  congr 2
  refine (any_same (fun g hg hn => ?_) (fun g hg => (List.mem_filter.1 hg).1)).symm
  cases e : isP b g with
  | false => rfl
  | true =>
    refine absurd (List.mem_filter.2 ⟨hg, ?_⟩) hn
    simp only [isP, Bool.and_eq_true, decide_eq_true_eq] at e
    simp only [Bool.not_eq_true', decide_eq_false_iff_not]
    omega
def ahead (fr : Int) (b : Batch) : Bool := decide (fr ≤ b.base) && decide (chkB b = 0)
theorem hidden_law {t : Tx} {fr to : Int} (bs : List Batch) : (bs.filter (ahead fr)).filter (showB t.gone to) = (bs.filter (ahead fr)).filter (showB (hiddenL t fr to) to) ∧ (bs.filter (ahead fr)).filter (showB t.gone to) = (bs.filter (ahead fr)).filter (showB (trimL fr t.gone) to) := by
  have h : ∀ b ∈ bs.filter (ahead fr), fr ≤ b.base ∧ b.base ≤ b.last := fun b hb => by
    have := (List.mem_filter.1 hb).2
    simp only [ahead, Bool.and_eq_true, decide_eq_true_eq] at this
    exact ⟨this.1, (chk_form this.2).span.1⟩
  exact ⟨List.filter_congr fun b hb => (show_hidden (h b hb).1 (h b hb).2).symm, List.filter_congr fun b hb => (show_trim (h b hb).1).symm⟩
end Go.Wm

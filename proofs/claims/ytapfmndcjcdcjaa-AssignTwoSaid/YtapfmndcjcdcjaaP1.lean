/-
  The plain law of the counts: what giving does to how many each has. Conditions: none.
-/
import Derived.Test.YtapfmndcjcdcjaaA6
set_option linter.all false
namespace Go.Wm
open Go.RowKit Go.Proofs

/-- How many of w are each of 0 .. n-1. -/
def cnts (n : Nat) (w : List Int) : List Int := (List.range n).map fun m : Nat => ((w.count (m : Int) : Nat) : Int)
theorem cnts_len (n : Nat) (w : List Int) : (cnts n w).length = n := by simp [cnts]
theorem cnts_get {n i : Nat} {w : List Int} (h : i < n) : (cnts n w)[i]? = some ((w.count (i : Int) : Nat) : Int) := by
  simp [cnts, h]
theorem cnts_bd {n : Nat} {w : List Int} {x : Int} (h : x ∈ cnts n w) : 0 ≤ x ∧ x ≤ w.length := by
  unfold cnts at h
  obtain ⟨m, _, rfl⟩ := List.mem_map.1 h
  have := List.count_le_length (l := w) (a := (m : Int))
  omega
theorem more_get (l : List Int) (x : Int) (i : Nat) (h : i < l.length) : (moreM l x)[i]? = some (l[i] + if x = (i : Int) then 1 else 0) := by
  unfold moreM
  by_cases h0 : 0 ≤ x
  · rw [if_pos h0, List.getElem?_set]
    by_cases hx : x.toNat = i
    · have : x = (i : Int) := by omega
      subst this
      simp [h]
    · have : ¬ x = (i : Int) := by omega
      simp [hx, this, h]
  · have : ¬ x = (i : Int) := by omega
    simp [h0, this, h]
theorem less_get (l : List Int) (x : Int) (i : Nat) (h : i < l.length) : (lessM l x)[i]? = some (l[i] - if x = (i : Int) then 1 else 0) := by
  unfold lessM
  by_cases h0 : 0 ≤ x
  · rw [if_pos h0, List.getElem?_set]
    by_cases hx : x.toNat = i
    · have : x = (i : Int) := by omega
      subst this
      simp [h]
    · have : ¬ x = (i : Int) := by omega
      simp [hx, this, h]
  · have : ¬ x = (i : Int) := by omega
    simp [h0, this, h]
theorem more_len (l : List Int) (x : Int) : (moreM l x).length = l.length := by unfold moreM; split <;> simp
theorem less_len (l : List Int) (x : Int) : (lessM l x).length = l.length := by unfold lessM; split <;> simp
theorem give_cnts {n p : Nat} {w : List Int} {m : Int} (hp : p < w.length) : moreM (lessM (cnts n w) w[p]) m = cnts n (w.set p m) := by
  apply List.ext_getElem?
  intro i
  by_cases hi : i < n
  · have h1 : i < (cnts n w).length := by rw [cnts_len]; exact hi
    have h2 : i < (lessM (cnts n w) w[p]).length := by rw [less_len]; exact h1
    rw [more_get _ _ _ h2, cnts_get hi]
    have h3 := less_get (cnts n w) w[p] i h1
    rw [List.getElem?_eq_getElem h2] at h3
    have h4 := cnts_get (w := w) hi
    rw [List.getElem?_eq_getElem h1] at h4
    rw [Option.some.inj h3, Option.some.inj h4]
    have hc := List.count_set (a := m) (b := (i : Int)) (h := hp)
    rw [hc]
    have hpos : w[p] = (i : Int) → 0 < w.count (i : Int) := fun h => List.count_pos_iff.2 (h ▸ List.getElem_mem hp)
    by_cases e1 : w[p] = (i : Int)
    · have := hpos e1
      by_cases e2 : m = (i : Int) <;> simp [e1, e2] <;> omega
    · by_cases e2 : m = (i : Int) <;> simp [e1, e2]
  · rw [List.getElem?_eq_none (by rw [more_len, less_len, cnts_len]; omega), List.getElem?_eq_none (by rw [cnts_len]; omega)]
end Go.Wm

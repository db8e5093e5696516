/-
  More on the counts and on what the target's first loop holds. Conditions: none.
-/
import Derived.Test.YtapfmndcjcdcjaaP4
set_option linter.all false
namespace Go.Wm
open Go.RowKit Go.Proofs

theorem cnts_snoc (n : Nat) (w : List Int) (m : Int) : moreM (cnts n w) m = cnts n (w ++ [m]) := by
  apply List.ext_getElem?
  intro i
  by_cases hi : i < n
  · have h1 : i < (cnts n w).length := by rw [cnts_len]; exact hi
    rw [more_get _ _ _ h1, cnts_get hi]
    have h4 := cnts_get (w := w) hi
    rw [List.getElem?_eq_getElem h1] at h4
    rw [Option.some.inj h4]
    by_cases e : m = (i : Int) <;> simp [e, List.count_append, List.count_cons]
  · rw [List.getElem?_eq_none (by rw [more_len, cnts_len]; omega), List.getElem?_eq_none (by rw [cnts_len]; omega)]
theorem less_no (l : List Int) : lessM l (-1) = l := by simp [lessM]
theorem cnts_nil (n : Nat) : cnts n [] = List.replicate n 0 := by
  apply List.ext_getElem?
  intro i
  simp [cnts, List.getElem?_replicate]
  by_cases hi : i < n <;> simp [hi]
theorem wInit_len (l : List Mem) (tps : List Tp) : (wInit l tps).length = tps.length := by simp [wInit]
theorem wInit_get {l : List Mem} {tps : List Tp} {p : Nat} (h : p < tps.length) : (wInit l tps)[p]? = some (idxF l fun m => decide (tps[p] ∈ m.own) && decide (tps[p].topic ∈ m.subs)) := by
  simp [wInit, h]
/-- Whose each is while the first p are looked at. -/
def half (w : List Int) (p : Nat) : List Int := w.take p ++ List.replicate (w.length - p) 0
theorem half_len {w : List Int} {p : Nat} (h : p ≤ w.length) : (half w p).length = w.length := by simp [half]; omega
theorem half_next {w : List Int} {p : Nat} {x : Int} (h : w[p]? = some x) : ((half w p).set p (-1)).set p x = half w (p + 1) := by
  have hp : p < w.length := (List.getElem?_eq_some_iff.1 h).1
  rw [List.set_set]
  apply List.ext_getElem?
  intro i
  have hl := half_len (w := w) (p := p) (by omega)
  rw [List.getElem?_set]
  by_cases hpi : p = i
  · subst hpi
    simp only [if_true, hl, hp]
    unfold half
    rw [List.getElem?_append_left (by simp; omega), List.getElem?_take, if_pos (by omega), h]
  · simp only [hpi, if_false]
    unfold half
    by_cases hi : i < p
    · rw [List.getElem?_append_left (by simp; omega), List.getElem?_append_left (by simp; omega), List.getElem?_take, List.getElem?_take, if_pos hi, if_pos (by omega)]
    · rw [List.getElem?_append_right (by simp; omega), List.getElem?_append_right (by simp; omega), List.getElem?_replicate, List.getElem?_replicate]
      simp only [List.length_take, Nat.min_eq_left (Nat.le_of_lt hp), Nat.min_eq_left (show p + 1 ≤ w.length from hp)]
      by_cases hw : i < w.length
      · rw [if_pos (by omega), if_pos (by omega)]
      · rw [if_neg (by omega), if_neg (by omega)]
theorem half_all (w : List Int) : half w w.length = w := by simp [half]
theorem half_zero (w : List Int) : half w 0 = List.replicate w.length 0 := by simp [half]
theorem made_ints (n : Nat) (x : Int) : madeCells (Value.int .i64 x).cells (n * 1) = ((List.replicate n x).map (Value.int .i64)).toArray := by
  apply Array.toList_inj.1
  apply List.ext_getElem?
  intro i
  rw [Nat.mul_one]
  simp only [madeCells, Value.cells, Array.toList_map, Array.toList_range, List.getElem?_map, List.map_replicate, List.getElem?_replicate]
  by_cases hi : i < n
  · simp [hi, Nat.mod_one]
  · simp [hi]
theorem idxF_range {α : Type} (l : List α) (f : α → Bool) : idxF l f = -1 ∨ ∃ i : Nat, idxF l f = (i : Int) ∧ ∃ h : i < l.length, f l[i] = true := by
  unfold idxF
  cases hf : l.findIdx? f with
  | none => exact .inl rfl
  | some i =>
    rw [List.findIdx?_eq_some_iff_getElem] at hf
    obtain ⟨h1, h2, _⟩ := hf
    exact .inr ⟨i, rfl, h1, h2⟩
theorem wInit_inv (l : List Mem) (tps : List Tp) : WInv l tps (wInit l tps) := by
  refine ⟨wInit_len l tps, fun p x tp hp ht => ?_⟩
  have hlt : p < tps.length := (List.getElem?_eq_some_iff.1 ht).1
  rw [wInit_get hlt] at hp
  rw [List.getElem?_eq_getElem hlt] at ht
  cases hp
  cases ht
  rcases idxF_range l (fun m => decide (tps[p] ∈ m.own) && decide (tps[p].topic ∈ m.subs)) with h | ⟨i, h, hi, hf⟩
  · exact .inl h
  · refine .inr ⟨i, h, hi, ?_⟩
    simp at hf
    exact hf.2
end Go.Wm

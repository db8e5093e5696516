/-
  What each has, of the first p; the first that has to move. Conditions: none.
-/
import Derived.Test.YtapfmndcjcdcjaaP5
set_option linter.all false
namespace Go.Wm
open Go.RowKit Go.Proofs

theorem zip_take_succ {α β : Type} {xs : List α} {ys : List β} {p : Nat} (hx : p < xs.length) (hy : p < ys.length) : (xs.take (p + 1)).zip (ys.take (p + 1)) = (xs.take p).zip (ys.take p) ++ [(xs[p], ys[p])] := by
  rw [List.take_succ_eq_append_getElem hx, List.take_succ_eq_append_getElem hy, List.zip_append (by simp; omega)]
  rfl
theorem outM_len (n : Nat) (tps : List Tp) (w : List Int) : (outM n tps w).length = n := by simp [outM]
theorem outM_get {n i : Nat} (h : i < n) (tps : List Tp) (w : List Int) : (outM n tps w)[i]? = some (((tps.zip w).filter fun x => decide (x.2 = (i : Int))).map (·.1)) := by simp [outM, h]
theorem outM_no {n p : Nat} {tps : List Tp} {w : List Int} (hx : p < tps.length) (hy : p < w.length) (h : w[p] < 0) : outM n (tps.take (p + 1)) (w.take (p + 1)) = outM n (tps.take p) (w.take p) := by
  unfold outM
  apply List.map_congr_left
  intro m _
  rw [zip_take_succ hx hy, List.filter_append, List.map_append]
  have : ¬ w[p] = (m : Int) := by omega
  simp [this]
theorem outM_at {n p i : Nat} {tps : List Tp} {w : List Int} (hx : p < tps.length) (hy : p < w.length) (h : w[p] = (i : Int)) (hi : i < n) {r : List Tp} (hr : (outM n (tps.take p) (w.take p))[i]? = some r) :
    outM n (tps.take (p + 1)) (w.take (p + 1)) = (outM n (tps.take p) (w.take p)).set i (r ++ [tps[p]]) := by
  apply List.ext_getElem?
  intro m
  rw [List.getElem?_set, outM_len]
  by_cases hm : m < n
  · rw [outM_get hm, zip_take_succ hx hy, List.filter_append, List.map_append]
    by_cases him : i = m
    · subst him
      rw [outM_get hi] at hr
      cases hr
      simp [h, hi]
    · have : ¬ w[p] = (m : Int) := by omega
      rw [if_neg him, outM_get hm]
      simp [this]
  · rw [List.getElem?_eq_none (by rw [outM_len]; omega)]
    split
    · omega
    · rw [List.getElem?_eq_none (by rw [outM_len]; omega)]
theorem outM_zero (n : Nat) (tps : List Tp) (w : List Int) : outM n (tps.take 0) (w.take 0) = List.replicate n [] := by
  apply List.ext_getElem?
  intro m
  by_cases hm : m < n
  · rw [outM_get hm]; simp [hm]
  · rw [List.getElem?_eq_none (by rw [outM_len]; omega), List.getElem?_eq_none (by simp; omega)]
theorem outM_all {n : Nat} {tps : List Tp} {w : List Int} (h : w.length = tps.length) : outM n (tps.take tps.length) (w.take w.length) = outM n tps w := by
  rw [List.take_length, List.take_length]

theorem outM_bd {n i : Nat} {tps : List Tp} {w : List Int} {r : List Tp} (h : (outM n tps w)[i]? = some r) : r.length ≤ tps.length := by
  have hi : i < n := by
    have := (List.getElem?_eq_some_iff.1 h).1
    rw [outM_len] at this
    exact this
  rw [outM_get hi] at h
  cases h
  rw [List.length_map]
  exact Nat.le_trans (List.length_filter_le _ _) (by rw [List.length_zip]; omega)

theorem stepM_some {l : List Mem} {tps : List Tp} {w : List Int} {p : Nat} (hp : p < tps.length) (hq : ∀ q, q < p → hotW l tps w q = false) (h : hotW l tps w p = true) : stepM l tps w = some (w.set p (leastW l tps[p] w)) := by
  unfold stepM
  have : (List.range tps.length).find? (hotW l tps w) = some p := by
    rw [List.find?_range_eq_some]
    exact ⟨h, by simpa using hp, fun j hj => by rw [hq j hj]; rfl⟩
  rw [this]
  simp only [List.getElem?_eq_getElem hp]
theorem stepM_none {l : List Mem} {tps : List Tp} {w : List Int} (hq : ∀ q, q < tps.length → hotW l tps w q = false) : stepM l tps w = none := by
  unfold stepM
  have : (List.range tps.length).find? (hotW l tps w) = none := by
    rw [List.find?_range_eq_none]
    intro j hj
    rw [hq j hj]; rfl
  rw [this]
theorem stepM_none_iff {l : List Mem} {tps : List Tp} {w : List Int} (h : stepM l tps w = none) : ∀ q, q < tps.length → hotW l tps w q = false := by
  intro q hq
  unfold stepM at h
  cases hf : (List.range tps.length).find? (hotW l tps w) with
  | some p =>
    rw [hf] at h
    have hp := List.mem_of_find?_eq_some hf
    rw [List.mem_range] at hp
    simp [hp] at h
  | none =>
    rw [List.find?_range_eq_none] at hf
    have := hf q hq
    simpa using this

/-- What the target comes to. -/
structure IsTgt (l : List Mem) (tps : List Tp) (w : List Int) : Prop where
  moved : Moved l tps (fillW l tps (wInit l tps) tps.length) w
  inv : WInv l tps w
  still : stepM l tps w = none
theorem Moved.head {l : List Mem} {tps : List Tp} {w w' : List Int} (h : Moved l tps w w') : w = w' ∨ ∃ w1, stepM l tps w = some w1 ∧ Moved l tps w1 w' := by
  induction h with
  | refl => exact .inl rfl
  | step h1 h2 ih =>
    rcases ih with rfl | ⟨w1, h3, h4⟩
    · exact .inr ⟨_, h2, .refl _⟩
    · exact .inr ⟨w1, h3, .step h4 h2⟩
theorem Moved.same {l : List Mem} {tps : List Tp} {w w1 w2 : List Int} (h1 : Moved l tps w w1) (h2 : Moved l tps w w2) (e1 : stepM l tps w1 = none) (e2 : stepM l tps w2 = none) : w1 = w2 := by
  have key : Moved l tps w2 w1 ∨ Moved l tps w1 w2 := by
    clear e1 e2
    induction h1 with
    | refl => exact .inr h2
    | step h3 h4 ih =>
      rcases ih with h | h
      · exact .inl (.step h h4)
      · rcases h.head with rfl | ⟨w3, h5, h6⟩
        · exact .inl (.step (.refl _) h4)
        · rw [h4] at h5
          cases h5
          exact .inr h6
  rcases key with h | h
  · rcases h.head with h | ⟨w3, h5, _⟩
    · exact h.symm
    · rw [e2] at h5; cases h5
  · rcases h.head with h | ⟨w3, h5, _⟩
    · exact h
    · rw [e1] at h5; cases h5
theorem IsTgt.same {l : List Mem} {tps : List Tp} {w1 w2 : List Int} (h1 : IsTgt l tps w1) (h2 : IsTgt l tps w2) : w1 = w2 := h1.moved.same h2.moved h1.still h2.still
/-- May members and partitions be? -/
def okM (l : List Mem) : Bool := decide (l.map (·.id)).Nodup && !decide (ByteArray.empty ∈ l.map (·.id))
def okT (l : List Mem) (tps : List Tp) : Bool := okM l && decide tps.Nodup
/-- What Target hands back. -/
structure TgtR (l : List Mem) (tps : List Tp) (r : List (List Tp)) (er : Int) : Prop where
  no : okT l tps = false → r = [] ∧ er = 1
  yes : okT l tps = true → er = 0 ∧ ∃ w, IsTgt l tps w ∧ r = outM l.length tps w
theorem TgtR.same {l : List Mem} {tps : List Tp} {r1 r2 : List (List Tp)} {e1 e2 : Int} (h1 : TgtR l tps r1 e1) (h2 : TgtR l tps r2 e2) : r1 = r2 ∧ e1 = e2 := by
  cases h : okT l tps with
  | false =>
    obtain ⟨a, b⟩ := h1.no h
    obtain ⟨c, d⟩ := h2.no h
    exact ⟨by rw [a, c], by rw [b, d]⟩
  | true =>
    obtain ⟨a, w1, b, c⟩ := h1.yes h
    obtain ⟨d, w2, e, f⟩ := h2.yes h
    exact ⟨by rw [c, f, b.same e], by rw [a, d]⟩
end Go.Wm

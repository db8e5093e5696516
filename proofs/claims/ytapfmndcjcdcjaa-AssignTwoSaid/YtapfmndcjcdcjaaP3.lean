/-
  What holds of whose each partition is: it is nobody's, or one's who wants it; a move lowers the sum of the squares of the counts. Conditions: none.
-/
import Derived.Test.YtapfmndcjcdcjaaP2
set_option linter.all false
namespace Go.Wm
open Go.RowKit Go.Proofs

theorem foldl_mem (cmp : Int → Int → Int) : ∀ (r : List Int) (x : Int), r.foldl (fun m y => if cmp y m < 0 then y else m) x ∈ x :: r
  | [], x => by simp
  | y :: r, x => by
    rw [List.foldl_cons]
    have := foldl_mem cmp r (if cmp y x < 0 then y else x)
    rcases List.mem_cons.1 this with h | h
    · rw [h]
      split <;> simp
    · exact List.mem_cons_of_mem _ (List.mem_cons_of_mem _ h)
theorem minBy_mem (cmp : Int → Int → Int) : ∀ (l : List Int), l ≠ [] → minBy cmp l ∈ l
  | [], h => absurd rfl h
  | x :: r, _ => foldl_mem cmp r x
theorem leastM_spec (l : List Mem) (tp : Tp) (many : List Int) : (leastM l tp many = -1 ∧ whoL l tp l.length = []) ∨ leastM l tp many ∈ whoL l tp l.length := by
  unfold leastM
  split
  · rename_i h; exact .inl ⟨rfl, h⟩
  · rename_i h
    exact .inr (minBy_mem _ _ h)
/-- One who wants it, or nobody. -/
def Wants (l : List Mem) (tp : Tp) (x : Int) : Prop := ∃ i : Nat, x = (i : Int) ∧ ∃ h : i < l.length, tp.topic ∈ l[i].subs
theorem whoL_wants {l : List Mem} {tp : Tp} {x : Int} : x ∈ whoL l tp l.length ↔ Wants l tp x := by
  unfold whoL Wants
  simp only [List.mem_map, List.mem_filter, List.mem_range]
  constructor
  · rintro ⟨i, ⟨h1, h2⟩, rfl⟩
    refine ⟨i, rfl, h1, ?_⟩
    simpa [List.getElem?_eq_getElem h1] using h2
  · rintro ⟨i, rfl, h1, h2⟩
    exact ⟨i, ⟨h1, by simpa [List.getElem?_eq_getElem h1] using h2⟩, rfl⟩

/-- Each is nobody's or one's who wants it. -/
structure WInv (l : List Mem) (tps : List Tp) (w : List Int) : Prop where
  len : w.length = tps.length
  at' : ∀ (p : Nat) (x : Int) (tp : Tp), w[p]? = some x → tps[p]? = some tp → x = -1 ∨ Wants l tp x
theorem leastW_or (l : List Mem) (tp : Tp) (many : List Int) : leastM l tp many = -1 ∨ Wants l tp (leastM l tp many) := by
  rcases leastM_spec l tp many with h | h
  · exact .inl h.1
  · exact .inr (whoL_wants.1 h)
theorem leastW_of {l : List Mem} {tp : Tp} {x : Int} (hx : Wants l tp x) (many : List Int) : Wants l tp (leastM l tp many) := by
  rcases leastM_spec l tp many with h | h
  · have := whoL_wants.2 hx
    rw [h.2] at this
    cases this
  · exact whoL_wants.1 h
theorem WInv.set {l : List Mem} {tps : List Tp} {w : List Int} (h : WInv l tps w) {p : Nat} {tp : Tp} (hp : tps[p]? = some tp) {x : Int} (hx : x = -1 ∨ Wants l tp x) : WInv l tps (w.set p x) := by
  refine ⟨by rw [List.length_set]; exact h.len, fun q y tq hq ht => ?_⟩
  rw [List.getElem?_set] at hq
  split at hq
  · rename_i hpq
    subst hpq
    split at hq
    · cases hq
      rw [hp] at ht
      cases ht
      exact hx
    · cases hq
  · exact h.at' q y tq hq ht
end Go.Wm

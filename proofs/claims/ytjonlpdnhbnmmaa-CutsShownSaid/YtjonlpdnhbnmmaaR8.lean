/-
  Marks lowered once, the document's. Conditions: that what is handed in reads as data.
-/
import Derived.Test.YtjonlpdnhbnmmaaR7
set_option linter.all false
namespace Go.Wm
open Go.RowKit Go.Proofs
attribute [local irreducible] RG CG EG WA Loc Det Alc CT Exit.then Exit.inBlock Code.wp bodyPost

/-- The cells of numbers, side by side. -/
def curR (cur : List Int) : List Value := (cur.map fun n => [Value.int .i64 n]).flatten
theorem curR_eq (cur : List Int) : curR cur = cur.flatMap fun n => [Value.int .i64 n] := by simp [curR, List.flatMap]
theorem rowI_el {N : Nat} {k : PH} {et : Nat} {v : Value} {m i : Nat} {cur : List Int} (h : Row N k et 1 v m (curR cur)) (hi : i < cur.length) :
    ∃ g cap cs, v = .slice (some ⟨g, 0, none⟩) m cap ∧ N ≤ g ∧ k g = some (.cells cs et (0, 0)) ∧ i < m ∧ 0 + i * 1 + 1 ≤ cs.size ∧ Cells k g (0 + i * 1) [.int .i64 cur[i]] ∧
      ∀ k' x, k' g = some (.cells (cs.setIfInBounds (0 + i * 1) (Value.int .i64 x)) et (0, 0)) → Row N k' et 1 v m (curR (cur.set i x)) := by
  obtain ⟨g, cap, cs, h1, h2, h3, h4, _, h5, h6, h7⟩ := Row.el h (fun y hy => by rw [List.mem_map] at hy; obtain ⟨n, _, rfl⟩ := hy; rfl) (i := i) (cs := [.int .i64 cur[i]]) (by simp [hi]) (by omega)
  refine ⟨g, cap, cs, h1, h2, h3, h4, h5, h6, fun k' x hk => ?_⟩
  have e : cs.setIfInBounds (0 + i * 1) (Value.int .i64 x) = (cs.toList.take (0 + i * 1) ++ [Value.int .i64 x] ++ cs.toList.drop (0 + i * 1 + 1)).toArray := by
    apply Array.toList_inj.1
    rw [Array.toList_setIfInBounds, List.set_eq_take_append_cons_drop, if_pos (by simp at h5 ⊢; omega)]
    simp
  rw [e] at hk
  have := h7 k' [.int .i64 x] rfl hk
  unfold curR
  rw [List.map_set]
  exact this

def outL (l : List View) (m : List Int) (i : Nat) : List Int := (lowP l m).take i ++ m.drop i
theorem gone_ok {k : PH} {a : Option Addr} {c : Nat} {l : List Gone} (hl : Sl tGone k a c l) : ∀ m ∈ l, m.ok := fun m hm => by
  obtain ⟨i, hi, rfl⟩ := List.getElem_of_mem hm
  obtain ⟨_, _, _, _, ⟨_, h⟩, _⟩ := hl.el i l[i] (List.getElem?_eq_getElem hi)
  exact h
end Go.Wm

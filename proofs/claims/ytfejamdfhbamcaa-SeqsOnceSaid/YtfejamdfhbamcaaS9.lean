/-
  Lists of the call's own. Conditions: none.
-/
import Derived.Test.YtfejamdfhbamcaaDat
import Derived.Test.YtfejamdfhbamcaaMn
import Derived.Test.YtfejamdfhbamcaaIns
set_option linter.all false
namespace Go.Wm
open Go.RowKit Go.Proofs
attribute [local irreducible] RG CG EG WA Loc Det Alc CT Exit.then Exit.inBlock Code.wp bodyPost
/-- v is a slice of the call's own (its block is none from before N) that reads as l. -/
def Own {α : Type} (T : Ty α) (N : Nat) (k : PH) (et : Nat) (v : Value) (l : List α) : Prop := ∃ css, Pieces T k css l ∧ Row N k et T.sz v l.length css.flatten
theorem Own.le {α : Type} {T : Ty α} {N : Nat} {k k' : PH} {et : Nat} {v : Value} {l : List α} (h : Own T N k et v l) (hl : Le k k') : Own T N k' et v l := by
  obtain ⟨css, h1, h2⟩ := h
  exact ⟨css, h1.le hl, h2.le hl⟩
theorem Own.N_le {α : Type} {T : Ty α} {N N' : Nat} {k : PH} {et : Nat} {v : Value} {l : List α} (h : Own T N k et v l) (hN : N' ≤ N) : Own T N' k et v l := by
  obtain ⟨css, h1, h2⟩ := h
  exact ⟨css, h1, h2.N_le hN⟩
theorem Own.sl {α : Type} {T : Ty α} {N : Nat} {k : PH} {et : Nat} {v : Value} {l : List α} (h : Own T N k et v l) : ∃ a c, v = .slice a l.length c ∧ Sl T k a c l := by
  obtain ⟨css, h1, h2⟩ := h
  exact h2.sls h1
theorem Own.block {α : Type} {T : Ty α} {N : Nat} {k : PH} {et : Nat} {v : Value} {l : List α} (h : Own T N k et v l) {g : Nat} (hg : v.ownBlock = some g) : N ≤ g ∧ ∃ ob, k g = some ob := by
  obtain ⟨css, h1, h2⟩ := h
  exact h2.block hg
theorem Own.apart {α : Type} {T : Ty α} {N : Nat} {k h : PH} {et : Nat} {v : Value} {l : List α} (H : Own T N k et v l) (hn : ∀ b, N ≤ b → h b = none) : Apart h v := by
  obtain ⟨css, h1, h2⟩ := H
  exact h2.apart hn
theorem own_nil {α : Type} (T : Ty α) (N : Nat) (k : PH) (et : Nat) : Own T N k et (.slice none 0 0) [] := ⟨[], Pieces.nil _ _, row_nil _ _ _ _⟩
/-- A row stands where another block of another type is turned. -/
theorem Row.turnY {N : Nat} {k k' : PH} {b et et' sz : Nat} {v : Value} {m : Nat} {xs : List Value} {c : Array Value} {fr : Nat × Nat} (h : Row N k et sz v m xs) (ht : Turn1 k k' b) (hb : k b = some (.cells c et' fr)) (hne : et ≠ et') : Row N k' et sz v m xs := by
  obtain ⟨hl, (⟨rfl, rfl⟩ | ⟨g, cap, cur, rfl, hN, hk, h1, h2, h3, h4⟩)⟩ := h
  · exact ⟨hl, .inl ⟨rfl, rfl⟩⟩
  · have hgb : g ≠ b := fun hc => by rw [hc, hb] at hk; cases hk; exact hne rfl
    exact ⟨hl, .inr ⟨g, cap, cur, rfl, hN, turn1_get ht hgb hk, h1, h2, h3, h4⟩⟩
end Go.Wm

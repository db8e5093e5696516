/-
  The greatest cut, the document's. Conditions: that what is handed in reads as data.
-/
import Derived.Test.YtjonlpdnhbnmmaaR8
set_option linter.all false
namespace Go.Wm
open Go.RowKit Go.Proofs
attribute [local irreducible] RG CG EG WA Loc Det Alc CT Exit.then Exit.inBlock Code.wp bodyPost

def sumN (m : List Int) : Nat := (m.map Int.toNat).sum
def marksOf (l : List View) (m : List Int) : List Mark := (l.zip m).map fun p => ⟨p.1.tp, p.2⟩
theorem marksOf_len {l : List View} {m : List Int} (h : m.length = l.length) : (marksOf l m).length = l.length := by simp [marksOf, h]
theorem marksOf_succ {l : List View} {m : List Int} {i : Nat} (hi : i < l.length) (hm : i < m.length) : marksOf (l.take (i + 1)) (m.take (i + 1)) = marksOf (l.take i) (m.take i) ++ [⟨l[i].tp, m[i]⟩] := by
  unfold marksOf
  rw [List.take_succ_eq_append_getElem hi, List.take_succ_eq_append_getElem hm, List.zip_append (by simp; omega), List.map_append]
  rfl
/-- Where ended ones begin is no less than 0. -/
def FirstsOk (l : List View) : Prop := ∀ v ∈ l, (∀ g ∈ v.tx.done, 0 ≤ g.first) ∧ (∀ g ∈ v.tx.gone, 0 ≤ g.first) ∧ 0 ≤ stabP v.tx v.high
theorem ended_first {l : List Gone} (h : Ended l) : ∀ g ∈ l, 0 ≤ g.first ∧ g.first < g.last := fun g hg => by
  obtain ⟨i, hi, rfl⟩ := List.getElem_of_mem hg
  have := (h i hi).1
  simp only [okGone, Bool.and_eq_true, decide_eq_true_eq] at this
  exact ⟨this.2.2.2.1, this.2.2.2.2.1⟩
theorem txP_and {t : Tx} : txP t = true ↔ Opens t.openV ∧ Ended t.gone ∧ Ended t.done := by simp [txP]
theorem firsts_ok {l : List View} (h : MayV l) : FirstsOk l := fun v hv => by
  obtain ⟨i, hi, rfl⟩ := List.getElem_of_mem hv
  obtain ⟨_, _, h3, h4, _⟩ := h i hi
  obtain ⟨h5, h6, h7⟩ := txP_and.1 h3
  refine ⟨fun g hg => (ended_first h7 g hg).1, fun g hg => (ended_first h6 g hg).1, le_foldMin _ _ _ h4 fun o ho _ => ?_⟩
  obtain ⟨j, hj, rfl⟩ := List.getElem_of_mem ho
  have := (h5 j hj).1
  simp only [inO, Bool.and_eq_true, decide_eq_true_eq] at this
  exact this.2.1
theorem stable_nonneg {l : List View} (hl : FirstsOk l) : ∀ n ∈ stableL l, 0 ≤ n := fun n hn => by
  unfold stableL at hn
  rw [List.mem_map] at hn
  obtain ⟨v, hv, rfl⟩ := hn
  exact (hl v hv).2.2

/-- What a cut tells. -/
def CutR (l : List View) (k' : PH) (v : Value) : Prop :=
  if MayV l then ∃ m a c, IsCut l (stableL l) m ∧ (∀ n ∈ m, 0 ≤ n) ∧ v = .tuple #[.slice a (marksOf l m).length c, .int .i64 0] ∧ Sl tMark k' a c (marksOf l m)
  else v = .tuple #[.slice none 0 0, .int .i64 1]
theorem CutR.mono {l : List View} : ∀ k k' v, Le k k' → CutR l k v → CutR l k' v := fun k k' v hle h => by
  unfold CutR at h ⊢
  split
  · rename_i hm
    rw [if_pos hm] at h
    obtain ⟨m, a, c, h1, h2, h3, h4⟩ := h
    exact ⟨m, a, c, h1, h2, h3, h4.le hle⟩
  · rename_i hm
    rw [if_neg hm] at h
    exact h
theorem view_tp {k : PH} {a : Option Addr} {c : Nat} {l : List View} (hl : Sl tView k a c l) : ∀ v ∈ l, v.ok := fun v hv => by
  obtain ⟨i, hi, rfl⟩ := List.getElem_of_mem hv
  obtain ⟨_, _, _, _, ⟨_, _, _, _, _, _, _, _, hk⟩, _⟩ := hl.el i l[i] (List.getElem?_eq_getElem hi)
  exact hk
end Go.Wm

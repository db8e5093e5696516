/-
  Cuts in plain Lean: with more that is safe the cut is no lesser. Conditions: none.
-/
import Derived.Test.YtjonlpdnhbnmmaaD3
set_option linter.all false
namespace Go.Wm
open Go.RowKit Go.Proofs

/-- The same partitions and transactions. -/
def Like (l x : List View) : Prop := x.length = l.length ∧ ∀ i, (h : i < l.length) → (h' : i < x.length) → x[i].tp = l[i].tp ∧ x[i].tx = l[i].tx
theorem Like.symm {l x : List View} (h : Like l x) : Like x l := ⟨h.1.symm, fun i h1 h2 => ⟨(h.2 i h2 h1).1.symm, (h.2 i h2 h1).2.symm⟩⟩
theorem Like.whole {l x : List View} (h : Like l x) {m : List Int} (hw : WholeM l m) : WholeM x m := by
  have key : ∀ pid no, belowP x m pid no = false → belowP l m pid no = false := fun pid no hb => by
    rw [belowP_false] at hb ⊢
    obtain ⟨i, hi, hm, g, hg, p⟩ := hb
    refine ⟨i, by rw [← h.1]; exact hi, hm, g, ?_, p⟩
    rw [← (h.2 i (by rw [← h.1]; exact hi) hi).2]
    exact hg
  refine ⟨fun i hi hm g hg hb => ?_, fun i hi hm g hg hb => ?_⟩
  · rw [(h.2 i (by rw [← h.1]; exact hi) hi).2] at hg
    exact hw.1 i (by rw [← h.1]; exact hi) hm g hg (key _ _ hb)
  · rw [(h.2 i (by rw [← h.1]; exact hi) hi).2] at hg
    exact hw.2 i (by rw [← h.1]; exact hi) hm g hg hb
theorem Like.marks {l x : List View} (h : Like l x) (m : List Int) : marksOf x m = marksOf l m := by
  unfold marksOf
  apply List.ext_getElem (by simp [h.1])
  intro i h1 h2
  simp only [List.length_map, List.length_zip] at h1 h2
  simp only [List.getElem_map, List.getElem_zip]
  rw [(h.2 i (by omega) (by omega)).1]
theorem Like.may {l x : List View} (h : Like l x) (hl : MayV l) (hh : ∀ i, (hi : i < x.length) → 0 ≤ x[i].high ∧ x[i].high ≤ 1099511627776) : MayV x := fun i hi => by
  have hil : i < l.length := by rw [← h.1]; exact hi
  obtain ⟨h1, h2, h3, _, _⟩ := hl i hil
  obtain ⟨e1, e2⟩ := h.2 i hil hi
  refine ⟨by rw [e1]; exact h1, fun h0 => ?_, by rw [e2]; exact h3, (hh i hi).1, (hh i hi).2⟩
  rw [(h.2 (i - 1) (by omega) (by omega)).1, e1]
  exact h2 h0
theorem foldMin_mono {γ : Type} {c : γ → Bool} {f : γ → Int} : ∀ (l : List γ) (a b : Int), a ≤ b → foldMin c f a l ≤ foldMin c f b l := fun l a b h => by
  refine le_foldMin l b _ (Int.le_trans (foldMin_le l a) h) fun g hg hc => foldMin_at l a g hg hc
theorem Like.stable {l x : List View} (h : Like l x) (hh : ∀ i, (hi : i < l.length) → (hi' : i < x.length) → l[i].high ≤ x[i].high) : PW (stableL l) (stableL x) := by
  refine ⟨by simp [stableL, h.1], fun i h1 h2 => ?_⟩
  simp only [stableL, List.length_map] at h1 h2
  simp only [stableL, List.getElem_map]
  rw [(h.2 i h1 h2).2]
  exact foldMin_mono _ _ _ (hh i h1 h2)
theorem Like.higher {l x : List View} (h : Like l x) (hh : ∀ i, (hi : i < l.length) → (hi' : i < x.length) → l[i].high ≤ x[i].high) {m m' : List Int} (h1 : IsCut l (stableL l) m) (h2 : IsCut x (stableL x) m') : PW m m' :=
  h2.top m (h.whole h1.whole) (h1.safe.trans (h.stable hh))
theorem below_marks {l : List View} {m m' : List Int} (hl : MayV l) (h1 : m.length = l.length) (h2 : m'.length = l.length) (h : PW m m') : belowM (marksOf l m) (marksOf l m') = true := by
  have e1 := marksOf_len h1
  have e2 := marksOf_len h2
  refine belowM_iff.2 fun x hx => ?_
  obtain ⟨i, hi, rfl⟩ := List.getElem_of_mem hx
  have hmem : (marksOf l m')[i]'(by omega) ∈ marksOf l m' := List.getElem_mem _
  rw [marksOf_at (by omega) (by omega)] at hmem
  rw [marksOf_at (by omega) (by omega)]
  exact ⟨m'[i]'(by omega), markP_once (marksOf_once hl h2) hmem, h.2 i (by omega) (by omega)⟩
/-- With nothing safe all marks are 0. -/
theorem cut_zero {x : List View} {m : List Int} (h : IsCut x (stableL x) m) (h0 : ∀ n ∈ m, 0 ≤ n) (hh : ∀ v ∈ x, v.high = 0) : ∀ n ∈ m, n = 0 := fun n hn => by
  obtain ⟨i, hi, rfl⟩ := List.getElem_of_mem hn
  have hl : i < x.length := by rw [← h.len]; exact hi
  have := h.safe.2 i hi (by simp [stableL]; exact hl)
  have h1 := h0 _ hn
  have h2 : stabP x[i].tx x[i].high ≤ x[i].high := foldMin_le _ _
  rw [hh _ (List.getElem_mem hl)] at h2
  simp only [stableL, List.getElem_map] at this
  rw [hh _ (List.getElem_mem hl)] at this
  omega
def setHigh (l : List View) (i : Nat) (h : Int) : List View := l.modify i fun v => { v with high := h }
theorem setHigh_len (l : List View) (i : Nat) (h : Int) : (setHigh l i h).length = l.length := by simp [setHigh]
theorem setHigh_at {l : List View} {i j : Nat} {h : Int} (hj : j < l.length) (hj' : j < (setHigh l i h).length) : (setHigh l i h)[j] = if i = j then { l[j] with high := h } else l[j] := by
  simp [setHigh, List.getElem_modify]
theorem Like.set {l x : List View} (H : Like l x) (i : Nat) (h : Int) : Like l (setHigh x i h) := by
  refine ⟨by rw [setHigh_len]; exact H.1, fun j hj hj' => ?_⟩
  rw [setHigh_at (by rw [setHigh_len] at hj'; exact hj')]
  have := H.2 j hj (by rw [setHigh_len] at hj'; exact hj')
  split <;> exact this
theorem Like.refl (l : List View) : Like l l := ⟨rfl, fun _ _ _ => ⟨rfl, rfl⟩⟩
theorem Like.small {l x : List View} (H : Like l x) (h : SmallV l) : SmallV x := fun v hv => by
  obtain ⟨i, hi, rfl⟩ := List.getElem_of_mem hv
  rw [(H.2 i (by rw [← H.1]; exact hi) hi).2]
  exact h _ (List.getElem_mem _)
end Go.Wm

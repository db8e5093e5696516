/-
  Cuts in plain Lean: the greatest one, and the lesser of two. Conditions: none.
-/
import Derived.Test.YtjonlpdnhbnmmaaD2
set_option linter.all false
namespace Go.Wm
open Go.RowKit Go.Proofs

theorem marksOf_at {l : List View} {m : List Int} {i : Nat} (hi : i < l.length) (hm : i < m.length) (h : i < (marksOf l m).length) : (marksOf l m)[i] = ⟨l[i].tp, m[i]⟩ := by
  simp [marksOf]
theorem marksOf_off {l : List View} {m : List Int} (h : m.length = l.length) : offs (marksOf l m) = m := by
  apply List.ext_getElem
  · simp [offs, marksOf, h]
  · intro i h1 h2
    simp [offs, marksOf]
theorem marksOf_once {l : List View} {m : List Int} (hl : MayV l) (h : m.length = l.length) : Once (marksOf l m) := by
  intro i j hi hj e
  have e1 := marksOf_len h
  rw [marksOf_at (by omega) (by omega), marksOf_at (by omega) (by omega)] at e
  exact mayV_distinct hl (by omega) (by omega) e
theorem cutOk_marks {l : List View} {cut : List Mark} (hlen : cut.length = l.length) (h : CutOk l cut) : cut = marksOf l (offs cut) := by
  have e1 := marksOf_len (l := l) (m := offs cut) (by simp [offs, hlen])
  apply List.ext_getElem (by rw [e1, hlen])
  intro i h1 h2
  rw [marksOf_at (by omega) (by simp [offs]; omega)]
  have := (h i (by omega) h1).1
  simp only [offs, List.getElem_map]
  rw [← this]
theorem cutOk_safe {l : List View} {cut : List Mark} (hlen : cut.length = l.length) (h : CutOk l cut) : PW (offs cut) (stableL l) := by
  refine ⟨by simp [offs, stableL, hlen], fun i h1 h2 => ?_⟩
  have h1' : i < cut.length := by simpa [offs] using h1
  have := (h i (by omega) h1').2.2
  simpa [offs, stableL] using this
theorem cut_whole {l : List View} {m : List Int} (hl : MayV l) (h : IsCut l (stableL l) m) (h0 : ∀ n ∈ m, 0 ≤ n) : wholeB l (marksOf l m) = true := by
  have e1 := marksOf_len h.len
  rw [wholeB_iff, marksOf_off h.len]
  refine ⟨hl, e1, fun i hi hi' => ?_, h.whole⟩
  have hm : i < m.length := by rw [h.len]; exact hi
  rw [marksOf_at hi hm]
  have h2 := h.safe.2 i hm (by simp [stableL]; omega)
  exact ⟨rfl, h0 _ (List.getElem_mem hm), by simpa [stableL] using h2⟩
theorem whole_below {l : List View} {m : List Int} {cut : List Mark} (hl : MayV l) (h : IsCut l (stableL l) m) (hw : wholeB l cut = true) : belowM cut (marksOf l m) = true := by
  obtain ⟨_, h2, h3, h4⟩ := wholeB_iff.1 hw
  have hp := h.top _ h4 (cutOk_safe h2 h3)
  have e1 := marksOf_len h.len
  refine belowM_iff.2 fun x hx => ?_
  obtain ⟨i, hi, rfl⟩ := List.getElem_of_mem hx
  have hil : i < l.length := by omega
  have him : i < m.length := by rw [h.len]; exact hil
  have hmem : (marksOf l m)[i]'(by omega) ∈ marksOf l m := List.getElem_mem _
  rw [marksOf_at hil him] at hmem
  refine ⟨m[i], ?_, ?_⟩
  · rw [(h3 i hil hi).1]
    exact markP_once (marksOf_once hl h.len) hmem
  · have := hp.2 i (by simp [offs]; omega) him
    simpa [offs] using this
/-- The lesser ones. -/
def minL (a b : List Int) : List Int := List.zipWith minI a b
theorem minL_len {a b : List Int} (h : a.length = b.length) : (minL a b).length = a.length := by simp [minL, h]
theorem minL_comm {a b : List Int} : minL a b = minL b a := by
  unfold minL
  rw [List.zipWith_comm]
  congr 1
  funext x y
  exact minI_comm _ _
theorem minI_le {a b c : Int} (h : minI a b ≤ c) : a ≤ c ∨ b ≤ c := by
  unfold minI at h
  split at h
  · exact .inr h
  · exact .inl h
theorem minL_whole {l : List View} {a b : List Int} (ha : a.length = l.length) (hb : b.length = l.length) (h1 : WholeM l a) (h2 : WholeM l b) : WholeM l (minL a b) := by
  have hl := minL_len (ha.trans hb.symm)
  refine ⟨fun i hi hm g hg hbl => ?_, fun i hi hm g hg hle => ?_⟩
  · have e : (minL a b)[i] = minI a[i] b[i] := by simp [minL]
    rw [e]
    rw [belowP_false] at hbl
    obtain ⟨j, hj, hjm, x, hx, p1, p2, p3⟩ := hbl
    have e2 : (minL a b)[j] = minI a[j] b[j] := by simp [minL]
    rw [e2] at p3
    rcases minI_le p3 with p | p
    · exact Int.le_trans (minI_left _ _) (h1.1 i hi (by omega) g hg (belowP_false.2 ⟨j, hj, by omega, x, hx, p1, p2, p⟩))
    · exact Int.le_trans (minI_right _ _) (h2.1 i hi (by omega) g hg (belowP_false.2 ⟨j, hj, by omega, x, hx, p1, p2, p⟩))
  · have e : (minL a b)[i] = minI a[i] b[i] := by simp [minL]
    rw [e] at hle ⊢
    rcases minI_le hle with p | p
    · exact Int.le_trans (minI_left _ _) (h1.2 i hi (by omega) g hg p)
    · exact Int.le_trans (minI_right _ _) (h2.2 i hi (by omega) g hg p)
theorem leastM_map {a b : List Mark} (h : ∀ m ∈ a, (markP b m.tp).isSome = true) : leastM a b = a.map fun m => ⟨m.tp, minI ((markP b m.tp).getD 0) m.off⟩ := by
  induction a with
  | nil => rfl
  | cons m a ih =>
    have h1 := h m (by simp)
    have h2 := ih fun x hx => h x (by simp [hx])
    cases hp : markP b m.tp with
    | none => rw [hp] at h1; cases h1
    | some n =>
      unfold leastM at h2 ⊢
      rw [List.filterMap_cons, List.map_cons, hp, h2]
      rfl
theorem least_marks {l : List View} {a b : List Int} (hl : MayV l) (ha : a.length = l.length) (hb : b.length = l.length) : leastM (marksOf l a) (marksOf l b) = marksOf l (minL a b) := by
  have hla := marksOf_len ha
  have hlb := marksOf_len hb
  have hm := minL_len (ha.trans hb.symm)
  have hlm := marksOf_len (l := l) (m := minL a b) (by omega)
  have key : ∀ i, (h : i < l.length) → markP (marksOf l b) l[i].tp = some (b[i]'(by omega)) := fun i h => by
    have hmem : (marksOf l b)[i]'(by omega) ∈ marksOf l b := List.getElem_mem _
    rw [marksOf_at h (by omega)] at hmem
    exact markP_once (marksOf_once hl hb) hmem
  rw [leastM_map fun m hm => by
    obtain ⟨i, hi, rfl⟩ := List.getElem_of_mem hm
    rw [marksOf_at (by omega) (by omega), key i (by omega)]
    rfl]
  apply List.ext_getElem (by simp; omega)
  intro i h1 h2
  simp only [List.length_map] at h1
  rw [List.getElem_map, marksOf_at (by omega) (by omega), marksOf_at (by omega) (by omega), key i (by omega)]
  simp only [Option.getD_some]
  congr 1
  simp only [minL, List.getElem_zipWith]
  exact minI_comm _ _
theorem whole_least {l : List View} {a b : List Mark} (h1 : wholeB l a = true) (h2 : wholeB l b = true) : wholeB l (leastM a b) = true ∧ leastM a b = leastM b a ∧ belowM (leastM a b) a = true ∧ belowM (leastM a b) b = true := by
  obtain ⟨hm, a2, a3, a4⟩ := wholeB_iff.1 h1
  obtain ⟨_, b2, b3, b4⟩ := wholeB_iff.1 h2
  have la : (offs a).length = l.length := by simp [offs, a2]
  have lb : (offs b).length = l.length := by simp [offs, b2]
  have ea := cutOk_marks a2 a3
  have eb := cutOk_marks b2 b3
  have oa : Once a := by rw [ea]; exact marksOf_once hm la
  have e1 : leastM a b = marksOf l (minL (offs a) (offs b)) := by
    conv => lhs; rw [ea, eb]
    exact least_marks hm la lb
  have e2 : leastM b a = marksOf l (minL (offs b) (offs a)) := by
    conv => lhs; rw [ea, eb]
    exact least_marks hm lb la
  refine ⟨?_, by rw [e1, e2, minL_comm], least_below_l oa, least_below_r⟩
  have hlm := minL_len (la.trans lb.symm)
  rw [e1, wholeB_iff, marksOf_off (by omega)]
  refine ⟨hm, marksOf_len (by omega), fun i hi hi' => ?_, minL_whole la lb a4 b4⟩
  rw [marksOf_at hi (by omega)]
  have p1 := a3 i hi (by omega)
  have p2 := b3 i hi (by omega)
  have e3 : (minL (offs a) (offs b))[i]'(by omega) = minI a[i].off b[i].off := by simp [minL, offs]
  refine ⟨rfl, ?_, ?_⟩
  · simp only
    rw [e3]
    exact le_minI p1.2.1 p2.2.1
  · simp only
    rw [e3]
    exact Int.le_trans (minI_left _ _) p1.2.2
end Go.Wm

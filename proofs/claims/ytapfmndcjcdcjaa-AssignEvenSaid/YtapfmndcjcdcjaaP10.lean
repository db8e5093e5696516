/-
  In two rounds all have their targets. Conditions: none.
-/
import Derived.Test.YtapfmndcjcdcjaaP9
import Derived.Test.YtapfmndcjcdcjaaD4
set_option linter.all false
namespace Go.Wm
open Go.RowKit Go.Proofs
section
variable {l : List Mem} {tps : List Tp}
theorem outM_apart {n i j : Nat} {w : List Int} (hn : tps.Nodup) (hw : w.length = tps.length) {r s : List Tp} {x : Tp} (hr : (outM n tps w)[i]? = some r) (hs : (outM n tps w)[j]? = some s) (hx : x ∈ r) (hy : x ∈ s) : i = j := by
  have hm : x ∈ tps := (outM_sub hw hr).subset hx
  obtain ⟨p, hp, rfl⟩ := List.mem_iff_getElem.1 hm
  have h1 := (mem_outM hn hw hp hr).1 hx
  have h2 := (mem_outM hn hw hp hs).1 hy
  rw [h1] at h2
  simp only [Option.some.injEq] at h2
  omega
theorem outM_nodup {n : Nat} {w : List Int} (hn : tps.Nodup) (hw : w.length = tps.length) : (outM n tps w).flatten.Nodup := by
  unfold List.Nodup
  rw [List.pairwise_flatten]
  refine ⟨fun r hr => ?_, ?_⟩
  · obtain ⟨i, hi⟩ := List.getElem?_of_mem hr
    exact hn.sublist (outM_sub hw hi)
  · rw [List.pairwise_iff_getElem]
    intro i j hi hj hij x hx y hy e
    subst e
    have := outM_apart hn hw (List.getElem?_eq_getElem hi) (List.getElem?_eq_getElem hj) hx hy
    omega
theorem okR_tgt {w : List Int} (hok : okT l tps = true) (h : IsTgt l tps w) : okR l (outM l.length tps w) = true := by
  simp only [okT, Bool.and_eq_true, decide_eq_true_eq] at hok
  simp only [okR, hok.1, outM_len, decide_true, Bool.true_and, decide_eq_true_eq]
  exact outM_nodup hok.2 h.inv.len
theorem roundM_len (target : List (List Tp)) : (roundM l target).length = l.length := by simp [roundM]
theorem roundM_getD {target : List (List Tp)} {i : Nat} (h : i < l.length) : (roundM l target).getD i [] = (target.getD i []).filter (giveB l i) := by
  rw [List.getD_eq_getElem?_getD]
  simp [roundM, h]
theorem two_plain {w : List Int} (hn : tps.Nodup) (h : IsTgt l tps w) : roundM (withM l (roundM l (outM l.length tps w))) (outM l.length tps w) = outM l.length tps w := by
  apply List.ext_getElem?
  intro i
  by_cases hi : i < l.length
  · have hr : (outM l.length tps w)[i]? = some ((outM l.length tps w).getD i []) := by
      rw [List.getD_eq_getElem?_getD, List.getElem?_eq_getElem (by rw [outM_len]; exact hi)]; rfl
    have hg := roundM_getD (l := withM l (roundM l (outM l.length tps w))) (target := outM l.length tps w) (i := i) (by rw [withM_len]; exact hi)
    have hr2 : (roundM (withM l (roundM l (outM l.length tps w))) (outM l.length tps w))[i]? = some (((outM l.length tps w).getD i []).filter (giveB (withM l (roundM l (outM l.length tps w))) i)) := by
      rw [← hg, List.getD_eq_getElem?_getD, List.getElem?_eq_getElem (by rw [roundM_len, withM_len]; exact hi)]; rfl
    rw [hr2, hr]
    congr 1
    rw [List.filter_eq_self]
    intro tp htp
    unfold giveB
    rw [withM_at, List.getElem?_eq_getElem hi]
    simp only [Option.map_some, Option.getD_some, roundM_getD hi]
    by_cases hany : (withM l (roundM l (outM l.length tps w))).any (fun m => decide (tp ∈ m.own)) = true
    · rw [List.any_eq_true] at hany
      obtain ⟨m, hm, hmo⟩ := hany
      simp only [decide_eq_true_eq] at hmo
      obtain ⟨j, hj⟩ := List.getElem?_of_mem hm
      have hjl : j < l.length := by
        have := (List.getElem?_eq_some_iff.1 hj).1
        rw [withM_len] at this
        exact this
      rw [withM_get hjl] at hj
      cases hj
      have hmo2 : tp ∈ ((outM l.length tps w).getD j []).filter (giveB l j) := by
        rw [← roundM_getD hjl]; exact hmo
      have hs : (outM l.length tps w)[j]? = some ((outM l.length tps w).getD j []) := by
        rw [List.getD_eq_getElem?_getD, List.getElem?_eq_getElem (by rw [outM_len]; exact hjl)]; rfl
      have := outM_apart hn h.inv.len hr hs htp (List.mem_filter.1 hmo2).1
      subst this
      rw [decide_eq_true hmo2, Bool.true_or]
    · have : (withM l (roundM l (outM l.length tps w))).any (fun m => decide (tp ∈ m.own)) = false := by simpa using hany
      rw [this]
      simp
  · rw [List.getElem?_eq_none (by rw [roundM_len, withM_len]; omega), List.getElem?_eq_none (by rw [outM_len]; omega)]
end
end Go.Wm

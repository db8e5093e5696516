/-
  A target is even. Conditions: none.
-/
import Derived.Test.YtapfmndcjcdcjaaP10
import Derived.Test.YtapfmndcjcdcjaaD5
set_option linter.all false
namespace Go.Wm
open Go.RowKit Go.Proofs
section
variable {l : List Mem} {tps : List Tp}
theorem filter_count {i : Nat} : ∀ {tps : List Tp} {w : List Int}, w.length = tps.length → ((tps.zip w).filter fun x => decide (x.2 = (i : Int))).length = w.count (i : Int)
  | [], [], _ => rfl
  | t :: tps, x :: w, h => by
    simp only [List.length_cons, Nat.add_right_cancel_iff] at h
    have ih := filter_count (i := i) h
    rw [List.zip_cons_cons, List.filter_cons, List.count_cons]
    by_cases hx : x = (i : Int)
    · simp [hx, ih]
    · simp [hx, ih]
theorem outM_length {n i : Nat} {w : List Int} (hw : w.length = tps.length) (hi : i < n) : ((outM n tps w).getD i []).length = w.count (i : Int) := by
  rw [List.getD_eq_getElem?_getD, outM_get hi]
  simp only [Option.getD_some, List.length_map]
  exact filter_count hw
theorem lenTo_sum {n : Nat} {w : List Int} (hw : w.length = tps.length) : ∀ k, k ≤ n → lenTo (outM n tps w) k = sumN (fun m => w.count (m : Int)) k
  | 0, _ => rfl
  | k + 1, h => by
    simp only [lenTo, sumN]
    rw [lenTo_sum hw k (by omega), outM_length hw (by omega)]
theorem sumN_add (f g : Nat → Nat) : ∀ n, sumN (fun m => f m + g m) n = sumN f n + sumN g n
  | 0 => rfl
  | n + 1 => by simp only [sumN, sumN_add f g n]; omega
theorem sumN_ind (x : Int) : ∀ n : Nat, sumN (fun m => if x = (m : Int) then 1 else 0) n = if 0 ≤ x ∧ x < n then 1 else 0
  | 0 => by
    rw [if_neg (by omega)]
    rfl
  | n + 1 => by
    simp only [sumN, sumN_ind x n]
    by_cases h1 : 0 ≤ x ∧ x < n
    · rw [if_pos h1, if_neg (by omega), if_pos (by omega)]
    · rw [if_neg h1]
      by_cases h2 : x = (n : Int)
      · rw [if_pos h2, if_pos (by omega)]
      · rw [if_neg h2, if_neg (by omega)]
theorem sumN_count (n : Nat) : ∀ {w : List Int}, Good n w → sumN (fun m => w.count (m : Int)) n = w.countP fun x => decide (0 ≤ x)
  | [], _ => by
    have : ∀ k, sumN (fun _ => 0) k = 0 := fun k => by induction k with
      | zero => rfl
      | succ k ih => simp [sumN, ih]
    simpa using this n
  | x :: w, h => by
    have ih := sumN_count n (w := w) (fun y hy => h y (by simp [hy]))
    have e : (fun m : Nat => (x :: w).count (m : Int)) = fun m : Nat => w.count (m : Int) + (if x = (m : Int) then 1 else 0) := by
      funext m
      rw [List.count_cons]
      simp
    rw [e, sumN_add, ih, sumN_ind, List.countP_cons]
    congr 1
    rcases h x (by simp) with h1 | ⟨h1, h2⟩
    · rw [h1]; simp
    · rw [if_pos ⟨h1, h2⟩]; simp [h1]
theorem countP_same {w : List Int} (hw : w.length = tps.length) (h : ∀ p (hp : p < tps.length) (hpw : p < w.length), (0 ≤ w[p]) ↔ anyW l tps[p] = true) : (w.countP fun x => decide (0 ≤ x)) = tps.countP (anyW l) := by
  have e : w.map (fun x => decide (0 ≤ x)) = tps.map (anyW l) := by
    apply List.ext_getElem
    · simp [hw]
    · intro i h1 h2
      simp only [List.length_map] at h1 h2
      simp only [List.getElem_map]
      rw [Bool.eq_iff_iff]
      simpa using h i h2 h1
  have c1 : ∀ {α : Type} (f : α → Bool) (l : List α), l.countP f = (l.map f).count true := by
    intro α f l
    induction l with
    | nil => rfl
    | cons a l ih =>
      rw [List.countP_cons, List.map_cons, List.count_cons, ih]
      cases f a <;> simp
  rw [c1, c1, e]
theorem anyW_iff {tp : Tp} : anyW l tp = true ↔ ∃ x, Wants l tp x := by
  unfold anyW Wants
  rw [List.any_eq_true]
  constructor
  · rintro ⟨m, hm, h⟩
    obtain ⟨i, hi, rfl⟩ := List.mem_iff_getElem.1 hm
    exact ⟨(i : Int), i, rfl, hi, by simpa using h⟩
  · rintro ⟨x, i, _, hi, h⟩
    exact ⟨l[i], List.getElem_mem hi, by simpa using h⟩
theorem tgt_even {w : List Int} (hok : okT l tps = true) (h : IsTgt l tps w) : evenA l tps (outM l.length tps w) = true := by
  have hokR := okR_tgt hok h
  simp only [okT, Bool.and_eq_true, decide_eq_true_eq] at hok
  simp only [okR, Bool.and_eq_true, decide_eq_true_eq] at hokR
  have hlen := h.inv.len
  unfold evenA
  rw [hok.1, decide_eq_true hok.2, decide_eq_true hokR.2.1, decide_eq_true hokR.2.2]
  simp only [Bool.true_and, Bool.and_eq_true, decide_eq_true_eq]
  refine ⟨?_, ?_⟩
  · rw [List.all_eq_true]
    intro i hi
    rw [List.mem_range, outM_len] at hi
    rw [List.all_eq_true]
    intro tp htp
    have hr : (outM l.length tps w)[i]? = some ((outM l.length tps w).getD i []) := by
      rw [List.getD_eq_getElem?_getD, List.getElem?_eq_getElem (by rw [outM_len]; exact hi)]; rfl
    have hm : tp ∈ tps := (outM_sub hlen hr).subset htp
    obtain ⟨p, hp, rfl⟩ := List.mem_iff_getElem.1 hm
    have hwp := (mem_outM hok.2 hlen hp hr).1 htp
    have hpw : p < w.length := by omega
    have hwv : w[p] = (i : Int) := by
      rw [List.getElem?_eq_getElem hpw] at hwp
      exact Option.some.inj hwp
    have hwant : Wants l tps[p] (i : Int) := by
      rcases h.inv.at' p _ _ hwp (List.getElem?_eq_getElem hp) with h1 | h1
      · omega
      · exact h1
    have hsub : tps[p].topic ∈ l[i].subs := by
      obtain ⟨j, e, hj, hs⟩ := hwant
      have : j = i := by omega
      subst this
      exact hs
    unfold goodTp
    rw [List.getElem?_eq_getElem hi]
    simp only [Option.map_some, Option.getD_some, decide_eq_true hsub, decide_eq_true hm, Bool.true_and]
    rw [List.all_eq_true]
    intro k hk
    rw [List.mem_range] at hk
    rw [List.getElem?_eq_getElem hk]
    simp only [Option.map_some, Option.getD_some]
    by_cases hwk : tps[p].topic ∈ l[k].subs
    · have hcold := stepM_none_iff h.still p hp
      unfold hotW at hcold
      rw [hwp, List.getElem?_eq_getElem hp] at hcold
      simp only at hcold
      have h0 : decide ((0 : Int) ≤ (i : Int)) = true := by simp
      rw [h0, Bool.true_and, decide_eq_false_iff_not] at hcold
      rw [outM_length hlen hi, outM_length hlen hk, decide_eq_true hwk, Bool.true_and]
      rcases least_is l tps[p] w with ⟨_, h2⟩ | ⟨j, h1, hj, _, hmin⟩
      · exact absurd hwant (h2 _)
      · rw [h1] at hcold
        have hk2 : ¬ keyLt l w k j := hmin k ⟨k, rfl, hk, hwk⟩
        have hc : ¬ w.count (k : Int) < w.count (j : Int) := fun hlt => hk2 (.inl hlt)
        simp
        omega
    · rw [decide_eq_false hwk]
      simp
  · rw [outM_len, lenTo_sum hlen l.length (Nat.le_refl _), sumN_count l.length h.inv.good, countP_same (l := l) hlen]
    · omega
    · intro p hp hpw
      rw [anyW_iff]
      constructor
      · intro h0
        rcases h.inv.at' p _ _ (List.getElem?_eq_getElem hpw) (List.getElem?_eq_getElem hp) with h1 | h1
        · omega
        · exact ⟨_, h1⟩
      · rintro ⟨x, hx⟩
        rcases h.inv.good w[p] (List.getElem_mem hpw) with h1 | ⟨h1, _⟩
        · exact absurd hx (h.full p tps[p] hp (by rw [List.getElem?_eq_getElem hpw, h1]) (List.getElem?_eq_getElem hp) x)
        · exact h1
end
end Go.Wm

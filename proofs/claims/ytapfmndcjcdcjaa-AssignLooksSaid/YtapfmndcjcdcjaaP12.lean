/-
  The two looks at evenness are the same. Conditions: none.
-/
import Derived.Test.YtapfmndcjcdcjaaD8
set_option linter.all false
namespace Go.Wm
open Go.RowKit Go.Proofs
theorem len_le_sub {α : Type} [DecidableEq α] : ∀ {l1 l2 : List α}, l1.Nodup → (∀ x ∈ l1, x ∈ l2) → l1.length ≤ l2.length
  | [], _, _, _ => Nat.zero_le _
  | x :: l1, l2, hn, hs => by
    rw [List.nodup_cons] at hn
    have hx := hs x (by simp)
    have ih := len_le_sub (l2 := l2.erase x) hn.2 fun y hy => (List.mem_erase_of_ne (show y ≠ x from by rintro rfl; exact hn.1 hy)).2 (hs y (by simp [hy]))
    rw [List.length_erase_of_mem hx] at ih
    have := List.length_pos_of_mem hx
    rw [List.length_cons]
    omega
theorem count_one {x : Tp} : ∀ {L : List (List Tp)}, L.Pairwise (fun r s => ∀ a ∈ r, ∀ b ∈ s, a ≠ b) → (L.countP fun r => decide (x ∈ r)) ≤ 1
  | [], _ => by simp
  | r :: L, h => by
    rw [List.pairwise_cons] at h
    rw [List.countP_cons]
    by_cases hx : x ∈ r
    · have : (L.countP fun r => decide (x ∈ r)) = 0 := by
        rw [List.countP_eq_zero]
        intro s hs
        simp only [decide_eq_true_eq]
        exact fun hxs => h.1 s hs x hx x hxs rfl
      simp [hx, this]
    · have := count_one (x := x) h.2
      simp [hx, this]
theorem apart_of_count {S : Tp → Prop} : ∀ {L : List (List Tp)}, (∀ r ∈ L, ∀ x ∈ r, S x) → (∀ x, S x → (L.countP fun r => decide (x ∈ r)) ≤ 1) → L.Pairwise (fun r s => ∀ a ∈ r, ∀ b ∈ s, a ≠ b)
  | [], _, _ => List.Pairwise.nil
  | r :: L, hS, hc => by
    rw [List.pairwise_cons]
    refine ⟨fun s hs a ha b hb e => ?_, apart_of_count (fun s hs => hS s (by simp [hs])) fun x hx => ?_⟩
    · subst e
      have h1 := hc a (hS r (by simp) a ha)
      rw [List.countP_cons] at h1
      have h2 : 0 < (L.countP fun r => decide (a ∈ r)) := List.countP_pos_iff.2 ⟨s, hs, by simpa using hb⟩
      simp [ha] at h1
      have h3 := h1 s hs
      exact h3 hb
    · have := hc x hx
      rw [List.countP_cons] at this
      omega
theorem nodup_of_take {l : List Tp} (h : ∀ p (hp : p < l.length), l[p] ∉ l.take p) : l.Nodup := by
  unfold List.Nodup
  rw [List.pairwise_iff_getElem]
  intro i j hi hj hij e
  refine h j hj ?_
  rw [← e]
  exact List.mem_take_iff_getElem.2 ⟨i, by omega, rfl⟩
theorem take_of_nodup {l : List Tp} (h : l.Nodup) (p : Nat) (hp : p < l.length) : l[p] ∉ l.take p := by
  intro hm
  obtain ⟨i, hi, e⟩ := List.mem_take_iff_getElem.1 hm
  have := List.pairwise_iff_getElem.1 h i p (by omega) hp (by omega)
  exact this e
section
variable {l : List Mem} {tps : List Tp} {own : List (List Tp)}
theorem getD_mem {i : Nat} (h : i < own.length) : own.getD i [] ∈ own := by
  rw [List.getD_eq_getElem?_getD, List.getElem?_eq_getElem h]
  exact List.getElem_mem h
theorem good_any {i : Nat} {tp : Tp} (h : goodTp l tps own i tp = true) : tp ∈ tps ∧ anyW l tp = true := by
  unfold goodTp at h
  simp only [Bool.and_eq_true, decide_eq_true_eq] at h
  refine ⟨h.2.1, ?_⟩
  cases hi : l[i]? with
  | none => rw [hi] at h; simp at h
  | some m =>
    rw [hi] at h
    unfold anyW
    rw [List.any_eq_true]
    exact ⟨m, List.mem_of_getElem? hi, by simpa using h.1⟩
theorem even_same (hlen0 : True) : evenA l tps own = evenR l tps own := by
  cases hM : okM l with
  | false => simp [evenA, evenR, hM]
  | true =>
  by_cases hnd : tps.Nodup
  · by_cases hlen : own.length = l.length
    · have hsum : lenTo own own.length = own.flatten.length := by rw [lenTo_flat own own.length (Nat.le_refl _), List.take_length]
      simp only [evenA, evenR, hM, decide_eq_true hnd, decide_eq_true hlen, Bool.true_and, hsum, List.countP_eq_length_filter]
      rw [Bool.eq_iff_iff]
      simp only [Bool.and_eq_true, decide_eq_true_eq]
      have hWn : (tps.filter (anyW l)).Nodup := hnd.sublist List.filter_sublist
      constructor
      · rintro ⟨hf, hg, hs⟩
        have hgood : ∀ r ∈ own, ∀ x ∈ r, x ∈ tps ∧ anyW l x = true := by
          intro r hr x hx
          obtain ⟨i, hi, rfl⟩ := List.mem_iff_getElem.1 hr
          have h1 := List.all_eq_true.1 hg i (by simpa using hi)
          have h2 : own.getD i [] = own[i] := by simp [hi]
          rw [h2] at h1
          exact good_any (List.all_eq_true.1 h1 x hx)
        have hf' := hf
        unfold List.Nodup at hf'
        rw [List.pairwise_flatten] at hf'
        refine ⟨?_, ?_⟩
        · rw [List.all_eq_true]
          intro i hi
          have hil : i < own.length := by simpa using hi
          rw [List.all_eq_true]
          intro p hp
          have hpl : p < (own.getD i []).length := by simpa using hp
          unfold goodR
          rw [List.getElem?_eq_getElem hpl]
          simp only [Bool.and_eq_true, Bool.not_eq_true', decide_eq_false_iff_not]
          exact ⟨List.all_eq_true.1 (List.all_eq_true.1 hg i hi) _ (List.getElem_mem hpl), take_of_nodup (hf'.1 _ (getD_mem hil)) p hpl⟩
        · rw [List.all_eq_true]
          intro tp htp
          have h1 : metN own tp ≤ 1 := count_one hf'.2
          have h2 : anyW l tp = true → metN own tp = 1 := fun haw => by
            have hin : tp ∈ own.flatten := by
              by_cases hin : tp ∈ own.flatten
              · exact hin
              · have := len_le_sub (l1 := tp :: own.flatten) (l2 := tps.filter (anyW l)) (List.nodup_cons.2 ⟨hin, hf⟩) (fun x hx => by
                  rcases List.mem_cons.1 hx with rfl | hx
                  · exact List.mem_filter.2 ⟨htp, haw⟩
                  · obtain ⟨r, hr, hxr⟩ := List.mem_flatten.1 hx
                    exact List.mem_filter.2 (hgood r hr x hxr))
                rw [List.length_cons] at this
                omega
            obtain ⟨r, hr, hxr⟩ := List.mem_flatten.1 hin
            have : 0 < metN own tp := List.countP_pos_iff.2 ⟨r, hr, by simpa using hxr⟩
            omega
          unfold okTp
          cases haw : anyW l tp with
          | true => rw [h2 haw]; rfl
          | false => simp; omega
      · rintro ⟨hg, hk⟩
        have hgr : ∀ i (hi : i < own.length) p (hp : p < (own.getD i []).length), goodTp l tps own i (own.getD i [])[p] = true ∧ (own.getD i [])[p] ∉ (own.getD i []).take p := by
          intro i hi p hp
          have h1 := List.all_eq_true.1 (List.all_eq_true.1 hg i (by simpa using hi)) p (by simpa using hp)
          unfold goodR at h1
          rw [List.getElem?_eq_getElem hp] at h1
          simpa using h1
        have hall : ∀ i (hi : i < own.length), ∀ x ∈ own.getD i [], goodTp l tps own i x = true := by
          intro i hi x hx
          obtain ⟨p, hp, rfl⟩ := List.mem_iff_getElem.1 hx
          exact (hgr i hi p hp).1
        have hgood : ∀ r ∈ own, ∀ x ∈ r, x ∈ tps ∧ anyW l x = true := by
          intro r hr x hx
          obtain ⟨i, hi, rfl⟩ := List.mem_iff_getElem.1 hr
          have h2 : own.getD i [] = own[i] := by simp [hi]
          exact good_any (hall i hi x (by rw [h2]; exact hx))
        have hmet : ∀ x, x ∈ tps → metN own x ≤ 1 ∧ (anyW l x = true → metN own x = 1) := by
          intro x hx
          have h1 := List.all_eq_true.1 hk x hx
          unfold okTp at h1
          simp only [Bool.not_eq_true', Bool.or_eq_false_iff, Bool.and_eq_false_iff, decide_eq_false_iff_not, Bool.not_eq_false', decide_eq_true_eq] at h1
          refine ⟨by omega, fun haw => ?_⟩
          rcases h1.1 with h2 | h2
          · rw [haw] at h2; cases h2
          · exact h2
        have hf : own.flatten.Nodup := by
          unfold List.Nodup
          rw [List.pairwise_flatten]
          refine ⟨fun r hr => ?_, apart_of_count (S := fun x => x ∈ tps) (fun r hr x hx => (hgood r hr x hx).1) fun x hx => (hmet x hx).1⟩
          obtain ⟨i, hi, rfl⟩ := List.mem_iff_getElem.1 hr
          have h2 : own.getD i [] = own[i] := by simp [hi]
          rw [← h2]
          exact nodup_of_take fun p hp => (hgr i hi p hp).2
        refine ⟨hf, ?_, ?_⟩
        · rw [List.all_eq_true]
          intro i hi
          rw [List.all_eq_true]
          exact hall i (by simpa using hi)
        · have h1 := len_le_sub (l1 := own.flatten) (l2 := tps.filter (anyW l)) hf (fun x hx => by
            obtain ⟨r, hr, hxr⟩ := List.mem_flatten.1 hx
            exact List.mem_filter.2 (hgood r hr x hxr))
          have h2 := len_le_sub (l1 := tps.filter (anyW l)) (l2 := own.flatten) hWn (fun x hx => by
            have h3 := List.mem_filter.1 hx
            have h4 := (hmet x h3.1).2 h3.2
            have : 0 < metN own x := by omega
            obtain ⟨r, hr, hxr⟩ := List.countP_pos_iff.1 this
            exact List.mem_flatten.2 ⟨r, hr, by simpa using hxr⟩)
          omega
    · simp [evenA, evenR, hlen]
  · simp [evenA, evenR, hnd]
end
end Go.Wm

/-
  The order in which members stand does not matter, if their names are apart. Conditions: none.
-/
import Derived.Test.YtapfmndcjcdcjaaP7
set_option linter.all false
namespace Go.Wm
open Go.RowKit Go.Proofs

/-- The least one by a comparison that is an order. -/
theorem minBy_min (c : Int → Int → Int) (S : Int → Prop) (co : ∀ x y z, S x → S y → S z → c x z < 0 → c x y < 0 ∨ c y z < 0) (asy : ∀ x y, S x → S y → c x y < 0 → ¬ c y x < 0) : ∀ (r : List Int) (x : Int), (∀ y ∈ x :: r, S y) →
    ∀ y ∈ x :: r, ¬ c y (r.foldl (fun m y => if c y m < 0 then y else m) x) < 0
  | [], x, hS, y, hy => by
    simp at hy
    subst hy
    exact fun h => asy _ _ (hS _ (by simp)) (hS _ (by simp)) h h
  | z :: r, x, hS, y, hy => by
    rw [List.foldl_cons]
    have hx := hS x (by simp)
    have hz := hS z (by simp)
    by_cases h : c z x < 0
    · rw [if_pos h]
      have ih := minBy_min c S co asy r z (fun q hq => hS q (List.mem_cons_of_mem _ hq))
      have hm : S (r.foldl (fun m y => if c y m < 0 then y else m) z) := hS _ (List.mem_cons_of_mem _ (foldl_mem c r z))
      rcases List.mem_cons.1 hy with rfl | hy
      · intro h2
        rcases co _ z _ hx hz hm h2 with h3 | h3
        · exact asy _ _ hx hz h3 h
        · exact ih z (by simp) h3
      · exact ih y hy
    · rw [if_neg h]
      have hS' : ∀ q ∈ x :: r, S q := fun q hq => by
        rcases List.mem_cons.1 hq with rfl | hq
        · exact hx
        · exact hS q (by simp [hq])
      have ih := minBy_min c S co asy r x hS'
      have hm : S (r.foldl (fun m y => if c y m < 0 then y else m) x) := hS' _ (foldl_mem c r x)
      rcases List.mem_cons.1 hy with rfl | hy
      · exact ih y (by simp)
      · rcases List.mem_cons.1 hy with rfl | hy
        · intro h2
          rcases co _ x _ hz hx hm h2 with h3 | h3
          · exact h h3
          · exact ih x (by simp) h3
        · exact ih y (by simp [hy])

def idL (l : List Mem) (i : Nat) : List UInt8 := ((l[i]?).map (·.id.data.toList)).getD []
theorem idL_eq {l : List Mem} {i : Nat} (h : i < l.length) : idL l i = l[i].id.data.toList := by simp [idL, h]
/-- Fewer, or as many and the lesser name. -/
def keyLt (l : List Mem) (w : List Int) (i j : Nat) : Prop := w.count (i : Int) < w.count (j : Int) ∨ (w.count (i : Int) = w.count (j : Int) ∧ idL l i < idL l j)
theorem cmp_key {l : List Mem} {w : List Int} {i j : Nat} (hi : i < l.length) (hj : j < l.length) : cmpM l (cnts l.length w) (i : Int) (j : Int) < 0 ↔ keyLt l w i j := by
  rw [cmpM_neg rfl hi hj, keyLt, idL_eq hi, idL_eq hj]
theorem key_co {l : List Mem} {w : List Int} {i j q : Nat} (h : keyLt l w i q) : keyLt l w i j ∨ keyLt l w j q := by
  unfold keyLt at *
  by_cases a : w.count (i : Int) < w.count (j : Int)
  · exact .inl (.inl a)
  · by_cases b : w.count (j : Int) < w.count (q : Int)
    · exact .inr (.inl b)
    · rcases h with h | ⟨h1, h2⟩
      · omega
      · by_cases c : idL l i < idL l j
        · exact .inl (.inr ⟨by omega, c⟩)
        · exact .inr (.inr ⟨by omega, List.lt_of_le_of_lt (List.not_lt.1 c) h2⟩)
theorem key_asy {l : List Mem} {w : List Int} {i j : Nat} (h : keyLt l w i j) : ¬ keyLt l w j i := by
  unfold keyLt at *
  rintro (h2 | ⟨h2, h3⟩)
  · rcases h with h | ⟨h, _⟩ <;> omega
  · rcases h with h | ⟨_, h4⟩
    · omega
    · exact List.lt_irrefl _ (List.lt_trans h3 h4)
theorem key_eq {l : List Mem} {w : List Int} {i j : Nat} (h1 : ¬ keyLt l w i j) (h2 : ¬ keyLt l w j i) : idL l i = idL l j := by
  unfold keyLt at *
  have a : w.count (i : Int) = w.count (j : Int) := by
    have := fun h => h1 (.inl h)
    have := fun h => h2 (.inl h)
    omega
  have b : ¬ idL l i < idL l j := fun h => h1 (.inr ⟨a, h⟩)
  have c : ¬ idL l j < idL l i := fun h => h2 (.inr ⟨a.symm, h⟩)
  exact List.le_antisymm (List.not_lt.1 c) (List.not_lt.1 b)
/-- Who has the fewest, said by what it is. -/
theorem least_is (l : List Mem) (tp : Tp) (w : List Int) : (leastW l tp w = -1 ∧ ∀ x, ¬ Wants l tp x) ∨ ∃ i : Nat, leastW l tp w = (i : Int) ∧ i < l.length ∧ Wants l tp (i : Int) ∧ ∀ j : Nat, Wants l tp (j : Int) → ¬ keyLt l w j i := by
  rcases leastM_spec l tp (cnts l.length w) with ⟨h1, h2⟩ | h
  · refine .inl ⟨h1, fun x hx => ?_⟩
    have := whoL_wants.2 hx
    rw [h2] at this
    cases this
  · obtain ⟨i, hi, hil⟩ := whoL_mem h
    refine .inr ⟨i, hi, hil, hi ▸ whoL_wants.1 h, fun j hj => ?_⟩
    have hjm := whoL_wants.2 hj
    have hjl : j < l.length := by
      obtain ⟨j', e, hl, _⟩ := hj
      omega
    rw [← cmp_key hjl hil]
    rw [← hi]
    have hne : whoL l tp l.length ≠ [] := fun h0 => by rw [h0] at hjm; cases hjm
    unfold leastM
    split
    · rename_i h0; exact absurd h0 hne
    · rename_i hne2
      have hall : ∀ y ∈ whoL l tp l.length, ∃ i : Nat, y = (i : Int) ∧ i < l.length := fun y hy => whoL_mem hy
      generalize whoL l tp l.length = ws at *
      cases ws with
      | nil => exact absurd rfl hne
      | cons x r =>
        refine minBy_min (cmpM l (cnts l.length w)) (fun x => ∃ i : Nat, x = (i : Int) ∧ i < l.length) ?_ ?_ r x ?_ _ hjm
        · rintro _ _ _ ⟨a, rfl, ha⟩ ⟨b, rfl, hb⟩ ⟨c, rfl, hc⟩ h5
          rw [cmp_key ha hc] at h5
          rw [cmp_key ha hb, cmp_key hb hc]
          exact key_co h5
        · rintro _ _ ⟨a, rfl, ha⟩ ⟨b, rfl, hb⟩ h5
          rw [cmp_key ha hb] at h5
          rw [cmp_key hb ha]
          exact key_asy h5
        · exact hall

/-! ### the other way round -/
def revI (n : Nat) (x : Int) : Int := if 0 ≤ x then (n : Int) - 1 - x else x
theorem revI_nat {n i : Nat} (h : i < n) : revI n (i : Int) = ((n - 1 - i : Nat) : Int) := by
  unfold revI
  rw [if_pos (by omega)]
  omega
theorem revI_inj {n : Nat} (x y : Int) (hx : Val n x) (hy : Val n y) (h : revI n x = revI n y) : x = y := by
  unfold revI at h
  rcases hx with rfl | ⟨h1, h2⟩ <;> rcases hy with rfl | ⟨h3, h4⟩
  · rfl
  · rw [if_neg (by omega), if_pos h3] at h; omega
  · rw [if_pos h1, if_neg (by omega)] at h; omega
  · rw [if_pos h1, if_pos h3] at h; omega
theorem val_nat {n i : Nat} (h : i < n) : Val n (i : Int) := .inr ⟨by omega, by omega⟩
section
variable {l : List Mem} {tps : List Tp}
theorem idL_rev {i : Nat} (h : i < l.length) : idL l.reverse (l.length - 1 - i) = idL l i := by
  unfold idL
  rw [List.getElem?_reverse (by omega), show l.length - 1 - (l.length - 1 - i) = i by omega]
theorem key_rev {w : List Int} (hg : Good l.length w) {i j : Nat} (hi : i < l.length) (hj : j < l.length) : keyLt l.reverse (w.map (revI l.length)) (l.length - 1 - i) (l.length - 1 - j) ↔ keyLt l w i j := by
  unfold keyLt
  rw [← revI_nat hi, ← revI_nat hj, count_map_inj revI_inj (val_nat hi) hg, count_map_inj revI_inj (val_nat hj) hg, idL_rev hi, idL_rev hj]
theorem wants_rev {tp : Tp} {i : Nat} (h : i < l.length) : Wants l.reverse tp ((l.length - 1 - i : Nat) : Int) ↔ Wants l tp (i : Int) := by
  unfold Wants
  constructor
  · rintro ⟨j, e, hj, hs⟩
    have : j = l.length - 1 - i := by omega
    subst this
    refine ⟨i, rfl, h, ?_⟩
    have e2 : l.reverse[l.length - 1 - i] = l[i] := by
      rw [List.getElem_reverse]
      congr 1
      omega
    rw [e2] at hs
    exact hs
  · rintro ⟨j, e, hj, hs⟩
    have : j = i := by omega
    subst this
    refine ⟨l.length - 1 - j, rfl, by rw [List.length_reverse]; omega, ?_⟩
    have e2 : l.reverse[l.length - 1 - j]'(by rw [List.length_reverse]; omega) = l[j] := by
      rw [List.getElem_reverse]
      congr 1
      omega
    rw [e2]
    exact hs
theorem id_inj (hok : okM l = true) {i j : Nat} (hi : i < l.length) (hj : j < l.length) (h : idL l i = idL l j) : i = j := by
  simp only [okM, Bool.and_eq_true, decide_eq_true_eq] at hok
  have hn := hok.1
  rw [idL_eq hi, idL_eq hj] at h
  have h2 : l[i].id = l[j].id := by
    have : l[i].id.data = l[j].id.data := Array.toList_inj.1 h
    cases e1 : l[i].id; cases e2 : l[j].id
    rw [e1, e2] at this
    simpa using this
  have h3 : (l.map (·.id))[i]'(by simpa using hi) = (l.map (·.id))[j]'(by simpa using hj) := by simpa using h2
  have hp := List.pairwise_iff_getElem.1 hn
  rcases Nat.lt_trichotomy i j with h4 | h4 | h4
  · exact absurd h3 (hp i j (by simpa using hi) (by simpa using hj) h4)
  · exact h4
  · exact absurd h3.symm (hp j i (by simpa using hj) (by simpa using hi) h4)
theorem least_rev (hok : okM l = true) (tp : Tp) {w : List Int} (hg : Good l.length w) : leastW l.reverse tp (w.map (revI l.length)) = revI l.length (leastW l tp w) := by
  have hlr : l.reverse.length = l.length := List.length_reverse
  rcases least_is l tp w with ⟨h1, h2⟩ | ⟨i, h1, hi, hw, hmin⟩
  · rcases least_is l.reverse tp (w.map (revI l.length)) with ⟨h3, _⟩ | ⟨j, _, hj, hwj, _⟩
    · rw [h1, h3]; rfl
    · rw [hlr] at hj
      have := (wants_rev (l := l) (tp := tp) (i := l.length - 1 - j) (by omega)).1 (by rw [show l.length - 1 - (l.length - 1 - j) = j by omega]; exact hwj)
      exact absurd this (h2 _)
  · rcases least_is l.reverse tp (w.map (revI l.length)) with ⟨_, h4⟩ | ⟨j, h3, hj, hwj, hminj⟩
    · exact absurd ((wants_rev hi).2 hw) (h4 _)
    · rw [hlr] at hj
      rw [h1, h3, revI_nat hi]
      have hjj : l.length - 1 - (l.length - 1 - j) = j := by omega
      have hq : l.length - 1 - j < l.length := by omega
      have hwq : Wants l tp ((l.length - 1 - j : Nat) : Int) := (wants_rev hq).1 (by rw [hjj]; exact hwj)
      have k1 := hmin _ hwq
      have k2 := hminj _ ((wants_rev hi).2 hw)
      have k3 : ¬ keyLt l w i (l.length - 1 - j) := fun h => k2 (by
        have := (key_rev hg hi hq).2 h
        rw [hjj] at this
        exact this)
      have := id_inj hok hi hq (key_eq k3 k1)
      congr 1
      omega
theorem okM_rev : okM l.reverse = okM l := by
  unfold okM
  rw [List.map_reverse]
  congr 1
  · rw [Bool.eq_iff_iff]; simp only [decide_eq_true_eq]; unfold List.Nodup; rw [List.pairwise_reverse]; exact ⟨fun h => h.imp fun h => h.symm, fun h => h.imp fun h => h.symm⟩
  · rw [Bool.eq_iff_iff]; simp
theorem bare_init (hb : ∀ m ∈ l, m.own = []) : wInit l tps = List.replicate tps.length (-1) := by
  unfold wInit
  rw [List.eq_replicate_iff]
  refine ⟨by simp, fun x hx => ?_⟩
  obtain ⟨tp, _, rfl⟩ := List.mem_map.1 hx
  exact idxF_no fun m hm => by simp [hb m hm]
theorem rev_tgt (hok : okM l = true) (hb : ∀ m ∈ l, m.own = []) {w : List Int} (h : IsTgt l tps w) : IsTgt l.reverse tps (w.map (revI l.length)) := by
  have H : Eqv l l.reverse tps (revI l.length) := ⟨fun tp _ w hw => least_rev hok tp hw, rfl, fun x h1 h2 => by unfold revI; rw [if_pos h1]; omega, revI_inj⟩
  refine H.tgt ?_ h ?_
  · rw [bare_init hb, bare_init (fun m hm => hb m (List.mem_reverse.1 hm)), List.map_replicate]; rfl
  · refine ⟨by rw [List.length_map]; exact h.inv.len, fun p x tp hp ht => ?_⟩
    rw [List.getElem?_map] at hp
    cases hx : w[p]? with
    | none => rw [hx] at hp; cases hp
    | some y =>
      rw [hx] at hp
      cases hp
      rcases h.inv.at' p y tp hx ht with h1 | h1
      · rw [h1]; exact .inl rfl
      · have h2 := h1
        obtain ⟨i, rfl, hi, _⟩ := h2
        rw [revI_nat hi]
        exact .inr ((wants_rev hi).2 h1)
theorem outM_rev {w : List Int} (hg : Good l.length w) : outM l.length tps (w.map (revI l.length)) = (outM l.length tps w).reverse := by
  apply List.ext_getElem?
  intro i
  by_cases hi : i < l.length
  · rw [List.getElem?_reverse (by rw [outM_len]; exact hi), outM_len, outM_get hi, outM_get (by omega)]
    congr 1
    rw [List.zip_map_right, List.filter_map, List.map_map]
    have e1 : (Prod.fst ∘ Prod.map (id : Tp → Tp) (revI l.length)) = Prod.fst := by funext x; rfl
    rw [e1]
    congr 1
    apply List.filter_congr
    intro x hx
    have hv := hg x.2 (List.of_mem_zip (a := x.1) (b := x.2) hx).2
    simp only [Function.comp, Prod.map]
    rw [Bool.eq_iff_iff]
    simp only [decide_eq_true_eq]
    unfold revI
    rcases hv with h1 | ⟨h1, h2⟩
    · rw [h1]; simp
    · rw [if_pos h1]; omega
  · rw [List.getElem?_eq_none (by rw [outM_len]; omega), List.getElem?_eq_none (by rw [List.length_reverse, outM_len]; omega)]
theorem outM_sub {n i : Nat} {w : List Int} {r : List Tp} (hw : w.length = tps.length) (h : (outM n tps w)[i]? = some r) : r.Sublist tps := by
  have hi : i < n := by
    have := (List.getElem?_eq_some_iff.1 h).1
    rw [outM_len] at this
    exact this
  rw [outM_get hi] at h
  cases h
  refine List.Sublist.trans (List.Sublist.map _ (List.filter_sublist)) ?_
  rw [show (fun x : Tp × Int => x.1) = Prod.fst from rfl, List.map_fst_zip (by omega)]
  exact List.Sublist.refl _
end
end Go.Wm

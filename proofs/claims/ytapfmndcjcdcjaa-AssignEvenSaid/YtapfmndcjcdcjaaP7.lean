/-
  When members are named otherwise, the target is named otherwise alike. Conditions: none.
-/
import Derived.Test.YtapfmndcjcdcjaaP6
import Derived.Test.YtapfmndcjcdcjaaB3
set_option linter.all false
namespace Go.Wm
open Go.RowKit Go.Proofs

/-- A member's number, or nobody. -/
def Val (n : Nat) (x : Int) : Prop := x = -1 ∨ (0 ≤ x ∧ x < n)
def Good (n : Nat) (w : List Int) : Prop := ∀ x ∈ w, Val n x
theorem Good.set {n : Nat} {w : List Int} (h : Good n w) (p : Nat) {x : Int} (hx : Val n x) : Good n (w.set p x) := fun y hy => by
  rcases List.mem_or_eq_of_mem_set hy with hy | hy
  · exact h y hy
  · rw [hy]; exact hx
theorem least_val (l : List Mem) (tp : Tp) (w : List Int) : Val l.length (leastW l tp w) := by
  rcases leastW_or l tp (cnts l.length w) with h | ⟨i, h, hi, _⟩
  · exact .inl h
  · exact .inr ⟨by show 0 ≤ leastM _ _ _; omega, by show leastM _ _ _ < _; omega⟩
theorem WInv.good {l : List Mem} {tps : List Tp} {w : List Int} (h : WInv l tps w) : Good l.length w := by
  intro x hx
  obtain ⟨p, hp⟩ := List.getElem?_of_mem hx
  have hpl : p < w.length := (List.getElem?_eq_some_iff.1 hp).1
  have hpt : p < tps.length := by rw [← h.len]; exact hpl
  rcases h.at' p x tps[p] hp (List.getElem?_eq_getElem hpt) with h1 | ⟨i, h1, hi, _⟩
  · exact .inl h1
  · exact .inr ⟨by omega, by omega⟩
/-- The same by other names. -/
structure Eqv (l l' : List Mem) (tps : List Tp) (r : Int → Int) : Prop where
  least : ∀ tp ∈ tps, ∀ w, Good l.length w → leastW l' tp (w.map r) = r (leastW l tp w)
  neg : r (-1) = -1
  pos : ∀ x : Int, 0 ≤ x → x < l.length → 0 ≤ r x
  inj : ∀ x y, Val l.length x → Val l.length y → r x = r y → x = y

section
variable {l l' : List Mem} {tps : List Tp} {r : Int → Int}
theorem count_map_inj {n : Nat} (hinj : ∀ x y, Val n x → Val n y → r x = r y → x = y) {x : Int} (hx : Val n x) : ∀ {w : List Int}, Good n w → (w.map r).count (r x) = w.count x
  | [], _ => rfl
  | y :: w, h => by
    rw [List.map_cons, List.count_cons, List.count_cons, count_map_inj hinj hx (fun z hz => h z (by simp [hz]))]
    have hy := h y (by simp)
    by_cases e : y = x
    · simp [e]
    · have : ¬ r y = r x := fun h2 => e (hinj y x hy hx h2)
      simp [e, this]
theorem Eqv.sign (H : Eqv l l' tps r) {x : Int} (hx : Val l.length x) : r x < 0 ↔ x < 0 := by
  rcases hx with rfl | ⟨h1, h2⟩
  · rw [H.neg]
  · have := H.pos x h1 h2
    omega
theorem fillW_good {w : List Int} (h : Good l.length w) : ∀ p, Good l.length (fillW l tps w p)
  | 0 => h
  | p + 1 => by
    unfold fillW
    split
    · split
      · exact (fillW_good h p).set p (least_val _ _ _)
      · exact fillW_good h p
    · exact fillW_good h p
theorem Eqv.fill (H : Eqv l l' tps r) {w : List Int} (h : Good l.length w) : ∀ p, fillW l' tps (w.map r) p = (fillW l tps w p).map r
  | 0 => rfl
  | p + 1 => by
    have ih := H.fill h p
    have hg := fillW_good (tps := tps) h p
    unfold fillW
    rw [ih, List.getElem?_map]
    cases hx : (fillW l tps w p)[p]? with
    | none => rfl
    | some x =>
      cases ht : tps[p]? with
      | none => rfl
      | some tp =>
        simp only [Option.map_some]
        have hv := hg x (List.mem_of_getElem? hx)
        by_cases h0 : x < 0
        · rw [if_pos h0, if_pos ((H.sign hv).2 h0), H.least tp (List.mem_of_getElem? ht) _ hg, List.map_set]
        · rw [if_neg h0, if_neg (fun h1 => h0 ((H.sign hv).1 h1))]
theorem Eqv.hot (H : Eqv l l' tps r) {w : List Int} (h : Good l.length w) (p : Nat) : hotW l' tps (w.map r) p = hotW l tps w p := by
  unfold hotW
  rw [List.getElem?_map]
  cases hx : w[p]? with
  | none => rfl
  | some x =>
    cases ht : tps[p]? with
    | none => rfl
    | some tp =>
      simp only [Option.map_some]
      have hv := h x (List.mem_of_getElem? hx)
      rw [H.least tp (List.mem_of_getElem? ht) _ h, count_map_inj H.inj hv h, count_map_inj H.inj (least_val l tp w) h]
      have := H.sign hv
      have e : decide (0 ≤ r x) = decide (0 ≤ x) := by rw [Bool.eq_iff_iff]; simp; omega
      rw [e]
theorem Eqv.step (H : Eqv l l' tps r) {w : List Int} (h : Good l.length w) : stepM l' tps (w.map r) = (stepM l tps w).map (List.map r) := by
  unfold stepM
  rw [show hotW l' tps (w.map r) = hotW l tps w from funext (H.hot h)]
  cases (List.range tps.length).find? (hotW l tps w) with
  | none => rfl
  | some p =>
    cases ht : tps[p]? with
    | none => simp [ht]
    | some tp => simp only [ht, Option.map_some, H.least tp (List.mem_of_getElem? ht) _ h, List.map_set]
theorem stepM_good {w w' : List Int} (h : Good l.length w) (hs : stepM l tps w = some w') : Good l.length w' := by
  unfold stepM at hs
  split at hs
  · split at hs
    · cases hs; exact h.set _ (least_val _ _ _)
    · cases hs
  · cases hs
theorem Moved.good {w w' : List Int} (hm : Moved l tps w w') (h : Good l.length w) : Good l.length w' := by
  induction hm with
  | refl => exact h
  | step _ h2 ih => exact stepM_good ih h2
theorem Eqv.moved (H : Eqv l l' tps r) {w w' : List Int} (h : Good l.length w) (hm : Moved l tps w w') : Moved l' tps (w.map r) (w'.map r) := by
  induction hm with
  | refl => exact .refl _
  | step h1 h2 ih => exact .step ih (by rw [H.step (h1.good h), h2]; rfl)
/-- The target by other names. -/
theorem Eqv.tgt (H : Eqv l l' tps r) (hw : wInit l' tps = (wInit l tps).map r) {w : List Int} (h : IsTgt l tps w) (hinv : WInv l' tps (w.map r)) : IsTgt l' tps (w.map r) := by
  have hg := (wInit_inv l tps).good
  refine ⟨?_, hinv, ?_⟩
  · rw [hw, H.fill hg]
    exact H.moved (fillW_good hg _) h.moved
  · rw [H.step h.inv.good, h.still]; rfl
end
theorem eqv_id {l l' : List Mem} {tps : List Tp} (h : ∀ tp ∈ tps, ∀ w, Good l.length w → leastW l' tp w = leastW l tp w) : Eqv l l' tps id :=
  ⟨fun tp ht w hw => by rw [List.map_id]; exact h tp ht w hw, rfl, fun x h _ => h, fun x y _ _ h => h⟩

theorem minBy_congr {c c' : Int → Int → Int} {w : List Int} (h : ∀ x ∈ w, ∀ y ∈ w, c x y = c' x y) : minBy c w = minBy c' w := by
  cases w with
  | nil => rfl
  | cons x r =>
    have key : ∀ (r : List Int) (x : Int), (∀ a ∈ x :: r, ∀ b ∈ x :: r, c a b = c' a b) → r.foldl (fun m y => if c y m < 0 then y else m) x = r.foldl (fun m y => if c' y m < 0 then y else m) x := by
      intro r
      induction r with
      | nil => intro x _; rfl
      | cons y r ih =>
        intro x h
        rw [List.foldl_cons, List.foldl_cons, h y (by simp) x (by simp)]
        refine ih _ fun a ha b hb => h a ?_ b ?_
        · rcases List.mem_cons.1 ha with rfl | ha
          · split <;> simp
          · simp [ha]
        · rcases List.mem_cons.1 hb with rfl | hb
          · split <;> simp
          · simp [hb]
    exact key r x h
theorem leastM_congr {l l' : List Mem} {tp : Tp} {many many' : List Int} (hw : whoL l tp l.length = whoL l' tp l'.length) (hc : ∀ x ∈ whoL l tp l.length, ∀ y ∈ whoL l tp l.length, cmpM l' many' x y = cmpM l many x y) : leastM l' tp many' = leastM l tp many := by
  unfold leastM
  rw [← hw]
  split
  · rfl
  · exact minBy_congr hc

/-! ### one member more, that wants nothing -/
theorem idxF_append_no {α : Type} {l : List α} {f : α → Bool} {m : α} (h : f m = false) : idxF (l ++ [m]) f = idxF l f := by
  have h1 : (l ++ [m]).take (l.length + 1) = l ++ [m] := List.take_of_length_le (by simp)
  have h2 := idxF_take_succ (l := l ++ [m]) (f := f) (i := l.length) (by simp)
  rw [h1] at h2
  rw [h2, if_neg (fun hh => by rw [List.getElem_append_right (by omega)] at hh; simp [h] at hh)]
  simp
section
variable {l : List Mem} {m : Mem} {tps : List Tp}
theorem whoL_more (hs : m.subs = []) (tp : Tp) : whoL l tp l.length = whoL (l ++ [m]) tp (l ++ [m]).length := by
  rw [List.length_append, List.length_singleton, whoL_succ (by simp)]
  have e1 : ¬ tp.topic ∈ ((l ++ [m])[l.length]'(by simp)).subs := by
    rw [List.getElem_append_right (by omega)]
    simp [hs]
  rw [if_neg e1, List.append_nil]
  unfold whoL
  congr 1
  apply List.filter_congr
  intro i hi
  rw [List.mem_range] at hi
  rw [List.getElem?_append_left hi]
theorem cnts_getD {n i : Nat} (h : i < n) (w : List Int) : (cnts n w).getD i 0 = ((w.count (i : Int) : Nat) : Int) := by simp [cnts, h]
theorem least_more (hs : m.subs = []) (tp : Tp) (w : List Int) : leastW (l ++ [m]) tp w = leastW l tp w := by
  refine leastM_congr (whoL_more hs tp) fun x hx y hy => ?_
  obtain ⟨i, rfl, hi⟩ := whoL_mem hx
  obtain ⟨j, rfl, hj⟩ := whoL_mem hy
  unfold cmpM
  simp only [Int.toNat_natCast]
  have hlen : (l ++ [m]).length = l.length + 1 := by simp
  rw [cnts_getD (by omega), cnts_getD (by omega), cnts_getD hi, cnts_getD hj, List.getElem?_append_left hi, List.getElem?_append_left hj]
theorem more_tgt (hs : m.subs = []) {w : List Int} (h : IsTgt l tps w) : IsTgt (l ++ [m]) tps w ∧ outM (l ++ [m]).length tps w = outM l.length tps w ++ [[]] := by
  have H : Eqv l (l ++ [m]) tps id := eqv_id fun tp _ w _ => least_more hs tp w
  have hw : wInit (l ++ [m]) tps = (wInit l tps).map id := by
    rw [List.map_id]
    unfold wInit
    apply List.map_congr_left
    intro tp _
    exact idxF_append_no (by simp [hs])
  have hinv : WInv (l ++ [m]) tps (w.map id) := by
    rw [List.map_id]
    refine ⟨h.inv.len, fun p x tp hp ht => ?_⟩
    rcases h.inv.at' p x tp hp ht with h1 | ⟨i, h1, hi, h2⟩
    · exact .inl h1
    · exact .inr ⟨i, h1, by simp; omega, by rw [List.getElem_append_left hi]; exact h2⟩
  have ht := H.tgt hw h hinv
  rw [List.map_id] at ht
  refine ⟨ht, ?_⟩
  rw [List.length_append, List.length_singleton]
  unfold outM
  rw [List.range_succ, List.map_append]
  congr 1
  simp only [List.map_cons, List.map_nil, List.cons.injEq, and_true]
  rw [List.map_eq_nil_iff, List.filter_eq_nil_iff]
  intro x hx
  have := h.inv.good x.2 (List.of_mem_zip (a := x.1) (b := x.2) hx).2
  rcases this with h1 | ⟨h1, h2⟩
  · simp [h1]
  · simp; omega
end
end Go.Wm

/-
  The target, in plain Lean. Conditions: none.
-/
import Derived.Test.YtbhgbfhgdccghaaGreatP5
import Derived.Test.YtbhgbfhgdccghaaGreatS9
import Derived.Test.YtbhgbfhgdccghaaGreatCoB
set_option linter.all false
namespace Go.Wm
open Go.RowKit Go.Proofs
attribute [local irreducible] RG CG EG WA Loc Det Alc CT Exit.then Exit.inBlock Code.wp bodyPost
/-- How many of w are each of 0 .. n-1. -/
def cnts (n : Nat) (w : List Int) : List Int := (List.range n).map fun m : Nat => ((w.count (m : Int) : Nat) : Int)
theorem cnts_len (n : Nat) (w : List Int) : (cnts n w).length = n := by simp [cnts]
theorem cnts_get {n i : Nat} {w : List Int} (h : i < n) : (cnts n w)[i]? = some ((w.count (i : Int) : Nat) : Int) := by
  simp [cnts, h]
theorem cnts_bd {n : Nat} {w : List Int} {x : Int} (h : x ∈ cnts n w) : 0 ≤ x ∧ x ≤ w.length := by
  unfold cnts at h
  obtain ⟨m, _, rfl⟩ := List.mem_map.1 h
  have := List.count_le_length (l := w) (a := (m : Int))
  omega
theorem more_get (l : List Int) (x : Int) (i : Nat) (h : i < l.length) : (moreM l x)[i]? = some (l[i] + if x = (i : Int) then 1 else 0) := by
  unfold moreM
  by_cases h0 : 0 ≤ x
  · rw [if_pos h0, List.getElem?_set]
    by_cases hx : x.toNat = i
    · have : x = (i : Int) := by omega
      subst this
      simp [h]
    · have : ¬ x = (i : Int) := by omega
      simp [hx, this, h]
  · have : ¬ x = (i : Int) := by omega
    simp [h0, this, h]
theorem less_get (l : List Int) (x : Int) (i : Nat) (h : i < l.length) : (lessM l x)[i]? = some (l[i] - if x = (i : Int) then 1 else 0) := by
  unfold lessM
  by_cases h0 : 0 ≤ x
  · rw [if_pos h0, List.getElem?_set]
    by_cases hx : x.toNat = i
    · have : x = (i : Int) := by omega
      subst this
      simp [h]
    · have : ¬ x = (i : Int) := by omega
      simp [hx, this, h]
  · have : ¬ x = (i : Int) := by omega
    simp [h0, this, h]
theorem more_len (l : List Int) (x : Int) : (moreM l x).length = l.length := by unfold moreM; split <;> simp
theorem less_len (l : List Int) (x : Int) : (lessM l x).length = l.length := by unfold lessM; split <;> simp
theorem give_cnts {n p : Nat} {w : List Int} {m : Int} (hp : p < w.length) : moreM (lessM (cnts n w) w[p]) m = cnts n (w.set p m) := by
  apply List.ext_getElem?
  intro i
  by_cases hi : i < n
  · have h1 : i < (cnts n w).length := by rw [cnts_len]; exact hi
    have h2 : i < (lessM (cnts n w) w[p]).length := by rw [less_len]; exact h1
    rw [more_get _ _ _ h2, cnts_get hi]
    have h3 := less_get (cnts n w) w[p] i h1
    rw [List.getElem?_eq_getElem h2] at h3
    have h4 := cnts_get (w := w) hi
    rw [List.getElem?_eq_getElem h1] at h4
    rw [Option.some.inj h3, Option.some.inj h4]
    have hc := List.count_set (a := m) (b := (i : Int)) (h := hp)
    rw [hc]
    have hpos : w[p] = (i : Int) → 0 < w.count (i : Int) := fun h => List.count_pos_iff.2 (h ▸ List.getElem_mem hp)
    by_cases e1 : w[p] = (i : Int)
    · have := hpos e1
      by_cases e2 : m = (i : Int) <;> simp [e1, e2] <;> omega
    · by_cases e2 : m = (i : Int) <;> simp [e1, e2]
  · rw [List.getElem?_eq_none (by rw [more_len, less_len, cnts_len]; omega), List.getElem?_eq_none (by rw [cnts_len]; omega)]
/-- Whose each is already. -/
def wInit (l : List Member) (tps : List Tp) : List Int := tps.map fun tp => idxF l fun m => decide (tp ∈ m.own) && decide (tp.topic ∈ m.subs)
def leastW (l : List Member) (tp : Tp) (w : List Int) : Int := leastM l tp (cnts l.length w)
/-- What nobody has is given away, of the first p. -/
def fillW (l : List Member) (tps : List Tp) (w : List Int) : Nat → List Int
  | 0 => w
  | p + 1 => match (fillW l tps w p)[p]?, tps[p]? with
    | some x, some tp => if x < 0 then (fillW l tps w p).set p (leastW l tp (fillW l tps w p)) else fillW l tps w p
    | _, _ => fillW l tps w p
def hotW (l : List Member) (tps : List Tp) (w : List Int) (p : Nat) : Bool := match w[p]?, tps[p]? with
  | some x, some tp => decide (0 ≤ x) && decide ((w.count x : Int) - (w.count (leastW l tp w) : Int) ≥ 2)
  | _, _ => false
/-- The first that has to move, moves. -/
def stepM (l : List Member) (tps : List Tp) (w : List Int) : Option (List Int) := match (List.range tps.length).find? (hotW l tps w) with
  | some p => match tps[p]? with
    | some tp => some (w.set p (leastW l tp w))
    | none => none
  | none => none
inductive Moved (l : List Member) (tps : List Tp) : List Int → List Int → Prop
  | refl (w : List Int) : Moved l tps w w
  | step {w w' w'' : List Int} : Moved l tps w w' → stepM l tps w' = some w'' → Moved l tps w w''
/-- What each has. -/
def outM (n : Nat) (tps : List Tp) (w : List Int) : List (List Tp) := (List.range n).map fun m : Nat => ((tps.zip w).filter fun x => decide (x.2 = (m : Int))).map (·.1)
theorem foldl_mem (cmp : Int → Int → Int) : ∀ (r : List Int) (x : Int), r.foldl (fun m y => if cmp y m < 0 then y else m) x ∈ x :: r
  | [], x => by simp
  | y :: r, x => by
    rw [List.foldl_cons]
    have := foldl_mem cmp r (if cmp y x < 0 then y else x)
    rcases List.mem_cons.1 this with h | h
    · rw [h]
      split <;> simp
    · exact List.mem_cons_of_mem _ (List.mem_cons_of_mem _ h)
theorem minBy_mem (cmp : Int → Int → Int) : ∀ (l : List Int), l ≠ [] → minBy cmp l ∈ l
  | [], h => absurd rfl h
  | x :: r, _ => foldl_mem cmp r x
theorem leastM_spec (l : List Member) (tp : Tp) (many : List Int) : (leastM l tp many = -1 ∧ whoL l tp l.length = []) ∨ leastM l tp many ∈ whoL l tp l.length := by
  unfold leastM
  split
  · rename_i h; exact .inl ⟨rfl, h⟩
  · rename_i h
    exact .inr (minBy_mem _ _ h)
/-- One who wants it, or nobody. -/
def Wants (l : List Member) (tp : Tp) (x : Int) : Prop := ∃ i : Nat, x = (i : Int) ∧ ∃ h : i < l.length, tp.topic ∈ l[i].subs
theorem whoL_wants {l : List Member} {tp : Tp} {x : Int} : x ∈ whoL l tp l.length ↔ Wants l tp x := by
  unfold whoL Wants
  simp only [List.mem_map, List.mem_filter, List.mem_range]
  constructor
  · rintro ⟨i, ⟨h1, h2⟩, rfl⟩
    refine ⟨i, rfl, h1, ?_⟩
    simpa [List.getElem?_eq_getElem h1] using h2
  · rintro ⟨i, rfl, h1, h2⟩
    exact ⟨i, ⟨h1, by simpa [List.getElem?_eq_getElem h1] using h2⟩, rfl⟩
/-- Each is nobody's or one's who wants it. -/
structure WInv (l : List Member) (tps : List Tp) (w : List Int) : Prop where
  len : w.length = tps.length
  at' : ∀ (p : Nat) (x : Int) (tp : Tp), w[p]? = some x → tps[p]? = some tp → x = -1 ∨ Wants l tp x
theorem leastW_or (l : List Member) (tp : Tp) (many : List Int) : leastM l tp many = -1 ∨ Wants l tp (leastM l tp many) := by
  rcases leastM_spec l tp many with h | h
  · exact .inl h.1
  · exact .inr (whoL_wants.1 h)
theorem leastW_of {l : List Member} {tp : Tp} {x : Int} (hx : Wants l tp x) (many : List Int) : Wants l tp (leastM l tp many) := by
  rcases leastM_spec l tp many with h | h
  · have := whoL_wants.2 hx
    rw [h.2] at this
    cases this
  · exact whoL_wants.1 h
theorem WInv.set {l : List Member} {tps : List Tp} {w : List Int} (h : WInv l tps w) {p : Nat} {tp : Tp} (hp : tps[p]? = some tp) {x : Int} (hx : x = -1 ∨ Wants l tp x) : WInv l tps (w.set p x) := by
  refine ⟨by rw [List.length_set]; exact h.len, fun q y tq hq ht => ?_⟩
  rw [List.getElem?_set] at hq
  split at hq
  · rename_i hpq
    subst hpq
    split at hq
    · cases hq
      rw [hp] at ht
      cases ht
      exact hx
    · cases hq
  · exact h.at' q y tq hq ht
def sumN (f : Nat → Nat) : Nat → Nat
  | 0 => 0
  | n + 1 => sumN f n + f n
theorem sumN_same {f g : Nat → Nat} : ∀ {n : Nat}, (∀ m, m < n → g m = f m) → sumN g n = sumN f n
  | 0, _ => rfl
  | n + 1, h => by rw [sumN, sumN, sumN_same (n := n) (fun m hm => h m (by omega)), h n (by omega)]
theorem sumN_one {f g : Nat → Nat} {j : Nat} : ∀ {n : Nat}, j < n → (∀ m, m < n → m ≠ j → g m = f m) → sumN g n + f j = sumN f n + g j
  | 0, hj, _ => by omega
  | n + 1, hj, h => by
    rw [sumN, sumN]
    by_cases hjn : j = n
    · subst hjn
      have := sumN_same (f := f) (g := g) (n := j) (fun m hm => h m (by omega) (by omega))
      omega
    · have := sumN_one (f := f) (g := g) (n := n) (j := j) (by omega) (fun m hm hne => h m (by omega) hne)
      have := h n (by omega) (Ne.symm hjn)
      omega
theorem sumN_two {f g : Nat → Nat} {i j : Nat} : ∀ {n : Nat}, i < n → j < n → i ≠ j → (∀ m, m < n → m ≠ i → m ≠ j → g m = f m) → sumN g n + f i + f j = sumN f n + g i + g j
  | 0, hi, _, _, _ => by omega
  | n + 1, hi, hj, hij, h => by
    rw [sumN, sumN]
    by_cases h1 : i = n
    · subst h1
      have := sumN_one (f := f) (g := g) (n := i) (j := j) (by omega) (fun m hm hne => h m (by omega) (by omega) hne)
      omega
    · by_cases h2 : j = n
      · subst h2
        have := sumN_one (f := f) (g := g) (n := j) (j := i) (by omega) (fun m hm hne => h m (by omega) hne (by omega))
        omega
      · have := sumN_two (f := f) (g := g) (n := n) (i := i) (j := j) (by omega) (by omega) hij (fun m hm h3 h4 => h m (by omega) h3 h4)
        have := h n (by omega) (Ne.symm h1) (Ne.symm h2)
        omega
theorem sq_lower {a b : Nat} (h : b + 2 ≤ a) : (a - 1) * (a - 1) + (b + 1) * (b + 1) < a * a + b * b := by
  obtain ⟨d, rfl⟩ : ∃ d, a = b + 2 + d := ⟨a - (b + 2), by omega⟩
  rw [show b + 2 + d - 1 = b + 1 + d by omega]
  simp only [Nat.mul_add, Nat.add_mul]
  have := Nat.mul_comm b d
  omega
/-- The sum of the squares. -/
def sqW (n : Nat) (w : List Int) : Nat := sumN (fun m => w.count (m : Int) * w.count (m : Int)) n
theorem sqW_lower {n p i j : Nat} {w : List Int} (hp : p < w.length) (hi : w[p] = (i : Int)) (hin : i < n) (hjn : j < n) (hc : w.count (j : Int) + 2 ≤ w.count (i : Int)) : sqW n (w.set p (j : Int)) < sqW n w := by
  have hij : i ≠ j := by rintro rfl; omega
  have cset : ∀ m : Nat, (w.set p (j : Int)).count (m : Int) = w.count (m : Int) - (if i = m then 1 else 0) + (if j = m then 1 else 0) := by
    intro m
    rw [List.count_set (h := hp), hi]
    have f1 : ((i : Int) == (m : Int)) = decide (i = m) := by rw [Bool.eq_iff_iff]; simp; omega
    have f2 : ((j : Int) == (m : Int)) = decide (j = m) := by rw [Bool.eq_iff_iff]; simp; omega
    rw [f1, f2]
    by_cases e1 : i = m <;> by_cases e2 : j = m <;> simp [e1, e2]
  have := sumN_two (f := fun m => w.count (m : Int) * w.count (m : Int)) (g := fun m => (w.set p (j : Int)).count (m : Int) * (w.set p (j : Int)).count (m : Int)) hin hjn hij (fun m hm h1 h2 => by
    simp only [cset, Ne.symm h1, Ne.symm h2, if_false]
    simp)
  have e1 : (w.set p (j : Int)).count (i : Int) = w.count (i : Int) - 1 := by rw [cset]; simp [Ne.symm hij]
  have e2 : (w.set p (j : Int)).count (j : Int) = w.count (j : Int) + 1 := by rw [cset]; simp [hij]
  simp only [e1, e2] at this
  have hs := sq_lower hc
  unfold sqW
  omega
theorem cnts_snoc (n : Nat) (w : List Int) (m : Int) : moreM (cnts n w) m = cnts n (w ++ [m]) := by
  apply List.ext_getElem?
  intro i
  by_cases hi : i < n
  · have h1 : i < (cnts n w).length := by rw [cnts_len]; exact hi
    rw [more_get _ _ _ h1, cnts_get hi]
    have h4 := cnts_get (w := w) hi
    rw [List.getElem?_eq_getElem h1] at h4
    rw [Option.some.inj h4]
    by_cases e : m = (i : Int) <;> simp [e, List.count_append, List.count_cons]
  · rw [List.getElem?_eq_none (by rw [more_len, cnts_len]; omega), List.getElem?_eq_none (by rw [cnts_len]; omega)]
theorem less_no (l : List Int) : lessM l (-1) = l := by simp [lessM]
theorem cnts_nil (n : Nat) : cnts n [] = List.replicate n 0 := by
  apply List.ext_getElem?
  intro i
  simp [cnts, List.getElem?_replicate]
  by_cases hi : i < n <;> simp [hi]
theorem wInit_len (l : List Member) (tps : List Tp) : (wInit l tps).length = tps.length := by simp [wInit]
theorem wInit_get {l : List Member} {tps : List Tp} {p : Nat} (h : p < tps.length) : (wInit l tps)[p]? = some (idxF l fun m => decide (tps[p] ∈ m.own) && decide (tps[p].topic ∈ m.subs)) := by
  simp [wInit, h]
/-- Whose each is while the first p are looked at. -/
def half (w : List Int) (p : Nat) : List Int := w.take p ++ List.replicate (w.length - p) 0
theorem half_len {w : List Int} {p : Nat} (h : p ≤ w.length) : (half w p).length = w.length := by simp [half]; omega
theorem half_next {w : List Int} {p : Nat} {x : Int} (h : w[p]? = some x) : ((half w p).set p (-1)).set p x = half w (p + 1) := by
  have hp : p < w.length := (List.getElem?_eq_some_iff.1 h).1
  rw [List.set_set]
  apply List.ext_getElem?
  intro i
  have hl := half_len (w := w) (p := p) (by omega)
  rw [List.getElem?_set]
  by_cases hpi : p = i
  · subst hpi
    simp only [if_true, hl, hp]
    unfold half
    rw [List.getElem?_append_left (by simp; omega), List.getElem?_take, if_pos (by omega), h]
  · simp only [hpi, if_false]
    unfold half
    by_cases hi : i < p
    · rw [List.getElem?_append_left (by simp; omega), List.getElem?_append_left (by simp; omega), List.getElem?_take, List.getElem?_take, if_pos hi, if_pos (by omega)]
    · rw [List.getElem?_append_right (by simp; omega), List.getElem?_append_right (by simp; omega), List.getElem?_replicate, List.getElem?_replicate]
      simp only [List.length_take, Nat.min_eq_left (Nat.le_of_lt hp), Nat.min_eq_left (show p + 1 ≤ w.length from hp)]
      by_cases hw : i < w.length
      · rw [if_pos (by omega), if_pos (by omega)]
      · rw [if_neg (by omega), if_neg (by omega)]
theorem half_all (w : List Int) : half w w.length = w := by simp [half]
theorem half_zero (w : List Int) : half w 0 = List.replicate w.length 0 := by simp [half]
theorem made_ints (n : Nat) (x : Int) : madeCells (Value.int .i64 x).cells (n * 1) = ((List.replicate n x).map (Value.int .i64)).toArray := by
  apply Array.toList_inj.1
  apply List.ext_getElem?
  intro i
  rw [Nat.mul_one]
  simp only [madeCells, Value.cells, Array.toList_map, Array.toList_range, List.getElem?_map, List.map_replicate, List.getElem?_replicate]
  by_cases hi : i < n
  · simp [hi, Nat.mod_one]
  · simp [hi]
theorem idxF_range {α : Type} (l : List α) (f : α → Bool) : idxF l f = -1 ∨ ∃ i : Nat, idxF l f = (i : Int) ∧ ∃ h : i < l.length, f l[i] = true := by
  unfold idxF
  cases hf : l.findIdx? f with
  | none => exact .inl rfl
  | some i =>
    rw [List.findIdx?_eq_some_iff_getElem] at hf
    obtain ⟨h1, h2, _⟩ := hf
    exact .inr ⟨i, rfl, h1, h2⟩
theorem wInit_inv (l : List Member) (tps : List Tp) : WInv l tps (wInit l tps) := by
  refine ⟨wInit_len l tps, fun p x tp hp ht => ?_⟩
  have hlt : p < tps.length := (List.getElem?_eq_some_iff.1 ht).1
  rw [wInit_get hlt] at hp
  rw [List.getElem?_eq_getElem hlt] at ht
  cases hp
  cases ht
  rcases idxF_range l (fun m => decide (tps[p] ∈ m.own) && decide (tps[p].topic ∈ m.subs)) with h | ⟨i, h, hi, hf⟩
  · exact .inl h
  · refine .inr ⟨i, h, hi, ?_⟩
    simp at hf
    exact hf.2
theorem zip_take_succ {α β : Type} {xs : List α} {ys : List β} {p : Nat} (hx : p < xs.length) (hy : p < ys.length) : (xs.take (p + 1)).zip (ys.take (p + 1)) = (xs.take p).zip (ys.take p) ++ [(xs[p], ys[p])] := by
  rw [List.take_succ_eq_append_getElem hx, List.take_succ_eq_append_getElem hy, List.zip_append (by simp; omega)]
  rfl
theorem outM_len (n : Nat) (tps : List Tp) (w : List Int) : (outM n tps w).length = n := by simp [outM]
theorem outM_get {n i : Nat} (h : i < n) (tps : List Tp) (w : List Int) : (outM n tps w)[i]? = some (((tps.zip w).filter fun x => decide (x.2 = (i : Int))).map (·.1)) := by simp [outM, h]
theorem outM_no {n p : Nat} {tps : List Tp} {w : List Int} (hx : p < tps.length) (hy : p < w.length) (h : w[p] < 0) : outM n (tps.take (p + 1)) (w.take (p + 1)) = outM n (tps.take p) (w.take p) := by
  unfold outM
  apply List.map_congr_left
  intro m _
  rw [zip_take_succ hx hy, List.filter_append, List.map_append]
  have : ¬ w[p] = (m : Int) := by omega
  simp [this]
theorem outM_at {n p i : Nat} {tps : List Tp} {w : List Int} (hx : p < tps.length) (hy : p < w.length) (h : w[p] = (i : Int)) (hi : i < n) {r : List Tp} (hr : (outM n (tps.take p) (w.take p))[i]? = some r) :
    outM n (tps.take (p + 1)) (w.take (p + 1)) = (outM n (tps.take p) (w.take p)).set i (r ++ [tps[p]]) := by
  apply List.ext_getElem?
  intro m
  rw [List.getElem?_set, outM_len]
  by_cases hm : m < n
  · rw [outM_get hm, zip_take_succ hx hy, List.filter_append, List.map_append]
    by_cases him : i = m
    · subst him
      rw [outM_get hi] at hr
      cases hr
      simp [h, hi]
    · have : ¬ w[p] = (m : Int) := by omega
      rw [if_neg him, outM_get hm]
      simp [this]
  · rw [List.getElem?_eq_none (by rw [outM_len]; omega)]
    split
    · omega
    · rw [List.getElem?_eq_none (by rw [outM_len]; omega)]
theorem outM_zero (n : Nat) (tps : List Tp) (w : List Int) : outM n (tps.take 0) (w.take 0) = List.replicate n [] := by
  apply List.ext_getElem?
  intro m
  by_cases hm : m < n
  · rw [outM_get hm]; simp [hm]
  · rw [List.getElem?_eq_none (by rw [outM_len]; omega), List.getElem?_eq_none (by simp; omega)]
theorem outM_all {n : Nat} {tps : List Tp} {w : List Int} (h : w.length = tps.length) : outM n (tps.take tps.length) (w.take w.length) = outM n tps w := by
  rw [List.take_length, List.take_length]
theorem outM_bd {n i : Nat} {tps : List Tp} {w : List Int} {r : List Tp} (h : (outM n tps w)[i]? = some r) : r.length ≤ tps.length := by
  have hi : i < n := by
    have := (List.getElem?_eq_some_iff.1 h).1
    rw [outM_len] at this
    exact this
  rw [outM_get hi] at h
  cases h
  rw [List.length_map]
  exact Nat.le_trans (List.length_filter_le _ _) (by rw [List.length_zip]; omega)
theorem stepM_some {l : List Member} {tps : List Tp} {w : List Int} {p : Nat} (hp : p < tps.length) (hq : ∀ q, q < p → hotW l tps w q = false) (h : hotW l tps w p = true) : stepM l tps w = some (w.set p (leastW l tps[p] w)) := by
  unfold stepM
  have : (List.range tps.length).find? (hotW l tps w) = some p := by
    rw [List.find?_range_eq_some]
    exact ⟨h, by simpa using hp, fun j hj => by rw [hq j hj]; rfl⟩
  rw [this]
  simp only [List.getElem?_eq_getElem hp]
theorem stepM_none {l : List Member} {tps : List Tp} {w : List Int} (hq : ∀ q, q < tps.length → hotW l tps w q = false) : stepM l tps w = none := by
  unfold stepM
  have : (List.range tps.length).find? (hotW l tps w) = none := by
    rw [List.find?_range_eq_none]
    intro j hj
    rw [hq j hj]; rfl
  rw [this]
/-- What the target comes to. -/
structure IsTgt (l : List Member) (tps : List Tp) (w : List Int) : Prop where
  moved : Moved l tps (fillW l tps (wInit l tps) tps.length) w
  inv : WInv l tps w
  still : stepM l tps w = none
theorem Moved.head {l : List Member} {tps : List Tp} {w w' : List Int} (h : Moved l tps w w') : w = w' ∨ ∃ w1, stepM l tps w = some w1 ∧ Moved l tps w1 w' := by
  induction h with
  | refl => exact .inl rfl
  | step h1 h2 ih =>
    rcases ih with rfl | ⟨w1, h3, h4⟩
    · exact .inr ⟨_, h2, .refl _⟩
    · exact .inr ⟨w1, h3, .step h4 h2⟩
theorem Moved.same {l : List Member} {tps : List Tp} {w w1 w2 : List Int} (h1 : Moved l tps w w1) (h2 : Moved l tps w w2) (e1 : stepM l tps w1 = none) (e2 : stepM l tps w2 = none) : w1 = w2 := by
  have key : Moved l tps w2 w1 ∨ Moved l tps w1 w2 := by
    clear e1 e2
    induction h1 with
    | refl => exact .inr h2
    | step h3 h4 ih =>
      rcases ih with h | h
      · exact .inl (.step h h4)
      · rcases h.head with rfl | ⟨w3, h5, h6⟩
        · exact .inl (.step (.refl _) h4)
        · rw [h4] at h5
          cases h5
          exact .inr h6
  rcases key with h | h
  · rcases h.head with h | ⟨w3, h5, _⟩
    · exact h.symm
    · rw [e2] at h5; cases h5
  · rcases h.head with h | ⟨w3, h5, _⟩
    · exact h
    · rw [e1] at h5; cases h5
theorem IsTgt.same {l : List Member} {tps : List Tp} {w1 w2 : List Int} (h1 : IsTgt l tps w1) (h2 : IsTgt l tps w2) : w1 = w2 := h1.moved.same h2.moved h1.still h2.still
/-- May members and partitions be? -/
def okM (l : List Member) : Bool := decide (l.map (·.id)).Nodup && !decide (ByteArray.empty ∈ l.map (·.id))
def okT (l : List Member) (tps : List Tp) : Bool := okM l && decide tps.Nodup
/-- What Target hands back. -/
structure TgtR (l : List Member) (tps : List Tp) (r : List (List Tp)) (er : Int) : Prop where
  no : okT l tps = false → r = [] ∧ er = 1
  yes : okT l tps = true → er = 0 ∧ ∃ w, IsTgt l tps w ∧ r = outM l.length tps w
theorem TgtR.same {l : List Member} {tps : List Tp} {r1 r2 : List (List Tp)} {e1 e2 : Int} (h1 : TgtR l tps r1 e1) (h2 : TgtR l tps r2 e2) : r1 = r2 ∧ e1 = e2 := by
  cases h : okT l tps with
  | false =>
    obtain ⟨a, b⟩ := h1.no h
    obtain ⟨c, d⟩ := h2.no h
    exact ⟨by rw [a, c], by rw [b, d]⟩
  | true =>
    obtain ⟨a, w1, b, c⟩ := h1.yes h
    obtain ⟨d, w2, e, f⟩ := h2.yes h
    exact ⟨by rw [c, f, b.same e], by rw [a, d]⟩
end Go.Wm

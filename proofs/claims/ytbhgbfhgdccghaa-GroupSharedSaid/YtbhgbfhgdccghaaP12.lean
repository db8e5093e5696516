/-
  A target is even, in plain Lean. Conditions: none.
-/
import Derived.Test.YtbhgbfhgdccghaaP11
import Derived.Test.YtbhgbfhgdccghaaK7
set_option linter.all false
namespace Go.Wm
open Go.RowKit Go.Proofs
section
variable {l : List Member} {tps : List Tp}
theorem cmpM_neg {l : List Member} {n : Nat} {w : List Int} {i j : Nat} (hn : n = l.length) (hi : i < l.length) (hj : j < l.length) :
    (cmpM l (cnts n w) (i : Int) (j : Int) < 0) ↔ (w.count (i : Int) < w.count (j : Int) ∨ (w.count (i : Int) = w.count (j : Int) ∧ l[i].id.data.toList < l[j].id.data.toList)) := by
  subst hn
  have h1 : (cnts l.length w).getD ((i : Int).toNat) 0 = ((w.count (i : Int) : Nat) : Int) := by simp [cnts, hi]
  have h2 : (cnts l.length w).getD ((j : Int).toNat) 0 = ((w.count (j : Int) : Nat) : Int) := by simp [cnts, hj]
  unfold cmpM
  rw [h1, h2]
  simp only [Int.toNat_natCast, List.getElem?_eq_getElem hi, List.getElem?_eq_getElem hj, Option.map_some, Option.getD_some]
  unfold cmpInt cmpStr
  by_cases a1 : w.count (i : Int) < w.count (j : Int)
  · have : ((w.count (i : Int) : Nat) : Int) < ((w.count (j : Int) : Nat) : Int) := by omega
    simp [a1, orInt]
  · by_cases a2 : w.count (j : Int) < w.count (i : Int)
    · have a3 : ¬ w.count (i : Int) = w.count (j : Int) := by omega
      simp [a1, a2, a3, orInt]
    · have a3 : w.count (i : Int) = w.count (j : Int) := by omega
      have f1 : ¬ ((w.count (j : Int) : Nat) : Int) < ((w.count (j : Int) : Nat) : Int) := by omega
      rw [a3, if_neg f1]
      simp only [f1, if_false, Nat.lt_irrefl, false_or, true_and]
      by_cases b1 : l[i].id.data.toList < l[j].id.data.toList
      · simp [orInt, b1]
      · by_cases b2 : l[j].id.data.toList < l[i].id.data.toList <;> simp [orInt, b1, b2]

/-- A member's number, or nobody. -/
def Val (n : Nat) (x : Int) : Prop := x = -1 ∨ (0 ≤ x ∧ x < n)
def Good (n : Nat) (w : List Int) : Prop := ∀ x ∈ w, Val n x
theorem least_val (l : List Member) (tp : Tp) (w : List Int) : Val l.length (leastW l tp w) := by
  rcases leastW_or l tp (cnts l.length w) with h | ⟨i, h, hi, _⟩
  · exact .inl h
  · exact .inr ⟨by show 0 ≤ leastM _ _ _; omega, by show leastM _ _ _ < _; omega⟩
theorem WInv.good {l : List Member} {tps : List Tp} {w : List Int} (h : WInv l tps w) : Good l.length w := by
  intro x hx
  obtain ⟨p, hp⟩ := List.getElem?_of_mem hx
  have hpl : p < w.length := (List.getElem?_eq_some_iff.1 hp).1
  have hpt : p < tps.length := by rw [← h.len]; exact hpl
  rcases h.at' p x tps[p] hp (List.getElem?_eq_getElem hpt) with h1 | ⟨i, h1, hi, _⟩
  · exact .inl h1
  · exact .inr ⟨by omega, by omega⟩
/-- The least one by a comparison that is an order. -/
theorem minBy_min (c : Int → Int → Int) (S : Int → Prop) (co : ∀ x y z, S x → S y → S z → c x z < 0 → c x y < 0 ∨ c y z < 0) (asy : ∀ x y, S x → S y → c x y < 0 → ¬ c y x < 0) : ∀ (r : List Int) (x : Int), (∀ y ∈ x :: r, S y) →
    ∀ y ∈ x :: r, ¬ c y (r.foldl (fun m y => if c y m < 0 then y else m) x) < 0
  | [], x, hS, y, hy => by
    simp at hy
    subst hy
    exact fun h => asy _ _ (hS _ (by simp)) (hS _ (by simp)) h h
  | z :: r, x, hS, y, hy => by
    rw [List.foldl_cons]
    have hx := hS x (by simp)
    have hz := hS z (by simp)
    by_cases h : c z x < 0
    · rw [if_pos h]
      have ih := minBy_min c S co asy r z (fun q hq => hS q (List.mem_cons_of_mem _ hq))
      have hm : S (r.foldl (fun m y => if c y m < 0 then y else m) z) := hS _ (List.mem_cons_of_mem _ (foldl_mem c r z))
      rcases List.mem_cons.1 hy with rfl | hy
      · intro h2
        rcases co _ z _ hx hz hm h2 with h3 | h3
        · exact asy _ _ hx hz h3 h
        · exact ih z (by simp) h3
      · exact ih y hy
    · rw [if_neg h]
      have hS' : ∀ q ∈ x :: r, S q := fun q hq => by
        rcases List.mem_cons.1 hq with rfl | hq
        · exact hx
        · exact hS q (by simp [hq])
      have ih := minBy_min c S co asy r x hS'
      have hm : S (r.foldl (fun m y => if c y m < 0 then y else m) x) := hS' _ (foldl_mem c r x)
      rcases List.mem_cons.1 hy with rfl | hy
      · exact ih y (by simp)
      · rcases List.mem_cons.1 hy with rfl | hy
        · intro h2
          rcases co _ x _ hz hx hm h2 with h3 | h3
          · exact h h3
          · exact ih x (by simp) h3
        · exact ih y (by simp [hy])

def idL (l : List Member) (i : Nat) : List UInt8 := ((l[i]?).map (·.id.data.toList)).getD []
theorem idL_eq {l : List Member} {i : Nat} (h : i < l.length) : idL l i = l[i].id.data.toList := by simp [idL, h]
/-- Fewer, or as many and the lesser name. -/
def keyLt (l : List Member) (w : List Int) (i j : Nat) : Prop := w.count (i : Int) < w.count (j : Int) ∨ (w.count (i : Int) = w.count (j : Int) ∧ idL l i < idL l j)
theorem cmp_key {l : List Member} {w : List Int} {i j : Nat} (hi : i < l.length) (hj : j < l.length) : cmpM l (cnts l.length w) (i : Int) (j : Int) < 0 ↔ keyLt l w i j := by
  rw [cmpM_neg rfl hi hj, keyLt, idL_eq hi, idL_eq hj]
theorem key_co {l : List Member} {w : List Int} {i j q : Nat} (h : keyLt l w i q) : keyLt l w i j ∨ keyLt l w j q := by
  unfold keyLt at *
  by_cases a : w.count (i : Int) < w.count (j : Int)
  · exact .inl (.inl a)
  · by_cases b : w.count (j : Int) < w.count (q : Int)
    · exact .inr (.inl b)
    · rcases h with h | ⟨h1, h2⟩
      · omega
      · by_cases c : idL l i < idL l j
        · exact .inl (.inr ⟨by omega, c⟩)
        · exact .inr (.inr ⟨by omega, List.lt_of_le_of_lt (List.not_lt.1 c) h2⟩)
theorem key_asy {l : List Member} {w : List Int} {i j : Nat} (h : keyLt l w i j) : ¬ keyLt l w j i := by
  unfold keyLt at *
  rintro (h2 | ⟨h2, h3⟩)
  · rcases h with h | ⟨h, _⟩ <;> omega
  · rcases h with h | ⟨_, h4⟩
    · omega
    · exact List.lt_irrefl _ (List.lt_trans h3 h4)
/-- Who has the fewest, said by what it is. -/
theorem least_is (l : List Member) (tp : Tp) (w : List Int) : (leastW l tp w = -1 ∧ ∀ x, ¬ Wants l tp x) ∨ ∃ i : Nat, leastW l tp w = (i : Int) ∧ i < l.length ∧ Wants l tp (i : Int) ∧ ∀ j : Nat, Wants l tp (j : Int) → ¬ keyLt l w j i := by
  rcases leastM_spec l tp (cnts l.length w) with ⟨h1, h2⟩ | h
  · refine .inl ⟨h1, fun x hx => ?_⟩
    have := whoL_wants.2 hx
    rw [h2] at this
    cases this
  · obtain ⟨i, hi, hil⟩ := whoL_mem h
    refine .inr ⟨i, hi, hil, hi ▸ whoL_wants.1 h, fun j hj => ?_⟩
    have hjm := whoL_wants.2 hj
    have hjl : j < l.length := by
      obtain ⟨j', e, hl, _⟩ := hj
      omega
    rw [← cmp_key hjl hil]
    rw [← hi]
    have hne : whoL l tp l.length ≠ [] := fun h0 => by rw [h0] at hjm; cases hjm
    unfold leastM
    split
    · rename_i h0; exact absurd h0 hne
    · rename_i hne2
      have hall : ∀ y ∈ whoL l tp l.length, ∃ i : Nat, y = (i : Int) ∧ i < l.length := fun y hy => whoL_mem hy
      generalize whoL l tp l.length = ws at *
      cases ws with
      | nil => exact absurd rfl hne
      | cons x r =>
        refine minBy_min (cmpM l (cnts l.length w)) (fun x => ∃ i : Nat, x = (i : Int) ∧ i < l.length) ?_ ?_ r x ?_ _ hjm
        · rintro _ _ _ ⟨a, rfl, ha⟩ ⟨b, rfl, hb⟩ ⟨c, rfl, hc⟩ h5
          rw [cmp_key ha hc] at h5
          rw [cmp_key ha hb, cmp_key hb hc]
          exact key_co h5
        · rintro _ _ ⟨a, rfl, ha⟩ ⟨b, rfl, hb⟩ h5
          rw [cmp_key ha hb] at h5
          rw [cmp_key hb ha]
          exact key_asy h5
        · exact hall

/-- What nobody has, nobody wants. -/
def Full (l : List Member) (tps : List Tp) (w : List Int) (n : Nat) : Prop := ∀ p tp, p < n → w[p]? = some (-1) → tps[p]? = some tp → ∀ x, ¬ Wants l tp x
theorem full_set {w : List Int} {n p : Nat} {tp : Tp} (h : Full l tps w n) (ht : tps[p]? = some tp) : Full l tps (w.set p (leastW l tp w)) n := by
  intro q tq hq hw htq x
  rw [List.getElem?_set] at hw
  split at hw
  · rename_i hpq
    subst hpq
    split at hw
    · simp only [Option.some.injEq] at hw
      rw [ht] at htq
      cases htq
      rcases least_is l tp w with ⟨_, h2⟩ | ⟨i, h1, _⟩
      · exact h2 x
      · omega
    · cases hw
  · exact h q tq hq hw htq x
theorem full_fill (w : List Int) (hv : ∀ x ∈ w, -1 ≤ x) : ∀ p, Full l tps (fillW l tps w p) p ∧ ∀ x ∈ fillW l tps w p, -1 ≤ x
  | 0 => ⟨fun p tp hp => by omega, hv⟩
  | p + 1 => by
    obtain ⟨ih, ihv⟩ := full_fill w hv p
    have ext : ∀ w', Full l tps w' p → (∀ tp, w'[p]? = some (-1) → tps[p]? = some tp → ∀ x, ¬ Wants l tp x) → Full l tps w' (p + 1) := by
      intro w' h h' q tq hq hw htq
      by_cases hqp : q = p
      · subst hqp; exact h' tq hw htq
      · exact h q tq (by omega) hw htq
    unfold fillW
    cases hx : (fillW l tps w p)[p]? with
    | none => exact ⟨ext _ ih fun tp h _ => (by rw [hx] at h; cases h), ihv⟩
    | some x =>
      cases ht : tps[p]? with
      | none => exact ⟨ext _ ih fun tp _ h => (by rw [ht] at h; cases h), ihv⟩
      | some tp =>
        simp only
        by_cases h0 : x < 0
        · rw [if_pos h0]
          refine ⟨ext _ (full_set ih ht) fun tq hw htq y => ?_, fun y hy => ?_⟩
          · rw [ht] at htq
            cases htq
            have hpl : p < (fillW l tps w p).length := (List.getElem?_eq_some_iff.1 hx).1
            rw [List.getElem?_set, if_pos rfl, if_pos hpl] at hw
            simp only [Option.some.injEq] at hw
            rcases least_is l tp (fillW l tps w p) with ⟨_, h2⟩ | ⟨i, h1, _⟩
            · exact h2 y
            · omega
          · rcases List.mem_or_eq_of_mem_set hy with hy | hy
            · exact ihv y hy
            · rw [hy]
              rcases least_val l tp (fillW l tps w p) with h | ⟨h, _⟩ <;> omega
        · rw [if_neg h0]
          refine ⟨ext _ ih fun tq hw _ => ?_, ihv⟩
          rw [hx] at hw
          simp only [Option.some.injEq] at hw
          omega
theorem full_moved {w w' : List Int} {n : Nat} (hm : Moved l tps w w') (h : Full l tps w n) : Full l tps w' n := by
  induction hm with
  | refl => exact h
  | step _ h2 ih =>
    unfold stepM at h2
    split at h2
    · split at h2
      · rename_i ht
        cases h2
        exact full_set ih ht
      · cases h2
    · cases h2
theorem IsTgt.full {w : List Int} (h : IsTgt l tps w) : Full l tps w tps.length :=
  full_moved h.moved (full_fill _ (fun x hx => by rcases (wInit_inv l tps).good x hx with h | ⟨h, _⟩ <;> omega) _).1

theorem filter_count {i : Nat} : ∀ {tps : List Tp} {w : List Int}, w.length = tps.length → ((tps.zip w).filter fun x => decide (x.2 = (i : Int))).length = w.count (i : Int)
  | [], [], _ => rfl
  | t :: tps, x :: w, h => by
    simp only [List.length_cons, Nat.add_right_cancel_iff] at h
    have ih := filter_count (i := i) h
    rw [List.zip_cons_cons, List.filter_cons, List.count_cons]
    by_cases hx : x = (i : Int)
    · simp [hx, ih]
    · simp [hx, ih]
theorem outM_length {n i : Nat} {w : List Int} (hw : w.length = tps.length) (hi : i < n) : ((outM n tps w).getD i []).length = w.count (i : Int) := by
  rw [List.getD_eq_getElem?_getD, outM_get hi]
  simp only [Option.getD_some, List.length_map]
  exact filter_count hw
theorem lenTo_sum {n : Nat} {w : List Int} (hw : w.length = tps.length) : ∀ k, k ≤ n → lenTo (outM n tps w) k = sumN (fun m => w.count (m : Int)) k
  | 0, _ => rfl
  | k + 1, h => by
    simp only [lenTo, sumN]
    rw [lenTo_sum hw k (by omega), outM_length hw (by omega)]
theorem sumN_add (f g : Nat → Nat) : ∀ n, sumN (fun m => f m + g m) n = sumN f n + sumN g n
  | 0 => rfl
  | n + 1 => by simp only [sumN, sumN_add f g n]; omega
theorem sumN_ind (x : Int) : ∀ n : Nat, sumN (fun m => if x = (m : Int) then 1 else 0) n = if 0 ≤ x ∧ x < n then 1 else 0
  | 0 => by
    rw [if_neg (by omega)]
    rfl
  | n + 1 => by
    simp only [sumN, sumN_ind x n]
    by_cases h1 : 0 ≤ x ∧ x < n
    · rw [if_pos h1, if_neg (by omega), if_pos (by omega)]
    · rw [if_neg h1]
      by_cases h2 : x = (n : Int)
      · rw [if_pos h2, if_pos (by omega)]
      · rw [if_neg h2, if_neg (by omega)]
theorem sumN_count (n : Nat) : ∀ {w : List Int}, Good n w → sumN (fun m => w.count (m : Int)) n = w.countP fun x => decide (0 ≤ x)
  | [], _ => by
    have : ∀ k, sumN (fun _ => 0) k = 0 := fun k => by induction k with
      | zero => rfl
      | succ k ih => simp [sumN, ih]
    simpa using this n
  | x :: w, h => by
    have ih := sumN_count n (w := w) (fun y hy => h y (by simp [hy]))
    have e : (fun m : Nat => (x :: w).count (m : Int)) = fun m : Nat => w.count (m : Int) + (if x = (m : Int) then 1 else 0) := by
      funext m
      rw [List.count_cons]
      simp
    rw [e, sumN_add, ih, sumN_ind, List.countP_cons]
    congr 1
    rcases h x (by simp) with h1 | ⟨h1, h2⟩
    · rw [h1]; simp
    · rw [if_pos ⟨h1, h2⟩]; simp [h1]
theorem countP_same {w : List Int} (hw : w.length = tps.length) (h : ∀ p (hp : p < tps.length) (hpw : p < w.length), (0 ≤ w[p]) ↔ anyW l tps[p] = true) : (w.countP fun x => decide (0 ≤ x)) = tps.countP (anyW l) := by
  have e : w.map (fun x => decide (0 ≤ x)) = tps.map (anyW l) := by
    apply List.ext_getElem
    · simp [hw]
    · intro i h1 h2
      simp only [List.length_map] at h1 h2
      simp only [List.getElem_map]
      rw [Bool.eq_iff_iff]
      simpa using h i h2 h1
  have c1 : ∀ {α : Type} (f : α → Bool) (l : List α), l.countP f = (l.map f).count true := by
    intro α f l
    induction l with
    | nil => rfl
    | cons a l ih =>
      rw [List.countP_cons, List.map_cons, List.count_cons, ih]
      cases f a <;> simp
  rw [c1, c1, e]
theorem anyW_iff {tp : Tp} : anyW l tp = true ↔ ∃ x, Wants l tp x := by
  unfold anyW Wants
  rw [List.any_eq_true]
  constructor
  · rintro ⟨m, hm, h⟩
    obtain ⟨i, hi, rfl⟩ := List.mem_iff_getElem.1 hm
    exact ⟨(i : Int), i, rfl, hi, by simpa using h⟩
  · rintro ⟨x, i, _, hi, h⟩
    exact ⟨l[i], List.getElem_mem hi, by simpa using h⟩
theorem tgt_even {w : List Int} (hok : okT l tps = true) (h : IsTgt l tps w) : evenA l tps (outM l.length tps w) = true := by
  have hokR := okR_tgt hok h
  simp only [okT, Bool.and_eq_true, decide_eq_true_eq] at hok
  simp only [okRnd, Bool.and_eq_true, decide_eq_true_eq] at hokR
  have hlen := h.inv.len
  unfold evenA
  rw [hok.1, decide_eq_true hok.2, decide_eq_true hokR.2.1, decide_eq_true hokR.2.2]
  simp only [Bool.true_and, Bool.and_eq_true, decide_eq_true_eq]
  refine ⟨?_, ?_⟩
  · rw [List.all_eq_true]
    intro i hi
    rw [List.mem_range, outM_len] at hi
    rw [List.all_eq_true]
    intro tp htp
    have hr : (outM l.length tps w)[i]? = some ((outM l.length tps w).getD i []) := by
      rw [List.getD_eq_getElem?_getD, List.getElem?_eq_getElem (by rw [outM_len]; exact hi)]; rfl
    have hm : tp ∈ tps := (outM_subl hlen hr).subset htp
    obtain ⟨p, hp, rfl⟩ := List.mem_iff_getElem.1 hm
    have hwp := (mem_outM hok.2 hlen hp hr).1 htp
    have hpw : p < w.length := by omega
    have hwv : w[p] = (i : Int) := by
      rw [List.getElem?_eq_getElem hpw] at hwp
      exact Option.some.inj hwp
    have hwant : Wants l tps[p] (i : Int) := by
      rcases h.inv.at' p _ _ hwp (List.getElem?_eq_getElem hp) with h1 | h1
      · omega
      · exact h1
    have hsub : tps[p].topic ∈ l[i].subs := by
      obtain ⟨j, e, hj, hs⟩ := hwant
      have : j = i := by omega
      subst this
      exact hs
    unfold goodTp
    rw [List.getElem?_eq_getElem hi]
    simp only [Option.map_some, Option.getD_some, decide_eq_true hsub, decide_eq_true hm, Bool.true_and]
    rw [List.all_eq_true]
    intro k hk
    rw [List.mem_range] at hk
    rw [List.getElem?_eq_getElem hk]
    simp only [Option.map_some, Option.getD_some]
    by_cases hwk : tps[p].topic ∈ l[k].subs
    · have hcold := stepM_none_iff h.still p hp
      unfold hotW at hcold
      rw [hwp, List.getElem?_eq_getElem hp] at hcold
      simp only at hcold
      have h0 : decide ((0 : Int) ≤ (i : Int)) = true := by simp
      rw [h0, Bool.true_and, decide_eq_false_iff_not] at hcold
      rw [outM_length hlen hi, outM_length hlen hk, decide_eq_true hwk, Bool.true_and]
      rcases least_is l tps[p] w with ⟨_, h2⟩ | ⟨j, h1, hj, _, hmin⟩
      · exact absurd hwant (h2 _)
      · rw [h1] at hcold
        have hk2 : ¬ keyLt l w k j := hmin k ⟨k, rfl, hk, hwk⟩
        have hc : ¬ w.count (k : Int) < w.count (j : Int) := fun hlt => hk2 (.inl hlt)
        simp
        omega
    · rw [decide_eq_false hwk]
      simp
  · rw [outM_len, lenTo_sum hlen l.length (Nat.le_refl _), sumN_count l.length h.inv.good, countP_same (l := l) hlen]
    · omega
    · intro p hp hpw
      rw [anyW_iff]
      constructor
      · intro h0
        rcases h.inv.at' p _ _ (List.getElem?_eq_getElem hpw) (List.getElem?_eq_getElem hp) with h1 | h1
        · omega
        · exact ⟨_, h1⟩
      · rintro ⟨x, hx⟩
        rcases h.inv.good w[p] (List.getElem_mem hpw) with h1 | ⟨h1, _⟩
        · exact absurd hx (h.full p tps[p] hp (by rw [List.getElem?_eq_getElem hpw, h1]) (List.getElem?_eq_getElem hp) x)
        · exact h1
end
end Go.Wm

/-
  Two that are changed for each other, in plain Lean. Conditions: none.
-/
import Derived.Test.YtpinnhemlcpkaaaP1
set_option linter.all false
namespace Go.Wm

theorem unlike_spec {l : List Told} (h : Scan unlikeOk l) {i j : Nat} (hj : j < l.length) (hij : i < j) : ¬ (l[i].tp = l[j].tp ∧ l[i].off = l[j].off) := by
  have := h j hj
  unfold unlikeOk at this
  simp only [Bool.not_eq_true'] at this
  rw [atP, List.any_eq_false] at this
  have h2 := this l[i] (List.mem_take_iff_getElem.2 ⟨i, by omega, rfl⟩)
  simpa using h2
theorem told_later {l : List Told} (hs : Scan ordOk l) (hu : Scan unlikeOk l) {i j : Nat} (hj : j < l.length) (hij : i < j) (he : l[i].tp = l[j].tp) : l[i].off < l[j].off :=
  ord_above hs hj hij he fun k hk => unlike_spec hu hj hk

/-- Two places changed for each other. -/
def swapL (l : List Told) (p q : Nat) (hp : p < l.length) (hq : q < l.length) : List Told := (l.set p l[q]).set q l[p]
def sg (p q k : Nat) : Nat := if k = q then p else if k = p then q else k
theorem swap_len {l : List Told} {p q : Nat} (hp : p < l.length) (hq : q < l.length) : (swapL l p q hp hq).length = l.length := by simp [swapL]
theorem sg_lt {p q k n : Nat} (hp : p < n) (hq : q < n) (hk : k < n) : sg p q k < n := by unfold sg; (repeat' split) <;> omega
theorem swap_get {l : List Told} {p q k : Nat} (hp : p < l.length) (hq : q < l.length) (hk : k < (swapL l p q hp hq).length) : (swapL l p q hp hq)[k] = l[sg p q k]'(sg_lt hp hq (by rw [swap_len] at hk; exact hk)) := by
  have hk' : k < l.length := by rw [swap_len] at hk; exact hk
  have e : (swapL l p q hp hq)[k]? = some (l[sg p q k]'(sg_lt hp hq hk')) := by
    unfold swapL
    rw [List.getElem?_set]
    by_cases h1 : q = k
    · subst h1
      have : l[sg p q q]'(sg_lt hp hq hk') = l[p] := by congr 1; unfold sg; (repeat' split) <;> omega
      rw [this]
      simp [hq]
    · rw [if_neg h1, List.getElem?_set]
      by_cases h2 : p = k
      · subst h2
        have : l[sg p q p]'(sg_lt hp hq hk') = l[q] := by congr 1; unfold sg; (repeat' split) <;> omega
        rw [this]
        simp [hp]
      · rw [if_neg h2]
        have : l[sg p q k]'(sg_lt hp hq hk') = l[k] := by congr 1; unfold sg; (repeat' split) <;> omega
        rw [this]
        exact List.getElem?_eq_getElem hk'
  rw [List.getElem?_eq_getElem hk] at e
  exact Option.some.inj e
theorem swap_comm {l : List Told} {p q : Nat} (hp : p < l.length) (hq : q < l.length) (hne : p ≠ q) : swapL l p q hp hq = swapL l q p hq hp := by
  unfold swapL
  rw [List.set_comm _ _ hne]
theorem swap_bad' {l : List Told} (hs : Scan ordOk l) (hu : Scan unlikeOk l) {p q : Nat} (hp : p < l.length) (hq : q < l.length) (hlt : p < q) (he : l[p].tp = l[q].tp) : ¬ Scan ordOk (swapL l p q hp hq) := by
  intro h
  have hql : q < (swapL l p q hp hq).length := by rw [swap_len]; exact hq
  have h1 := h q hql
  have hx : (swapL l p q hp hq)[q] = l[p] := by rw [swap_get hp hq hql]; congr 1; unfold sg; (repeat' split) <;> omega
  rw [hx] at h1
  have hoff := told_later hs hu hq hlt he
  have hat : atP ((swapL l p q hp hq).take q) l[p].tp l[p].off = false := by
    rw [atP, List.any_eq_false]
    intro x hx
    obtain ⟨k, hk, rfl⟩ := List.mem_take_iff_getElem.1 hx
    have hkq : k < q := by omega
    rw [swap_get hp hq (by omega)]
    simp only [Bool.and_eq_true, decide_eq_true_eq]
    rintro ⟨h2, h3⟩
    by_cases hkp : k = p
    · subst hkp
      have e : l[sg k q k]'(sg_lt hp hq (by omega)) = l[q] := by congr 1; unfold sg; (repeat' split) <;> omega
      rw [e] at h3
      omega
    · have e : l[sg p q k]'(sg_lt hp hq (by omega)) = l[k] := by congr 1; unfold sg; (repeat' split) <;> omega
      rw [e] at h2 h3
      rcases Nat.lt_or_gt_of_ne hkp with hkp | hkp
      · exact unlike_spec hu hp hkp ⟨h2, h3⟩
      · exact unlike_spec hu (by omega) hkp ⟨h2.symm, h3.symm⟩
  have hab : aboveP ((swapL l p q hp hq).take q) l[p].tp l[p].off = true := by
    rw [aboveP, List.any_eq_true]
    refine ⟨(swapL l p q hp hq)[p]'(by rw [swap_len]; exact hp), List.mem_take_iff_getElem.2 ⟨p, by omega, rfl⟩, ?_⟩
    rw [swap_get hp hq (by rw [swap_len]; exact hp)]
    have e : l[sg p q p]'(sg_lt hp hq hp) = l[q] := by congr 1; unfold sg; (repeat' split) <;> omega
    rw [e]
    simp [he, hoff]
  unfold ordOk at h1
  rw [hat, hab] at h1
  cases h1
theorem swap_bad {l : List Told} (hs : Scan ordOk l) (hu : Scan unlikeOk l) {p q : Nat} (hp : p < l.length) (hq : q < l.length) (hne : p ≠ q) (he : l[p].tp = l[q].tp) : decide (Scan ordOk (swapL l p q hp hq)) = false := by
  rw [decide_eq_false_iff_not]
  rcases Nat.lt_or_gt_of_ne hne with h | h
  · exact swap_bad' hs hu hp hq h he
  · rw [swap_comm hp hq hne]
    exact swap_bad' hs hu hq hp h he.symm
theorem swap_ok' {l : List Told} (hs : Scan ordOk l) (hu : Scan unlikeOk l) {p q : Nat} (hp : p < l.length) (hq : q < l.length) (hqp : q = p + 1) (hne : l[p].tp ≠ l[q].tp) : Scan ordOk (swapL l p q hp hq) := by
  refine ord_of fun i j hj hij he => ?_
  have hjl : j < l.length := by rw [swap_len] at hj; exact hj
  rw [swap_get hp hq (by omega), swap_get hp hq hj] at he ⊢
  have hsg : sg p q i < sg p q j := by
    have hnn : ¬ (i = p ∧ j = q) := by
      rintro ⟨rfl, rfl⟩
      have e1 : l[sg i j i]'(sg_lt hp hq (by omega)) = l[j] := by congr 1; unfold sg; (repeat' split) <;> omega
      have e2 : l[sg i j j]'(sg_lt hp hq hjl) = l[i] := by congr 1; unfold sg; (repeat' split) <;> omega
      rw [e1, e2] at he
      exact hne he.symm
    unfold sg
    (repeat' split) <;> omega
  exact Int.le_of_lt (told_later hs hu (sg_lt hp hq hjl) hsg he)
theorem swap_ok {l : List Told} (hs : Scan ordOk l) (hu : Scan unlikeOk l) {p q : Nat} (hp : p < l.length) (hq : q < l.length) (h : p = q ∨ l[p].tp ≠ l[q].tp) (h1 : p ≤ q + 1) (h2 : q ≤ p + 1) : decide (Scan ordOk (swapL l p q hp hq)) = true := by
  rw [decide_eq_true_eq]
  by_cases hpq : p = q
  · subst hpq
    have : swapL l p p hp hq = l := by simp [swapL]
    rw [this]
    exact hs
  · have hne := h.resolve_left hpq
    rcases Nat.lt_or_gt_of_ne hpq with hlt | hlt
    · exact swap_ok' hs hu hp hq (by omega) hne
    · rw [swap_comm hp hq hpq]
      exact swap_ok' hs hu hq hp (by omega) hne.symm
end Go.Wm

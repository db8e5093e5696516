/-
  The audit's laws in plain Lean: order, once, by partitions; swaps; told again. Conditions: none.
-/
import Derived.Test.YtpinnhemlcpkaaaA5
import Derived.Test.YtpinnhemlcpkaaaR8
import Derived.Test.YtpinnhemlcpkaaaR3
set_option linter.all false
namespace Go.Wm

theorem snoc_ind {α : Type} {motive : List α → Prop} (nil : motive []) (snoc : ∀ l a, motive l → motive (l ++ [a])) : ∀ l, motive l := by
  intro l
  have key : ∀ n (l : List α), l.length = n → motive l := by
    intro n
    induction n with
    | zero => intro l h; rw [List.length_eq_zero_iff] at h; subst h; exact nil
    | succ n ih =>
      intro l h
      have hne : l ≠ [] := by rintro rfl; simp at h
      rw [← List.dropLast_concat_getLast hne]
      exact snoc _ _ (ih _ (by simp [h]))
  exact key _ l rfl
section
variable {α : Type}
theorem scan_nil (p : List α → α → Bool) : Scan p [] := fun i h => by simp at h
theorem scan_snoc (p : List α → α → Bool) (l : List α) (t : α) : Scan p (l ++ [t]) ↔ Scan p l ∧ p l t = true := by
  constructor
  · intro h
    refine ⟨fun i hi => ?_, ?_⟩
    · have := h i (by simp; omega)
      rwa [List.take_append_of_le_length (by omega), List.getElem_append_left hi] at this
    · have := h l.length (by simp)
      simpa using this
  · rintro ⟨h1, h2⟩ i hi
    simp at hi
    by_cases hil : i < l.length
    · rw [List.take_append_of_le_length (by omega), List.getElem_append_left hil]
      exact h1 i hil
    · have : i = l.length := by omega
      subst this
      simpa using h2
theorem scan_app {p : List α → α → Bool} {l m : List α} (h : Scan p (l ++ m)) : Scan p l := fun i hi => by
  have := h i (by simp; omega)
  rwa [List.take_append_of_le_length (by omega), List.getElem_append_left hi] at this
/-- What looks at its own part alone may be looked at in parts. -/
theorem scan_parts {p : List α → α → Bool} {q : α → Bool} (h1 : ∀ pre t, q t = true → p pre t = p (pre.filter q) t) (h2 : ∀ pre t, q t = false → p pre t = p (pre.filter fun x => !q x) t) (l : List α) :
    Scan p l ↔ Scan p (l.filter q) ∧ Scan p (l.filter fun x => !q x) := by
  refine snoc_ind (motive := fun l => Scan p l ↔ Scan p (l.filter q) ∧ Scan p (l.filter fun x => !q x)) ?_ ?_ l
  · simp [scan_nil]
  · intro l t ih
    rw [scan_snoc, ih, List.filter_append, List.filter_append]
    cases hq : q t
    · simp only [List.filter_cons, hq, Bool.false_eq_true, if_false, List.filter_nil, List.append_nil, Bool.not_false, if_true]
      rw [scan_snoc, h2 _ _ hq]
      constructor
      · rintro ⟨⟨a, b⟩, c⟩; exact ⟨a, b, c⟩
      · rintro ⟨a, b, c⟩; exact ⟨⟨a, b⟩, c⟩
    · simp only [List.filter_cons, hq, if_true, List.filter_nil, List.append_nil, Bool.not_true, Bool.false_eq_true, if_false]
      rw [scan_snoc, h1 _ _ hq]
      constructor
      · rintro ⟨⟨a, b⟩, c⟩; exact ⟨⟨a, c⟩, b⟩
      · rintro ⟨⟨a, c⟩, b⟩; exact ⟨⟨a, b⟩, c⟩
theorem scan_more {p : List α → α → Bool} {l m : List α} (h : Scan p l) (hm : ∀ pre t, t ∈ m → (∀ x ∈ l, x ∈ pre) → p pre t = true) : Scan p (l ++ m) := by
  refine snoc_ind (motive := fun m => (∀ pre t, t ∈ m → (∀ x ∈ l, x ∈ pre) → p pre t = true) → Scan p (l ++ m)) ?_ ?_ m hm
  · intro _; simpa using h
  · intro m t ih hm
    rw [← List.append_assoc, scan_snoc]
    exact ⟨ih fun pre u hu => hm pre u (by simp [hu]), hm _ t (by simp) (fun x hx => by simp [hx])⟩
theorem any_filter (l : List α) (q f : α → Bool) (h : ∀ x, f x = true → q x = true) : (l.filter q).any f = l.any f := by
  rw [Bool.eq_iff_iff, List.any_eq_true, List.any_eq_true]
  constructor
  · rintro ⟨x, hx, hf⟩
    exact ⟨x, (List.mem_filter.1 hx).1, hf⟩
  · rintro ⟨x, hx, hf⟩
    exact ⟨x, List.mem_filter.2 ⟨hx, h x hf⟩, hf⟩
end

theorem ord_part (pre : List Told) (t : Told) (q : Told → Bool) (h : ∀ x, x.tp = t.tp → q x = true) : ordOk pre t = ordOk (pre.filter q) t := by
  unfold ordOk atP aboveP
  rw [any_filter _ _ _ (fun x hx => h x (by simp at hx; exact hx.1)), any_filter _ _ _ (fun x hx => h x (by simp at hx; exact hx.1))]
theorem once_part (ms : List Mark) (pre : List Told) (t : Told) (q : Told → Bool) (h : ∀ x, x.tp = t.tp → q x = true) : onceOk ms pre t = onceOk ms (pre.filter q) t := by
  cases hm : markP ms t.tp with
  | none => rw [onceOk_none hm, onceOk_none hm]
  | some m =>
    rw [onceOk_some hm, onceOk_some hm]
    unfold atP
    rw [any_filter _ _ _ (fun x hx => h x (by simp at hx; exact hx.1)), any_filter _ _ _ (fun x hx => h x (by simp at hx; exact hx.1.1))]
theorem part_law {p : List Told → Told → Bool} (hp : ∀ pre t (q : Told → Bool), (∀ x, x.tp = t.tp → q x = true) → p pre t = p (pre.filter q) t) (tp : Tp) (l : List Told) :
    Scan p l ↔ Scan p (l.filter fun x => decide (x.tp = tp)) ∧ Scan p (l.filter fun x => !decide (x.tp = tp)) := by
  refine scan_parts (q := fun x => decide (x.tp = tp)) (fun pre t ht => hp pre t _ fun x hx => ?_) (fun pre t ht => hp pre t _ fun x hx => ?_) l
  · rw [hx]; exact ht
  · rw [hx]; simpa using ht

/-- Those of a partition that stand behind others of it are told later. -/
theorem ord_above {l : List Told} {i j : Nat} (hs : Scan ordOk l) (hj : j < l.length) (hij : i < j) (he : l[i].tp = l[j].tp) (hu : ∀ k, (h : k < j) → ¬ (l[k].tp = l[j].tp ∧ l[k].off = l[j].off)) : l[i].off < l[j].off := by
  have := hs j hj
  unfold ordOk at this
  have hat : atP (l.take j) l[j].tp l[j].off = false := by
    rw [atP, List.any_eq_false]
    intro x hx
    obtain ⟨k, hk, rfl⟩ := List.mem_take_iff_getElem.1 hx
    have := hu k (by omega)
    simpa using this
  rw [hat] at this
  simp only [Bool.not_false, Bool.true_and, Bool.not_eq_true'] at this
  rw [aboveP, List.any_eq_false] at this
  have h2 := this l[i] (List.mem_take_iff_getElem.2 ⟨i, by omega, rfl⟩)
  simp only [Bool.and_eq_true, decide_eq_true_eq, not_and, Int.not_lt] at h2
  have h3 := h2 he
  have h4 := hu i hij
  have : l[i].off ≠ l[j].off := fun h => h4 ⟨he, h⟩
  omega
theorem ord_of {l : List Told} (h : ∀ i j, (hj : j < l.length) → (hij : i < j) → l[i].tp = l[j].tp → l[i].off ≤ l[j].off) : Scan ordOk l := fun j hj => by
  unfold ordOk
  have : aboveP (l.take j) l[j].tp l[j].off = false := by
    rw [aboveP, List.any_eq_false]
    intro x hx
    obtain ⟨k, hk, rfl⟩ := List.mem_take_iff_getElem.1 hx
    simp only [Bool.and_eq_true, decide_eq_true_eq, not_and, Int.not_lt]
    exact h k j hj (by omega)
  rw [this]; simp
end Go.Wm

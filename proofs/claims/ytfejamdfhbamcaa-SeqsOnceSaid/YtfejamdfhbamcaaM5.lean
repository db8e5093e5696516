/-
  Producers, in plain Lean: where a search ends is where one stands. Conditions: none.
-/
import Derived.Test.YtfejamdfhbamcaaIns
import Derived.Test.YtfejamdfhbamcaaCrP
import Derived.Test.YtfejamdfhbamcaaM4
set_option linter.all false
namespace Go.Wm
variable [Dfr]
open Go.RowKit
/-- The new block, of which nothing is known; then what lies in it. -/
def XS (N d0 sz : Nat) (kr : PH) (ty : TypeId) (φ : PH → Value → Prop) : Nat → (Nat → Value) → PH → World → Prop := fun s tm k w => N ≤ w.heap.size ∧
  (s = 1 → ∃ b c, tm d0 = .pointer (some ⟨b, 0, none⟩) ∧ w.heap[b]? = some (.cells c ty (0, 0)) ∧ c.size = sz ∧ k b = none ∧ b < w.heap.size ∧ N ≤ b ∧ kr b = none) ∧
  (s = 2 → ∃ b u k0, tm d0 = .pointer (some ⟨b, 0, none⟩) ∧ w.heap[b]? = some (.cells u.cells ty (0, 0)) ∧ φ k0 u ∧ Le kr k0 ∧ (∀ i o, k0 i = some o → i < w.heap.size ∧ k i = some o) ∧ k b = none ∧ b < w.heap.size ∧ N ≤ b ∧ kr b = none)
section
variable {P : Program} {F : Fr} {n : Nat} {ops : Array Oper} {Q : Exit → Act → World → Prop} {rest : List Oper} {o : Oper} {e : Env} {k : PH}
end
end Go.Wm
namespace Go.Wm
variable [Dfr]
open Go.RowKit
/-- The first place that is not below. -/
def posF {α : Type} (f : α → Int) (l : List α) : Nat := (l.takeWhile fun x => decide (f x < 0)).length
/-- Does what is looked for stand there? -/
def metF {α : Type} (f : α → Int) (l : List α) : Bool := decide ((l[posF f l]?).map f = some 0)
theorem posF_eq {α : Type} {f : α → Int} : ∀ {l : List α} {n : Nat}, n ≤ l.length → (∀ q, (h : q < l.length) → q < n → f l[q] < 0) → (∀ h : n < l.length, ¬ f l[n] < 0) → posF f l = n
  | [], n, hn, _, _ => by simp at hn; subst hn; rfl
  | x :: r, 0, _, _, h2 => by
    have := h2 (by simp)
    simp only [List.getElem_cons_zero] at this
    unfold posF
    rw [List.takeWhile_cons_of_neg (by simpa using this)]
    rfl
  | x :: r, n + 1, hn, h1, h2 => by
    have h0 := h1 0 (by simp) (by omega)
    simp only [List.getElem_cons_zero] at h0
    unfold posF
    rw [List.takeWhile_cons_of_pos (by simpa using h0), List.length_cons]
    have := posF_eq (f := f) (l := r) (n := n) (by simpa using hn) (fun q hq hqn => by have := h1 (q + 1) (by simpa using hq) (by omega); simpa using this) (fun h => by have := h2 (by simpa using h); simpa using this)
    unfold posF at this
    rw [this]
theorem posF_le {α : Type} (f : α → Int) (l : List α) : posF f l ≤ l.length := (List.takeWhile_sublist _).length_le
theorem metF_lt {α : Type} {f : α → Int} {l : List α} (h : metF f l = true) : ∃ hl : posF f l < l.length, f l[posF f l] = 0 := by
  unfold metF at h
  have h := of_decide_eq_true h
  cases e : l[posF f l]? with
  | none => rw [e] at h; cases h
  | some x =>
    obtain ⟨hl, hx⟩ := List.getElem?_eq_some_iff.1 e
    rw [e] at h
    exact ⟨hl, by rw [hx]; simpa using h⟩
theorem u64_halfB {n : Nat} (h : n < 18446744073709551616) : IntKind.u64.wrap (n : Int) = (n : Int) := by
  rw [wrap_nat rfl, Nat.mod_eq_of_lt (by simpa [IntKind.bits] using h)]
end Go.Wm
namespace Go.Wm
def toP (pid : Int) (p : ProdT) : Int := p.pid - pid
theorem posP_split {l : List ProdT} {pid : Int} (hp : l.Pairwise fun a b => a.pid < b.pid) : ∀ i j, (hi : i < l.length) → (hj : j < l.length) → i < j → toP pid l[j] < 0 → toP pid l[i] < 0 := fun i j hi hj hij h => by
  have := List.pairwise_iff_getElem.1 hp i j hi hj hij
  unfold toP at h ⊢; omega
theorem posP_cons_lt {q : ProdT} {l : List ProdT} {pid : Int} (h : q.pid < pid) : posF (toP pid) (q :: l) = posF (toP pid) l + 1 := by
  unfold posF; rw [List.takeWhile_cons_of_pos (p := fun x => decide (toP pid x < 0)) (decide_eq_true (show q.pid - pid < 0 by omega))]; rfl
theorem posP_cons_ge {q : ProdT} {l : List ProdT} {pid : Int} (h : ¬ q.pid < pid) : posF (toP pid) (q :: l) = 0 := by
  unfold posF; rw [List.takeWhile_cons_of_neg (p := fun x => decide (toP pid x < 0)) (fun hc => h (by have : q.pid - pid < 0 := of_decide_eq_true hc; omega))]; rfl
theorem metP_cons_lt {q : ProdT} {l : List ProdT} {pid : Int} (h : q.pid < pid) : metF (toP pid) (q :: l) = metF (toP pid) l := by
  unfold metF; rw [posP_cons_lt h]; simp
theorem metP_cons_ge {q : ProdT} {l : List ProdT} {pid : Int} (h : ¬ q.pid < pid) : metF (toP pid) (q :: l) = decide (q.pid = pid) := by
  unfold metF; rw [posP_cons_ge h]
  by_cases e : q.pid = pid
  · simp [toP, e]
  · simp [toP, e]; omega
/-- A search finds what there is. -/
theorem find_pos {l : List ProdT} {pid : Int} (hp : l.Pairwise fun a b => a.pid < b.pid) : findP l pid = if metF (toP pid) l = true then l[posF (toP pid) l]? else none := by
  induction l with
  | nil => simp [findP, metF]
  | cons q l ih =>
    obtain ⟨h1, h2⟩ := List.pairwise_cons.1 hp
    by_cases h : q.pid < pid
    · rw [posP_cons_lt h, metP_cons_lt h]
      unfold findP
      rw [List.find?_cons_of_neg (by simp; omega), List.getElem?_cons_succ]
      exact ih h2
    · rw [posP_cons_ge h, metP_cons_ge h]
      unfold findP
      by_cases e : q.pid = pid
      · rw [List.find?_cons_of_pos (by simp [e])]; simp [e]
      · rw [List.find?_cons_of_neg (by simp [e]), if_neg (by simp [e]), List.find?_eq_none]
        intro x hx
        have := h1 x hx
        simp; omega
/-- And where it ends is where one is put. -/
theorem put_pos {l : List ProdT} {p : ProdT} (hp : l.Pairwise fun a b => a.pid < b.pid) : putP l p = if metF (toP p.pid) l = true then l.set (posF (toP p.pid) l) p else l.take (posF (toP p.pid) l) ++ p :: l.drop (posF (toP p.pid) l) := by
  induction l with
  | nil => simp [putP, metF, posF]
  | cons q l ih =>
    obtain ⟨h1, h2⟩ := List.pairwise_cons.1 hp
    unfold putP
    by_cases h : q.pid < p.pid
    · rw [if_pos h, posP_cons_lt h, metP_cons_lt h, ih h2]
      split <;> simp
    · rw [if_neg h, posP_cons_ge h, metP_cons_ge h]
      by_cases e : q.pid = p.pid
      · rw [if_pos e]; simp [e]
      · rw [if_neg e]; simp [e]
end Go.Wm

/-
  A move lowers the sum of the squares of the counts. Conditions: none.
-/
import Derived.Test.YtapfmndcjcdcjaaP3
set_option linter.all false
namespace Go.Wm
open Go.RowKit Go.Proofs

def sumN (f : Nat → Nat) : Nat → Nat
  | 0 => 0
  | n + 1 => sumN f n + f n
theorem sumN_same {f g : Nat → Nat} : ∀ {n : Nat}, (∀ m, m < n → g m = f m) → sumN g n = sumN f n
  | 0, _ => rfl
  | n + 1, h => by rw [sumN, sumN, sumN_same (n := n) (fun m hm => h m (by omega)), h n (by omega)]
theorem sumN_one {f g : Nat → Nat} {j : Nat} : ∀ {n : Nat}, j < n → (∀ m, m < n → m ≠ j → g m = f m) → sumN g n + f j = sumN f n + g j
  | 0, hj, _ => by omega
  | n + 1, hj, h => by
    rw [sumN, sumN]
    by_cases hjn : j = n
    · subst hjn
      have := sumN_same (f := f) (g := g) (n := j) (fun m hm => h m (by omega) (by omega))
      omega
    · have := sumN_one (f := f) (g := g) (n := n) (j := j) (by omega) (fun m hm hne => h m (by omega) hne)
      have := h n (by omega) (Ne.symm hjn)
      omega
theorem sumN_two {f g : Nat → Nat} {i j : Nat} : ∀ {n : Nat}, i < n → j < n → i ≠ j → (∀ m, m < n → m ≠ i → m ≠ j → g m = f m) → sumN g n + f i + f j = sumN f n + g i + g j
  | 0, hi, _, _, _ => by omega
  | n + 1, hi, hj, hij, h => by
    rw [sumN, sumN]
    by_cases h1 : i = n
    · subst h1
      have := sumN_one (f := f) (g := g) (n := i) (j := j) (by omega) (fun m hm hne => h m (by omega) (by omega) hne)
      omega
    · by_cases h2 : j = n
      · subst h2
        have := sumN_one (f := f) (g := g) (n := j) (j := i) (by omega) (fun m hm hne => h m (by omega) hne (by omega))
        omega
      · have := sumN_two (f := f) (g := g) (n := n) (i := i) (j := j) (by omega) (by omega) hij (fun m hm h3 h4 => h m (by omega) h3 h4)
        have := h n (by omega) (Ne.symm h1) (Ne.symm h2)
        omega
theorem sq_lower {a b : Nat} (h : b + 2 ≤ a) : (a - 1) * (a - 1) + (b + 1) * (b + 1) < a * a + b * b := by
  obtain ⟨d, rfl⟩ : ∃ d, a = b + 2 + d := ⟨a - (b + 2), by omega⟩
  rw [show b + 2 + d - 1 = b + 1 + d by omega]
  simp only [Nat.mul_add, Nat.add_mul]
  have := Nat.mul_comm b d
  omega
/-- The sum of the squares. -/
def sqW (n : Nat) (w : List Int) : Nat := sumN (fun m => w.count (m : Int) * w.count (m : Int)) n
theorem sqW_lower {n p i j : Nat} {w : List Int} (hp : p < w.length) (hi : w[p] = (i : Int)) (hin : i < n) (hjn : j < n) (hc : w.count (j : Int) + 2 ≤ w.count (i : Int)) : sqW n (w.set p (j : Int)) < sqW n w := by
  have hij : i ≠ j := by rintro rfl; omega
  have cset : ∀ m : Nat, (w.set p (j : Int)).count (m : Int) = w.count (m : Int) - (if i = m then 1 else 0) + (if j = m then 1 else 0) := by
    intro m
    rw [List.count_set (h := hp), hi]
    have f1 : ((i : Int) == (m : Int)) = decide (i = m) := by rw [Bool.eq_iff_iff]; simp; omega
    have f2 : ((j : Int) == (m : Int)) = decide (j = m) := by rw [Bool.eq_iff_iff]; simp; omega
    rw [f1, f2]
    by_cases e1 : i = m <;> by_cases e2 : j = m <;> simp [e1, e2]
  have := sumN_two (f := fun m => w.count (m : Int) * w.count (m : Int)) (g := fun m => (w.set p (j : Int)).count (m : Int) * (w.set p (j : Int)).count (m : Int)) hin hjn hij (fun m hm h1 h2 => by
    simp only [cset, Ne.symm h1, Ne.symm h2, if_false]
    simp)
  have e1 : (w.set p (j : Int)).count (i : Int) = w.count (i : Int) - 1 := by rw [cset]; simp [Ne.symm hij]
  have e2 : (w.set p (j : Int)).count (j : Int) = w.count (j : Int) + 1 := by rw [cset]; simp [hij]
  simp only [e1, e2] at this
  have hs := sq_lower hc
  unfold sqW
  omega
end Go.Wm

/-
  How much a configuration grows, step by step. Conditions: none.
-/
import Derived.Test.YteimghjhiiffjaaC3
set_option linter.all false
namespace Go.Wm
open Go.RowKit Go.Proofs
theorem put_len {α : Type} (ord : α → α → Int) (l : List α) (x : α) (there : Bool) : (putInL ord l x there).length ≤ l.length + 1 := by
  unfold putInL
  split <;> split <;> simp <;> omega
/-- At most n of each. -/
def Conf.upto (x : Conf) (n : Nat) : Prop := x.topics.length ≤ n ∧ x.rules.length ≤ n ∧ x.rates.length ≤ n ∧ x.ways.length ≤ n
theorem act_upto {x y : Conf} {s : Step} {n : Nat} (h : x.upto n) (ha : actC x s = .ok y) : y.upto (n + 1) := by
  obtain ⟨h1, h2, h3, h4⟩ := h
  unfold actC at ha
  unfold Conf.upto
  repeat' split at ha
  all_goals first | cases ha | skip
  all_goals simp only [List.length_map]
  · exact ⟨Nat.le_trans (put_len _ _ _ _) (by omega), by omega, by omega, by omega⟩
  · exact ⟨Nat.le_trans (List.length_filter_le _ _) (by omega), Nat.le_trans (List.length_filter_le _ _) (by omega), by omega, Nat.le_trans (List.length_filter_le _ _) (by omega)⟩
  · exact ⟨by omega, by omega, by omega, by omega⟩
  · exact ⟨by omega, by omega, by omega, by omega⟩
  · exact ⟨by omega, Nat.le_trans (put_len _ _ _ _) (by omega), by omega, by omega⟩
  · exact ⟨by omega, by omega, Nat.le_trans (put_len _ _ _ _) (by omega), by omega⟩
  · exact ⟨by omega, by omega, by omega, Nat.le_trans (put_len _ _ _ _) (by omega)⟩
theorem noConf_upto (n : Nat) : noConf.upto n := ⟨Nat.zero_le _, Nat.zero_le _, Nat.zero_le _, Nat.zero_le _⟩
theorem do_upto {x : Conf} {s : Step} {n : Nat} (h : x.upto n) : (doC x s).1.upto (n + 1) := by
  unfold doC
  split
  · exact noConf_upto _
  · split
    · exact noConf_upto _
    · cases ha : actC { x with ver := x.ver + 1 } s with
      | error e => exact noConf_upto _
      | ok y => exact act_upto (x := { x with ver := x.ver + 1 }) h ha
theorem do_no {x : Conf} {s : Step} (h : (doC x s).2 ≠ 0) : (doC x s).1 = noConf := by
  unfold doC at h ⊢
  split
  · rfl
  · rename_i h1
    rw [if_neg h1] at h
    split
    · rfl
    · rename_i h2
      rw [if_neg h2] at h
      cases ha : actC { x with ver := x.ver + 1 } s with
      | error e => rfl
      | ok y => rw [ha] at h; exact absurd rfl h
theorem do_ok {x : Conf} {s : Step} (h : (doC x s).2 = 0) : confP x = true ∧ formS s = true ∧ x.ver ≠ 1099511627776 ∧ actC { x with ver := x.ver + 1 } s = .ok (doC x s).1 := by
  unfold doC at h ⊢
  split at h
  · cases h
  · rename_i h1
    rw [if_neg h1]
    split at h
    · cases h
    · rename_i h2
      rw [if_neg h2]
      simp only [Bool.or_eq_true, Bool.not_eq_true', not_or, Bool.not_eq_false] at h1
      refine ⟨h1.1, h1.2, h2, ?_⟩
      cases ha : actC { x with ver := x.ver + 1 } s with
      | error e =>
        rw [ha] at h
        have h : e = 0 := h
        exfalso
        unfold actC at ha
        repeat' split at ha
        all_goals cases ha
        all_goals omega
      | ok y => rfl
end Go.Wm

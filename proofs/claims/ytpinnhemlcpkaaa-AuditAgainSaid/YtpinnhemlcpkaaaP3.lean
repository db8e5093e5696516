/-
  What is told again from a place on, in plain Lean. Conditions: none.
-/
import Derived.Test.YtpinnhemlcpkaaaP1
set_option linter.all false
namespace Go.Wm

theorem again_order {l : List Told} (h : Scan ordOk l) (at_ : Nat) : Scan ordOk (l ++ l.drop at_) :=
  scan_more h fun pre t ht hpre => by
    have : atP pre t.tp t.off = true := by
      rw [atP, List.any_eq_true]
      exact ⟨t, hpre t (List.mem_of_mem_drop ht), by simp⟩
    unfold ordOk
    rw [this]; simp
theorem once_nil (l : List Told) : Scan (onceOk []) l := fun i hi => onceOk_none rfl
theorem markP_one (tp tp' : Tp) (off : Int) : markP [⟨tp, off⟩] tp' = if tp = tp' then some off else none := by
  unfold markP
  by_cases h : tp = tp' <;> simp [h]
theorem again_twice {l : List Told} {p : Nat} (hp : p < l.length) : decide (Scan (onceOk [⟨l[p].tp, l[p].off⟩]) (l ++ l.drop p)) = false := by
  rw [decide_eq_false_iff_not]
  intro h
  have hlt : l.length < (l ++ l.drop p).length := by simp; omega
  have h1 := h l.length hlt
  have e1 : (l ++ l.drop p)[l.length] = l[p] := by
    rw [List.getElem_append_right (Nat.le_refl _)]
    simp
  rw [e1, List.take_left, onceOk_some (by rw [markP_one, if_pos rfl])] at h1
  have : atP l l[p].tp l[p].off = true := by
    rw [atP, List.any_eq_true]
    exact ⟨l[p], List.getElem_mem hp, by simp⟩
  rw [this] at h1
  simp at h1
theorem again_above {l : List Told} {tp : Tp} {high : Int} (h : ∀ s ∈ l, s.tp = tp → s.off ≤ high) (p : Nat) : Scan (onceOk [⟨tp, high + 1⟩]) (l ++ l.drop p) := by
  have hm : ∀ s ∈ l ++ l.drop p, s.tp = tp → s.off ≤ high := fun s hs => h s (by
    rcases List.mem_append.1 hs with hs | hs
    · exact hs
    · exact List.mem_of_mem_drop hs)
  generalize l ++ l.drop p = m at hm
  intro i hi
  by_cases he : tp = m[i].tp
  · have hoff := hm _ (List.getElem_mem hi) he.symm
    rw [onceOk_some (by rw [markP_one, if_pos he])]
    have e1 : decide (high + 1 ≤ m[i].off) = false := by simp; omega
    have e2 : ((m.take i).any fun s => (decide (s.tp = m[i].tp) && decide (high + 1 ≤ s.off)) && decide (m[i].off < high + 1)) = false := by
      rw [List.any_eq_false]
      intro s hs
      simp only [Bool.and_eq_true, decide_eq_true_eq, not_and]
      rintro ⟨h1, h2⟩
      have := hm s (List.mem_of_mem_take hs) (h1.trans he.symm)
      omega
    rw [e1, e2]; rfl
  · exact onceOk_none (by rw [markP_one, if_neg he])
theorem again_told (l : List Told) (p : Nat) : toldP (l ++ l.drop p) = toldP l := by
  funext r
  unfold toldP
  rw [List.any_append]
  rw [Bool.eq_iff_iff, Bool.or_eq_true]
  constructor
  · rintro (h | h)
    · exact h
    · rw [List.any_eq_true] at h ⊢
      obtain ⟨x, hx, hf⟩ := h
      exact ⟨x, List.mem_of_mem_drop hx, hf⟩
  · exact .inl
end Go.Wm

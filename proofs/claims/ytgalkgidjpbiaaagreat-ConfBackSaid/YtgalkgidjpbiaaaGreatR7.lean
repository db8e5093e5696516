/-
  What is put in its place, said by what stands ahead and behind, in plain Lean. Conditions: none.
-/
import Derived.Test.YtgalkgidjpbiaaaGreatR6
set_option linter.all false
namespace Go.Wm
open Go.RowKit Go.Proofs
theorem filter_succ {α : Type} (f : α → Bool) {l : List α} {i : Nat} (h : i < l.length) : (l.take (i + 1)).filter f = (l.take i).filter f ++ (if f l[i] = true then [l[i]] else []) := by
  rw [List.take_succ_eq_append_getElem h, List.filter_append]
  congr 1
  by_cases e : f l[i] = true <;> simp [e]
theorem filter_all {α : Type} {f : α → Bool} {l : List α} (h : ∀ x ∈ l, f x = true) : l.filter f = l := List.filter_eq_self.2 h
theorem filter_no {α : Type} {f : α → Bool} {l : List α} (h : ∀ x ∈ l, f x = false) : l.filter f = [] := List.filter_eq_nil_iff.2 fun x hx => by rw [h x hx]; simp
theorem put_ref {α : Type} {ord : α → α → Int} (ho : OrdL ord) {may : α → Bool} {l : List α} (hr : RightP ord may l) (x : α) (there : Bool) :
    (l.filter (fun y => decide (ord y x < 0)) ++ (if there = true then [x] else [])) ++ l.filter (fun y => decide (ord x y < 0)) = putInL ord l x there := by
  have hp := ((right_iff ho).1 hr).2
  obtain ⟨p, hpp⟩ : ∃ p, posF (fun y => ord y x) l = p := ⟨_, rfl⟩
  have hb : ∀ y ∈ l.take p, ord y x < 0 := by rw [← hpp]; exact take_below
  have hnb : ∀ y, ord y x < 0 → ¬ ord x y < 0 := fun y h => by have := ho.sw y x; omega
  by_cases hm : metF (fun y => ord y x) l = true
  · obtain ⟨hl, hz⟩ := metF_lt hm
    simp only [hpp] at hl hz
    have ha : ∀ y ∈ l.drop (p + 1), ord x y < 0 := fun y hy => by
      obtain ⟨j, hj, rfl⟩ := List.getElem_of_mem hy
      rw [List.length_drop] at hj
      rw [List.getElem_drop]
      have := List.pairwise_iff_getElem.1 hp p (p + 1 + j) hl (by omega) (by omega)
      exact (ho.eqL _ _ hz _).1 this
    have hna : ∀ y, ord x y < 0 → ¬ ord y x < 0 := fun y h => by have := ho.sw x y; omega
    have hzx : ¬ ord x l[p] < 0 := fun h => by have := ho.sw x l[p]; omega
    have e1 : l.filter (fun y => decide (ord y x < 0)) = l.take p := by
      conv => lhs; rw [split_at hl]
      rw [List.filter_append, List.filter_cons_of_neg (by simp [hz]), filter_all (fun y hy => decide_eq_true (hb y hy)), filter_no (fun y hy => decide_eq_false (hna y (ha y hy))), List.append_nil]
    have e2 : l.filter (fun y => decide (ord x y < 0)) = l.drop (p + 1) := by
      conv => lhs; rw [split_at hl]
      rw [List.filter_append, List.filter_cons_of_neg (by simpa using hzx), filter_no (fun y hy => decide_eq_false (hnb y (hb y hy))), filter_all (fun y hy => decide_eq_true (ha y hy)), List.nil_append]
    rw [e1, e2, putInL, if_pos hm, hpp]
    cases there
    · simp
    · simp only [if_true]
      rw [List.set_eq_take_append_cons_drop, if_pos hl, List.append_assoc]
      rfl
  · have ha : ∀ y ∈ l.drop p, ord x y < 0 := by rw [← hpp]; exact drop_above ho hp hm
    have hna : ∀ y, ord x y < 0 → ¬ ord y x < 0 := fun y h => by have := ho.sw x y; omega
    have e1 : l.filter (fun y => decide (ord y x < 0)) = l.take p := by
      conv => lhs; rw [← List.take_append_drop p l]
      rw [List.filter_append, filter_all (fun y hy => decide_eq_true (hb y hy)), filter_no (fun y hy => decide_eq_false (hna y (ha y hy))), List.append_nil]
    have e2 : l.filter (fun y => decide (ord x y < 0)) = l.drop p := by
      conv => lhs; rw [← List.take_append_drop p l]
      rw [List.filter_append, filter_no (fun y hy => decide_eq_false (hnb y (hb y hy))), filter_all (fun y hy => decide_eq_true (ha y hy)), List.nil_append]
    rw [e1, e2, putInL, if_neg hm, hpp]
    cases there
    · simp
    · simp
theorem at_uniq {x : Conf} {s : ByteArray} (hr : RightP ordTopic topicP x.topics) {i j : Nat} (hi : i < x.topics.length) (hj : j < x.topics.length) (h1 : (x.topics[i]).name = s) (h2 : (x.topics[j]).name = s) : i = j := by
  have hp := ((right_iff ordL_topic).1 hr).2
  have z : cmpStr (x.topics[i]).name (x.topics[j]).name = 0 := cmpStr_eq.2 (h1.trans h2.symm)
  have z' : cmpStr (x.topics[j]).name (x.topics[i]).name = 0 := cmpStr_eq.2 (h2.trans h1.symm)
  rcases Nat.lt_trichotomy i j with h | h | h
  · have := List.pairwise_iff_getElem.1 hp i j hi hj h
    unfold ordTopic at this; omega
  · exact h
  · have := List.pairwise_iff_getElem.1 hp j i hj hi h
    unfold ordTopic at this; omega
theorem topF_at {x : Conf} {s : ByteArray} (hr : RightP ordTopic topicP x.topics) (hk : knownC x s = true) : topF x s = (posF (fun t => cmpStr t.name s) x.topics : Int) := by
  obtain ⟨h, h1, _, _⟩ := known_at hr hk
  have h0 := topF_known x s
  rw [hk] at h0
  rcases idxF_cases x.topics (fun t => decide (t.name = s)) with ⟨e1, e2⟩ | ⟨i, hi, e1, e2, e3⟩
  · have : topF x s = -1 := e1
    rw [this] at h0; simp at h0
  · have e1 : topF x s = (i : Int) := e1
    rw [e1, at_uniq hr hi h (by simpa using e2) h1]
theorem topF_no {x : Conf} {s : ByteArray} (hk : knownC x s = false) : topF x s = -1 := by
  have h0 := topF_known x s
  rw [hk] at h0
  rcases idxF_cases x.topics (fun t => decide (t.name = s)) with ⟨e1, e2⟩ | ⟨i, hi, e1, e2, e3⟩
  · exact e1
  · have e1 : topF x s = (i : Int) := e1
    rw [e1] at h0; simp at h0
theorem Row.ownL {α : Type} {T : Ty α} {f : α → List Value} {N : Nat} {k : PH} {et : Nat} {v : Value} {l : List α} (h : Row N k et T.sz v l.length (l.flatMap f)) (hr : ∀ x ∈ l, T.rep k (f x) x) : Own T N k et v l :=
  ⟨l.map f, ⟨by simp, fun i cs x h1 h2 => by
    rw [List.getElem?_map, h2] at h1
    cases h1
    exact hr x (List.mem_of_getElem? h2)⟩, by rw [show (l.map f).flatten = l.flatMap f by simp [List.flatMap]]; exact h⟩
theorem sl_ok {α : Type} {T : Ty α} {k : PH} {a : Option Addr} {c : Nat} {l : List α} (h : Sl T k a c l) {x : α} (hx : x ∈ l) : ∃ cs, T.rep k cs x := by
  obtain ⟨i, hi, rfl⟩ := List.getElem_of_mem hx
  obtain ⟨b, off, cs, _, hr, _⟩ := h.el i _ (List.getElem?_eq_getElem hi)
  exact ⟨cs, hr⟩
end Go.Wm

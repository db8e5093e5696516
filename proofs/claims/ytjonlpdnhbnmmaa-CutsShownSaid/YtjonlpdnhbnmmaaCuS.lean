/-
  Places of transactions as they are gathered, in plain Lean. Conditions: none.
-/
import Derived.Test.YtjonlpdnhbnmmaaCuQ
set_option linter.all false
namespace Go.Wm

abbrev Ev := Nat × Gone
def evPl (q : Ev) : Pl := ⟨(q.1 : Int), q.2.first, q.2.last⟩
def evD (l : List View) : List Ev := l.zipIdx.flatMap fun q => q.1.tx.done.map fun g => (q.2, g)
def evG (l : List View) : List Ev := l.zipIdx.flatMap fun q => q.1.tx.gone.map fun g => (q.2, g)
theorem evD_succ {l : List View} {i : Nat} (h : i < l.length) : evD (l.take (i + 1)) = evD (l.take i) ++ l[i].tx.done.map fun g => (i, g) := by
  unfold evD
  rw [List.take_succ_eq_append_getElem h, List.zipIdx_append, List.flatMap_append]
  congr 1
  simp [Nat.min_eq_left (Nat.le_of_lt h)]
theorem evG_succ {l : List View} {i : Nat} (h : i < l.length) : evG (l.take (i + 1)) = evG (l.take i) ++ l[i].tx.gone.map fun g => (i, g) := by
  unfold evG
  rw [List.take_succ_eq_append_getElem h, List.zipIdx_append, List.flatMap_append]
  congr 1
  simp [Nat.min_eq_left (Nat.le_of_lt h)]
theorem evD_len {l : List View} {n : Nat} (h : ∀ v ∈ l, v.tx.done.length ≤ n) : (evD l).length ≤ l.length * n := by
  have key : ∀ (l : List View) (k : Nat), (∀ v ∈ l, v.tx.done.length ≤ n) → ((l.zipIdx k).flatMap fun q => q.1.tx.done.map fun g => (q.2, g)).length ≤ l.length * n := by
    intro l
    induction l with
    | nil => intro k _; simp
    | cons v l ih =>
      intro k h
      rw [List.zipIdx_cons, List.flatMap_cons, List.length_append, List.length_cons, Nat.succ_mul]
      have h1 := ih (k + 1) fun v hv => h v (by simp [hv])
      have h2 := h v (by simp)
      simp only [List.length_map] at h1 ⊢
      omega
  exact key l 0 h
theorem evG_len {l : List View} {n : Nat} (h : ∀ v ∈ l, v.tx.gone.length ≤ n) : (evG l).length ≤ l.length * n := by
  have key : ∀ (l : List View) (k : Nat), (∀ v ∈ l, v.tx.gone.length ≤ n) → ((l.zipIdx k).flatMap fun q => q.1.tx.gone.map fun g => (q.2, g)).length ≤ l.length * n := by
    intro l
    induction l with
    | nil => intro k _; simp
    | cons v l ih =>
      intro k h
      rw [List.zipIdx_cons, List.flatMap_cons, List.length_append, List.length_cons, Nat.succ_mul]
      have h1 := ih (k + 1) fun v hv => h v (by simp [hv])
      have h2 := h v (by simp)
      simp only [List.length_map] at h1 ⊢
      omega
  exact key l 0 h
theorem mem_evD {l : List View} {q : Ev} : q ∈ evD l ↔ ∃ h : q.1 < l.length, q.2 ∈ l[q.1].tx.done := by
  unfold evD
  simp only [List.mem_flatMap, List.mem_map]
  constructor
  · rintro ⟨⟨v, i⟩, hq, g, hg, rfl⟩
    rw [List.mk_mem_zipIdx_iff_getElem?] at hq
    obtain ⟨hi, rfl⟩ := List.getElem?_eq_some_iff.1 hq
    exact ⟨hi, hg⟩
  · rintro ⟨hi, hg⟩
    exact ⟨(l[q.1], q.1), List.mk_mem_zipIdx_iff_getElem?.2 (List.getElem?_eq_getElem hi), q.2, hg, rfl⟩
theorem mem_evG {l : List View} {q : Ev} : q ∈ evG l ↔ ∃ h : q.1 < l.length, q.2 ∈ l[q.1].tx.gone := by
  unfold evG
  simp only [List.mem_flatMap, List.mem_map]
  constructor
  · rintro ⟨⟨v, i⟩, hq, g, hg, rfl⟩
    rw [List.mk_mem_zipIdx_iff_getElem?] at hq
    obtain ⟨hi, rfl⟩ := List.getElem?_eq_some_iff.1 hq
    exact ⟨hi, hg⟩
  · rintro ⟨hi, hg⟩
    exact ⟨(l[q.1], q.1), List.mk_mem_zipIdx_iff_getElem?.2 (List.getElem?_eq_getElem hi), q.2, hg, rfl⟩
def ofTx (pid no : Int) (D : List Ev) : List Pl := (D.filter fun q => decide (q.2.pid = pid) && decide (q.2.no = no)).map evPl
theorem ofTx_all (l : List View) (pid no : Int) : ofTx pid no (evD l) = donePl l pid no := by
  unfold ofTx evD donePl
  rw [List.filter_flatMap, List.map_flatMap]
  congr 1
  funext q
  rw [List.filter_map, List.map_map]
  rfl
theorem ofTx_snoc (pid no : Int) (D : List Ev) (q : Ev) : ofTx pid no (D ++ [q]) = if q.2.pid = pid ∧ q.2.no = no then ofTx pid no D ++ [evPl q] else ofTx pid no D := by
  unfold ofTx
  rw [List.filter_append, List.map_append]
  by_cases h : q.2.pid = pid ∧ q.2.no = no
  · rw [if_pos h]
    simp [h.1, h.2]
  · rw [if_neg h]
    have : (decide (q.2.pid = pid) && decide (q.2.no = no)) = false := by
      rw [Bool.eq_false_iff]
      intro e
      rw [Bool.and_eq_true, decide_eq_true_eq, decide_eq_true_eq] at e
      exact h e
    simp [this]
def keyD (g : Gone) : Who := ⟨g.pid, g.no, 0⟩

/-- What has been gathered of those ended (D) and of those aborted (G). -/
structure Gath (E : List (Who × List Pl)) (D G : List Ev) : Prop where
  keys : (E.map (·.1)).Nodup
  zero : ∀ e ∈ E, e.1.alone = 0 → e.2 = ofTx e.1.pid e.1.no D
  more : ∀ e ∈ E, e.1.alone ≠ 0 → ∃ q ∈ G, e.2 = [evPl q]
  few : ∀ e ∈ E, 0 ≤ e.1.alone ∧ e.1.alone ≤ E.length
  done : ∀ q ∈ D, ∃ e ∈ E, e.1 = keyD q.2
  gone : ∀ q ∈ G, ∃ e ∈ E, e.1.alone ≠ 0 ∧ e.2 = [evPl q]
  count : E.length ≤ D.length + G.length
theorem Gath.nil : Gath [] [] [] := ⟨by simp, by simp, by simp, by simp, by simp, by simp, by simp⟩
theorem uniq_key {α β : Type} [DecidableEq α] {E : List (α × β)} (hk : (E.map (·.1)).Nodup) {a b : α × β} (ha : a ∈ E) (hb : b ∈ E) (e : a.1 = b.1) : a = b := by
  obtain ⟨i, hi, rfl⟩ := List.getElem_of_mem ha
  obtain ⟨j, hj, rfl⟩ := List.getElem_of_mem hb
  have hp := List.pairwise_iff_getElem.1 hk
  rcases Nat.lt_trichotomy i j with h | h | h
  · exact absurd (by rw [List.getElem_map, List.getElem_map]; exact e) (hp i j (by simpa using hi) (by simpa using hj) h)
  · subst h; rfl
  · exact absurd (by rw [List.getElem_map, List.getElem_map]; exact e.symm) (hp j i (by simpa using hj) (by simpa using hi) h)
/-- One ended that stands there already. -/
def addAt (w : Who) (p : Pl) (E : List (Who × List Pl)) : List (Who × List Pl) := E.map fun e => if e.1 = w then (e.1, e.2 ++ [p]) else e
theorem addAt_keys (w : Who) (p : Pl) (E : List (Who × List Pl)) : (addAt w p E).map (·.1) = E.map (·.1) := by
  unfold addAt
  rw [List.map_map]
  apply List.map_congr_left
  intro a _
  simp only [Function.comp]
  split <;> rfl
theorem keyD_eq {w : Who} {g : Gone} : w = keyD g ↔ w.alone = 0 ∧ g.pid = w.pid ∧ g.no = w.no := by
  constructor
  · rintro rfl; exact ⟨rfl, rfl, rfl⟩
  · rintro ⟨h1, h2, h3⟩
    cases w
    simp only [keyD] at h1 h2 h3 ⊢
    rw [h1, h2, h3]
theorem Gath.addD {E : List (Who × List Pl)} {D G : List Ev} (h : Gath E D G) (q : Ev) (hk : keyD q.2 ∈ E.map (·.1)) : Gath (addAt (keyD q.2) (evPl q) E) (D ++ [q]) G := by
  have hmem : ∀ e ∈ addAt (keyD q.2) (evPl q) E, ∃ a ∈ E, a.1 = e.1 ∧ ((a.1 = keyD q.2 ∧ e.2 = a.2 ++ [evPl q]) ∨ (a.1 ≠ keyD q.2 ∧ e = a)) := fun e he => by
    obtain ⟨a, ha, rfl⟩ := List.mem_map.1 he
    by_cases hw : a.1 = keyD q.2
    · exact ⟨a, ha, by rw [if_pos hw], .inl ⟨hw, by rw [if_pos hw]⟩⟩
    · exact ⟨a, ha, by rw [if_neg hw], .inr ⟨hw, by rw [if_neg hw]⟩⟩
  have hlen : (addAt (keyD q.2) (evPl q) E).length = E.length := by simp [addAt]
  have hfwd : ∀ a ∈ E, a.1 ≠ keyD q.2 → a ∈ addAt (keyD q.2) (evPl q) E := fun a ha hw => List.mem_map.2 ⟨a, ha, by rw [if_neg hw]⟩
  have hfwd' : ∀ a ∈ E, ∃ e ∈ addAt (keyD q.2) (evPl q) E, e.1 = a.1 := fun a ha => ⟨_, List.mem_map.2 ⟨a, ha, rfl⟩, by split <;> rfl⟩
  refine ⟨by rw [addAt_keys]; exact h.keys, fun e he h0 => ?_, fun e he h0 => ?_, fun e he => ?_, fun x hx => ?_, fun x hx => ?_, by rw [hlen]; have := h.count; simp; omega⟩
  · obtain ⟨a, ha, e1, h2 | h2⟩ := hmem e he
    · rw [ofTx_snoc, if_pos, h2.2, h.zero a ha (by rw [e1]; exact h0), e1]
      have := keyD_eq.1 h2.1
      rw [← e1]
      exact this.2
    · obtain ⟨hw, rfl⟩ := h2
      rw [ofTx_snoc, if_neg, h.zero e ha h0]
      intro hh
      exact hw (keyD_eq.2 ⟨h0, hh⟩)
  · obtain ⟨a, ha, e1, h2 | h2⟩ := hmem e he
    · have := (keyD_eq.1 h2.1).1
      rw [e1] at this
      exact absurd this h0
    · obtain ⟨hw, rfl⟩ := h2
      exact h.more e ha h0
  · obtain ⟨a, ha, e1, _⟩ := hmem e he
    rw [hlen, ← e1]
    exact h.few a ha
  · rcases List.mem_append.1 hx with hx | hx
    · obtain ⟨a, ha, e1⟩ := h.done x hx
      obtain ⟨e, he, e2⟩ := hfwd' a ha
      exact ⟨e, he, by rw [e2, e1]⟩
    · simp at hx
      subst hx
      obtain ⟨a, ha, e1⟩ := List.mem_map.1 hk
      obtain ⟨e, he, e2⟩ := hfwd' a ha
      exact ⟨e, he, by rw [e2, e1]⟩
  · obtain ⟨a, ha, e0, e1⟩ := h.gone x hx
    exact ⟨a, hfwd a ha (fun hw => e0 (keyD_eq.1 hw).1), e0, e1⟩
/-- One ended that stands there not yet. -/
theorem Gath.newD {E : List (Who × List Pl)} {D G : List Ev} (h : Gath E D G) (q : Ev) (hk : keyD q.2 ∉ E.map (·.1)) : Gath (E ++ [(keyD q.2, [evPl q])]) (D ++ [q]) G := by
  have hno : ofTx q.2.pid q.2.no D = [] := by
    unfold ofTx
    rw [List.map_eq_nil_iff, List.filter_eq_nil_iff]
    intro x hx hh
    simp only [Bool.and_eq_true, decide_eq_true_eq] at hh
    obtain ⟨e, he, e1⟩ := h.done x hx
    refine hk (List.mem_map.2 ⟨e, he, ?_⟩)
    rw [e1]
    simp [keyD, hh.1, hh.2]
  refine ⟨?_, fun e he h0 => ?_, fun e he h0 => ?_, fun e he => ?_, fun x hx => ?_, fun x hx => ?_, by have := h.count; simp; omega⟩
  · rw [List.map_append, List.nodup_append]
    refine ⟨h.keys, by simp, fun a ha b hb => ?_⟩
    simp at hb
    subst hb
    rintro rfl
    exact hk ha
  · rcases List.mem_append.1 he with he | he
    · rw [ofTx_snoc, if_neg, h.zero e he h0]
      intro hh
      exact hk (List.mem_map.2 ⟨e, he, keyD_eq.2 ⟨h0, hh⟩⟩)
    · simp at he
      subst he
      show [evPl q] = ofTx q.2.pid q.2.no (D ++ [q])
      rw [ofTx_snoc, if_pos ⟨rfl, rfl⟩, hno]
      rfl
  · rcases List.mem_append.1 he with he | he
    · exact h.more e he h0
    · simp at he
      subst he
      exact absurd rfl h0
  · rw [List.length_append]
    rcases List.mem_append.1 he with he | he
    · have := h.few e he
      simp only [List.length_cons, List.length_nil]
      omega
    · simp at he
      subst he
      simp [keyD]
      omega
  · rcases List.mem_append.1 hx with hx | hx
    · obtain ⟨a, ha, e1⟩ := h.done x hx
      exact ⟨a, by simp [ha], e1⟩
    · simp at hx
      subst hx
      exact ⟨_, List.mem_append.2 (.inr (List.mem_singleton.2 rfl)), rfl⟩
  · obtain ⟨a, ha, e0, e1⟩ := h.gone x hx
    exact ⟨a, by simp [ha], e0, e1⟩
def keyG (g : Gone) (n : Nat) : Who := ⟨g.pid, g.no, (n : Int) + 1⟩
theorem Gath.freshG {E : List (Who × List Pl)} {D G : List Ev} (h : Gath E D G) (g : Gone) : keyG g E.length ∉ E.map (·.1) := fun hm => by
  obtain ⟨e, he, e1⟩ := List.mem_map.1 hm
  have := (h.few e he).2
  rw [e1] at this
  simp only [keyG] at this
  omega
/-- One aborted. -/
theorem Gath.addG {E : List (Who × List Pl)} {D G : List Ev} (h : Gath E D G) (q : Ev) : Gath (E ++ [(keyG q.2 E.length, [evPl q])]) D (G ++ [q]) := by
  have hk := h.freshG q.2
  have hne : (keyG q.2 E.length).alone ≠ 0 := by simp only [keyG]; omega
  refine ⟨?_, fun e he h0 => ?_, fun e he h0 => ?_, fun e he => ?_, fun x hx => ?_, fun x hx => ?_, by have := h.count; simp; omega⟩
  · rw [List.map_append, List.nodup_append]
    refine ⟨h.keys, by simp, fun a ha b hb => ?_⟩
    simp at hb
    subst hb
    rintro rfl
    exact hk ha
  · rcases List.mem_append.1 he with he | he
    · exact h.zero e he h0
    · simp at he
      subst he
      exact absurd h0 hne
  · rcases List.mem_append.1 he with he | he
    · obtain ⟨x, hx, e1⟩ := h.more e he h0
      exact ⟨x, by simp [hx], e1⟩
    · simp at he
      subst he
      exact ⟨q, by simp, rfl⟩
  · rw [List.length_append]
    rcases List.mem_append.1 he with he | he
    · have := h.few e he
      simp only [List.length_cons, List.length_nil]
      omega
    · simp at he
      subst he
      simp only [keyG, List.length_cons, List.length_nil]
      refine ⟨by omega, by omega⟩
  · obtain ⟨a, ha, e1⟩ := h.done x hx
    exact ⟨a, by simp [ha], e1⟩
  · rcases List.mem_append.1 hx with hx | hx
    · obtain ⟨a, ha, e0, e1⟩ := h.gone x hx
      exact ⟨a, by simp [ha], e0, e1⟩
    · simp at hx
      subst hx
      exact ⟨_, List.mem_append.2 (.inr (List.mem_singleton.2 rfl)), hne, rfl⟩
theorem Gath.places {l : List View} {E : List (Who × List Pl)} (h : Gath E (evD l) (evG l)) : Places l (E.map (·.2)) := by
  refine ⟨fun ps hps => ?_, fun i hi g hg => ?_, fun i hi g hg => ?_⟩
  · obtain ⟨e, he, rfl⟩ := List.mem_map.1 hps
    by_cases h0 : e.1.alone = 0
    · exact .inl ⟨e.1.pid, e.1.no, by rw [h.zero e he h0, ofTx_all]⟩
    · obtain ⟨q, hq, e1⟩ := h.more e he h0
      obtain ⟨hi, hg⟩ := mem_evG.1 hq
      exact .inr ⟨q.1, hi, q.2, hg, e1⟩
  · obtain ⟨e, he, e1⟩ := h.done (i, g) (mem_evD.2 ⟨hi, hg⟩)
    refine List.mem_map.2 ⟨e, he, ?_⟩
    rw [h.zero e he (by rw [e1]; rfl), ofTx_all, e1]
    rfl
  · obtain ⟨e, he, _, e1⟩ := h.gone (i, g) (mem_evG.2 ⟨hi, hg⟩)
    exact List.mem_map.2 ⟨e, he, e1⟩
end Go.Wm

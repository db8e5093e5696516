/-
  Cuts in plain Lean: what the laws of the layer say of them. Conditions: none.
-/
import Derived.Test.YtjonlpdnhbnmmaaA16
set_option linter.all false
namespace Go.Wm
open Go.RowKit Go.Proofs

theorem strLt_irrefl (a : ByteArray) : strLt a a = false := by
  simp only [strLt, decide_eq_false_iff_not]
  exact List.lt_irrefl _
theorem strLt_trans {a b c : ByteArray} (h1 : strLt a b = true) (h2 : strLt b c = true) : strLt a c = true := by
  simp only [strLt, decide_eq_true_eq] at h1 h2 ⊢
  exact List.lt_trans h1 h2
theorem tpLess_irrefl (a : Tp) : tpLess a a = false := by simp [tpLess]
theorem tpLess_trans {a b c : Tp} (h1 : tpLess a b = true) (h2 : tpLess b c = true) : tpLess a c = true := by
  unfold tpLess at h1 h2 ⊢
  by_cases e1 : a.topic = b.topic
  · by_cases e2 : b.topic = c.topic
    · have e3 : a.topic = c.topic := e1.trans e2
      simp only [e1, e2, e3, ne_eq, not_true_eq_false, if_false, ite_not] at h1 h2 ⊢
      by_cases f1 : a.part = b.part
      · by_cases f2 : b.part = c.part
        · simp only [f1, f2, if_true, decide_eq_true_eq] at h1 h2 ⊢
          omega
        · have f3 : ¬ a.part = c.part := by omega
          simp only [f2, f3, if_false, decide_eq_true_eq] at h2 ⊢
          omega
      · simp only [f1, if_false, decide_eq_true_eq] at h1
        by_cases f2 : b.part = c.part
        · have f3 : ¬ a.part = c.part := by omega
          simp only [f3, if_false, decide_eq_true_eq]
          omega
        · simp only [f2, if_false, decide_eq_true_eq] at h2
          have f3 : ¬ a.part = c.part := by omega
          simp only [f3, if_false, decide_eq_true_eq]
          omega
    · have e3 : ¬ a.topic = c.topic := by rw [e1]; exact e2
      simp only [e2, e3, ne_eq, not_false_eq_true, if_true] at h2 ⊢
      rw [e1]; exact h2
  · simp only [e1, ne_eq, not_false_eq_true, if_true] at h1
    by_cases e2 : b.topic = c.topic
    · have e3 : ¬ a.topic = c.topic := by rw [← e2]; exact e1
      simp only [e3, ne_eq, not_false_eq_true, if_true]
      rw [← e2]; exact h1
    · simp only [e2, ne_eq, not_false_eq_true, if_true] at h2
      have h3 := strLt_trans h1 h2
      have e3 : ¬ a.topic = c.topic := fun e => by
        rw [e, strLt_irrefl] at h3
        cases h3
      simp only [e3, ne_eq, not_false_eq_true, if_true]
      exact h3
theorem mayV_less {l : List View} (h : MayV l) : ∀ i j, (hi : i < l.length) → (hj : j < l.length) → i < j → tpLess l[i].tp l[j].tp = true := by
  intro i j
  induction j with
  | zero => intro _ _ h; omega
  | succ j ih =>
    intro hi hj hij
    have hs := (h (j + 1) hj).2.1 (by omega)
    simp only [Nat.add_sub_cancel] at hs
    by_cases e : i = j
    · subst e; exact hs
    · exact tpLess_trans (ih hi (by omega) (by omega)) hs
theorem mayV_distinct {l : List View} (h : MayV l) {i j : Nat} (hi : i < l.length) (hj : j < l.length) (e : l[i].tp = l[j].tp) : i = j := by
  rcases Nat.lt_trichotomy i j with hij | hij | hij
  · have := mayV_less h i j hi hj hij
    rw [e, tpLess_irrefl] at this; cases this
  · exact hij
  · have := mayV_less h j i hj hi hij
    rw [e, tpLess_irrefl] at this; cases this

/-- Marks whose partitions are unlike. -/
def Once (l : List Mark) : Prop := ∀ i j, (hi : i < l.length) → (hj : j < l.length) → l[i].tp = l[j].tp → i = j
theorem markP_some {l : List Mark} {tp : Tp} {n : Int} (h : markP l tp = some n) : ∃ m ∈ l, m.tp = tp ∧ m.off = n := by
  unfold markP at h
  cases hf : l.find? fun m => decide (m.tp = tp) with
  | none => rw [hf] at h; cases h
  | some m =>
    rw [hf] at h
    have h1 := List.find?_some hf
    simp at h1 h
    exact ⟨m, List.mem_of_find?_eq_some hf, h1, h⟩
theorem markP_none {l : List Mark} {tp : Tp} (h : markP l tp = none) : ∀ m ∈ l, m.tp ≠ tp := by
  unfold markP at h
  rw [Option.map_eq_none_iff, List.find?_eq_none] at h
  intro m hm e
  have := h m hm
  simp [e] at this
theorem markP_once {l : List Mark} (h : Once l) {m : Mark} (hm : m ∈ l) : markP l m.tp = some m.off := by
  cases hp : markP l m.tp with
  | none => exact absurd rfl (markP_none hp m hm)
  | some n =>
    obtain ⟨x, hx, e1, e2⟩ := markP_some hp
    obtain ⟨i, hi, rfl⟩ := List.getElem_of_mem hm
    obtain ⟨j, hj, rfl⟩ := List.getElem_of_mem hx
    have := h j i hj hi e1
    subst this
    rw [e2]
theorem belowM_iff {a b : List Mark} : belowM a b = true ↔ ∀ m ∈ a, ∃ n, markP b m.tp = some n ∧ m.off ≤ n := by
  unfold belowM
  rw [List.all_eq_true]
  constructor
  · intro h m hm
    have := h m hm
    cases hp : markP b m.tp with
    | none => rw [hp] at this; cases this
    | some n => rw [hp] at this; exact ⟨n, rfl, by simpa using this⟩
  · intro h m hm
    obtain ⟨n, h1, h2⟩ := h m hm
    rw [h1]
    simpa using h2
theorem below_refl {a : List Mark} (h : Once a) : belowM a a = true := belowM_iff.2 fun m hm => ⟨m.off, markP_once h hm, Int.le_refl _⟩
theorem below_trans {a b c : List Mark} (h1 : belowM a b = true) (h2 : belowM b c = true) : belowM a c = true := belowM_iff.2 fun m hm => by
  obtain ⟨n, e1, e2⟩ := belowM_iff.1 h1 m hm
  obtain ⟨x, hx, e3, e4⟩ := markP_some e1
  obtain ⟨y, e5, e6⟩ := belowM_iff.1 h2 x hx
  rw [e3] at e5
  exact ⟨y, e5, by omega⟩
theorem below_anti {a b : List Mark} (ha : Once a) (h1 : belowM a b = true) (h2 : belowM b a = true) {m : Mark} (hm : m ∈ a) : markP b m.tp = some m.off := by
  obtain ⟨n, e1, e2⟩ := belowM_iff.1 h1 m hm
  obtain ⟨x, hx, e3, e4⟩ := markP_some e1
  obtain ⟨y, e5, e6⟩ := belowM_iff.1 h2 x hx
  rw [e3, markP_once ha hm] at e5
  cases e5
  rw [e1]
  congr 1
  omega
theorem mem_leastM {a b : List Mark} {x : Mark} : x ∈ leastM a b ↔ ∃ m ∈ a, ∃ n, markP b m.tp = some n ∧ x = ⟨m.tp, minI n m.off⟩ := by
  unfold leastM
  rw [List.mem_filterMap]
  constructor
  · rintro ⟨m, hm, h⟩
    cases hp : markP b m.tp with
    | none => rw [hp] at h; cases h
    | some n => rw [hp] at h; simp at h; exact ⟨m, hm, n, hp, h.symm⟩
  · rintro ⟨m, hm, n, hp, rfl⟩
    exact ⟨m, hm, by rw [hp]; rfl⟩
theorem least_below_r {a b : List Mark} : belowM (leastM a b) b = true := belowM_iff.2 fun x hx => by
  obtain ⟨m, hm, n, hp, rfl⟩ := mem_leastM.1 hx
  exact ⟨n, hp, minI_left _ _⟩
theorem least_below_l {a b : List Mark} (h : Once a) : belowM (leastM a b) a = true := belowM_iff.2 fun x hx => by
  obtain ⟨m, hm, n, hp, rfl⟩ := mem_leastM.1 hx
  exact ⟨m.off, markP_once h hm, minI_right _ _⟩
theorem markP_least {b c : List Mark} (tp : Tp) : markP (leastM b c) tp = match markP b tp, markP c tp with | some x, some y => some (minI y x) | _, _ => none := by
  induction b with
  | nil => rfl
  | cons m b ih =>
    unfold leastM at ih ⊢
    rw [List.filterMap_cons]
    cases hp : markP c m.tp with
    | none =>
      simp only [Option.map_none]
      rw [ih]
      by_cases e : m.tp = tp
      · subst e
        simp only [hp]
        cases markP b m.tp <;> cases markP (m :: b) m.tp <;> rfl
      · have : markP (m :: b) tp = markP b tp := by simp [markP, e]
        rw [this]
    | some n =>
      simp only [Option.map_some]
      by_cases e : m.tp = tp
      · subst e
        have h1 : markP (m :: b) m.tp = some m.off := by simp [markP]
        rw [h1, hp]
        simp [markP]
      · have h1 : markP (m :: b) tp = markP b tp := by simp [markP, e]
        rw [h1, ← ih]
        simp [markP, e]
theorem below_least {a b c : List Mark} (h1 : belowM a b = true) (h2 : belowM a c = true) : belowM a (leastM b c) = true := belowM_iff.2 fun m hm => by
  obtain ⟨x, e1, e2⟩ := belowM_iff.1 h1 m hm
  obtain ⟨y, e3, e4⟩ := belowM_iff.1 h2 m hm
  rw [markP_least, e1, e3]
  exact ⟨_, rfl, le_minI e4 e2⟩

/-- What a cut tells, without memory. -/
def CutIs (l : List View) (ms : List Mark) (e : Int) : Prop := (MayV l ∧ e = 0 ∧ ∃ m, IsCut l (stableL l) m ∧ (∀ n ∈ m, 0 ≤ n) ∧ ms = marksOf l m) ∨ (¬ MayV l ∧ e = 1 ∧ ms = [])
theorem CutR.is {l : List View} {k : PH} {v : Value} (h : CutR l k v) : ∃ ms e a c, v = .tuple #[.slice a ms.length c, .int .i64 e] ∧ Sl tMark k a c ms ∧ CutIs l ms e := by
  unfold CutR at h
  by_cases hm : MayV l
  · rw [if_pos hm] at h
    obtain ⟨m, a, c, h1, h2, h3, h4⟩ := h
    exact ⟨_, _, a, c, h3, h4, .inl ⟨hm, rfl, m, h1, h2, rfl⟩⟩
  · rw [if_neg hm] at h
    exact ⟨[], 1, none, 0, h, sl_none _ _, .inr ⟨hm, rfl, rfl⟩⟩
theorem CutIs.uniq {l : List View} {ms ms' : List Mark} {e e' : Int} (h : CutIs l ms e) (h' : CutIs l ms' e') : ms = ms' ∧ e = e' := by
  rcases h with ⟨hm, rfl, m, h1, _, rfl⟩ | ⟨hm, rfl, rfl⟩ <;> rcases h' with ⟨hm', rfl, m', h1', _, rfl⟩ | ⟨hm', rfl, rfl⟩
  · exact ⟨by rw [h1.same h1'], rfl⟩
  · exact absurd hm hm'
  · exact absurd hm' hm
  · exact ⟨rfl, rfl⟩
theorem few_small {l : List View} (h : fewV l = true) : l.length ≤ 8 ∧ SmallV l ∧ ∀ v ∈ l, fewOne v = true := by
  unfold fewV at h
  simp only [Bool.and_eq_true, decide_eq_true_eq, List.all_eq_true] at h
  have hall : ∀ v ∈ l, fewOne v = true := fun v hv => h.1 v (by rw [List.take_of_length_le (by omega)]; exact hv)
  refine ⟨h.2, fun v hv => ?_, hall⟩
  have := hall v hv
  unfold fewOne at this
  simp only [Bool.and_eq_true, decide_eq_true_eq] at this
  omega
end Go.Wm

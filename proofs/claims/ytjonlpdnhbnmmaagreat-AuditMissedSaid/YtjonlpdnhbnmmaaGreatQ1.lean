/-
  Transactions in plain Lean: what a batch makes of them may be; how many there are. Conditions: those of each law.
-/
import Derived.Test.YtjonlpdnhbnmmaaGreatY3
set_option linter.all false
namespace Go.Wm
open Go.RowKit Go.Proofs

theorem pair_of_adj {α : Type} {f : α → Int} : ∀ {l : List α}, (∀ i, (h : i < l.length) → 0 < i → f l[i - 1] < f l[i]) → l.Pairwise (fun x y => f x < f y) := by
  intro l h
  rw [List.pairwise_iff_getElem]
  intro i j hi hj hij
  induction j with
  | zero => omega
  | succ j ih =>
    have h1 := h (j + 1) hj (by omega)
    simp only [Nat.add_sub_cancel] at h1
    by_cases e : i = j
    · subst e; exact h1
    · have := ih (by omega) (by omega); omega
theorem opens_iff {l : List OpenT} : Opens l ↔ (∀ o ∈ l, (inO o.pid && inO o.first) = true) ∧ l.Pairwise (fun x y => x.pid < y.pid) := by
  refine ⟨fun h => ⟨fun o ho => ?_, pair_of_adj (f := OpenT.pid) fun i hi h0 => (h i hi).2 h0⟩, fun h i hi => ⟨h.1 _ (List.getElem_mem _), fun h0 => List.pairwise_iff_getElem.1 h.2 _ _ _ _ (by omega)⟩⟩
  obtain ⟨i, hi, rfl⟩ := List.getElem_of_mem ho
  exact (h i hi).1
theorem ended_iff {l : List Gone} : Ended l ↔ (∀ o ∈ l, okGone o = true) ∧ l.Pairwise (fun x y => x.last < y.last) := by
  refine ⟨fun h => ⟨fun o ho => ?_, pair_of_adj (f := Gone.last) fun i hi h0 => (h i hi).2 h0⟩, fun h i hi => ⟨h.1 _ (List.getElem_mem _), fun h0 => List.pairwise_iff_getElem.1 h.2 _ _ _ _ (by omega)⟩⟩
  obtain ⟨i, hi, rfl⟩ := List.getElem_of_mem ho
  exact (h i hi).1
theorem txP_iff {t : Tx} : txP t = true ↔ Opens t.openV ∧ Ended t.gone ∧ Ended t.done := by
  simp [txP]
theorem noTx_ok : txP noTx = true := txP_iff.2 ⟨fun i h => absurd h (by simp [noTx]), fun i h => absurd h (by simp [noTx]), fun i h => absurd h (by simp [noTx])⟩
theorem chk_form {b : Batch} (h : chkB b = 0) : FormP b := by
  unfold chkB at h
  split at h
  · assumption
  · omega
theorem behind_iff {t : Tx} {base : Int} : behindB t base = true ↔ (∀ o ∈ t.openV, o.first < base) ∧ (∀ g ∈ t.gone, g.last < base) ∧ (∀ g ∈ t.done, g.last < base) := by
  simp [behindB]
theorem putErr_iff {t : Tx} {b : Batch} : putErr t b = 0 ↔ txP t = true ∧ chkB b = 0 ∧ behindB t b.base = true := by
  unfold putErr
  by_cases h1 : txP t = true
  · by_cases h2 : chkB b = 0
    · by_cases h3 : behindB t b.base = true <;> simp [h1, h2, h3]
    · simp [h1, h2]
  · simp [h1]
theorem place_lt {l : List OpenT} {pid : Int} : ∀ o ∈ l.take (placeO l pid), o.pid < pid := by
  intro o ho
  have e : l.take (placeO l pid) = l.takeWhile fun o => decide (o.pid < pid) := by
    unfold placeO
    exact (List.prefix_iff_eq_take.1 (List.takeWhile_prefix _)).symm
  rw [e] at ho
  have h0 := @List.all_takeWhile _ (fun o : OpenT => decide (o.pid < pid)) l
  rw [List.all_eq_true] at h0
  simpa using h0 o ho
theorem place_ge {l : List OpenT} {pid : Int} (h : placeO l pid < l.length) : ¬ l[placeO l pid].pid < pid := by
  induction l with
  | nil => simp at h
  | cons x l ih =>
    by_cases hx : x.pid < pid
    · have e : placeO (x :: l) pid = placeO l pid + 1 := by simp [placeO, List.takeWhile_cons, hx]
      simp only [e] at h ⊢
      simpa using ih (by simpa using h)
    · have e : placeO (x :: l) pid = 0 := by simp [placeO, List.takeWhile_cons, hx]
      simp only [e]
      simpa using hx
theorem there_iff {l : List OpenT} {pid : Int} : thereO l pid = true ↔ ∃ h : placeO l pid < l.length, l[placeO l pid].pid = pid := by
  unfold thereO
  simp only [decide_eq_true_eq, Option.map_eq_some_iff]
  constructor
  · rintro ⟨a, h1, h2⟩
    obtain ⟨h, e⟩ := List.getElem?_eq_some_iff.1 h1
    exact ⟨h, by rw [e]; exact h2⟩
  · rintro ⟨h, e⟩
    exact ⟨_, List.getElem?_eq_getElem h, e⟩
/-- From where it would stand on, all are greater, if it is not there. -/
theorem place_gt {l : List OpenT} {pid : Int} (hp : l.Pairwise fun x y => x.pid < y.pid) (ht : ¬ thereO l pid = true) : ∀ o ∈ l.drop (placeO l pid), pid < o.pid := by
  intro o ho
  obtain ⟨i, hi, rfl⟩ := List.getElem_of_mem ho
  rw [List.length_drop] at hi
  have h0 : placeO l pid < l.length := by omega
  have h1 := place_ge h0
  have h2 : l[placeO l pid].pid ≠ pid := fun e => ht (there_iff.2 ⟨h0, e⟩)
  rw [List.getElem_drop]
  rcases Nat.eq_zero_or_pos i with rfl | hi0
  · simp only [Nat.add_zero]; omega
  · have := List.pairwise_iff_getElem.1 hp (placeO l pid) (placeO l pid + i) h0 (by omega) (by omega)
    omega
theorem there_mem {l : List OpenT} {pid : Int} (hp : l.Pairwise fun x y => x.pid < y.pid) {o : OpenT} (ho : o ∈ l) (he : o.pid = pid) : ∃ h : placeO l pid < l.length, l[placeO l pid] = o := by
  rw [← List.take_append_drop (placeO l pid) l] at ho
  rcases List.mem_append.1 ho with h | h
  · have := place_lt o h; omega
  · obtain ⟨i, hi, rfl⟩ := List.getElem_of_mem h
    rw [List.length_drop] at hi
    have h0 : placeO l pid < l.length := by omega
    have h1 := place_ge h0
    rw [List.getElem_drop] at he ⊢
    rcases Nat.eq_zero_or_pos i with rfl | hi0
    · exact ⟨h0, rfl⟩
    · have := List.pairwise_iff_getElem.1 hp (placeO l pid) (placeO l pid + i) h0 (by omega) (by omega)
      omega
theorem mem_less {t : Tx} {b : Batch} (hp : t.openV.Pairwise fun x y => x.pid < y.pid) (ht : thereO t.openV b.pid = true) {o : OpenT} : o ∈ lessT t b ↔ o ∈ t.openV ∧ o.pid ≠ b.pid := by
  obtain ⟨h0, h1⟩ := there_iff.1 ht
  have hlt := List.pairwise_iff_getElem.1 hp
  unfold lessT
  constructor
  · intro ho
    rcases List.mem_append.1 ho with h | h
    · exact ⟨List.mem_of_mem_take h, by have := place_lt o h; omega⟩
    · refine ⟨List.mem_of_mem_drop h, ?_⟩
      obtain ⟨i, hi, rfl⟩ := List.getElem_of_mem h
      rw [List.length_drop] at hi
      rw [List.getElem_drop]
      have := hlt (placeO t.openV b.pid) (placeO t.openV b.pid + 1 + i) h0 (by omega) (by omega)
      omega
  · rintro ⟨ho, hne⟩
    obtain ⟨i, hi, rfl⟩ := List.getElem_of_mem ho
    by_cases h : i < placeO t.openV b.pid
    · exact List.mem_append_left _ (List.mem_take_iff_getElem.2 ⟨i, by omega, rfl⟩)
    · have : i ≠ placeO t.openV b.pid := fun e => hne (by subst e; exact h1)
      exact List.mem_append_right _ (List.mem_drop_iff_getElem.2 ⟨i - (placeO t.openV b.pid + 1), by omega, by congr 1; omega⟩)
theorem len_less {t : Tx} {b : Batch} (ht : thereO t.openV b.pid = true) : (lessT t b).length + 1 = t.openV.length := by
  have := thereO_lt ht
  simp [lessT]; omega
theorem less_sub {t : Tx} {b : Batch} : (lessT t b).Sublist t.openV := by
  unfold lessT
  rw [← List.eraseIdx_eq_take_drop_succ]
  exact List.eraseIdx_sublist _ _
theorem len_opens (t : Tx) (b : Batch) : (opensT t b).openV.length = t.openV.length + 1 := by
  have := placeO_le t.openV b.pid
  simp [opensT]; omega
theorem mem_opens {t : Tx} {b : Batch} {o : OpenT} : o ∈ (opensT t b).openV ↔ o ∈ t.openV ∨ o = ⟨b.pid, b.base⟩ := by
  have e : (o ∈ t.openV) ↔ (o ∈ t.openV.take (placeO t.openV b.pid) ∨ o ∈ t.openV.drop (placeO t.openV b.pid)) := by
    rw [← List.mem_append, List.take_append_drop]
  rw [e]
  simp only [opensT, List.mem_append, List.mem_cons]
  constructor
  · rintro (h | h | h)
    · exact .inl (.inl h)
    · exact .inr h
    · exact .inl (.inr h)
  · rintro ((h | h) | h)
    · exact .inl h
    · exact .inr (.inr h)
    · exact .inr (.inl h)
theorem pid_ok {b : Batch} (h : chkB b = 0) (ht : b.txn = true) : 0 ≤ b.pid ∧ b.pid ≤ 1099511627776 := by
  have f := chk_form h
  by_cases e : b.pid = -1
  · have := (f.none e).2.2.1
    rw [ht] at this; cases this
  · exact f.some e
theorem opens_ok {t : Tx} {b : Batch} (h : putErr t b = 0) (ht : b.txn = true) (hn : ¬ thereO t.openV b.pid = true) : Opens (opensT t b).openV := by
  obtain ⟨h1, h2, h3⟩ := putErr_iff.1 h
  obtain ⟨g1, g2⟩ := opens_iff.1 (txP_iff.1 h1).1
  have f := chk_form h2
  refine opens_iff.2 ⟨fun o ho => ?_, ?_⟩
  · rcases mem_opens.1 ho with h | rfl
    · exact g1 o h
    · simp only [Bool.and_eq_true, inO_iff]
      exact ⟨pid_ok h2 ht, f.base⟩
  · refine List.pairwise_append.2 ⟨g2.sublist (List.take_sublist _ _), List.pairwise_cons.2 ⟨fun o ho => place_gt g2 hn o ho, g2.sublist (List.drop_sublist _ _)⟩, fun a ha c hc => ?_⟩
    rcases List.mem_cons.1 hc with rfl | hc
    · exact place_lt a ha
    · have := place_lt a ha
      have := place_gt g2 hn c hc
      omega
theorem gone_first {t : Tx} {b : Batch} (ht : placeO t.openV b.pid < t.openV.length) : (goneOf t b).first = t.openV[placeO t.openV b.pid].first := by
  simp [goneOf, List.getElem?_eq_getElem ht]
theorem gone_okB {t : Tx} {b : Batch} (h : putErr t b = 0) (hc : b.ctl ≠ 0) (ht : thereO t.openV b.pid = true) : okGone (goneOf t b) = true := by
  obtain ⟨h1, h2, h3⟩ := putErr_iff.1 h
  obtain ⟨g1, g2⟩ := opens_iff.1 (txP_iff.1 h1).1
  have f := chk_form h2
  obtain ⟨e1, e2⟩ := there_iff.1 ht
  have q1 := (behind_iff.1 h3).1 _ (List.getElem_mem e1)
  have q2 := g1 _ (List.getElem_mem e1)
  have q3 := pid_ok h2 (f.ctl hc).2.2.2.1
  simp only [Bool.and_eq_true, inO_iff] at q2
  have q4 := gone_first e1
  have q5 := f.seq
  have q6 := f.base
  have r1 : (goneOf t b).pid = b.pid := rfl
  have r2 : (goneOf t b).no = b.seq := rfl
  have r3 : (goneOf t b).last = b.base := rfl
  simp only [okGone, Bool.and_eq_true, decide_eq_true_eq, inO_iff, r1, r2, r3, q4]
  omega
theorem ended_snoc {l : List Gone} {g : Gone} (h : Ended l) (hg : okGone g = true) (hl : ∀ x ∈ l, x.last < g.last) : Ended (l ++ [g]) := by
  obtain ⟨h1, h2⟩ := ended_iff.1 h
  refine ended_iff.2 ⟨fun o ho => ?_, List.pairwise_append.2 ⟨h2, List.pairwise_singleton _ _, fun a ha c hc => ?_⟩⟩
  · rcases List.mem_append.1 ho with h | h
    · exact h1 o h
    · rw [List.mem_singleton.1 h]; exact hg
  · rw [List.mem_singleton.1 hc]; exact hl a ha
/-- What a batch makes of transactions that may be may be. -/
theorem put_ok {t : Tx} {b : Batch} (h : putErr t b = 0) : txP (putT t b) = true := by
  obtain ⟨h1, h2, h3⟩ := putErr_iff.1 h
  obtain ⟨p1, p2, p3⟩ := txP_iff.1 h1
  obtain ⟨b1, b2, b3⟩ := behind_iff.1 h3
  obtain ⟨g1, g2⟩ := opens_iff.1 p1
  unfold putT
  split
  · split
    · rename_i hc ht
      simp only [Bool.and_eq_true, Bool.not_eq_true'] at ht
      exact txP_iff.2 ⟨opens_ok h ht.1 (by simp [ht.2]), p2, p3⟩
    · exact h1
  · rename_i hc
    split
    · rename_i ht
      have hl : Opens (lessT t b) := opens_iff.2 ⟨fun o ho => g1 o (less_sub.subset ho), g2.sublist less_sub⟩
      split
      · exact txP_iff.2 ⟨hl, ended_snoc p2 (gone_okB h hc ht) b2, p3⟩
      · exact txP_iff.2 ⟨hl, p2, ended_snoc p3 (gone_okB h hc ht) b3⟩
    · exact h1
/-- How many are known: as many, or one more. -/
theorem put_len (t : Tx) (b : Batch) : (putT t b = t ∧ True) ∨ (b.ctl = 0 ∧ b.txn = true ∧ thereO t.openV b.pid = false ∧ putT t b = opensT t b) ∨ (b.ctl ≠ 0 ∧ thereO t.openV b.pid = true ∧ (putT t b = ⟨lessT t b, t.gone ++ [goneOf t b], t.done⟩ ∨ putT t b = ⟨lessT t b, t.gone, t.done ++ [goneOf t b]⟩)) := by
  unfold putT
  split
  · split
    · rename_i hc ht
      simp only [Bool.and_eq_true, Bool.not_eq_true'] at ht
      exact .inr (.inl ⟨hc, ht.1, ht.2, rfl⟩)
    · exact .inl ⟨rfl, trivial⟩
  · rename_i hc
    split
    · rename_i ht
      split
      · exact .inr (.inr ⟨hc, ht, .inl rfl⟩)
      · exact .inr (.inr ⟨hc, ht, .inr rfl⟩)
    · exact .inl ⟨rfl, trivial⟩
def sizeT (t : Tx) : Nat := t.openV.length + t.gone.length + t.done.length
theorem putT_size (t : Tx) (b : Batch) : sizeT (putT t b) ≤ sizeT t + 1 := by
  unfold sizeT
  rcases put_len t b with ⟨h, _⟩ | ⟨_, _, _, h⟩ | ⟨_, ht, h | h⟩
  · rw [h]; omega
  · rw [h, len_opens]
    show _ + t.gone.length + t.done.length ≤ _
    omega
  · have := len_less ht
    rw [h]; simp only [List.length_append, List.length_singleton]; omega
  · have := len_less ht
    rw [h]; simp only [List.length_append, List.length_singleton]; omega
/-- One step of all: a batch that may not be put is passed. -/
def stepT (t : Tx) (b : Batch) : Tx := if putErr t b = 0 then putT t b else t
def ofT (bs : List Batch) : Tx := bs.foldl stepT noTx
theorem step_ok {t : Tx} {b : Batch} (h : txP t = true) : txP (stepT t b) = true := by
  unfold stepT
  split
  · exact put_ok ‹_›
  · exact h
theorem of_ok (bs : List Batch) : txP (ofT bs) = true := by
  have : ∀ (l : List Batch) (t : Tx), txP t = true → txP (l.foldl stepT t) = true := by
    intro l
    induction l with
    | nil => intro t h; exact h
    | cons b l ih => intro t h; exact ih _ (step_ok h)
  exact this bs noTx noTx_ok
theorem of_snoc (bs : List Batch) (b : Batch) : ofT (bs ++ [b]) = stepT (ofT bs) b := by simp [ofT]
theorem step_size (t : Tx) (b : Batch) : sizeT (stepT t b) ≤ sizeT t + 1 := by
  unfold stepT
  split
  · exact putT_size t b
  · omega
theorem of_size (bs : List Batch) : sizeT (ofT bs) ≤ bs.length := by
  have : ∀ (l : List Batch) (t : Tx), sizeT (l.foldl stepT t) ≤ sizeT t + l.length := by
    intro l
    induction l with
    | nil => intro t; simp
    | cons b l ih => intro t; have := ih (stepT t b); have := step_size t b; simp only [List.foldl_cons, List.length_cons]; omega
  have h := this bs noTx
  have e : sizeT noTx = 0 := rfl
  unfold ofT
  omega
end Go.Wm

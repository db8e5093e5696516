/-
  What batches that rise leave behind of each of them: open, committed or aborted. Conditions: that they rise.
-/
import Derived.Test.YtjonlpdnhbnmmaaGreatQ1
set_option linter.all false
namespace Go.Wm
open Go.RowKit Go.Proofs

/-- How the next batch of a producer that ends a transaction ends it; 0: there is none. -/
def nextE (rest : List Batch) (p : Int) : Int := match rest.find? (fun c => decide (c.pid = p) && !decide (c.ctl = 0)) with
  | some c => c.ctl
  | none => 0
theorem nextE_snoc (rest : List Batch) (b : Batch) (p : Int) : nextE (rest ++ [b]) p = if nextE rest p ≠ 0 then nextE rest p else if b.pid = p ∧ b.ctl ≠ 0 then b.ctl else 0 := by
  unfold nextE
  rw [List.find?_append]
  cases h : rest.find? (fun c => decide (c.pid = p) && !decide (c.ctl = 0)) with
  | some c =>
    have := List.find?_some h
    simp only [Bool.and_eq_true, Bool.not_eq_true', decide_eq_false_iff_not] at this
    simp [this.2]
  | none =>
    by_cases hb : b.pid = p ∧ b.ctl ≠ 0
    · simp [List.find?_cons, hb.1, hb.2]
    · have : (decide (b.pid = p) && !decide (b.ctl = 0)) = false := by
        cases e : (decide (b.pid = p) && !decide (b.ctl = 0)) with
        | false => rfl
        | true => exact absurd (by simpa using e) hb
      simp [List.find?_cons, this, hb]
/-- What is known of a batch of a transaction, by how the next of its producer that ends one does. -/
structure J (c : Batch) (nx : Int) (t : Tx) : Prop where
  opn : nx = 0 → (∃ o ∈ t.openV, o.pid = c.pid ∧ o.first ≤ c.base) ∧ ∀ g ∈ t.gone, g.pid = c.pid → g.last ≤ c.base
  shut : nx ≠ 0 → ∀ o ∈ t.openV, o.pid = c.pid → c.base < o.first
  done : nx = 1 → ∀ g ∈ t.gone, ¬ (g.pid = c.pid ∧ g.first ≤ c.base ∧ c.base < g.last)
  gone : nx = 2 → ∃ g ∈ t.gone, g.pid = c.pid ∧ g.first ≤ c.base ∧ c.base < g.last
theorem ctl_cases {b : Batch} (h : chkB b = 0) : b.ctl = 0 ∨ b.ctl = 1 ∨ b.ctl = 2 := by
  by_cases e : b.ctl = 0
  · exact .inl e
  · exact .inr ((chk_form h).ctl e).1
theorem put_cases {t : Tx} {b : Batch} : (b.ctl = 0 ∧ b.txn = true ∧ thereO t.openV b.pid = false ∧ putT t b = opensT t b) ∨ (b.ctl = 0 ∧ (b.txn = true → thereO t.openV b.pid = true) ∧ putT t b = t) ∨ (b.ctl ≠ 0 ∧ thereO t.openV b.pid = false ∧ putT t b = t) ∨ (b.ctl = 2 ∧ thereO t.openV b.pid = true ∧ putT t b = ⟨lessT t b, t.gone ++ [goneOf t b], t.done⟩) ∨ (b.ctl ≠ 0 ∧ b.ctl ≠ 2 ∧ thereO t.openV b.pid = true ∧ putT t b = ⟨lessT t b, t.gone, t.done ++ [goneOf t b]⟩) := by
  unfold putT
  by_cases h0 : b.ctl = 0
  · cases h1 : b.txn
    · simp [h0]
    · cases h2 : thereO t.openV b.pid <;> simp [h0]
  · cases h2 : thereO t.openV b.pid
    · simp [h0]
    · by_cases h3 : b.ctl = 2
      · simp [h3]
      · simp [h0, h3]
theorem j_old {t : Tx} {b c : Batch} {nx : Int} (h : putErr t b = 0) (hb : c.base < b.base) (hj : J c nx t) : J c (if nx ≠ 0 then nx else if b.pid = c.pid ∧ b.ctl ≠ 0 then b.ctl else 0) (putT t b) := by
  obtain ⟨h1, h2, h3⟩ := putErr_iff.1 h
  obtain ⟨p1, p2, p3⟩ := txP_iff.1 h1
  obtain ⟨g1, g2⟩ := opens_iff.1 p1
  by_cases hx : nx = 0
  · obtain ⟨⟨o, ho, ho1, ho2⟩, hg⟩ := hj.opn hx
    rw [if_neg (by simpa using hx)]
    rcases put_cases (t := t) (b := b) with ⟨q1, q2, q3, q⟩ | ⟨q1, q2, q⟩ | ⟨q1, q2, q⟩ | ⟨q1, q2, q⟩ | ⟨q1, q2, q3, q⟩
    · rw [if_neg (fun e => e.2 q1), q]
      exact ⟨fun _ => ⟨⟨o, mem_opens.2 (.inl ho), ho1, ho2⟩, hg⟩, fun e => absurd rfl e, fun e => by omega, fun e => by omega⟩
    · rw [if_neg (fun e => e.2 q1), q]
      exact ⟨fun _ => ⟨⟨o, ho, ho1, ho2⟩, hg⟩, fun e => absurd rfl e, fun e => by omega, fun e => by omega⟩
    · have hne : b.pid ≠ c.pid := fun e => by
        obtain ⟨w1, w2⟩ := there_mem g2 ho (ho1.trans e.symm)
        have := there_iff.2 ⟨w1, by rw [w2]; exact ho1.trans e.symm⟩
        rw [q2] at this; cases this
      rw [if_neg (fun e => hne e.1), q]
      exact ⟨fun _ => ⟨⟨o, ho, ho1, ho2⟩, hg⟩, fun e => absurd rfl e, fun e => by omega, fun e => by omega⟩
    · by_cases he : b.pid = c.pid
      · rw [if_pos ⟨he, by omega⟩, q, q1]
        obtain ⟨w1, w2⟩ := there_mem g2 ho (ho1.trans he.symm)
        refine ⟨fun e => by omega, fun _ o' ho' e' => absurd (e'.trans he.symm) ((mem_less g2 q2).1 ho').2, fun e => by omega, fun _ => ⟨goneOf t b, by simp, he, ?_, hb⟩⟩
        rw [gone_first w1, w2]; exact ho2
      · rw [if_neg (fun e => he e.1), q]
        refine ⟨fun _ => ⟨⟨o, (mem_less g2 q2).2 ⟨ho, by rw [ho1]; exact fun e => he e.symm⟩, ho1, ho2⟩, fun g hgm hgp => ?_⟩, fun e => absurd rfl e, fun e => by omega, fun e => by omega⟩
        rcases List.mem_append.1 hgm with hm | hm
        · exact hg g hm hgp
        · rw [List.mem_singleton.1 hm] at hgp; exact absurd hgp he
    · have hc := (ctl_cases h2)
      have hc1 : b.ctl = 1 := by omega
      by_cases he : b.pid = c.pid
      · rw [if_pos ⟨he, by omega⟩, q, hc1]
        refine ⟨fun e => by omega, fun _ o' ho' e' => absurd (e'.trans he.symm) ((mem_less g2 q3).1 ho').2, fun _ g hgm ⟨u1, u2, u3⟩ => ?_, fun e => by omega⟩
        have := hg g hgm u1
        omega
      · rw [if_neg (fun e => he e.1), q]
        exact ⟨fun _ => ⟨⟨o, (mem_less g2 q3).2 ⟨ho, by rw [ho1]; exact fun e => he e.symm⟩, ho1, ho2⟩, hg⟩, fun e => absurd rfl e, fun e => by omega, fun e => by omega⟩
  · rw [if_pos hx]
    have hs := hj.shut hx
    have keep : ∀ (ht : thereO t.openV b.pid = true) (g : Gone), g = goneOf t b → ¬ (g.pid = c.pid ∧ g.first ≤ c.base ∧ c.base < g.last) := by
      rintro ht g rfl ⟨u1, u2, u3⟩
      obtain ⟨w1, w2⟩ := there_iff.1 ht
      rw [gone_first w1] at u2
      have := hs _ (List.getElem_mem w1) (w2.trans u1)
      omega
    rcases put_cases (t := t) (b := b) with ⟨q1, q2, q3, q⟩ | ⟨q1, q2, q⟩ | ⟨q1, q2, q⟩ | ⟨q1, q2, q⟩ | ⟨q1, q2, q3, q⟩
    · rw [q]
      refine ⟨fun e => absurd e hx, fun _ o ho hp => ?_, hj.done, hj.gone⟩
      rcases mem_opens.1 ho with ho | rfl
      · exact hs o ho hp
      · exact hb
    · rw [q]; exact hj
    · rw [q]; exact hj
    · rw [q]
      refine ⟨fun e => absurd e hx, fun _ o ho hp => hs o ((mem_less g2 q2).1 ho).1 hp, fun e g hgm => ?_, fun e => ?_⟩
      · rcases List.mem_append.1 hgm with hm | hm
        · exact hj.done e g hm
        · exact keep q2 g (List.mem_singleton.1 hm)
      · obtain ⟨g, hgm, hg⟩ := hj.gone e
        exact ⟨g, List.mem_append_left _ hgm, hg⟩
    · rw [q]
      exact ⟨fun e => absurd e hx, fun _ o ho hp => hs o ((mem_less g2 q3).1 ho).1 hp, hj.done, hj.gone⟩
theorem j_new {t : Tx} {b : Batch} (h : putErr t b = 0) (hc : b.ctl = 0) (ht : b.txn = true) : J b 0 (putT t b) := by
  obtain ⟨h1, h2, h3⟩ := putErr_iff.1 h
  obtain ⟨b1, b2, b3⟩ := behind_iff.1 h3
  have hg : ∀ g ∈ t.gone, g.pid = b.pid → g.last ≤ b.base := fun g hg _ => Int.le_of_lt (b2 g hg)
  rcases put_cases (t := t) (b := b) with ⟨q1, q2, q3, q⟩ | ⟨q1, q2, q⟩ | ⟨q1, q2, q⟩ | ⟨q1, q2, q⟩ | ⟨q1, q2, q3, q⟩
  · rw [q]
    exact ⟨fun _ => ⟨⟨⟨b.pid, b.base⟩, mem_opens.2 (.inr rfl), rfl, Int.le_refl _⟩, hg⟩, fun e => absurd rfl e, fun e => by omega, fun e => by omega⟩
  · rw [q]
    obtain ⟨w1, w2⟩ := there_iff.1 (q2 ht)
    exact ⟨fun _ => ⟨⟨_, List.getElem_mem w1, w2, Int.le_of_lt (b1 _ (List.getElem_mem w1))⟩, hg⟩, fun e => absurd rfl e, fun e => by omega, fun e => by omega⟩
  · exact absurd hc q1
  · omega
  · exact absurd hc q1
/-- All that is known lies behind whatever lies behind all batches. -/
def Bnd (l : List Batch) (t : Tx) : Prop := ∀ m, (∀ c ∈ l, c.last < m) → behindB t m = true
theorem bnd_put {l : List Batch} {t : Tx} {b : Batch} (hc : chkB b = 0) (h : Bnd l t) : Bnd (l ++ [b]) (putT t b) := by
  intro m hm
  have h0 := behind_iff.1 (h m fun c hc => hm c (by simp [hc]))
  obtain ⟨h1, h2, h3⟩ := h0
  have hb : b.base < m := by have := hm b (by simp); have := (chk_form hc).span.1; omega
  have hg : (goneOf t b).last < m := hb
  refine behind_iff.2 ?_
  rcases put_cases (t := t) (b := b) with ⟨q1, q2, q3, q⟩ | ⟨q1, q2, q⟩ | ⟨q1, q2, q⟩ | ⟨q1, q2, q⟩ | ⟨q1, q2, q3, q⟩
  · rw [q]
    refine ⟨fun o ho => ?_, h2, h3⟩
    rcases mem_opens.1 ho with ho | rfl
    · exact h1 o ho
    · exact hb
  · rw [q]; exact ⟨h1, h2, h3⟩
  · rw [q]; exact ⟨h1, h2, h3⟩
  · rw [q]
    refine ⟨fun o ho => h1 o (less_sub.subset ho), fun g hgm => ?_, h3⟩
    rcases List.mem_append.1 hgm with hm | hm
    · exact h2 g hm
    · rw [List.mem_singleton.1 hm]; exact hg
  · rw [q]
    refine ⟨fun o ho => h1 o (less_sub.subset ho), h2, fun g hgm => ?_⟩
    rcases List.mem_append.1 hgm with hm | hm
    · exact h3 g hm
    · rw [List.mem_singleton.1 hm]; exact hg
theorem rising_snoc {l : List Batch} {b : Batch} (h : Rising (l ++ [b])) : Rising l ∧ chkB b = 0 ∧ ∀ c ∈ l, c.last < b.base := by
  have hl : Rising l := fun i hi => by
    have := h i (by simp; omega)
    refine ⟨by have := this.1; rwa [List.getElem_append_left hi] at this, fun h0 => ?_⟩
    have := this.2 h0
    rwa [List.getElem_append_left hi, List.getElem_append_left (by omega)] at this
  have hb := h l.length (by simp)
  have hbc : chkB b = 0 := by have := hb.1; simpa using this
  refine ⟨hl, hbc, ?_⟩
  have key : ∀ d i, (hi : i < l.length) → i + d + 1 = l.length → l[i].last < b.base := by
    intro d
    induction d with
    | zero =>
      intro i hi he
      have := hb.2 (by omega)
      have e : l.length - 1 = i := by omega
      simp only [e, List.getElem_append_left hi] at this
      simpa using this
    | succ d ih =>
      intro i hi he
      have h1 := ih (i + 1) (by omega) (by omega)
      have h2 := (hl (i + 1) (by omega)).2 (by omega)
      have h3 := (chk_form (hl (i + 1) (by omega)).1).span.1
      simp only [Nat.add_sub_cancel] at h2
      omega
  intro c hc
  obtain ⟨i, hi, rfl⟩ := List.getElem_of_mem hc
  exact key (l.length - 1 - i) i hi (by omega)
def Inv (l : List Batch) (t : Tx) : Prop := ∀ i, (h : i < l.length) → l[i].ctl = 0 → l[i].txn = true → J l[i] (nextE (l.drop (i + 1)) l[i].pid) t
theorem inv_all : ∀ (n : Nat) (l : List Batch), l.length = n → Rising l → Inv l (ofT l) ∧ Bnd l (ofT l) := by
  intro n
  induction n with
  | zero =>
    intro l hl _
    obtain rfl := List.length_eq_zero_iff.1 hl
    exact ⟨fun i h => absurd h (by simp), fun m _ => rfl⟩
  | succ n ih =>
    intro l hl hr
    rcases List.eq_nil_or_concat l with rfl | ⟨l, b, rfl⟩
    · simp at hl
    rw [List.concat_eq_append] at *
    obtain ⟨h1, h2, h3⟩ := rising_snoc hr
    obtain ⟨i1, i2⟩ := ih l (by simpa using hl) h1
    have he : putErr (ofT l) b = 0 := putErr_iff.2 ⟨of_ok l, h2, i2 _ h3⟩
    have e : ofT (l ++ [b]) = putT (ofT l) b := by rw [of_snoc, stepT, if_pos he]
    rw [e]
    refine ⟨fun i hi hc ht => ?_, bnd_put h2 i2⟩
    by_cases hil : i < l.length
    · simp only [List.getElem_append_left hil] at hc ht ⊢
      have e2 : (l ++ [b]).drop (i + 1) = l.drop (i + 1) ++ [b] := List.drop_append_of_le_length (by omega)
      rw [e2, nextE_snoc]
      have hlb : l[i].base < b.base := by
        have := h3 _ (List.getElem_mem hil)
        have := (chk_form (h1 i hil).1).span.1
        omega
      exact j_old he hlb (i1 i hil hc ht)
    · have e3 : i = l.length := by simp at hi; omega
      subst e3
      have e4 : (l ++ [b]).drop (l.length + 1) = [] := List.drop_eq_nil_of_le (by simp)
      rw [e4]
      simp only [List.getElem_concat_length] at hc ht ⊢
      exact j_new he hc ht
theorem rising_inv {l : List Batch} (h : Rising l) : Inv l (ofT l) := (inv_all _ l rfl h).1
theorem rising_bnd {l : List Batch} (h : Rising l) : Bnd l (ofT l) := (inv_all _ l rfl h).2
/-- What is shown of batches that rise, below what is stable: what is committed. -/
def wantB (l : List Batch) (i : Nat) (b : Batch) (to : Int) : Bool := (decide (b.ctl = 0) && decide (b.last < to)) && (!b.txn || decide (nextE (l.drop (i + 1)) b.pid = 1))
theorem stab_le (t : Tx) (high : Int) : stabP t high ≤ high ∧ ∀ o ∈ t.openV, stabP t high ≤ o.first :=
  ⟨foldMin_le _ _, fun o ho => foldMin_at _ _ o ho rfl⟩
theorem le_stab {t : Tx} {high x : Int} (h : x ≤ high) (ho : ∀ o ∈ t.openV, x ≤ o.first) : x ≤ stabP t high := le_foldMin _ _ _ h fun o hm _ => ho o hm
theorem next_cases {l : List Batch} (h : ∀ b ∈ l, chkB b = 0) (p : Int) : nextE l p = 0 ∨ nextE l p = 1 ∨ nextE l p = 2 := by
  unfold nextE
  cases e : l.find? (fun c => decide (c.pid = p) && !decide (c.ctl = 0)) with
  | none => exact .inl rfl
  | some c => exact ctl_cases (h c (List.mem_of_find?_eq_some e))
theorem want_show {l : List Batch} {high : Int} (h : Rising l) {i : Nat} (hi : i < l.length) : wantB l i l[i] (stabP (ofT l) high) = showB (ofT l).gone (stabP (ofT l) high) l[i] := by
  unfold wantB showB
  cases hc : (decide (l[i].ctl = 0) && decide (l[i].last < stabP (ofT l) high))
  · rfl
  simp only [Bool.and_eq_true, decide_eq_true_eq] at hc
  obtain ⟨hc0, hlast⟩ := hc
  congr 1
  cases ht : l[i].txn
  · have : (ofT l).gone.any (isP l[i]) = false := by
      rw [List.any_eq_false]; intro g hg; simp [isP, ht]
    rw [this]; rfl
  have hj := rising_inv h i hi hc0 ht
  have hspan := (chk_form (h i hi).1).span.1
  have hall : ∀ b ∈ l.drop (i + 1), chkB b = 0 := fun b hb => by
    obtain ⟨j, hjl, rfl⟩ := List.getElem_of_mem (List.mem_of_mem_drop hb)
    exact (h j hjl).1
  have hisP : ∀ g, isP l[i] g = true ↔ g.pid = l[i].pid ∧ g.first ≤ l[i].base ∧ l[i].base < g.last := fun g => by
    simp only [isP, hc0, ht, decide_true, Bool.true_and, Bool.and_eq_true, decide_eq_true_eq]
    constructor
    · rintro ⟨⟨h1, h2⟩, h3⟩; exact ⟨h1.symm, h2, h3⟩
    · rintro ⟨h1, h2, h3⟩; exact ⟨⟨h1.symm, h2⟩, h3⟩
  rcases next_cases hall l[i].pid with e | e | e
  · obtain ⟨⟨o, ho, ho1, ho2⟩, _⟩ := hj.opn e
    have := (stab_le (ofT l) high).2 o ho
    omega
  · have : (ofT l).gone.any (isP l[i]) = false := by
      rw [List.any_eq_false]; intro g hg hp
      exact hj.done e g hg ((hisP g).1 hp)
    rw [this, e]; rfl
  · obtain ⟨g, hg, hg2⟩ := hj.gone e
    have : (ofT l).gone.any (isP l[i]) = true := List.any_eq_true.2 ⟨g, hg, (hisP g).2 hg2⟩
    rw [this, e]; rfl
def wantN (l : List Batch) (to : Int) : Nat → List Batch
  | 0 => []
  | i + 1 => wantN l to i ++ (if h : i < l.length then (if wantB l i l[i] to = true then [l[i]] else []) else [])
theorem rising_take {l : List Batch} (h : Rising l) (n : Nat) : Rising (l.take n) := fun i hi => by
  have hi' : i < l.length := by simp at hi; omega
  refine ⟨by simpa using (h i hi').1, fun h0 => by simpa using (h i hi').2 h0⟩
theorem rising_lt {l : List Batch} (h : Rising l) {i j : Nat} (hi : i < l.length) (hj : j < l.length) (hij : i < j) : l[i].last < l[j].base := by
  have h1 := rising_take h (j + 1)
  have e : l.take (j + 1) = l.take j ++ [l[j]] := List.take_succ_eq_append_getElem hj
  rw [e] at h1
  exact (rising_snoc h1).2.2 _ (List.mem_take_iff_getElem.2 ⟨i, by omega, rfl⟩)
end Go.Wm

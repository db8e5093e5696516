/-
  What may be, the document's: names, orders, members. Conditions: that what is handed in reads as data.
-/
import Derived.Test.YtbhgbfhgdccghaaGreatR2
import Derived.Test.YtbhgbfhgdccghaaGreatS9
set_option linter.all false
namespace Go.Wm
open Go.RowKit Go.Proofs
def RightTo {α : Type} (ord : α → α → Int) (may : α → Bool) (l : List α) (i : Nat) : Prop := ∀ j, j < i → (h : j < l.length) → may l[j] = true ∧ (0 < j → ord l[j - 1] l[j] < 0)
theorem rightTo_all {α : Type} {ord : α → α → Int} {may : α → Bool} {l : List α} (h : RightTo ord may l l.length) : RightP ord may l := fun i hi => h i hi hi
theorem rightTo_next {α : Type} {ord : α → α → Int} {may : α → Bool} {l : List α} {i : Nat} (h : RightTo ord may l i) (hi : i < l.length) (h1 : may l[i] = true) (h2 : 0 < i → ord l[i - 1] l[i] < 0) : RightTo ord may l (i + 1) := fun j hj hl => by
  by_cases e : j = i
  · subst e; exact ⟨h1, h2⟩
  · exact h j (by omega) hl
theorem right_bad {α : Type} {ord : α → α → Int} {may : α → Bool} {l : List α} {i : Nat} (hi : i < l.length) (h : ¬ (may l[i] = true ∧ (0 < i → ord l[i - 1] l[i] < 0))) : decide (RightP ord may l) = false := decide_eq_false fun hr => h (hr i hi)
attribute [local irreducible] RG CG EG WA Loc Det Alc CT Exit.then Exit.inBlock Code.wp bodyPost
set_option maxHeartbeats 1000000 in
theorem refName_ct {k : PH} (s : ByteArray) (hs : s.size ≤ maxLen) : CT Tryz.prog 77 #[.string s] k (fun _ v => v = .bool (isName s)) := by
  refine ct_of_body (l := [_]) Tryz.func77 rfl Tryz.ntmps77 (by simp) (fun _ _ _ _ h => h) fun F hF0 hFm => ?_
  unfold maxLen at hs
  repeat (first | refine cg_seq ?_ | refine cg_region ?_ | refine rg_nil ?_ | refine eg_then ?_ | refine qsp ?_ | refine cg_block ?_)
  refine cg_loop (fun (i : Nat) e k' => i ≤ s.size ∧ (∀ j, (h : j < s.size) → j < i → okB s[j] = true) ∧ e = [(0, .is (.string s)), (3, .is (.int .i64 (i : Int)))])
    (fun i => s.size - i) 0 ⟨Nat.zero_le _, fun j _ hj => by omega, rfl⟩ ⟨rfl, rfl, trivial⟩ ?_
  rintro i e k1 ⟨hi, hno, rfl⟩
  repeat (first | refine cg_seq ?_ | refine cg_region ?_ | refine qsp ?_)
  refine rs rfl rfl (loc_det rfl (d_len_str rfl rfl)) ?_
  repeat (first | refine rg_nil ?_ | refine eg_then ?_ | refine qsp ?_)
  refine cg_cond rfl (fun h => ?_) (fun h => ?_)
  · have hlt : i < s.size := by simpa using h
    have bad : okB s[i] = false → (Value.bool false) = .bool (isName s) := fun hb => by
      have : ¬ ∀ j, (h : j < s.size) → okB s[j] = true := fun ha => by rw [ha i hlt] at hb; cases hb
      simp [isName, this]
    repeat (first | refine cg_seq ?_ | refine cg_region ?_ | refine eg_then ?_ | refine qsp ?_ | refine cg_skip ?_ | refine cg_block ?_)
    refine rs rfl rfl (loc_det rfl (d_idx_str (i := i) rfl rfl rfl hlt)) ?_
    refine rs rfl rfl (loc_det rfl (d_cmp rfl rfl rfl rfl)) ?_
    repeat (first | refine qsp ?_)
    cases q3 : decide ((s[i].toNat : Int) < 33)
    rotate_left
    · repeat (first | refine cg_seq ?_ | refine cg_region ?_ | refine rg_nil ?_ | refine eg_then ?_ | refine qsp ?_ | refine qso ?_ | refine cg_cond_true rfl ?_ | refine cg_ret ?_ | refine eg_then_ret ?_ | refine eg_in_ret ?_)
      refine eg_return rfl rfl (bad ?_)
      simp [okB]; simp at q3; omega
    repeat (first | refine qsp ?_)
    refine rs rfl rfl (loc_det rfl (d_idx_str (i := i) rfl rfl rfl hlt)) ?_
    refine rs rfl rfl (loc_det rfl (d_cmp rfl rfl rfl rfl)) ?_
    repeat (first | refine rg_nil ?_ | refine eg_then ?_ | refine qsp ?_)
    cases q4 : decide ((s[i].toNat : Int) > 126)
    rotate_left
    · repeat (first | refine cg_seq ?_ | refine cg_region ?_ | refine rg_nil ?_ | refine eg_then ?_ | refine qsp ?_ | refine cg_cond_true rfl ?_ | refine cg_ret ?_ | refine eg_then_ret ?_ | refine eg_in_ret ?_)
      refine eg_return rfl rfl (bad ?_)
      simp [okB]; simp at q4; omega
    repeat (first | refine cg_region ?_ | refine rg_nil ?_ | refine eg_then ?_ | refine qsp ?_ | refine qsa ?_ | refine cg_cond_false rfl ?_ | refine cg_skip ?_ | refine eg_in_normal ?_)
    refine eg_again (i + 1) _ ⟨hlt, fun j hj hji => ?_, rfl⟩ (by omega) ⟨rfl, rfl, trivial⟩
    by_cases e : j = i
    · subst e; simp [okB]; simp at q3 q4; omega
    · exact hno j hj (by omega)
  have hil : i = s.size := by simp at h; omega
  have hall : ∀ j, (h : j < s.size) → okB s[j] = true := fun j hj => hno j hj (by omega)
  have hA : decide (∀ i, (h : i < s.size) → okB s[i] = true) = true := decide_eq_true hall
  have h1 : decide (1 ≤ s.size) = decide ((s.size : Int) ≥ 1) := by rw [decide_eq_decide]; omega
  have h2 : decide (s.size ≤ 64) = decide ((s.size : Int) ≤ 64) := by rw [decide_eq_decide]; omega
  unfold isName
  rw [hA, h1, h2]
  repeat (first | refine cg_seq ?_ | refine cg_region ?_ | refine eg_then ?_ | refine qsp ?_ | refine cg_exit ?_ | refine eg_then_exit ?_ | refine eg_in_exit ?_)
  refine rs rfl rfl (loc_det rfl (d_len_str rfl rfl)) ?_
  repeat (first | refine qsp ?_)
  cases q1 : decide ((s.size : Int) ≥ 1)
  · repeat (first | refine rg_nil ?_ | refine eg_then ?_ | refine qsp ?_ | refine qso ?_ | refine cg_ret ?_)
    exact eg_return rfl rfl rfl
  repeat (first | refine qsp ?_)
  refine rs rfl rfl (loc_det rfl (d_len_str rfl rfl)) ?_
  repeat (first | refine rg_nil ?_ | refine eg_then ?_ | refine qsp ?_ | refine cg_ret ?_)
  exact eg_return rfl rfl rfl
theorem ahead_ct {k : PH} (a b : Tp) : CT Tryz.prog 81 #[.agg a.vs.toArray, .agg b.vs.toArray] k (fun _ v => v = .bool (decide (ordTp a b < 0))) := by
  refine ct_of_body (l := [_, _]) Tryz.func81 rfl Tryz.ntmps81 (by simp) (fun _ _ _ _ h => h) fun F hF0 hFm => ?_
  repeat (first | refine cg_seq ?_ | refine cg_region ?_)
  refine rb rfl rfl rfl rfl (a_box rfl rfl) ?_; intro b2 k2 hb2 hN2 hle2 hk2
  skip
  refine rb rfl rfl rfl rfl (a_box rfl rfl) ?_; intro b3 k3 hb3 hN3 hle3 hk3
  obtain ⟨p0, p1, p2⟩ := Tp.parts ((cells_at (vs := a.vs) hk2 rfl).le hle3)
  obtain ⟨p3, p4, p5⟩ := Tp.parts (cells_at (vs := b.vs) hk3 rfl)
  have ho : ordTp a b = if cmpStr a.topic b.topic ≠ 0 then cmpStr a.topic b.topic else if cmpInt a.part b.part ≠ 0 then cmpInt a.part b.part else cmpInt a.home b.home := orInt3 _ _ _
  have ci : ∀ x y : Int, (cmpInt x y < 0 ↔ x < y) := fun x y => by unfold cmpInt; split <;> (try split) <;> omega
  repeat (first | refine cg_seq ?_ | refine cg_region ?_ | refine rg_nil ?_ | refine eg_then ?_ | refine qsp ?_ | refine qsl ?_ | refine qsf ?_)
  cases q1 : decide (a.topic = b.topic)
  · repeat (first | refine cg_seq ?_ | refine cg_region ?_ | refine rg_nil ?_ | refine eg_then ?_ | refine qsp ?_ | refine qsl ?_ | refine qsf ?_ | refine cg_cond_true rfl ?_ | refine cg_ret ?_ | refine eg_then_ret ?_)
    refine eg_return rfl rfl ?_
    have h1 : cmpStr a.topic b.topic ≠ 0 := fun e => (of_decide_eq_false q1) (cmpStr_eq.1 e)
    rw [ho, if_pos h1]
    congr 1
    rw [decide_eq_decide]
    exact cmpStr_lt.symm
  have h1 : ¬ cmpStr a.topic b.topic ≠ 0 := fun e => e (cmpStr_eq.2 (of_decide_eq_true q1))
  rw [ho, if_neg h1]
  repeat (first | refine cg_seq ?_ | refine cg_region ?_ | refine rg_nil ?_ | refine eg_then ?_ | refine qsp ?_ | refine qsl ?_ | refine qsf ?_ | refine cg_cond_false rfl ?_ | refine cg_skip ?_)
  cases q2 : (a.part == b.part)
  · rw [show (a.part != b.part) = true by simp [bne, q2]]
    have h2 : cmpInt a.part b.part ≠ 0 := fun e => by rw [cmpInt_eq] at e; simp [e] at q2
    repeat (first | refine cg_seq ?_ | refine cg_region ?_ | refine rg_nil ?_ | refine eg_then ?_ | refine qsp ?_ | refine qsl ?_ | refine qsf ?_ | refine cg_cond_true rfl ?_ | refine cg_ret ?_ | refine eg_then_ret ?_)
    refine eg_return rfl rfl ?_
    rw [if_pos h2]
    congr 1
    rw [decide_eq_decide]
    exact (ci _ _).symm
  rw [show (a.part != b.part) = false by simp [bne, q2]]
  have h2 : ¬ cmpInt a.part b.part ≠ 0 := fun e => e (cmpInt_eq.2 (by simpa using q2))
  rw [if_neg h2]
  repeat (first | refine cg_seq ?_ | refine cg_region ?_ | refine rg_nil ?_ | refine eg_then ?_ | refine qsp ?_ | refine qsl ?_ | refine qsf ?_ | refine cg_cond_false rfl ?_ | refine cg_skip ?_ | refine cg_ret ?_)
  refine eg_return rfl rfl ?_
  congr 1
  rw [decide_eq_decide]
  exact (ci _ _).symm
set_option maxHeartbeats 4000000 in
theorem inOrder_ct {k : PH} {a : Option Addr} {c : Nat} {l : List Tp} (hl : Sl tTp k a c l) : CT Tryz.prog 37 #[.slice a l.length c] k (fun _ v => v = .bool (decide (RightP ordTp tpOk l))) := by
  refine ct_of_body (l := [_]) Tryz.func37 rfl Tryz.ntmps37 (by simp) (fun _ _ _ _ h => h) fun F hF0 hFm => ?_
  have b1 := hl.cap; have b2 := hl.max; unfold maxLen at b2
  repeat (first | refine cg_seq ?_ | refine cg_region ?_ | refine rg_nil ?_ | refine eg_then ?_ | refine qsp ?_ | refine cg_block ?_)
  refine cg_loop (fun (i : Nat) e k' => Le k k' ∧ i ≤ l.length ∧ RightTo ordTp tpOk l i ∧ e = [(0, .is (.slice a l.length c)), (3, .is (.int .i64 (i : Int)))])
    (fun i => l.length - i) 0 ⟨Le.refl _, Nat.zero_le _, fun j hj => by omega, rfl⟩ ⟨rfl, rfl, trivial⟩ ?_
  rintro i e k1 ⟨hle1, hi, hno, rfl⟩
  repeat (first | refine cg_seq ?_ | refine cg_region ?_ | refine rg_nil ?_ | refine eg_then ?_ | refine qsp ?_ | refine qsn ?_)
  refine cg_cond rfl (fun h => ?_) (fun h => ?_)
  rotate_left
  · have hie : i = l.length := by simp at h; omega
    rw [hie] at hno
    repeat (first | refine cg_seq ?_ | refine cg_region ?_ | refine rg_nil ?_ | refine eg_then ?_ | refine qsp ?_ | refine cg_ret ?_ | refine cg_exit ?_ | refine eg_then_exit ?_ | refine eg_in_exit ?_)
    refine eg_return rfl rfl ?_
    rw [decide_eq_true (rightTo_all hno)]
  have hlt : i < l.length := by simpa using h
  obtain ⟨bx, ox, cx, ea, ⟨rfl, hok⟩, hcx⟩ := (hl.le hle1).el i l[i] (List.getElem?_eq_getElem hlt)
  subst ea
  have bad : ∀ P : Prop, (tpOk l[i] = true ∧ (0 < i → ordTp l[i - 1] l[i] < 0) → P) → ¬ P → (Value.bool false) = .bool (decide (RightP ordTp tpOk l)) := fun P h1 h2 => by rw [right_bad hlt fun h => h2 (h1 h)]
  have tp : tpOk l[i] = true → isName l[i].topic = true ∧ 0 ≤ l[i].part ∧ l[i].part < 6 ∧ 0 ≤ l[i].home ∧ l[i].home < 4 := fun h => by
    unfold tpOk at h
    simpa using h
  have hnm := refName_ct (k := k1) l[i].topic hok.1
  obtain ⟨t, ht⟩ : ∃ t, l[i] = t := ⟨_, rfl⟩
  rw [ht] at hcx hnm bad tp
  obtain ⟨q0, q1, q2⟩ := Tp.parts hcx
  repeat (first | refine cg_seq ?_ | refine eg_then ?_ | refine cg_skip ?_ | refine cg_block ?_)
  refine cg_any (by kernel_rfl) rfl ?_
  repeat (first | refine qwp ?_ | refine qwi ?_ | refine qwl ?_ | refine qwf ?_)
  refine ws rfl (loc_call_is rfl rfl rfl rfl (hnm)) ?_
  repeat (first | refine qwp ?_)
  cases z1 : isName t.topic
  · repeat (first | refine qwp ?_ | refine qwo ?_ | (refine wn rfl ?_; refine eg_then ?_))
    repeat (first | refine cg_seq ?_ | refine cg_region ?_ | refine rg_nil ?_ | refine eg_then ?_ | refine qsp ?_ | refine cg_cond_true rfl ?_ | refine cg_ret ?_ | refine eg_then_ret ?_ | refine eg_in_ret ?_)
    exact eg_return rfl rfl (bad _ (fun h => (tp h.1).1) (by rw [z1]; simp))
  repeat (first | refine qwp ?_ | refine qwi ?_ | refine qwl ?_ | refine qwf ?_)
  cases z2 : decide (t.part < 0)
  rotate_left
  · repeat (first | refine qwp ?_ | refine qwo ?_ | (refine wn rfl ?_; refine eg_then ?_))
    repeat (first | refine cg_seq ?_ | refine cg_region ?_ | refine rg_nil ?_ | refine eg_then ?_ | refine qsp ?_ | refine cg_cond_true rfl ?_ | refine cg_ret ?_ | refine eg_then_ret ?_ | refine eg_in_ret ?_)
    exact eg_return rfl rfl (bad _ (fun h => (tp h.1).2.1) (by have := of_decide_eq_true z2; omega))
  repeat (first | refine qwp ?_ | refine qwi ?_ | refine qwl ?_ | refine qwf ?_)
  cases z3 : decide (t.part > 5)
  rotate_left
  · repeat (first | refine qwp ?_ | refine qwo ?_ | (refine wn rfl ?_; refine eg_then ?_))
    repeat (first | refine cg_seq ?_ | refine cg_region ?_ | refine rg_nil ?_ | refine eg_then ?_ | refine qsp ?_ | refine cg_cond_true rfl ?_ | refine cg_ret ?_ | refine eg_then_ret ?_ | refine eg_in_ret ?_)
    exact eg_return rfl rfl (bad _ (fun h => (tp h.1).2.2.1) (by have := of_decide_eq_true z3; omega))
  repeat (first | refine qwp ?_ | refine qwi ?_ | refine qwl ?_ | refine qwf ?_)
  cases z4 : decide (t.home < 0)
  rotate_left
  · repeat (first | refine qwp ?_ | refine qwo ?_ | (refine wn rfl ?_; refine eg_then ?_))
    repeat (first | refine cg_seq ?_ | refine cg_region ?_ | refine rg_nil ?_ | refine eg_then ?_ | refine qsp ?_ | refine cg_cond_true rfl ?_ | refine cg_ret ?_ | refine eg_then_ret ?_ | refine eg_in_ret ?_)
    exact eg_return rfl rfl (bad _ (fun h => (tp h.1).2.2.2.1) (by have := of_decide_eq_true z4; omega))
  repeat (first | refine qwp ?_ | refine qwi ?_ | refine qwl ?_ | refine qwf ?_)
  cases z5 : decide (t.home > 3)
  rotate_left
  · repeat (first | refine qwp ?_ | refine qwo ?_ | (refine wn rfl ?_; refine eg_then ?_))
    repeat (first | refine cg_seq ?_ | refine cg_region ?_ | refine rg_nil ?_ | refine eg_then ?_ | refine qsp ?_ | refine cg_cond_true rfl ?_ | refine cg_ret ?_ | refine eg_then_ret ?_ | refine eg_in_ret ?_)
    exact eg_return rfl rfl (bad _ (fun h => (tp h.1).2.2.2.2) (by have := of_decide_eq_true z5; omega))
  have htp : tpOk t = true := by
    have := of_decide_eq_false z2; have := of_decide_eq_false z3; have := of_decide_eq_false z4; have := of_decide_eq_false z5
    unfold tpOk
    rw [z1]
    simp
    omega
  repeat (first | refine qwp ?_)
  by_cases h0 : i = 0
  · rw [show decide ((i : Int) > 0) = false by simp [h0]]
    repeat (first | refine qwp ?_ | refine qwo ?_ | (refine wn rfl ?_; refine eg_then ?_))
    repeat (first | refine cg_region ?_ | refine rg_nil ?_ | refine eg_then ?_ | refine qsp ?_ | refine qsa ?_ | refine cg_cond_false rfl ?_ | refine cg_skip ?_ | refine eg_in_normal ?_)
    exact eg_again (i + 1) _ ⟨hle1, hlt, rightTo_next hno hlt (by rw [ht]; exact htp) (fun h => by omega), rfl⟩ (by omega) ⟨rfl, rfl, trivial⟩
  rw [show decide ((i : Int) > 0) = true by simp; omega]
  obtain ⟨j, rfl⟩ : ∃ j, i = j + 1 := ⟨i - 1, by omega⟩
  obtain ⟨by', oy, cy, eb, ⟨rfl, _⟩, hcy⟩ := (hl.le hle1).el j _ (List.getElem?_eq_getElem (show j < l.length by omega))
  cases eb
  have hah := ahead_ct (k := k1) (l[j]'(by omega)) t
  repeat (first | refine qwp ?_ | refine qws ?_)
  rw [show ((j + 1 : Nat) : Int) - 1 = (j : Int) by omega]
  repeat (first | refine qwp ?_ | refine qwi ?_ | refine qwg ?_)
  refine ws rfl (loc_det rfl (d_load_agg (vs := t.vs) rfl rfl rfl rfl hcx)) ?_
  refine ws rfl (loc_call_is rfl rfl rfl rfl (hah)) ?_
  repeat (first | refine qwp ?_ | (refine wn rfl ?_; refine eg_then ?_))
  cases z6 : decide (ordTp (l[j]'(by omega)) t < 0)
  · skip
    repeat (first | refine cg_seq ?_ | refine cg_region ?_ | refine rg_nil ?_ | refine eg_then ?_ | refine qsp ?_ | refine cg_cond_true rfl ?_ | refine cg_ret ?_ | refine eg_then_ret ?_ | refine eg_in_ret ?_)
    exact eg_return rfl rfl (bad _ (fun h => h.2 (by omega)) (of_decide_eq_false z6))
  skip
  repeat (first | refine cg_region ?_ | refine rg_nil ?_ | refine eg_then ?_ | refine qsp ?_ | refine qsa ?_ | refine cg_cond_false rfl ?_ | refine cg_skip ?_ | refine eg_in_normal ?_)
  exact eg_again (j + 1 + 1) _ ⟨hle1, hlt, rightTo_next hno hlt (by rw [ht]; exact htp) (fun _ => by rw [ht]; exact of_decide_eq_true z6), rfl⟩ (by omega) ⟨rfl, rfl, trivial⟩
end Go.Wm

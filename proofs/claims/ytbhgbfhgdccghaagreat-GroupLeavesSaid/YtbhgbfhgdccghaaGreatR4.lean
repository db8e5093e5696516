/-
  What may be, the document's: members, groups. Conditions: that what is handed in reads as data.
-/
import Derived.Test.YtbhgbfhgdccghaaGreatR3
import Derived.Test.YtbhgbfhgdccghaaGreatK14
set_option linter.all false
namespace Go.Wm
open Go.RowKit Go.Proofs
theorem memOk_ref (m : Member) : memOk m = (isName m.id && ((decide (m.static = ⟨#[]⟩) || isName m.static) && ((decide (RightP cmpStr isName m.subs) && decide (m.subs.length ≤ 12)) && (decide (RightP ordTp tpOk m.own) && timeOk m.beat)))) := by
  unfold memOk
  cases isName m.id <;> cases decide (m.static = ⟨#[]⟩) <;> cases isName m.static <;> cases decide (RightP cmpStr isName m.subs) <;> cases decide (m.subs.length ≤ 12) <;> cases decide (RightP ordTp tpOk m.own) <;> cases timeOk m.beat <;> rfl
/-- May two members stand one behind the other? -/
def apartB (a b : Member) : Bool := decide (ordId a b < 0) && (!(!decide (a.static = ⟨#[]⟩) && decide (a.static = b.static)) && decide (∀ t ∈ a.own, t ∉ b.own))
attribute [local irreducible] RG CG EG WA Loc Det Alc CT Exit.then Exit.inBlock Code.wp bodyPost
theorem in_ct {k : PH} (n : Int) : CT Tryz.prog 36 #[.int .i64 n] k (fun _ v => v = .bool (timeOk n)) := by
  refine ct_of_body (l := [_]) Tryz.func36 rfl Tryz.ntmps36 (by simp) (fun _ _ _ _ h => h) fun F hF0 hFm => ?_
  unfold timeOk
  repeat (first | refine cg_seq ?_ | refine cg_region ?_ | refine rg_nil ?_ | refine eg_then ?_ | refine qsp ?_)
  rw [show decide (n ≥ 0) = decide (0 ≤ n) from rfl]
  cases q1 : decide (0 ≤ n)
  · repeat (first | refine rg_nil ?_ | refine eg_then ?_ | refine qsp ?_ | refine qso ?_ | refine cg_ret ?_)
    exact eg_return rfl rfl rfl
  repeat (first | refine rg_nil ?_ | refine eg_then ?_ | refine qsp ?_ | refine cg_ret ?_)
  exact eg_return rfl rfl rfl
set_option maxHeartbeats 4000000 in
theorem subs_ct {k : PH} {a : Option Addr} {c : Nat} {l : List ByteArray} (hl : Sl tStr k a c l) : CT Tryz.prog 110 #[.slice a l.length c] k (fun _ v => v = .bool (decide (RightP cmpStr isName l) && decide (l.length ≤ 12))) := by
  refine ct_of_body (l := [_]) Tryz.func110 rfl Tryz.ntmps110 (by simp) (fun _ _ _ _ h => h) fun F hF0 hFm => ?_
  have b1 := hl.cap; have b2 := hl.max; unfold maxLen at b2
  repeat (first | refine cg_seq ?_ | refine cg_region ?_ | refine rg_nil ?_ | refine eg_then ?_ | refine qsp ?_ | refine cg_block ?_)
  refine cg_loop (fun (i : Nat) e k' => Le k k' ∧ i ≤ l.length ∧ RightTo cmpStr isName l i ∧ e = [(0, .is (.slice a l.length c)), (3, .is (.int .i64 (i : Int)))])
    (fun i => l.length - i) 0 ⟨Le.refl _, Nat.zero_le _, fun j hj => by omega, rfl⟩ ⟨rfl, rfl, trivial⟩ ?_
  rintro i e k1 ⟨hle1, hi, hno, rfl⟩
  repeat (first | refine cg_seq ?_ | refine cg_region ?_ | refine rg_nil ?_ | refine eg_then ?_ | refine qsp ?_ | refine qsn ?_)
  refine cg_cond rfl (fun h => ?_) (fun h => ?_)
  rotate_left
  · have hie : i = l.length := by simp at h; omega
    rw [hie] at hno
    repeat (first | refine cg_seq ?_ | refine cg_region ?_ | refine rg_nil ?_ | refine eg_then ?_ | refine qsp ?_ | refine qsn ?_ | refine cg_ret ?_ | refine cg_exit ?_ | refine eg_then_exit ?_ | refine eg_in_exit ?_)
    refine eg_return rfl rfl ?_
    rw [decide_eq_true (rightTo_all hno), Bool.true_and]
    congr 1
    rw [decide_eq_decide]; omega
  have hlt : i < l.length := by simpa using h
  obtain ⟨bx, ox, cx, ea, ⟨rfl, hok⟩, hcx⟩ := (hl.le hle1).el i l[i] (List.getElem?_eq_getElem hlt)
  subst ea
  have bad : ∀ P : Prop, (isName l[i] = true ∧ (0 < i → cmpStr l[i - 1] l[i] < 0) → P) → ¬ P → (Value.bool false) = .bool (decide (RightP cmpStr isName l) && decide (l.length ≤ 12)) := fun P h1 h2 => by rw [right_bad hlt fun h => h2 (h1 h), Bool.false_and]
  have hnm := refName_ct (k := k1) l[i] hok
  obtain ⟨t, ht⟩ : ∃ t, l[i] = t := ⟨_, rfl⟩
  rw [ht] at hcx hnm bad
  repeat (first | refine cg_seq ?_ | refine eg_then ?_ | refine cg_skip ?_ | refine cg_block ?_)
  refine cg_any (by kernel_rfl) rfl ?_
  repeat (first | refine qwp ?_ | refine qwi ?_ | refine qwl ?_)
  refine ws rfl (loc_call_is rfl rfl rfl rfl (hnm)) ?_
  repeat (first | refine qwp ?_)
  cases z1 : isName t
  · repeat (first | refine qwp ?_ | refine qwo ?_ | (refine wn rfl ?_; refine eg_then ?_))
    repeat (first | refine cg_seq ?_ | refine cg_region ?_ | refine rg_nil ?_ | refine eg_then ?_ | refine qsp ?_ | refine cg_cond_true rfl ?_ | refine cg_ret ?_ | refine eg_then_ret ?_ | refine eg_in_ret ?_)
    exact eg_return rfl rfl (bad _ (fun h => h.1) (by rw [z1]; simp))
  repeat (first | refine qwp ?_)
  by_cases h0 : i = 0
  · rw [show decide ((i : Int) > 0) = false by simp [h0]]
    repeat (first | refine qwp ?_ | refine qwo ?_ | (refine wn rfl ?_; refine eg_then ?_))
    repeat (first | refine cg_region ?_ | refine rg_nil ?_ | refine eg_then ?_ | refine qsp ?_ | refine qsa ?_ | refine cg_cond_false rfl ?_ | refine cg_skip ?_ | refine eg_in_normal ?_)
    exact eg_again (i + 1) _ ⟨hle1, hlt, rightTo_next hno hlt (by rw [ht]; exact z1) (fun h => by omega), rfl⟩ (by omega) ⟨rfl, rfl, trivial⟩
  rw [show decide ((i : Int) > 0) = true by simp; omega]
  obtain ⟨j, rfl⟩ : ∃ j, i = j + 1 := ⟨i - 1, by omega⟩
  obtain ⟨by', oy, cy, eb, ⟨rfl, _⟩, hcy⟩ := (hl.le hle1).el j _ (List.getElem?_eq_getElem (show j < l.length by omega))
  cases eb
  repeat (first | refine qwp ?_ | refine qws ?_ | refine qwi ?_ | refine qwl ?_)
  rw [show ((j + 1 : Nat) : Int) - 1 = (j : Int) by omega]
  repeat (first | refine qwp ?_ | refine qwi ?_ | refine qwl ?_ | (refine wn rfl ?_; refine eg_then ?_))
  have hcmp : (decide (t.data.toList < (l[j]'(by omega)).data.toList) || decide (t = l[j]'(by omega))) = !decide (cmpStr (l[j]'(by omega)) t < 0) := by
    rw [Bool.eq_iff_iff]
    simp only [Bool.or_eq_true, decide_eq_true_eq, Bool.not_eq_true', decide_eq_false_iff_not]
    rw [← cmpStr_lt (a := t), ← cmpStr_eq (a := t)]
    have h1 := ordL_str.sw t (l[j]'(by omega))
    have h2 := ordL_str.sw (l[j]'(by omega)) t
    constructor
    · intro h; omega
    · intro h; omega
  rw [hcmp]
  cases z6 : decide (cmpStr (l[j]'(by omega)) t < 0)
  · skip
    repeat (first | refine cg_seq ?_ | refine cg_region ?_ | refine rg_nil ?_ | refine eg_then ?_ | refine qsp ?_ | refine cg_cond_true rfl ?_ | refine cg_ret ?_ | refine eg_then_ret ?_ | refine eg_in_ret ?_)
    exact eg_return rfl rfl (bad _ (fun h => h.2 (by omega)) (of_decide_eq_false z6))
  skip
  repeat (first | refine cg_region ?_ | refine rg_nil ?_ | refine eg_then ?_ | refine qsp ?_ | refine qsa ?_ | refine cg_cond_false rfl ?_ | refine cg_skip ?_ | refine eg_in_normal ?_)
  exact eg_again (j + 1 + 1) _ ⟨hle1, hlt, rightTo_next hno hlt (by rw [ht]; exact z1) (fun _ => by rw [ht]; exact of_decide_eq_true z6), rfl⟩ (by omega) ⟨rfl, rfl, trivial⟩
set_option maxHeartbeats 1000000 in
theorem refMember_ct {k : PH} {m : Member} {cm : List Value} (hm : tMember.rep k cm m) : CT Tryz.prog 79 #[.agg cm.toArray] k (fun _ v => v = .bool (memOk m)) := by
  obtain ⟨a0, c0, a1, c1, rfl, ⟨hs, ho⟩, hok⟩ := hm
  obtain ⟨o1, o2, _⟩ := hok
  refine ct_of_body (l := [_]) Tryz.func79 rfl Tryz.ntmps79 (by simp) (fun _ _ _ _ h => h) fun F hF0 hFm => ?_
  rw [memOk_ref]
  repeat (first | refine cg_seq ?_ | refine cg_region ?_)
  refine rb rfl rfl rfl rfl (a_box rfl rfl) ?_; intro b2 k2 hb2 hN2 hle2 hk2
  obtain ⟨p0, p1, p2, p3, p4, p5⟩ := Member.parts (cells_at (vs := m.cs a0 c0 a1 c1) hk2 rfl)
  have n1 := refName_ct (k := k2) m.id o1
  have n2 := refName_ct (k := k2) m.static o2
  have n3 := subs_ct (hs.le hle2)
  have n4 := inOrder_ct (ho.le hle2)
  have n5 := in_ct (k := k2) m.beat
  repeat (first | refine cg_seq ?_ | refine cg_region ?_ | refine rg_nil ?_ | refine eg_then ?_ | refine qsp ?_ | refine qsl ?_ | refine qsf ?_)
  refine rs rfl rfl (loc_call_is rfl rfl rfl rfl (n1)) ?_
  cases z1 : isName m.id
  · repeat (first | refine rg_nil ?_ | refine eg_then ?_ | refine qsp ?_ | refine qso ?_ | refine cg_ret ?_)
    exact eg_return rfl rfl rfl
  repeat (first | refine qsp ?_ | refine qsl ?_ | refine qsf ?_)
  cases z2 : decide (m.static = ⟨#[]⟩)
  · repeat (first | refine qsl ?_ | refine qsf ?_)
    refine rs rfl rfl (loc_call_is rfl rfl rfl rfl (n2)) ?_
    cases z3 : isName m.static
    · repeat (first | refine rg_nil ?_ | refine eg_then ?_ | refine qsp ?_ | refine qso ?_ | refine cg_ret ?_)
      exact eg_return rfl rfl rfl
    cases z4 : (decide (RightP cmpStr isName m.subs) && decide (m.subs.length ≤ 12))
    · rw [z4] at n3
      repeat (first | refine qsp ?_ | refine qsl ?_ | refine qsf ?_)
      refine rs rfl rfl (loc_call_is rfl rfl rfl rfl (n3)) ?_
      repeat (first | refine rg_nil ?_ | refine eg_then ?_ | refine qsp ?_ | refine qso ?_ | refine cg_ret ?_)
      exact eg_return rfl rfl rfl
    rw [z4] at n3
    repeat (first | refine qsp ?_ | refine qsl ?_ | refine qsf ?_)
    refine rs rfl rfl (loc_call_is rfl rfl rfl rfl (n3)) ?_
    repeat (first | refine qsp ?_ | refine qsl ?_ | refine qsf ?_)
    refine rs rfl rfl (loc_call_is rfl rfl rfl rfl (n4)) ?_
    cases z5 : decide (RightP ordTp tpOk m.own)
    · repeat (first | refine rg_nil ?_ | refine eg_then ?_ | refine qsp ?_ | refine qso ?_ | refine cg_ret ?_)
      exact eg_return rfl rfl rfl
    repeat (first | refine qsp ?_ | refine qsl ?_ | refine qsf ?_)
    refine rs rfl rfl (loc_call_is rfl rfl rfl rfl (n5)) ?_
    repeat (first | refine rg_nil ?_ | refine eg_then ?_ | refine qsp ?_ | refine cg_ret ?_)
    exact eg_return rfl rfl rfl
  · repeat (first | refine qsp ?_ | refine qsl ?_ | refine qsf ?_ | refine qso ?_)
    cases z4 : (decide (RightP cmpStr isName m.subs) && decide (m.subs.length ≤ 12))
    · rw [z4] at n3
      skip
      refine rs rfl rfl (loc_call_is rfl rfl rfl rfl (n3)) ?_
      repeat (first | refine rg_nil ?_ | refine eg_then ?_ | refine qsp ?_ | refine qso ?_ | refine cg_ret ?_)
      exact eg_return rfl rfl rfl
    rw [z4] at n3
    skip
    refine rs rfl rfl (loc_call_is rfl rfl rfl rfl (n3)) ?_
    repeat (first | refine qsp ?_ | refine qsl ?_ | refine qsf ?_)
    refine rs rfl rfl (loc_call_is rfl rfl rfl rfl (n4)) ?_
    cases z5 : decide (RightP ordTp tpOk m.own)
    · repeat (first | refine rg_nil ?_ | refine eg_then ?_ | refine qsp ?_ | refine qso ?_ | refine cg_ret ?_)
      exact eg_return rfl rfl rfl
    repeat (first | refine qsp ?_ | refine qsl ?_ | refine qsf ?_)
    refine rs rfl rfl (loc_call_is rfl rfl rfl rfl (n5)) ?_
    repeat (first | refine rg_nil ?_ | refine eg_then ?_ | refine qsp ?_ | refine cg_ret ?_)
    exact eg_return rfl rfl rfl
set_option maxHeartbeats 400000 in
theorem refState_ct {k : PH} {a : Option Addr} {c : Nat} {l : List Member} (hl : Sl tMember k a c l) : CT Tryz.prog 78 #[.slice a l.length c] k (fun _ v => v = .int .i64 (stateG l)) := by
  refine ct_of_body (l := [_]) Tryz.func78 rfl Tryz.ntmps78 (by simp) (fun _ _ _ _ h => h) fun F hF0 hFm => ?_
  have b1 := hl.cap; have b2 := hl.max; unfold maxLen at b2
  unfold stateG
  repeat (first | refine cg_seq ?_ | refine cg_region ?_ | refine rg_nil ?_ | refine eg_then ?_ | refine qsp ?_ | refine qsn ?_)
  by_cases h0 : l.length = 0
  · rw [show ((l.length : Int) == 0) = true by rw [h0]; rfl]
    repeat (first | refine cg_seq ?_ | refine cg_region ?_ | refine rg_nil ?_ | refine eg_then ?_ | refine qsp ?_ | refine cg_cond_true rfl ?_ | refine cg_ret ?_ | refine eg_then_ret ?_)
    refine eg_return rfl rfl ?_
    rw [if_pos h0]
  rw [show ((l.length : Int) == 0) = false by rw [beq_eq_false_iff_ne]; omega]
  rw [if_neg h0]
  repeat (first | refine cg_seq ?_ | refine cg_region ?_ | refine rg_nil ?_ | refine eg_then ?_ | refine qsp ?_ | refine cg_cond_false rfl ?_ | refine cg_skip ?_ | refine cg_block ?_)
  refine cg_loop (fun (i : Nat) e k' => k' = k ∧ i ≤ l.length ∧ (∀ x ∈ l.take i, x.joined = true) ∧ e = [(0, .is (.slice a l.length c)), (3, .is (.int .i64 (i : Int)))])
    (fun i => l.length - i) 0 ⟨rfl, Nat.zero_le _, by simp, rfl⟩ ⟨rfl, rfl, trivial⟩ ?_
  rintro i e k1 ⟨rfl, hi, hno, rfl⟩
  repeat (first | refine cg_seq ?_ | refine cg_region ?_ | refine rg_nil ?_ | refine eg_then ?_ | refine qsp ?_ | refine qsn ?_)
  refine cg_cond rfl (fun h => ?_) (fun h => ?_)
  · have hlt : i < l.length := by simpa using h
    obtain ⟨bx, ox, cx, ea, ⟨a0, c0, a1, c1, rfl, _, _⟩, hcx⟩ := hl.el i l[i] (List.getElem?_eq_getElem hlt)
    subst ea
    have m4 := (Member.parts hcx).2.2.2.2.1
    repeat (first | refine cg_seq ?_ | refine cg_region ?_ | refine rg_nil ?_ | refine eg_then ?_ | refine qsp ?_ | refine qsi ?_ | refine qsl ?_ | refine qsf ?_ | refine cg_skip ?_ | refine cg_block ?_)
    cases q : l[i].joined
    · repeat (first | refine cg_seq ?_ | refine cg_region ?_ | refine rg_nil ?_ | refine eg_then ?_ | refine qsp ?_ | refine cg_cond_true rfl ?_ | refine cg_ret ?_ | refine eg_then_ret ?_ | refine eg_in_ret ?_)
      refine eg_return rfl rfl ?_
      rw [if_pos (List.any_eq_true.2 ⟨_, List.getElem_mem hlt, by rw [q]; rfl⟩)]
    · repeat (first | refine cg_region ?_ | refine rg_nil ?_ | refine eg_then ?_ | refine qsp ?_ | refine qsa ?_ | refine cg_cond_false rfl ?_ | refine cg_skip ?_ | refine eg_in_normal ?_)
      refine eg_again (i + 1) _ ⟨rfl, hlt, fun x hx => ?_, rfl⟩ (by omega) ⟨rfl, rfl, trivial⟩
      rw [List.take_succ_eq_append_getElem hlt] at hx
      rcases List.mem_append.1 hx with hx | hx
      · exact hno x hx
      · simp at hx; rw [hx]; exact q
  · repeat (first | refine cg_seq ?_ | refine cg_region ?_ | refine rg_nil ?_ | refine eg_then ?_ | refine qsp ?_ | refine cg_ret ?_ | refine cg_exit ?_ | refine eg_then_exit ?_ | refine eg_in_exit ?_)
    refine eg_return rfl rfl ?_
    have : i = l.length := by simp at h; omega
    rw [this, List.take_length] at hno
    rw [if_neg]
    intro ha
    obtain ⟨y, hy, hz⟩ := List.any_eq_true.1 ha
    rw [hno y hy] at hz; cases hz
end Go.Wm

/-
  Names, topics and orders, the document's. Conditions: that what is handed in reads as data.
-/
import Derived.Test.YtgalkgidjpbiaaaGreatR1
set_option linter.all false
namespace Go.Wm
open Go.RowKit Go.Proofs
attribute [local irreducible] RG CG EG WA Loc Det Alc CT Exit.then Exit.inBlock Code.wp bodyPost
set_option maxHeartbeats 1000000 in
theorem refName_ct {k : PH} (s : ByteArray) (hs : s.size ≤ maxLen) : CT Tryz.prog 102 #[.string s] k (fun _ v => v = .bool (isName s)) := by
  refine ct_of_body (l := [_]) Tryz.func102 rfl Tryz.ntmps102 (by simp) (fun _ _ _ _ h => h) fun F hF0 hFm => ?_
  unfold maxLen at hs
  repeat (first | refine cg_seq ?_ | refine cg_region ?_ | refine rg_nil ?_ | refine eg_then ?_ | refine qsp ?_)
  refine rs rfl rfl (loc_det rfl (d_len_str rfl rfl)) ?_
  repeat (first | refine qsp ?_)
  cases q1 : decide ((s.size : Int) < 1)
  rotate_left
  · repeat (first | refine cg_seq ?_ | refine cg_region ?_ | refine rg_nil ?_ | refine eg_then ?_ | refine qsp ?_ | refine qso ?_ | refine cg_cond_true rfl ?_ | refine cg_ret ?_ | refine eg_then_ret ?_)
    refine eg_return rfl rfl ?_
    have : ¬ 1 ≤ s.size := by simp at q1; omega
    simp [isName, this]
  repeat (first | refine qsp ?_)
  refine rs rfl rfl (loc_det rfl (d_len_str rfl rfl)) ?_
  repeat (first | refine rg_nil ?_ | refine eg_then ?_ | refine qsp ?_)
  cases q2 : decide ((s.size : Int) > 64)
  rotate_left
  · repeat (first | refine cg_seq ?_ | refine cg_region ?_ | refine rg_nil ?_ | refine eg_then ?_ | refine qsp ?_ | refine cg_cond_true rfl ?_ | refine cg_ret ?_ | refine eg_then_ret ?_)
    refine eg_return rfl rfl ?_
    have : ¬ s.size ≤ 64 := by simp at q2; omega
    simp [isName, this]
  have h1 : 1 ≤ s.size := by simp at q1; omega
  have h2 : s.size ≤ 64 := by simp at q2; omega
  repeat (first | refine cg_seq ?_ | refine cg_region ?_ | refine eg_then ?_ | refine qsp ?_ | refine cg_cond_false rfl ?_ | refine cg_skip ?_)
  refine rs rfl rfl (loc_det rfl (d_len_str rfl rfl)) ?_
  repeat (first | refine rg_nil ?_ | refine eg_then ?_ | refine qsp ?_ | refine cg_block ?_)
  refine cg_loop (fun (i : Nat) e k' => i ≤ s.size ∧ (∀ j, (h : j < s.size) → j < i → okB s[j] = true) ∧ e = [(0, .is (.string s)), (13, .is (.int .i64 (s.size : Int))), (14, .is (.int .i64 (i : Int)))])
    (fun i => s.size - i) 0 ⟨Nat.zero_le _, fun j _ hj => by omega, rfl⟩ ⟨rfl, rfl, rfl, trivial⟩ ?_
  rintro i e k1 ⟨hi, hno, rfl⟩
  repeat (first | refine cg_seq ?_ | refine cg_region ?_ | refine rg_nil ?_ | refine eg_then ?_ | refine qsp ?_)
  refine cg_cond rfl (fun h => ?_) (fun h => ?_)
  · have hlt : i < s.size := by simpa using h
    have bad : okB s[i] = false → (Value.bool false) = .bool (isName s) := fun hb => by
      have : ¬ ∀ j, (h : j < s.size) → okB s[j] = true := fun ha => by rw [ha i hlt] at hb; cases hb
      simp [isName, this]
    repeat (first | refine cg_seq ?_ | refine cg_region ?_ | refine rg_nil ?_ | refine eg_then ?_ | refine qsp ?_ | refine cg_skip ?_ | refine cg_block ?_)
    refine rs rfl rfl (loc_det rfl (d_idx_str (i := i) rfl rfl rfl hlt)) ?_
    refine rs rfl rfl (loc_det rfl (d_cmp rfl rfl rfl rfl)) ?_
    repeat (first | refine qsp ?_)
    cases q3 : decide ((s[i].toNat : Int) < 33)
    rotate_left
    · repeat (first | refine cg_seq ?_ | refine cg_region ?_ | refine rg_nil ?_ | refine eg_then ?_ | refine qsp ?_ | refine qso ?_ | refine cg_cond_true rfl ?_ | refine cg_ret ?_ | refine eg_then_ret ?_ | refine eg_in_ret ?_)
      refine eg_return rfl rfl (bad ?_)
      simp [okB]; simp at q3; omega
    repeat (first | refine qsp ?_)
    refine rs rfl rfl (loc_det rfl (d_idx_str (i := i) rfl rfl rfl hlt)) ?_
    refine rs rfl rfl (loc_det rfl (d_cmp rfl rfl rfl rfl)) ?_
    repeat (first | refine rg_nil ?_ | refine eg_then ?_ | refine qsp ?_)
    cases q4 : decide ((s[i].toNat : Int) > 126)
    rotate_left
    · repeat (first | refine cg_seq ?_ | refine cg_region ?_ | refine rg_nil ?_ | refine eg_then ?_ | refine qsp ?_ | refine cg_cond_true rfl ?_ | refine cg_ret ?_ | refine eg_then_ret ?_ | refine eg_in_ret ?_)
      refine eg_return rfl rfl (bad ?_)
      simp [okB]; simp at q4; omega
    repeat (first | refine cg_region ?_ | refine rg_nil ?_ | refine eg_then ?_ | refine qsp ?_ | refine qsa ?_ | refine cg_cond_false rfl ?_ | refine cg_skip ?_ | refine eg_in_normal ?_)
    refine eg_again (i + 1) _ ⟨hlt, fun j hj hji => ?_, rfl⟩ (by omega) ⟨rfl, rfl, rfl, trivial⟩
    by_cases e : j = i
    · subst e; simp [okB]; simp at q3 q4; omega
    · exact hno j hj (by omega)
  · have hil : i = s.size := by simp at h; omega
    repeat (first | refine cg_seq ?_ | refine cg_region ?_ | refine rg_nil ?_ | refine eg_then ?_ | refine qsp ?_ | refine cg_ret ?_ | refine cg_exit ?_ | refine eg_then_exit ?_ | refine eg_in_exit ?_)
    refine eg_return rfl rfl ?_
    have : ∀ j, (h : j < s.size) → okB s[j] = true := fun j hj => hno j hj (by omega)
    simp [isName, this, h1, h2]
set_option maxHeartbeats 400000 in
theorem refIn_ct {k : PH} (n a b : Int) : CT Tryz.prog 103 #[.int .i64 n, .int .i64 a, .int .i64 b] k (fun _ v => v = .bool (inI n a b)) := by
  refine ct_of_body (l := [_, _, _]) Tryz.func103 rfl Tryz.ntmps103 (by simp) (fun _ _ _ _ h => h) fun F hF0 hFm => ?_
  repeat (first | refine cg_seq ?_ | refine cg_region ?_ | refine rg_nil ?_ | refine eg_then ?_ | refine qsp ?_)
  cases q : decide (n ≥ a)
  · repeat (first | refine rg_nil ?_ | refine eg_then ?_ | refine qsp ?_ | refine qso ?_ | refine cg_ret ?_)
    refine eg_return rfl rfl ?_
    have : decide (a ≤ n) = false := q
    simp [inI, this]
  · repeat (first | refine rg_nil ?_ | refine eg_then ?_ | refine qsp ?_ | refine cg_ret ?_)
    refine eg_return rfl rfl ?_
    have : decide (a ≤ n) = true := q
    simp [inI, this]
def topF (x : Conf) (s : ByteArray) : Int := idxF x.topics fun t => decide (t.name = s)
theorem topF_known (x : Conf) (s : ByteArray) : decide (topF x s ≥ 0) = knownC x s := idxF_ge _ _
set_option maxHeartbeats 1000000 in
theorem refTopic_ct {k : PH} {x : Conf} {a0 : Option Addr} {c0 : Nat} (a1 : Option Addr) (c1 : Nat) (a2 : Option Addr) (c2 : Nat) (a3 : Option Addr) (c3 : Nat) (ht : Sl tTopic k a0 c0 x.topics) (s : ByteArray) :
    CT Tryz.prog 189 #[.agg (x.cs a0 c0 a1 c1 a2 c2 a3 c3).toArray, .string s] k (fun _ v => v = .int .i64 (topF x s)) := by
  refine ct_of_body (l := [_, _]) Tryz.func189 rfl Tryz.ntmps189 (by simp) (fun _ _ _ _ h => h) fun F hF0 hFm => ?_
  have b1 := ht.cap; have b2 := ht.max; unfold maxLen at b2
  repeat (first | refine cg_seq ?_ | refine cg_region ?_)
  refine rb rfl rfl rfl rfl (a_box rfl rfl) ?_; intro s2 k2 hb2 hN2 hle2 hk2
  have ht := ht.le hle2
  obtain ⟨p0, p1, p2, p3, p4⟩ := Conf.parts (cells_at (vs := x.cs a0 c0 a1 c1 a2 c2 a3 c3) hk2 rfl)
  repeat (first | refine cg_seq ?_ | refine cg_region ?_ | refine rg_nil ?_ | refine eg_then ?_ | refine qsp ?_ | refine qsn ?_ | refine qsl ?_ | refine qsf ?_ | refine cg_block ?_)
  refine cg_loop (fun (i : Nat) e k' => Le k2 k' ∧ i ≤ x.topics.length ∧ (∀ t ∈ x.topics.take i, decide (t.name = s) = false) ∧ e = [(1, .is (.string s)), (8, .is (.slice a0 x.topics.length c0)), (9, .is (.int .i64 (x.topics.length : Int))), (10, .is (.int .i64 (i : Int)))])
    (fun i => x.topics.length - i) 0 ⟨Le.refl _, Nat.zero_le _, by simp, rfl⟩ ⟨rfl, rfl, rfl, rfl, trivial⟩ ?_
  rintro i e k1 ⟨hle, hi, hno, rfl⟩
  repeat (first | refine cg_seq ?_ | refine cg_region ?_ | refine rg_nil ?_ | refine eg_then ?_ | refine qsp ?_)
  refine cg_cond rfl (fun h => ?_) (fun h => ?_)
  · have hlt : i < x.topics.length := by simpa using h
    obtain ⟨bx, ox, cx, ea, ⟨ecx, hok⟩, hcx⟩ := (ht.le hle).el i x.topics[i] (List.getElem?_eq_getElem hlt)
    subst ecx
    subst ea
    repeat (first | refine cg_seq ?_ | refine cg_region ?_ | refine eg_then ?_ | refine qsp ?_ | refine qsi ?_ | refine qsg ?_ | refine cg_skip ?_ | refine cg_block ?_)
    refine rb rfl rfl rfl rfl (a_alloc rfl) ?_; intro s6 k6 hb6 hN6 hle6 hk6
    repeat (first | refine qsp ?_)
    refine rw1 (vs := x.topics[i].vs) rfl rfl rfl rfl rfl rfl rfl hk6 rfl (.inl hN6) ?_ ?_
    · simp [Topic.vs, Value.oneCell']
    intro k7 ht7 hk7
    have hle7 : Le k1 k7 := ht7 k1 hle6 hb6
    obtain ⟨t0, t1, t2, t3⟩ := Topic.parts (cells_at (vs := x.topics[i].vs) hk7 rfl)
    repeat (first | refine cg_seq ?_ | refine cg_region ?_ | refine rg_nil ?_ | refine eg_then ?_ | refine qsp ?_ | refine qsl ?_ | refine qsf ?_)
    cases q : decide (x.topics[i].name = s)
    · repeat (first | refine cg_region ?_ | refine rg_nil ?_ | refine eg_then ?_ | refine qsp ?_ | refine qsa ?_ | refine cg_cond_false rfl ?_ | refine cg_skip ?_ | refine eg_in_normal ?_)
      refine eg_again (i + 1) _ ⟨hle.trans hle7, hlt, fun t ht => ?_, rfl⟩ (by omega) ⟨rfl, rfl, rfl, rfl, trivial⟩
      rw [List.take_succ_eq_append_getElem hlt] at ht
      rcases List.mem_append.1 ht with ht | ht
      · exact hno t ht
      · simp at ht; rw [ht]; exact q
    · repeat (first | refine cg_seq ?_ | refine cg_region ?_ | refine rg_nil ?_ | refine eg_then ?_ | refine qsp ?_ | refine cg_cond_true rfl ?_ | refine cg_ret ?_ | refine eg_then_ret ?_ | refine eg_in_ret ?_)
      refine eg_return rfl rfl ?_
      rw [topF, idxF_at hlt q hno]
  · repeat (first | refine cg_seq ?_ | refine cg_region ?_ | refine rg_nil ?_ | refine eg_then ?_ | refine qsp ?_ | refine cg_ret ?_ | refine cg_exit ?_ | refine eg_then_exit ?_ | refine eg_in_exit ?_)
    refine eg_return rfl rfl ?_
    have : i = x.topics.length := by simp at h; omega
    rw [this, List.take_length] at hno
    rw [topF, idxF_no hno]
theorem str_less (a b : ByteArray) : decide (a.data.toList < b.data.toList) = decide (cmpStr a b < 0) := by
  rw [decide_eq_decide]; exact cmpStr_lt.symm
theorem rule_less (a b : Rule) : decide (ordRule a b < 0) = (decide (a.who.data.toList < b.who.data.toList) || (decide (a.who = b.who) && decide (a.topic.data.toList < b.topic.data.toList))) := by
  rw [str_less, str_less, show decide (a.who = b.who) = decide (cmpStr a.who b.who = 0) from decide_eq_decide.2 cmpStr_eq.symm, ordRule, orL2, Bool.eq_iff_iff]
  simp only [decide_eq_true_eq, Bool.or_eq_true, Bool.and_eq_true]
  split <;> omega
theorem way_less (a b : Way) : decide (ordWay a b < 0) = if a.fromV = b.fromV then (decide (a.toV < b.toV) || (decide (a.toV = b.toV) && decide (a.topic.data.toList < b.topic.data.toList))) else decide (a.fromV < b.fromV) := by
  rw [str_less, ordWay, orL3]
  have h1 := cmpInt_cases a.fromV b.fromV
  have h2 := cmpInt_cases a.toV b.toV
  by_cases e : a.fromV = b.fromV
  · rw [if_pos e, if_neg (by omega), Bool.eq_iff_iff]
    simp only [decide_eq_true_eq, Bool.or_eq_true, Bool.and_eq_true]
    split <;> omega
  · rw [if_neg e, if_pos (by omega), decide_eq_decide]
    omega
set_option maxHeartbeats 1000000 in
theorem ruleAhead_ct {k : PH} (a b : Rule) : CT Tryz.prog 190 #[.agg a.vs.toArray, .agg b.vs.toArray] k (fun _ v => v = .bool (decide (ordRule a b < 0))) := by
  refine ct_of_body (l := [_, _]) Tryz.func190 rfl Tryz.ntmps190 (by simp) (fun _ _ _ _ h => h) fun F hF0 hFm => ?_
  rw [rule_less]
  repeat (first | refine cg_seq ?_ | refine cg_region ?_)
  refine rb rfl rfl rfl rfl (a_box rfl rfl) ?_; intro b2 k2 hb2 hN2 hle2 hk2
  refine rb rfl rfl rfl rfl (a_box rfl rfl) ?_; intro b3 k3 hb3 hN3 hle3 hk3
  obtain ⟨p0, p1, p2⟩ := Rule.parts ((cells_at (vs := a.vs) hk2 rfl).le hle3)
  obtain ⟨q0, q1, q2⟩ := Rule.parts (cells_at (vs := b.vs) hk3 rfl)
  repeat (first | refine cg_seq ?_ | refine cg_region ?_ | refine rg_nil ?_ | refine eg_then ?_ | refine qsp ?_ | refine qsl ?_ | refine qsf ?_)
  cases r1 : decide (a.who.data.toList < b.who.data.toList)
  · repeat (first | refine qsp ?_ | refine qsl ?_ | refine qsf ?_)
    cases r2 : decide (a.who = b.who)
    · repeat (first | refine rg_nil ?_ | refine eg_then ?_ | refine qsp ?_ | refine qso ?_ | refine cg_ret ?_)
      exact eg_return rfl rfl rfl
    · repeat (first | refine rg_nil ?_ | refine eg_then ?_ | refine qsp ?_ | refine qsl ?_ | refine qsf ?_ | refine cg_ret ?_)
      refine eg_return rfl rfl ?_
      simp
  · repeat (first | refine rg_nil ?_ | refine eg_then ?_ | refine qsp ?_ | refine qso ?_ | refine cg_ret ?_)
    refine eg_return rfl rfl ?_
    simp
set_option maxHeartbeats 1000000 in
theorem wayAhead_ct {k : PH} (a b : Way) : CT Tryz.prog 191 #[.agg a.vs.toArray, .agg b.vs.toArray] k (fun _ v => v = .bool (decide (ordWay a b < 0))) := by
  refine ct_of_body (l := [_, _]) Tryz.func191 rfl Tryz.ntmps191 (by simp) (fun _ _ _ _ h => h) fun F hF0 hFm => ?_
  rw [way_less]
  repeat (first | refine cg_seq ?_ | refine cg_region ?_)
  refine rb rfl rfl rfl rfl (a_box rfl rfl) ?_; intro b2 k2 hb2 hN2 hle2 hk2
  refine rb rfl rfl rfl rfl (a_box rfl rfl) ?_; intro b3 k3 hb3 hN3 hle3 hk3
  obtain ⟨p0, p1, p2⟩ := Way.parts ((cells_at (vs := a.vs) hk2 rfl).le hle3)
  obtain ⟨q0, q1, q2⟩ := Way.parts (cells_at (vs := b.vs) hk3 rfl)
  repeat (first | refine cg_seq ?_ | refine cg_region ?_ | refine rg_nil ?_ | refine eg_then ?_ | refine qsp ?_ | refine qsl ?_ | refine qsf ?_)
  cases r0 : (a.fromV != b.fromV)
  rotate_left
  · rw [if_neg (by simpa using r0)]
    repeat (first | refine cg_seq ?_ | refine cg_region ?_ | refine rg_nil ?_ | refine eg_then ?_ | refine qsp ?_ | refine qsl ?_ | refine qsf ?_ | refine cg_cond_true rfl ?_ | refine cg_ret ?_ | refine eg_then_ret ?_)
    exact eg_return rfl rfl rfl
  rw [if_pos (by simpa using r0)]
  repeat (first | refine cg_seq ?_ | refine cg_region ?_ | refine eg_then ?_ | refine qsp ?_ | refine qsl ?_ | refine qsf ?_ | refine cg_cond_false rfl ?_ | refine cg_skip ?_)
  cases r1 : decide (a.toV < b.toV)
  · repeat (first | refine qsp ?_ | refine qsl ?_ | refine qsf ?_)
    cases r2 : (a.toV == b.toV)
    · have r2' : decide (a.toV = b.toV) = false := r2
      rw [r2']
      repeat (first | refine rg_nil ?_ | refine eg_then ?_ | refine qsp ?_ | refine qso ?_ | refine cg_ret ?_)
      refine eg_return rfl rfl ?_
      simp
    · have r2' : decide (a.toV = b.toV) = true := r2
      rw [r2']
      repeat (first | refine rg_nil ?_ | refine eg_then ?_ | refine qsp ?_ | refine qsl ?_ | refine qsf ?_ | refine cg_ret ?_)
      refine eg_return rfl rfl ?_
      simp
  · repeat (first | refine rg_nil ?_ | refine eg_then ?_ | refine qsp ?_ | refine qso ?_ | refine cg_ret ?_)
    refine eg_return rfl rfl ?_
    simp
end Go.Wm

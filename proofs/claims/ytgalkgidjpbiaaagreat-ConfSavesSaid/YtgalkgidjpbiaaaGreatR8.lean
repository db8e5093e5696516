/-
  A rule, a rate, a way put in its place, the document's. Conditions: that what is handed in reads as data.
-/
import Derived.Test.YtgalkgidjpbiaaaGreatR7
import Derived.Test.YtgalkgidjpbiaaaGreatD6
set_option linter.all false
namespace Go.Wm
open Go.RowKit Go.Proofs
attribute [local irreducible] RG CG EG WA Loc Det Alc CT Exit.then Exit.inBlock Code.wp bodyPost
theorem gt_less (a b : ByteArray) : (!(decide (a.data.toList < b.data.toList) || decide (a = b))) = decide (cmpStr b a < 0) := by
  rw [str_less, show decide (a = b) = decide (cmpStr a b = 0) from decide_eq_decide.2 cmpStr_eq.symm, Bool.eq_iff_iff]
  have := cmpStr_neg a b
  simp only [Bool.not_eq_true', Bool.or_eq_false_iff, decide_eq_false_iff_not, decide_eq_true_eq]
  omega
theorem form_a {s : Step} (h : formS s = true) (hk : s.kind = 5) : 0 ≤ s.a := by
  simp [formS, useK, hk, textU, numU, inI] at h
  omega
set_option maxHeartbeats 8000000 in
theorem refRule_ctm {N : Nat} {k : PH} {b : Nat} {x : Conf} {a0 : Option Addr} {c0 : Nat} {a1 : Option Addr} {c1 : Nat} {a2 : Option Addr} {c2 : Nat} {a3 : Option Addr} {c3 : Nat} {s : Step} (H : OwnC N k b x a0 c0 a1 c1 a2 c2 a3 c3) (hf : x.few) (hr : confP x = true) (hok : s.ok) (hs : formS s = true) (hkind : s.kind = 5) :
    CTMN Tryz.prog 193 #[.pointer (some ⟨b, 0, none⟩), .agg s.vs.toArray] k N (fun g => g = b) (PostC N b (actC x s)) := by
  refine ctmn_of_body (l := [_, _]) Tryz.func193 rfl Tryz.ntmps193 (by simp) fun F hF0 hFm hN0 hlt0 => ?_
  have hmu : F.mu b := by rw [hFm]
  obtain ⟨r1, r2, r3, r4, r5, r6⟩ := conf_parts hr
  have h0a : 0 ≤ s.a := form_a hs hkind
  have hfew := hf.2.1
  have hact : actC x s = if (!decide (s.topic = starS) && !knownC x s.topic) = true then .error 190 else if s.a > 7 then .error 192 else .ok { x with rules := putInL ordRule x.rules ⟨s.name, s.topic, s.a⟩ (decide (s.a > 0)) } := by
    unfold actC; simp [hkind]
  obtain ⟨here, hhere⟩ : ∃ t : Rule, t = ⟨s.name, s.topic, s.a⟩ := ⟨_, rfl⟩
  have hereok : here.ok := by rw [hhere]; exact ⟨hok.2.1, hok.2.2.1, hok.2.2.2.1⟩
  rw [← hhere] at hact
  repeat (first | refine cg_seq ?_ | refine cg_region ?_)
  refine rb rfl rfl rfl rfl (a_box rfl rfl) ?_; intro b3 k3 hb3 hN3 hle3 hk3
  have H := H.le hle3
  have cs := cells_at (vs := s.vs) hk3 rfl
  obtain ⟨s0, s1, s2, s3, s4, s5⟩ := Step.parts cs
  have cc := H.cells
  repeat (first | refine cg_seq ?_ | refine rg_nil ?_ | refine eg_then ?_ | refine qsp ?_)
  apply meet [(0, .is (.pointer (some ⟨b, 0, none⟩))), (3, .is (.pointer (some ⟨b3, 0, none⟩))), (25, .is (.bool (decide (s.a > 7))))] ((!decide (s.topic = starS) && !knownC x s.topic) = false)
  · intro go
    refine cg_any (by kernel_rfl) rfl ?_
    repeat (first | refine qwp ?_ | refine qwl ?_ | refine qwf ?_)
    cases q1 : decide (s.topic = { data := #[42] })
    rotate_left
    · repeat (first | refine qwp ?_ | refine qwo ?_ | (refine wn rfl ?_; refine eg_then ?_))
      repeat (first | refine cg_seq ?_ | refine cg_region ?_ | refine rg_nil ?_ | refine eg_then ?_ | refine qsp ?_ | refine qsl ?_ | refine qsf ?_ | refine cg_cond_false rfl ?_ | refine cg_skip ?_)
      exact go _ (by unfold starS; rw [q1]; rfl) ⟨rfl, rfl, rfl, trivial⟩
    repeat (first | refine qwp ?_ | refine qwl ?_ | refine qwg ?_ | refine qwf ?_)
    refine ws rfl (loc_call_is rfl rfl rfl rfl (refTopic_ct a1 c1 a2 c2 a3 c3 H.cf.t s.topic)) ?_
    repeat (first | refine qwp ?_ | (refine wn rfl ?_; refine eg_then ?_))
    cases q2 : knownC x s.topic
    · rw [topF_no q2]
      skip
      repeat (first | refine cg_seq ?_ | refine cg_region ?_ | refine rg_nil ?_ | refine eg_then ?_ | refine qsp ?_ | refine cg_cond_true rfl ?_ | refine cg_ret ?_ | refine eg_then_ret ?_)
      exact eg_return rfl rfl (postE (by rw [hact, if_pos (by unfold starS; rw [q1, q2]; rfl)]))
    · rw [topF_at r3 q2]
      rw [show decide ((posF (fun t : Topic => cmpStr t.name s.topic) x.topics : Int) < 0) = false by simp]
      skip
      repeat (first | refine cg_seq ?_ | refine cg_region ?_ | refine rg_nil ?_ | refine eg_then ?_ | refine qsp ?_ | refine qsl ?_ | refine qsf ?_ | refine cg_cond_false rfl ?_ | refine cg_skip ?_)
      exact go _ (by rw [q2]; simp) ⟨rfl, rfl, rfl, trivial⟩
  intro q0
  cases q3 : decide (s.a > 7)
  rotate_left
  · repeat (first | refine cg_seq ?_ | refine cg_region ?_ | refine rg_nil ?_ | refine eg_then ?_ | refine qsp ?_ | refine cg_cond_true rfl ?_ | refine cg_ret ?_ | refine eg_then_ret ?_)
    exact eg_return rfl rfl (postE (by rw [hact, if_neg (by simp [q0]), if_pos (by simpa using q3)]))
  have hact2 : actC x s = .ok { x with rules := putInL ordRule x.rules here (decide (s.a > 0)) } := by rw [hact, if_neg (by simp [q0]), if_neg (by simpa using q3)]
  repeat (first | refine cg_seq ?_ | refine cg_region ?_ | refine eg_then ?_ | refine qsl ?_ | refine qsf ?_ | refine cg_cond_false rfl ?_ | refine cg_skip ?_)
  refine rs rfl rfl (loc_det rfl (d_lit (cells := here.vs) rfl rfl (by rw [hhere]; rfl))) ?_
  refine rb rfl rfl rfl rfl (a_alloc rfl) ?_; intro b5 k5 hb5 hN5 hle5 hk5
  refine rw1 (vs := here.vs) rfl rfl rfl rfl rfl rfl rfl hk5 rfl (.inl hN5) ?_ ?_
  · simp [Rule.vs, Value.oneCell']
  intro kb htb hkb
  have hleb : Le k3 kb := htb k3 hle5 hb5
  have H := H.le hleb
  have cs := cs.le hleb
  have chere0 := cells_at (vs := here.vs) hkb rfl
  obtain ⟨p0, p1, p2, p3, p4⟩ := Conf.parts H.cells
  repeat (first | refine cg_seq ?_ | refine cg_region ?_ | refine rg_nil ?_ | refine eg_then ?_ | refine qsp ?_ | refine qsn ?_ | refine qsl ?_ | refine qsf ?_ | refine cg_block ?_)
  refine cg_loop (fun (i : Nat) e k' => ∃ v, Le kb k' ∧ Apart kb v ∧ Row F.w0.heap.size k' 74 3 v ((x.rules.take i).filter (fun y => decide (ordRule y here < 0))).length (((x.rules.take i).filter (fun y => decide (ordRule y here < 0))).flatMap Rule.vs) ∧ i ≤ x.rules.length ∧ e = [(0, .is (.pointer (some ⟨b, 0, none⟩))), (3, .is (.pointer (some ⟨b3, 0, none⟩))), (5, .is (.pointer (some ⟨b5, 0, none⟩))), (6, .is v), (36, .is (.slice a1 x.rules.length c1)), (37, .is (.int .i64 (x.rules.length : Int))), (38, .is (.int .i64 (i : Int)))])
    (fun i => x.rules.length - i) 0 ⟨.slice none 0 0, ?_, ?_, by simpa using row_nil F.w0.heap.size kb 74 3, Nat.zero_le _, rfl⟩ ⟨rfl, rfl, rfl, rfl, rfl, rfl, rfl, trivial⟩ ?_
  · exact Le.refl _
  · exact apart_nil _ _ _
  rintro i e k9 ⟨v9, hle9, hap9, hrow9, hi, rfl⟩
  repeat (first | refine cg_seq ?_ | refine cg_region ?_ | refine rg_nil ?_ | refine eg_then ?_ | refine qsp ?_)
  refine cg_cond rfl (fun h => ?_) (fun h => ?_)
  · have hlt : i < x.rules.length := by simpa using h
    have hfs := filter_succ (fun y => decide (ordRule y here < 0)) hlt
    obtain ⟨y, hy⟩ : ∃ y, x.rules[i] = y := ⟨_, rfl⟩
    rw [hy] at hfs
    obtain ⟨bx, ox, cx, ea, ⟨ecx, hyok⟩, hcx⟩ := (H.cf.r.le hle9).el i y (by rw [List.getElem?_eq_getElem hlt, hy])
    subst ecx
    subst ea
    have hm : ((x.rules.take i).filter (fun y => decide (ordRule y here < 0))).length ≤ 2000001 := by
      have := List.length_filter_le (fun y => decide (ordRule y here < 0)) (x.rules.take i); have := List.length_take_le i x.rules; omega
    repeat (first | refine cg_seq ?_ | refine cg_region ?_ | refine eg_then ?_ | refine qsi ?_ | refine qsg ?_ | refine cg_skip ?_ | refine cg_block ?_)
    refine rb rfl rfl rfl rfl (a_alloc rfl) ?_; intro b10 k10 hb10 hN10 hle10 hk10
    refine rw1 (vs := y.vs) rfl rfl rfl rfl rfl rfl rfl hk10 rfl (.inl hN10) ?_ ?_
    · simp [Rule.vs, Value.oneCell']
    intro k11 ht11 hk11
    have hle11 : Le k9 k11 := ht11 k9 hle10 hb10
    have hrow11 := hrow9.le hle11
    have hle12 := hle9.trans hle11
    have chere := chere0.le hle12
    have cy := cells_at (vs := y.vs) hk11 rfl
    repeat (first | refine cg_seq ?_ | refine cg_region ?_ | refine rg_nil ?_ | refine eg_then ?_ | refine qsg ?_)
    refine rs rfl rfl (loc_call_is rfl rfl rfl rfl (ruleAhead_ct y here)) ?_
    repeat (first | refine rg_nil ?_ | refine eg_then ?_)
    cases q : decide (ordRule y here < 0)
    · repeat (first | refine cg_region ?_ | refine rg_nil ?_ | refine eg_then ?_ | refine qsp ?_ | refine qsa ?_ | refine cg_cond_false rfl ?_ | refine cg_skip ?_ | refine eg_in_normal ?_)
      refine eg_again (i + 1) _ ⟨v9, hle12, hap9, ?_, hlt, rfl⟩ (by omega) ⟨rfl, rfl, rfl, rfl, rfl, rfl, rfl, trivial⟩
      rw [hfs, if_neg (by simp [q]), List.append_nil]; exact hrow11
    · have cy := cells_at (vs := y.vs) hk11 rfl
      repeat (first | refine cg_region ?_ | refine qsp ?_ | refine qsg ?_ | refine cg_cond_true rfl ?_)
      refine rb rfl rfl rfl rfl (a_slice (cells := y.vs) rfl rfl rfl rfl (by kernel_rfl) rfl) ?_; intro b13 k13 hb13 hN13 hle13 hk13
      refine rap rfl rfl rfl rfl rfl rfl rfl (hrow11.le hle13) (cells_at (vs := y.vs) hk13 rfl) rfl ?_ rfl rfl (by unfold maxLen; omega) (by omega) ?_
      · simp [Rule.vs, Value.oneCell']
      intro v14 k14 hrow14 ht14
      obtain ⟨hle14, hap14⟩ := ht14 kb (hle12.trans hle13) hap9
      repeat (first | refine cg_region ?_ | refine rg_nil ?_ | refine eg_then ?_ | refine qsp ?_ | refine qsa ?_ | refine eg_in_normal ?_)
      refine eg_again (i + 1) _ ⟨v14, hle14, hap14, ?_, hlt, rfl⟩ (by omega) ⟨rfl, rfl, rfl, rfl, rfl, rfl, rfl, trivial⟩
      rw [hfs, if_pos (by simp [q]), List.length_append, List.flatMap_append]
      simpa using hrow14
  have hil : i = x.rules.length := by simp at h; omega
  rw [hil, List.take_length] at hrow9
  clear h hi hil
  obtain ⟨A, hA⟩ : ∃ A, x.rules.filter (fun y => decide (ordRule y here < 0)) = A := ⟨_, rfl⟩
  have hAl : A.length ≤ 1000000 := by rw [← hA]; exact Nat.le_trans (List.length_filter_le _ _) hfew
  rw [hA] at hrow9
  obtain ⟨s0, s1, s2, s3, s4, s5⟩ := Step.parts (cs.le hle9)
  have chere9 := chere0.le hle9
  repeat (first | refine cg_seq ?_ | refine cg_region ?_ | refine rg_nil ?_ | refine eg_then ?_ | refine qsp ?_ | refine qsl ?_ | refine qsf ?_ | refine cg_exit ?_ | refine eg_then_exit ?_ | refine eg_in_exit ?_)
  refine cg_join (fun e k' => ∃ v, Le kb k' ∧ Apart kb v ∧ Row F.w0.heap.size k' 74 3 v (A ++ (if (decide (s.a > 0)) = true then [here] else [])).length ((A ++ (if (decide (s.a > 0)) = true then [here] else [])).flatMap Rule.vs) ∧ e = [(0, .is (.pointer (some ⟨b, 0, none⟩))), (3, .is (.pointer (some ⟨b3, 0, none⟩))), (5, .is (.pointer (some ⟨b5, 0, none⟩))), (6, .is v)]) ?_ ?_
  · cases hth : (s.a != 0)
    · have hth' : (decide (s.a > 0)) = false := by (have : s.a = 0 := by simpa using hth); simp [this]
      repeat (first | refine cg_cond_false rfl ?_ | refine cg_skip ?_)
      refine eg_join _ ⟨v9, hle9, hap9, ?_, rfl⟩ ⟨rfl, rfl, rfl, rfl, trivial⟩
      rw [hth', if_neg (by simp), List.append_nil]; exact hrow9
    · have hth' : (decide (s.a > 0)) = true := by (have : ¬ s.a = 0 := by simpa using hth); (have := h0a); simp; omega
      repeat (first | refine cg_region ?_ | refine qsp ?_ | refine qsg ?_ | refine cg_cond_true rfl ?_)
      skip
      refine rb rfl rfl rfl rfl (a_slice (cells := here.vs) rfl rfl rfl rfl (by kernel_rfl) rfl) ?_; intro b13 k13 hb13 hN13 hle13 hk13
      refine rap rfl rfl rfl rfl rfl rfl rfl (hrow9.le hle13) (cells_at (vs := here.vs) hk13 rfl) rfl ?_ rfl rfl (by unfold maxLen; omega) (by omega) ?_
      · simp [Rule.vs, Value.oneCell']
      intro v14 k14 hrow14 ht14
      obtain ⟨hle14, hap14⟩ := ht14 kb (hle9.trans hle13) hap9
      repeat (first | refine rg_nil ?_ | refine qsp ?_)
      refine eg_join _ ⟨v14, hle14, hap14, ?_, rfl⟩ ⟨rfl, rfl, rfl, rfl, trivial⟩
      rw [hth', if_pos rfl, List.length_append, List.flatMap_append]
      simpa using hrow14
  rintro e k8 ⟨v8, hle8, hap8, hrow8, rfl⟩
  obtain ⟨B, hB⟩ : ∃ B, A ++ (if (decide (s.a > 0)) = true then [here] else []) = B := ⟨_, rfl⟩
  have hBl : B.length ≤ 1000001 := by
    rw [← hB, List.length_append]
    split <;> simp <;> omega
  rw [hB] at hrow8
  obtain ⟨p0, p1, p2, p3, p4⟩ := Conf.parts (H.le hle8).cells
  repeat (first | refine cg_seq ?_ | refine cg_region ?_ | refine rg_nil ?_ | refine eg_then ?_ | refine qsp ?_ | refine qsn ?_ | refine qsl ?_ | refine qsf ?_ | refine cg_block ?_)
  refine cg_loop (fun (i : Nat) e k' => ∃ v, Le kb k' ∧ Apart kb v ∧ Row F.w0.heap.size k' 74 3 v (B ++ (x.rules.take i).filter (fun y => decide (ordRule here y < 0))).length ((B ++ (x.rules.take i).filter (fun y => decide (ordRule here y < 0))).flatMap Rule.vs) ∧ i ≤ x.rules.length ∧ e = [(0, .is (.pointer (some ⟨b, 0, none⟩))), (3, .is (.pointer (some ⟨b3, 0, none⟩))), (5, .is (.pointer (some ⟨b5, 0, none⟩))), (6, .is v), (60, .is (.slice a1 x.rules.length c1)), (61, .is (.int .i64 (x.rules.length : Int))), (62, .is (.int .i64 (i : Int)))])
    (fun i => x.rules.length - i) 0 ⟨v8, ?_, ?_, by simpa using hrow8, Nat.zero_le _, rfl⟩ ⟨rfl, rfl, rfl, rfl, rfl, rfl, rfl, trivial⟩ ?_
  · exact hle8
  · exact hap8
  rintro i e k9 ⟨v9, hle9, hap9, hrow9, hi, rfl⟩
  repeat (first | refine cg_seq ?_ | refine cg_region ?_ | refine rg_nil ?_ | refine eg_then ?_ | refine qsp ?_)
  refine cg_cond rfl (fun h => ?_) (fun h => ?_)
  · have hlt : i < x.rules.length := by simpa using h
    have hfs := filter_succ (fun y => decide (ordRule here y < 0)) hlt
    obtain ⟨y, hy⟩ : ∃ y, x.rules[i] = y := ⟨_, rfl⟩
    rw [hy] at hfs
    obtain ⟨bx, ox, cx, ea, ⟨ecx, hyok⟩, hcx⟩ := (H.cf.r.le hle9).el i y (by rw [List.getElem?_eq_getElem hlt, hy])
    subst ecx
    subst ea
    have hm : (B ++ (x.rules.take i).filter (fun y => decide (ordRule here y < 0))).length ≤ 2000001 := by
      rw [List.length_append]; have := List.length_filter_le (fun y => decide (ordRule here y < 0)) (x.rules.take i); have := List.length_take_le i x.rules; omega
    repeat (first | refine cg_seq ?_ | refine cg_region ?_ | refine eg_then ?_ | refine qsi ?_ | refine qsg ?_ | refine cg_skip ?_ | refine cg_block ?_)
    refine rb rfl rfl rfl rfl (a_alloc rfl) ?_; intro b10 k10 hb10 hN10 hle10 hk10
    refine rw1 (vs := y.vs) rfl rfl rfl rfl rfl rfl rfl hk10 rfl (.inl hN10) ?_ ?_
    · simp [Rule.vs, Value.oneCell']
    intro k11 ht11 hk11
    have hle11 : Le k9 k11 := ht11 k9 hle10 hb10
    have hrow11 := hrow9.le hle11
    have hle12 := hle9.trans hle11
    have chere := chere0.le hle12
    have cy := cells_at (vs := y.vs) hk11 rfl
    repeat (first | refine cg_seq ?_ | refine cg_region ?_ | refine rg_nil ?_ | refine eg_then ?_ | refine qsg ?_)
    refine rs rfl rfl (loc_call_is rfl rfl rfl rfl (ruleAhead_ct here y)) ?_
    repeat (first | refine rg_nil ?_ | refine eg_then ?_)
    cases q : decide (ordRule here y < 0)
    · repeat (first | refine cg_region ?_ | refine rg_nil ?_ | refine eg_then ?_ | refine qsp ?_ | refine qsa ?_ | refine cg_cond_false rfl ?_ | refine cg_skip ?_ | refine eg_in_normal ?_)
      refine eg_again (i + 1) _ ⟨v9, hle12, hap9, ?_, hlt, rfl⟩ (by omega) ⟨rfl, rfl, rfl, rfl, rfl, rfl, rfl, trivial⟩
      rw [hfs, if_neg (by simp [q]), List.append_nil]; exact hrow11
    · have cy := cells_at (vs := y.vs) hk11 rfl
      repeat (first | refine cg_region ?_ | refine qsp ?_ | refine qsg ?_ | refine cg_cond_true rfl ?_)
      refine rb rfl rfl rfl rfl (a_slice (cells := y.vs) rfl rfl rfl rfl (by kernel_rfl) rfl) ?_; intro b13 k13 hb13 hN13 hle13 hk13
      refine rap rfl rfl rfl rfl rfl rfl rfl (hrow11.le hle13) (cells_at (vs := y.vs) hk13 rfl) rfl ?_ rfl rfl (by unfold maxLen; omega) (by omega) ?_
      · simp [Rule.vs, Value.oneCell']
      intro v14 k14 hrow14 ht14
      obtain ⟨hle14, hap14⟩ := ht14 kb (hle12.trans hle13) hap9
      repeat (first | refine cg_region ?_ | refine rg_nil ?_ | refine eg_then ?_ | refine qsp ?_ | refine qsa ?_ | refine eg_in_normal ?_)
      refine eg_again (i + 1) _ ⟨v14, hle14, hap14, ?_, hlt, rfl⟩ (by omega) ⟨rfl, rfl, rfl, rfl, rfl, rfl, rfl, trivial⟩
      rw [hfs, if_pos (by simp [q]), ← List.append_assoc, List.length_append, List.flatMap_append]
      simpa using hrow14
  have hil : i = x.rules.length := by simp at h; omega
  rw [hil, List.take_length] at hrow9
  clear h hi hil
  have hput := put_ref ordL_rule r4 here (decide (s.a > 0))
  rw [hA, hB] at hput
  have hown : Own tRule F.w0.heap.size k9 74 v9 (putInL ordRule x.rules here (decide (s.a > 0))) := by
    rw [← hput]
    refine hrow9.ownL (f := Rule.vs) fun z hz => ⟨rfl, ?_⟩
    have hin : ∀ z ∈ x.rules, z.ok := fun z hz => by
      obtain ⟨cs, h⟩ := sl_ok H.cf.r hz
      exact h.2
    rcases List.mem_append.1 hz with h | h
    · rw [← hB, ← hA] at h
      rcases List.mem_append.1 h with h | h
      · exact hin z (List.mem_filter.1 h).1
      · split at h
        · simp at h; rw [h]; exact hereok
        · cases h
    · exact hin z (List.mem_filter.1 h).1
  obtain ⟨an, cn, rfl, _⟩ := hown.sl
  have H9 := H.le hle9
  repeat (first | refine cg_seq ?_ | refine cg_region ?_ | refine eg_then ?_ | refine qsp ?_ | refine qsf ?_ | refine cg_exit ?_ | refine eg_then_exit ?_ | refine eg_in_exit ?_)
  refine rw0 rfl rfl rfl rfl rfl rfl rfl rfl H9.at' ?_ (.inr hmu) ?_
  · show 2 < 5
    omega
  intro k15 ht15 hk15
  repeat (first | refine cg_seq ?_ | refine cg_region ?_ | refine rg_nil ?_ | refine eg_then ?_ | refine qsp ?_ | refine cg_ret ?_)
  exact eg_return rfl rfl (postO hact2 (H9.setR (hown.N_le hN0) ht15 rfl hk15))
end Go.Wm

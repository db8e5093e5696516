/-
  A rate, a way put in its place, the document's. Conditions: that what is handed in reads as data.
-/
import Derived.Test.YtgalkgidjpbiaaaGreatR8
set_option linter.all false
namespace Go.Wm
open Go.RowKit Go.Proofs
attribute [local irreducible] RG CG EG WA Loc Det Alc CT Exit.then Exit.inBlock Code.wp bodyPost
set_option maxHeartbeats 8000000 in
theorem refRate_ctm {N : Nat} {k : PH} {b : Nat} {x : Conf} {a0 : Option Addr} {c0 : Nat} {a1 : Option Addr} {c1 : Nat} {a2 : Option Addr} {c2 : Nat} {a3 : Option Addr} {c3 : Nat} {s : Step} (H : OwnC N k b x a0 c0 a1 c1 a2 c2 a3 c3) (hf : x.few) (hr : confP x = true) (hok : s.ok) (hs : formS s = true) (hkind : s.kind = 6) :
    CTMN Tryz.prog 194 #[.pointer (some ⟨b, 0, none⟩), .agg s.vs.toArray] k N (fun g => g = b) (PostC N b (actC x s)) := by
  refine ctmn_of_body (l := [_, _]) Tryz.func194 rfl Tryz.ntmps194 (by simp) fun F hF0 hFm hN0 hlt0 => ?_
  have hmu : F.mu b := by rw [hFm]
  obtain ⟨r1, r2, r3, r4, r5, r6⟩ := conf_parts hr
  obtain ⟨h0a, h0b⟩ := form_rate hs hkind
  have hfew := hf.2.2.1
  have hact : actC x s = if (decide (s.a = 0) != decide (s.b = 0) || (decide (s.a > 1048576) || decide (s.b > 1048576))) = true then .error 192 else .ok { x with rates := putInL ordRate x.rates ⟨s.name, s.a, s.b⟩ (decide (s.a > 0)) } := by
    unfold actC; simp [hkind]
  obtain ⟨here, hhere⟩ : ∃ t : Rate, t = ⟨s.name, s.a, s.b⟩ := ⟨_, rfl⟩
  have hereok : here.ok := by rw [hhere]; exact ⟨hok.2.1, hok.2.2.2.1, hok.2.2.2.2.1⟩
  rw [← hhere] at hact
  repeat (first | refine cg_seq ?_ | refine cg_region ?_)
  refine rb rfl rfl rfl rfl (a_box rfl rfl) ?_; intro b3 kb hb3 hN3 hle3 hk3
  have H := H.le hle3
  have cs := cells_at (vs := s.vs) hk3 rfl
  obtain ⟨s0, s1, s2, s3, s4, s5⟩ := Step.parts cs
  obtain ⟨p0, p1, p2, p3, p4⟩ := Conf.parts H.cells
  repeat (first | refine cg_seq ?_ | refine cg_region ?_ | refine rg_nil ?_ | refine eg_then ?_ | refine qsp ?_ | refine qsl ?_ | refine qsf ?_)
  refine rs rfl rfl (loc_det rfl (d_neb rfl rfl rfl)) ?_
  have ebb : (!((s.a == 0) == (s.b == 0))) = (decide (s.a = 0) != decide (s.b = 0)) := rfl
  rw [ebb]
  repeat (first | refine qsp ?_)
  cases q1 : (decide (s.a = 0) != decide (s.b = 0))
  rotate_left
  · repeat (first | refine cg_seq ?_ | refine cg_region ?_ | refine rg_nil ?_ | refine eg_then ?_ | refine qsp ?_ | refine qso ?_ | refine cg_cond_true rfl ?_ | refine cg_ret ?_ | refine eg_then_ret ?_)
    exact eg_return rfl rfl (postE (by rw [hact, q1]; rfl))
  repeat (first | refine qsp ?_ | refine qsl ?_ | refine qsf ?_)
  cases q2 : decide (s.a > 1048576)
  rotate_left
  · repeat (first | refine cg_seq ?_ | refine cg_region ?_ | refine rg_nil ?_ | refine eg_then ?_ | refine qsp ?_ | refine qso ?_ | refine cg_cond_true rfl ?_ | refine cg_ret ?_ | refine eg_then_ret ?_)
    exact eg_return rfl rfl (postE (by rw [hact, q1, q2]; rfl))
  repeat (first | refine rg_nil ?_ | refine eg_then ?_ | refine qsp ?_ | refine qsl ?_ | refine qsf ?_)
  cases q3 : decide (s.b > 1048576)
  rotate_left
  · repeat (first | refine cg_seq ?_ | refine cg_region ?_ | refine rg_nil ?_ | refine eg_then ?_ | refine qsp ?_ | refine cg_cond_true rfl ?_ | refine cg_ret ?_ | refine eg_then_ret ?_)
    exact eg_return rfl rfl (postE (by rw [hact, q1, q2, q3]; rfl))
  have hact2 : actC x s = .ok { x with rates := putInL ordRate x.rates here (decide (s.a > 0)) } := by rw [hact, q1, q2, q3]; rfl
  repeat (first | refine cg_seq ?_ | refine cg_region ?_ | refine rg_nil ?_ | refine eg_then ?_ | refine qsp ?_ | refine qsn ?_ | refine qsl ?_ | refine qsf ?_ | refine cg_cond_false rfl ?_ | refine cg_skip ?_ | refine cg_block ?_)
  refine cg_loop (fun (i : Nat) e k' => ∃ v, Le kb k' ∧ Apart kb v ∧ Row F.w0.heap.size k' 76 3 v ((x.rates.take i).filter (fun y => decide (ordRate y here < 0))).length (((x.rates.take i).filter (fun y => decide (ordRate y here < 0))).flatMap Rate.vs) ∧ i ≤ x.rates.length ∧ e = [(0, .is (.pointer (some ⟨b, 0, none⟩))), (3, .is (.pointer (some ⟨b3, 0, none⟩))), (5, .is v), (30, .is (.slice a2 x.rates.length c2)), (31, .is (.int .i64 (x.rates.length : Int))), (32, .is (.int .i64 (i : Int)))])
    (fun i => x.rates.length - i) 0 ⟨.slice none 0 0, ?_, ?_, by simpa using row_nil F.w0.heap.size kb 76 3, Nat.zero_le _, rfl⟩ ⟨rfl, rfl, rfl, rfl, rfl, rfl, trivial⟩ ?_
  · exact Le.refl _
  · exact apart_nil _ _ _
  rintro i e k9 ⟨v9, hle9, hap9, hrow9, hi, rfl⟩
  repeat (first | refine cg_seq ?_ | refine cg_region ?_ | refine rg_nil ?_ | refine eg_then ?_ | refine qsp ?_)
  refine cg_cond rfl (fun h => ?_) (fun h => ?_)
  · have hlt : i < x.rates.length := by simpa using h
    have hfs := filter_succ (fun y => decide (ordRate y here < 0)) hlt
    obtain ⟨y, hy⟩ : ∃ y, x.rates[i] = y := ⟨_, rfl⟩
    rw [hy] at hfs
    obtain ⟨bx, ox, cx, ea, ⟨ecx, hyok⟩, hcx⟩ := (H.cf.q.le hle9).el i y (by rw [List.getElem?_eq_getElem hlt, hy])
    subst ecx
    subst ea
    have hm : ((x.rates.take i).filter (fun y => decide (ordRate y here < 0))).length ≤ 2000001 := by
      have := List.length_filter_le (fun y => decide (ordRate y here < 0)) (x.rates.take i); have := List.length_take_le i x.rates; omega
    repeat (first | refine cg_seq ?_ | refine cg_region ?_ | refine eg_then ?_ | refine qsi ?_ | refine qsg ?_ | refine cg_skip ?_ | refine cg_block ?_)
    refine rb rfl rfl rfl rfl (a_alloc rfl) ?_; intro b10 k10 hb10 hN10 hle10 hk10
    refine rw1 (vs := y.vs) rfl rfl rfl rfl rfl rfl rfl hk10 rfl (.inl hN10) ?_ ?_
    · simp [Rate.vs, Value.oneCell']
    intro k11 ht11 hk11
    have hle11 : Le k9 k11 := ht11 k9 hle10 hb10
    have hrow11 := hrow9.le hle11
    have hle12 := hle9.trans hle11
    obtain ⟨s0, s1, s2, s3, s4, s5⟩ := Step.parts (cs.le hle12)
    obtain ⟨y0, y1, y2⟩ := Rate.parts (cells_at (vs := y.vs) hk11 rfl)
    repeat (first | refine cg_seq ?_ | refine cg_region ?_ | refine rg_nil ?_ | refine eg_then ?_ | refine qsp ?_ | refine qsl ?_ | refine qsf ?_)
    rw [str_less]
    cases q : decide (cmpStr y.who s.name < 0)
    · repeat (first | refine cg_region ?_ | refine rg_nil ?_ | refine eg_then ?_ | refine qsp ?_ | refine qsa ?_ | refine cg_cond_false rfl ?_ | refine cg_skip ?_ | refine eg_in_normal ?_)
      refine eg_again (i + 1) _ ⟨v9, hle12, hap9, ?_, hlt, rfl⟩ (by omega) ⟨rfl, rfl, rfl, rfl, rfl, rfl, trivial⟩
      rw [hfs, if_neg (by show ¬ decide (cmpStr y.who here.who < 0) = true; rw [hhere]; simp [q]), List.append_nil]; exact hrow11
    · have cy := cells_at (vs := y.vs) hk11 rfl
      repeat (first | refine cg_region ?_ | refine qsp ?_ | refine qsg ?_ | refine cg_cond_true rfl ?_)
      refine rb rfl rfl rfl rfl (a_slice (cells := y.vs) rfl rfl rfl rfl (by kernel_rfl) rfl) ?_; intro b13 k13 hb13 hN13 hle13 hk13
      refine rap rfl rfl rfl rfl rfl rfl rfl (hrow11.le hle13) (cells_at (vs := y.vs) hk13 rfl) rfl ?_ rfl rfl (by unfold maxLen; omega) (by omega) ?_
      · simp [Rate.vs, Value.oneCell']
      intro v14 k14 hrow14 ht14
      obtain ⟨hle14, hap14⟩ := ht14 kb (hle12.trans hle13) hap9
      repeat (first | refine cg_region ?_ | refine rg_nil ?_ | refine eg_then ?_ | refine qsp ?_ | refine qsa ?_ | refine eg_in_normal ?_)
      refine eg_again (i + 1) _ ⟨v14, hle14, hap14, ?_, hlt, rfl⟩ (by omega) ⟨rfl, rfl, rfl, rfl, rfl, rfl, trivial⟩
      rw [hfs, if_pos (by show decide (cmpStr y.who here.who < 0) = true; rw [hhere]; simp [q]), List.length_append, List.flatMap_append]
      simpa using hrow14
  have hil : i = x.rates.length := by simp at h; omega
  rw [hil, List.take_length] at hrow9
  clear h hi hil
  obtain ⟨A, hA⟩ : ∃ A, x.rates.filter (fun y => decide (ordRate y here < 0)) = A := ⟨_, rfl⟩
  have hAl : A.length ≤ 1000000 := by rw [← hA]; exact Nat.le_trans (List.length_filter_le _ _) hfew
  rw [hA] at hrow9
  obtain ⟨s0, s1, s2, s3, s4, s5⟩ := Step.parts (cs.le hle9)
  repeat (first | refine cg_seq ?_ | refine cg_region ?_ | refine rg_nil ?_ | refine eg_then ?_ | refine qsp ?_ | refine qsl ?_ | refine qsf ?_ | refine cg_exit ?_ | refine eg_then_exit ?_ | refine eg_in_exit ?_)
  refine cg_join (fun e k' => ∃ v, Le kb k' ∧ Apart kb v ∧ Row F.w0.heap.size k' 76 3 v (A ++ (if (decide (s.a > 0)) = true then [here] else [])).length ((A ++ (if (decide (s.a > 0)) = true then [here] else [])).flatMap Rate.vs) ∧ e = [(0, .is (.pointer (some ⟨b, 0, none⟩))), (3, .is (.pointer (some ⟨b3, 0, none⟩))), (5, .is v)]) ?_ ?_
  · cases hth : (s.a != 0)
    · have hth' : (decide (s.a > 0)) = false := by (have : s.a = 0 := by simpa using hth); simp [this]
      repeat (first | refine cg_cond_false rfl ?_ | refine cg_skip ?_)
      refine eg_join _ ⟨v9, hle9, hap9, ?_, rfl⟩ ⟨rfl, rfl, rfl, trivial⟩
      rw [hth', if_neg (by simp), List.append_nil]; exact hrow9
    · have hth' : (decide (s.a > 0)) = true := by (have : ¬ s.a = 0 := by simpa using hth); (have := h0a); simp; omega
      repeat (first | refine cg_region ?_ | refine qsp ?_ | refine qsl ?_ | refine qsf ?_ | refine cg_cond_true rfl ?_)
      refine rs rfl rfl (loc_det rfl (d_lit (cells := here.vs) rfl rfl (by rw [hhere]; rfl))) ?_
      refine rb rfl rfl rfl rfl (a_slice (cells := here.vs) rfl rfl rfl rfl (by kernel_rfl) rfl) ?_; intro b13 k13 hb13 hN13 hle13 hk13
      refine rap rfl rfl rfl rfl rfl rfl rfl (hrow9.le hle13) (cells_at (vs := here.vs) hk13 rfl) rfl ?_ rfl rfl (by unfold maxLen; omega) (by omega) ?_
      · simp [Rate.vs, Value.oneCell']
      intro v14 k14 hrow14 ht14
      obtain ⟨hle14, hap14⟩ := ht14 kb (hle9.trans hle13) hap9
      repeat (first | refine rg_nil ?_ | refine qsp ?_)
      refine eg_join _ ⟨v14, hle14, hap14, ?_, rfl⟩ ⟨rfl, rfl, rfl, trivial⟩
      rw [hth', if_pos rfl, List.length_append, List.flatMap_append]
      simpa using hrow14
  rintro e k8 ⟨v8, hle8, hap8, hrow8, rfl⟩
  obtain ⟨B, hB⟩ : ∃ B, A ++ (if (decide (s.a > 0)) = true then [here] else []) = B := ⟨_, rfl⟩
  have hBl : B.length ≤ 1000001 := by
    rw [← hB, List.length_append]
    split <;> simp <;> omega
  rw [hB] at hrow8
  obtain ⟨p0, p1, p2, p3, p4⟩ := Conf.parts (H.le hle8).cells
  repeat (first | refine cg_seq ?_ | refine cg_region ?_ | refine rg_nil ?_ | refine eg_then ?_ | refine qsp ?_ | refine qsn ?_ | refine qsl ?_ | refine qsf ?_ | refine cg_block ?_)
  refine cg_loop (fun (i : Nat) e k' => ∃ v, Le kb k' ∧ Apart kb v ∧ Row F.w0.heap.size k' 76 3 v (B ++ (x.rates.take i).filter (fun y => decide (ordRate here y < 0))).length ((B ++ (x.rates.take i).filter (fun y => decide (ordRate here y < 0))).flatMap Rate.vs) ∧ i ≤ x.rates.length ∧ e = [(0, .is (.pointer (some ⟨b, 0, none⟩))), (3, .is (.pointer (some ⟨b3, 0, none⟩))), (5, .is v), (62, .is (.slice a2 x.rates.length c2)), (63, .is (.int .i64 (x.rates.length : Int))), (64, .is (.int .i64 (i : Int)))])
    (fun i => x.rates.length - i) 0 ⟨v8, ?_, ?_, by simpa using hrow8, Nat.zero_le _, rfl⟩ ⟨rfl, rfl, rfl, rfl, rfl, rfl, trivial⟩ ?_
  · exact hle8
  · exact hap8
  rintro i e k9 ⟨v9, hle9, hap9, hrow9, hi, rfl⟩
  repeat (first | refine cg_seq ?_ | refine cg_region ?_ | refine rg_nil ?_ | refine eg_then ?_ | refine qsp ?_)
  refine cg_cond rfl (fun h => ?_) (fun h => ?_)
  · have hlt : i < x.rates.length := by simpa using h
    have hfs := filter_succ (fun y => decide (ordRate here y < 0)) hlt
    obtain ⟨y, hy⟩ : ∃ y, x.rates[i] = y := ⟨_, rfl⟩
    rw [hy] at hfs
    obtain ⟨bx, ox, cx, ea, ⟨ecx, hyok⟩, hcx⟩ := (H.cf.q.le hle9).el i y (by rw [List.getElem?_eq_getElem hlt, hy])
    subst ecx
    subst ea
    have hm : (B ++ (x.rates.take i).filter (fun y => decide (ordRate here y < 0))).length ≤ 2000001 := by
      rw [List.length_append]; have := List.length_filter_le (fun y => decide (ordRate here y < 0)) (x.rates.take i); have := List.length_take_le i x.rates; omega
    repeat (first | refine cg_seq ?_ | refine cg_region ?_ | refine eg_then ?_ | refine qsi ?_ | refine qsg ?_ | refine cg_skip ?_ | refine cg_block ?_)
    refine rb rfl rfl rfl rfl (a_alloc rfl) ?_; intro b10 k10 hb10 hN10 hle10 hk10
    refine rw1 (vs := y.vs) rfl rfl rfl rfl rfl rfl rfl hk10 rfl (.inl hN10) ?_ ?_
    · simp [Rate.vs, Value.oneCell']
    intro k11 ht11 hk11
    have hle11 : Le k9 k11 := ht11 k9 hle10 hb10
    have hrow11 := hrow9.le hle11
    have hle12 := hle9.trans hle11
    obtain ⟨s0, s1, s2, s3, s4, s5⟩ := Step.parts (cs.le hle12)
    obtain ⟨y0, y1, y2⟩ := Rate.parts (cells_at (vs := y.vs) hk11 rfl)
    repeat (first | refine cg_seq ?_ | refine cg_region ?_ | refine rg_nil ?_ | refine eg_then ?_ | refine qsp ?_ | refine qsl ?_ | refine qsf ?_)
    have hgt : (!(decide (y.who.data.toList < s.name.data.toList) || decide (y.who = s.name))) = decide (cmpStr s.name y.who < 0) := gt_less _ _
    rw [hgt]
    cases q : decide (cmpStr s.name y.who < 0)
    · repeat (first | refine cg_region ?_ | refine rg_nil ?_ | refine eg_then ?_ | refine qsp ?_ | refine qsa ?_ | refine cg_cond_false rfl ?_ | refine cg_skip ?_ | refine eg_in_normal ?_)
      refine eg_again (i + 1) _ ⟨v9, hle12, hap9, ?_, hlt, rfl⟩ (by omega) ⟨rfl, rfl, rfl, rfl, rfl, rfl, trivial⟩
      rw [hfs, if_neg (by show ¬ decide (cmpStr here.who y.who < 0) = true; rw [hhere]; simp [q]), List.append_nil]; exact hrow11
    · have cy := cells_at (vs := y.vs) hk11 rfl
      repeat (first | refine cg_region ?_ | refine qsp ?_ | refine qsg ?_ | refine cg_cond_true rfl ?_)
      refine rb rfl rfl rfl rfl (a_slice (cells := y.vs) rfl rfl rfl rfl (by kernel_rfl) rfl) ?_; intro b13 k13 hb13 hN13 hle13 hk13
      refine rap rfl rfl rfl rfl rfl rfl rfl (hrow11.le hle13) (cells_at (vs := y.vs) hk13 rfl) rfl ?_ rfl rfl (by unfold maxLen; omega) (by omega) ?_
      · simp [Rate.vs, Value.oneCell']
      intro v14 k14 hrow14 ht14
      obtain ⟨hle14, hap14⟩ := ht14 kb (hle12.trans hle13) hap9
      repeat (first | refine cg_region ?_ | refine rg_nil ?_ | refine eg_then ?_ | refine qsp ?_ | refine qsa ?_ | refine eg_in_normal ?_)
      refine eg_again (i + 1) _ ⟨v14, hle14, hap14, ?_, hlt, rfl⟩ (by omega) ⟨rfl, rfl, rfl, rfl, rfl, rfl, trivial⟩
      rw [hfs, if_pos (by show decide (cmpStr here.who y.who < 0) = true; rw [hhere]; simp [q]), ← List.append_assoc, List.length_append, List.flatMap_append]
      simpa using hrow14
  have hil : i = x.rates.length := by simp at h; omega
  rw [hil, List.take_length] at hrow9
  clear h hi hil
  have hput := put_ref ordL_rate r5 here (decide (s.a > 0))
  rw [hA, hB] at hput
  have hown : Own tRate F.w0.heap.size k9 76 v9 (putInL ordRate x.rates here (decide (s.a > 0))) := by
    rw [← hput]
    refine hrow9.ownL (f := Rate.vs) fun z hz => ⟨rfl, ?_⟩
    have hin : ∀ z ∈ x.rates, z.ok := fun z hz => by
      obtain ⟨cs, h⟩ := sl_ok H.cf.q hz
      exact h.2
    rcases List.mem_append.1 hz with h | h
    · rw [← hB, ← hA] at h
      rcases List.mem_append.1 h with h | h
      · exact hin z (List.mem_filter.1 h).1
      · split at h
        · simp at h; rw [h]; exact hereok
        · cases h
    · exact hin z (List.mem_filter.1 h).1
  obtain ⟨an, cn, rfl, _⟩ := hown.sl
  have H9 := H.le hle9
  repeat (first | refine cg_seq ?_ | refine cg_region ?_ | refine eg_then ?_ | refine qsp ?_ | refine qsf ?_ | refine cg_exit ?_ | refine eg_then_exit ?_ | refine eg_in_exit ?_)
  refine rw0 rfl rfl rfl rfl rfl rfl rfl rfl H9.at' ?_ (.inr hmu) ?_
  · show 3 < 5
    omega
  intro k15 ht15 hk15
  repeat (first | refine cg_seq ?_ | refine cg_region ?_ | refine rg_nil ?_ | refine eg_then ?_ | refine qsp ?_ | refine cg_ret ?_)
  exact eg_return rfl rfl (postO hact2 (H9.setQ (hown.N_le hN0) ht15 rfl hk15))
set_option maxHeartbeats 8000000 in
theorem refWay_ctm {N : Nat} {k : PH} {b : Nat} {x : Conf} {a0 : Option Addr} {c0 : Nat} {a1 : Option Addr} {c1 : Nat} {a2 : Option Addr} {c2 : Nat} {a3 : Option Addr} {c3 : Nat} {s : Step} (H : OwnC N k b x a0 c0 a1 c1 a2 c2 a3 c3) (hf : x.few) (hr : confP x = true) (hok : s.ok) (hs : formS s = true) (hkind : s.kind = 7 ∨ s.kind = 8) :
    CTMN Tryz.prog 195 #[.pointer (some ⟨b, 0, none⟩), .agg s.vs.toArray] k N (fun g => g = b) (PostC N b (actC x s)) := by
  refine ctmn_of_body (l := [_, _]) Tryz.func195 rfl Tryz.ntmps195 (by simp) fun F hF0 hFm hN0 hlt0 => ?_
  have hmu : F.mu b := by rw [hFm]
  obtain ⟨r1, r2, r3, r4, r5, r6⟩ := conf_parts hr
  have hfew := hf.2.2.2
  repeat (first | refine cg_seq ?_ | refine cg_region ?_)
  refine rb rfl rfl rfl rfl (a_box rfl rfl) ?_; intro b3 k3 hb3 hN3 hle3 hk3
  have H := H.le hle3
  have cs := cells_at (vs := s.vs) hk3 rfl
  obtain ⟨s0, s1, s2, s3, s4, s5⟩ := Step.parts cs
  have cc := H.cells
  repeat (first | refine cg_seq ?_ | refine rg_nil ?_ | refine eg_then ?_ | refine qsp ?_)
  refine cg_any (by kernel_rfl) rfl ?_
  repeat (first | refine qwp ?_ | refine qwl ?_ | refine qwg ?_ | refine qwf ?_)
  refine ws rfl (loc_call_is rfl rfl rfl rfl (refTopic_ct a1 c1 a2 c2 a3 c3 H.cf.t s.topic)) ?_
  repeat (first | refine qwp ?_ | (refine wn rfl ?_; refine eg_then ?_))
  cases q1 : knownC x s.topic
  · rw [topF_no q1]
    skip
    repeat (first | refine cg_seq ?_ | refine cg_region ?_ | refine rg_nil ?_ | refine eg_then ?_ | refine qsp ?_ | refine cg_cond_true rfl ?_ | refine cg_ret ?_ | refine eg_then_ret ?_)
    refine eg_return rfl rfl (postE ?_)
    unfold actC
    rw [if_neg (by omega), if_neg (by omega), if_neg (by omega), if_neg (by omega), if_neg (by omega), if_neg (by omega), if_neg (by rw [q1]; simp)]
  have hact := act_way hkind q1
  obtain ⟨here, hhere⟩ : ∃ t : Way, t = ⟨s.a, s.b, s.topic⟩ := ⟨_, rfl⟩
  have hereok : here.ok := by rw [hhere]; exact ⟨hok.2.2.2.1, hok.2.2.2.2.1, hok.2.2.1⟩
  rw [← hhere] at hact
  rw [topF_at r3 q1]
  rw [show decide ((posF (fun t : Topic => cmpStr t.name s.topic) x.topics : Int) < 0) = false by simp]
  skip
  repeat (first | refine cg_seq ?_ | refine cg_region ?_ | refine eg_then ?_ | refine qsl ?_ | refine qsf ?_ | refine cg_cond_false rfl ?_ | refine cg_skip ?_)
  refine rs rfl rfl (loc_det rfl (d_lit (cells := here.vs) rfl rfl (by rw [hhere]; rfl))) ?_
  refine rb rfl rfl rfl rfl (a_alloc rfl) ?_; intro b5 k5 hb5 hN5 hle5 hk5
  refine rw1 (vs := here.vs) rfl rfl rfl rfl rfl rfl rfl hk5 rfl (.inl hN5) ?_ ?_
  · simp [Way.vs, Value.oneCell']
  intro kb htb hkb
  have hleb : Le k3 kb := htb k3 hle5 hb5
  have H := H.le hleb
  have cs := cs.le hleb
  have chere0 := cells_at (vs := here.vs) hkb rfl
  have cc := H.cells
  have hg := refGoesIn_ct a0 c0 a1 c1 a2 c2 H.cf.w here
  repeat (first | refine cg_seq ?_ | refine rg_nil ?_ | refine eg_then ?_)
  refine cg_any (by kernel_rfl) rfl ?_
  repeat (first | refine qwp ?_ | refine qwg ?_)
  refine ws rfl (loc_call_is rfl rfl rfl rfl (hg)) ?_
  repeat (first | refine qwp ?_ | (refine wn rfl ?_; refine eg_then ?_))
  repeat (first | refine cg_seq ?_ | refine cg_region ?_ | refine qsf ?_)
  obtain ⟨s0, s1, s2, s3, s4, s5⟩ := Step.parts cs
  obtain ⟨p0, p1, p2, p3, p4⟩ := Conf.parts H.cells
  obtain ⟨gs, hgs⟩ : ∃ gs, goesC x here = gs := ⟨_, rfl⟩
  rw [hgs] at hact ⊢
  apply meet [(0, .is (.pointer (some ⟨b, 0, none⟩))), (3, .is (.pointer (some ⟨b3, 0, none⟩))), (5, .is (.pointer (some ⟨b5, 0, none⟩))), (7, .is (.slice none 0 0)), (66, .is (.slice a3 x.ways.length c3)), (67, .is (.int .i64 (x.ways.length : Int))), (68, .is (.int .i64 0))] (actC x s = .ok { x with ways := putInL ordWay x.ways here (decide (s.kind = 7)) })
  · intro go
    repeat (first | refine qsp ?_ | refine qsl ?_)
    rcases hkind with hk7 | hk8
    · rw [show (s.kind == 7) = true by simp [hk7]]
      rw [decide_eq_true hk7] at hact
      repeat (first | refine qsp ?_ | refine qsl ?_ | refine qsf ?_)
      cases e1 : (s.a == s.b)
      rotate_left
      · repeat (first | refine cg_seq ?_ | refine cg_region ?_ | refine rg_nil ?_ | refine eg_then ?_ | refine qsp ?_ | refine qso ?_ | refine cg_cond_true rfl ?_ | refine cg_ret ?_ | refine eg_then_ret ?_)
        exact eg_return rfl rfl (postE (by rw [hact, show decide (s.a = s.b) = true from e1]; simp))
      repeat (first | refine qsp ?_ | refine qsl ?_ | refine qsf ?_)
      cases e2 : decide (s.a > 3)
      rotate_left
      · repeat (first | refine cg_seq ?_ | refine cg_region ?_ | refine rg_nil ?_ | refine eg_then ?_ | refine qsp ?_ | refine qso ?_ | refine cg_cond_true rfl ?_ | refine cg_ret ?_ | refine eg_then_ret ?_)
        exact eg_return rfl rfl (postE (by rw [hact, e2]; simp))
      repeat (first | refine qsp ?_ | refine qsl ?_ | refine qsf ?_)
      cases e3 : decide (s.b > 3)
      rotate_left
      · repeat (first | refine cg_seq ?_ | refine cg_region ?_ | refine rg_nil ?_ | refine eg_then ?_ | refine qsp ?_ | refine qso ?_ | refine cg_cond_true rfl ?_ | refine cg_ret ?_ | refine eg_then_ret ?_)
        exact eg_return rfl rfl (postE (by rw [hact, e3]; simp))
      repeat (first | refine qsp ?_)
      cases gs
      rotate_left
      · repeat (first | refine cg_seq ?_ | refine cg_region ?_ | refine rg_nil ?_ | refine eg_then ?_ | refine qsp ?_ | refine qso ?_ | refine cg_cond_true rfl ?_ | refine cg_ret ?_ | refine eg_then_ret ?_)
        exact eg_return rfl rfl (postE (by rw [hact]; simp))
      rw [show decide (s.a = s.b) = false from e1, e2, e3] at hact
      repeat (first | refine qsp ?_ | refine qsl ?_ | refine qsf ?_)
      rw [show (s.kind == 8) = false by simp [hk7]]
      repeat (first | refine cg_seq ?_ | refine cg_region ?_ | refine rg_nil ?_ | refine eg_then ?_ | refine qsp ?_ | refine qsn ?_ | refine qsl ?_ | refine qsf ?_ | refine qso ?_ | refine cg_cond_false rfl ?_ | refine cg_skip ?_ | refine cg_block ?_)
      exact go _ (by rw [hact, if_neg (by simp), decide_eq_true hk7]) ⟨rfl, rfl, rfl, rfl, rfl, rfl, rfl, trivial⟩
    · rw [show (s.kind == 7) = false by simp [hk8]]
      rw [show decide (s.kind = 7) = false by simp [hk8]] at hact
      repeat (first | refine qsp ?_ | refine qsl ?_ | refine qsf ?_ | refine qso ?_)
      rw [show (s.kind == 8) = true by simp [hk8]]
      repeat (first | refine rg_nil ?_ | refine eg_then ?_ | refine qsp ?_)
      cases gs
      · repeat (first | refine cg_seq ?_ | refine cg_region ?_ | refine rg_nil ?_ | refine eg_then ?_ | refine qsp ?_ | refine cg_cond_true rfl ?_ | refine cg_ret ?_ | refine eg_then_ret ?_)
        exact eg_return rfl rfl (postE (by rw [hact]; rfl))
      · repeat (first | refine cg_seq ?_ | refine cg_region ?_ | refine rg_nil ?_ | refine eg_then ?_ | refine qsp ?_ | refine qsn ?_ | refine qsl ?_ | refine qsf ?_ | refine cg_cond_false rfl ?_ | refine cg_skip ?_ | refine cg_block ?_)
        exact go _ (by rw [hact, if_neg (by simp), show decide (s.kind = 7) = false by simp [hk8]]) ⟨rfl, rfl, rfl, rfl, rfl, rfl, rfl, trivial⟩
  intro hact2
  refine cg_loop (fun (i : Nat) e k' => ∃ v, Le kb k' ∧ Apart kb v ∧ Row F.w0.heap.size k' 78 3 v ((x.ways.take i).filter (fun y => decide (ordWay y here < 0))).length (((x.ways.take i).filter (fun y => decide (ordWay y here < 0))).flatMap Way.vs) ∧ i ≤ x.ways.length ∧ e = [(0, .is (.pointer (some ⟨b, 0, none⟩))), (3, .is (.pointer (some ⟨b3, 0, none⟩))), (5, .is (.pointer (some ⟨b5, 0, none⟩))), (7, .is v), (66, .is (.slice a3 x.ways.length c3)), (67, .is (.int .i64 (x.ways.length : Int))), (68, .is (.int .i64 (i : Int)))])
    (fun i => x.ways.length - i) 0 ⟨.slice none 0 0, ?_, ?_, by simpa using row_nil F.w0.heap.size kb 78 3, Nat.zero_le _, rfl⟩ ⟨rfl, rfl, rfl, rfl, rfl, rfl, rfl, trivial⟩ ?_
  · exact Le.refl _
  · exact apart_nil _ _ _
  rintro i e k9 ⟨v9, hle9, hap9, hrow9, hi, rfl⟩
  repeat (first | refine cg_seq ?_ | refine cg_region ?_ | refine rg_nil ?_ | refine eg_then ?_ | refine qsp ?_)
  refine cg_cond rfl (fun h => ?_) (fun h => ?_)
  · have hlt : i < x.ways.length := by simpa using h
    have hfs := filter_succ (fun y => decide (ordWay y here < 0)) hlt
    obtain ⟨y, hy⟩ : ∃ y, x.ways[i] = y := ⟨_, rfl⟩
    rw [hy] at hfs
    obtain ⟨bx, ox, cx, ea, ⟨ecx, hyok⟩, hcx⟩ := (H.cf.w.le hle9).el i y (by rw [List.getElem?_eq_getElem hlt, hy])
    subst ecx
    subst ea
    have hm : ((x.ways.take i).filter (fun y => decide (ordWay y here < 0))).length ≤ 2000001 := by
      have := List.length_filter_le (fun y => decide (ordWay y here < 0)) (x.ways.take i); have := List.length_take_le i x.ways; omega
    repeat (first | refine cg_seq ?_ | refine cg_region ?_ | refine eg_then ?_ | refine qsi ?_ | refine qsg ?_ | refine cg_skip ?_ | refine cg_block ?_)
    refine rb rfl rfl rfl rfl (a_alloc rfl) ?_; intro b10 k10 hb10 hN10 hle10 hk10
    refine rw1 (vs := y.vs) rfl rfl rfl rfl rfl rfl rfl hk10 rfl (.inl hN10) ?_ ?_
    · simp [Way.vs, Value.oneCell']
    intro k11 ht11 hk11
    have hle11 : Le k9 k11 := ht11 k9 hle10 hb10
    have hrow11 := hrow9.le hle11
    have hle12 := hle9.trans hle11
    have chere := chere0.le hle12
    have cy := cells_at (vs := y.vs) hk11 rfl
    repeat (first | refine cg_seq ?_ | refine cg_region ?_ | refine rg_nil ?_ | refine eg_then ?_ | refine qsg ?_)
    refine rs rfl rfl (loc_call_is rfl rfl rfl rfl (wayAhead_ct y here)) ?_
    repeat (first | refine rg_nil ?_ | refine eg_then ?_)
    cases q : decide (ordWay y here < 0)
    · repeat (first | refine cg_region ?_ | refine rg_nil ?_ | refine eg_then ?_ | refine qsp ?_ | refine qsa ?_ | refine cg_cond_false rfl ?_ | refine cg_skip ?_ | refine eg_in_normal ?_)
      refine eg_again (i + 1) _ ⟨v9, hle12, hap9, ?_, hlt, rfl⟩ (by omega) ⟨rfl, rfl, rfl, rfl, rfl, rfl, rfl, trivial⟩
      rw [hfs, if_neg (by simp [q]), List.append_nil]; exact hrow11
    · have cy := cells_at (vs := y.vs) hk11 rfl
      repeat (first | refine cg_region ?_ | refine qsp ?_ | refine qsg ?_ | refine cg_cond_true rfl ?_)
      refine rb rfl rfl rfl rfl (a_slice (cells := y.vs) rfl rfl rfl rfl (by kernel_rfl) rfl) ?_; intro b13 k13 hb13 hN13 hle13 hk13
      refine rap rfl rfl rfl rfl rfl rfl rfl (hrow11.le hle13) (cells_at (vs := y.vs) hk13 rfl) rfl ?_ rfl rfl (by unfold maxLen; omega) (by omega) ?_
      · simp [Way.vs, Value.oneCell']
      intro v14 k14 hrow14 ht14
      obtain ⟨hle14, hap14⟩ := ht14 kb (hle12.trans hle13) hap9
      repeat (first | refine cg_region ?_ | refine rg_nil ?_ | refine eg_then ?_ | refine qsp ?_ | refine qsa ?_ | refine eg_in_normal ?_)
      refine eg_again (i + 1) _ ⟨v14, hle14, hap14, ?_, hlt, rfl⟩ (by omega) ⟨rfl, rfl, rfl, rfl, rfl, rfl, rfl, trivial⟩
      rw [hfs, if_pos (by simp [q]), List.length_append, List.flatMap_append]
      simpa using hrow14
  have hil : i = x.ways.length := by simp at h; omega
  rw [hil, List.take_length] at hrow9
  clear h hi hil
  obtain ⟨A, hA⟩ : ∃ A, x.ways.filter (fun y => decide (ordWay y here < 0)) = A := ⟨_, rfl⟩
  have hAl : A.length ≤ 1000000 := by rw [← hA]; exact Nat.le_trans (List.length_filter_le _ _) hfew
  rw [hA] at hrow9
  obtain ⟨s0, s1, s2, s3, s4, s5⟩ := Step.parts (cs.le hle9)
  have chere9 := chere0.le hle9
  repeat (first | refine cg_seq ?_ | refine cg_region ?_ | refine rg_nil ?_ | refine eg_then ?_ | refine qsp ?_ | refine qsl ?_ | refine qsf ?_ | refine cg_exit ?_ | refine eg_then_exit ?_ | refine eg_in_exit ?_)
  refine cg_join (fun e k' => ∃ v, Le kb k' ∧ Apart kb v ∧ Row F.w0.heap.size k' 78 3 v (A ++ (if (decide (s.kind = 7)) = true then [here] else [])).length ((A ++ (if (decide (s.kind = 7)) = true then [here] else [])).flatMap Way.vs) ∧ e = [(0, .is (.pointer (some ⟨b, 0, none⟩))), (3, .is (.pointer (some ⟨b3, 0, none⟩))), (5, .is (.pointer (some ⟨b5, 0, none⟩))), (7, .is v)]) ?_ ?_
  · cases hth : (s.kind == 7)
    · have hth' : (decide (s.kind = 7)) = false := by simpa using hth
      repeat (first | refine cg_cond_false rfl ?_ | refine cg_skip ?_)
      refine eg_join _ ⟨v9, hle9, hap9, ?_, rfl⟩ ⟨rfl, rfl, rfl, rfl, trivial⟩
      rw [hth', if_neg (by simp), List.append_nil]; exact hrow9
    · have hth' : (decide (s.kind = 7)) = true := by simpa using hth
      repeat (first | refine cg_region ?_ | refine qsp ?_ | refine qsg ?_ | refine cg_cond_true rfl ?_)
      skip
      refine rb rfl rfl rfl rfl (a_slice (cells := here.vs) rfl rfl rfl rfl (by kernel_rfl) rfl) ?_; intro b13 k13 hb13 hN13 hle13 hk13
      refine rap rfl rfl rfl rfl rfl rfl rfl (hrow9.le hle13) (cells_at (vs := here.vs) hk13 rfl) rfl ?_ rfl rfl (by unfold maxLen; omega) (by omega) ?_
      · simp [Way.vs, Value.oneCell']
      intro v14 k14 hrow14 ht14
      obtain ⟨hle14, hap14⟩ := ht14 kb (hle9.trans hle13) hap9
      repeat (first | refine rg_nil ?_ | refine qsp ?_)
      refine eg_join _ ⟨v14, hle14, hap14, ?_, rfl⟩ ⟨rfl, rfl, rfl, rfl, trivial⟩
      rw [hth', if_pos rfl, List.length_append, List.flatMap_append]
      simpa using hrow14
  rintro e k8 ⟨v8, hle8, hap8, hrow8, rfl⟩
  obtain ⟨B, hB⟩ : ∃ B, A ++ (if (decide (s.kind = 7)) = true then [here] else []) = B := ⟨_, rfl⟩
  have hBl : B.length ≤ 1000001 := by
    rw [← hB, List.length_append]
    split <;> simp <;> omega
  rw [hB] at hrow8
  obtain ⟨p0, p1, p2, p3, p4⟩ := Conf.parts (H.le hle8).cells
  repeat (first | refine cg_seq ?_ | refine cg_region ?_ | refine rg_nil ?_ | refine eg_then ?_ | refine qsp ?_ | refine qsn ?_ | refine qsl ?_ | refine qsf ?_ | refine cg_block ?_)
  refine cg_loop (fun (i : Nat) e k' => ∃ v, Le kb k' ∧ Apart kb v ∧ Row F.w0.heap.size k' 78 3 v (B ++ (x.ways.take i).filter (fun y => decide (ordWay here y < 0))).length ((B ++ (x.ways.take i).filter (fun y => decide (ordWay here y < 0))).flatMap Way.vs) ∧ i ≤ x.ways.length ∧ e = [(0, .is (.pointer (some ⟨b, 0, none⟩))), (3, .is (.pointer (some ⟨b3, 0, none⟩))), (5, .is (.pointer (some ⟨b5, 0, none⟩))), (7, .is v), (90, .is (.slice a3 x.ways.length c3)), (91, .is (.int .i64 (x.ways.length : Int))), (92, .is (.int .i64 (i : Int)))])
    (fun i => x.ways.length - i) 0 ⟨v8, ?_, ?_, by simpa using hrow8, Nat.zero_le _, rfl⟩ ⟨rfl, rfl, rfl, rfl, rfl, rfl, rfl, trivial⟩ ?_
  · exact hle8
  · exact hap8
  rintro i e k9 ⟨v9, hle9, hap9, hrow9, hi, rfl⟩
  repeat (first | refine cg_seq ?_ | refine cg_region ?_ | refine rg_nil ?_ | refine eg_then ?_ | refine qsp ?_)
  refine cg_cond rfl (fun h => ?_) (fun h => ?_)
  · have hlt : i < x.ways.length := by simpa using h
    have hfs := filter_succ (fun y => decide (ordWay here y < 0)) hlt
    obtain ⟨y, hy⟩ : ∃ y, x.ways[i] = y := ⟨_, rfl⟩
    rw [hy] at hfs
    obtain ⟨bx, ox, cx, ea, ⟨ecx, hyok⟩, hcx⟩ := (H.cf.w.le hle9).el i y (by rw [List.getElem?_eq_getElem hlt, hy])
    subst ecx
    subst ea
    have hm : (B ++ (x.ways.take i).filter (fun y => decide (ordWay here y < 0))).length ≤ 2000001 := by
      rw [List.length_append]; have := List.length_filter_le (fun y => decide (ordWay here y < 0)) (x.ways.take i); have := List.length_take_le i x.ways; omega
    repeat (first | refine cg_seq ?_ | refine cg_region ?_ | refine eg_then ?_ | refine qsi ?_ | refine qsg ?_ | refine cg_skip ?_ | refine cg_block ?_)
    refine rb rfl rfl rfl rfl (a_alloc rfl) ?_; intro b10 k10 hb10 hN10 hle10 hk10
    refine rw1 (vs := y.vs) rfl rfl rfl rfl rfl rfl rfl hk10 rfl (.inl hN10) ?_ ?_
    · simp [Way.vs, Value.oneCell']
    intro k11 ht11 hk11
    have hle11 : Le k9 k11 := ht11 k9 hle10 hb10
    have hrow11 := hrow9.le hle11
    have hle12 := hle9.trans hle11
    have chere := chere0.le hle12
    have cy := cells_at (vs := y.vs) hk11 rfl
    repeat (first | refine cg_seq ?_ | refine cg_region ?_ | refine rg_nil ?_ | refine eg_then ?_ | refine qsg ?_)
    refine rs rfl rfl (loc_call_is rfl rfl rfl rfl (wayAhead_ct here y)) ?_
    repeat (first | refine rg_nil ?_ | refine eg_then ?_)
    cases q : decide (ordWay here y < 0)
    · repeat (first | refine cg_region ?_ | refine rg_nil ?_ | refine eg_then ?_ | refine qsp ?_ | refine qsa ?_ | refine cg_cond_false rfl ?_ | refine cg_skip ?_ | refine eg_in_normal ?_)
      refine eg_again (i + 1) _ ⟨v9, hle12, hap9, ?_, hlt, rfl⟩ (by omega) ⟨rfl, rfl, rfl, rfl, rfl, rfl, rfl, trivial⟩
      rw [hfs, if_neg (by simp [q]), List.append_nil]; exact hrow11
    · have cy := cells_at (vs := y.vs) hk11 rfl
      repeat (first | refine cg_region ?_ | refine qsp ?_ | refine qsg ?_ | refine cg_cond_true rfl ?_)
      refine rb rfl rfl rfl rfl (a_slice (cells := y.vs) rfl rfl rfl rfl (by kernel_rfl) rfl) ?_; intro b13 k13 hb13 hN13 hle13 hk13
      refine rap rfl rfl rfl rfl rfl rfl rfl (hrow11.le hle13) (cells_at (vs := y.vs) hk13 rfl) rfl ?_ rfl rfl (by unfold maxLen; omega) (by omega) ?_
      · simp [Way.vs, Value.oneCell']
      intro v14 k14 hrow14 ht14
      obtain ⟨hle14, hap14⟩ := ht14 kb (hle12.trans hle13) hap9
      repeat (first | refine cg_region ?_ | refine rg_nil ?_ | refine eg_then ?_ | refine qsp ?_ | refine qsa ?_ | refine eg_in_normal ?_)
      refine eg_again (i + 1) _ ⟨v14, hle14, hap14, ?_, hlt, rfl⟩ (by omega) ⟨rfl, rfl, rfl, rfl, rfl, rfl, rfl, trivial⟩
      rw [hfs, if_pos (by simp [q]), ← List.append_assoc, List.length_append, List.flatMap_append]
      simpa using hrow14
  have hil : i = x.ways.length := by simp at h; omega
  rw [hil, List.take_length] at hrow9
  clear h hi hil
  have hput := put_ref ordL_way r6 here (decide (s.kind = 7))
  rw [hA, hB] at hput
  have hown : Own tWay F.w0.heap.size k9 78 v9 (putInL ordWay x.ways here (decide (s.kind = 7))) := by
    rw [← hput]
    refine hrow9.ownL (f := Way.vs) fun z hz => ⟨rfl, ?_⟩
    have hin : ∀ z ∈ x.ways, z.ok := fun z hz => by
      obtain ⟨cs, h⟩ := sl_ok H.cf.w hz
      exact h.2
    rcases List.mem_append.1 hz with h | h
    · rw [← hB, ← hA] at h
      rcases List.mem_append.1 h with h | h
      · exact hin z (List.mem_filter.1 h).1
      · split at h
        · simp at h; rw [h]; exact hereok
        · cases h
    · exact hin z (List.mem_filter.1 h).1
  obtain ⟨an, cn, rfl, _⟩ := hown.sl
  have H9 := H.le hle9
  repeat (first | refine cg_seq ?_ | refine cg_region ?_ | refine eg_then ?_ | refine qsp ?_ | refine qsf ?_ | refine cg_exit ?_ | refine eg_then_exit ?_ | refine eg_in_exit ?_)
  refine rw0 rfl rfl rfl rfl rfl rfl rfl rfl H9.at' ?_ (.inr hmu) ?_
  · show 4 < 5
    omega
  intro k15 ht15 hk15
  repeat (first | refine cg_seq ?_ | refine cg_region ?_ | refine rg_nil ?_ | refine eg_then ?_ | refine qsp ?_ | refine cg_ret ?_)
  exact eg_return rfl rfl (postO hact2 (H9.setW (hown.N_le hN0) ht15 rfl hk15))
end Go.Wm

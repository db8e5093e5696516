/-
  ConfDrops, walked. Conditions: that what is handed in reads as data.
-/
import Derived.Test.YteimghjhiiffjaaP3
set_option linter.all false
namespace Go.Wm
open Go.RowKit Go.Proofs
attribute [local irreducible] RG CG EG WA Loc Det Alc CT Exit.then Exit.inBlock Code.wp bodyPost
set_option maxHeartbeats 8000000 in
theorem confDrops_walk {k : PH} {cs : List Value} {x : Conf} {name : ByteArray} {fr tt : Int} (hx : tConf.rep k cs x) (_ : x.small) (hn : name.size ≤ maxLen) (_ : I64 fr) (_ : I64 tt) : CT Try.prog 6 #[.agg cs.toArray, .string name, .int .i64 fr, .int .i64 tt] k (fun _ v => v = .bool true) := by
  obtain ⟨a0, c0, a1, c1, a2, c2, a3, c3, rfl, ⟨s0, s1, s2, s3⟩, hok⟩ := hx
  have H : CfAt k x a0 c0 a1 c1 a2 c2 a3 c3 := ⟨s0, s1, s2, s3⟩
  refine ct_of_body (l := [_, _, _, _]) Try.func6 rfl Try.ntmps6 (by simp) (fun _ _ _ _ h => h) fun F hF0 hFm => ?_
  repeat (first | refine cg_seq ?_ | refine cg_region ?_)
  refine rb rfl rfl rfl rfl (a_box rfl rfl) ?_; intro b4 k4 hb4 hN4 hle4 hk4
  have H := H.le hle4
  have cc := cells_at (vs := x.cs a0 c0 a1 c1 a2 c2 a3 c3) hk4 rfl
  repeat (first | refine cg_seq ?_ | refine cg_region ?_ | refine rg_nil ?_ | refine eg_then ?_ | refine qsp ?_)
  refine rs rfl rfl (loc_call_is rfl rfl rfl rfl (live_ct)) ?_
  repeat (first | refine cg_seq ?_ | refine cg_region ?_ | refine rg_nil ?_ | refine eg_then ?_ | refine qsp ?_ | refine qsg ?_ | refine cg_cond_false rfl ?_ | refine cg_skip ?_)
  refine rs rfl rfl (loc_call_is rfl rfl rfl rfl (few_ct a0 c0 a1 c1 a2 c2 a3 c3)) ?_
  cases q0 : fewC x
  · repeat (first | refine cg_seq ?_ | refine cg_region ?_ | refine rg_nil ?_ | refine eg_then ?_ | refine qsp ?_ | refine cg_cond_true rfl ?_ | refine cg_ret ?_ | refine eg_then_ret ?_)
    exact eg_return rfl rfl rfl
  have hu := few_upto q0
  have hu0 := hu.1; have hu1 := hu.2.1; have hu2 := hu.2.2.1; have hu3 := hu.2.2.2
  have hfew := upto_few hu (by decide)
  repeat (first | refine cg_seq ?_ | refine cg_region ?_ | refine rg_nil ?_ | refine eg_then ?_ | refine qsp ?_ | refine qsg ?_ | refine cg_cond_false rfl ?_ | refine cg_skip ?_)
  refine rs rfl rfl (loc_det rfl (d_lit (cells := (dropS name).vs) rfl rfl rfl)) ?_
  refine rvn rfl rfl rfl rfl rfl rfl rfl (do_ctn (s := dropS name) H hfew (dropS_ok hn)) ?_
  rintro N5 k5 v5 hN5 hnew5 hle5 ⟨e0, f0, e1, f1, e2, f2, e3, f3, rfl, HO⟩
  repeat (first | refine qsp ?_)
  refine rb rfl rfl rfl rfl (a_alloc rfl) ?_; intro b6 k6 hb6 hN6 hle6 hk6
  have hyes := @drop_yes x name
  have hno := @drop_no x name
  have hsz := do_upto (s := dropS name) hu
  obtain ⟨y, hy⟩ : ∃ y, (doC x (dropS name)).1 = y := ⟨_, rfl⟩
  obtain ⟨e, he⟩ : ∃ e, (doC x (dropS name)).2 = e := ⟨_, rfl⟩
  rw [hy] at HO hsz hyes
  rw [he] at hyes hno
  rw [hy, he]
  have hyu0 := hsz.1
  refine rw1 (vs := y.cs e0 f0 e1 f1 e2 f2 e3 f3) rfl rfl rfl rfl rfl rfl rfl hk6 rfl (.inl hN6) ?_ ?_
  · simp [Conf.cs, Value.oneCell']
  intro k7 ht7 hk7
  have hle7 : Le k5 k7 := ht7 k5 hle6 hb6
  have G := (HO.le hle7).cf
  have H := H.le (hle5.trans hle7)
  have cc := cc.le (hle5.trans hle7)
  have cy := cells_at (vs := y.cs e0 f0 e1 f1 e2 f2 e3 f3) hk7 rfl
  repeat (first | refine cg_seq ?_ | refine cg_region ?_ | refine rg_nil ?_ | refine eg_then ?_ | refine qsp ?_)
  cases q1 : (e != 0)
  rotate_left
  · have hno := hno (by simpa using q1)
    repeat (first | refine cg_seq ?_ | refine cg_region ?_ | refine qsp ?_ | refine qsg ?_ | refine cg_cond_true rfl ?_)
    refine rs rfl rfl (loc_call_is rfl rfl rfl rfl (topic_ct H hfew.1 name)) ?_
    repeat (first | refine qsp ?_)
    refine rb rfl rfl rfl rfl (a_alloc rfl) ?_; intro b8 k8 hb8 hN8 hle8 hk8
    refine rw1 (vs := (topQ x name).1.vs) rfl rfl rfl rfl rfl rfl rfl hk8 rfl (.inl hN8) ?_ ?_
    · simp [Topic.vs, Value.oneCell']
    intro k9 ht9 hk9
    have hle9 : Le k7 k9 := ht9 k7 hle8 hb8
    obtain ⟨z0, z1, z2, z3, z4⟩ := Conf.parts (cc.le hle9)
    repeat (first | refine cg_seq ?_ | refine cg_region ?_ | refine rg_nil ?_ | refine eg_then ?_ | refine qsp ?_)
    cases q2 : (topQ x name).2
    · repeat (first | refine rg_nil ?_ | refine eg_then ?_ | refine qsp ?_ | refine qso ?_ | refine cg_ret ?_ | refine eg_then_ret ?_)
      exact eg_return rfl rfl rfl
    have hv : x.ver = 1099511627776 := hno.resolve_left (by rw [q2]; simp)
    repeat (first | refine rg_nil ?_ | refine eg_then ?_ | refine qsp ?_ | refine qsl ?_ | refine qsf ?_ | refine cg_ret ?_ | refine eg_then_ret ?_)
    rw [show (x.ver == 1099511627776) = true by simp [hv]]
    skip
    exact eg_return rfl rfl rfl
  obtain ⟨y', e', y1, y2, y3, y4, y5, y6⟩ := hyes (by simpa using q1)
  subst e'
  have gt := topic_ct G (upto_few hsz (by decide)).1 name
  repeat (first | refine cg_seq ?_ | refine cg_region ?_ | refine eg_then ?_ | refine qsp ?_ | refine qsg ?_ | refine cg_cond_false rfl ?_ | refine cg_skip ?_)
  refine rs rfl rfl (loc_call_is rfl rfl rfl rfl (gt)) ?_
  rw [y1]
  repeat (first | refine qsp ?_)
  refine rb rfl rfl rfl rfl (a_alloc rfl) ?_; intro b8 k8 hb8 hN8 hle8 hk8
  refine rw1 (vs := (topQ y name).1.vs) rfl rfl rfl rfl rfl rfl rfl hk8 rfl (.inl hN8) ?_ ?_
  · simp [Topic.vs, Value.oneCell']
  intro k9 ht9 hk9
  have hle9 : Le k7 k9 := ht9 k7 hle8 hb8
  have H := H.le hle9
  have G := G.le hle9
  have cy := cy.le hle9
  have gg := goes_ct G ⟨fr, tt, name⟩
  rw [y2] at gg
  repeat (first | refine cg_seq ?_ | refine cg_region ?_ | refine rg_nil ?_ | refine eg_then ?_ | refine qsp ?_ | refine qsg ?_)
  refine rs rfl rfl (loc_call_is rfl rfl rfl rfl (gg)) ?_
  obtain ⟨z0, z1, z2, z3, z4⟩ := Conf.parts (cc.le hle9)
  obtain ⟨w0, w1, w2, w3, w4⟩ := Conf.parts cy
  repeat (first | refine qsp ?_ | refine qsn ?_ | refine qss ?_ | refine qsl ?_ | refine qsf ?_)
  rw [show ((y.topics.length : Int) != (x.topics.length : Int) - 1) = false by simp; omega]
  repeat (first | refine rg_nil ?_ | refine eg_then ?_ | refine qsp ?_ | refine qsn ?_ | refine qsl ?_ | refine qsf ?_)
  rw [show ((y.rates.length : Int) != (x.rates.length : Int)) = false by simp [y4]]
  repeat (first | refine cg_seq ?_ | refine cg_region ?_ | refine rg_nil ?_ | refine eg_then ?_ | refine qsp ?_ | refine qsn ?_ | refine qsl ?_ | refine qsf ?_ | refine cg_cond_false rfl ?_ | refine cg_skip ?_ | refine cg_block ?_)
  refine cg_loop (fun (i : Nat) e k' => i ≤ x.ways.length ∧ Le k9 k' ∧ e = [(1, .is (.string name)), (4, .is (.pointer (some ⟨b4, 0, none⟩))), (9, .is (.pointer (some ⟨b6, 0, none⟩))), (15, .is (.int .i64 (((x.ways.take i).filter fun w => !decide (w.topic = name)).length : Int))), (16, .is (.int .i64 0)), (82, .is (.slice a3 x.ways.length c3)), (83, .is (.int .i64 (x.ways.length : Int))), (84, .is (.int .i64 (i : Int)))])
    (fun i => x.ways.length - i) 0 ⟨Nat.zero_le _, Le.refl _, rfl⟩ ⟨rfl, rfl, rfl, rfl, rfl, rfl, rfl, rfl, trivial⟩ ?_
  rintro i e k10 ⟨hi, hle10, rfl⟩
  repeat (first | refine cg_seq ?_ | refine cg_region ?_ | refine rg_nil ?_ | refine eg_then ?_ | refine qsp ?_)
  refine cg_cond rfl (fun h => ?_) (fun h => ?_)
  · have hlt : i < x.ways.length := by simpa using h
    have hs := filter_take (fun w : Way => !decide (w.topic = name)) hlt
    obtain ⟨g, hg⟩ : ∃ g, ((x.ways.take i).filter fun w => !decide (w.topic = name)).length = g := ⟨_, rfl⟩
    have hgl : g ≤ 60 := by rw [← hg]; exact Nat.le_trans (List.length_filter_le _ _) (Nat.le_trans (List.length_take_le _ _) (by omega))
    obtain ⟨bx, ox, cx, ea, ⟨ecx, _⟩, hcx⟩ := (H.w.le hle10).el i x.ways[i] (List.getElem?_eq_getElem hlt)
    subst ecx
    rw [ea]
    rw [hg] at hs ⊢
    repeat (first | refine cg_seq ?_ | refine cg_region ?_ | refine eg_then ?_ | refine qsi ?_ | refine qsg ?_ | refine cg_skip ?_ | refine cg_block ?_)
    refine rb rfl rfl rfl rfl (a_alloc rfl) ?_; intro b11 k11 hb11 hN11 hle11 hk11
    refine rw1 (vs := x.ways[i].vs) rfl rfl rfl rfl rfl rfl rfl hk11 rfl (.inl hN11) ?_ ?_
    · simp [Way.vs, Value.oneCell']
    intro k12 ht12 hk12
    have hle12 : Le k10 k12 := ht12 k10 hle11 hb11
    obtain ⟨v0, v1, v2⟩ := Way.parts (cells_at (vs := x.ways[i].vs) hk12 rfl)
    repeat (first | refine cg_seq ?_ | refine cg_region ?_ | refine rg_nil ?_ | refine eg_then ?_ | refine qsp ?_ | refine qsl ?_ | refine qsf ?_)
    cases q3 : (!decide (x.ways[i].topic = name))
    · rw [if_neg (by simpa using q3)] at hs
      repeat (first | refine cg_region ?_ | refine rg_nil ?_ | refine eg_then ?_ | refine qsp ?_ | refine qsa ?_ | refine cg_cond_false rfl ?_ | refine cg_skip ?_ | refine eg_in_normal ?_)
      refine eg_again (i + 1) _ ⟨hlt, hle10.trans hle12, rfl⟩ (by omega) ⟨rfl, rfl, rfl, ?_, rfl, ?_, rfl, rfl, trivial⟩
      · rw [hs]; rfl
      · rfl
    · rw [if_pos (by simpa using q3)] at hs
      repeat (first | refine cg_region ?_ | refine rg_nil ?_ | refine eg_then ?_ | refine qsp ?_ | refine qsa ?_ | refine cg_cond_true rfl ?_ | refine eg_in_normal ?_)
      refine eg_again (i + 1) _ ⟨hlt, hle10.trans hle12, rfl⟩ (by omega) ⟨rfl, rfl, rfl, ?_, rfl, ?_, rfl, rfl, trivial⟩
      · rw [hs]; rfl
      · rfl
  have hil : i = x.ways.length := by simp at h; omega
  rw [hil, List.take_length, ← y5]
  clear h hil hi
  have H := H.le hle10
  obtain ⟨z0, z1, z2, z3, z4⟩ := Conf.parts (cc.le (hle9.trans hle10))
  repeat (first | refine cg_seq ?_ | refine cg_region ?_ | refine rg_nil ?_ | refine eg_then ?_ | refine qsp ?_ | refine qsn ?_ | refine qsl ?_ | refine qsf ?_ | refine cg_block ?_ | refine cg_exit ?_ | refine eg_then_exit ?_ | refine eg_in_exit ?_)
  refine cg_loop (fun (i : Nat) e k' => i ≤ x.rules.length ∧ Le k10 k' ∧ e = [(1, .is (.string name)), (9, .is (.pointer (some ⟨b6, 0, none⟩))), (15, .is (.int .i64 (y.ways.length : Int))), (16, .is (.int .i64 (((x.rules.take i).filter fun w => !decide (w.topic = name)).length : Int))), (96, .is (.slice a1 x.rules.length c1)), (97, .is (.int .i64 (x.rules.length : Int))), (98, .is (.int .i64 (i : Int)))])
    (fun i => x.rules.length - i) 0 ⟨Nat.zero_le _, Le.refl _, rfl⟩ ⟨rfl, rfl, rfl, rfl, rfl, rfl, rfl, trivial⟩ ?_
  rintro i e k13 ⟨hi, hle13, rfl⟩
  repeat (first | refine cg_seq ?_ | refine cg_region ?_ | refine rg_nil ?_ | refine eg_then ?_ | refine qsp ?_)
  refine cg_cond rfl (fun h => ?_) (fun h => ?_)
  · have hlt : i < x.rules.length := by simpa using h
    have hs := filter_take (fun w : Rule => !decide (w.topic = name)) hlt
    obtain ⟨g, hg⟩ : ∃ g, ((x.rules.take i).filter fun w => !decide (w.topic = name)).length = g := ⟨_, rfl⟩
    have hgl : g ≤ 60 := by rw [← hg]; exact Nat.le_trans (List.length_filter_le _ _) (Nat.le_trans (List.length_take_le _ _) (by omega))
    obtain ⟨bx, ox, cx, ea, ⟨ecx, _⟩, hcx⟩ := (H.r.le hle13).el i x.rules[i] (List.getElem?_eq_getElem hlt)
    subst ecx
    rw [ea]
    rw [hg] at hs ⊢
    repeat (first | refine cg_seq ?_ | refine cg_region ?_ | refine eg_then ?_ | refine qsi ?_ | refine qsg ?_ | refine cg_skip ?_ | refine cg_block ?_)
    refine rb rfl rfl rfl rfl (a_alloc rfl) ?_; intro b14 k14 hb14 hN14 hle14 hk14
    refine rw1 (vs := x.rules[i].vs) rfl rfl rfl rfl rfl rfl rfl hk14 rfl (.inl hN14) ?_ ?_
    · simp [Rule.vs, Value.oneCell']
    intro k15 ht15 hk15
    have hle15 : Le k13 k15 := ht15 k13 hle14 hb14
    obtain ⟨v0, v1, v2⟩ := Rule.parts (cells_at (vs := x.rules[i].vs) hk15 rfl)
    repeat (first | refine cg_seq ?_ | refine cg_region ?_ | refine rg_nil ?_ | refine eg_then ?_ | refine qsp ?_ | refine qsl ?_ | refine qsf ?_)
    cases q3 : (!decide (x.rules[i].topic = name))
    · rw [if_neg (by simpa using q3)] at hs
      repeat (first | refine cg_region ?_ | refine rg_nil ?_ | refine eg_then ?_ | refine qsp ?_ | refine qsa ?_ | refine cg_cond_false rfl ?_ | refine cg_skip ?_ | refine eg_in_normal ?_)
      refine eg_again (i + 1) _ ⟨hlt, hle13.trans hle15, rfl⟩ (by omega) ⟨rfl, rfl, rfl, ?_, ?_, rfl, rfl, trivial⟩
      · rw [hs]; rfl
      · rfl
    · rw [if_pos (by simpa using q3)] at hs
      repeat (first | refine cg_region ?_ | refine rg_nil ?_ | refine eg_then ?_ | refine qsp ?_ | refine qsa ?_ | refine cg_cond_true rfl ?_ | refine eg_in_normal ?_)
      refine eg_again (i + 1) _ ⟨hlt, hle13.trans hle15, rfl⟩ (by omega) ⟨rfl, rfl, rfl, ?_, ?_, rfl, rfl, trivial⟩
      · rw [hs]; rfl
      · rfl
  have hil : i = x.rules.length := by simp at h; omega
  rw [hil, List.take_length, ← y6]
  obtain ⟨w0, w1, w2, w3, w4⟩ := Conf.parts (cy.le (hle10.trans hle13))
  repeat (first | refine cg_seq ?_ | refine cg_region ?_ | refine eg_then ?_ | refine qsp ?_ | refine qsn ?_ | refine qsl ?_ | refine qsf ?_ | refine cg_exit ?_ | refine eg_then_exit ?_ | refine eg_in_exit ?_)
  rw [show ((y.ways.length : Int) == (y.ways.length : Int)) = true by simp]
  repeat (first | refine rg_nil ?_ | refine eg_then ?_ | refine qsp ?_ | refine qsn ?_ | refine qsl ?_ | refine qsf ?_ | refine cg_ret ?_)
  rw [show ((y.rules.length : Int) == (y.rules.length : Int)) = true by simp]
  skip
  exact eg_return rfl rfl rfl
end Go.Wm

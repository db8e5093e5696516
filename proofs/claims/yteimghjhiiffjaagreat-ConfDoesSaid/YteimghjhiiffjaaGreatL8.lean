/-
  ConfDoes, walked. Conditions: that what is handed in reads as data.
-/
import Derived.Test.YteimghjhiiffjaaGreatL6
import Derived.Test.YteimghjhiiffjaaGreatR7
set_option linter.all false
namespace Go.Wm
open Go.RowKit Go.Proofs
attribute [local irreducible] RG CG EG WA Loc Det Alc CT Exit.then Exit.inBlock Code.wp bodyPost
theorem do_err {x : Conf} {s : Step} (h : (doC x s).2 ≠ 0) : (doC x s).1 = noConf := by
  unfold doC at h ⊢
  by_cases h1 : (!confP x || !formS s) = true
  · rw [if_pos h1]
  · rw [if_neg h1] at h ⊢
    by_cases h2 : x.ver = 1099511627776
    · rw [if_pos h2]
    · rw [if_neg h2] at h ⊢
      cases e : actC { x with ver := x.ver + 1 } s with
      | error z => rfl
      | ok z => rw [e] at h; exact absurd rfl h
theorem do_parts (x : Conf) (s : Step) : (∀ j, (h : j < (doC x s).1.topics.length) → 1 ≤ ((doC x s).1.topics[j]).partsV ∧ ((doC x s).1.topics[j]).partsV ≤ 6) ∧ (∀ j, (h : j < (doC x s).1.rules.length) → 1 ≤ ((doC x s).1.rules[j]).may ∧ ((doC x s).1.rules[j]).may ≤ 7) := by
  by_cases h : (doC x s).2 = 0
  · obtain ⟨hc, _⟩ := do_right h
    obtain ⟨r1, r2, r3, r4, r5, r6⟩ := conf_parts hc
    refine ⟨fun j hj => ?_, fun j hj => ?_⟩
    · have := (r3 j hj).1
      simp only [topicP, inI, Bool.and_eq_true, decide_eq_true_eq] at this
      exact this.2.1
    · have := (r4 j hj).1
      simp only [ruleP, inI, Bool.and_eq_true, decide_eq_true_eq] at this
      exact this.2.2
  · have e := do_err h
    refine ⟨fun j hj => ?_, fun j hj => ?_⟩
    · have hj' := hj
      rw [e] at hj'; exact absurd hj' (Nat.not_lt_zero _)
    · have hj' := hj
      rw [e] at hj'; exact absurd hj' (Nat.not_lt_zero _)
section
variable {N : Nat} {k k' : PH} {g : Nat} {x : Conf} {a0 : Option Addr} {c0 : Nat} {a1 : Option Addr} {c1 : Nat} {a2 : Option Addr} {c2 : Nat} {a3 : Option Addr} {c3 : Nat} {c : Array Value}
theorem OwnL.putT {l : List Topic} (H : OwnL N k x a0 c0 a1 c1 a2 c2 a3 c3) (ht : Turn1 k k' g) (hg : k g = some (.cells c 39 (0, 0))) (ho : Own tTopic N k' 39 (.slice a0 l.length c0) l) : OwnL N k' { x with topics := l } a0 c0 a1 c1 a2 c2 a3 c3 :=
  ⟨ho, H.r.turn ht hg (by decide) (fun _ _ _ _ h => h), H.q.turn ht hg (by decide) (fun _ _ _ _ h => h), H.w.turn ht hg (by decide) (fun _ _ _ _ h => h)⟩
theorem OwnL.putR {l : List Rule} (H : OwnL N k x a0 c0 a1 c1 a2 c2 a3 c3) (ht : Turn1 k k' g) (hg : k g = some (.cells c 41 (0, 0))) (ho : Own tRule N k' 41 (.slice a1 l.length c1) l) : OwnL N k' { x with rules := l } a0 c0 a1 c1 a2 c2 a3 c3 :=
  ⟨H.t.turn ht hg (by decide) (fun _ _ _ _ h => h), ho, H.q.turn ht hg (by decide) (fun _ _ _ _ h => h), H.w.turn ht hg (by decide) (fun _ _ _ _ h => h)⟩
end
set_option maxHeartbeats 8000000 in
theorem confDoes_walk {k : PH} {cs ss : List Value} {x : Conf} {s : Step} (hx : tConf.rep k cs x) (_ : x.small) (hs : tStep.rep k ss s) {B : Prop} (_ : B) :
    CT Tryz.prog 3 #[.agg cs.toArray, .agg ss.toArray] k (fun _ v => v = .bool true) := by
  obtain ⟨a0, c0, a1, c1, a2, c2, a3, c3, rfl, ⟨s0, s1, s2, s3⟩, hok⟩ := hx
  obtain ⟨rfl, hsok⟩ := hs
  have H : CfAt k x a0 c0 a1 c1 a2 c2 a3 c3 := ⟨s0, s1, s2, s3⟩
  refine ct_of_body (l := [_, _]) Tryz.func3 rfl Tryz.ntmps3 (by simp) (fun _ _ _ _ h => h) fun F hF0 hFm => ?_
  repeat (first | refine cg_seq ?_ | refine cg_region ?_)
  refine rb rfl rfl rfl rfl (a_box rfl rfl) ?_; intro b2 k2 hb2 hN2 hle2 hk2
  refine rb rfl rfl rfl rfl (a_box rfl rfl) ?_; intro b3 k3 hb3 hN3 hle3 hk3
  have H := H.le (hle2.trans hle3)
  have cs := cells_at (vs := s.vs) hk3 rfl
  have cc := (cells_at (vs := x.cs a0 c0 a1 c1 a2 c2 a3 c3) hk2 rfl).le hle3
  repeat (first | refine cg_seq ?_ | refine cg_region ?_ | refine rg_nil ?_ | refine eg_then ?_ | refine qsp ?_)
  refine rs rfl rfl (loc_call_is rfl rfl rfl rfl (live_ct)) ?_
  repeat (first | refine cg_seq ?_ | refine cg_region ?_ | refine rg_nil ?_ | refine eg_then ?_ | refine qsp ?_ | refine qsg ?_ | refine cg_cond_false rfl ?_ | refine cg_skip ?_)
  refine rs rfl rfl (loc_call_is rfl rfl rfl rfl (few_ct a0 c0 a1 c1 a2 c2 a3 c3)) ?_
  cases q0 : fewC x
  · repeat (first | refine cg_seq ?_ | refine cg_region ?_ | refine rg_nil ?_ | refine eg_then ?_ | refine qsp ?_ | refine cg_cond_true rfl ?_ | refine cg_ret ?_ | refine eg_then_ret ?_)
    exact eg_return rfl rfl rfl
  have hf := upto_few (few_upto q0) (by decide)
  repeat (first | refine cg_seq ?_ | refine cg_region ?_ | refine rg_nil ?_ | refine eg_then ?_ | refine qsp ?_ | refine qsg ?_ | refine cg_cond_false rfl ?_ | refine cg_skip ?_)
  refine rvn rfl rfl rfl rfl rfl rfl rfl (refCopy_ctn H hf) ?_
  rintro N4 k4 v4 hN4 hnew4 hle4 ⟨g0, h0, g1, h1, g2, h2, g3, h3, rfl, HW⟩
  skip
  refine rb rfl rfl rfl rfl (a_alloc rfl) ?_; intro b5 k5 hb5 hN5 hle5 hk5
  refine rw1 (vs := x.cs g0 h0 g1 h1 g2 h2 g3 h3) rfl rfl rfl rfl rfl rfl rfl hk5 rfl (.inl hN5) ?_ ?_
  · simp [Conf.cs, Value.oneCell']
  intro k6 ht6 hk6
  have hle6 : Le k4 k6 := ht6 k4 hle5 hb5
  have H := H.le (hle4.trans hle6)
  have HW := HW.le hle6
  have cs := cs.le (hle4.trans hle6)
  have cc := cc.le (hle4.trans hle6)
  have cw := cells_at (vs := x.cs g0 h0 g1 h1 g2 h2 g3 h3) hk6 rfl
  repeat (first | refine cg_seq ?_ | refine cg_region ?_ | refine rg_nil ?_ | refine eg_then ?_ | refine qsg ?_)
  refine rvn rfl rfl rfl rfl rfl rfl rfl (do_ctn (s := s) H hf hsok) ?_
  rintro N7 k7 v7 hN7 hnew7 hle7 ⟨e0, f0, e1, f1, e2, f2, e3, f3, rfl, HO⟩
  have hpp := do_parts x s
  obtain ⟨r, hr⟩ : ∃ r, doC x s = r := ⟨_, rfl⟩
  rw [hr] at HO hpp ⊢
  repeat (first | refine qsp ?_)
  refine rb rfl rfl rfl rfl (a_alloc rfl) ?_; intro b8 k8 hb8 hN8 hle8 hk8
  refine rw1 (vs := r.1.cs e0 f0 e1 f1 e2 f2 e3 f3) rfl rfl rfl rfl rfl rfl rfl hk8 rfl (.inl hN8) ?_ ?_
  · simp [Conf.cs, Value.oneCell']
  intro k9 ht9 hk9
  have hle9 : Le k7 k9 := ht9 k7 hle8 hb8
  have HO := HO.le hle9
  have hle69 := hle7.trans hle9
  have cs9 := cs.le hle69
  have cc9 := cc.le hle69
  repeat (first | refine cg_seq ?_ | refine cg_region ?_ | refine rg_nil ?_ | refine eg_then ?_ | refine qsp ?_ | refine qsg ?_)
  refine rvn rfl rfl rfl rfl rfl rfl rfl (refDoes_ctn (s := s) (H.le hle69) hf hsok) ?_
  rintro N10 k10 v10 hN10 hnew10 hle10 ⟨m0, n0, m1, n1, m2, n2, m3, n3, rfl, HP⟩
  rw [hr] at HP ⊢
  repeat (first | refine qsp ?_)
  refine rb rfl rfl rfl rfl (a_alloc rfl) ?_; intro b11 k11 hb11 hN11 hle11 hk11
  refine rw1 (vs := r.1.cs m0 n0 m1 n1 m2 n2 m3 n3) rfl rfl rfl rfl rfl rfl rfl hk11 rfl (.inl hN11) ?_ ?_
  · simp [Conf.cs, Value.oneCell']
  intro k12 ht12 hk12
  have hle12 : Le k10 k12 := ht12 k10 hle11 hb11
  have hle912 := hle10.trans hle12
  have hle612 := hle69.trans hle912
  have HO := HO.le hle912
  have HP := HP.le hle12
  have hk9' := hle912 _ _ hk9
  have d1 := cells_at (vs := r.1.cs e0 f0 e1 f1 e2 f2 e3 f3) hk9' rfl
  have d2 := cells_at (vs := r.1.cs m0 n0 m1 n1 m2 n2 m3 n3) hk12 rfl
  have cc12 := cc.le hle612
  have H12 := H.le hle612
  have HOcf := HO.cf
  have bt1 := HOcf.t.cap; have bt2 := HOcf.t.max; unfold maxLen at bt2
  have br1 := HOcf.r.cap; have br2 := HOcf.r.max; unfold maxLen at br2
  have HPcf := HP.cf
  repeat (first | refine cg_seq ?_ | refine rg_nil ?_ | refine eg_then ?_ | refine qsp ?_)
  refine cg_any (by kernel_rfl) rfl ?_
  repeat (first | refine qwg ?_)
  refine ws rfl (loc_call_is rfl rfl rfl rfl (same_ct HOcf HPcf)) ?_
  repeat (first | refine qwp ?_)
  rw [show decide (r.1 = r.1) = true from decide_eq_true rfl]
  repeat (first | refine qwp ?_)
  rw [show (r.2 == r.2) = true by simp]
  repeat (first | refine qwg ?_)
  refine ws rfl (loc_call_is rfl rfl rfl rfl (check_ct H12)) ?_
  repeat (first | refine qwg ?_)
  refine ws rfl (loc_call_is rfl rfl rfl rfl (refCheck_ct H12)) ?_
  repeat (first | refine qwp ?_ | (refine wn rfl ?_; refine eg_then ?_))
  obtain ⟨q, hq⟩ : ∃ q : Int, (if confP x = true then 0 else 1) = q := ⟨_, rfl⟩
  rw [hq]
  rw [show (q == q) = true by simp]
  skip
  obtain ⟨p0, p1, p2, p3, p4⟩ := Conf.parts d1
  repeat (first | refine cg_seq ?_ | refine cg_region ?_ | refine rg_nil ?_ | refine eg_then ?_ | refine qsp ?_ | refine qsn ?_ | refine qsl ?_ | refine qsf ?_ | refine cg_block ?_)
  refine cg_loop (fun (i : Nat) e k' => ∃ ts : List Topic, ts.length = r.1.topics.length ∧ i ≤ ts.length ∧ (∀ j, (h : j < ts.length) → i ≤ j → 1 ≤ (ts[j]).partsV ∧ (ts[j]).partsV ≤ 6) ∧ Le k6 k' ∧ k' b8 = some (.cells (r.1.cs e0 f0 e1 f1 e2 f2 e3 f3).toArray 27 (0, 0)) ∧ OwnL N7 k' { r.1 with topics := ts } e0 f0 e1 f1 e2 f2 e3 f3 ∧ e = [(2, .is (.pointer (some ⟨b2, 0, none⟩))), (5, .is (.pointer (some ⟨b5, 0, none⟩))), (6, .is (.pointer (some ⟨b8, 0, none⟩))), (10, .is (.bool true)), (49, .is (.int .i64 (r.1.topics.length : Int))), (50, .is (.int .i64 (i : Int)))])
    (fun i => r.1.topics.length - i) 0 ⟨r.1.topics, rfl, Nat.zero_le _, fun j h _ => hpp.1 j h, hle612, hk9', HO, rfl⟩ ⟨rfl, rfl, rfl, rfl, rfl, rfl, trivial⟩ ?_
  rintro i e k13 ⟨ts, hlen, hi, hts, hle13, hk8', HT, rfl⟩
  repeat (first | refine cg_seq ?_ | refine cg_region ?_ | refine rg_nil ?_ | refine eg_then ?_ | refine qsp ?_)
  refine cg_cond rfl (fun h => ?_) (fun h => ?_)
  · have hlt : i < ts.length := by have := of_decide_eq_true h; omega
    have hlt' : i < r.1.topics.length := by omega
    obtain ⟨g, cap, cur, cx, ev, hNg, hkg, hpc, hcg, hrg, hset⟩ := HT.t.cell (i := i) (j := 1) hlt (by decide) (fun _ _ _ _ h => h)
    simp only [Value.slice.injEq, true_and] at ev
    obtain ⟨rfl, rfl⟩ := ev
    obtain ⟨t, ht⟩ : ∃ t, ts[i] = t := ⟨_, rfl⟩
    have hb6 := hts i hlt (Nat.le_refl _)
    have hrg' : tTopic.rep k13 cx ts[i] := hrg
    rw [ht] at hb6 hrg'
    have htok := hrg'.2
    have hcg2 := hcg
    rw [hrg'.1] at hcg2
    obtain ⟨y0, y1, y2, y3⟩ := Topic.parts hcg2
    obtain ⟨p0, p1, p2, p3, p4⟩ := Conf.parts (cells_at hk8' rfl : Cells k13 b8 0 (r.1.cs _ _ _ _ _ _ _ _))
    have hne : b8 ≠ g := fun e => by
      have h8 := hk8'
      rw [e, hkg] at h8; exact absurd (cells_ty h8) (by decide)
    repeat (first | refine cg_seq ?_ | refine cg_region ?_ | refine rg_nil ?_ | refine eg_then ?_ | refine qsp ?_ | refine qsa ?_ | refine qsi ?_ | refine qsl ?_ | refine qsf ?_ | refine cg_skip ?_ | refine cg_block ?_)
    refine rw0 rfl rfl rfl rfl rfl rfl rfl rfl hkg hpc (.inl (Nat.le_trans hN7 hNg)) ?_
    intro k14 ht14 hk14
    have hnew := hset k14 (.int .i64 (t.partsV + 1)) { t with partsV := t.partsV + 1 } ht14 hk14 ⟨by rw [hrg'.1]; rfl, htok.1, by show I64 (t.partsV + 1); unfold I64; omega, trivial, htok.2.2.2⟩
    have hnew : Own tTopic N7 k14 39 (.slice (some ⟨g, 0, none⟩) (ts.set i { t with partsV := t.partsV + 1 }).length f0) (ts.set i { t with partsV := t.partsV + 1 }) := by
      rw [List.length_set]; exact hnew
    have HT2 := HT.putT ht14 hkg hnew
    repeat (first | refine cg_region ?_ | refine rg_nil ?_ | refine eg_then ?_ | refine qsp ?_ | refine qsa ?_ | refine eg_in_normal ?_)
    refine eg_again (i + 1) _ ⟨ts.set i { t with partsV := t.partsV + 1 }, by simpa using hlen, by simp; omega, fun j hj hij => ?_, ht14 k6 hle13 (hnew7 g hNg), turn1_get ht14 hne hk8', HT2, rfl⟩ (by omega) ⟨rfl, rfl, rfl, rfl, rfl, rfl, trivial⟩
    rw [List.getElem_set_ne (by omega)]
    exact hts j (by simpa using hj) (by omega)
  clear h hts hlen hi
  obtain ⟨X, hX, hXr⟩ : ∃ X : Conf, X = { r.1 with topics := ts } ∧ X.rules = r.1.rules := ⟨_, rfl, rfl⟩
  have hle613 := hle13
  have hk13 := hk8'
  obtain ⟨p0, p1, p2, p3, p4⟩ := Conf.parts (cells_at hk8' rfl : Cells k13 b8 0 (r.1.cs _ _ _ _ _ _ _ _))
  repeat (first | refine cg_seq ?_ | refine cg_region ?_ | refine rg_nil ?_ | refine eg_then ?_ | refine qsp ?_ | refine qsn ?_ | refine qsl ?_ | refine qsf ?_ | refine cg_block ?_ | refine cg_exit ?_ | refine eg_then_exit ?_ | refine eg_in_exit ?_)
  refine cg_loop (fun (i : Nat) e k' => ∃ us : List Rule, us.length = r.1.rules.length ∧ i ≤ us.length ∧ (∀ j, (h : j < us.length) → i ≤ j → 1 ≤ (us[j]).may ∧ (us[j]).may ≤ 7) ∧ Le k6 k' ∧ k' b8 = some (.cells (r.1.cs e0 f0 e1 f1 e2 f2 e3 f3).toArray 27 (0, 0)) ∧ OwnL N7 k' { ({ r.1 with topics := ts } : Conf) with rules := us } e0 f0 e1 f1 e2 f2 e3 f3 ∧ e = [(2, .is (.pointer (some ⟨b2, 0, none⟩))), (5, .is (.pointer (some ⟨b5, 0, none⟩))), (6, .is (.pointer (some ⟨b8, 0, none⟩))), (10, .is (.bool true)), (65, .is (.int .i64 (r.1.rules.length : Int))), (66, .is (.int .i64 (i : Int)))])
    (fun i => r.1.rules.length - i) 0 ⟨({ r.1 with topics := ts } : Conf).rules, rfl, Nat.zero_le _, fun j h _ => hpp.2 j h, hle613, hk13, HT, rfl⟩ ⟨rfl, rfl, rfl, rfl, rfl, rfl, trivial⟩ ?_
  rintro i e k15 ⟨us, hlen, hi, hus, hle15, hk8', HT, rfl⟩
  repeat (first | refine cg_seq ?_ | refine cg_region ?_ | refine rg_nil ?_ | refine eg_then ?_ | refine qsp ?_)
  refine cg_cond rfl (fun h => ?_) (fun h => ?_)
  · have hlt : i < us.length := by have := of_decide_eq_true h; omega
    have hlt' : i < r.1.rules.length := by omega
    obtain ⟨g, cap, cur, cx, ev, hNg, hkg, hpc, hcg, hrg, hset⟩ := HT.r.cell (i := i) (j := 2) hlt (by decide) (fun _ _ _ _ h => h)
    simp only [Value.slice.injEq, true_and] at ev
    obtain ⟨rfl, rfl⟩ := ev
    obtain ⟨t, ht⟩ : ∃ t, us[i] = t := ⟨_, rfl⟩
    have hb6 := hus i hlt (Nat.le_refl _)
    have hrg' : tRule.rep k15 cx us[i] := hrg
    rw [ht] at hb6 hrg'
    have htok := hrg'.2
    have hcg2 := hcg
    rw [hrg'.1] at hcg2
    obtain ⟨y0, y1, y2⟩ := Rule.parts hcg2
    obtain ⟨p0, p1, p2, p3, p4⟩ := Conf.parts (cells_at hk8' rfl : Cells k15 b8 0 (r.1.cs _ _ _ _ _ _ _ _))
    have hne : b8 ≠ g := fun e => by
      have h8 := hk8'
      rw [e, hkg] at h8; exact absurd (cells_ty h8) (by decide)
    repeat (first | refine cg_seq ?_ | refine cg_region ?_ | refine rg_nil ?_ | refine eg_then ?_ | refine qsp ?_ | refine qsa ?_ | refine qsi ?_ | refine qsl ?_ | refine qsf ?_ | refine cg_skip ?_ | refine cg_block ?_)
    refine rw0 rfl rfl rfl rfl rfl rfl rfl rfl hkg hpc (.inl (Nat.le_trans hN7 hNg)) ?_
    intro k16 ht16 hk16
    have hnew := hset k16 (.int .i64 (t.may + 1)) { t with may := t.may + 1 } ht16 hk16 ⟨by rw [hrg'.1]; rfl, htok.1, htok.2.1, by show I64 (t.may + 1); unfold I64; omega⟩
    have hnew : Own tRule N7 k16 41 (.slice (some ⟨g, 0, none⟩) (us.set i { t with may := t.may + 1 }).length f1) (us.set i { t with may := t.may + 1 }) := by
      rw [List.length_set]; exact hnew
    have HT2 := HT.putR ht16 hkg hnew
    repeat (first | refine cg_region ?_ | refine rg_nil ?_ | refine eg_then ?_ | refine qsp ?_ | refine qsa ?_ | refine eg_in_normal ?_)
    refine eg_again (i + 1) _ ⟨us.set i { t with may := t.may + 1 }, by simpa using hlen, by simp; omega, fun j hj hij => ?_, ht16 k6 hle15 (hnew7 g hNg), turn1_get ht16 hne hk8', HT2, rfl⟩ (by omega) ⟨rfl, rfl, rfl, rfl, rfl, rfl, trivial⟩
    rw [List.getElem_set_ne (by omega)]
    exact hus j (by simpa using hj) (by omega)
  clear h hus hlen hi
  have d1 := cc.le hle15
  have d2 := cw.le hle15
  have H15 := H.le hle15
  have HW15 := (HW.le hle15).cf
  have d1 := d1
  repeat (first | refine cg_seq ?_ | refine cg_region ?_ | refine eg_then ?_ | refine qsp ?_ | refine qsg ?_ | refine cg_exit ?_ | refine eg_then_exit ?_ | refine eg_in_exit ?_)
  refine rs rfl rfl (loc_call_is rfl rfl rfl rfl (same_ct H15 HW15)) ?_
  rw [show decide (x = x) = true from decide_eq_true rfl]
  repeat (first | refine rg_nil ?_ | refine eg_then ?_ | refine qsp ?_ | refine cg_ret ?_)
  exact eg_return rfl rfl rfl
end Go.Wm

/-
  What goes with a topic, in plain Lean. Conditions: none.
-/
import Derived.Test.YteimghjhiiffjaaMn2
import Derived.Test.YteimghjhiiffjaaL1
import Derived.Test.YteimghjhiiffjaaR1
import Derived.Test.YteimghjhiiffjaaD9
set_option linter.all false
namespace Go.Wm
open Go.RowKit Go.Proofs
theorem right_may {α : Type} {ord : α → α → Int} {may may' : α → Bool} {l : List α} (h : RightP ord may l) (hm : ∀ x ∈ l, may x = true → may' x = true) : RightP ord may' l :=
  fun i hi => ⟨hm _ (List.getElem_mem hi) (h i hi).1, (h i hi).2⟩
theorem right_sub {α : Type} {ord : α → α → Int} (ho : OrdL ord) {may : α → Bool} {l l' : List α} (h : RightP ord may l) (hs : l'.Sublist l) : RightP ord may l' := by
  obtain ⟨h1, h2⟩ := (right_iff ho).1 h
  exact (right_iff ho).2 ⟨fun x hx => h1 x (hs.subset hx), h2.sublist hs⟩
theorem conf_mk {x : Conf} (h : inI x.ver 0 1099511627776 = true ∧ x.topics.length ≤ 12 ∧ RightP ordTopic topicP x.topics ∧ RightP ordRule (ruleP x) x.rules ∧ RightP ordRate rateP x.rates ∧ RightP ordWay (wayP x) x.ways) : confP x = true := by
  simpa [confP, and_assoc] using h
theorem rule_mono {x y : Conf} (h : ∀ s, knownC x s = true → knownC y s = true) {r : Rule} (hr : ruleP x r = true) : ruleP y r = true := by
  simp only [ruleP, Bool.and_eq_true, Bool.or_eq_true] at hr ⊢
  exact ⟨hr.1, hr.2.1.elim .inl fun e => .inr (h _ e), hr.2.2⟩
theorem way_mono {x y : Conf} (h : ∀ s, knownC x s = true → knownC y s = true) {w : Way} (hw : wayP x w = true) : wayP y w = true := by
  simp only [wayP, Bool.and_eq_true] at hw ⊢
  exact ⟨hw.1, hw.2.1, hw.2.2.1, h _ hw.2.2.2⟩
theorem known_iff {x : Conf} {s : ByteArray} : knownC x s = true ↔ ∃ t ∈ x.topics, t.name = s := by
  unfold knownC
  rw [List.any_eq_true]
  simp
theorem used_num {n : Int} (h : numU true n = true) : inI n 0 1099511627776 = true := by
  simp only [numU, Bool.or_eq_true, decide_eq_true_eq, Bool.true_and] at h
  rcases h with rfl | h
  · decide
  · exact h
theorem pair_map {α : Type} {R : α → α → Prop} {f : α → α} (hf : ∀ a b, R a b → R (f a) (f b)) {l : List α} (h : l.Pairwise R) : (l.map f).Pairwise R := by
  rw [List.pairwise_map]
  exact h.imp fun {a b} => hf a b
theorem map_right {x : Conf} {s : ByteArray} {f : Topic → Topic} (hr : RightP ordTopic topicP x.topics) (hn : ∀ t, (f t).name = t.name) (hp : ∀ t ∈ x.topics, t.name = s → topicP (f t) = true) : RightP ordTopic topicP (x.topics.map fun u => if u.name = s then f u else u) := by
  obtain ⟨h1, h2⟩ := (right_iff ordL_topic).1 hr
  have hname : ∀ u : Topic, (if u.name = s then f u else u).name = u.name := fun u => by split <;> simp [hn]
  refine (right_iff ordL_topic).2 ⟨fun t ht => ?_, pair_map (fun a b h => ?_) h2⟩
  · obtain ⟨u, hu, rfl⟩ := List.mem_map.1 ht
    split
    · rename_i he; exact hp u hu he
    · exact h1 u hu
  · unfold ordTopic at h ⊢
    rw [hname, hname]; exact h
theorem map_known {x y : Conf} {s : ByteArray} {f : Topic → Topic} (hn : ∀ t, (f t).name = t.name) (hy : y.topics = x.topics.map fun u => if u.name = s then f u else u) {q : ByteArray} (h : knownC x q = true) : knownC y q = true := by
  obtain ⟨t, ht, rfl⟩ := known_iff.1 h
  refine known_iff.2 ⟨_, by rw [hy]; exact List.mem_map.2 ⟨t, ht, rfl⟩, ?_⟩
  split <;> simp [hn]
theorem form_kind' {s : Step} (h : formS s = true) : 1 ≤ s.kind ∧ s.kind ≤ 8 := by
  unfold formS at h
  split at h
  · cases h
  · rename_i heq
    unfold useK at heq
    repeat' split at heq
    all_goals first | omega | cases heq
set_option maxHeartbeats 2000000 in
theorem act_right {x y : Conf} {s : Step} (hx : confP x = true) (hs : formS s = true) (ha : actC x s = .ok y) : confP y = true ∧ y.ver = x.ver := by
  obtain ⟨r1, r2, r3, r4, r5, r6⟩ := conf_parts hx
  have hk := hs
  unfold formS useK at hs
  unfold actC at ha
  by_cases k1 : s.kind = 1
  · rw [if_pos k1] at ha hs
    simp only [Bool.and_eq_true] at hs
    obtain ⟨f1, f2, f3, f4, f5⟩ := hs
    split at ha
    · cases ha
    rename_i hn
    split at ha
    · cases ha
    rename_i hb
    simp only [Bool.or_eq_true, Bool.not_eq_true', not_or, Bool.not_eq_false, decide_eq_true_eq] at hb
    cases ha
    have hm : metF (fun y => ordTopic y ⟨s.name, s.a, decide (s.b = 1), s.c⟩) x.topics = knownC x s.name := known_met r3 s.name
    have hmem : ∀ t ∈ x.topics, t ∈ putInL ordTopic x.topics ⟨s.name, s.a, decide (s.b = 1), s.c⟩ true := fun t ht => by
      unfold putInL
      rw [hm, if_neg hn, if_pos rfl]
      rw [← List.take_append_drop (posF (fun y => ordTopic y ⟨s.name, s.a, decide (s.b = 1), s.c⟩) x.topics) x.topics] at ht
      rcases List.mem_append.1 ht with h | h
      · exact List.mem_append_left _ h
      · exact List.mem_append_right _ (List.mem_cons_of_mem _ h)
    have hkn : ∀ q, knownC x q = true → knownC { x with topics := putInL ordTopic x.topics ⟨s.name, s.a, decide (s.b = 1), s.c⟩ true } q = true := fun q h => by
      obtain ⟨t, ht, e⟩ := known_iff.1 h
      exact known_iff.2 ⟨t, hmem t ht, e⟩
    refine ⟨conf_mk ⟨r1, ?_, right_put ordL_topic r3 fun _ => ?_, right_may r4 fun r _ h => rule_mono hkn h, r5, right_may r6 fun w _ h => way_mono hkn h⟩, rfl⟩
    · have := put_len ordTopic x.topics ⟨s.name, s.a, decide (s.b = 1), s.c⟩ true
      show (putInL _ _ _ _).length ≤ 12
      have := hb.2.2
      omega
    · simp only [topicP, Bool.and_eq_true]
      exact ⟨f1, hb.1, used_num f5⟩
  rw [if_neg k1] at ha hs
  by_cases k2 : s.kind = 2
  · rw [if_pos k2] at ha hs
    split at ha
    · cases ha
      have hkn : ∀ q, q ≠ s.name → knownC x q = true → knownC { x with topics := x.topics.filter fun t => !decide (t.name = s.name), rules := x.rules.filter fun r => !decide (r.topic = s.name), ways := x.ways.filter fun w => !decide (w.topic = s.name) } q = true := fun q hq h => by
        obtain ⟨t, ht, e⟩ := known_iff.1 h
        exact known_iff.2 ⟨t, List.mem_filter.2 ⟨ht, by simpa [e] using hq⟩, e⟩
      refine ⟨conf_mk ⟨r1, Nat.le_trans (List.length_filter_le _ _) r2, right_sub ordL_topic r3 List.filter_sublist, right_may (right_sub ordL_rule r4 List.filter_sublist) fun r hr h => ?_, r5, right_may (right_sub ordL_way r6 List.filter_sublist) fun w hw h => ?_⟩, rfl⟩
      · have hne : r.topic ≠ s.name := by simpa using (List.mem_filter.1 hr).2
        simp only [ruleP, Bool.and_eq_true, Bool.or_eq_true] at h ⊢
        exact ⟨h.1, h.2.1.elim .inl fun e => .inr (hkn _ hne e), h.2.2⟩
      · have hne : w.topic ≠ s.name := by simpa using (List.mem_filter.1 hw).2
        simp only [wayP, Bool.and_eq_true] at h ⊢
        exact ⟨h.1, h.2.1, h.2.2.1, hkn _ hne h.2.2.2⟩
    · cases ha
  rw [if_neg k2] at ha hs
  by_cases k3 : s.kind = 3
  · rw [if_pos k3] at ha hs
    split at ha
    · cases ha
    rename_i t hf
    split at ha
    · rename_i hi
      cases ha
      have htn : t.name = s.name := by simpa using List.find?_some hf
      have htm := List.mem_of_find?_eq_some hf
      have hkn : ∀ q, knownC x q = true → knownC { x with topics := x.topics.map fun u => if u.name = s.name then { u with partsV := s.a } else u } q = true := fun q h => map_known (f := fun u => { u with partsV := s.a }) (fun _ => rfl) rfl h
      have htp := ((right_iff ordL_topic).1 r3).1 t htm
      simp only [topicP, inI, Bool.and_eq_true, decide_eq_true_eq] at htp hi
      refine ⟨conf_mk ⟨r1, by simpa using r2, map_right (f := fun u => { u with partsV := s.a }) r3 (fun _ => rfl) (fun u hu he => ?_), right_may r4 fun r _ h => rule_mono hkn h, r5, right_may r6 fun w _ h => way_mono hkn h⟩, rfl⟩
      have hup := ((right_iff ordL_topic).1 r3).1 u hu
      simp only [topicP, inI, Bool.and_eq_true, decide_eq_true_eq] at hup ⊢
      exact ⟨hup.1, ⟨by omega, by omega⟩, hup.2.2⟩
    · cases ha
  rw [if_neg k3] at ha hs
  by_cases k4 : s.kind = 4
  · rw [if_pos k4] at ha hs
    simp only [Bool.and_eq_true] at hs
    obtain ⟨f1, f2, f3, f4, f5⟩ := hs
    split at ha
    · cases ha
      have hkn : ∀ q, knownC x q = true → knownC { x with topics := x.topics.map fun u => if u.name = s.name then { u with keep := s.c } else u } q = true := fun q h => map_known (f := fun u => { u with keep := s.c }) (fun _ => rfl) rfl h
      refine ⟨conf_mk ⟨r1, by simpa using r2, map_right (f := fun u => { u with keep := s.c }) r3 (fun _ => rfl) (fun u hu he => ?_), right_may r4 fun r _ h => rule_mono hkn h, r5, right_may r6 fun w _ h => way_mono hkn h⟩, rfl⟩
      have hup := ((right_iff ordL_topic).1 r3).1 u hu
      simp only [topicP, Bool.and_eq_true] at hup ⊢
      exact ⟨hup.1, hup.2.1, used_num f5⟩
    · cases ha
  rw [if_neg k4] at ha hs
  by_cases k5 : s.kind = 5
  · rw [if_pos k5] at ha hs
    simp only [Bool.and_eq_true] at hs
    obtain ⟨f1, f2, f3, f4, f5⟩ := hs
    split at ha
    · cases ha
    rename_i hn
    split at ha
    · cases ha
    rename_i h7
    cases ha
    refine ⟨conf_mk ⟨r1, r2, r3, right_put ordL_rule r4 fun h0 => ?_, r5, r6⟩, rfl⟩
    have hn' : decide (s.topic = starS) = true ∨ knownC x s.topic = true := by
      cases e1 : decide (s.topic = starS)
      · rw [e1] at hn
        cases e2 : knownC x s.topic
        · rw [e2] at hn; exact absurd rfl hn
        · exact .inr rfl
      · exact .inl rfl
    simp only [decide_eq_true_eq] at h0
    simp only [ruleP, inI, Bool.and_eq_true, Bool.or_eq_true]
    exact ⟨f1, hn', by simp; omega⟩
  rw [if_neg k5] at ha hs
  by_cases k6 : s.kind = 6
  · rw [if_pos k6] at ha hs
    simp only [Bool.and_eq_true] at hs
    obtain ⟨f1, f2, f3, f4, f5⟩ := hs
    have u3 := used_num f3; have u4 := used_num f4
    simp only [inI, Bool.and_eq_true, decide_eq_true_eq] at u3 u4
    split at ha
    · cases ha
    rename_i hb
    simp only [Bool.or_eq_true, bne_iff_ne, ne_eq, decide_eq_decide, decide_eq_true_eq, not_or] at hb
    cases ha
    refine ⟨conf_mk ⟨r1, r2, r3, r4, right_put ordL_rate r5 fun h0 => ?_, r6⟩, rfl⟩
    simp only [decide_eq_true_eq] at h0
    simp only [rateP, inI, Bool.and_eq_true, decide_eq_true_eq]
    have hb1 : s.a = 0 ↔ s.b = 0 := Classical.byContradiction hb.1
    refine ⟨f1, ⟨by omega, by omega⟩, ⟨?_, by omega⟩⟩
    have : ¬ s.b = 0 := fun e => by have := hb1.2 e; omega
    omega
  rw [if_neg k6] at ha hs
  have kk := form_kind' hk
  have k78 : s.kind = 7 ∨ s.kind = 8 := by omega
  rw [if_pos k78] at hs
  simp only [Bool.and_eq_true] at hs
  obtain ⟨f1, f2, f3, f4, f5⟩ := hs
  have u3 := used_num f3; have u4 := used_num f4
  simp only [inI, Bool.and_eq_true, decide_eq_true_eq] at u3 u4
  split at ha
  · rename_i hn
    split at ha
    · cases ha
    rename_i hb
    simp only [Bool.or_eq_true, Bool.and_eq_true, decide_eq_true_eq, not_or, not_and] at hb
    cases ha
    refine ⟨conf_mk ⟨r1, r2, r3, r4, r5, right_put ordL_way r6 fun h0 => ?_⟩, rfl⟩
    simp only [decide_eq_true_eq] at h0
    have hb := hb.2 h0
    simp only [wayP, inI, Bool.and_eq_true, decide_eq_true_eq]
    exact ⟨⟨by omega, by omega⟩, ⟨by omega, by omega⟩, hb.1, hn⟩
  · cases ha
theorem do_right {x : Conf} {s : Step} (h : (doC x s).2 = 0) : confP (doC x s).1 = true ∧ (doC x s).1.ver = x.ver + 1 := by
  obtain ⟨h1, h2, h3, h4⟩ := do_ok h
  obtain ⟨r1, r2, r3, r4, r5, r6⟩ := conf_parts h1
  have hv : confP { x with ver := x.ver + 1 } = true := conf_mk ⟨by simp only [inI, Bool.and_eq_true, decide_eq_true_eq] at r1 ⊢; omega, r2, r3, r4, r5, r6⟩
  exact act_right hv h2 h4
end Go.Wm
namespace Go.Wm
open Go.RowKit Go.Proofs
attribute [local irreducible] RG CG EG WA Loc Det Alc CT Exit.then Exit.inBlock Code.wp bodyPost
theorem few_upto {x : Conf} (h : fewC x = true) : x.upto 60 := by
  simp only [fewC, Bool.and_eq_true, decide_eq_true_eq] at h
  exact ⟨by omega, h.2.1, h.2.2.1, h.2.2.2⟩
theorem upto_few {x : Conf} {n : Nat} (h : x.upto n) (hn : n ≤ 1000000) : x.few := ⟨Nat.le_trans h.1 hn, Nat.le_trans h.2.1 hn, Nat.le_trans h.2.2.1 hn, Nat.le_trans h.2.2.2 hn⟩
set_option maxHeartbeats 4000000 in
theorem confStays_walk {k : PH} {cs ss : List Value} {x : Conf} {s : Step} (hx : tConf.rep k cs x) (_ : x.small) (hs : tStep.rep k ss s) (_ : s.small) : CT Try.prog 4 #[.agg cs.toArray, .agg ss.toArray] k (fun _ v => v = .bool true) := by
  obtain ⟨a0, c0, a1, c1, a2, c2, a3, c3, rfl, ⟨s0, s1, s2, s3⟩, hok⟩ := hx
  obtain ⟨rfl, hsok⟩ := hs
  have H : CfAt k x a0 c0 a1 c1 a2 c2 a3 c3 := ⟨s0, s1, s2, s3⟩
  refine ct_of_body (l := [_, _]) Try.func4 rfl Try.ntmps4 (by simp) (fun _ _ _ _ h => h) fun F hF0 hFm => ?_
  repeat (first | refine cg_seq ?_ | refine cg_region ?_)
  refine rb rfl rfl rfl rfl (a_box rfl rfl) ?_; intro b2 k2 hb2 hN2 hle2 hk2
  refine rb rfl rfl rfl rfl (a_box rfl rfl) ?_; intro b3 k3 hb3 hN3 hle3 hk3
  have H := H.le (hle2.trans hle3)
  have cc := (cells_at (vs := x.cs a0 c0 a1 c1 a2 c2 a3 c3) hk2 rfl).le hle3
  have ct := cells_at (vs := s.vs) hk3 rfl
  repeat (first | refine cg_seq ?_ | refine cg_region ?_ | refine rg_nil ?_ | refine eg_then ?_ | refine qsp ?_)
  refine rs rfl rfl (loc_call_is rfl rfl rfl rfl (live_ct)) ?_
  repeat (first | refine cg_seq ?_ | refine cg_region ?_ | refine rg_nil ?_ | refine eg_then ?_ | refine qsp ?_ | refine qsg ?_ | refine cg_cond_false rfl ?_ | refine cg_skip ?_)
  refine rs rfl rfl (loc_call_is rfl rfl rfl rfl (few_ct a0 c0 a1 c1 a2 c2 a3 c3)) ?_
  cases q0 : fewC x
  · repeat (first | refine cg_seq ?_ | refine cg_region ?_ | refine rg_nil ?_ | refine eg_then ?_ | refine qsp ?_ | refine cg_cond_true rfl ?_ | refine cg_ret ?_ | refine eg_then_ret ?_)
    exact eg_return rfl rfl rfl
  have hu := few_upto q0
  repeat (first | refine cg_seq ?_ | refine cg_region ?_ | refine rg_nil ?_ | refine eg_then ?_ | refine qsp ?_ | refine qsg ?_ | refine cg_cond_false rfl ?_ | refine cg_skip ?_)
  refine rvn rfl rfl rfl rfl rfl rfl rfl (do_ctn (s := s) H (upto_few hu (by decide)) hsok) ?_
  rintro N5 k5 v5 hN5 hnew5 hle5 ⟨e0, f0, e1, f1, e2, f2, e3, f3, rfl, HO⟩
  repeat (first | refine qsp ?_)
  refine rb rfl rfl rfl rfl (a_alloc rfl) ?_; intro b6 k6 hb6 hN6 hle6 hk6
  obtain ⟨y, hy⟩ : ∃ y, (doC x s).1 = y := ⟨_, rfl⟩
  obtain ⟨e, he⟩ : ∃ e, (doC x s).2 = e := ⟨_, rfl⟩
  rw [hy] at HO
  rw [hy, he]
  refine rw1 (vs := y.cs e0 f0 e1 f1 e2 f2 e3 f3) rfl rfl rfl rfl rfl rfl rfl hk6 rfl (.inl hN6) ?_ ?_
  · simp [Conf.cs, Value.oneCell']
  intro k7 ht7 hk7
  have hle7 : Le k5 k7 := ht7 k5 hle6 hb6
  have G := (HO.le hle7).cf
  have H := H.le (hle5.trans hle7)
  have cc := cc.le (hle5.trans hle7)
  have cy := cells_at (vs := y.cs e0 f0 e1 f1 e2 f2 e3 f3) hk7 rfl
  repeat (first | refine cg_seq ?_ | refine cg_region ?_ | refine rg_nil ?_ | refine eg_then ?_ | refine qsp ?_)
  cases q1 : (e != 0)
  rotate_left
  · have hne : (doC x s).2 ≠ 0 := by rw [he]; simpa using q1
    have hyn : y = noConf := by rw [← hy]; exact do_no hne
    repeat (first | refine cg_seq ?_ | refine cg_region ?_ | refine qsg ?_ | refine cg_cond_true rfl ?_)
    refine rs rfl rfl (loc_det rfl (d_lit (cells := noConf.cs none 0 none 0 none 0 none 0) rfl rfl rfl)) ?_
    refine rs rfl rfl (loc_call_is rfl rfl rfl rfl (same_ct G (noCf k7))) ?_
    repeat (first | refine rg_nil ?_ | refine eg_then ?_ | refine qsp ?_ | refine cg_ret ?_ | refine eg_then_ret ?_)
    exact eg_return rfl rfl (by rw [hyn]; rfl)
  have he0 : (doC x s).2 = 0 := by rw [he]; simpa using q1
  obtain ⟨p1, p2⟩ := do_right he0
  have p3 := (do_ok he0).1
  rw [hy] at p1 p2
  have pv := (conf_parts p3).1
  have pl := (conf_parts p1).2.1
  simp only [inI, Bool.and_eq_true, decide_eq_true_eq] at pv
  have hcx := check_ct H
  have hcy := check_ct G
  rw [p3] at hcx
  rw [p1] at hcy
  repeat (first | refine cg_seq ?_ | refine cg_region ?_ | refine eg_then ?_ | refine qsg ?_ | refine cg_cond_false rfl ?_ | refine cg_skip ?_)
  refine rs rfl rfl (loc_call_is rfl rfl rfl rfl (hcx)) ?_
  repeat (first | refine qsp ?_ | refine qsg ?_)
  refine rs rfl rfl (loc_call_is rfl rfl rfl rfl (hcy)) ?_
  obtain ⟨z0, z1, z2, z3, z4⟩ := Conf.parts cc
  obtain ⟨w0, w1, w2, w3, w4⟩ := Conf.parts cy
  repeat (first | refine qsp ?_ | refine qsa ?_ | refine qsl ?_ | refine qsf ?_)
  rw [show (y.ver == x.ver + 1) = true by simp [p2]]
  repeat (first | refine rg_nil ?_ | refine eg_then ?_ | refine qsp ?_ | refine qsn ?_ | refine qsl ?_ | refine qsf ?_ | refine cg_ret ?_)
  rw [show decide ((y.topics.length : Int) ≤ 12) = true by simp; omega]
  skip
  exact eg_return rfl rfl rfl
end Go.Wm
namespace Go.Wm
open Go.RowKit Go.Proofs
def dropS (name : ByteArray) : Step := ⟨2, name, ⟨#[]⟩, 0, 0, 0⟩
theorem dropS_ok {name : ByteArray} (h : name.size ≤ maxLen) : (dropS name).ok := ⟨(by unfold I64; decide : I64 2), h, (by decide : (⟨#[]⟩ : ByteArray).size ≤ maxLen), (by unfold I64; decide : I64 0), (by unfold I64; decide : I64 0), (by unfold I64; decide : I64 0)⟩
theorem unknown_find {x : Conf} {s : ByteArray} (h : knownC x s = false) : x.topics.find? (fun t => decide (t.name = s)) = none := by
  rw [List.find?_eq_none]
  intro t ht
  have := List.any_eq_false.1 h t ht
  simpa using this
theorem topQ_none {y : Conf} {s : ByteArray} (h : y.topics.find? (fun t => decide (t.name = s)) = none) : (topQ y s).2 = false := by
  unfold topQ
  rw [h]
  split <;> rfl
theorem drop_no {x : Conf} {name : ByteArray} (h : (doC x (dropS name)).2 ≠ 0) : (topQ x name).2 = false ∨ x.ver = 1099511627776 := by
  cases hc : confP x
  · left; simp [topQ, hc]
  obtain ⟨r1, r2, r3, r4, r5, r6⟩ := conf_parts hc
  have nokn : knownC x name = false → (topQ x name).2 = false := fun hk => by simp [topQ, hc, unknown_find hk]
  cases hn : isName name
  · left
    apply nokn
    cases hk : knownC x name
    · rfl
    · obtain ⟨t, ht, e⟩ := known_iff.1 hk
      have := ((right_iff ordL_topic).1 r3).1 t ht
      simp only [topicP, Bool.and_eq_true] at this
      rw [e, hn] at this
      cases this.1
  by_cases hv : x.ver = 1099511627776
  · exact .inr hv
  left
  apply nokn
  have hf : formS (dropS name) = true := by simp [formS, dropS, useK, textU, numU, hn]
  cases hk : knownC x name
  · rfl
  · exfalso
    apply h
    have hk' : knownC { x with ver := x.ver + 1 } name = true := hk
    unfold doC
    rw [if_neg (by simp [hc, hf]), if_neg hv]
    unfold actC
    rw [if_neg (show ¬ (dropS name).kind = 1 from (by decide : ¬ (2 : Int) = 1)), if_pos (show (dropS name).kind = 2 from rfl)]
    show (finC (if knownC { x with ver := x.ver + 1 } name = true then _ else _)).2 = 0
    rw [if_pos hk']
    rfl
theorem drop_yes {x : Conf} {name : ByteArray} (h : (doC x (dropS name)).2 = 0) : ∃ y, (doC x (dropS name)).1 = y ∧ (topQ y name).2 = false ∧ (∀ f t, goesQ y ⟨f, t, name⟩ = false) ∧ y.topics.length + 1 = x.topics.length ∧ y.rates.length = x.rates.length ∧
    y.ways.length = (x.ways.filter fun w => !decide (w.topic = name)).length ∧ y.rules.length = (x.rules.filter fun r => !decide (r.topic = name)).length := by
  obtain ⟨h1, h2, h3, h4⟩ := do_ok h
  obtain ⟨r1, r2, r3, r4, r5, r6⟩ := conf_parts h1
  unfold actC at h4
  rw [if_neg (show ¬ (dropS name).kind = 1 from (by decide : ¬ (2 : Int) = 1)), if_pos (show (dropS name).kind = 2 from rfl)] at h4
  have hk' : ∀ b, knownC { x with ver := x.ver + 1 } (dropS name).name = b → knownC x name = b := fun b h => h
  split at h4
  · rename_i hk
    have hk := hk' _ hk
    refine ⟨_, (Except.ok.inj h4).symm, ?_, fun f t => ?_, ?_, rfl, rfl, rfl⟩
    · refine topQ_none (List.find?_eq_none.2 fun t ht => ?_)
      have := (List.mem_filter.1 ht).2
      have this : (!decide (t.name = name)) = true := this
      simpa using this
    · have : (x.ways.filter fun w => !decide (w.topic = name)).any (fun v => decide (v = ⟨f, t, name⟩)) = false := by
        rw [List.any_eq_false]
        intro v hv
        have := (List.mem_filter.1 hv).2
        simp only [Bool.not_eq_true', decide_eq_false_iff_not] at this
        simp only [decide_eq_true_eq]
        rintro rfl
        exact this rfl
      show (_ && ((x.ways.filter fun w => !decide (w.topic = name)).any fun v => decide (v = ⟨f, t, name⟩))) = false
      rw [this, Bool.and_false]
    · have hd := drop_topic r3 hk
      obtain ⟨hl, _⟩ := known_at r3 hk
      show (x.topics.filter fun t => !decide (t.name = name)).length + 1 = _
      rw [hd, List.length_append, List.length_take, List.length_drop]
      omega
  · cases h4
theorem filter_take {α : Type} (f : α → Bool) {l : List α} {i : Nat} (h : i < l.length) : ((l.take (i + 1)).filter f).length = ((l.take i).filter f).length + (if f l[i] = true then 1 else 0) := by
  rw [List.take_succ_eq_append_getElem h, List.filter_append, List.length_append]
  congr 1
  by_cases e : f l[i] = true <;> simp [e]
end Go.Wm

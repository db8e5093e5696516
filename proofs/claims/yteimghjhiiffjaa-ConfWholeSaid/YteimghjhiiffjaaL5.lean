/-
  ConfWhole, walked. Conditions: that what is handed in reads as data.
-/
import Derived.Test.YteimghjhiiffjaaMn2
import Derived.Test.YteimghjhiiffjaaL1
import Derived.Test.YteimghjhiiffjaaR1
set_option linter.all false
namespace Go.Wm
open Go.RowKit Go.Proofs
theorem right_may {α : Type} {ord : α → α → Int} {may may' : α → Bool} {l : List α} (h : RightP ord may l) (hm : ∀ x ∈ l, may x = true → may' x = true) : RightP ord may' l :=
  fun i hi => ⟨hm _ (List.getElem_mem hi) (h i hi).1, (h i hi).2⟩
theorem right_sub {α : Type} {ord : α → α → Int} (ho : OrdL ord) {may : α → Bool} {l l' : List α} (h : RightP ord may l) (hs : l'.Sublist l) : RightP ord may l' := by
  obtain ⟨h1, h2⟩ := (right_iff ho).1 h
  exact (right_iff ho).2 ⟨fun x hx => h1 x (hs.subset hx), h2.sublist hs⟩
theorem conf_mk {x : Conf} (h : inI x.ver 0 1099511627776 = true ∧ x.topics.length ≤ 12 ∧ RightP ordTopic topicP x.topics ∧ RightP ordRule (ruleP x) x.rules ∧ RightP ordRate rateP x.rates ∧ RightP ordWay (wayP x) x.ways) : confP x = true := by
  simpa [confP, and_assoc] using h
theorem rule_mono {x y : Conf} (h : ∀ s, knownC x s = true → knownC y s = true) {r : Rule} (hr : ruleP x r = true) : ruleP y r = true := by
  simp only [ruleP, Bool.and_eq_true, Bool.or_eq_true] at hr ⊢
  exact ⟨hr.1, hr.2.1.elim .inl fun e => .inr (h _ e), hr.2.2⟩
theorem way_mono {x y : Conf} (h : ∀ s, knownC x s = true → knownC y s = true) {w : Way} (hw : wayP x w = true) : wayP y w = true := by
  simp only [wayP, Bool.and_eq_true] at hw ⊢
  exact ⟨hw.1, hw.2.1, hw.2.2.1, h _ hw.2.2.2⟩
theorem known_iff {x : Conf} {s : ByteArray} : knownC x s = true ↔ ∃ t ∈ x.topics, t.name = s := by
  unfold knownC
  rw [List.any_eq_true]
  simp
theorem used_num {n : Int} (h : numU true n = true) : inI n 0 1099511627776 = true := by
  simp only [numU, Bool.or_eq_true, decide_eq_true_eq, Bool.true_and] at h
  rcases h with rfl | h
  · decide
  · exact h
theorem pair_map {α : Type} {R : α → α → Prop} {f : α → α} (hf : ∀ a b, R a b → R (f a) (f b)) {l : List α} (h : l.Pairwise R) : (l.map f).Pairwise R := by
  rw [List.pairwise_map]
  exact h.imp fun {a b} => hf a b
theorem map_right {x : Conf} {s : ByteArray} {f : Topic → Topic} (hr : RightP ordTopic topicP x.topics) (hn : ∀ t, (f t).name = t.name) (hp : ∀ t ∈ x.topics, t.name = s → topicP (f t) = true) : RightP ordTopic topicP (x.topics.map fun u => if u.name = s then f u else u) := by
  obtain ⟨h1, h2⟩ := (right_iff ordL_topic).1 hr
  have hname : ∀ u : Topic, (if u.name = s then f u else u).name = u.name := fun u => by split <;> simp [hn]
  refine (right_iff ordL_topic).2 ⟨fun t ht => ?_, pair_map (fun a b h => ?_) h2⟩
  · obtain ⟨u, hu, rfl⟩ := List.mem_map.1 ht
    split
    · rename_i he; exact hp u hu he
    · exact h1 u hu
  · unfold ordTopic at h ⊢
    rw [hname, hname]; exact h
theorem map_known {x y : Conf} {s : ByteArray} {f : Topic → Topic} (hn : ∀ t, (f t).name = t.name) (hy : y.topics = x.topics.map fun u => if u.name = s then f u else u) {q : ByteArray} (h : knownC x q = true) : knownC y q = true := by
  obtain ⟨t, ht, rfl⟩ := known_iff.1 h
  refine known_iff.2 ⟨_, by rw [hy]; exact List.mem_map.2 ⟨t, ht, rfl⟩, ?_⟩
  split <;> simp [hn]
theorem form_kind' {s : Step} (h : formS s = true) : 1 ≤ s.kind ∧ s.kind ≤ 8 := by
  unfold formS at h
  split at h
  · cases h
  · rename_i heq
    unfold useK at heq
    repeat' split at heq
    all_goals first | omega | cases heq
set_option maxHeartbeats 2000000 in
theorem act_right {x y : Conf} {s : Step} (hx : confP x = true) (hs : formS s = true) (ha : actC x s = .ok y) : confP y = true ∧ y.ver = x.ver := by
  obtain ⟨r1, r2, r3, r4, r5, r6⟩ := conf_parts hx
  have hk := hs
  unfold formS useK at hs
  unfold actC at ha
  by_cases k1 : s.kind = 1
  · rw [if_pos k1] at ha hs
    simp only [Bool.and_eq_true] at hs
    obtain ⟨f1, f2, f3, f4, f5⟩ := hs
    split at ha
    · cases ha
    rename_i hn
    split at ha
    · cases ha
    rename_i hb
    simp only [Bool.or_eq_true, Bool.not_eq_true', not_or, Bool.not_eq_false, decide_eq_true_eq] at hb
    cases ha
    have hm : metF (fun y => ordTopic y ⟨s.name, s.a, decide (s.b = 1), s.c⟩) x.topics = knownC x s.name := known_met r3 s.name
    have hmem : ∀ t ∈ x.topics, t ∈ putInL ordTopic x.topics ⟨s.name, s.a, decide (s.b = 1), s.c⟩ true := fun t ht => by
      unfold putInL
      rw [hm, if_neg hn, if_pos rfl]
      rw [← List.take_append_drop (posF (fun y => ordTopic y ⟨s.name, s.a, decide (s.b = 1), s.c⟩) x.topics) x.topics] at ht
      rcases List.mem_append.1 ht with h | h
      · exact List.mem_append_left _ h
      · exact List.mem_append_right _ (List.mem_cons_of_mem _ h)
    have hkn : ∀ q, knownC x q = true → knownC { x with topics := putInL ordTopic x.topics ⟨s.name, s.a, decide (s.b = 1), s.c⟩ true } q = true := fun q h => by
      obtain ⟨t, ht, e⟩ := known_iff.1 h
      exact known_iff.2 ⟨t, hmem t ht, e⟩
    refine ⟨conf_mk ⟨r1, ?_, right_put ordL_topic r3 fun _ => ?_, right_may r4 fun r _ h => rule_mono hkn h, r5, right_may r6 fun w _ h => way_mono hkn h⟩, rfl⟩
    · have := put_len ordTopic x.topics ⟨s.name, s.a, decide (s.b = 1), s.c⟩ true
      show (putInL _ _ _ _).length ≤ 12
      have := hb.2.2
      omega
    · simp only [topicP, Bool.and_eq_true]
      exact ⟨f1, hb.1, used_num f5⟩
  rw [if_neg k1] at ha hs
  by_cases k2 : s.kind = 2
  · rw [if_pos k2] at ha hs
    split at ha
    · cases ha
      have hkn : ∀ q, q ≠ s.name → knownC x q = true → knownC { x with topics := x.topics.filter fun t => !decide (t.name = s.name), rules := x.rules.filter fun r => !decide (r.topic = s.name), ways := x.ways.filter fun w => !decide (w.topic = s.name) } q = true := fun q hq h => by
        obtain ⟨t, ht, e⟩ := known_iff.1 h
        exact known_iff.2 ⟨t, List.mem_filter.2 ⟨ht, by simpa [e] using hq⟩, e⟩
      refine ⟨conf_mk ⟨r1, Nat.le_trans (List.length_filter_le _ _) r2, right_sub ordL_topic r3 List.filter_sublist, right_may (right_sub ordL_rule r4 List.filter_sublist) fun r hr h => ?_, r5, right_may (right_sub ordL_way r6 List.filter_sublist) fun w hw h => ?_⟩, rfl⟩
      · have hne : r.topic ≠ s.name := by simpa using (List.mem_filter.1 hr).2
        simp only [ruleP, Bool.and_eq_true, Bool.or_eq_true] at h ⊢
        exact ⟨h.1, h.2.1.elim .inl fun e => .inr (hkn _ hne e), h.2.2⟩
      · have hne : w.topic ≠ s.name := by simpa using (List.mem_filter.1 hw).2
        simp only [wayP, Bool.and_eq_true] at h ⊢
        exact ⟨h.1, h.2.1, h.2.2.1, hkn _ hne h.2.2.2⟩
    · cases ha
  rw [if_neg k2] at ha hs
  by_cases k3 : s.kind = 3
  · rw [if_pos k3] at ha hs
    split at ha
    · cases ha
    rename_i t hf
    split at ha
    · rename_i hi
      cases ha
      have htn : t.name = s.name := by simpa using List.find?_some hf
      have htm := List.mem_of_find?_eq_some hf
      have hkn : ∀ q, knownC x q = true → knownC { x with topics := x.topics.map fun u => if u.name = s.name then { u with partsV := s.a } else u } q = true := fun q h => map_known (f := fun u => { u with partsV := s.a }) (fun _ => rfl) rfl h
      have htp := ((right_iff ordL_topic).1 r3).1 t htm
      simp only [topicP, inI, Bool.and_eq_true, decide_eq_true_eq] at htp hi
      refine ⟨conf_mk ⟨r1, by simpa using r2, map_right (f := fun u => { u with partsV := s.a }) r3 (fun _ => rfl) (fun u hu he => ?_), right_may r4 fun r _ h => rule_mono hkn h, r5, right_may r6 fun w _ h => way_mono hkn h⟩, rfl⟩
      have hup := ((right_iff ordL_topic).1 r3).1 u hu
      simp only [topicP, inI, Bool.and_eq_true, decide_eq_true_eq] at hup ⊢
      exact ⟨hup.1, ⟨by omega, by omega⟩, hup.2.2⟩
    · cases ha
  rw [if_neg k3] at ha hs
  by_cases k4 : s.kind = 4
  · rw [if_pos k4] at ha hs
    simp only [Bool.and_eq_true] at hs
    obtain ⟨f1, f2, f3, f4, f5⟩ := hs
    split at ha
    · cases ha
      have hkn : ∀ q, knownC x q = true → knownC { x with topics := x.topics.map fun u => if u.name = s.name then { u with keep := s.c } else u } q = true := fun q h => map_known (f := fun u => { u with keep := s.c }) (fun _ => rfl) rfl h
      refine ⟨conf_mk ⟨r1, by simpa using r2, map_right (f := fun u => { u with keep := s.c }) r3 (fun _ => rfl) (fun u hu he => ?_), right_may r4 fun r _ h => rule_mono hkn h, r5, right_may r6 fun w _ h => way_mono hkn h⟩, rfl⟩
      have hup := ((right_iff ordL_topic).1 r3).1 u hu
      simp only [topicP, Bool.and_eq_true] at hup ⊢
      exact ⟨hup.1, hup.2.1, used_num f5⟩
    · cases ha
  rw [if_neg k4] at ha hs
  by_cases k5 : s.kind = 5
  · rw [if_pos k5] at ha hs
    simp only [Bool.and_eq_true] at hs
    obtain ⟨f1, f2, f3, f4, f5⟩ := hs
    split at ha
    · cases ha
    rename_i hn
    split at ha
    · cases ha
    rename_i h7
    cases ha
    refine ⟨conf_mk ⟨r1, r2, r3, right_put ordL_rule r4 fun h0 => ?_, r5, r6⟩, rfl⟩
    have hn' : decide (s.topic = starS) = true ∨ knownC x s.topic = true := by
      cases e1 : decide (s.topic = starS)
      · rw [e1] at hn
        cases e2 : knownC x s.topic
        · rw [e2] at hn; exact absurd rfl hn
        · exact .inr rfl
      · exact .inl rfl
    simp only [decide_eq_true_eq] at h0
    simp only [ruleP, inI, Bool.and_eq_true, Bool.or_eq_true]
    exact ⟨f1, hn', by simp; omega⟩
  rw [if_neg k5] at ha hs
  by_cases k6 : s.kind = 6
  · rw [if_pos k6] at ha hs
    simp only [Bool.and_eq_true] at hs
    obtain ⟨f1, f2, f3, f4, f5⟩ := hs
    have u3 := used_num f3; have u4 := used_num f4
    simp only [inI, Bool.and_eq_true, decide_eq_true_eq] at u3 u4
    split at ha
    · cases ha
    rename_i hb
    simp only [Bool.or_eq_true, bne_iff_ne, ne_eq, decide_eq_decide, decide_eq_true_eq, not_or] at hb
    cases ha
    refine ⟨conf_mk ⟨r1, r2, r3, r4, right_put ordL_rate r5 fun h0 => ?_, r6⟩, rfl⟩
    simp only [decide_eq_true_eq] at h0
    simp only [rateP, inI, Bool.and_eq_true, decide_eq_true_eq]
    have hb1 : s.a = 0 ↔ s.b = 0 := Classical.byContradiction hb.1
    refine ⟨f1, ⟨by omega, by omega⟩, ⟨?_, by omega⟩⟩
    have : ¬ s.b = 0 := fun e => by have := hb1.2 e; omega
    omega
  rw [if_neg k6] at ha hs
  have kk := form_kind' hk
  have k78 : s.kind = 7 ∨ s.kind = 8 := by omega
  rw [if_pos k78] at hs
  simp only [Bool.and_eq_true] at hs
  obtain ⟨f1, f2, f3, f4, f5⟩ := hs
  have u3 := used_num f3; have u4 := used_num f4
  simp only [inI, Bool.and_eq_true, decide_eq_true_eq] at u3 u4
  split at ha
  · rename_i hn
    split at ha
    · cases ha
    rename_i hb
    simp only [Bool.or_eq_true, Bool.and_eq_true, decide_eq_true_eq, not_or, not_and] at hb
    cases ha
    refine ⟨conf_mk ⟨r1, r2, r3, r4, r5, right_put ordL_way r6 fun h0 => ?_⟩, rfl⟩
    simp only [decide_eq_true_eq] at h0
    have hb := hb.2 h0
    simp only [wayP, inI, Bool.and_eq_true, decide_eq_true_eq]
    exact ⟨⟨by omega, by omega⟩, ⟨by omega, by omega⟩, hb.1, hn⟩
  · cases ha
theorem do_right {x : Conf} {s : Step} (h : (doC x s).2 = 0) : confP (doC x s).1 = true ∧ (doC x s).1.ver = x.ver + 1 := by
  obtain ⟨h1, h2, h3, h4⟩ := do_ok h
  obtain ⟨r1, r2, r3, r4, r5, r6⟩ := conf_parts h1
  have hv : confP { x with ver := x.ver + 1 } = true := conf_mk ⟨by simp only [inI, Bool.and_eq_true, decide_eq_true_eq] at r1 ⊢; omega, r2, r3, r4, r5, r6⟩
  exact act_right hv h2 h4
end Go.Wm
namespace Go.Wm
open Go.RowKit Go.Proofs
attribute [local irreducible] RG CG EG WA Loc Det Alc CT Exit.then Exit.inBlock Code.wp bodyPost
theorem few_upto {x : Conf} (h : fewC x = true) : x.upto 60 := by
  simp only [fewC, Bool.and_eq_true, decide_eq_true_eq] at h
  exact ⟨by omega, h.2.1, h.2.2.1, h.2.2.2⟩
theorem upto_few {x : Conf} {n : Nat} (h : x.upto n) (hn : n ≤ 1000000) : x.few := ⟨Nat.le_trans h.1 hn, Nat.le_trans h.2.1 hn, Nat.le_trans h.2.2.1 hn, Nat.le_trans h.2.2.2 hn⟩
set_option maxHeartbeats 4000000 in
theorem confStays_walk {k : PH} {cs ss : List Value} {x : Conf} {s : Step} (hx : tConf.rep k cs x) (_ : x.small) (hs : tStep.rep k ss s) (_ : s.small) : CT Try.prog 4 #[.agg cs.toArray, .agg ss.toArray] k (fun _ v => v = .bool true) := by
  obtain ⟨a0, c0, a1, c1, a2, c2, a3, c3, rfl, ⟨s0, s1, s2, s3⟩, hok⟩ := hx
  obtain ⟨rfl, hsok⟩ := hs
  have H : CfAt k x a0 c0 a1 c1 a2 c2 a3 c3 := ⟨s0, s1, s2, s3⟩
  refine ct_of_body (l := [_, _]) Try.func4 rfl Try.ntmps4 (by simp) (fun _ _ _ _ h => h) fun F hF0 hFm => ?_
  repeat (first | refine cg_seq ?_ | refine cg_region ?_)
  refine rb rfl rfl rfl rfl (a_box rfl rfl) ?_; intro b2 k2 hb2 hN2 hle2 hk2
  refine rb rfl rfl rfl rfl (a_box rfl rfl) ?_; intro b3 k3 hb3 hN3 hle3 hk3
  have H := H.le (hle2.trans hle3)
  have cc := (cells_at (vs := x.cs a0 c0 a1 c1 a2 c2 a3 c3) hk2 rfl).le hle3
  have ct := cells_at (vs := s.vs) hk3 rfl
  repeat (first | refine cg_seq ?_ | refine cg_region ?_ | refine rg_nil ?_ | refine eg_then ?_ | refine qsp ?_)
  refine rs rfl rfl (loc_call_is rfl rfl rfl rfl (live_ct)) ?_
  repeat (first | refine cg_seq ?_ | refine cg_region ?_ | refine rg_nil ?_ | refine eg_then ?_ | refine qsp ?_ | refine qsg ?_ | refine cg_cond_false rfl ?_ | refine cg_skip ?_)
  refine rs rfl rfl (loc_call_is rfl rfl rfl rfl (few_ct a0 c0 a1 c1 a2 c2 a3 c3)) ?_
  cases q0 : fewC x
  · repeat (first | refine cg_seq ?_ | refine cg_region ?_ | refine rg_nil ?_ | refine eg_then ?_ | refine qsp ?_ | refine cg_cond_true rfl ?_ | refine cg_ret ?_ | refine eg_then_ret ?_)
    exact eg_return rfl rfl rfl
  have hu := few_upto q0
  repeat (first | refine cg_seq ?_ | refine cg_region ?_ | refine rg_nil ?_ | refine eg_then ?_ | refine qsp ?_ | refine qsg ?_ | refine cg_cond_false rfl ?_ | refine cg_skip ?_)
  refine rvn rfl rfl rfl rfl rfl rfl rfl (do_ctn (s := s) H (upto_few hu (by decide)) hsok) ?_
  rintro N5 k5 v5 hN5 hnew5 hle5 ⟨e0, f0, e1, f1, e2, f2, e3, f3, rfl, HO⟩
  repeat (first | refine qsp ?_)
  refine rb rfl rfl rfl rfl (a_alloc rfl) ?_; intro b6 k6 hb6 hN6 hle6 hk6
  obtain ⟨y, hy⟩ : ∃ y, (doC x s).1 = y := ⟨_, rfl⟩
  obtain ⟨e, he⟩ : ∃ e, (doC x s).2 = e := ⟨_, rfl⟩
  rw [hy] at HO
  rw [hy, he]
  refine rw1 (vs := y.cs e0 f0 e1 f1 e2 f2 e3 f3) rfl rfl rfl rfl rfl rfl rfl hk6 rfl (.inl hN6) ?_ ?_
  · simp [Conf.cs, Value.oneCell']
  intro k7 ht7 hk7
  have hle7 : Le k5 k7 := ht7 k5 hle6 hb6
  have G := (HO.le hle7).cf
  have H := H.le (hle5.trans hle7)
  have cc := cc.le (hle5.trans hle7)
  have cy := cells_at (vs := y.cs e0 f0 e1 f1 e2 f2 e3 f3) hk7 rfl
  repeat (first | refine cg_seq ?_ | refine cg_region ?_ | refine rg_nil ?_ | refine eg_then ?_ | refine qsp ?_)
  cases q1 : (e != 0)
  rotate_left
  · have hne : (doC x s).2 ≠ 0 := by rw [he]; simpa using q1
    have hyn : y = noConf := by rw [← hy]; exact do_no hne
    repeat (first | refine cg_seq ?_ | refine cg_region ?_ | refine qsg ?_ | refine cg_cond_true rfl ?_)
    refine rs rfl rfl (loc_det rfl (d_lit (cells := noConf.cs none 0 none 0 none 0 none 0) rfl rfl rfl)) ?_
    refine rs rfl rfl (loc_call_is rfl rfl rfl rfl (same_ct G (noCf k7))) ?_
    repeat (first | refine rg_nil ?_ | refine eg_then ?_ | refine qsp ?_ | refine cg_ret ?_ | refine eg_then_ret ?_)
    exact eg_return rfl rfl (by rw [hyn]; rfl)
  have he0 : (doC x s).2 = 0 := by rw [he]; simpa using q1
  obtain ⟨p1, p2⟩ := do_right he0
  have p3 := (do_ok he0).1
  rw [hy] at p1 p2
  have pv := (conf_parts p3).1
  have pl := (conf_parts p1).2.1
  simp only [inI, Bool.and_eq_true, decide_eq_true_eq] at pv
  have hcx := check_ct H
  have hcy := check_ct G
  rw [p3] at hcx
  rw [p1] at hcy
  repeat (first | refine cg_seq ?_ | refine cg_region ?_ | refine eg_then ?_ | refine qsg ?_ | refine cg_cond_false rfl ?_ | refine cg_skip ?_)
  refine rs rfl rfl (loc_call_is rfl rfl rfl rfl (hcx)) ?_
  repeat (first | refine qsp ?_ | refine qsg ?_)
  refine rs rfl rfl (loc_call_is rfl rfl rfl rfl (hcy)) ?_
  obtain ⟨z0, z1, z2, z3, z4⟩ := Conf.parts cc
  obtain ⟨w0, w1, w2, w3, w4⟩ := Conf.parts cy
  repeat (first | refine qsp ?_ | refine qsa ?_ | refine qsl ?_ | refine qsf ?_)
  rw [show (y.ver == x.ver + 1) = true by simp [p2]]
  repeat (first | refine rg_nil ?_ | refine eg_then ?_ | refine qsp ?_ | refine qsn ?_ | refine qsl ?_ | refine qsf ?_ | refine cg_ret ?_)
  rw [show decide ((y.topics.length : Int) ≤ 12) = true by simp; omega]
  skip
  exact eg_return rfl rfl rfl
end Go.Wm
namespace Go.Wm
open Go.RowKit Go.Proofs
attribute [local irreducible] RG CG EG WA Loc Det Alc CT Exit.then Exit.inBlock Code.wp bodyPost
set_option maxHeartbeats 8000000 in
theorem confWhole_walk {k : PH} {cs : List Value} {x : Conf} {al : Option Addr} {cl : Nat} {l : List Step} {B : Prop} (hx : tConf.rep k cs x) (_ : x.small) (hl : Sl tStep k al cl l) (_ : B) : CT Try.prog 3 #[.agg cs.toArray, .slice al l.length cl] k (fun _ v => v = .bool true) := by
  obtain ⟨a0, c0, a1, c1, a2, c2, a3, c3, rfl, ⟨s0, s1, s2, s3⟩, hok⟩ := hx
  have H : CfAt k x a0 c0 a1 c1 a2 c2 a3 c3 := ⟨s0, s1, s2, s3⟩
  refine ct_of_body (l := [_, _]) Try.func3 rfl Try.ntmps3 (by simp) (fun _ _ _ _ h => h) fun F hF0 hFm => ?_
  have b1' := hl.cap; have b2' := hl.max; unfold maxLen at b2'
  repeat (first | refine cg_seq ?_ | refine cg_region ?_)
  refine rb rfl rfl rfl rfl (a_box rfl rfl) ?_; intro b2 k2 hb2 hN2 hle2 hk2
  have H := H.le hle2
  have hl := hl.le hle2
  have cc := cells_at (vs := x.cs a0 c0 a1 c1 a2 c2 a3 c3) hk2 rfl
  repeat (first | refine cg_seq ?_ | refine cg_region ?_ | refine rg_nil ?_ | refine eg_then ?_ | refine qsp ?_)
  refine rs rfl rfl (loc_call_is rfl rfl rfl rfl (live_ct)) ?_
  repeat (first | refine cg_seq ?_ | refine cg_region ?_ | refine rg_nil ?_ | refine eg_then ?_ | refine qsp ?_ | refine qsg ?_ | refine cg_cond_false rfl ?_ | refine cg_skip ?_)
  refine rs rfl rfl (loc_call_is rfl rfl rfl rfl (few_ct a0 c0 a1 c1 a2 c2 a3 c3)) ?_
  cases q0 : fewC x
  · repeat (first | refine cg_seq ?_ | refine cg_region ?_ | refine rg_nil ?_ | refine eg_then ?_ | refine qsp ?_ | refine qso ?_ | refine cg_cond_true rfl ?_ | refine cg_ret ?_ | refine eg_then_ret ?_)
    exact eg_return rfl rfl rfl
  have hu := few_upto q0
  repeat (first | refine rg_nil ?_ | refine eg_then ?_ | refine qsp ?_ | refine qsn ?_)
  cases q1 : decide ((l.length : Int) > 40)
  rotate_left
  · repeat (first | refine cg_seq ?_ | refine cg_region ?_ | refine rg_nil ?_ | refine eg_then ?_ | refine qsp ?_ | refine cg_cond_true rfl ?_ | refine cg_ret ?_ | refine eg_then_ret ?_)
    exact eg_return rfl rfl rfl
  have hl40 : l.length ≤ 40 := by simp at q1; omega
  repeat (first | refine cg_seq ?_ | refine cg_region ?_ | refine eg_then ?_ | refine qsp ?_ | refine qsg ?_ | refine cg_cond_false rfl ?_ | refine cg_skip ?_)
  refine rvn rfl rfl rfl rfl rfl rfl rfl (all_ctn (l := l) H ⟨by have := hu.1; omega, by have := hu.2.1; omega, by have := hu.2.2.1; omega, by have := hu.2.2.2; omega⟩ hl (by omega)) ?_
  rintro N5 k5 v5 hN5 hnew5 hle5 ⟨e0, f0, e1, f1, e2, f2, e3, f3, rfl, HO⟩
  obtain ⟨r, hr⟩ : ∃ r, allR x l = r := ⟨_, rfl⟩
  rw [hr] at HO ⊢
  repeat (first | refine qsp ?_)
  refine rb rfl rfl rfl rfl (a_alloc rfl) ?_; intro b6 k6 hb6 hN6 hle6 hk6
  refine rw1 (vs := r.1.cs e0 f0 e1 f1 e2 f2 e3 f3) rfl rfl rfl rfl rfl rfl rfl hk6 rfl (.inl hN6) ?_ ?_
  · simp [Conf.cs, Value.oneCell']
  intro k7 ht7 hk7
  have hle7 : Le k5 k7 := ht7 k5 hle6 hb6
  have G := (HO.le hle7).cf
  have H := H.le (hle5.trans hle7)
  have hl := hl.le (hle5.trans hle7)
  have cc := cc.le (hle5.trans hle7)
  have cr := cells_at (vs := r.1.cs e0 f0 e1 f1 e2 f2 e3 f3) hk7 rfl
  repeat (first | refine cg_seq ?_ | refine cg_region ?_ | refine rg_nil ?_ | refine eg_then ?_ | refine qsp ?_ | refine qsg ?_)
  refine rs rfl rfl (loc_call_is rfl rfl rfl rfl (check_ct H)) ?_
  cases q2 : confP x
  · have hr' : r = (noConf, 0, 1) := by rw [← hr]; simp [allR, q2]
    subst hr'
    simp only [Bool.false_eq_true, if_false]
    repeat (first | refine cg_seq ?_ | refine cg_region ?_ | refine rg_nil ?_ | refine eg_then ?_ | refine qsp ?_ | refine qsg ?_ | refine cg_cond_true rfl ?_)
    refine rs rfl rfl (loc_det rfl (d_lit (cells := noConf.cs none 0 none 0 none 0 none 0) rfl rfl rfl)) ?_
    have hs := same_ct G (noCf k7)
    rw [decide_eq_true rfl] at hs
    refine rs rfl rfl (loc_call_is rfl rfl rfl rfl (hs)) ?_
    repeat (first | refine rg_nil ?_ | refine eg_then ?_ | refine qsp ?_ | refine cg_ret ?_ | refine eg_then_ret ?_)
    exact eg_return rfl rfl rfl
  have hall : allR x l = allC x 0 l := by simp [allR, q2]
  rw [hr] at hall
  have hv := (conf_parts q2).1
  simp only [inI, Bool.and_eq_true, decide_eq_true_eq] at hv
  simp only [if_true]
  repeat (first | refine cg_seq ?_ | refine cg_region ?_ | refine rg_nil ?_ | refine eg_then ?_ | refine qsp ?_ | refine qsg ?_ | refine cg_cond_false rfl ?_ | refine cg_skip ?_)
  refine rb rfl rfl rfl rfl (a_alloc rfl) ?_; intro b8 k8 hb8 hN8 hle8 hk8
  refine rw1 (vs := x.cs a0 c0 a1 c1 a2 c2 a3 c3) rfl rfl rfl rfl rfl rfl rfl hk8 rfl (.inl hN8) ?_ ?_
  · simp [Conf.cs, Value.oneCell']
  intro k9 ht9 hk9
  have hle9 : Le k7 k9 := ht9 k7 hle8 hb8
  repeat (first | refine cg_seq ?_ | refine cg_region ?_ | refine rg_nil ?_ | refine eg_then ?_ | refine qsp ?_ | refine qsn ?_ | refine cg_block ?_)
  refine cg_loop (fun (i : Nat) e k' => ∃ y u0 w0 u1 w1 u2 w2 u3 w3, i ≤ l.length ∧ r = allC y i (l.drop i) ∧ y.ver = x.ver + i ∧ y.upto (60 + i) ∧ Le k7 k' ∧ k' b8 = some (.cells (y.cs u0 w0 u1 w1 u2 w2 u3 w3).toArray 27 (0, 0)) ∧ CfAt k' y u0 w0 u1 w1 u2 w2 u3 w3 ∧
      e = [(1, .is (.slice al l.length cl)), (2, .is (.pointer (some ⟨b2, 0, none⟩))), (5, .is (.pointer (some ⟨b6, 0, none⟩))), (6, .is (.int .i64 (r.2.1 : Int))), (7, .is (.int .i64 r.2.2)), (8, .is (.pointer (some ⟨b8, 0, none⟩))), (45, .is (.slice al l.length cl)), (46, .is (.int .i64 (l.length : Int))), (47, .is (.int .i64 (i : Int)))])
    (fun i => l.length - i) 0 ⟨x, a0, c0, a1, c1, a2, c2, a3, c3, Nat.zero_le _, by simpa using hall, by simp, by simpa using hu, hle9, hk9, H.le hle9, rfl⟩ ⟨rfl, rfl, rfl, rfl, rfl, rfl, rfl, rfl, rfl, trivial⟩ ?_
  rintro i e k10 ⟨y, u0, w0, u1, w1, u2, w2, u3, w3, hi, hal, hyv, hyu, hle10, hkb, HY, rfl⟩
  have hyu0 := hyu.1; have hyu1 := hyu.2.1; have hyu2 := hyu.2.2.1; have hyu3 := hyu.2.2.2
  repeat (first | refine cg_seq ?_ | refine cg_region ?_ | refine rg_nil ?_ | refine eg_then ?_ | refine qsp ?_)
  refine cg_cond rfl (fun h => ?_) (fun h => ?_)
  · have hlt : i < l.length := by simpa using h
    rw [all_step hlt] at hal
    obtain ⟨s, hs⟩ : ∃ s, l[i] = s := ⟨_, rfl⟩
    obtain ⟨bx, ox, cx, ea, ⟨ecx, hsok⟩, hcx⟩ := (hl.le hle10).el i s (by rw [List.getElem?_eq_getElem hlt, hs])
    subst ecx
    rw [ea]
    rw [hs] at hal
    have hyu' := do_upto (s := s) hyu
    have hright := @do_right y s
    have hno := @do_no y s
    repeat (first | refine cg_seq ?_ | refine cg_region ?_ | refine eg_then ?_ | refine qsp ?_ | refine qsi ?_ | refine qsg ?_ | refine cg_skip ?_ | refine cg_block ?_)
    refine rb rfl rfl rfl rfl (a_alloc rfl) ?_; intro b11 k11 hb11 hN11 hle11 hk11
    repeat (first | refine qsp ?_)
    refine rw1 (vs := s.vs) rfl rfl rfl rfl rfl rfl rfl hk11 rfl (.inl hN11) ?_ ?_
    · exact Step.one k s.vs s ⟨rfl, hsok⟩
    intro k12 ht12 hk12
    have hle12 : Le k10 k12 := ht12 k10 hle11 hb11
    have cs := cells_at (vs := s.vs) hk12 rfl
    have cy := cells_at (vs := y.cs u0 w0 u1 w1 u2 w2 u3 w3) (hle12 _ _ hkb) rfl
    have hdo := do_ctn (s := s) (HY.le hle12) ⟨by omega, by omega, by omega, by omega⟩ hsok
    obtain ⟨z, hz⟩ : ∃ z, doC y s = z := ⟨_, rfl⟩
    rw [hz] at hdo hal hyu' hright hno
    repeat (first | refine cg_seq ?_ | refine cg_region ?_ | refine rg_nil ?_ | refine eg_then ?_ | refine qsg ?_)
    refine rvn rfl rfl rfl rfl rfl rfl rfl hdo ?_
    rintro N13 k13 v13 hN13 hnew13 hle13 ⟨t0, o0, t1, o1, t2, o2, t3, o3, rfl, HZ⟩
    repeat (first | refine qsp ?_)
    refine rb rfl rfl rfl rfl (a_alloc rfl) ?_; intro b14 k14 hb14 hN14 hle14 hk14
    refine rw1 (vs := z.1.cs t0 o0 t1 o1 t2 o2 t3 o3) rfl rfl rfl rfl rfl rfl rfl hk14 rfl (.inl hN14) ?_ ?_
    · simp [Conf.cs, Value.oneCell']
    intro k15 ht15 hk15
    have hle15 : Le k13 k15 := ht15 k13 hle14 hb14
    have cz := cells_at (vs := z.1.cs t0 o0 t1 o1 t2 o2 t3 o3) hk15 rfl
    have hleAll : Le k7 k15 := hle10.trans (hle12.trans (hle13.trans hle15))
    repeat (first | refine cg_seq ?_ | refine cg_region ?_ | refine rg_nil ?_ | refine eg_then ?_ | refine qsp ?_)
    cases q3 : (z.2 != 0)
    · have q3' : z.2 = 0 := by simpa using q3
      rw [if_pos q3'] at hal
      have hkb15 := hle15 _ _ (hle13 _ _ (hle12 _ _ hkb))
      have hzv := (hright q3').2
      repeat (first | refine cg_region ?_ | refine eg_then ?_ | refine qsg ?_ | refine cg_cond_false rfl ?_ | refine cg_skip ?_)
      refine rw1 (vs := z.1.cs t0 o0 t1 o1 t2 o2 t3 o3) rfl rfl rfl rfl rfl rfl rfl hkb15 rfl (.inl hN8) ?_ ?_
      · simp [Conf.cs, Value.oneCell']
      intro k16 ht16 hk16
      have HZ := (((HZ.le hle15).N_le hN13).turn ht16 hkb15 (by decide) (by decide) (by decide) (by decide)).cf
      repeat (first | refine cg_region ?_ | refine rg_nil ?_ | refine eg_then ?_ | refine qsp ?_ | refine qsa ?_ | refine eg_in_normal ?_)
      refine eg_again (i + 1) _ ⟨z.1, t0, o0, t1, o1, t2, o2, t3, o3, hlt, hal, by omega, hyu', ht16 k7 hleAll ?_, hk16, HZ, rfl⟩ (by omega) ⟨?_, rfl, rfl, rfl, rfl, rfl, ?_, rfl, rfl, trivial⟩
      · exact hb8
      · rfl
      · rfl
    · have q3' : ¬ z.2 = 0 := by simpa using q3
      rw [if_neg q3'] at hal
      have e1 : r.1 = noConf := by rw [hal]
      have e2 : r.2.1 = i := by rw [hal]
      have e3 : r.2.2 = z.2 := by rw [hal]
      have cr := cr.le hleAll
      have hs := same_ct (G.le hleAll) (noCf k15)
      rw [decide_eq_true e1] at hs
      repeat (first | refine cg_seq ?_ | refine cg_region ?_ | refine qsp ?_ | refine cg_cond_true rfl ?_)
      rw [show (r.2.2 == z.2) = true by simp [e3]]
      repeat (first | refine qsp ?_)
      rw [show ((r.2.1 : Int) == (i : Int)) = true by simp [e2]]
      repeat (first | refine qsg ?_)
      refine rs rfl rfl (loc_det rfl (d_lit (cells := noConf.cs none 0 none 0 none 0 none 0) rfl rfl rfl)) ?_
      refine rs rfl rfl (loc_call_is rfl rfl rfl rfl (hs)) ?_
      repeat (first | refine rg_nil ?_ | refine eg_then ?_ | refine qsp ?_ | refine cg_ret ?_ | refine eg_then_ret ?_ | refine eg_in_ret ?_)
      exact eg_return rfl rfl rfl
  · have hil : i = l.length := by simp at h; omega
    rw [hil, List.drop_length] at hal
    have e1 : r.1 = y := by rw [hal]; rfl
    have e2 : r.2.1 = l.length := by rw [hal]; rfl
    have e3 : r.2.2 = 0 := by rw [hal]; rfl
    have cy := cells_at (vs := y.cs u0 w0 u1 w1 u2 w2 u3 w3) hkb rfl
    have cr := cr.le hle10
    have hs := same_ct (G.le hle10) HY
    rw [decide_eq_true e1] at hs
    repeat (first | refine cg_seq ?_ | refine cg_region ?_ | refine eg_then ?_ | refine qsp ?_ | refine cg_exit ?_ | refine eg_then_exit ?_ | refine eg_in_exit ?_)
    rw [show (r.2.2 == 0) = true by simp [e3]]
    repeat (first | refine qsp ?_ | refine qsn ?_)
    rw [show ((r.2.1 : Int) == (l.length : Int)) = true by simp [e2]]
    repeat (first | refine qsg ?_)
    refine rs rfl rfl (loc_call_is rfl rfl rfl rfl (hs)) ?_
    obtain ⟨z0, z1, z2, z3, z4⟩ := Conf.parts (cc.le hle10)
    obtain ⟨w0, w1, w2, w3, w4⟩ := Conf.parts cr
    repeat (first | refine rg_nil ?_ | refine eg_then ?_ | refine qsp ?_ | refine qsn ?_ | refine qsa ?_ | refine qsl ?_ | refine qsf ?_ | refine cg_ret ?_)
    rw [show (r.1.ver == x.ver + (l.length : Int)) = true by simp [e1, hyv, hil]]
    skip
    exact eg_return rfl rfl rfl
end Go.Wm

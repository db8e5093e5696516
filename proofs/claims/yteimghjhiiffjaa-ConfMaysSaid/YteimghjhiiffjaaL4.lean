/-
  ConfMays, walked. Conditions: that what is handed in reads as data.
-/
import Derived.Test.YteimghjhiiffjaaMn2
import Derived.Test.YteimghjhiiffjaaL1
import Derived.Test.YteimghjhiiffjaaR1
import Derived.Test.YteimghjhiiffjaaD9
import Derived.Test.YteimghjhiiffjaaC2
set_option linter.all false
namespace Go.Wm
open Go.RowKit Go.Proofs
theorem right_may {α : Type} {ord : α → α → Int} {may may' : α → Bool} {l : List α} (h : RightP ord may l) (hm : ∀ x ∈ l, may x = true → may' x = true) : RightP ord may' l :=
  fun i hi => ⟨hm _ (List.getElem_mem hi) (h i hi).1, (h i hi).2⟩
theorem right_sub {α : Type} {ord : α → α → Int} (ho : OrdL ord) {may : α → Bool} {l l' : List α} (h : RightP ord may l) (hs : l'.Sublist l) : RightP ord may l' := by
  obtain ⟨h1, h2⟩ := (right_iff ho).1 h
  exact (right_iff ho).2 ⟨fun x hx => h1 x (hs.subset hx), h2.sublist hs⟩
theorem conf_mk {x : Conf} (h : inI x.ver 0 1099511627776 = true ∧ x.topics.length ≤ 12 ∧ RightP ordTopic topicP x.topics ∧ RightP ordRule (ruleP x) x.rules ∧ RightP ordRate rateP x.rates ∧ RightP ordWay (wayP x) x.ways) : confP x = true := by
  simpa [confP, and_assoc] using h
theorem rule_mono {x y : Conf} (h : ∀ s, knownC x s = true → knownC y s = true) {r : Rule} (hr : ruleP x r = true) : ruleP y r = true := by
  simp only [ruleP, Bool.and_eq_true, Bool.or_eq_true] at hr ⊢
  exact ⟨hr.1, hr.2.1.elim .inl fun e => .inr (h _ e), hr.2.2⟩
theorem way_mono {x y : Conf} (h : ∀ s, knownC x s = true → knownC y s = true) {w : Way} (hw : wayP x w = true) : wayP y w = true := by
  simp only [wayP, Bool.and_eq_true] at hw ⊢
  exact ⟨hw.1, hw.2.1, hw.2.2.1, h _ hw.2.2.2⟩
theorem known_iff {x : Conf} {s : ByteArray} : knownC x s = true ↔ ∃ t ∈ x.topics, t.name = s := by
  unfold knownC
  rw [List.any_eq_true]
  simp
theorem used_num {n : Int} (h : numU true n = true) : inI n 0 1099511627776 = true := by
  simp only [numU, Bool.or_eq_true, decide_eq_true_eq, Bool.true_and] at h
  rcases h with rfl | h
  · decide
  · exact h
theorem pair_map {α : Type} {R : α → α → Prop} {f : α → α} (hf : ∀ a b, R a b → R (f a) (f b)) {l : List α} (h : l.Pairwise R) : (l.map f).Pairwise R := by
  rw [List.pairwise_map]
  exact h.imp fun {a b} => hf a b
theorem map_right {x : Conf} {s : ByteArray} {f : Topic → Topic} (hr : RightP ordTopic topicP x.topics) (hn : ∀ t, (f t).name = t.name) (hp : ∀ t ∈ x.topics, t.name = s → topicP (f t) = true) : RightP ordTopic topicP (x.topics.map fun u => if u.name = s then f u else u) := by
  obtain ⟨h1, h2⟩ := (right_iff ordL_topic).1 hr
  have hname : ∀ u : Topic, (if u.name = s then f u else u).name = u.name := fun u => by split <;> simp [hn]
  refine (right_iff ordL_topic).2 ⟨fun t ht => ?_, pair_map (fun a b h => ?_) h2⟩
  · obtain ⟨u, hu, rfl⟩ := List.mem_map.1 ht
    split
    · rename_i he; exact hp u hu he
    · exact h1 u hu
  · unfold ordTopic at h ⊢
    rw [hname, hname]; exact h
theorem map_known {x y : Conf} {s : ByteArray} {f : Topic → Topic} (hn : ∀ t, (f t).name = t.name) (hy : y.topics = x.topics.map fun u => if u.name = s then f u else u) {q : ByteArray} (h : knownC x q = true) : knownC y q = true := by
  obtain ⟨t, ht, rfl⟩ := known_iff.1 h
  refine known_iff.2 ⟨_, by rw [hy]; exact List.mem_map.2 ⟨t, ht, rfl⟩, ?_⟩
  split <;> simp [hn]
theorem form_kind' {s : Step} (h : formS s = true) : 1 ≤ s.kind ∧ s.kind ≤ 8 := by
  unfold formS at h
  split at h
  · cases h
  · rename_i heq
    unfold useK at heq
    repeat' split at heq
    all_goals first | omega | cases heq
set_option maxHeartbeats 2000000 in
theorem act_right {x y : Conf} {s : Step} (hx : confP x = true) (hs : formS s = true) (ha : actC x s = .ok y) : confP y = true ∧ y.ver = x.ver := by
  obtain ⟨r1, r2, r3, r4, r5, r6⟩ := conf_parts hx
  have hk := hs
  unfold formS useK at hs
  unfold actC at ha
  by_cases k1 : s.kind = 1
  · rw [if_pos k1] at ha hs
    simp only [Bool.and_eq_true] at hs
    obtain ⟨f1, f2, f3, f4, f5⟩ := hs
    split at ha
    · cases ha
    rename_i hn
    split at ha
    · cases ha
    rename_i hb
    simp only [Bool.or_eq_true, Bool.not_eq_true', not_or, Bool.not_eq_false, decide_eq_true_eq] at hb
    cases ha
    have hm : metF (fun y => ordTopic y ⟨s.name, s.a, decide (s.b = 1), s.c⟩) x.topics = knownC x s.name := known_met r3 s.name
    have hmem : ∀ t ∈ x.topics, t ∈ putInL ordTopic x.topics ⟨s.name, s.a, decide (s.b = 1), s.c⟩ true := fun t ht => by
      unfold putInL
      rw [hm, if_neg hn, if_pos rfl]
      rw [← List.take_append_drop (posF (fun y => ordTopic y ⟨s.name, s.a, decide (s.b = 1), s.c⟩) x.topics) x.topics] at ht
      rcases List.mem_append.1 ht with h | h
      · exact List.mem_append_left _ h
      · exact List.mem_append_right _ (List.mem_cons_of_mem _ h)
    have hkn : ∀ q, knownC x q = true → knownC { x with topics := putInL ordTopic x.topics ⟨s.name, s.a, decide (s.b = 1), s.c⟩ true } q = true := fun q h => by
      obtain ⟨t, ht, e⟩ := known_iff.1 h
      exact known_iff.2 ⟨t, hmem t ht, e⟩
    refine ⟨conf_mk ⟨r1, ?_, right_put ordL_topic r3 fun _ => ?_, right_may r4 fun r _ h => rule_mono hkn h, r5, right_may r6 fun w _ h => way_mono hkn h⟩, rfl⟩
    · have := put_len ordTopic x.topics ⟨s.name, s.a, decide (s.b = 1), s.c⟩ true
      show (putInL _ _ _ _).length ≤ 12
      have := hb.2.2
      omega
    · simp only [topicP, Bool.and_eq_true]
      exact ⟨f1, hb.1, used_num f5⟩
  rw [if_neg k1] at ha hs
  by_cases k2 : s.kind = 2
  · rw [if_pos k2] at ha hs
    split at ha
    · cases ha
      have hkn : ∀ q, q ≠ s.name → knownC x q = true → knownC { x with topics := x.topics.filter fun t => !decide (t.name = s.name), rules := x.rules.filter fun r => !decide (r.topic = s.name), ways := x.ways.filter fun w => !decide (w.topic = s.name) } q = true := fun q hq h => by
        obtain ⟨t, ht, e⟩ := known_iff.1 h
        exact known_iff.2 ⟨t, List.mem_filter.2 ⟨ht, by simpa [e] using hq⟩, e⟩
      refine ⟨conf_mk ⟨r1, Nat.le_trans (List.length_filter_le _ _) r2, right_sub ordL_topic r3 List.filter_sublist, right_may (right_sub ordL_rule r4 List.filter_sublist) fun r hr h => ?_, r5, right_may (right_sub ordL_way r6 List.filter_sublist) fun w hw h => ?_⟩, rfl⟩
      · have hne : r.topic ≠ s.name := by simpa using (List.mem_filter.1 hr).2
        simp only [ruleP, Bool.and_eq_true, Bool.or_eq_true] at h ⊢
        exact ⟨h.1, h.2.1.elim .inl fun e => .inr (hkn _ hne e), h.2.2⟩
      · have hne : w.topic ≠ s.name := by simpa using (List.mem_filter.1 hw).2
        simp only [wayP, Bool.and_eq_true] at h ⊢
        exact ⟨h.1, h.2.1, h.2.2.1, hkn _ hne h.2.2.2⟩
    · cases ha
  rw [if_neg k2] at ha hs
  by_cases k3 : s.kind = 3
  · rw [if_pos k3] at ha hs
    split at ha
    · cases ha
    rename_i t hf
    split at ha
    · rename_i hi
      cases ha
      have htn : t.name = s.name := by simpa using List.find?_some hf
      have htm := List.mem_of_find?_eq_some hf
      have hkn : ∀ q, knownC x q = true → knownC { x with topics := x.topics.map fun u => if u.name = s.name then { u with partsV := s.a } else u } q = true := fun q h => map_known (f := fun u => { u with partsV := s.a }) (fun _ => rfl) rfl h
      have htp := ((right_iff ordL_topic).1 r3).1 t htm
      simp only [topicP, inI, Bool.and_eq_true, decide_eq_true_eq] at htp hi
      refine ⟨conf_mk ⟨r1, by simpa using r2, map_right (f := fun u => { u with partsV := s.a }) r3 (fun _ => rfl) (fun u hu he => ?_), right_may r4 fun r _ h => rule_mono hkn h, r5, right_may r6 fun w _ h => way_mono hkn h⟩, rfl⟩
      have hup := ((right_iff ordL_topic).1 r3).1 u hu
      simp only [topicP, inI, Bool.and_eq_true, decide_eq_true_eq] at hup ⊢
      exact ⟨hup.1, ⟨by omega, by omega⟩, hup.2.2⟩
    · cases ha
  rw [if_neg k3] at ha hs
  by_cases k4 : s.kind = 4
  · rw [if_pos k4] at ha hs
    simp only [Bool.and_eq_true] at hs
    obtain ⟨f1, f2, f3, f4, f5⟩ := hs
    split at ha
    · cases ha
      have hkn : ∀ q, knownC x q = true → knownC { x with topics := x.topics.map fun u => if u.name = s.name then { u with keep := s.c } else u } q = true := fun q h => map_known (f := fun u => { u with keep := s.c }) (fun _ => rfl) rfl h
      refine ⟨conf_mk ⟨r1, by simpa using r2, map_right (f := fun u => { u with keep := s.c }) r3 (fun _ => rfl) (fun u hu he => ?_), right_may r4 fun r _ h => rule_mono hkn h, r5, right_may r6 fun w _ h => way_mono hkn h⟩, rfl⟩
      have hup := ((right_iff ordL_topic).1 r3).1 u hu
      simp only [topicP, Bool.and_eq_true] at hup ⊢
      exact ⟨hup.1, hup.2.1, used_num f5⟩
    · cases ha
  rw [if_neg k4] at ha hs
  by_cases k5 : s.kind = 5
  · rw [if_pos k5] at ha hs
    simp only [Bool.and_eq_true] at hs
    obtain ⟨f1, f2, f3, f4, f5⟩ := hs
    split at ha
    · cases ha
    rename_i hn
    split at ha
    · cases ha
    rename_i h7
    cases ha
    refine ⟨conf_mk ⟨r1, r2, r3, right_put ordL_rule r4 fun h0 => ?_, r5, r6⟩, rfl⟩
    have hn' : decide (s.topic = starS) = true ∨ knownC x s.topic = true := by
      cases e1 : decide (s.topic = starS)
      · rw [e1] at hn
        cases e2 : knownC x s.topic
        · rw [e2] at hn; exact absurd rfl hn
        · exact .inr rfl
      · exact .inl rfl
    simp only [decide_eq_true_eq] at h0
    simp only [ruleP, inI, Bool.and_eq_true, Bool.or_eq_true]
    exact ⟨f1, hn', by simp; omega⟩
  rw [if_neg k5] at ha hs
  by_cases k6 : s.kind = 6
  · rw [if_pos k6] at ha hs
    simp only [Bool.and_eq_true] at hs
    obtain ⟨f1, f2, f3, f4, f5⟩ := hs
    have u3 := used_num f3; have u4 := used_num f4
    simp only [inI, Bool.and_eq_true, decide_eq_true_eq] at u3 u4
    split at ha
    · cases ha
    rename_i hb
    simp only [Bool.or_eq_true, bne_iff_ne, ne_eq, decide_eq_decide, decide_eq_true_eq, not_or] at hb
    cases ha
    refine ⟨conf_mk ⟨r1, r2, r3, r4, right_put ordL_rate r5 fun h0 => ?_, r6⟩, rfl⟩
    simp only [decide_eq_true_eq] at h0
    simp only [rateP, inI, Bool.and_eq_true, decide_eq_true_eq]
    have hb1 : s.a = 0 ↔ s.b = 0 := Classical.byContradiction hb.1
    refine ⟨f1, ⟨by omega, by omega⟩, ⟨?_, by omega⟩⟩
    have : ¬ s.b = 0 := fun e => by have := hb1.2 e; omega
    omega
  rw [if_neg k6] at ha hs
  have kk := form_kind' hk
  have k78 : s.kind = 7 ∨ s.kind = 8 := by omega
  rw [if_pos k78] at hs
  simp only [Bool.and_eq_true] at hs
  obtain ⟨f1, f2, f3, f4, f5⟩ := hs
  have u3 := used_num f3; have u4 := used_num f4
  simp only [inI, Bool.and_eq_true, decide_eq_true_eq] at u3 u4
  split at ha
  · rename_i hn
    split at ha
    · cases ha
    rename_i hb
    simp only [Bool.or_eq_true, Bool.and_eq_true, decide_eq_true_eq, not_or, not_and] at hb
    cases ha
    refine ⟨conf_mk ⟨r1, r2, r3, r4, r5, right_put ordL_way r6 fun h0 => ?_⟩, rfl⟩
    simp only [decide_eq_true_eq] at h0
    have hb := hb.2 h0
    simp only [wayP, inI, Bool.and_eq_true, decide_eq_true_eq]
    exact ⟨⟨by omega, by omega⟩, ⟨by omega, by omega⟩, hb.1, hn⟩
  · cases ha
theorem do_right {x : Conf} {s : Step} (h : (doC x s).2 = 0) : confP (doC x s).1 = true ∧ (doC x s).1.ver = x.ver + 1 := by
  obtain ⟨h1, h2, h3, h4⟩ := do_ok h
  obtain ⟨r1, r2, r3, r4, r5, r6⟩ := conf_parts h1
  have hv : confP { x with ver := x.ver + 1 } = true := conf_mk ⟨by simp only [inI, Bool.and_eq_true, decide_eq_true_eq] at r1 ⊢; omega, r2, r3, r4, r5, r6⟩
  exact act_right hv h2 h4
end Go.Wm
namespace Go.Wm
open Go.RowKit Go.Proofs
attribute [local irreducible] RG CG EG WA Loc Det Alc CT Exit.then Exit.inBlock Code.wp bodyPost
theorem few_upto {x : Conf} (h : fewC x = true) : x.upto 60 := by
  simp only [fewC, Bool.and_eq_true, decide_eq_true_eq] at h
  exact ⟨by omega, h.2.1, h.2.2.1, h.2.2.2⟩
theorem upto_few {x : Conf} {n : Nat} (h : x.upto n) (hn : n ≤ 1000000) : x.few := ⟨Nat.le_trans h.1 hn, Nat.le_trans h.2.1 hn, Nat.le_trans h.2.2.1 hn, Nat.le_trans h.2.2.2 hn⟩
set_option maxHeartbeats 4000000 in
theorem confStays_walk {k : PH} {cs ss : List Value} {x : Conf} {s : Step} (hx : tConf.rep k cs x) (_ : x.small) (hs : tStep.rep k ss s) (_ : s.small) : CT Try.prog 4 #[.agg cs.toArray, .agg ss.toArray] k (fun _ v => v = .bool true) := by
  obtain ⟨a0, c0, a1, c1, a2, c2, a3, c3, rfl, ⟨s0, s1, s2, s3⟩, hok⟩ := hx
  obtain ⟨rfl, hsok⟩ := hs
  have H : CfAt k x a0 c0 a1 c1 a2 c2 a3 c3 := ⟨s0, s1, s2, s3⟩
  refine ct_of_body (l := [_, _]) Try.func4 rfl Try.ntmps4 (by simp) (fun _ _ _ _ h => h) fun F hF0 hFm => ?_
  repeat (first | refine cg_seq ?_ | refine cg_region ?_)
  refine rb rfl rfl rfl rfl (a_box rfl rfl) ?_; intro b2 k2 hb2 hN2 hle2 hk2
  refine rb rfl rfl rfl rfl (a_box rfl rfl) ?_; intro b3 k3 hb3 hN3 hle3 hk3
  have H := H.le (hle2.trans hle3)
  have cc := (cells_at (vs := x.cs a0 c0 a1 c1 a2 c2 a3 c3) hk2 rfl).le hle3
  have ct := cells_at (vs := s.vs) hk3 rfl
  repeat (first | refine cg_seq ?_ | refine cg_region ?_ | refine rg_nil ?_ | refine eg_then ?_ | refine qsp ?_)
  refine rs rfl rfl (loc_call_is rfl rfl rfl rfl (live_ct)) ?_
  repeat (first | refine cg_seq ?_ | refine cg_region ?_ | refine rg_nil ?_ | refine eg_then ?_ | refine qsp ?_ | refine qsg ?_ | refine cg_cond_false rfl ?_ | refine cg_skip ?_)
  refine rs rfl rfl (loc_call_is rfl rfl rfl rfl (few_ct a0 c0 a1 c1 a2 c2 a3 c3)) ?_
  cases q0 : fewC x
  · repeat (first | refine cg_seq ?_ | refine cg_region ?_ | refine rg_nil ?_ | refine eg_then ?_ | refine qsp ?_ | refine cg_cond_true rfl ?_ | refine cg_ret ?_ | refine eg_then_ret ?_)
    exact eg_return rfl rfl rfl
  have hu := few_upto q0
  repeat (first | refine cg_seq ?_ | refine cg_region ?_ | refine rg_nil ?_ | refine eg_then ?_ | refine qsp ?_ | refine qsg ?_ | refine cg_cond_false rfl ?_ | refine cg_skip ?_)
  refine rvn rfl rfl rfl rfl rfl rfl rfl (do_ctn (s := s) H (upto_few hu (by decide)) hsok) ?_
  rintro N5 k5 v5 hN5 hnew5 hle5 ⟨e0, f0, e1, f1, e2, f2, e3, f3, rfl, HO⟩
  repeat (first | refine qsp ?_)
  refine rb rfl rfl rfl rfl (a_alloc rfl) ?_; intro b6 k6 hb6 hN6 hle6 hk6
  obtain ⟨y, hy⟩ : ∃ y, (doC x s).1 = y := ⟨_, rfl⟩
  obtain ⟨e, he⟩ : ∃ e, (doC x s).2 = e := ⟨_, rfl⟩
  rw [hy] at HO
  rw [hy, he]
  refine rw1 (vs := y.cs e0 f0 e1 f1 e2 f2 e3 f3) rfl rfl rfl rfl rfl rfl rfl hk6 rfl (.inl hN6) ?_ ?_
  · simp [Conf.cs, Value.oneCell']
  intro k7 ht7 hk7
  have hle7 : Le k5 k7 := ht7 k5 hle6 hb6
  have G := (HO.le hle7).cf
  have H := H.le (hle5.trans hle7)
  have cc := cc.le (hle5.trans hle7)
  have cy := cells_at (vs := y.cs e0 f0 e1 f1 e2 f2 e3 f3) hk7 rfl
  repeat (first | refine cg_seq ?_ | refine cg_region ?_ | refine rg_nil ?_ | refine eg_then ?_ | refine qsp ?_)
  cases q1 : (e != 0)
  rotate_left
  · have hne : (doC x s).2 ≠ 0 := by rw [he]; simpa using q1
    have hyn : y = noConf := by rw [← hy]; exact do_no hne
    repeat (first | refine cg_seq ?_ | refine cg_region ?_ | refine qsg ?_ | refine cg_cond_true rfl ?_)
    refine rs rfl rfl (loc_det rfl (d_lit (cells := noConf.cs none 0 none 0 none 0 none 0) rfl rfl rfl)) ?_
    refine rs rfl rfl (loc_call_is rfl rfl rfl rfl (same_ct G (noCf k7))) ?_
    repeat (first | refine rg_nil ?_ | refine eg_then ?_ | refine qsp ?_ | refine cg_ret ?_ | refine eg_then_ret ?_)
    exact eg_return rfl rfl (by rw [hyn]; rfl)
  have he0 : (doC x s).2 = 0 := by rw [he]; simpa using q1
  obtain ⟨p1, p2⟩ := do_right he0
  have p3 := (do_ok he0).1
  rw [hy] at p1 p2
  have pv := (conf_parts p3).1
  have pl := (conf_parts p1).2.1
  simp only [inI, Bool.and_eq_true, decide_eq_true_eq] at pv
  have hcx := check_ct H
  have hcy := check_ct G
  rw [p3] at hcx
  rw [p1] at hcy
  repeat (first | refine cg_seq ?_ | refine cg_region ?_ | refine eg_then ?_ | refine qsg ?_ | refine cg_cond_false rfl ?_ | refine cg_skip ?_)
  refine rs rfl rfl (loc_call_is rfl rfl rfl rfl (hcx)) ?_
  repeat (first | refine qsp ?_ | refine qsg ?_)
  refine rs rfl rfl (loc_call_is rfl rfl rfl rfl (hcy)) ?_
  obtain ⟨z0, z1, z2, z3, z4⟩ := Conf.parts cc
  obtain ⟨w0, w1, w2, w3, w4⟩ := Conf.parts cy
  repeat (first | refine qsp ?_ | refine qsa ?_ | refine qsl ?_ | refine qsf ?_)
  rw [show (y.ver == x.ver + 1) = true by simp [p2]]
  repeat (first | refine rg_nil ?_ | refine eg_then ?_ | refine qsp ?_ | refine qsn ?_ | refine qsl ?_ | refine qsf ?_ | refine cg_ret ?_)
  rw [show decide ((y.topics.length : Int) ≤ 12) = true by simp; omega]
  skip
  exact eg_return rfl rfl rfl
end Go.Wm
namespace Go.Wm
open Go.RowKit Go.Proofs
def bitsN : List Nat := [1, 2, 4]
def eachF (f : Nat → Bool) (w : Nat) (l : List Nat) : Bool := l.all fun b => !decide (w / b % 2 = 1) || f b
theorem each_succ (f : Nat → Bool) (w : Nat) {l : List Nat} {i : Nat} (h : i < l.length) : eachF f w (l.take (i + 1)) = (eachF f w (l.take i) && (!decide (w / l[i] % 2 = 1) || f l[i])) := by
  unfold eachF
  rw [List.take_succ_eq_append_getElem h, List.all_append]
  simp
theorem bits_law : ∀ g, g < 8 → ∀ w, w < 8 → 1 ≤ w → decide (g &&& w = w) = eachF (fun b => decide (g &&& b = b)) w bitsN := by decide
theorem none_law : ∀ w, w < 8 → 1 ≤ w → eachF (fun _ => false) w bitsN = false := by decide
theorem conf_may {x : Conf} (h : confP x = true) : ∀ r ∈ x.rules, inI r.may 1 7 = true := fun r hr' => by
  obtain ⟨j, hj, rfl⟩ := List.getElem_of_mem hr'
  have := ((conf_parts h).2.2.2.1 j hj).1
  simp only [ruleP, Bool.and_eq_true] at this
  exact this.2.2
theorem mays_each (x : Conf) (who topic : ByteArray) (w : Nat) (h1 : 1 ≤ w) (h7 : w ≤ 7) : mayQ x who topic (w : Int) = eachF (fun b => mayQ x who topic (b : Int)) w bitsN := by
  cases hc : confP x
  · have : (fun b : Nat => mayQ x who topic (b : Int)) = fun _ => false := by funext b; simp [mayQ, hc]
    rw [this, none_law w (by omega) h1]
    simp [mayQ, hc]
  · have hlt := grant_lt who topic (conf_may hc)
    have e : ∀ b : Nat, 1 ≤ b → b ≤ 7 → mayQ x who topic (b : Int) = decide (grantN who topic x.rules &&& b = b) := fun b b1 b7 => by
      have : inI (b : Int) 1 7 = true := by simp [inI]; omega
      rw [mayQ, hc, this, Int.toNat_natCast]
      simp
    rw [e w h1 h7, bits_law _ hlt w (by omega) h1]
    simp only [eachF, bitsN, List.all_cons, List.all_nil]
    rw [e 1 (by decide) (by decide), e 2 (by decide) (by decide), e 4 (by decide) (by decide)]
theorem or_sub_trans {a b c : Nat} (h : a ||| b = b) : a ||| (b ||| c) = b ||| c := by rw [← Nat.or_assoc, h]
theorem or_sub_both {a b c : Nat} (h : a ||| b = b) : (a ||| c) ||| (b ||| c) = b ||| c := by
  rw [Nat.or_assoc, ← Nat.or_assoc c b c, Nat.or_comm c b, Nat.or_assoc b c c, Nat.or_self, ← Nat.or_assoc, h]
theorem grant_sub (who topic : ByteArray) (l : List Rule) : grantN starS starS l ||| grantN who topic l = grantN who topic l := by
  unfold grantN
  have : ∀ (l : List Rule) (a b : Nat), a ||| b = b → l.foldl (fun m r => if hitR starS starS r = true then m ||| r.may.toNat else m) a ||| l.foldl (fun m r => if hitR who topic r = true then m ||| r.may.toNat else m) b = l.foldl (fun m r => if hitR who topic r = true then m ||| r.may.toNat else m) b := by
    intro l
    induction l with
    | nil => intro a b h; exact h
    | cons r l ih =>
      intro a b h
      simp only [List.foldl_cons]
      apply ih
      by_cases h1 : hitR starS starS r = true
      · have h2 : hitR who topic r = true := by
          simp only [hitR, Bool.and_eq_true, Bool.or_eq_true, or_self] at h1 ⊢
          exact ⟨.inr h1.1, .inr h1.2⟩
        rw [if_pos h1, if_pos h2]
        exact or_sub_both h
      · rw [if_neg h1]
        split
        · exact or_sub_trans h
        · exact h
  exact this l 0 0 rfl
theorem star_law : ∀ a, a < 8 → ∀ b, b < 8 → a ||| b = b → ∀ w, w < 8 → a &&& w = w → b &&& w = w := by decide
theorem mays_star (x : Conf) (who topic : ByteArray) (w : Nat) (h : mayQ x starS starS (w : Int) = true) : mayQ x who topic (w : Int) = true := by
  simp only [mayQ, Bool.and_eq_true, decide_eq_true_eq] at h ⊢
  obtain ⟨hc, hi, hg⟩ := h
  refine ⟨hc, hi, ?_⟩
  simp only [inI, Bool.and_eq_true, decide_eq_true_eq] at hi
  exact star_law _ (grant_lt _ _ (conf_may hc)) _ (grant_lt _ _ (conf_may hc)) (grant_sub _ _ _) _ (by omega) hg
end Go.Wm
namespace Go.Wm
open Go.RowKit Go.Proofs
attribute [local irreducible] RG CG EG WA Loc Det Alc CT Exit.then Exit.inBlock Code.wp bodyPost
set_option maxHeartbeats 4000000 in
theorem confMays_walk {k : PH} {cs : List Value} {x : Conf} {who topic : ByteArray} (hx : tConf.rep k cs x) (_ : x.small) (_ : who.size ≤ maxLen) (_ : topic.size ≤ maxLen) : CT Try.prog 5 #[.agg cs.toArray, .string who, .string topic] k (fun _ v => v = .bool true) := by
  obtain ⟨a0, c0, a1, c1, a2, c2, a3, c3, rfl, ⟨s0, s1, s2, s3⟩, hok⟩ := hx
  have H : CfAt k x a0 c0 a1 c1 a2 c2 a3 c3 := ⟨s0, s1, s2, s3⟩
  refine ct_of_body (l := [_, _, _]) Try.func5 rfl Try.ntmps5 (by simp) (fun _ _ _ _ h => h) fun F hF0 hFm => ?_
  repeat (first | refine cg_seq ?_ | refine cg_region ?_)
  refine rb rfl rfl rfl rfl (a_box rfl rfl) ?_; intro b2 k2 hb2 hN2 hle2 hk2
  have H := H.le hle2
  have cc := cells_at (vs := x.cs a0 c0 a1 c1 a2 c2 a3 c3) hk2 rfl
  repeat (first | refine cg_seq ?_ | refine cg_region ?_ | refine rg_nil ?_ | refine eg_then ?_ | refine qsp ?_)
  refine rs rfl rfl (loc_call_is rfl rfl rfl rfl (live_ct)) ?_
  repeat (first | refine cg_seq ?_ | refine cg_region ?_ | refine rg_nil ?_ | refine eg_then ?_ | refine qsp ?_ | refine qsg ?_ | refine cg_cond_false rfl ?_ | refine cg_skip ?_)
  refine rs rfl rfl (loc_call_is rfl rfl rfl rfl (few_ct a0 c0 a1 c1 a2 c2 a3 c3)) ?_
  cases q0 : fewC x
  · repeat (first | refine cg_seq ?_ | refine cg_region ?_ | refine rg_nil ?_ | refine eg_then ?_ | refine qsp ?_ | refine cg_cond_true rfl ?_ | refine cg_ret ?_ | refine eg_then_ret ?_)
    exact eg_return rfl rfl rfl
  repeat (first | refine cg_seq ?_ | refine cg_region ?_ | refine rg_nil ?_ | refine eg_then ?_ | refine qsp ?_ | refine cg_cond_false rfl ?_ | refine cg_skip ?_ | refine cg_block ?_)
  refine cg_loop (fun (i : Nat) e k' => 1 ≤ i ∧ i ≤ 8 ∧ Le k2 k' ∧ e = [(1, .is (.string who)), (2, .is (.string topic)), (3, .is (.pointer (some ⟨b2, 0, none⟩))), (7, .is (.int .i64 (i : Int)))])
    (fun i => 8 - i) 1 ⟨by decide, by decide, Le.refl _, rfl⟩ ⟨rfl, rfl, rfl, rfl, trivial⟩ ?_
  rintro w e k3 ⟨h1, h8, hle3, rfl⟩
  repeat (first | refine cg_seq ?_ | refine cg_region ?_ | refine rg_nil ?_ | refine eg_then ?_ | refine qsp ?_)
  refine cg_cond rfl (fun h => ?_) (fun h => ?_)
  · have h7 : w ≤ 7 := by simp at h; omega
    have H := H.le hle3
    have cc := cc.le hle3
    have law1 := mays_each x who topic w h1 h7
    have law2 := mays_star x who topic w
    repeat (first | refine cg_seq ?_ | refine cg_region ?_ | refine rg_nil ?_ | refine eg_then ?_ | refine qsp ?_ | refine cg_skip ?_ | refine cg_block ?_)
    refine rb rfl rfl rfl rfl (a_slice (cells := [.int .i64 1, .int .i64 2, .int .i64 4]) rfl rfl rfl rfl (by kernel_rfl) rfl) ?_; intro b4 k4 hb4 hN4 hle4 hk4
    have hsl : Sl tInt k4 (some ⟨b4, 0, none⟩) 3 [1, 2, 4] := sl_flat (f := fun n : Int => [Value.int .i64 n]) (xs := [1, 2, 4]) hk4 rfl (fun y hy => ⟨rfl, by
      unfold I64
      simp only [List.mem_cons, List.not_mem_nil, or_false] at hy
      rcases hy with rfl | rfl | rfl <;> decide⟩) (by simp [maxLen])
    have H := H.le hle4
    have cc := cc.le hle4
    repeat (first | refine rg_nil ?_ | refine eg_then ?_ | refine qsp ?_ | refine qsn ?_ | refine cg_block ?_)
    refine cg_loop (fun (i : Nat) e k' => i ≤ 3 ∧ k4 = k' ∧ e = [(1, .is (.string who)), (2, .is (.string topic)), (3, .is (.pointer (some ⟨b2, 0, none⟩))), (7, .is (.int .i64 (w : Int))), (8, .is (.bool (eachF (fun b => mayQ x who topic (b : Int)) w (bitsN.take i)))), (20, .is (.slice (some ⟨b4, 0, none⟩) 3 3)), (21, .is (.int .i64 3)), (22, .is (.int .i64 (i : Int)))])
      (fun i => 3 - i) 0 ⟨by decide, rfl, rfl⟩ ⟨rfl, rfl, rfl, rfl, rfl, rfl, rfl, rfl, trivial⟩ ?_
    rintro i e k5 ⟨hi, rfl, rfl⟩
    repeat (first | refine cg_seq ?_ | refine cg_region ?_ | refine rg_nil ?_ | refine eg_then ?_ | refine qsp ?_)
    refine cg_cond rfl (fun h => ?_) (fun h => ?_)
    · have hlt : i < 3 := by simp at h; omega
      have hsu := each_succ (fun b => mayQ x who topic (b : Int)) w (l := bitsN) (i := i) hlt
      obtain ⟨b, hb, hb0, hbi⟩ : ∃ b : Nat, bitsN[i] = b ∧ 0 < b ∧ ([1, 2, 4] : List Int)[i] = (b : Int) := by
        obtain rfl | rfl | rfl : i = 0 ∨ i = 1 ∨ i = 2 := by omega
        · exact ⟨1, rfl, by decide, rfl⟩
        · exact ⟨2, rfl, by decide, rfl⟩
        · exact ⟨4, rfl, by decide, rfl⟩
      rw [hb] at hsu
      obtain ⟨bx, ox, cx, ea, ⟨ecx, _⟩, hcx⟩ := hsl.el i (b : Int) (by rw [← hbi]; exact List.getElem?_eq_getElem _)
      subst ecx
      simp only [Option.some.injEq, Addr.mk.injEq, and_true] at ea
      obtain ⟨rfl, rfl⟩ := ea
      generalize eachF (fun b => mayQ x who topic (b : Int)) w (bitsN.take i) = ev at hsu ⊢
      repeat (first | refine cg_seq ?_ | refine cg_region ?_ | refine rg_nil ?_ | refine eg_then ?_ | refine qsp ?_ | refine qsi ?_ | refine qsl ?_ | refine cg_skip ?_ | refine cg_block ?_)
      refine rs rfl rfl (loc_det rfl (d_quo (a := w) (b := b) rfl rfl rfl hb0 (by omega))) ?_
      refine rs rfl rfl (loc_det rfl (d_rem (a := w / b) (b := 2) rfl rfl rfl (by decide))) ?_
      repeat (first | refine rg_nil ?_ | refine eg_then ?_ | refine qsp ?_)
      cases q1 : (((w / b % 2 : Nat) : Int) == 1)
      · have q1' : decide (w / b % 2 = 1) = false := by simp at q1 ⊢; omega
        repeat (first | refine cg_region ?_ | refine rg_nil ?_ | refine eg_then ?_ | refine qsp ?_ | refine qsa ?_ | refine cg_cond_false rfl ?_ | refine cg_skip ?_ | refine eg_in_normal ?_)
        refine eg_again (i + 1) _ ⟨hlt, rfl, rfl⟩ (by omega) ⟨rfl, rfl, rfl, rfl, ?_, rfl, rfl, rfl, trivial⟩
        rw [hsu, q1']; simp [get, Nat.beq]
      · have q1' : decide (w / b % 2 = 1) = true := by simp at q1 ⊢; omega
        rw [q1'] at hsu
        cases ev
        · repeat (first | refine cg_region ?_ | refine rg_nil ?_ | refine eg_then ?_ | refine qsp ?_ | refine qsa ?_ | refine qso ?_ | refine cg_cond_true rfl ?_ | refine eg_in_normal ?_)
          refine eg_again (i + 1) _ ⟨hlt, rfl, rfl⟩ (by omega) ⟨rfl, rfl, rfl, rfl, ?_, rfl, rfl, rfl, trivial⟩
          rw [hsu]; rfl
        · repeat (first | refine cg_region ?_ | refine qsp ?_ | refine qsg ?_ | refine cg_cond_true rfl ?_)
          refine rs rfl rfl (loc_call_is rfl rfl rfl rfl (may_ct H who topic (b : Int))) ?_
          repeat (first | refine cg_region ?_ | refine rg_nil ?_ | refine eg_then ?_ | refine qsp ?_ | refine qsa ?_ | refine eg_in_normal ?_)
          refine eg_again (i + 1) _ ⟨hlt, rfl, rfl⟩ (by omega) ⟨rfl, rfl, rfl, rfl, ?_, rfl, rfl, rfl, trivial⟩
          rw [hsu]; rfl
    · have hi3 : i = 3 := by simp at h; omega
      subst hi3
      rw [show bitsN.take 3 = bitsN from rfl, ← law1]
      repeat (first | refine cg_seq ?_ | refine cg_region ?_ | refine eg_then ?_ | refine qsp ?_ | refine qsg ?_ | refine cg_exit ?_ | refine eg_then_exit ?_ | refine eg_in_exit ?_)
      refine rs rfl rfl (loc_call_is rfl rfl rfl rfl (may_ct H who topic (w : Int))) ?_
      repeat (first | refine qsp ?_)
      refine rs rfl rfl (loc_det rfl (d_neb rfl rfl rfl)) ?_
      rw [show (!(mayQ x who topic (w : Int) == mayQ x who topic (w : Int))) = false by simp]
      repeat (first | refine qsp ?_ | refine qsg ?_)
      refine rs rfl rfl (loc_call_is rfl rfl rfl rfl (may_ct H ⟨#[42]⟩ ⟨#[42]⟩ (w : Int))) ?_
      repeat (first | refine qsp ?_)
      cases q2 : mayQ x ⟨#[42]⟩ ⟨#[42]⟩ (w : Int)
      · repeat (first | refine cg_region ?_ | refine rg_nil ?_ | refine eg_then ?_ | refine qsp ?_ | refine qsa ?_ | refine qso ?_ | refine cg_cond_false rfl ?_ | refine cg_skip ?_ | refine eg_in_normal ?_)
        exact eg_again (w + 1) _ ⟨by omega, by omega, hle3.trans hle4, rfl⟩ (by omega) ⟨rfl, rfl, rfl, rfl, trivial⟩
      · have hm := law2 q2
        have hct := may_ct H who topic (w : Int)
        rw [hm] at hct
        repeat (first | refine qsp ?_ | refine qsg ?_)
        refine rs rfl rfl (loc_call_is rfl rfl rfl rfl (hct)) ?_
        repeat (first | refine cg_region ?_ | refine rg_nil ?_ | refine eg_then ?_ | refine qsp ?_ | refine qsa ?_ | refine cg_cond_false rfl ?_ | refine cg_skip ?_ | refine eg_in_normal ?_)
        exact eg_again (w + 1) _ ⟨by omega, by omega, hle3.trans hle4, rfl⟩ (by omega) ⟨rfl, rfl, rfl, rfl, trivial⟩
  · have H := H.le hle3
    have cc := cc.le hle3
    have m0 := may_ct H who topic 0
    have m8 := may_ct H who topic 8
    rw [show mayQ x who topic 0 = false by simp [mayQ, inI]] at m0
    rw [show mayQ x who topic 8 = false by simp [mayQ, inI]] at m8
    repeat (first | refine cg_seq ?_ | refine cg_region ?_ | refine eg_then ?_ | refine qsp ?_ | refine qsg ?_ | refine cg_exit ?_ | refine eg_then_exit ?_ | refine eg_in_exit ?_)
    refine rs rfl rfl (loc_call_is rfl rfl rfl rfl (m0)) ?_
    repeat (first | refine qsp ?_ | refine qsg ?_)
    refine rs rfl rfl (loc_call_is rfl rfl rfl rfl (m8)) ?_
    repeat (first | refine rg_nil ?_ | refine eg_then ?_ | refine qsp ?_ | refine cg_ret ?_)
    exact eg_return rfl rfl rfl
end Go.Wm

/-
  What is put in its place, said by what stands ahead and behind, in plain Lean. Conditions: none.
-/
import Derived.Test.YteimghjhiiffjaaGreatMn2
import Derived.Test.YteimghjhiiffjaaGreatD9
import Derived.Test.YteimghjhiiffjaaGreatR3
import Derived.Test.YteimghjhiiffjaaGreatCoB
import Derived.Test.YteimghjhiiffjaaGreatC1
set_option linter.all false
namespace Go.Wm
open Go.RowKit Go.Proofs
theorem put_len {α : Type} (ord : α → α → Int) (l : List α) (x : α) (there : Bool) : (putInL ord l x there).length ≤ l.length + 1 := by
  unfold putInL
  split <;> split <;> simp <;> omega
/-- At most n of each. -/
def Conf.upto (x : Conf) (n : Nat) : Prop := x.topics.length ≤ n ∧ x.rules.length ≤ n ∧ x.rates.length ≤ n ∧ x.ways.length ≤ n
theorem act_upto {x y : Conf} {s : Step} {n : Nat} (h : x.upto n) (ha : actC x s = .ok y) : y.upto (n + 1) := by
  obtain ⟨h1, h2, h3, h4⟩ := h
  unfold actC at ha
  unfold Conf.upto
  repeat' split at ha
  all_goals first | cases ha | skip
  all_goals simp only [List.length_map]
  · exact ⟨Nat.le_trans (put_len _ _ _ _) (by omega), by omega, by omega, by omega⟩
  · exact ⟨Nat.le_trans (List.length_filter_le _ _) (by omega), Nat.le_trans (List.length_filter_le _ _) (by omega), by omega, Nat.le_trans (List.length_filter_le _ _) (by omega)⟩
  · exact ⟨by omega, by omega, by omega, by omega⟩
  · exact ⟨by omega, by omega, by omega, by omega⟩
  · exact ⟨by omega, Nat.le_trans (put_len _ _ _ _) (by omega), by omega, by omega⟩
  · exact ⟨by omega, by omega, Nat.le_trans (put_len _ _ _ _) (by omega), by omega⟩
  · exact ⟨by omega, by omega, by omega, Nat.le_trans (put_len _ _ _ _) (by omega)⟩
theorem noConf_upto (n : Nat) : noConf.upto n := ⟨Nat.zero_le _, Nat.zero_le _, Nat.zero_le _, Nat.zero_le _⟩
theorem do_upto {x : Conf} {s : Step} {n : Nat} (h : x.upto n) : (doC x s).1.upto (n + 1) := by
  unfold doC
  split
  · exact noConf_upto _
  · split
    · exact noConf_upto _
    · cases ha : actC { x with ver := x.ver + 1 } s with
      | error e => exact noConf_upto _
      | ok y => exact act_upto (x := { x with ver := x.ver + 1 }) h ha
theorem do_ok {x : Conf} {s : Step} (h : (doC x s).2 = 0) : confP x = true ∧ formS s = true ∧ x.ver ≠ 1099511627776 ∧ actC { x with ver := x.ver + 1 } s = .ok (doC x s).1 := by
  unfold doC at h ⊢
  split at h
  · cases h
  · rename_i h1
    rw [if_neg h1]
    split at h
    · cases h
    · rename_i h2
      rw [if_neg h2]
      simp only [Bool.or_eq_true, Bool.not_eq_true', not_or, Bool.not_eq_false] at h1
      refine ⟨h1.1, h1.2, h2, ?_⟩
      cases ha : actC { x with ver := x.ver + 1 } s with
      | error e =>
        rw [ha] at h
        have h : e = 0 := h
        exfalso
        unfold actC at ha
        repeat' split at ha
        all_goals cases ha
        all_goals omega
      | ok y => rfl
end Go.Wm
namespace Go.Wm
open Go.RowKit Go.Proofs
theorem right_may {α : Type} {ord : α → α → Int} {may may' : α → Bool} {l : List α} (h : RightP ord may l) (hm : ∀ x ∈ l, may x = true → may' x = true) : RightP ord may' l :=
  fun i hi => ⟨hm _ (List.getElem_mem hi) (h i hi).1, (h i hi).2⟩
theorem right_sub {α : Type} {ord : α → α → Int} (ho : OrdL ord) {may : α → Bool} {l l' : List α} (h : RightP ord may l) (hs : l'.Sublist l) : RightP ord may l' := by
  obtain ⟨h1, h2⟩ := (right_iff ho).1 h
  exact (right_iff ho).2 ⟨fun x hx => h1 x (hs.subset hx), h2.sublist hs⟩
theorem conf_mk {x : Conf} (h : inI x.ver 0 1099511627776 = true ∧ x.topics.length ≤ 12 ∧ RightP ordTopic topicP x.topics ∧ RightP ordRule (ruleP x) x.rules ∧ RightP ordRate rateP x.rates ∧ RightP ordWay (wayP x) x.ways) : confP x = true := by
  simpa [confP, and_assoc] using h
theorem rule_mono {x y : Conf} (h : ∀ s, knownC x s = true → knownC y s = true) {r : Rule} (hr : ruleP x r = true) : ruleP y r = true := by
  simp only [ruleP, Bool.and_eq_true, Bool.or_eq_true] at hr ⊢
  exact ⟨hr.1, hr.2.1.elim .inl fun e => .inr (h _ e), hr.2.2⟩
theorem way_mono {x y : Conf} (h : ∀ s, knownC x s = true → knownC y s = true) {w : Way} (hw : wayP x w = true) : wayP y w = true := by
  simp only [wayP, Bool.and_eq_true] at hw ⊢
  exact ⟨hw.1, hw.2.1, hw.2.2.1, h _ hw.2.2.2⟩
theorem known_iff {x : Conf} {s : ByteArray} : knownC x s = true ↔ ∃ t ∈ x.topics, t.name = s := by
  unfold knownC
  rw [List.any_eq_true]
  simp
theorem used_num {n : Int} (h : numU true n = true) : inI n 0 1099511627776 = true := by
  simp only [numU, Bool.or_eq_true, decide_eq_true_eq, Bool.true_and] at h
  rcases h with rfl | h
  · decide
  · exact h
theorem pair_map {α : Type} {R : α → α → Prop} {f : α → α} (hf : ∀ a b, R a b → R (f a) (f b)) {l : List α} (h : l.Pairwise R) : (l.map f).Pairwise R := by
  rw [List.pairwise_map]
  exact h.imp fun {a b} => hf a b
theorem map_right {x : Conf} {s : ByteArray} {f : Topic → Topic} (hr : RightP ordTopic topicP x.topics) (hn : ∀ t, (f t).name = t.name) (hp : ∀ t ∈ x.topics, t.name = s → topicP (f t) = true) : RightP ordTopic topicP (x.topics.map fun u => if u.name = s then f u else u) := by
  obtain ⟨h1, h2⟩ := (right_iff ordL_topic).1 hr
  have hname : ∀ u : Topic, (if u.name = s then f u else u).name = u.name := fun u => by split <;> simp [hn]
  refine (right_iff ordL_topic).2 ⟨fun t ht => ?_, pair_map (fun a b h => ?_) h2⟩
  · obtain ⟨u, hu, rfl⟩ := List.mem_map.1 ht
    split
    · rename_i he; exact hp u hu he
    · exact h1 u hu
  · unfold ordTopic at h ⊢
    rw [hname, hname]; exact h
theorem map_known {x y : Conf} {s : ByteArray} {f : Topic → Topic} (hn : ∀ t, (f t).name = t.name) (hy : y.topics = x.topics.map fun u => if u.name = s then f u else u) {q : ByteArray} (h : knownC x q = true) : knownC y q = true := by
  obtain ⟨t, ht, rfl⟩ := known_iff.1 h
  refine known_iff.2 ⟨_, by rw [hy]; exact List.mem_map.2 ⟨t, ht, rfl⟩, ?_⟩
  split <;> simp [hn]
theorem form_kind' {s : Step} (h : formS s = true) : 1 ≤ s.kind ∧ s.kind ≤ 8 := by
  unfold formS at h
  split at h
  · cases h
  · rename_i heq
    unfold useK at heq
    repeat' split at heq
    all_goals first | omega | cases heq
set_option maxHeartbeats 2000000 in
theorem act_right {x y : Conf} {s : Step} (hx : confP x = true) (hs : formS s = true) (ha : actC x s = .ok y) : confP y = true ∧ y.ver = x.ver := by
  obtain ⟨r1, r2, r3, r4, r5, r6⟩ := conf_parts hx
  have hk := hs
  unfold formS useK at hs
  unfold actC at ha
  by_cases k1 : s.kind = 1
  · rw [if_pos k1] at ha hs
    simp only [Bool.and_eq_true] at hs
    obtain ⟨f1, f2, f3, f4, f5⟩ := hs
    split at ha
    · cases ha
    rename_i hn
    split at ha
    · cases ha
    rename_i hb
    simp only [Bool.or_eq_true, Bool.not_eq_true', not_or, Bool.not_eq_false, decide_eq_true_eq] at hb
    cases ha
    have hm : metF (fun y => ordTopic y ⟨s.name, s.a, decide (s.b = 1), s.c⟩) x.topics = knownC x s.name := known_met r3 s.name
    have hmem : ∀ t ∈ x.topics, t ∈ putInL ordTopic x.topics ⟨s.name, s.a, decide (s.b = 1), s.c⟩ true := fun t ht => by
      unfold putInL
      rw [hm, if_neg hn, if_pos rfl]
      rw [← List.take_append_drop (posF (fun y => ordTopic y ⟨s.name, s.a, decide (s.b = 1), s.c⟩) x.topics) x.topics] at ht
      rcases List.mem_append.1 ht with h | h
      · exact List.mem_append_left _ h
      · exact List.mem_append_right _ (List.mem_cons_of_mem _ h)
    have hkn : ∀ q, knownC x q = true → knownC { x with topics := putInL ordTopic x.topics ⟨s.name, s.a, decide (s.b = 1), s.c⟩ true } q = true := fun q h => by
      obtain ⟨t, ht, e⟩ := known_iff.1 h
      exact known_iff.2 ⟨t, hmem t ht, e⟩
    refine ⟨conf_mk ⟨r1, ?_, right_put ordL_topic r3 fun _ => ?_, right_may r4 fun r _ h => rule_mono hkn h, r5, right_may r6 fun w _ h => way_mono hkn h⟩, rfl⟩
    · have := put_len ordTopic x.topics ⟨s.name, s.a, decide (s.b = 1), s.c⟩ true
      show (putInL _ _ _ _).length ≤ 12
      have := hb.2.2
      omega
    · simp only [topicP, Bool.and_eq_true]
      exact ⟨f1, hb.1, used_num f5⟩
  rw [if_neg k1] at ha hs
  by_cases k2 : s.kind = 2
  · rw [if_pos k2] at ha hs
    split at ha
    · cases ha
      have hkn : ∀ q, q ≠ s.name → knownC x q = true → knownC { x with topics := x.topics.filter fun t => !decide (t.name = s.name), rules := x.rules.filter fun r => !decide (r.topic = s.name), ways := x.ways.filter fun w => !decide (w.topic = s.name) } q = true := fun q hq h => by
        obtain ⟨t, ht, e⟩ := known_iff.1 h
        exact known_iff.2 ⟨t, List.mem_filter.2 ⟨ht, by simpa [e] using hq⟩, e⟩
      refine ⟨conf_mk ⟨r1, Nat.le_trans (List.length_filter_le _ _) r2, right_sub ordL_topic r3 List.filter_sublist, right_may (right_sub ordL_rule r4 List.filter_sublist) fun r hr h => ?_, r5, right_may (right_sub ordL_way r6 List.filter_sublist) fun w hw h => ?_⟩, rfl⟩
      · have hne : r.topic ≠ s.name := by simpa using (List.mem_filter.1 hr).2
        simp only [ruleP, Bool.and_eq_true, Bool.or_eq_true] at h ⊢
        exact ⟨h.1, h.2.1.elim .inl fun e => .inr (hkn _ hne e), h.2.2⟩
      · have hne : w.topic ≠ s.name := by simpa using (List.mem_filter.1 hw).2
        simp only [wayP, Bool.and_eq_true] at h ⊢
        exact ⟨h.1, h.2.1, h.2.2.1, hkn _ hne h.2.2.2⟩
    · cases ha
  rw [if_neg k2] at ha hs
  by_cases k3 : s.kind = 3
  · rw [if_pos k3] at ha hs
    split at ha
    · cases ha
    rename_i t hf
    split at ha
    · rename_i hi
      cases ha
      have htn : t.name = s.name := by simpa using List.find?_some hf
      have htm := List.mem_of_find?_eq_some hf
      have hkn : ∀ q, knownC x q = true → knownC { x with topics := x.topics.map fun u => if u.name = s.name then { u with partsV := s.a } else u } q = true := fun q h => map_known (f := fun u => { u with partsV := s.a }) (fun _ => rfl) rfl h
      have htp := ((right_iff ordL_topic).1 r3).1 t htm
      simp only [topicP, inI, Bool.and_eq_true, decide_eq_true_eq] at htp hi
      refine ⟨conf_mk ⟨r1, by simpa using r2, map_right (f := fun u => { u with partsV := s.a }) r3 (fun _ => rfl) (fun u hu he => ?_), right_may r4 fun r _ h => rule_mono hkn h, r5, right_may r6 fun w _ h => way_mono hkn h⟩, rfl⟩
      have hup := ((right_iff ordL_topic).1 r3).1 u hu
      simp only [topicP, inI, Bool.and_eq_true, decide_eq_true_eq] at hup ⊢
      exact ⟨hup.1, ⟨by omega, by omega⟩, hup.2.2⟩
    · cases ha
  rw [if_neg k3] at ha hs
  by_cases k4 : s.kind = 4
  · rw [if_pos k4] at ha hs
    simp only [Bool.and_eq_true] at hs
    obtain ⟨f1, f2, f3, f4, f5⟩ := hs
    split at ha
    · cases ha
      have hkn : ∀ q, knownC x q = true → knownC { x with topics := x.topics.map fun u => if u.name = s.name then { u with keep := s.c } else u } q = true := fun q h => map_known (f := fun u => { u with keep := s.c }) (fun _ => rfl) rfl h
      refine ⟨conf_mk ⟨r1, by simpa using r2, map_right (f := fun u => { u with keep := s.c }) r3 (fun _ => rfl) (fun u hu he => ?_), right_may r4 fun r _ h => rule_mono hkn h, r5, right_may r6 fun w _ h => way_mono hkn h⟩, rfl⟩
      have hup := ((right_iff ordL_topic).1 r3).1 u hu
      simp only [topicP, Bool.and_eq_true] at hup ⊢
      exact ⟨hup.1, hup.2.1, used_num f5⟩
    · cases ha
  rw [if_neg k4] at ha hs
  by_cases k5 : s.kind = 5
  · rw [if_pos k5] at ha hs
    simp only [Bool.and_eq_true] at hs
    obtain ⟨f1, f2, f3, f4, f5⟩ := hs
    split at ha
    · cases ha
    rename_i hn
    split at ha
    · cases ha
    rename_i h7
    cases ha
    refine ⟨conf_mk ⟨r1, r2, r3, right_put ordL_rule r4 fun h0 => ?_, r5, r6⟩, rfl⟩
    have hn' : decide (s.topic = starS) = true ∨ knownC x s.topic = true := by
      cases e1 : decide (s.topic = starS)
      · rw [e1] at hn
        cases e2 : knownC x s.topic
        · rw [e2] at hn; exact absurd rfl hn
        · exact .inr rfl
      · exact .inl rfl
    simp only [decide_eq_true_eq] at h0
    simp only [ruleP, inI, Bool.and_eq_true, Bool.or_eq_true]
    exact ⟨f1, hn', by simp; omega⟩
  rw [if_neg k5] at ha hs
  by_cases k6 : s.kind = 6
  · rw [if_pos k6] at ha hs
    simp only [Bool.and_eq_true] at hs
    obtain ⟨f1, f2, f3, f4, f5⟩ := hs
    have u3 := used_num f3; have u4 := used_num f4
    simp only [inI, Bool.and_eq_true, decide_eq_true_eq] at u3 u4
    split at ha
    · cases ha
    rename_i hb
    simp only [Bool.or_eq_true, bne_iff_ne, ne_eq, decide_eq_decide, decide_eq_true_eq, not_or] at hb
    cases ha
    refine ⟨conf_mk ⟨r1, r2, r3, r4, right_put ordL_rate r5 fun h0 => ?_, r6⟩, rfl⟩
    simp only [decide_eq_true_eq] at h0
    simp only [rateP, inI, Bool.and_eq_true, decide_eq_true_eq]
    have hb1 : s.a = 0 ↔ s.b = 0 := Classical.byContradiction hb.1
    refine ⟨f1, ⟨by omega, by omega⟩, ⟨?_, by omega⟩⟩
    have : ¬ s.b = 0 := fun e => by have := hb1.2 e; omega
    omega
  rw [if_neg k6] at ha hs
  have kk := form_kind' hk
  have k78 : s.kind = 7 ∨ s.kind = 8 := by omega
  rw [if_pos k78] at hs
  simp only [Bool.and_eq_true] at hs
  obtain ⟨f1, f2, f3, f4, f5⟩ := hs
  have u3 := used_num f3; have u4 := used_num f4
  simp only [inI, Bool.and_eq_true, decide_eq_true_eq] at u3 u4
  split at ha
  · rename_i hn
    split at ha
    · cases ha
    rename_i hb
    simp only [Bool.or_eq_true, Bool.and_eq_true, decide_eq_true_eq, not_or, not_and] at hb
    cases ha
    refine ⟨conf_mk ⟨r1, r2, r3, r4, r5, right_put ordL_way r6 fun h0 => ?_⟩, rfl⟩
    simp only [decide_eq_true_eq] at h0
    have hb := hb.2 h0
    simp only [wayP, inI, Bool.and_eq_true, decide_eq_true_eq]
    exact ⟨⟨by omega, by omega⟩, ⟨by omega, by omega⟩, hb.1, hn⟩
  · cases ha
theorem do_right {x : Conf} {s : Step} (h : (doC x s).2 = 0) : confP (doC x s).1 = true ∧ (doC x s).1.ver = x.ver + 1 := by
  obtain ⟨h1, h2, h3, h4⟩ := do_ok h
  obtain ⟨r1, r2, r3, r4, r5, r6⟩ := conf_parts h1
  have hv : confP { x with ver := x.ver + 1 } = true := conf_mk ⟨by simp only [inI, Bool.and_eq_true, decide_eq_true_eq] at r1 ⊢; omega, r2, r3, r4, r5, r6⟩
  exact act_right hv h2 h4
end Go.Wm
namespace Go.Wm
open Go.RowKit Go.Proofs
def dropS (name : ByteArray) : Step := ⟨2, name, ⟨#[]⟩, 0, 0, 0⟩
end Go.Wm
namespace Go.Wm
open Go.RowKit Go.Proofs
attribute [local irreducible] RG CG EG WA Loc Det Alc CT Exit.then Exit.inBlock Code.wp bodyPost
def noRate : Rate := ⟨⟨#[]⟩, 0, 0⟩
def rateF (l : List Rate) (s : ByteArray) : Option Rate := l.find? fun r => decide (r.who = s)
def rateQ (x : Conf) (who : ByteArray) : Rate × Bool := if confP x = true then (match rateF x.rates who with | some r => (r, true) | none => (match rateF x.rates starS with | some r => (r, true) | none => (noRate, false))) else (noRate, false)
def nmR (who : ByteArray) (i : Nat) : ByteArray := if i = 0 then who else starS
def RateV (q : Rate × Bool) (v : Value) : Prop := v = .tuple #[.agg q.1.vs.toArray, .bool q.2]
set_option maxHeartbeats 1000000 in
theorem refGoesIn_ct {k : PH} {x : Conf} (a0 : Option Addr) (c0 : Nat) (a1 : Option Addr) (c1 : Nat) (a2 : Option Addr) (c2 : Nat) {a3 : Option Addr} {c3 : Nat} (hw : Sl tWay k a3 c3 x.ways) (w : Way) :
    CT Tryz.prog 67 #[.agg (x.cs a0 c0 a1 c1 a2 c2 a3 c3).toArray, .agg w.vs.toArray] k (fun _ v => v = .bool (goesC x w)) := by
  refine ct_of_body (l := [_, _]) Tryz.func67 rfl Tryz.ntmps67 (by simp) (fun _ _ _ _ h => h) fun F hF0 hFm => ?_
  have m1 := hw.cap; have m2 := hw.max; unfold maxLen at m2
  repeat (first | refine cg_seq ?_ | refine cg_region ?_)
  refine rb rfl rfl rfl rfl (a_box rfl rfl) ?_; intro s2 k2 hb2 hN2 hle2 hk2
  refine rb rfl rfl rfl rfl (a_box rfl rfl) ?_; intro s3 k3 hb3 hN3 hle3 hk3
  have hw := hw.le (hle2.trans hle3)
  obtain ⟨p0, p1, p2, p3, p4⟩ := Conf.parts ((cells_at (vs := x.cs a0 c0 a1 c1 a2 c2 a3 c3) hk2 rfl).le hle3)
  have cw := cells_at (vs := w.vs) hk3 rfl
  repeat (first | refine cg_seq ?_ | refine cg_region ?_ | refine rg_nil ?_ | refine eg_then ?_ | refine qsp ?_ | refine qsn ?_ | refine qsl ?_ | refine qsf ?_ | refine cg_block ?_)
  refine cg_loop (fun (i : Nat) e k' => i ≤ x.ways.length ∧ Le k3 k' ∧ (∀ v ∈ x.ways.take i, decide (v = w) = false) ∧ e = [(3, .is (.pointer (some ⟨s3, 0, none⟩))), (8, .is (.slice a3 x.ways.length c3)), (9, .is (.int .i64 (x.ways.length : Int))), (10, .is (.int .i64 (i : Int)))])
    (fun i => x.ways.length - i) 0 ⟨Nat.zero_le _, Le.refl _, by simp, rfl⟩ ⟨rfl, rfl, rfl, rfl, trivial⟩ ?_
  rintro i e k1 ⟨hi, hle, hno, rfl⟩
  repeat (first | refine cg_seq ?_ | refine cg_region ?_ | refine rg_nil ?_ | refine eg_then ?_ | refine qsp ?_)
  refine cg_cond rfl (fun h => ?_) (fun h => ?_)
  · have hlt : i < x.ways.length := by simpa using h
    obtain ⟨v, hv⟩ : ∃ v, x.ways[i] = v := ⟨_, rfl⟩
    obtain ⟨bx, ox, cx, ea, ⟨ecx, _⟩, hcx⟩ := (hw.le hle).el i v (by rw [List.getElem?_eq_getElem hlt, hv])
    subst ecx
    subst ea
    repeat (first | refine cg_seq ?_ | refine cg_region ?_ | refine eg_then ?_ | refine qsi ?_ | refine qsg ?_ | refine cg_skip ?_ | refine cg_block ?_)
    refine rb rfl rfl rfl rfl (a_alloc rfl) ?_; intro s6 k6 hb6 hN6 hle6 hk6
    refine rw1 (vs := v.vs) rfl rfl rfl rfl rfl rfl rfl hk6 rfl (.inl hN6) ?_ ?_
    · simp [Way.vs, Value.oneCell']
    intro k7 ht7 hk7
    have hle7 : Le k1 k7 := ht7 k1 hle6 hb6
    have cv := cells_at (vs := v.vs) hk7 rfl
    have cw := cw.le (hle.trans hle7)
    repeat (first | refine cg_seq ?_ | refine cg_region ?_ | refine rg_nil ?_ | refine eg_then ?_ | refine qsg ?_ | refine qsE ?_)
    cases q : decide (v = w)
    · repeat (first | refine cg_region ?_ | refine rg_nil ?_ | refine eg_then ?_ | refine qsp ?_ | refine qsa ?_ | refine cg_cond_false rfl ?_ | refine cg_skip ?_ | refine eg_in_normal ?_)
      refine eg_again (i + 1) _ ⟨hlt, hle.trans hle7, fun u hu => ?_, rfl⟩ (by omega) ⟨rfl, rfl, rfl, rfl, trivial⟩
      rw [List.take_succ_eq_append_getElem hlt] at hu
      rcases List.mem_append.1 hu with h | h
      · exact hno u h
      · simp at h; rw [h, hv]; exact q
    · repeat (first | refine cg_seq ?_ | refine cg_region ?_ | refine rg_nil ?_ | refine eg_then ?_ | refine qsp ?_ | refine cg_cond_true rfl ?_ | refine cg_ret ?_ | refine eg_then_ret ?_ | refine eg_in_ret ?_)
      refine eg_return rfl rfl ?_
      have : goesC x w = true := List.any_eq_true.2 ⟨v, by rw [← hv]; exact List.getElem_mem hlt, q⟩
      rw [this]
  · have hil : i = x.ways.length := by simp at h; omega
    rw [hil, List.take_length] at hno
    repeat (first | refine cg_seq ?_ | refine cg_region ?_ | refine rg_nil ?_ | refine eg_then ?_ | refine qsp ?_ | refine cg_ret ?_ | refine cg_exit ?_ | refine eg_then_exit ?_ | refine eg_in_exit ?_)
    refine eg_return rfl rfl ?_
    have : goesC x w = false := List.any_eq_false.2 fun v hv => by rw [hno v hv]; simp
    rw [this]
end Go.Wm
namespace Go.Wm
open Go.RowKit Go.Proofs
theorem filter_succ {α : Type} (f : α → Bool) {l : List α} {i : Nat} (h : i < l.length) : (l.take (i + 1)).filter f = (l.take i).filter f ++ (if f l[i] = true then [l[i]] else []) := by
  rw [List.take_succ_eq_append_getElem h, List.filter_append]
  congr 1
  by_cases e : f l[i] = true <;> simp [e]
theorem filter_all {α : Type} {f : α → Bool} {l : List α} (h : ∀ x ∈ l, f x = true) : l.filter f = l := List.filter_eq_self.2 h
theorem filter_no {α : Type} {f : α → Bool} {l : List α} (h : ∀ x ∈ l, f x = false) : l.filter f = [] := List.filter_eq_nil_iff.2 fun x hx => by rw [h x hx]; simp
theorem put_ref {α : Type} {ord : α → α → Int} (ho : OrdL ord) {may : α → Bool} {l : List α} (hr : RightP ord may l) (x : α) (there : Bool) :
    (l.filter (fun y => decide (ord y x < 0)) ++ (if there = true then [x] else [])) ++ l.filter (fun y => decide (ord x y < 0)) = putInL ord l x there := by
  have hp := ((right_iff ho).1 hr).2
  obtain ⟨p, hpp⟩ : ∃ p, posF (fun y => ord y x) l = p := ⟨_, rfl⟩
  have hb : ∀ y ∈ l.take p, ord y x < 0 := by rw [← hpp]; exact take_below
  have hnb : ∀ y, ord y x < 0 → ¬ ord x y < 0 := fun y h => by have := ho.sw y x; omega
  by_cases hm : metF (fun y => ord y x) l = true
  · obtain ⟨hl, hz⟩ := metF_lt hm
    simp only [hpp] at hl hz
    have ha : ∀ y ∈ l.drop (p + 1), ord x y < 0 := fun y hy => by
      obtain ⟨j, hj, rfl⟩ := List.getElem_of_mem hy
      rw [List.length_drop] at hj
      rw [List.getElem_drop]
      have := List.pairwise_iff_getElem.1 hp p (p + 1 + j) hl (by omega) (by omega)
      exact (ho.eqL _ _ hz _).1 this
    have hna : ∀ y, ord x y < 0 → ¬ ord y x < 0 := fun y h => by have := ho.sw x y; omega
    have hzx : ¬ ord x l[p] < 0 := fun h => by have := ho.sw x l[p]; omega
    have e1 : l.filter (fun y => decide (ord y x < 0)) = l.take p := by
      conv => lhs; rw [split_at hl]
      rw [List.filter_append, List.filter_cons_of_neg (by simp [hz]), filter_all (fun y hy => decide_eq_true (hb y hy)), filter_no (fun y hy => decide_eq_false (hna y (ha y hy))), List.append_nil]
    have e2 : l.filter (fun y => decide (ord x y < 0)) = l.drop (p + 1) := by
      conv => lhs; rw [split_at hl]
      rw [List.filter_append, List.filter_cons_of_neg (by simpa using hzx), filter_no (fun y hy => decide_eq_false (hnb y (hb y hy))), filter_all (fun y hy => decide_eq_true (ha y hy)), List.nil_append]
    rw [e1, e2, putInL, if_pos hm, hpp]
    cases there
    · simp
    · simp only [if_true]
      rw [List.set_eq_take_append_cons_drop, if_pos hl, List.append_assoc]
      rfl
  · have ha : ∀ y ∈ l.drop p, ord x y < 0 := by rw [← hpp]; exact drop_above ho hp hm
    have hna : ∀ y, ord x y < 0 → ¬ ord y x < 0 := fun y h => by have := ho.sw x y; omega
    have e1 : l.filter (fun y => decide (ord y x < 0)) = l.take p := by
      conv => lhs; rw [← List.take_append_drop p l]
      rw [List.filter_append, filter_all (fun y hy => decide_eq_true (hb y hy)), filter_no (fun y hy => decide_eq_false (hna y (ha y hy))), List.append_nil]
    have e2 : l.filter (fun y => decide (ord x y < 0)) = l.drop p := by
      conv => lhs; rw [← List.take_append_drop p l]
      rw [List.filter_append, filter_no (fun y hy => decide_eq_false (hnb y (hb y hy))), filter_all (fun y hy => decide_eq_true (ha y hy)), List.nil_append]
    rw [e1, e2, putInL, if_neg hm, hpp]
    cases there
    · simp
    · simp
theorem at_uniq {x : Conf} {s : ByteArray} (hr : RightP ordTopic topicP x.topics) {i j : Nat} (hi : i < x.topics.length) (hj : j < x.topics.length) (h1 : (x.topics[i]).name = s) (h2 : (x.topics[j]).name = s) : i = j := by
  have hp := ((right_iff ordL_topic).1 hr).2
  have z : cmpStr (x.topics[i]).name (x.topics[j]).name = 0 := cmpStr_eq.2 (h1.trans h2.symm)
  have z' : cmpStr (x.topics[j]).name (x.topics[i]).name = 0 := cmpStr_eq.2 (h2.trans h1.symm)
  rcases Nat.lt_trichotomy i j with h | h | h
  · have := List.pairwise_iff_getElem.1 hp i j hi hj h
    unfold ordTopic at this; omega
  · exact h
  · have := List.pairwise_iff_getElem.1 hp j i hj hi h
    unfold ordTopic at this; omega
theorem topF_at {x : Conf} {s : ByteArray} (hr : RightP ordTopic topicP x.topics) (hk : knownC x s = true) : topF x s = (posF (fun t => cmpStr t.name s) x.topics : Int) := by
  obtain ⟨h, h1, _, _⟩ := known_at hr hk
  have h0 := topF_known x s
  rw [hk] at h0
  rcases idxF_cases x.topics (fun t => decide (t.name = s)) with ⟨e1, e2⟩ | ⟨i, hi, e1, e2, e3⟩
  · have : topF x s = -1 := e1
    rw [this] at h0; simp at h0
  · have e1 : topF x s = (i : Int) := e1
    rw [e1, at_uniq hr hi h (by simpa using e2) h1]
theorem topF_no {x : Conf} {s : ByteArray} (hk : knownC x s = false) : topF x s = -1 := by
  have h0 := topF_known x s
  rw [hk] at h0
  rcases idxF_cases x.topics (fun t => decide (t.name = s)) with ⟨e1, e2⟩ | ⟨i, hi, e1, e2, e3⟩
  · exact e1
  · have e1 : topF x s = (i : Int) := e1
    rw [e1] at h0; simp at h0
theorem Row.ownL {α : Type} {T : Ty α} {f : α → List Value} {N : Nat} {k : PH} {et : Nat} {v : Value} {l : List α} (h : Row N k et T.sz v l.length (l.flatMap f)) (hr : ∀ x ∈ l, T.rep k (f x) x) : Own T N k et v l :=
  ⟨l.map f, ⟨by simp, fun i cs x h1 h2 => by
    rw [List.getElem?_map, h2] at h1
    cases h1
    exact hr x (List.mem_of_getElem? h2)⟩, by rw [show (l.map f).flatten = l.flatMap f by simp [List.flatMap]]; exact h⟩
theorem sl_ok {α : Type} {T : Ty α} {k : PH} {a : Option Addr} {c : Nat} {l : List α} (h : Sl T k a c l) {x : α} (hx : x ∈ l) : ∃ cs, T.rep k cs x := by
  obtain ⟨i, hi, rfl⟩ := List.getElem_of_mem hx
  obtain ⟨b, off, cs, _, hr, _⟩ := h.el i _ (List.getElem?_eq_getElem hi)
  exact ⟨cs, hr⟩
end Go.Wm

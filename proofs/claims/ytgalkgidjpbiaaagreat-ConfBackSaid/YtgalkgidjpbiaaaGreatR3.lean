/-
  Whether a configuration may be, the document's. Conditions: that what is handed in reads as data.
-/
import Derived.Test.YtgalkgidjpbiaaaGreatR2
set_option linter.all false
namespace Go.Wm
open Go.RowKit Go.Proofs
attribute [local irreducible] RG CG EG WA Loc Det Alc CT Exit.then Exit.inBlock Code.wp bodyPost
theorem right_nil {α : Type} (ord : α → α → Int) (may : α → Bool) (l : List α) : decide (RightP ord may (l.take 0)) = true := decide_eq_true fun i hi => by simp at hi
theorem right_succ {α : Type} (ord : α → α → Int) (may : α → Bool) {l : List α} {i : Nat} (h : i < l.length) : decide (RightP ord may (l.take (i + 1))) = (decide (RightP ord may (l.take i)) && (may l[i] && (decide (i = 0) || decide (ord (l[i - 1]'(by omega)) l[i] < 0)))) := by
  rw [Bool.eq_iff_iff]
  simp only [decide_eq_true_eq, Bool.and_eq_true, Bool.or_eq_true]
  have hlen : (l.take (i + 1)).length = i + 1 := by rw [List.length_take]; omega
  have hlen0 : (l.take i).length = i := by rw [List.length_take]; omega
  constructor
  · intro hr
    refine ⟨fun j hj => ?_, ?_, ?_⟩
    · have := hr j (by omega)
      simp only [List.getElem_take] at this ⊢
      exact this
    · have := (hr i (by omega)).1
      simpa only [List.getElem_take] using this
    · by_cases h0 : i = 0
      · exact .inl h0
      · have := (hr i (by omega)).2 (by omega)
        simp only [List.getElem_take] at this
        exact .inr this
  · rintro ⟨h1, h2, h3⟩ j hj
    rw [hlen] at hj
    by_cases e : j < i
    · have := h1 j (by omega)
      simp only [List.getElem_take] at this ⊢
      exact this
    · have : j = i := by omega
      subst this
      simp only [List.getElem_take]
      exact ⟨h2, fun h0 => h3.resolve_left (by omega)⟩
set_option maxRecDepth 20000 in
set_option maxHeartbeats 8000000 in
theorem refCheck_ct {k : PH} {x : Conf} {a0 : Option Addr} {c0 : Nat} {a1 : Option Addr} {c1 : Nat} {a2 : Option Addr} {c2 : Nat} {a3 : Option Addr} {c3 : Nat} (H : CfAt k x a0 c0 a1 c1 a2 c2 a3 c3) :
    CT Tryz.prog 92 #[.agg (x.cs a0 c0 a1 c1 a2 c2 a3 c3).toArray] k (fun _ v => v = .int .i64 (if confP x = true then 0 else 1)) := by
  refine ct_of_body (l := [_]) Tryz.func92 rfl Tryz.ntmps92 (by simp) (fun _ _ _ _ h => h) fun F hF0 hFm => ?_
  have n0 := H.t.cap; have m0 := H.t.max; have n1 := H.r.cap; have m1 := H.r.max; have n2 := H.q.cap; have m2 := H.q.max; have n3 := H.w.cap; have m3 := H.w.max
  unfold maxLen at m0 m1 m2 m3
  repeat (first | refine cg_seq ?_ | refine cg_region ?_)
  refine rb rfl rfl rfl rfl (a_box rfl rfl) ?_; intro s1 k1 hb1 hN1 hle1 hk1
  have H := H.le hle1
  have cc := cells_at (vs := x.cs a0 c0 a1 c1 a2 c2 a3 c3) hk1 rfl
  obtain ⟨p0, p1, p2, p3, p4⟩ := Conf.parts cc
  obtain ⟨b0, hb0⟩ : ∃ b0, (inI x.ver 0 1099511627776 && decide (x.topics.length ≤ 12)) = b0 := ⟨_, rfl⟩
  have hP : confP x = ((((b0 && decide (RightP ordTopic topicP x.topics)) && decide (RightP ordRule (ruleP x) x.rules)) && decide (RightP ordRate rateP x.rates)) && decide (RightP ordWay (wayP x) x.ways)) := by
    rw [← hb0]; simp only [confP, Bool.and_assoc]
  rw [hP]
  clear hP
  have st : ∀ (b : Bool) {α : Type} (ord : α → α → Int) (may : α → Bool) (l : List α), (b && decide (RightP ord may (l.take 0))) = b := fun b α ord may l => by rw [right_nil, Bool.and_true]
  have e12 : decide ((x.topics.length : Int) ≤ 12) = decide (x.topics.length ≤ 12) := by rw [decide_eq_decide]; omega
  repeat (first | refine cg_seq ?_ | refine cg_region ?_ | refine rg_nil ?_ | refine eg_then ?_ | refine qsp ?_ | refine qsl ?_ | refine qsf ?_)
  refine rs rfl rfl (loc_call_is rfl rfl rfl rfl (refIn_ct x.ver 0 1099511627776)) ?_
  repeat (first | refine qsp ?_)
  apply meet [(1, .is (.pointer (some ⟨s1, 0, none⟩))), (3, .is (.bool b0)), (22, .is (.slice a0 x.topics.length c0)), (23, .is (.int .i64 (x.topics.length : Int))), (24, .is (.int .i64 0))] True
  · intro go
    cases q1 : inI x.ver 0 1099511627776
    · repeat (first | refine cg_seq ?_ | refine cg_region ?_ | refine rg_nil ?_ | refine eg_then ?_ | refine qsp ?_ | refine qsn ?_ | refine qsl ?_ | refine qsf ?_ | refine qso ?_ | refine cg_block ?_)
      exact go _ trivial ⟨rfl, by rw [← hb0, q1]; rfl, rfl, rfl, rfl, trivial⟩
    · repeat (first | refine cg_seq ?_ | refine cg_region ?_ | refine rg_nil ?_ | refine eg_then ?_ | refine qsp ?_ | refine qsn ?_ | refine qsl ?_ | refine qsf ?_ | refine cg_block ?_)
      exact go _ trivial ⟨rfl, by rw [← hb0, q1, ← e12]; rfl, rfl, rfl, rfl, trivial⟩
  intro _
  clear p0
  refine cg_loop (fun (i : Nat) e k' => Le k1 k' ∧ i ≤ x.topics.length ∧ e = [(1, .is (.pointer (some ⟨s1, 0, none⟩))), (3, .is (.bool (b0 && decide (RightP ordTopic topicP (x.topics.take i))))), (22, .is (.slice a0 x.topics.length c0)), (23, .is (.int .i64 (x.topics.length : Int))), (24, .is (.int .i64 (i : Int)))])
    (fun i => x.topics.length - i) 0 ⟨Le.refl _, Nat.zero_le _, rfl⟩ ⟨rfl, by rw [st]; rfl, rfl, rfl, rfl, trivial⟩ ?_
  rintro i e kL0 ⟨hle, hi, rfl⟩
  obtain ⟨ok, hok⟩ : ∃ ok, (b0 && decide (RightP ordTopic topicP (x.topics.take i))) = ok := ⟨_, rfl⟩
  rw [hok]
  repeat (first | refine cg_seq ?_ | refine cg_region ?_ | refine rg_nil ?_ | refine eg_then ?_ | refine qsp ?_)
  refine cg_cond rfl (fun h => ?_) (fun h => ?_)
  · have hlt : i < x.topics.length := by simpa using h
    have hs := right_succ ordTopic topicP hlt
    have hs2 : (b0 && decide (RightP ordTopic topicP (x.topics.take (i + 1)))) = (ok && (topicP x.topics[i] && (decide (i = 0) || decide (ordTopic x.topics[i - 1] x.topics[i] < 0)))) := by rw [hs, ← hok, Bool.and_assoc]
    obtain ⟨bx, ox, cx, ea, ⟨ecx, htok⟩, hcx⟩ := (H.t.le hle).el i x.topics[i] (List.getElem?_eq_getElem hlt)
    obtain ⟨by', oy, cy, ey, ⟨ecy, _⟩, hcy⟩ := (H.t.le hle).el (i - 1) x.topics[i - 1] (List.getElem?_eq_getElem (by omega))
    subst ecx
    subst ecy
    subst ea
    simp only [Option.some.injEq, Addr.mk.injEq, and_true] at ey
    obtain ⟨rfl, rfl⟩ := ey
    obtain ⟨t, ht⟩ : ∃ t, x.topics[i] = t := ⟨_, rfl⟩
    obtain ⟨y, hy⟩ : ∃ y, x.topics[i - 1] = y := ⟨_, rfl⟩
    rw [ht] at hs2 hcx htok
    rw [hy] at hs2 hcy
    clear hs hok
    repeat (first | refine cg_seq ?_ | refine cg_region ?_ | refine eg_then ?_ | refine qsp ?_ | refine qsi ?_ | refine qsg ?_ | refine cg_skip ?_ | refine cg_block ?_)
    refine rb rfl rfl rfl rfl (a_alloc rfl) ?_; intro s4 k4 hb4 hN4 hle4 hk4
    repeat (first | refine qsp ?_)
    refine rw1 (vs := t.vs) rfl rfl rfl rfl rfl rfl rfl hk4 rfl (.inl hN4) ?_ ?_
    · simp [Topic.vs, Value.oneCell']
    intro k5 ht5 hk5
    have hle5 : Le kL0 k5 := ht5 kL0 hle4 hb4
    have hleA := hle.trans hle5
    have p1 := p1.le hleA
    have HT := H.t.le hleA
    obtain ⟨y0, y1, y2, y3⟩ := Topic.parts (hcy.le hle5)
    obtain ⟨t0, t1, t2, t3⟩ := Topic.parts (cells_at (vs := t.vs) hk5 rfl)
    have ct := cells_at (vs := t.vs) hk5 rfl
    have cc := cc.le hleA
    repeat (first | refine rg_nil ?_ | refine eg_then ?_)
    refine cg_any (by kernel_rfl) rfl ?_
    cases ok
    · repeat (first | refine qwp ?_ | refine qwo ?_)
      refine wn rfl ?_
      repeat (first | refine cg_region ?_ | refine rg_nil ?_ | refine eg_then ?_ | refine qsp ?_ | refine qsa ?_ | refine eg_in_normal ?_)
      exact eg_again (i + 1) _ ⟨hleA, hlt, rfl⟩ (by omega) ⟨rfl, by rw [hs2]; rfl, rfl, rfl, rfl, trivial⟩
    repeat (first | refine qwp ?_ | refine qwl ?_ | refine qwf ?_)
    refine ws rfl (loc_call_is rfl rfl rfl rfl (refName_ct t.name htok.1)) ?_
    repeat (first | refine qwp ?_)
    cases q0 : isName t.name
    · repeat (first | refine qwp ?_ | refine qwo ?_)
      refine wn rfl ?_
      repeat (first | refine cg_region ?_ | refine rg_nil ?_ | refine eg_then ?_ | refine qsp ?_ | refine qsa ?_ | refine eg_in_normal ?_)
      exact eg_again (i + 1) _ ⟨hleA, hlt, rfl⟩ (by omega) ⟨rfl, by rw [hs2, show topicP t = false by simp [topicP, q0]]; rfl, rfl, rfl, rfl, trivial⟩
    repeat (first | refine qwl ?_ | refine qwf ?_)
    refine ws rfl (loc_call_is rfl rfl rfl rfl (refIn_ct t.partsV 1 6)) ?_
    repeat (first | refine qwp ?_)
    cases q1 : inI t.partsV 1 6
    · repeat (first | refine qwp ?_ | refine qwo ?_)
      refine wn rfl ?_
      repeat (first | refine cg_region ?_ | refine rg_nil ?_ | refine eg_then ?_ | refine qsp ?_ | refine qsa ?_ | refine eg_in_normal ?_)
      exact eg_again (i + 1) _ ⟨hleA, hlt, rfl⟩ (by omega) ⟨rfl, by rw [hs2, show topicP t = false by simp [topicP, q0, q1]]; rfl, rfl, rfl, rfl, trivial⟩
    repeat (first | refine qwl ?_ | refine qwf ?_)
    refine ws rfl (loc_call_is rfl rfl rfl rfl (refIn_ct t.keep 0 1099511627776)) ?_
    repeat (first | refine qwp ?_)
    cases q2 : inI t.keep 0 1099511627776
    · repeat (first | refine qwp ?_ | refine qwo ?_)
      refine wn rfl ?_
      repeat (first | refine cg_region ?_ | refine rg_nil ?_ | refine eg_then ?_ | refine qsp ?_ | refine qsa ?_ | refine eg_in_normal ?_)
      exact eg_again (i + 1) _ ⟨hleA, hlt, rfl⟩ (by omega) ⟨rfl, by rw [hs2, show topicP t = false by simp [topicP, q0, q1, q2]]; rfl, rfl, rfl, rfl, trivial⟩
    repeat (first | refine qwp ?_)
    have hm : topicP t = true := by simp [topicP, q0, q1, q2]
    cases qi : ((i : Int) == 0)
    rotate_left
    · have h0 : i = 0 := by simpa using qi
      repeat (first | refine qwp ?_ | refine qwo ?_)
      refine wn rfl ?_
      repeat (first | refine cg_region ?_ | refine rg_nil ?_ | refine eg_then ?_ | refine qsp ?_ | refine qsa ?_ | refine eg_in_normal ?_)
      exact eg_again (i + 1) _ ⟨hleA, hlt, rfl⟩ (by omega) ⟨rfl, by rw [hs2, hm, decide_eq_true h0]; rfl, rfl, rfl, rfl, trivial⟩
    have h0 : ¬ i = 0 := by intro e; simp [e] at qi
    repeat (first | refine qwp ?_ | refine qws ?_ | refine qwl ?_ | refine qwf ?_)
    rw [show ((i : Int) - 1) = ((i - 1 : Nat) : Int) by omega]
    repeat (first | refine qwp ?_ | refine qwi ?_ | refine qwl ?_ | refine qwf ?_)
    refine wn rfl ?_
    repeat (first | refine cg_region ?_ | refine rg_nil ?_ | refine eg_then ?_ | refine qsp ?_ | refine qsa ?_ | refine eg_in_normal ?_)
    exact eg_again (i + 1) _ ⟨hleA, hlt, rfl⟩ (by omega) ⟨rfl, by rw [hs2, hm, decide_eq_false h0, show decide (ordTopic y t < 0) = _ from (str_less _ _).symm]; rfl, rfl, rfl, rfl, trivial⟩
  have hil : i = x.topics.length := by simp at h; omega
  rw [hil, List.take_length] at hok
  obtain ⟨b1, hb1⟩ : ∃ b, b = ok := ⟨_, rfl⟩
  rw [hok, ← hb1]
  clear hok hb1 hil h hi
  have H := H.le hle
  have cc := cc.le hle
  obtain ⟨p0, p1, p2, p3, p4⟩ := Conf.parts cc
  clear p0 hle
  repeat (first | refine cg_seq ?_ | refine cg_region ?_ | refine rg_nil ?_ | refine eg_then ?_ | refine qsp ?_ | refine qsn ?_ | refine qsl ?_ | refine qsf ?_ | refine cg_block ?_ | refine cg_exit ?_ | refine eg_then_exit ?_ | refine eg_in_exit ?_)
  refine cg_loop (fun (i : Nat) e k' => Le kL0 k' ∧ i ≤ x.rules.length ∧ e = [(1, .is (.pointer (some ⟨s1, 0, none⟩))), (3, .is (.bool (b1 && decide (RightP ordRule (ruleP x) (x.rules.take i))))), (63, .is (.slice a1 x.rules.length c1)), (64, .is (.int .i64 (x.rules.length : Int))), (65, .is (.int .i64 (i : Int)))])
    (fun i => x.rules.length - i) 0 ⟨Le.refl _, Nat.zero_le _, rfl⟩ ⟨rfl, by rw [st]; rfl, rfl, rfl, rfl, trivial⟩ ?_
  rintro i e kL1 ⟨hle, hi, rfl⟩
  obtain ⟨ok, hok⟩ : ∃ ok, (b1 && decide (RightP ordRule (ruleP x) (x.rules.take i))) = ok := ⟨_, rfl⟩
  rw [hok]
  repeat (first | refine cg_seq ?_ | refine cg_region ?_ | refine rg_nil ?_ | refine eg_then ?_ | refine qsp ?_)
  refine cg_cond rfl (fun h => ?_) (fun h => ?_)
  · have hlt : i < x.rules.length := by simpa using h
    have hs := right_succ ordRule (ruleP x) hlt
    have hs2 : (b1 && decide (RightP ordRule (ruleP x) (x.rules.take (i + 1)))) = (ok && ((ruleP x) x.rules[i] && (decide (i = 0) || decide (ordRule x.rules[i - 1] x.rules[i] < 0)))) := by rw [hs, ← hok, Bool.and_assoc]
    obtain ⟨bx, ox, cx, ea, ⟨ecx, htok⟩, hcx⟩ := (H.r.le hle).el i x.rules[i] (List.getElem?_eq_getElem hlt)
    obtain ⟨by', oy, cy, ey, ⟨ecy, _⟩, hcy⟩ := (H.r.le hle).el (i - 1) x.rules[i - 1] (List.getElem?_eq_getElem (by omega))
    subst ecx
    subst ecy
    subst ea
    simp only [Option.some.injEq, Addr.mk.injEq, and_true] at ey
    obtain ⟨rfl, rfl⟩ := ey
    obtain ⟨t, ht⟩ : ∃ t, x.rules[i] = t := ⟨_, rfl⟩
    obtain ⟨y, hy⟩ : ∃ y, x.rules[i - 1] = y := ⟨_, rfl⟩
    rw [ht] at hs2 hcx htok
    rw [hy] at hs2 hcy
    clear hs hok
    repeat (first | refine cg_seq ?_ | refine cg_region ?_ | refine eg_then ?_ | refine qsp ?_ | refine qsi ?_ | refine qsg ?_ | refine cg_skip ?_ | refine cg_block ?_)
    refine rb rfl rfl rfl rfl (a_alloc rfl) ?_; intro s4 k4 hb4 hN4 hle4 hk4
    repeat (first | refine qsp ?_)
    refine rw1 (vs := t.vs) rfl rfl rfl rfl rfl rfl rfl hk4 rfl (.inl hN4) ?_ ?_
    · simp [Rule.vs, Value.oneCell']
    intro k5 ht5 hk5
    have hle5 : Le kL1 k5 := ht5 kL1 hle4 hb4
    have hleA := hle.trans hle5
    have p2 := p2.le hleA
    have HT := H.t.le hleA
    have hcy := hcy.le hle5
    obtain ⟨t0, t1, t2⟩ := Rule.parts (cells_at (vs := t.vs) hk5 rfl)
    have ct := cells_at (vs := t.vs) hk5 rfl
    have cc := cc.le hleA
    repeat (first | refine rg_nil ?_ | refine eg_then ?_)
    refine cg_any (by kernel_rfl) rfl ?_
    cases ok
    · repeat (first | refine qwp ?_ | refine qwo ?_)
      refine wn rfl ?_
      repeat (first | refine cg_region ?_ | refine rg_nil ?_ | refine eg_then ?_ | refine qsp ?_ | refine qsa ?_ | refine eg_in_normal ?_)
      exact eg_again (i + 1) _ ⟨hleA, hlt, rfl⟩ (by omega) ⟨rfl, by rw [hs2]; rfl, rfl, rfl, rfl, trivial⟩
    repeat (first | refine qwp ?_ | refine qwl ?_ | refine qwf ?_)
    refine ws rfl (loc_call_is rfl rfl rfl rfl (refName_ct t.who htok.1)) ?_
    repeat (first | refine qwp ?_)
    cases q0 : isName t.who
    · repeat (first | refine qwp ?_ | refine qwo ?_)
      refine wn rfl ?_
      repeat (first | refine cg_region ?_ | refine rg_nil ?_ | refine eg_then ?_ | refine qsp ?_ | refine qsa ?_ | refine eg_in_normal ?_)
      exact eg_again (i + 1) _ ⟨hleA, hlt, rfl⟩ (by omega) ⟨rfl, by rw [hs2, show (ruleP x) t = false by simp [ruleP, q0]]; rfl, rfl, rfl, rfl, trivial⟩
    repeat (first | refine qwp ?_ | refine qwl ?_ | refine qwf ?_)
    cases q1 : decide (t.topic = { data := #[42] })
    · repeat (first | refine qwl ?_ | refine qwg ?_ | refine qwf ?_)
      refine ws rfl (loc_call_is rfl rfl rfl rfl (refTopic_ct _ _ _ _ _ _ HT t.topic)) ?_
      repeat (first | refine qwp ?_)
      rw [topF_known]
      cases q2 : knownC x t.topic
      · repeat (first | refine qwp ?_ | refine qwo ?_)
        refine wn rfl ?_
        repeat (first | refine cg_region ?_ | refine rg_nil ?_ | refine eg_then ?_ | refine qsp ?_ | refine qsa ?_ | refine eg_in_normal ?_)
        exact eg_again (i + 1) _ ⟨hleA, hlt, rfl⟩ (by omega) ⟨rfl, by rw [hs2, show ruleP x t = false by rw [ruleP, show decide (t.topic = starS) = false from q1, q2]; simp]; rfl, rfl, rfl, rfl, trivial⟩
      have qk : (decide (t.topic = starS) || knownC x t.topic) = true := by rw [q2]; simp
      repeat (first | refine qwl ?_ | refine qwf ?_)
      refine ws rfl (loc_call_is rfl rfl rfl rfl (refIn_ct t.may 1 7)) ?_
      repeat (first | refine qwp ?_)
      cases q3 : inI t.may 1 7
      · repeat (first | refine qwp ?_ | refine qwo ?_)
        refine wn rfl ?_
        repeat (first | refine cg_region ?_ | refine rg_nil ?_ | refine eg_then ?_ | refine qsp ?_ | refine qsa ?_ | refine eg_in_normal ?_)
        exact eg_again (i + 1) _ ⟨hleA, hlt, rfl⟩ (by omega) ⟨rfl, by rw [hs2, show ruleP x t = false by simp [ruleP, q3]]; rfl, rfl, rfl, rfl, trivial⟩
      repeat (first | refine qwp ?_)
      have hm : ruleP x t = true := by simp [ruleP, q0, qk, q3]
      cases qi : ((i : Int) == 0)
      rotate_left
      · have h0 : i = 0 := by simpa using qi
        repeat (first | refine qwp ?_ | refine qwo ?_)
        refine wn rfl ?_
        repeat (first | refine cg_region ?_ | refine rg_nil ?_ | refine eg_then ?_ | refine qsp ?_ | refine qsa ?_ | refine eg_in_normal ?_)
        exact eg_again (i + 1) _ ⟨hleA, hlt, rfl⟩ (by omega) ⟨rfl, by rw [hs2, hm, decide_eq_true h0]; rfl, rfl, rfl, rfl, trivial⟩
      have h0 : ¬ i = 0 := by intro e; simp [e] at qi
      repeat (first | refine qwp ?_ | refine qws ?_ | refine qwl ?_ | refine qwf ?_)
      rw [show ((i : Int) - 1) = ((i - 1 : Nat) : Int) by omega]
      repeat (first | refine qwi ?_ | refine qwg ?_)
      refine ws rfl (loc_call_is rfl rfl rfl rfl (ruleAhead_ct y t)) ?_
      repeat (first | refine qwp ?_)
      refine wn rfl ?_
      repeat (first | refine cg_region ?_ | refine rg_nil ?_ | refine eg_then ?_ | refine qsp ?_ | refine qsa ?_ | refine eg_in_normal ?_)
      exact eg_again (i + 1) _ ⟨hleA, hlt, rfl⟩ (by omega) ⟨rfl, by rw [hs2, hm, decide_eq_false h0]; rfl, rfl, rfl, rfl, trivial⟩
    have qk : (decide (t.topic = starS) || knownC x t.topic) = true := by unfold starS; rw [q1]; rfl
    repeat (first | refine qwp ?_ | refine qwl ?_ | refine qwf ?_ | refine qwo ?_)
    refine ws rfl (loc_call_is rfl rfl rfl rfl (refIn_ct t.may 1 7)) ?_
    repeat (first | refine qwp ?_)
    cases q3 : inI t.may 1 7
    · repeat (first | refine qwp ?_ | refine qwo ?_)
      refine wn rfl ?_
      repeat (first | refine cg_region ?_ | refine rg_nil ?_ | refine eg_then ?_ | refine qsp ?_ | refine qsa ?_ | refine eg_in_normal ?_)
      exact eg_again (i + 1) _ ⟨hleA, hlt, rfl⟩ (by omega) ⟨rfl, by rw [hs2, show ruleP x t = false by simp [ruleP, q3]]; rfl, rfl, rfl, rfl, trivial⟩
    repeat (first | refine qwp ?_)
    have hm : ruleP x t = true := by simp [ruleP, q0, qk, q3]
    cases qi : ((i : Int) == 0)
    rotate_left
    · have h0 : i = 0 := by simpa using qi
      repeat (first | refine qwp ?_ | refine qwo ?_)
      refine wn rfl ?_
      repeat (first | refine cg_region ?_ | refine rg_nil ?_ | refine eg_then ?_ | refine qsp ?_ | refine qsa ?_ | refine eg_in_normal ?_)
      exact eg_again (i + 1) _ ⟨hleA, hlt, rfl⟩ (by omega) ⟨rfl, by rw [hs2, hm, decide_eq_true h0]; rfl, rfl, rfl, rfl, trivial⟩
    have h0 : ¬ i = 0 := by intro e; simp [e] at qi
    repeat (first | refine qwp ?_ | refine qws ?_ | refine qwl ?_ | refine qwf ?_)
    rw [show ((i : Int) - 1) = ((i - 1 : Nat) : Int) by omega]
    repeat (first | refine qwi ?_ | refine qwg ?_)
    refine ws rfl (loc_call_is rfl rfl rfl rfl (ruleAhead_ct y t)) ?_
    repeat (first | refine qwp ?_)
    refine wn rfl ?_
    repeat (first | refine cg_region ?_ | refine rg_nil ?_ | refine eg_then ?_ | refine qsp ?_ | refine qsa ?_ | refine eg_in_normal ?_)
    exact eg_again (i + 1) _ ⟨hleA, hlt, rfl⟩ (by omega) ⟨rfl, by rw [hs2, hm, decide_eq_false h0]; rfl, rfl, rfl, rfl, trivial⟩
  have hil : i = x.rules.length := by simp at h; omega
  rw [hil, List.take_length] at hok
  obtain ⟨b2, hb2⟩ : ∃ b, b = ok := ⟨_, rfl⟩
  rw [hok, ← hb2]
  clear hok hb2 hil h hi
  have H := H.le hle
  have cc := cc.le hle
  obtain ⟨p0, p1, p2, p3, p4⟩ := Conf.parts cc
  clear p0 hle
  repeat (first | refine cg_seq ?_ | refine cg_region ?_ | refine rg_nil ?_ | refine eg_then ?_ | refine qsp ?_ | refine qsn ?_ | refine qsl ?_ | refine qsf ?_ | refine cg_block ?_ | refine cg_exit ?_ | refine eg_then_exit ?_ | refine eg_in_exit ?_)
  refine cg_loop (fun (i : Nat) e k' => Le kL1 k' ∧ i ≤ x.rates.length ∧ e = [(1, .is (.pointer (some ⟨s1, 0, none⟩))), (3, .is (.bool (b2 && decide (RightP ordRate rateP (x.rates.take i))))), (109, .is (.slice a2 x.rates.length c2)), (110, .is (.int .i64 (x.rates.length : Int))), (111, .is (.int .i64 (i : Int)))])
    (fun i => x.rates.length - i) 0 ⟨Le.refl _, Nat.zero_le _, rfl⟩ ⟨rfl, by rw [st]; rfl, rfl, rfl, rfl, trivial⟩ ?_
  rintro i e kL2 ⟨hle, hi, rfl⟩
  obtain ⟨ok, hok⟩ : ∃ ok, (b2 && decide (RightP ordRate rateP (x.rates.take i))) = ok := ⟨_, rfl⟩
  rw [hok]
  repeat (first | refine cg_seq ?_ | refine cg_region ?_ | refine rg_nil ?_ | refine eg_then ?_ | refine qsp ?_)
  refine cg_cond rfl (fun h => ?_) (fun h => ?_)
  · have hlt : i < x.rates.length := by simpa using h
    have hs := right_succ ordRate rateP hlt
    have hs2 : (b2 && decide (RightP ordRate rateP (x.rates.take (i + 1)))) = (ok && (rateP x.rates[i] && (decide (i = 0) || decide (ordRate x.rates[i - 1] x.rates[i] < 0)))) := by rw [hs, ← hok, Bool.and_assoc]
    obtain ⟨bx, ox, cx, ea, ⟨ecx, htok⟩, hcx⟩ := (H.q.le hle).el i x.rates[i] (List.getElem?_eq_getElem hlt)
    obtain ⟨by', oy, cy, ey, ⟨ecy, _⟩, hcy⟩ := (H.q.le hle).el (i - 1) x.rates[i - 1] (List.getElem?_eq_getElem (by omega))
    subst ecx
    subst ecy
    subst ea
    simp only [Option.some.injEq, Addr.mk.injEq, and_true] at ey
    obtain ⟨rfl, rfl⟩ := ey
    obtain ⟨t, ht⟩ : ∃ t, x.rates[i] = t := ⟨_, rfl⟩
    obtain ⟨y, hy⟩ : ∃ y, x.rates[i - 1] = y := ⟨_, rfl⟩
    rw [ht] at hs2 hcx htok
    rw [hy] at hs2 hcy
    clear hs hok
    repeat (first | refine cg_seq ?_ | refine cg_region ?_ | refine eg_then ?_ | refine qsp ?_ | refine qsi ?_ | refine qsg ?_ | refine cg_skip ?_ | refine cg_block ?_)
    refine rb rfl rfl rfl rfl (a_alloc rfl) ?_; intro s4 k4 hb4 hN4 hle4 hk4
    repeat (first | refine qsp ?_)
    refine rw1 (vs := t.vs) rfl rfl rfl rfl rfl rfl rfl hk4 rfl (.inl hN4) ?_ ?_
    · simp [Rate.vs, Value.oneCell']
    intro k5 ht5 hk5
    have hle5 : Le kL2 k5 := ht5 kL2 hle4 hb4
    have hleA := hle.trans hle5
    have p3 := p3.le hleA
    have HT := H.t.le hleA
    obtain ⟨y0, y1, y2⟩ := Rate.parts (hcy.le hle5)
    obtain ⟨t0, t1, t2⟩ := Rate.parts (cells_at (vs := t.vs) hk5 rfl)
    have ct := cells_at (vs := t.vs) hk5 rfl
    have cc := cc.le hleA
    repeat (first | refine rg_nil ?_ | refine eg_then ?_)
    refine cg_any (by kernel_rfl) rfl ?_
    cases ok
    · repeat (first | refine qwp ?_ | refine qwo ?_)
      refine wn rfl ?_
      repeat (first | refine cg_region ?_ | refine rg_nil ?_ | refine eg_then ?_ | refine qsp ?_ | refine qsa ?_ | refine eg_in_normal ?_)
      exact eg_again (i + 1) _ ⟨hleA, hlt, rfl⟩ (by omega) ⟨rfl, by rw [hs2]; rfl, rfl, rfl, rfl, trivial⟩
    repeat (first | refine qwp ?_ | refine qwl ?_ | refine qwf ?_)
    refine ws rfl (loc_call_is rfl rfl rfl rfl (refName_ct t.who htok.1)) ?_
    repeat (first | refine qwp ?_)
    cases q0 : isName t.who
    · repeat (first | refine qwp ?_ | refine qwo ?_)
      refine wn rfl ?_
      repeat (first | refine cg_region ?_ | refine rg_nil ?_ | refine eg_then ?_ | refine qsp ?_ | refine qsa ?_ | refine eg_in_normal ?_)
      exact eg_again (i + 1) _ ⟨hleA, hlt, rfl⟩ (by omega) ⟨rfl, by rw [hs2, show rateP t = false by simp [rateP, q0]]; rfl, rfl, rfl, rfl, trivial⟩
    repeat (first | refine qwl ?_ | refine qwf ?_)
    refine ws rfl (loc_call_is rfl rfl rfl rfl (refIn_ct t.rate 1 1048576)) ?_
    repeat (first | refine qwp ?_)
    cases q1 : inI t.rate 1 1048576
    · repeat (first | refine qwp ?_ | refine qwo ?_)
      refine wn rfl ?_
      repeat (first | refine cg_region ?_ | refine rg_nil ?_ | refine eg_then ?_ | refine qsp ?_ | refine qsa ?_ | refine eg_in_normal ?_)
      exact eg_again (i + 1) _ ⟨hleA, hlt, rfl⟩ (by omega) ⟨rfl, by rw [hs2, show rateP t = false by simp [rateP, q0, q1]]; rfl, rfl, rfl, rfl, trivial⟩
    repeat (first | refine qwl ?_ | refine qwf ?_)
    refine ws rfl (loc_call_is rfl rfl rfl rfl (refIn_ct t.burst 1 1048576)) ?_
    repeat (first | refine qwp ?_)
    cases q2 : inI t.burst 1 1048576
    · repeat (first | refine qwp ?_ | refine qwo ?_)
      refine wn rfl ?_
      repeat (first | refine cg_region ?_ | refine rg_nil ?_ | refine eg_then ?_ | refine qsp ?_ | refine qsa ?_ | refine eg_in_normal ?_)
      exact eg_again (i + 1) _ ⟨hleA, hlt, rfl⟩ (by omega) ⟨rfl, by rw [hs2, show rateP t = false by simp [rateP, q0, q1, q2]]; rfl, rfl, rfl, rfl, trivial⟩
    repeat (first | refine qwp ?_)
    have hm : rateP t = true := by simp [rateP, q0, q1, q2]
    cases qi : ((i : Int) == 0)
    rotate_left
    · have h0 : i = 0 := by simpa using qi
      repeat (first | refine qwp ?_ | refine qwo ?_)
      refine wn rfl ?_
      repeat (first | refine cg_region ?_ | refine rg_nil ?_ | refine eg_then ?_ | refine qsp ?_ | refine qsa ?_ | refine eg_in_normal ?_)
      exact eg_again (i + 1) _ ⟨hleA, hlt, rfl⟩ (by omega) ⟨rfl, by rw [hs2, hm, decide_eq_true h0]; rfl, rfl, rfl, rfl, trivial⟩
    have h0 : ¬ i = 0 := by intro e; simp [e] at qi
    repeat (first | refine qwp ?_ | refine qws ?_ | refine qwl ?_ | refine qwf ?_)
    rw [show ((i : Int) - 1) = ((i - 1 : Nat) : Int) by omega]
    repeat (first | refine qwp ?_ | refine qwi ?_ | refine qwl ?_ | refine qwf ?_)
    refine wn rfl ?_
    repeat (first | refine cg_region ?_ | refine rg_nil ?_ | refine eg_then ?_ | refine qsp ?_ | refine qsa ?_ | refine eg_in_normal ?_)
    exact eg_again (i + 1) _ ⟨hleA, hlt, rfl⟩ (by omega) ⟨rfl, by rw [hs2, hm, decide_eq_false h0, show decide (ordRate y t < 0) = _ from (str_less _ _).symm]; rfl, rfl, rfl, rfl, trivial⟩
  have hil : i = x.rates.length := by simp at h; omega
  rw [hil, List.take_length] at hok
  obtain ⟨b3, hb3⟩ : ∃ b, b = ok := ⟨_, rfl⟩
  rw [hok, ← hb3]
  clear hok hb3 hil h hi
  have H := H.le hle
  have cc := cc.le hle
  obtain ⟨p0, p1, p2, p3, p4⟩ := Conf.parts cc
  clear p0 hle
  repeat (first | refine cg_seq ?_ | refine cg_region ?_ | refine rg_nil ?_ | refine eg_then ?_ | refine qsp ?_ | refine qsn ?_ | refine qsl ?_ | refine qsf ?_ | refine cg_block ?_ | refine cg_exit ?_ | refine eg_then_exit ?_ | refine eg_in_exit ?_)
  refine cg_loop (fun (i : Nat) e k' => Le kL2 k' ∧ i ≤ x.ways.length ∧ e = [(1, .is (.pointer (some ⟨s1, 0, none⟩))), (3, .is (.bool (b3 && decide (RightP ordWay (wayP x) (x.ways.take i))))), (150, .is (.slice a3 x.ways.length c3)), (151, .is (.int .i64 (x.ways.length : Int))), (152, .is (.int .i64 (i : Int)))])
    (fun i => x.ways.length - i) 0 ⟨Le.refl _, Nat.zero_le _, rfl⟩ ⟨rfl, by rw [st]; rfl, rfl, rfl, rfl, trivial⟩ ?_
  rintro i e kL3 ⟨hle, hi, rfl⟩
  obtain ⟨ok, hok⟩ : ∃ ok, (b3 && decide (RightP ordWay (wayP x) (x.ways.take i))) = ok := ⟨_, rfl⟩
  rw [hok]
  repeat (first | refine cg_seq ?_ | refine cg_region ?_ | refine rg_nil ?_ | refine eg_then ?_ | refine qsp ?_)
  refine cg_cond rfl (fun h => ?_) (fun h => ?_)
  · have hlt : i < x.ways.length := by simpa using h
    have hs := right_succ ordWay (wayP x) hlt
    have hs2 : (b3 && decide (RightP ordWay (wayP x) (x.ways.take (i + 1)))) = (ok && ((wayP x) x.ways[i] && (decide (i = 0) || decide (ordWay x.ways[i - 1] x.ways[i] < 0)))) := by rw [hs, ← hok, Bool.and_assoc]
    obtain ⟨bx, ox, cx, ea, ⟨ecx, htok⟩, hcx⟩ := (H.w.le hle).el i x.ways[i] (List.getElem?_eq_getElem hlt)
    obtain ⟨by', oy, cy, ey, ⟨ecy, _⟩, hcy⟩ := (H.w.le hle).el (i - 1) x.ways[i - 1] (List.getElem?_eq_getElem (by omega))
    subst ecx
    subst ecy
    subst ea
    simp only [Option.some.injEq, Addr.mk.injEq, and_true] at ey
    obtain ⟨rfl, rfl⟩ := ey
    obtain ⟨t, ht⟩ : ∃ t, x.ways[i] = t := ⟨_, rfl⟩
    obtain ⟨y, hy⟩ : ∃ y, x.ways[i - 1] = y := ⟨_, rfl⟩
    rw [ht] at hs2 hcx htok
    rw [hy] at hs2 hcy
    clear hs hok
    repeat (first | refine cg_seq ?_ | refine cg_region ?_ | refine eg_then ?_ | refine qsp ?_ | refine qsi ?_ | refine qsg ?_ | refine cg_skip ?_ | refine cg_block ?_)
    refine rb rfl rfl rfl rfl (a_alloc rfl) ?_; intro s4 k4 hb4 hN4 hle4 hk4
    repeat (first | refine qsp ?_)
    refine rw1 (vs := t.vs) rfl rfl rfl rfl rfl rfl rfl hk4 rfl (.inl hN4) ?_ ?_
    · simp [Way.vs, Value.oneCell']
    intro k5 ht5 hk5
    have hle5 : Le kL3 k5 := ht5 kL3 hle4 hb4
    have hleA := hle.trans hle5
    have p4 := p4.le hleA
    have HT := H.t.le hleA
    have hcy := hcy.le hle5
    obtain ⟨t0, t1, t2⟩ := Way.parts (cells_at (vs := t.vs) hk5 rfl)
    have ct := cells_at (vs := t.vs) hk5 rfl
    have cc := cc.le hleA
    repeat (first | refine rg_nil ?_ | refine eg_then ?_)
    refine cg_any (by kernel_rfl) rfl ?_
    cases ok
    · repeat (first | refine qwp ?_ | refine qwo ?_)
      refine wn rfl ?_
      repeat (first | refine cg_region ?_ | refine rg_nil ?_ | refine eg_then ?_ | refine qsp ?_ | refine qsa ?_ | refine eg_in_normal ?_)
      exact eg_again (i + 1) _ ⟨hleA, hlt, rfl⟩ (by omega) ⟨rfl, by rw [hs2]; rfl, rfl, rfl, rfl, trivial⟩
    repeat (first | refine qwp ?_ | refine qwl ?_ | refine qwf ?_)
    refine ws rfl (loc_call_is rfl rfl rfl rfl (refIn_ct t.fromV 0 3)) ?_
    repeat (first | refine qwp ?_)
    cases q0 : inI t.fromV 0 3
    · repeat (first | refine qwp ?_ | refine qwo ?_)
      refine wn rfl ?_
      repeat (first | refine cg_region ?_ | refine rg_nil ?_ | refine eg_then ?_ | refine qsp ?_ | refine qsa ?_ | refine eg_in_normal ?_)
      exact eg_again (i + 1) _ ⟨hleA, hlt, rfl⟩ (by omega) ⟨rfl, by rw [hs2, show (wayP x) t = false by simp [wayP, q0]]; rfl, rfl, rfl, rfl, trivial⟩
    repeat (first | refine qwl ?_ | refine qwf ?_)
    refine ws rfl (loc_call_is rfl rfl rfl rfl (refIn_ct t.toV 0 3)) ?_
    repeat (first | refine qwp ?_)
    cases q1 : inI t.toV 0 3
    · repeat (first | refine qwp ?_ | refine qwo ?_)
      refine wn rfl ?_
      repeat (first | refine cg_region ?_ | refine rg_nil ?_ | refine eg_then ?_ | refine qsp ?_ | refine qsa ?_ | refine eg_in_normal ?_)
      exact eg_again (i + 1) _ ⟨hleA, hlt, rfl⟩ (by omega) ⟨rfl, by rw [hs2, show (wayP x) t = false by simp [wayP, q0, q1]]; rfl, rfl, rfl, rfl, trivial⟩
    repeat (first | refine qwp ?_ | refine qwl ?_ | refine qwf ?_)
    cases q2 : (t.fromV != t.toV)
    · have q2' : t.fromV = t.toV := by simpa using q2
      repeat (first | refine qwp ?_ | refine qwo ?_)
      refine wn rfl ?_
      repeat (first | refine cg_region ?_ | refine rg_nil ?_ | refine eg_then ?_ | refine qsp ?_ | refine qsa ?_ | refine eg_in_normal ?_)
      exact eg_again (i + 1) _ ⟨hleA, hlt, rfl⟩ (by omega) ⟨rfl, by rw [hs2, show (wayP x) t = false by simp [wayP, q0, q1, q2']]; rfl, rfl, rfl, rfl, trivial⟩
    have q2' : ¬ t.fromV = t.toV := by simpa using q2
    repeat (first | refine qwl ?_ | refine qwg ?_ | refine qwf ?_)
    refine ws rfl (loc_call_is rfl rfl rfl rfl (refTopic_ct _ _ _ _ _ _ HT t.topic)) ?_
    repeat (first | refine qwp ?_)
    rw [topF_known]
    cases q3 : knownC x t.topic
    · repeat (first | refine qwp ?_ | refine qwo ?_)
      refine wn rfl ?_
      repeat (first | refine cg_region ?_ | refine rg_nil ?_ | refine eg_then ?_ | refine qsp ?_ | refine qsa ?_ | refine eg_in_normal ?_)
      exact eg_again (i + 1) _ ⟨hleA, hlt, rfl⟩ (by omega) ⟨rfl, by rw [hs2, show wayP x t = false by simp [wayP, q3]]; rfl, rfl, rfl, rfl, trivial⟩
    repeat (first | refine qwp ?_)
    have hm : wayP x t = true := by simp [wayP, q0, q1, q2', q3]
    cases qi : ((i : Int) == 0)
    rotate_left
    · have h0 : i = 0 := by simpa using qi
      repeat (first | refine qwp ?_ | refine qwo ?_)
      refine wn rfl ?_
      repeat (first | refine cg_region ?_ | refine rg_nil ?_ | refine eg_then ?_ | refine qsp ?_ | refine qsa ?_ | refine eg_in_normal ?_)
      exact eg_again (i + 1) _ ⟨hleA, hlt, rfl⟩ (by omega) ⟨rfl, by rw [hs2, hm, decide_eq_true h0]; rfl, rfl, rfl, rfl, trivial⟩
    have h0 : ¬ i = 0 := by intro e; simp [e] at qi
    repeat (first | refine qwp ?_ | refine qws ?_ | refine qwl ?_ | refine qwf ?_)
    rw [show ((i : Int) - 1) = ((i - 1 : Nat) : Int) by omega]
    repeat (first | refine qwi ?_ | refine qwg ?_)
    refine ws rfl (loc_call_is rfl rfl rfl rfl (wayAhead_ct y t)) ?_
    repeat (first | refine qwp ?_)
    refine wn rfl ?_
    repeat (first | refine cg_region ?_ | refine rg_nil ?_ | refine eg_then ?_ | refine qsp ?_ | refine qsa ?_ | refine eg_in_normal ?_)
    exact eg_again (i + 1) _ ⟨hleA, hlt, rfl⟩ (by omega) ⟨rfl, by rw [hs2, hm, decide_eq_false h0]; rfl, rfl, rfl, rfl, trivial⟩
  have hil : i = x.ways.length := by simp at h; omega
  rw [hil, List.take_length] at hok
  obtain ⟨b4, hb4⟩ : ∃ b, b = ok := ⟨_, rfl⟩
  rw [hok, ← hb4]
  clear hok hb4 hil h hi
  repeat (first | refine cg_seq ?_ | refine cg_region ?_ | refine rg_nil ?_ | refine eg_then ?_ | refine qsp ?_ | refine cg_exit ?_ | refine eg_then_exit ?_ | refine eg_in_exit ?_)
  cases b4
  · repeat (first | refine cg_seq ?_ | refine cg_region ?_ | refine rg_nil ?_ | refine eg_then ?_ | refine qsp ?_ | refine cg_cond_true rfl ?_ | refine cg_ret ?_ | refine eg_then_ret ?_)
    exact eg_return rfl rfl rfl
  · repeat (first | refine cg_seq ?_ | refine cg_region ?_ | refine rg_nil ?_ | refine eg_then ?_ | refine qsp ?_ | refine cg_cond_false rfl ?_ | refine cg_skip ?_ | refine cg_ret ?_)
    exact eg_return rfl rfl rfl
end Go.Wm

/-
  Whether a configuration may be, the program's. Conditions: that what is handed in reads as data.
-/
import Derived.Test.YtgalkgidjpbiaaaGreatA1
set_option linter.all false
namespace Go.Wm
open Go.RowKit Go.Proofs
attribute [local irreducible] RG CG EG WA Loc Det Alc CT Exit.then Exit.inBlock Code.wp bodyPost
structure CfAt (k : PH) (x : Conf) (a0 : Option Addr) (c0 : Nat) (a1 : Option Addr) (c1 : Nat) (a2 : Option Addr) (c2 : Nat) (a3 : Option Addr) (c3 : Nat) : Prop where
  t : Sl tTopic k a0 c0 x.topics
  r : Sl tRule k a1 c1 x.rules
  q : Sl tRate k a2 c2 x.rates
  w : Sl tWay k a3 c3 x.ways
theorem CfAt.le {h k : PH} {x : Conf} {a0 : Option Addr} {c0 : Nat} {a1 : Option Addr} {c1 : Nat} {a2 : Option Addr} {c2 : Nat} {a3 : Option Addr} {c3 : Nat} (H : CfAt h x a0 c0 a1 c1 a2 c2 a3 c3) (hl : Le h k) : CfAt k x a0 c0 a1 c1 a2 c2 a3 c3 :=
  ⟨H.t.le hl, H.r.le hl, H.q.le hl, H.w.le hl⟩
set_option maxHeartbeats 1000000 in
theorem indexFuncTopic_ct {k : PH} {a : Option Addr} {c : Nat} {l : List Topic} (hl : Sl tTopic k a c l) {g : FuncId} [FnOk Tryz.prog g] {cap : Array Value} (f : Topic → Bool)
    (hf : ∀ m ∈ l, ∀ cm, tTopic.rep k cm m → CT Tryz.prog g (#[] ++ [.agg cm.toArray].toArray ++ cap) k (fun _ v => v = .bool (f m))) :
    CT Tryz.prog 239 #[.slice a l.length c, .func (.func g) #[] cap] k (fun _ v => v = .int .i64 (idxF l f)) := by
  refine ct_of_body (l := [_, _]) Tryz.func239 rfl Tryz.ntmps239 (by simp) (fun _ _ _ _ h => h) fun F hF0 hFm => ?_
  have b1 := hl.cap; have b2 := hl.max; unfold maxLen at b2
  repeat (first | refine cg_seq ?_ | refine cg_region ?_ | refine rg_nil ?_ | refine eg_then ?_ | refine qsp ?_ | refine qsn ?_ | refine cg_block ?_)
  refine cg_loop (fun (i : Nat) e k' => k' = k ∧ i ≤ l.length ∧ (∀ x ∈ l.take i, f x = false) ∧ e = [(0, .is (.slice a l.length c)), (1, .is (.func (.func g) #[] cap)), (7, .is (.int .i64 (l.length : Int))), (8, .is (.int .i64 (i : Int)))])
    (fun i => l.length - i) 0 ⟨rfl, Nat.zero_le _, by simp, rfl⟩ ⟨rfl, rfl, rfl, rfl, trivial⟩ ?_
  rintro i e k1 ⟨rfl, hi, hno, rfl⟩
  repeat (first | refine cg_seq ?_ | refine cg_region ?_ | refine rg_nil ?_ | refine eg_then ?_ | refine qsp ?_)
  refine cg_cond rfl (fun h => ?_) (fun h => ?_)
  · have hlt : i < l.length := by simpa using h
    obtain ⟨bx, ox, cx, rfl, hrep, hcx⟩ := hl.el i l[i] (List.getElem?_eq_getElem hlt)
    have hcl := tTopic.len hrep
    have hcall := hf l[i] (List.getElem_mem hlt) cx hrep
    repeat (first | refine cg_seq ?_ | refine cg_region ?_ | refine rg_nil ?_ | refine eg_then ?_ | refine qsp ?_ | refine qsi ?_ | refine cg_skip ?_ | refine cg_block ?_)
    refine rs rfl rfl (loc_det rfl (d_load_agg (vs := cx) rfl rfl rfl hcl hcx)) ?_
    refine rs rfl rfl (loc_call_is rfl rfl rfl rfl (hcall)) ?_
    repeat (first | refine rg_nil ?_ | refine eg_then ?_)
    by_cases hw : f l[i] = true
    · refine cg_cond_true (by simp [opv, get, Nat.beq, hw]) ?_
      repeat (first | refine cg_seq ?_ | refine cg_region ?_ | refine rg_nil ?_ | refine eg_then ?_ | refine qsp ?_ | refine cg_ret ?_ | refine eg_then_ret ?_ | refine eg_in_ret ?_)
      refine eg_return rfl rfl ?_
      rw [idxF_at hlt hw hno]
    · refine cg_cond_false (by simp [opv, get, Nat.beq, hw]) ?_
      repeat (first | refine cg_region ?_ | refine rg_nil ?_ | refine eg_then ?_ | refine qsp ?_ | refine qsa ?_ | refine cg_skip ?_ | refine eg_in_normal ?_)
      refine eg_again (i + 1) _ ⟨rfl, hlt, fun x hx => ?_, rfl⟩ (by omega) ⟨rfl, rfl, rfl, rfl, trivial⟩
      rw [List.take_succ_eq_append_getElem hlt] at hx
      rcases List.mem_append.1 hx with hx | hx
      · exact hno x hx
      · simp at hx; rw [hx]; simpa using hw
  · repeat (first | refine cg_seq ?_ | refine cg_region ?_ | refine rg_nil ?_ | refine eg_then ?_ | refine qsp ?_ | refine cg_ret ?_ | refine cg_exit ?_ | refine eg_then_exit ?_ | refine eg_in_exit ?_)
    refine eg_return rfl rfl ?_
    have : i = l.length := by simp at h; omega
    rw [this, List.take_length] at hno
    rw [idxF_no hno]

set_option maxHeartbeats 400000 in
theorem containsFuncTopic_ct {k : PH} {a : Option Addr} {c : Nat} {l : List Topic} (hl : Sl tTopic k a c l) {g : FuncId} [FnOk Tryz.prog g] {cap : Array Value} (f : Topic → Bool)
    (hf : ∀ m ∈ l, ∀ cm, tTopic.rep k cm m → CT Tryz.prog g (#[] ++ [.agg cm.toArray].toArray ++ cap) k (fun _ v => v = .bool (f m))) :
    CT Tryz.prog 201 #[.slice a l.length c, .func (.func g) #[] cap] k (fun _ v => v = .bool (l.any f)) := by
  refine ct_of_body (l := [_, _]) Tryz.func201 rfl Tryz.ntmps201 (by simp) (fun _ _ _ _ h => h) fun F hF0 hFm => ?_
  have hcall := indexFuncTopic_ct hl f hf
  repeat (first | refine cg_seq ?_ | refine cg_region ?_ | refine rg_nil ?_ | refine eg_then ?_ | refine qsp ?_)
  refine rs rfl rfl (loc_call_is rfl rfl rfl rfl (hcall)) ?_
  repeat (first | refine rg_nil ?_ | refine eg_then ?_ | refine qsp ?_ | refine cg_ret ?_)
  refine eg_return rfl rfl ?_
  rw [idxF_ge]

set_option maxHeartbeats 400000 in
theorem known1_ct {k : PH} {b : Nat} {s : ByteArray} (t : Topic) (hc : Cells k b 0 [.string s]) : CT Tryz.prog 202 #[.agg t.vs.toArray, .pointer (some ⟨b, 0, none⟩)] k (fun _ v => v = .bool (decide (t.name = s))) := by
  refine ct_of_body (l := [_, _]) Tryz.func202 rfl Tryz.ntmps202 (by simp) (fun _ _ _ _ h => h) fun F hF0 hFm => ?_
  repeat (first | refine cg_seq ?_ | refine cg_region ?_)
  refine rb rfl rfl rfl rfl (a_box rfl rfl) ?_; intro b2 k2 hb2 hN2 hle2 hk2
  have c2 := cells_at (vs := t.vs) hk2 rfl
  have hc := hc.le hle2
  obtain ⟨p0, p1, p2, p3⟩ := Topic.parts c2
  repeat (first | refine cg_seq ?_ | refine cg_region ?_ | refine rg_nil ?_ | refine eg_then ?_ | refine qsp ?_ | refine qsl ?_ | refine qsf ?_ | refine cg_ret ?_)
  exact eg_return rfl rfl rfl
set_option maxHeartbeats 400000 in
theorem known_ct {k : PH} {x : Conf} {a0 : Option Addr} {c0 : Nat} (a1 : Option Addr) (c1 : Nat) (a2 : Option Addr) (c2 : Nat) (a3 : Option Addr) (c3 : Nat) (ht : Sl tTopic k a0 c0 x.topics) (s : ByteArray) :
    CT Tryz.prog 117 #[.agg (x.cs a0 c0 a1 c1 a2 c2 a3 c3).toArray, .string s] k (fun _ v => v = .bool (knownC x s)) := by
  refine ct_of_body (l := [_, _]) Tryz.func117 rfl Tryz.ntmps117 (by simp) (fun _ _ _ _ h => h) fun F hF0 hFm => ?_
  repeat (first | refine cg_seq ?_ | refine cg_region ?_)
  refine rb rfl rfl rfl rfl (a_box rfl rfl) ?_; intro b2 k2 hb2 hN2 hle2 hk2
  skip
  refine rb rfl rfl rfl rfl (a_box rfl rfl) ?_; intro b3 k3 hb3 hN3 hle3 hk3
  have c2 := (cells_at (vs := x.cs a0 c0 a1 c1 a2 c2 a3 c3) hk2 rfl).le hle3
  have c3 := cells_at (vs := [.string s]) hk3 rfl
  obtain ⟨p0, p1, p2, p3, p4⟩ := Conf.parts c2
  have hcall := containsFuncTopic_ct (g := 202) (cap := #[.pointer (some ⟨b3, 0, none⟩)]) (ht.le (hle2.trans hle3)) (fun t => decide (t.name = s)) (fun m _ cm hcm => by rw [hcm.1]; exact known1_ct m c3)
  repeat (first | refine cg_seq ?_ | refine cg_region ?_ | refine rg_nil ?_ | refine eg_then ?_ | refine qsp ?_ | refine qsl ?_ | refine qsf ?_)
  refine rs rfl rfl (loc_call_is rfl rfl rfl rfl (hcall)) ?_
  repeat (first | refine rg_nil ?_ | refine eg_then ?_ | refine qsp ?_ | refine cg_ret ?_)
  exact eg_return rfl rfl rfl
set_option maxHeartbeats 400000 in
theorem check1_ct {k : PH} (t : Topic) (hok : t.ok) : CT Tryz.prog 113 #[.agg t.vs.toArray] k (fun _ v => v = .bool (topicP t)) := by
  refine ct_of_body (l := [_]) Tryz.func113 rfl Tryz.ntmps113 (by simp) (fun _ _ _ _ h => h) fun F hF0 hFm => ?_
  repeat (first | refine cg_seq ?_ | refine cg_region ?_)
  refine rb rfl rfl rfl rfl (a_box rfl rfl) ?_; intro b2 k2 hb2 hN2 hle2 hk2
  obtain ⟨p0, p1, p2, p3⟩ := Topic.parts (cells_at (vs := t.vs) hk2 rfl)
  repeat (first | refine cg_seq ?_ | refine cg_region ?_ | refine rg_nil ?_ | refine eg_then ?_ | refine qsp ?_ | refine qsl ?_ | refine qsf ?_)
  refine rs rfl rfl (loc_call_is rfl rfl rfl rfl (name_ct t.name hok.1)) ?_
  repeat (first | refine qsp ?_)
  cases q1 : isName t.name
  · repeat (first | refine rg_nil ?_ | refine eg_then ?_ | refine qsp ?_ | refine qso ?_ | refine cg_ret ?_)
    refine eg_return rfl rfl ?_
    simp [topicP, q1]
  repeat (first | refine qsl ?_ | refine qsf ?_)
  refine rs rfl rfl (loc_call_is rfl rfl rfl rfl (within_ct t.partsV 1 6)) ?_
  repeat (first | refine qsp ?_)
  cases q2 : inI t.partsV 1 6
  · repeat (first | refine rg_nil ?_ | refine eg_then ?_ | refine qsp ?_ | refine qso ?_ | refine cg_ret ?_)
    refine eg_return rfl rfl ?_
    simp [topicP, q1, q2]
  repeat (first | refine qsl ?_ | refine qsf ?_)
  refine rs rfl rfl (loc_call_is rfl rfl rfl rfl (within_ct t.keep 0 1099511627776)) ?_
  repeat (first | refine rg_nil ?_ | refine eg_then ?_ | refine qsp ?_ | refine cg_ret ?_)
  refine eg_return rfl rfl ?_
  simp [topicP, q1, q2]
set_option maxHeartbeats 400000 in
theorem check3_ct {k : PH} (t : Rate) (hok : t.ok) : CT Tryz.prog 120 #[.agg t.vs.toArray] k (fun _ v => v = .bool (rateP t)) := by
  refine ct_of_body (l := [_]) Tryz.func120 rfl Tryz.ntmps120 (by simp) (fun _ _ _ _ h => h) fun F hF0 hFm => ?_
  repeat (first | refine cg_seq ?_ | refine cg_region ?_)
  refine rb rfl rfl rfl rfl (a_box rfl rfl) ?_; intro b2 k2 hb2 hN2 hle2 hk2
  obtain ⟨p0, p1, p2⟩ := Rate.parts (cells_at (vs := t.vs) hk2 rfl)
  repeat (first | refine cg_seq ?_ | refine cg_region ?_ | refine rg_nil ?_ | refine eg_then ?_ | refine qsp ?_ | refine qsl ?_ | refine qsf ?_)
  refine rs rfl rfl (loc_call_is rfl rfl rfl rfl (name_ct t.who hok.1)) ?_
  repeat (first | refine qsp ?_)
  cases q1 : isName t.who
  · repeat (first | refine rg_nil ?_ | refine eg_then ?_ | refine qsp ?_ | refine qso ?_ | refine cg_ret ?_)
    refine eg_return rfl rfl ?_
    simp [rateP, q1]
  repeat (first | refine qsl ?_ | refine qsf ?_)
  refine rs rfl rfl (loc_call_is rfl rfl rfl rfl (within_ct t.rate 1 1048576)) ?_
  repeat (first | refine qsp ?_)
  cases q2 : inI t.rate 1 1048576
  · repeat (first | refine rg_nil ?_ | refine eg_then ?_ | refine qsp ?_ | refine qso ?_ | refine cg_ret ?_)
    refine eg_return rfl rfl ?_
    simp [rateP, q1, q2]
  repeat (first | refine qsl ?_ | refine qsf ?_)
  refine rs rfl rfl (loc_call_is rfl rfl rfl rfl (within_ct t.burst 1 1048576)) ?_
  repeat (first | refine rg_nil ?_ | refine eg_then ?_ | refine qsp ?_ | refine cg_ret ?_)
  refine eg_return rfl rfl ?_
  simp [rateP, q1, q2]
set_option maxHeartbeats 1000000 in
theorem check2_ct {k : PH} {b : Nat} {x : Conf} {a0 : Option Addr} {c0 : Nat} {a1 : Option Addr} {c1 : Nat} {a2 : Option Addr} {c2 : Nat} {a3 : Option Addr} {c3 : Nat} (ht : Sl tTopic k a0 c0 x.topics) (hc : Cells k b 0 (x.cs a0 c0 a1 c1 a2 c2 a3 c3)) (t : Rule) (hok : t.ok) :
    CT Tryz.prog 116 #[.agg t.vs.toArray, .pointer (some ⟨b, 0, none⟩)] k (fun _ v => v = .bool (ruleP x t)) := by
  refine ct_of_body (l := [_, _]) Tryz.func116 rfl Tryz.ntmps116 (by simp) (fun _ _ _ _ h => h) fun F hF0 hFm => ?_
  repeat (first | refine cg_seq ?_ | refine cg_region ?_)
  refine rb rfl rfl rfl rfl (a_box rfl rfl) ?_; intro b2 k2 hb2 hN2 hle2 hk2
  have hc := hc.le hle2
  have ht := ht.le hle2
  obtain ⟨p0, p1, p2⟩ := Rule.parts (cells_at (vs := t.vs) hk2 rfl)
  repeat (first | refine cg_seq ?_ | refine cg_region ?_ | refine rg_nil ?_ | refine eg_then ?_ | refine qsp ?_ | refine qsl ?_ | refine qsf ?_)
  refine rs rfl rfl (loc_call_is rfl rfl rfl rfl (name_ct t.who hok.1)) ?_
  repeat (first | refine qsp ?_)
  cases q1 : isName t.who
  · repeat (first | refine rg_nil ?_ | refine eg_then ?_ | refine qsp ?_ | refine qso ?_ | refine cg_ret ?_)
    refine eg_return rfl rfl ?_
    simp [ruleP, q1]
  repeat (first | refine qsp ?_ | refine qsl ?_ | refine qsf ?_)
  have last : ∀ e : Bool, e = (decide (t.topic = starS) || knownC x t.topic) → ruleP x t = (e && inI t.may 1 7) := fun e h => by simp [ruleP, q1, h]
  cases q2 : decide (t.topic = { data := #[42] })
  · repeat (first | refine qsl ?_ | refine qsg ?_ | refine qsf ?_)
    refine rs rfl rfl (loc_call_is rfl rfl rfl rfl (known_ct a1 c1 a2 c2 a3 c3 ht t.topic)) ?_
    repeat (first | refine qsp ?_)
    cases q3 : knownC x t.topic
    · repeat (first | refine rg_nil ?_ | refine eg_then ?_ | refine qsp ?_ | refine qso ?_ | refine cg_ret ?_)
      refine eg_return rfl rfl ?_
      rw [last false (by unfold starS; rw [q2, q3]; rfl)]; rfl
    repeat (first | refine qsl ?_ | refine qsf ?_)
    refine rs rfl rfl (loc_call_is rfl rfl rfl rfl (within_ct t.may 1 7)) ?_
    repeat (first | refine rg_nil ?_ | refine eg_then ?_ | refine qsp ?_ | refine cg_ret ?_)
    refine eg_return rfl rfl ?_
    rw [last true (by unfold starS; rw [q2, q3]; rfl)]; rfl
  · repeat (first | refine qsp ?_ | refine qsl ?_ | refine qsf ?_ | refine qso ?_)
    refine rs rfl rfl (loc_call_is rfl rfl rfl rfl (within_ct t.may 1 7)) ?_
    repeat (first | refine rg_nil ?_ | refine eg_then ?_ | refine qsp ?_ | refine cg_ret ?_)
    refine eg_return rfl rfl ?_
    rw [last true (by unfold starS; rw [q2]; rfl)]; rfl
set_option maxHeartbeats 1000000 in
theorem check4_ct {k : PH} {b : Nat} {x : Conf} {a0 : Option Addr} {c0 : Nat} {a1 : Option Addr} {c1 : Nat} {a2 : Option Addr} {c2 : Nat} {a3 : Option Addr} {c3 : Nat} (ht : Sl tTopic k a0 c0 x.topics) (hc : Cells k b 0 (x.cs a0 c0 a1 c1 a2 c2 a3 c3)) (t : Way) (hok : t.ok) :
    CT Tryz.prog 123 #[.agg t.vs.toArray, .pointer (some ⟨b, 0, none⟩)] k (fun _ v => v = .bool (wayP x t)) := by
  refine ct_of_body (l := [_, _]) Tryz.func123 rfl Tryz.ntmps123 (by simp) (fun _ _ _ _ h => h) fun F hF0 hFm => ?_
  repeat (first | refine cg_seq ?_ | refine cg_region ?_)
  refine rb rfl rfl rfl rfl (a_box rfl rfl) ?_; intro b2 k2 hb2 hN2 hle2 hk2
  have hc := hc.le hle2
  have ht := ht.le hle2
  obtain ⟨p0, p1, p2⟩ := Way.parts (cells_at (vs := t.vs) hk2 rfl)
  repeat (first | refine cg_seq ?_ | refine cg_region ?_ | refine rg_nil ?_ | refine eg_then ?_ | refine qsp ?_ | refine qsl ?_ | refine qsf ?_)
  refine rs rfl rfl (loc_call_is rfl rfl rfl rfl (within_ct t.fromV 0 3)) ?_
  repeat (first | refine qsp ?_)
  cases q1 : inI t.fromV 0 3
  · repeat (first | refine rg_nil ?_ | refine eg_then ?_ | refine qsp ?_ | refine qso ?_ | refine cg_ret ?_)
    refine eg_return rfl rfl ?_
    simp [wayP, q1]
  repeat (first | refine qsl ?_ | refine qsf ?_)
  refine rs rfl rfl (loc_call_is rfl rfl rfl rfl (within_ct t.toV 0 3)) ?_
  repeat (first | refine qsp ?_)
  cases q2 : inI t.toV 0 3
  · repeat (first | refine rg_nil ?_ | refine eg_then ?_ | refine qsp ?_ | refine qso ?_ | refine cg_ret ?_)
    refine eg_return rfl rfl ?_
    simp [wayP, q1, q2]
  repeat (first | refine qsp ?_ | refine qsl ?_ | refine qsf ?_)
  cases q3 : (t.fromV != t.toV)
  · repeat (first | refine rg_nil ?_ | refine eg_then ?_ | refine qsp ?_ | refine qso ?_ | refine cg_ret ?_)
    refine eg_return rfl rfl ?_
    have : t.fromV = t.toV := by simpa using q3
    simp [wayP, q1, q2, this]
  have q3' : ¬ t.fromV = t.toV := by simpa using q3
  repeat (first | refine qsl ?_ | refine qsg ?_ | refine qsf ?_)
  refine rs rfl rfl (loc_call_is rfl rfl rfl rfl (known_ct a1 c1 a2 c2 a3 c3 ht t.topic)) ?_
  repeat (first | refine rg_nil ?_ | refine eg_then ?_ | refine qsp ?_ | refine cg_ret ?_)
  refine eg_return rfl rfl ?_
  simp [wayP, q1, q2, q3']
set_option maxHeartbeats 2000000 in
theorem check_ct {k : PH} {x : Conf} {a0 : Option Addr} {c0 : Nat} {a1 : Option Addr} {c1 : Nat} {a2 : Option Addr} {c2 : Nat} {a3 : Option Addr} {c3 : Nat} (hx : CfAt k x a0 c0 a1 c1 a2 c2 a3 c3) :
    CT Tryz.prog 55 #[.agg (x.cs a0 c0 a1 c1 a2 c2 a3 c3).toArray] k (fun _ v => v = .int .i64 (if confP x = true then 0 else 1)) := by
  refine ct_of_body (l := [_]) Tryz.func55 rfl Tryz.ntmps55 (by simp) (fun _ _ _ _ h => h) fun F hF0 hFm => ?_
  repeat (first | refine cg_seq ?_ | refine cg_region ?_)
  refine rb rfl rfl rfl rfl (a_box rfl rfl) ?_; intro b1 k1 hb1 hN1 hle1 hk1
  have hc := cells_at (vs := x.cs a0 c0 a1 c1 a2 c2 a3 c3) hk1 rfl
  have hx := hx.le hle1
  obtain ⟨p0, p1, p2, p3, p4⟩ := Conf.parts hc
  have no : ∀ {b : Bool}, b = false → confP x = b → (Value.int .i64 1) = .int .i64 (if confP x = true then 0 else 1) := fun h1 h2 => by rw [h2, h1]; rfl
  have h1 := rightTopic_ct (g1 := 112) (g2 := 113) (cap2 := #[]) hx.t ordTopic topicP (fun k0 a b => topicsOrd_ct a b) (fun k0 hle t ht hok => check1_ct t hok)
  have h2 := rightRule_ct (g1 := 115) (g2 := 116) (cap2 := #[.pointer (some ⟨b1, 0, none⟩)]) hx.r ordRule (ruleP x) (fun k0 a b => rulesOrd_ct a b) (fun k0 hle t ht hok => check2_ct (hx.t.le hle) (hc.le hle) t hok)
  have h3 := rightRate_ct (g1 := 119) (g2 := 120) (cap2 := #[]) hx.q ordRate rateP (fun k0 a b => ratesOrd_ct a b) (fun k0 hle t ht hok => check3_ct t hok)
  have h4 := rightWay_ct (g1 := 122) (g2 := 123) (cap2 := #[.pointer (some ⟨b1, 0, none⟩)]) hx.w ordWay (wayP x) (fun k0 a b => waysOrd_ct a b) (fun k0 hle t ht hok => check4_ct (hx.t.le hle) (hc.le hle) t hok)
  repeat (first | refine cg_seq ?_ | refine cg_region ?_ | refine rg_nil ?_ | refine eg_then ?_ | refine qsp ?_ | refine qsl ?_ | refine qsf ?_)
  refine rs rfl rfl (loc_call_is rfl rfl rfl rfl (within_ct x.ver 0 1099511627776)) ?_
  repeat (first | refine qsp ?_)
  cases q1 : inI x.ver 0 1099511627776
  · repeat (first | refine cg_seq ?_ | refine cg_region ?_ | refine rg_nil ?_ | refine eg_then ?_ | refine qsp ?_ | refine qso ?_ | refine cg_cond_true rfl ?_ | refine cg_ret ?_ | refine eg_then_ret ?_)
    exact eg_return rfl rfl (no rfl (by simp [confP, q1]))
  repeat (first | refine qsp ?_ | refine qsn ?_ | refine qsl ?_ | refine qsf ?_)
  cases q2 : decide ((x.topics.length : Int) ≤ 12)
  · repeat (first | refine cg_seq ?_ | refine cg_region ?_ | refine rg_nil ?_ | refine eg_then ?_ | refine qsp ?_ | refine qso ?_ | refine cg_cond_true rfl ?_ | refine cg_ret ?_ | refine eg_then_ret ?_)
    have : ¬ x.topics.length ≤ 12 := by simp at q2; omega
    exact eg_return rfl rfl (no rfl (by simp [confP, q1, this]))
  have q2' : x.topics.length ≤ 12 := by simp at q2; omega
  repeat (first | refine qsl ?_ | refine qsf ?_)
  refine rs rfl rfl (loc_call_is rfl rfl rfl rfl (h1)) ?_
  repeat (first | refine qsp ?_)
  cases q3 : decide (RightP ordTopic topicP x.topics)
  · repeat (first | refine cg_seq ?_ | refine cg_region ?_ | refine rg_nil ?_ | refine eg_then ?_ | refine qsp ?_ | refine qso ?_ | refine cg_cond_true rfl ?_ | refine cg_ret ?_ | refine eg_then_ret ?_)
    exact eg_return rfl rfl (no rfl (by simp [confP, q1, q2', q3]))
  repeat (first | refine qsp ?_ | refine qsl ?_ | refine qsf ?_)
  refine rs rfl rfl (loc_call_is rfl rfl rfl rfl (h2)) ?_
  repeat (first | refine qsp ?_)
  cases q4 : decide (RightP ordRule (ruleP x) x.rules)
  · repeat (first | refine cg_seq ?_ | refine cg_region ?_ | refine rg_nil ?_ | refine eg_then ?_ | refine qsp ?_ | refine qso ?_ | refine cg_cond_true rfl ?_ | refine cg_ret ?_ | refine eg_then_ret ?_)
    exact eg_return rfl rfl (no rfl (by simp [confP, q1, q2', q3, q4]))
  repeat (first | refine qsl ?_ | refine qsf ?_)
  refine rs rfl rfl (loc_call_is rfl rfl rfl rfl (h3)) ?_
  repeat (first | refine qsp ?_)
  cases q5 : decide (RightP ordRate rateP x.rates)
  · repeat (first | refine cg_seq ?_ | refine cg_region ?_ | refine rg_nil ?_ | refine eg_then ?_ | refine qsp ?_ | refine qso ?_ | refine cg_cond_true rfl ?_ | refine cg_ret ?_ | refine eg_then_ret ?_)
    exact eg_return rfl rfl (no rfl (by simp [confP, q1, q2', q3, q4, q5]))
  repeat (first | refine qsp ?_ | refine qsl ?_ | refine qsf ?_)
  refine rs rfl rfl (loc_call_is rfl rfl rfl rfl (h4)) ?_
  repeat (first | refine cg_seq ?_ | refine cg_region ?_ | refine rg_nil ?_ | refine eg_then ?_ | refine qsp ?_)
  cases q6 : decide (RightP ordWay (wayP x) x.ways)
  · repeat (first | refine cg_seq ?_ | refine cg_region ?_ | refine rg_nil ?_ | refine eg_then ?_ | refine qsp ?_ | refine cg_cond_true rfl ?_ | refine cg_ret ?_ | refine eg_then_ret ?_)
    exact eg_return rfl rfl (no rfl (by simp [confP, q1, q2', q3, q4, q5, q6]))
  repeat (first | refine cg_seq ?_ | refine cg_region ?_ | refine rg_nil ?_ | refine eg_then ?_ | refine qsp ?_ | refine cg_cond_false rfl ?_ | refine cg_skip ?_ | refine cg_ret ?_)
  refine eg_return rfl rfl ?_
  have : confP x = true := by simp [confP, q1, q2', q3, q4, q5, q6]
  rw [this]; rfl
end Go.Wm

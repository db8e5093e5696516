/-
  A configuration's copy, the document's. Conditions: that what is handed in reads as data.
-/
import Derived.Test.YtgalkgidjpbiaaaGreatR10
import Derived.Test.YtgalkgidjpbiaaaGreatRows3
import Derived.Test.YtgalkgidjpbiaaaGreatD7
set_option linter.all false
namespace Go.Wm
open Go.RowKit Go.Proofs
attribute [local irreducible] RG CG EG WA Loc Det Alc CT Exit.then Exit.inBlock Code.wp bodyPost
theorem fm_len {α : Type} (f : α → List Value) (n : Nat) (h : ∀ x, (f x).length = n) (l : List α) : (l.flatMap f).length = l.length * n := by
  induction l with
  | nil => simp
  | cons x l ih => rw [List.flatMap_cons, List.length_append, h, ih, List.length_cons, Nat.succ_mul, Nat.add_comm]
theorem fm_one {α : Type} (f : α → List Value) (h : ∀ x, ∀ u ∈ f x, u.oneCell' = true) (l : List α) : ∀ u ∈ l.flatMap f, u.oneCell' = true := fun u hu => by
  obtain ⟨x, _, hx⟩ := List.mem_flatMap.1 hu
  exact h x u hx
theorem topic_len (x : Topic) : x.vs.length = 4 := rfl
theorem rule_len (x : Rule) : x.vs.length = 3 := rfl
theorem rate_len (x : Rate) : x.vs.length = 3 := rfl
theorem way_len (x : Way) : x.vs.length = 3 := rfl
theorem topic_one (x : Topic) : ∀ u ∈ x.vs, u.oneCell' = true := by simp [Topic.vs, Value.oneCell']
theorem rule_one (x : Rule) : ∀ u ∈ x.vs, u.oneCell' = true := by simp [Rule.vs, Value.oneCell']
theorem rate_one (x : Rate) : ∀ u ∈ x.vs, u.oneCell' = true := by simp [Rate.vs, Value.oneCell']
theorem way_one (x : Way) : ∀ u ∈ x.vs, u.oneCell' = true := by simp [Way.vs, Value.oneCell']
set_option maxHeartbeats 4000000 in
theorem refCopy_ctn {k : PH} {x : Conf} {a0 : Option Addr} {c0 : Nat} {a1 : Option Addr} {c1 : Nat} {a2 : Option Addr} {c2 : Nat} {a3 : Option Addr} {c3 : Nat} (H : CfAt k x a0 c0 a1 c1 a2 c2 a3 c3) (hf : x.few) :
    CTN Tryz.prog 93 #[.agg (x.cs a0 c0 a1 c1 a2 c2 a3 c3).toArray] k (ConfV x) := by
  refine ctn_of_body (l := [_]) Tryz.func93 rfl Tryz.ntmps93 (by simp) ConfV.mono fun F hF0 hFm => ?_
  have hf0 := hf.1; have hf1 := hf.2.1; have hf2 := hf.2.2.1; have hf3 := hf.2.2.2
  have ok0 : ∀ z ∈ x.topics, z.ok := fun z hz => (sl_ok H.t hz).elim fun _ h => h.2
  have ok1 : ∀ z ∈ x.rules, z.ok := fun z hz => (sl_ok H.r hz).elim fun _ h => h.2
  have ok2 : ∀ z ∈ x.rates, z.ok := fun z hz => (sl_ok H.q hz).elim fun _ h => h.2
  have ok3 : ∀ z ∈ x.ways, z.ok := fun z hz => (sl_ok H.w hz).elim fun _ h => h.2
  repeat (first | refine cg_seq ?_ | refine cg_region ?_ | refine rg_nil ?_ | refine eg_then ?_ | refine qsp ?_ | refine qsn ?_ | refine qsa ?_ | refine qss ?_ | refine qsi ?_ | refine qsz ?_ | refine qsl ?_ | refine qsg ?_ | refine qsf ?_ | refine qsd ?_ | refine qsE ?_ | refine qsX ?_ | refine qse ?_ | refine qsx ?_ | refine qso ?_ | refine cg_cond_true rfl ?_ | refine cg_cond_false rfl ?_ | refine cg_skip ?_ | refine cg_block ?_ | refine eg_in_normal ?_ | refine cg_ret ?_ | refine eg_then_ret ?_ | refine eg_in_ret ?_ | refine cg_exit ?_ | refine eg_then_exit ?_ | refine eg_in_exit ?_ | refine eg_in_other rfl ?_)
  refine rb rfl rfl rfl rfl (a_box rfl rfl) ?_; intro b1 k1 hb1 hN1 hle1 hk1
  refine rb rfl rfl rfl rfl (a_alloc rfl) ?_; intro b2 k2 hb2 hN2 hle2 hk2
  have H := H.le (hle1.trans hle2)
  obtain ⟨p0, p1, p2, p3, p4⟩ := Conf.parts ((cells_at (vs := x.cs a0 c0 a1 c1 a2 c2 a3 c3) hk1 rfl).le hle2)
  repeat (first | refine cg_seq ?_ | refine cg_region ?_ | refine rg_nil ?_ | refine eg_then ?_ | refine qsp ?_ | refine qsn ?_ | refine qsa ?_ | refine qss ?_ | refine qsi ?_ | refine qsz ?_ | refine qsl ?_ | refine qsg ?_ | refine qsf ?_ | refine qsd ?_ | refine qsE ?_ | refine qsX ?_ | refine qse ?_ | refine qsx ?_ | refine qso ?_ | refine cg_cond_true rfl ?_ | refine cg_cond_false rfl ?_ | refine cg_skip ?_ | refine cg_block ?_ | refine eg_in_normal ?_ | refine cg_ret ?_ | refine eg_then_ret ?_ | refine eg_in_ret ?_ | refine cg_exit ?_ | refine eg_then_exit ?_ | refine eg_in_exit ?_ | refine eg_in_other rfl ?_)
  refine cg_calls 15 (by kernel_rfl) (by kernel_rfl) rfl rfl ?_
  dsimp only [List.take]
  repeat (first | refine qcp ?_ | refine qcn ?_ | refine qca ?_ | refine qcs ?_ | refine qci ?_ | refine qcz ?_ | refine qcl ?_ | refine qcg ?_ | refine qcf ?_ | refine qcd ?_ | refine qcE ?_ | refine qcX ?_ | refine qce ?_ | refine qcx ?_ | refine qco ?_)
  refine wc_iv rfl (loci_app (news := x.topics.flatMap Topic.vs) xn_size rfl rfl rfl (.inl ⟨_, rfl, H.t.apn (f := Topic.vs) (fun _ _ _ h => h.1)⟩) (fm_len _ 4 topic_len _) (fm_one _ topic_one _) (by kernel_rfl) rfl (by unfold maxLen; omega) (by omega)) rfl ?_
  repeat (first | refine qcp ?_ | refine qcn ?_ | refine qca ?_ | refine qcs ?_ | refine qci ?_ | refine qcz ?_ | refine qcl ?_ | refine qcg ?_ | refine qcf ?_ | refine qcd ?_ | refine qcE ?_ | refine qcX ?_ | refine qce ?_ | refine qcx ?_ | refine qco ?_)
  refine wc_iv rfl (loci_app (news := x.rules.flatMap Rule.vs) xn_size rfl rfl rfl (.inl ⟨_, rfl, H.r.apn (f := Rule.vs) (fun _ _ _ h => h.1)⟩) (fm_len _ 3 rule_len _) (fm_one _ rule_one _) (by kernel_rfl) rfl (by unfold maxLen; omega) (by omega)) rfl ?_
  repeat (first | refine qcp ?_ | refine qcn ?_ | refine qca ?_ | refine qcs ?_ | refine qci ?_ | refine qcz ?_ | refine qcl ?_ | refine qcg ?_ | refine qcf ?_ | refine qcd ?_ | refine qcE ?_ | refine qcX ?_ | refine qce ?_ | refine qcx ?_ | refine qco ?_)
  refine wc_iv rfl (loci_app (news := x.rates.flatMap Rate.vs) xn_size rfl rfl rfl (.inl ⟨_, rfl, H.q.apn (f := Rate.vs) (fun _ _ _ h => h.1)⟩) (fm_len _ 3 rate_len _) (fm_one _ rate_one _) (by kernel_rfl) rfl (by unfold maxLen; omega) (by omega)) rfl ?_
  repeat (first | refine qcp ?_ | refine qcn ?_ | refine qca ?_ | refine qcs ?_ | refine qci ?_ | refine qcz ?_ | refine qcl ?_ | refine qcg ?_ | refine qcf ?_ | refine qcd ?_ | refine qcE ?_ | refine qcX ?_ | refine qce ?_ | refine qcx ?_ | refine qco ?_)
  refine wc_iv rfl (loci_app (news := x.ways.flatMap Way.vs) xn_size rfl rfl rfl (.inl ⟨_, rfl, H.w.apn (f := Way.vs) (fun _ _ _ h => h.1)⟩) (fm_len _ 3 way_len _) (fm_one _ way_one _) (by kernel_rfl) rfl (by unfold maxLen; omega) (by omega)) rfl ?_
  have mono : ∀ {et sz : Nat} {m : Nat} {xs : List Value}, ∀ k k' v, Le k k' → Row F.w0.heap.size k et sz v m xs → Row F.w0.heap.size k' et sz v m xs := fun k k' v hle h => h.le hle
  refine wc_iv (φ := ConfV x F.w0.heap.size) rfl (LocI.elim 7 rfl (by kernel_rfl) (ConfV.mono _) ?_) rfl ?_
  · rintro v1 k5 hle5 r1
    refine LocI.elim 10 rfl (by kernel_rfl) (ConfV.mono _) ?_
    rintro v2 k6 hle6 r2
    refine LocI.elim 13 rfl (by kernel_rfl) (ConfV.mono _) ?_
    rintro v3 k7 hle7 r3
    refine LocI.elim 16 rfl (by kernel_rfl) (ConfV.mono _) ?_
    rintro v4 k8 hle8 r4
    have o1 : Own tTopic F.w0.heap.size k5 72 v1 x.topics := Row.ownL (f := Topic.vs) r1 fun z hz => ⟨rfl, ok0 z hz⟩
    have o2 : Own tRule F.w0.heap.size k6 74 v2 x.rules := Row.ownL (f := Rule.vs) r2 fun z hz => ⟨rfl, ok1 z hz⟩
    have o3 : Own tRate F.w0.heap.size k7 76 v3 x.rates := Row.ownL (f := Rate.vs) r3 fun z hz => ⟨rfl, ok2 z hz⟩
    have o4 : Own tWay F.w0.heap.size k8 78 v4 x.ways := Row.ownL (f := Way.vs) r4 fun z hz => ⟨rfl, ok3 z hz⟩
    obtain ⟨a0, c0, rfl, _⟩ := o1.sl
    obtain ⟨a1, c1, rfl, _⟩ := o2.sl
    obtain ⟨a2, c2, rfl, _⟩ := o3.sl
    obtain ⟨a3, c3, rfl, _⟩ := o4.sl
    refine LocI.of (loc_isv (loc_det rfl (d_lit (cells := x.cs a0 c0 a1 c1 a2 c2 a3 c3) rfl rfl rfl)) rfl (ConfV.mono _) fun k9 hle9 => ?_)
    exact ⟨a0, c0, a1, c1, a2, c2, a3, c3, rfl, o1.le (hle6.trans (hle7.trans (hle8.trans hle9))), o2.le (hle7.trans (hle8.trans hle9)), o3.le (hle8.trans hle9), o4.le hle9⟩
  refine wc_nil ?_
  intro k5 vs hle5 hvs
  obtain ⟨a0, c0, a1, c1, a2, c2, a3, c3, ev, HO⟩ := hvs 17 _ rfl
  clear hvs
  dsimp only [List.drop]
  simp only [nameE, nameP]
  rw [ev]
  refine rw1 (vs := x.cs a0 c0 a1 c1 a2 c2 a3 c3) rfl rfl rfl rfl rfl rfl rfl (hle5 _ _ hk2) rfl (.inl hN2) ?_ ?_
  · simp [Conf.cs, Value.oneCell']
  intro k6 ht6 hk6
  have HO := HO.turn ht6 (hle5 _ _ hk2) (by decide) (by decide) (by decide) (by decide)
  have c6 := cells_at (vs := x.cs a0 c0 a1 c1 a2 c2 a3 c3) hk6 rfl
  repeat (first | refine cg_seq ?_ | refine cg_region ?_ | refine rg_nil ?_ | refine eg_then ?_ | refine qsp ?_ | refine qsn ?_ | refine qsa ?_ | refine qss ?_ | refine qsi ?_ | refine qsz ?_ | refine qsl ?_ | refine qsg ?_ | refine qsf ?_ | refine qsd ?_ | refine qsE ?_ | refine qsX ?_ | refine qse ?_ | refine qsx ?_ | refine qso ?_ | refine cg_cond_true rfl ?_ | refine cg_cond_false rfl ?_ | refine cg_skip ?_ | refine cg_block ?_ | refine eg_in_normal ?_ | refine cg_ret ?_ | refine eg_then_ret ?_ | refine eg_in_ret ?_ | refine cg_exit ?_ | refine eg_then_exit ?_ | refine eg_in_exit ?_ | refine eg_in_other rfl ?_)
  exact eg_returnC rfl rfl rfl c6 rfl ⟨a0, c0, a1, c1, a2, c2, a3, c3, rfl, HO⟩
end Go.Wm

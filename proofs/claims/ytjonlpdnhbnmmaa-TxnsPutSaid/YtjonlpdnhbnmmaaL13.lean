/-
  The walk of TxnsPut. Conditions: that what is handed in reads as data.
-/
import Derived.Test.YtjonlpdnhbnmmaaY8
import Derived.Test.YtjonlpdnhbnmmaaQ4
import Derived.Test.YtjonlpdnhbnmmaaL8
set_option linter.all false
namespace Go.Wm
open Go.RowKit Go.Proofs
attribute [local irreducible] RG CG EG WA Loc Det Alc CT Exit.then Exit.inBlock Code.wp bodyPost
set_option maxHeartbeats 4000000 in
theorem refPut_ct {k : PH} {t : Tx} {b : Batch} {a0 : Option Addr} {c0 : Nat} {a1 : Option Addr} {c1 : Nat} {a2 : Option Addr} {c2 : Nat} {ab : Option Addr} {cb : Nat} (ht : TxAt k t a0 c0 a1 c1 a2 c2) (hr : Sl tRec k ab cb b.recs) (hok : b.ok) (ho : t.openV.length ≤ 1000000) (hg : t.gone.length ≤ 1000000) (hd : t.done.length ≤ 1000000) :
    CT Try.prog 40 #[.agg (t.cs a0 c0 a1 c1 a2 c2).toArray, .agg (b.cs ab cb).toArray] k (PutRes t b) := by
  refine ct_of_body (l := [_, _]) Try.func40 rfl Try.ntmps40 (by simp) PutRes.mono fun F hF0 hFm => ?_
  repeat (first | refine cg_seq ?_ | refine cg_region ?_)
  refine rb rfl rfl rfl rfl (a_box rfl rfl) ?_; intro b2 k2 hb2 hN2 hle2 hk2
  refine rb rfl rfl rfl rfl (a_box rfl rfl) ?_; intro b3 k3 hb3 hN3 hle3 hk3
  refine rb rfl rfl rfl rfl (a_alloc rfl) ?_; intro b4 k4 hb4 hN4 hle4 hk4
  have hle := hle2.trans (hle3.trans hle4)
  have ct := (cells_at (vs := t.cs a0 c0 a1 c1 a2 c2) hk2 rfl).le (hle3.trans hle4)
  have cbt := (cells_at (vs := b.cs ab cb) hk3 rfl).le hle4
  have ht0 := ht
  have hr0 := hr
  have ht := ht.le hle
  have hr := hr.le hle
  have hkb : k b4 = none := (hle2.trans hle3).none hb4
  repeat (first | refine cg_seq ?_ | refine cg_region ?_ | refine rg_nil ?_ | refine eg_then ?_ | refine qsp ?_ | refine qsg ?_)
  refine rs rfl rfl (loc_call_is rfl rfl rfl rfl (refCheck_ct ht)) ?_
  have bad : ∀ (e : Int) (k' : PH), e ≠ 0 → putErr t b = e → PutRes t b k' (.tuple #[.agg (noTx.cs none 0 none 0 none 0).toArray, .int .i64 e]) := fun e k' he h => ⟨none, 0, none, 0, none, 0, by rw [h, putR, h, if_neg he], by rw [putR, h, if_neg he]; exact noTxAt _⟩
  cases q1 : txP t
  · simp only [errOf]
    repeat (first | refine cg_seq ?_ | refine cg_region ?_ | refine rg_nil ?_ | refine eg_then ?_ | refine qsp ?_ | refine cg_cond_true rfl ?_)
    refine rs rfl rfl (loc_det rfl (d_lit (cells := noTx.cs none 0 none 0 none 0) rfl rfl rfl)) ?_
    repeat (first | refine qsp ?_)
    refine rw1 (vs := noTx.cs none 0 none 0 none 0) rfl rfl rfl rfl rfl rfl rfl hk4 rfl (.inl hN4) ?_ ?_
    · simp [Tx.cs, Value.oneCell']
    intro k9 ht9 hk9
    have c9 := cells_at (vs := noTx.cs none 0 none 0 none 0) hk9 rfl
    repeat (first | refine rg_nil ?_ | refine eg_then ?_ | refine qsp ?_ | refine cg_ret ?_ | refine eg_then_ret ?_)
    exact eg_returnC2 rfl rfl rfl rfl c9 rfl (bad 1 _ (by decide) (by simp [putErr, q1]))
  simp only [errOf, if_true]
  repeat (first | refine cg_seq ?_ | refine cg_region ?_ | refine rg_nil ?_ | refine eg_then ?_ | refine qsp ?_ | refine qsg ?_ | refine cg_cond_false rfl ?_ | refine cg_skip ?_)
  refine rs rfl rfl (loc_call_is rfl rfl rfl rfl (refChk_ct hr hok)) ?_
  repeat (first | refine cg_seq ?_ | refine cg_region ?_ | refine rg_nil ?_ | refine eg_then ?_ | refine qsp ?_)
  cases q2 : (chkB b != 0)
  rotate_left
  · have q2' : chkB b ≠ 0 := by simpa using q2
    repeat (first | refine cg_seq ?_ | refine cg_region ?_ | refine cg_cond_true rfl ?_)
    refine rs rfl rfl (loc_det rfl (d_lit (cells := noTx.cs none 0 none 0 none 0) rfl rfl rfl)) ?_
    repeat (first | refine qsp ?_)
    refine rw1 (vs := noTx.cs none 0 none 0 none 0) rfl rfl rfl rfl rfl rfl rfl hk4 rfl (.inl hN4) ?_ ?_
    · simp [Tx.cs, Value.oneCell']
    intro k9 ht9 hk9
    have c9 := cells_at (vs := noTx.cs none 0 none 0 none 0) hk9 rfl
    repeat (first | refine rg_nil ?_ | refine eg_then ?_ | refine qsp ?_ | refine cg_ret ?_ | refine eg_then_ret ?_)
    exact eg_returnC2 rfl rfl rfl rfl c9 rfl (bad _ _ q2' (by simp [putErr, q1, q2']))
  have q2' : chkB b = 0 := by simpa using q2
  have hbase := (chk_form q2').base.1
  obtain ⟨p0, _⟩ := Batch.parts cbt
  have ct' := ct
  have cbt' := cbt
  repeat (first | refine cg_seq ?_ | refine eg_then ?_ | refine cg_cond_false rfl ?_ | refine cg_skip ?_)
  refine cg_any (by kernel_rfl) rfl ?_
  repeat (first | refine qwl ?_ | refine qwg ?_ | refine qwf ?_)
  refine ws rfl (loc_call_is rfl rfl rfl rfl (top_ct ht.o ht.g ht.d)) ?_
  repeat (first | refine qwp ?_ | (refine wn rfl ?_; refine eg_then ?_))
  have hbt := behind_top (t := t) hbase
  cases q3 : decide (b.base ≤ topT t)
  rotate_left
  · rw [q3] at hbt
    skip
    repeat (first | refine cg_seq ?_ | refine cg_region ?_ | refine cg_cond_true rfl ?_)
    refine rs rfl rfl (loc_det rfl (d_lit (cells := noTx.cs none 0 none 0 none 0) rfl rfl rfl)) ?_
    skip
    refine rw1 (vs := noTx.cs none 0 none 0 none 0) rfl rfl rfl rfl rfl rfl rfl hk4 rfl (.inl hN4) ?_ ?_
    · simp [Tx.cs, Value.oneCell']
    intro k9 ht9 hk9
    have c9 := cells_at (vs := noTx.cs none 0 none 0 none 0) hk9 rfl
    repeat (first | refine rg_nil ?_ | refine eg_then ?_ | refine qsp ?_ | refine cg_ret ?_ | refine eg_then_ret ?_)
    exact eg_returnC2 rfl rfl rfl rfl c9 rfl (bad 71 _ (by decide) (by simp [putErr, q1, q2', hbt]))
  rw [q3] at hbt
  have good : putErr t b = 0 := by simp [putErr, q1, q2', hbt]
  skip
  repeat (first | refine cg_seq ?_ | refine cg_region ?_ | refine eg_then ?_ | refine qsg ?_ | refine cg_cond_false rfl ?_ | refine cg_skip ?_)
  refine rvh (h := k) rfl rfl rfl rfl rfl rfl rfl hle (refPut0_ct ht0 hr0 hok (ctl_cases q2') ho hg hd) ?_
  rintro h2 k7 v hh2 hold hle7 hh7 ⟨q0, s0, q1', s1, q2', s2, rfl, hU⟩
  have hm : h2 b4 = none := by rw [hold b4 _ hk4]; exact hkb
  refine rw1 (vs := (putT t b).cs q0 s0 q1' s1 q2' s2) rfl rfl rfl rfl rfl rfl rfl (hle7 _ _ hk4) rfl (.inl hN4) ?_ ?_
  · simp [Tx.cs, Value.oneCell']
  intro k9 ht9 hk9
  have c9 := cells_at (vs := (putT t b).cs q0 s0 q1' s1 q2' s2) hk9 rfl
  have eR : putR t b = putT t b := by rw [putR, if_pos good]
  repeat (first | refine rg_nil ?_ | refine eg_then ?_ | refine qsp ?_ | refine cg_ret ?_)
  exact eg_returnC2 rfl rfl rfl rfl c9 rfl ⟨q0, s0, q1', s1, q2', s2, by rw [eR, good], by rw [eR]; exact hU.le (ht9 h2 hh7 hm)⟩
end Go.Wm
namespace Go.Wm
open Go.RowKit Go.Proofs
attribute [local irreducible] RG CG EG WA Loc Det Alc CT Exit.then Exit.inBlock Code.wp bodyPost
set_option maxHeartbeats 4000000 in
theorem txnsPut_walk {k : PH} {ct cb : List Value} {t : Tx} {b : Batch} {B0 : Prop} (hT : tTx.rep k ct t) (_ : B0) (hB : tBatch.rep k cb b) (hsm : b.small) :
    CT Try.prog 10 #[.agg ct.toArray, .agg cb.toArray] k (fun _ v => v = .bool true) := by
  obtain ⟨a0, c0, a1, c1, a2, c2, rfl, ⟨ho, hg, hd⟩, hokT⟩ := hT
  obtain ⟨ab, cb', rfl, hr, hok⟩ := hB
  refine ct_of_body (l := [_, _]) Try.func10 rfl Try.ntmps10 (by simp) (fun _ _ _ _ h => h) fun F hF0 hFm => ?_
  repeat (first | refine cg_seq ?_ | refine cg_region ?_)
  refine rb rfl rfl rfl rfl (a_box rfl rfl) ?_; intro b2 k2 hb2 hN2 hle2 hk2
  refine rb rfl rfl rfl rfl (a_box rfl rfl) ?_; intro b3 k3 hb3 hN3 hle3 hk3
  have hle := hle2.trans hle3
  have cT := (cells_at (vs := t.cs a0 c0 a1 c1 a2 c2) hk2 rfl).le hle3
  have cB := cells_at (vs := b.cs ab cb') hk3 rfl
  have hT : TxAt k3 t a0 c0 a1 c1 a2 c2 := ⟨ho.le hle, hg.le hle, hd.le hle⟩
  have hr := hr.le hle
  repeat (first | refine cg_seq ?_ | refine cg_region ?_ | refine rg_nil ?_ | refine eg_then ?_ | refine qsp ?_)
  refine rs rfl rfl (loc_call_is rfl rfl rfl rfl (live12_ct)) ?_
  repeat (first | refine cg_seq ?_ | refine cg_region ?_ | refine rg_nil ?_ | refine eg_then ?_ | refine qsp ?_ | refine qsg ?_)
  refine rs rfl rfl (loc_call_is rfl rfl rfl rfl (fewT_ct)) ?_
  repeat (first | refine qsp ?_)
  cases q1 : fewT t
  · repeat (first | refine cg_seq ?_ | refine cg_region ?_ | refine rg_nil ?_ | refine eg_then ?_ | refine qsp ?_ | refine qso ?_ | refine cg_cond_true rfl ?_ | refine cg_ret ?_ | refine eg_then_ret ?_)
    exact eg_return rfl rfl rfl
  obtain ⟨f0, f1, f2⟩ := fewT_iff q1
  repeat (first | refine qsg ?_)
  refine rs rfl rfl (loc_call_is rfl rfl rfl rfl (fewBatch_ct hr (short_b hsm))) ?_
  repeat (first | refine rg_nil ?_ | refine eg_then ?_ | refine qsp ?_)
  cases q2 : fewB b
  · repeat (first | refine cg_seq ?_ | refine cg_region ?_ | refine rg_nil ?_ | refine eg_then ?_ | refine qsp ?_ | refine cg_cond_true rfl ?_ | refine cg_ret ?_ | refine eg_then_ret ?_)
    exact eg_return rfl rfl rfl
  repeat (first | refine cg_seq ?_ | refine cg_region ?_ | refine eg_then ?_ | refine qsg ?_ | refine cg_cond_false rfl ?_ | refine cg_skip ?_)
  refine rv rfl rfl rfl (loc_call rfl rfl rfl rfl PutRes.mono (txPut_ct hT hr hok (by omega) (by omega) (by omega))) ?_
  rintro k4 hle4 _ ⟨p0, s0, p1, s1, p2, s2, rfl, hU⟩
  repeat (first | refine qsp ?_)
  refine rb rfl rfl rfl rfl (a_alloc rfl) ?_; intro b6 k6 hb6 hN6 hle6 hk6
  refine rw1 (vs := (putR t b).cs p0 s0 p1 s1 p2 s2) rfl rfl rfl rfl rfl rfl rfl hk6 rfl (.inl hN6) ?_ ?_
  · simp [Tx.cs, Value.oneCell']
  intro k7 ht7 hk7
  have c7 := cells_at (vs := (putR t b).cs p0 s0 p1 s1 p2 s2) hk7 rfl
  have hle7 : Le k4 k7 := ht7 k4 hle6 hb6
  have hU := hU.le hle7
  have hT := hT.le (hle4.trans hle7)
  have cT := cT.le (hle4.trans hle7)
  have cB := cB.le (hle4.trans hle7)
  have hr := hr.le (hle4.trans hle7)
  repeat (first | refine cg_seq ?_ | refine cg_region ?_ | refine rg_nil ?_ | refine eg_then ?_ | refine qsp ?_ | refine qsg ?_)
  refine rv rfl rfl rfl (loc_call rfl rfl rfl rfl PutRes.mono (refPut_ct hT hr hok (by omega) (by omega) (by omega))) ?_
  rintro k8 hle8 _ ⟨r0, v0, r1, v1, r2, v2, rfl, hY⟩
  repeat (first | refine qsp ?_)
  refine rb rfl rfl rfl rfl (a_alloc rfl) ?_; intro b9 k9 hb9 hN9 hle9 hk9
  refine rw1 (vs := (putR t b).cs r0 v0 r1 v1 r2 v2) rfl rfl rfl rfl rfl rfl rfl hk9 rfl (.inl hN9) ?_ ?_
  · simp [Tx.cs, Value.oneCell']
  intro k10 ht10 hk10
  have c10 := cells_at (vs := (putR t b).cs r0 v0 r1 v1 r2 v2) hk10 rfl
  have hle10 : Le k8 k10 := ht10 k8 hle9 hb9
  have hY := hY.le hle10
  have hU := hU.le (hle8.trans hle10)
  have hT := hT.le (hle8.trans hle10)
  have cT := cT.le (hle8.trans hle10)
  have c7 := c7.le (hle8.trans hle10)
  have s1 := txCheck_ct hT (by omega) (by omega)
  have s2 := refCheck_ct hT
  have s3 := sameTx_ct hU.o hU.g hU.d hY.o hY.g hY.d
  rw [decide_eq_true rfl] at s3
  unfold errOf at s1 s2
  repeat (first | refine cg_seq ?_ | refine rg_nil ?_ | refine eg_then ?_ | refine qsp ?_)
  refine cg_any (by kernel_rfl) rfl ?_
  repeat (first | refine qwp ?_ | refine qwg ?_)
  refine ws rfl (loc_call_is rfl rfl rfl rfl (s1)) ?_
  repeat (first | refine qwg ?_)
  refine ws rfl (loc_call_is rfl rfl rfl rfl (s2)) ?_
  repeat (first | refine qwp ?_)
  rw [show ((if txP t = true then (0 : Int) else 1) == (if txP t = true then (0 : Int) else 1)) = true from beq_self_eq_true _]
  repeat (first | refine qwg ?_)
  refine ws rfl (loc_call_is rfl rfl rfl rfl (s3)) ?_
  repeat (first | refine qwp ?_ | (refine wn rfl ?_; refine eg_then ?_))
  rw [show (putErr t b == putErr t b) = true from beq_self_eq_true _]
  skip
  repeat (first | refine cg_ret ?_)
  exact eg_return rfl rfl rfl
end Go.Wm

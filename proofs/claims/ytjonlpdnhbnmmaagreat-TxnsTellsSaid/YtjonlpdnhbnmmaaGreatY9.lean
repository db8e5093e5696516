/-
  Whether a batch may be put behind transactions, and what becomes of them, the document's. Conditions: that what is handed in reads as data.
-/
import Derived.Test.YtjonlpdnhbnmmaaGreatY8
import Derived.Test.YtjonlpdnhbnmmaaGreatQ4
set_option linter.all false
namespace Go.Wm
open Go.RowKit Go.Proofs
attribute [local irreducible] RG CG EG WA Loc Det Alc CT Exit.then Exit.inBlock Code.wp bodyPost
set_option maxHeartbeats 4000000 in
theorem refPut_ct {k : PH} {t : Tx} {b : Batch} {a0 : Option Addr} {c0 : Nat} {a1 : Option Addr} {c1 : Nat} {a2 : Option Addr} {c2 : Nat} {ab : Option Addr} {cb : Nat} (ht : TxAt k t a0 c0 a1 c1 a2 c2) (hr : Sl tRec k ab cb b.recs) (hok : b.ok) (ho : t.openV.length ≤ 1000000) (hg : t.gone.length ≤ 1000000) (hd : t.done.length ≤ 1000000) :
    CT Tryz.prog 51 #[.agg (t.cs a0 c0 a1 c1 a2 c2).toArray, .agg (b.cs ab cb).toArray] k (PutRes t b) := by
  refine ct_of_body (l := [_, _]) Tryz.func51 rfl Tryz.ntmps51 (by simp) PutRes.mono fun F hF0 hFm => ?_
  repeat (first | refine cg_seq ?_ | refine cg_region ?_)
  refine rb rfl rfl rfl rfl (a_box rfl rfl) ?_; intro b2 k2 hb2 hN2 hle2 hk2
  refine rb rfl rfl rfl rfl (a_box rfl rfl) ?_; intro b3 k3 hb3 hN3 hle3 hk3
  refine rb rfl rfl rfl rfl (a_alloc rfl) ?_; intro b4 k4 hb4 hN4 hle4 hk4
  have hle := hle2.trans (hle3.trans hle4)
  have ct := (cells_at (vs := t.cs a0 c0 a1 c1 a2 c2) hk2 rfl).le (hle3.trans hle4)
  have cbt := (cells_at (vs := b.cs ab cb) hk3 rfl).le hle4
  have ht0 := ht
  have hr0 := hr
  have ht := ht.le hle
  have hr := hr.le hle
  have hkb : k b4 = none := (hle2.trans hle3).none hb4
  repeat (first | refine cg_seq ?_ | refine cg_region ?_ | refine rg_nil ?_ | refine eg_then ?_ | refine qsp ?_ | refine qsg ?_)
  refine rs rfl rfl (loc_call_is rfl rfl rfl rfl (refCheck_ct ht)) ?_
  have bad : ∀ (e : Int) (k' : PH), e ≠ 0 → putErr t b = e → PutRes t b k' (.tuple #[.agg (noTx.cs none 0 none 0 none 0).toArray, .int .i64 e]) := fun e k' he h => ⟨none, 0, none, 0, none, 0, by rw [h, putR, h, if_neg he], by rw [putR, h, if_neg he]; exact noTxAt _⟩
  cases q1 : txP t
  · simp only [errOf]
    repeat (first | refine cg_seq ?_ | refine cg_region ?_ | refine rg_nil ?_ | refine eg_then ?_ | refine qsp ?_ | refine cg_cond_true rfl ?_)
    refine rs rfl rfl (loc_det rfl (d_lit (cells := noTx.cs none 0 none 0 none 0) rfl rfl rfl)) ?_
    repeat (first | refine qsp ?_)
    refine rw1 (vs := noTx.cs none 0 none 0 none 0) rfl rfl rfl rfl rfl rfl rfl hk4 rfl (.inl hN4) ?_ ?_
    · simp [Tx.cs, Value.oneCell']
    intro k9 ht9 hk9
    have c9 := cells_at (vs := noTx.cs none 0 none 0 none 0) hk9 rfl
    repeat (first | refine rg_nil ?_ | refine eg_then ?_ | refine qsp ?_ | refine cg_ret ?_ | refine eg_then_ret ?_)
    exact eg_returnC2 rfl rfl rfl rfl c9 rfl (bad 1 _ (by decide) (by simp [putErr, q1]))
  simp only [errOf, if_true]
  repeat (first | refine cg_seq ?_ | refine cg_region ?_ | refine rg_nil ?_ | refine eg_then ?_ | refine qsp ?_ | refine qsg ?_ | refine cg_cond_false rfl ?_ | refine cg_skip ?_)
  refine rs rfl rfl (loc_call_is rfl rfl rfl rfl (refChk_ct hr hok)) ?_
  repeat (first | refine cg_seq ?_ | refine cg_region ?_ | refine rg_nil ?_ | refine eg_then ?_ | refine qsp ?_)
  cases q2 : (chkB b != 0)
  rotate_left
  · have q2' : chkB b ≠ 0 := by simpa using q2
    repeat (first | refine cg_seq ?_ | refine cg_region ?_ | refine cg_cond_true rfl ?_)
    refine rs rfl rfl (loc_det rfl (d_lit (cells := noTx.cs none 0 none 0 none 0) rfl rfl rfl)) ?_
    repeat (first | refine qsp ?_)
    refine rw1 (vs := noTx.cs none 0 none 0 none 0) rfl rfl rfl rfl rfl rfl rfl hk4 rfl (.inl hN4) ?_ ?_
    · simp [Tx.cs, Value.oneCell']
    intro k9 ht9 hk9
    have c9 := cells_at (vs := noTx.cs none 0 none 0 none 0) hk9 rfl
    repeat (first | refine rg_nil ?_ | refine eg_then ?_ | refine qsp ?_ | refine cg_ret ?_ | refine eg_then_ret ?_)
    exact eg_returnC2 rfl rfl rfl rfl c9 rfl (bad _ _ q2' (by simp [putErr, q1, q2']))
  have q2' : chkB b = 0 := by simpa using q2
  have hbase := (chk_form q2').base.1
  obtain ⟨p0, _⟩ := Batch.parts cbt
  have ct' := ct
  have cbt' := cbt
  repeat (first | refine cg_seq ?_ | refine eg_then ?_ | refine cg_cond_false rfl ?_ | refine cg_skip ?_)
  refine cg_any (by kernel_rfl) rfl ?_
  repeat (first | refine qwl ?_ | refine qwg ?_ | refine qwf ?_)
  refine ws rfl (loc_call_is rfl rfl rfl rfl (top_ct ht.o ht.g ht.d)) ?_
  repeat (first | refine qwp ?_ | (refine wn rfl ?_; refine eg_then ?_))
  have hbt := behind_top (t := t) hbase
  cases q3 : decide (b.base ≤ topT t)
  rotate_left
  · rw [q3] at hbt
    skip
    repeat (first | refine cg_seq ?_ | refine cg_region ?_ | refine cg_cond_true rfl ?_)
    refine rs rfl rfl (loc_det rfl (d_lit (cells := noTx.cs none 0 none 0 none 0) rfl rfl rfl)) ?_
    skip
    refine rw1 (vs := noTx.cs none 0 none 0 none 0) rfl rfl rfl rfl rfl rfl rfl hk4 rfl (.inl hN4) ?_ ?_
    · simp [Tx.cs, Value.oneCell']
    intro k9 ht9 hk9
    have c9 := cells_at (vs := noTx.cs none 0 none 0 none 0) hk9 rfl
    repeat (first | refine rg_nil ?_ | refine eg_then ?_ | refine qsp ?_ | refine cg_ret ?_ | refine eg_then_ret ?_)
    exact eg_returnC2 rfl rfl rfl rfl c9 rfl (bad 71 _ (by decide) (by simp [putErr, q1, q2', hbt]))
  rw [q3] at hbt
  have good : putErr t b = 0 := by simp [putErr, q1, q2', hbt]
  skip
  repeat (first | refine cg_seq ?_ | refine cg_region ?_ | refine eg_then ?_ | refine qsg ?_ | refine cg_cond_false rfl ?_ | refine cg_skip ?_)
  refine rvh (h := k) rfl rfl rfl rfl rfl rfl rfl hle (refPut0_ct ht0 hr0 hok (ctl_cases q2') ho hg hd) ?_
  rintro h2 k7 v hh2 hold hle7 hh7 ⟨q0, s0, q1', s1, q2', s2, rfl, hU⟩
  have hm : h2 b4 = none := by rw [hold b4 _ hk4]; exact hkb
  refine rw1 (vs := (putT t b).cs q0 s0 q1' s1 q2' s2) rfl rfl rfl rfl rfl rfl rfl (hle7 _ _ hk4) rfl (.inl hN4) ?_ ?_
  · simp [Tx.cs, Value.oneCell']
  intro k9 ht9 hk9
  have c9 := cells_at (vs := (putT t b).cs q0 s0 q1' s1 q2' s2) hk9 rfl
  have eR : putR t b = putT t b := by rw [putR, if_pos good]
  repeat (first | refine rg_nil ?_ | refine eg_then ?_ | refine qsp ?_ | refine cg_ret ?_)
  exact eg_returnC2 rfl rfl rfl rfl c9 rfl ⟨q0, s0, q1', s1, q2', s2, by rw [eR, good], by rw [eR]; exact hU.le (ht9 h2 hh7 hm)⟩
end Go.Wm

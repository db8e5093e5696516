/-
  SeqsLooks, SeqsTwice and SeqsFences, walked. Conditions: that what is handed in reads as data.
-/
import Derived.Test.YtfejamdfhbamcaaG18
import Derived.Test.YtfejamdfhbamcaaG5
set_option linter.all false
namespace Go.Wm
open Go.RowKit Go.Proofs
attribute [local irreducible] RG CG EG WA Loc Det Alc CT Exit.then Exit.inBlock Code.wp bodyPost
theorem short_of {b : Batch} (h : b.small) : Short b := fun r hr => ⟨(h.2.2.2.2.2.2.2.2.2.2 r hr).2.1, (h.2.2.2.2.2.2.2.2.2.2 r hr).2.2.1⟩
set_option maxHeartbeats 2000000 in
theorem seqsLooks_walk {k : PH} {a : Option Addr} {c : Nat} {l : List ProdT} {cb : List Value} {b : Batch} {B0 : Prop} (hl : Sl tProdT k a c l) (_ : B0) (hB : tBatch.rep k cb b) (hsm : b.small) :
    CT Try.prog 3 #[.slice a l.length c, .agg cb.toArray] k (fun _ v => v = .bool true) := by
  obtain ⟨ab, cb', rfl, hr, hok⟩ := hB
  refine ct_of_body (l := [_, _]) Try.func3 rfl Try.ntmps3 (by simp) (fun _ _ _ _ h => h) fun F hF0 hFm => ?_
  repeat (first | refine cg_seq ?_ | refine cg_region ?_)
  refine rb rfl rfl rfl rfl (a_box rfl rfl) ?_; intro b3 k3 hb3 hN3 hle3 hk3
  have hl := hl.le hle3
  have hr := hr.le hle3
  have cb3 := cells_at (vs := b.cs ab cb') hk3 rfl
  repeat (first | refine cg_seq ?_ | refine cg_region ?_ | refine rg_nil ?_ | refine eg_then ?_ | refine qsp ?_)
  refine rs rfl rfl (loc_call_is rfl rfl rfl rfl (live11_ct)) ?_
  repeat (first | refine cg_seq ?_ | refine cg_region ?_ | refine rg_nil ?_ | refine eg_then ?_ | refine qsp ?_ | refine qsg ?_ | refine cg_cond_false rfl ?_ | refine cg_skip ?_)
  refine rs rfl rfl (loc_call_is rfl rfl rfl rfl (few11_ct hl hr (short_of hsm))) ?_
  cases q1 : (fewPB l && fewB b)
  case false =>
    repeat (first | refine cg_seq ?_ | refine cg_region ?_ | refine rg_nil ?_ | refine eg_then ?_ | refine qsp ?_ | refine cg_cond_true rfl ?_ | refine cg_ret ?_ | refine eg_then_ret ?_)
    exact eg_return rfl rfl rfl
  repeat (first | refine cg_seq ?_ | refine cg_region ?_ | refine rg_nil ?_ | refine eg_then ?_ | refine qsp ?_ | refine qsg ?_ | refine cg_cond_false rfl ?_ | refine cg_skip ?_)
  refine rs rfl rfl (loc_call_is rfl rfl rfl rfl (look_ct hl hr hok)) ?_
  have hrl := refLook_ct hl hr hok
  generalize lookR l b = q at hrl ⊢
  obtain ⟨x, y, z⟩ := q
  unfold lookVal at hrl ⊢
  dsimp only at hrl ⊢
  repeat (first | refine cg_seq ?_ | refine cg_region ?_ | refine rg_nil ?_ | refine eg_then ?_ | refine qsp ?_ | refine qsg ?_)
  refine rs rfl rfl (loc_call_is rfl rfl rfl rfl (hrl)) ?_
  repeat (first | refine cg_seq ?_ | refine cg_region ?_ | refine rg_nil ?_ | refine eg_then ?_ | refine qsp ?_)
  rw [show (x == x) = true by simp]
  repeat (first | refine qsp ?_)
  refine rs rfl rfl (loc_det rfl (d_eqb rfl rfl rfl)) ?_
  rw [show (y == y) = true by simp]
  repeat (first | refine qsp ?_)
  rw [show (z == z) = true by simp]
  repeat (first | refine qsp ?_)
  refine rs rfl rfl (loc_call_is rfl rfl rfl rfl (seqsCheck_ct hl)) ?_
  repeat (first | refine qsp ?_)
  refine rs rfl rfl (loc_call_is rfl rfl rfl rfl (refSeqsCheck_ct hl)) ?_
  repeat (first | refine rg_nil ?_ | refine eg_then ?_ | refine qsp ?_ | refine cg_ret ?_)
  rw [show (chkP l == chkP l) = true by simp]
  skip
  exact eg_return rfl rfl rfl
theorem put_err {l : List ProdT} {b : Batch} (h : (putR l b).2 ≠ 0) : (putR l b).1 = [] := by
  unfold putR at h ⊢
  split
  · rfl
  · rename_i h1
    rw [if_neg h1] at h
    split
    · rfl
    · rename_i h2
      rw [if_neg h2] at h
      split at h <;> exact absurd rfl h
set_option maxHeartbeats 4000000 in
theorem seqsTwice_walk {k : PH} {a : Option Addr} {c : Nat} {l : List ProdT} {cb : List Value} {b : Batch} {B0 : Prop} (hl : Sl tProdT k a c l) (_ : B0) (hB : tBatch.rep k cb b) (hsm : b.small) :
    CT Try.prog 8 #[.slice a l.length c, .agg cb.toArray] k (fun _ v => v = .bool true) := by
  obtain ⟨ab, cb', rfl, hr, hok⟩ := hB
  refine ct_of_body (l := [_, _]) Try.func8 rfl Try.ntmps8 (by simp) (fun _ _ _ _ h => h) fun F hF0 hFm => ?_
  repeat (first | refine cg_seq ?_ | refine cg_region ?_)
  refine rb rfl rfl rfl rfl (a_box rfl rfl) ?_; intro b3 k3 hb3 hN3 hle3 hk3
  have hl := hl.le hle3
  have hr := hr.le hle3
  have cb3 := cells_at (vs := b.cs ab cb') hk3 rfl
  repeat (first | refine cg_seq ?_ | refine cg_region ?_ | refine rg_nil ?_ | refine eg_then ?_ | refine qsp ?_)
  refine rs rfl rfl (loc_call_is rfl rfl rfl rfl (live11_ct)) ?_
  repeat (first | refine cg_seq ?_ | refine cg_region ?_ | refine rg_nil ?_ | refine eg_then ?_ | refine qsp ?_ | refine qsg ?_ | refine cg_cond_false rfl ?_ | refine cg_skip ?_)
  refine rs rfl rfl (loc_call_is rfl rfl rfl rfl (few11_ct hl hr (short_of hsm))) ?_
  cases q1 : (fewPB l && fewB b)
  case false =>
    repeat (first | refine cg_seq ?_ | refine cg_region ?_ | refine rg_nil ?_ | refine eg_then ?_ | refine qsp ?_ | refine cg_cond_true rfl ?_ | refine cg_ret ?_ | refine eg_then_ret ?_)
    exact eg_return rfl rfl rfl
  repeat (first | refine cg_seq ?_ | refine cg_region ?_ | refine rg_nil ?_ | refine eg_then ?_ | refine qsp ?_ | refine qsg ?_ | refine cg_cond_false rfl ?_ | refine cg_skip ?_)
  refine rvn rfl rfl rfl rfl rfl rfl rfl (seqsPut_ctn hl hr hok) ?_
  rintro N4 k4 _ hN4 _ hle4 ⟨u4, rfl, own4⟩
  have hpe := put_err (l := l) (b := b)
  have htw := look_twice (l := l) (b := b)
  have hpc := put_chk (l := l) (b := b)
  generalize putR l b = pr at own4 hpe htw hpc ⊢
  obtain ⟨m, er⟩ := pr
  dsimp only at own4 hpe htw hpc ⊢
  obtain ⟨am, cm, rfl, sm⟩ := own4.sl
  have hl := hl.le hle4
  have hr := hr.le hle4
  have hk4 := hle4 _ _ hk3
  have cb4 := cells_at (vs := b.cs ab cb') hk4 rfl
  repeat (first | refine cg_seq ?_ | refine cg_region ?_ | refine rg_nil ?_ | refine eg_then ?_ | refine qsp ?_)
  cases q2 : (er != 0)
  case true =>
    have hm := hpe (by simpa using q2)
    subst hm
    repeat (first | refine cg_seq ?_ | refine cg_region ?_ | refine rg_nil ?_ | refine eg_then ?_ | refine qsp ?_ | refine qsn ?_ | refine cg_cond_true rfl ?_ | refine cg_ret ?_ | refine eg_then_ret ?_)
    exact eg_return rfl rfl rfl
  have q2 : er = 0 := by simpa using q2
  subst q2
  obtain ⟨t1, t2, t3⟩ := htw rfl
  have hpc := hpc rfl
  have cb4 := cb4
  repeat (first | refine cg_seq ?_ | refine cg_region ?_ | refine eg_then ?_ | refine qsp ?_ | refine qsg ?_ | refine cg_cond_false rfl ?_ | refine cg_skip ?_)
  refine rs rfl rfl (loc_call_is rfl rfl rfl rfl (look_ct hl hr hok)) ?_
  generalize lookR l b = lk0 at t3 ⊢
  obtain ⟨x0, y0, z0⟩ := lk0
  unfold lookVal
  dsimp only at t3 ⊢
  repeat (first | refine cg_seq ?_ | refine cg_region ?_ | refine rg_nil ?_ | refine eg_then ?_ | refine qsp ?_ | refine qsg ?_)
  refine rs rfl rfl (loc_call_is rfl rfl rfl rfl (look_ct sm hr hok)) ?_
  have hp2 := seqsPut_ctn sm hr hok
  rw [t2] at hp2
  generalize lookR m b = lk1 at t1 t3 ⊢
  obtain ⟨x1, y1, z1⟩ := lk1
  unfold lookVal
  dsimp only at t1 t3 ⊢
  subst t1
  repeat (first | refine cg_seq ?_ | refine cg_region ?_ | refine rg_nil ?_ | refine eg_then ?_ | refine qsp ?_ | refine qsg ?_)
  refine rvn rfl rfl rfl rfl rfl rfl rfl hp2 ?_
  rintro N5 k5 _ hN5 _ hle5 ⟨u5, rfl, own5⟩
  obtain ⟨an, cn, rfl, sn⟩ := own5.sl
  have sm := sm.le hle5
  have hk5 := hle5 _ _ hk4
  have cb5 := cells_at (vs := b.cs ab cb') hk5 rfl
  obtain ⟨p0, p1, p2, p3, p4, p5, p6, p7, p8, p9⟩ := Batch.parts cb5
  dsimp only
  repeat (first | refine cg_seq ?_ | refine cg_region ?_ | refine rg_nil ?_ | refine eg_then ?_ | refine qsp ?_)
  refine rs rfl rfl (loc_call_is rfl rfl rfl rfl (samePd_ct sm sn)) ?_
  rw [decide_eq_true (rfl : m = m)]
  repeat (first | refine cg_seq ?_ | refine cg_region ?_ | refine rg_nil ?_ | refine eg_then ?_ | refine qsp ?_)
  refine rs rfl rfl (loc_call_is rfl rfl rfl rfl (seqsCheck_ct sm)) ?_
  rw [hpc]
  repeat (first | refine cg_seq ?_ | refine cg_region ?_ | refine rg_nil ?_ | refine eg_then ?_ | refine qsp ?_ | refine qsl ?_ | refine qsf ?_ | refine cg_cond_false rfl ?_ | refine cg_skip ?_)
  cases q3 : decide (b.pid < 0)
  case true =>
    rw [if_pos (.inl (of_decide_eq_true q3))] at t3
    subst t3
    repeat (first | refine cg_seq ?_ | refine cg_region ?_ | refine rg_nil ?_ | refine eg_then ?_ | refine qsp ?_ | refine qso ?_ | refine cg_cond_true rfl ?_ | refine cg_ret ?_ | refine eg_then_ret ?_)
    exact eg_return rfl rfl rfl
  have q3 := of_decide_eq_false q3
  repeat (first | refine rg_nil ?_ | refine eg_then ?_ | refine qsp ?_ | refine qsl ?_ | refine qsf ?_)
  cases q4 : (b.ctl != 0)
  case true =>
    rw [if_pos (.inr (by simpa using q4))] at t3
    subst t3
    repeat (first | refine cg_seq ?_ | refine cg_region ?_ | refine rg_nil ?_ | refine eg_then ?_ | refine qsp ?_ | refine cg_cond_true rfl ?_ | refine cg_ret ?_ | refine eg_then_ret ?_)
    exact eg_return rfl rfl rfl
  have q4 : b.ctl = 0 := by simpa using q4
  rw [if_neg (by simp [q4]; omega)] at t3
  obtain ⟨rfl, t4⟩ := t3
  repeat (first | refine cg_seq ?_ | refine cg_region ?_ | refine eg_then ?_ | refine qsp ?_ | refine cg_cond_false rfl ?_ | refine cg_skip ?_)
  cases y0
  case true =>
    repeat (first | refine rg_nil ?_ | refine eg_then ?_ | refine qsp ?_ | refine qso ?_ | refine cg_ret ?_)
    exact eg_return rfl rfl rfl
  have t4 : x1 = b.base := by simpa using t4
  repeat (first | refine rg_nil ?_ | refine eg_then ?_ | refine qsp ?_ | refine qsl ?_ | refine qsf ?_ | refine cg_ret ?_)
  rw [show (x1 == b.base) = true by simp [t4]]
  skip
  exact eg_return rfl rfl rfl
theorem few0_ct {k : PH} {b : Batch} {ab : Option Addr} {cb : Nat} (hr : Sl tRec k ab cb b.recs) (hsh : Short b) : CT Try.prog 19 #[.slice none 0 0, .agg (b.cs ab cb).toArray] k (fun _ v => v = .bool (fewPB [] && fewB b)) := few11_ct (sl_nilP k) hr hsh
set_option maxHeartbeats 4000000 in
theorem seqsFences_walk {k : PH} {a : Option Addr} {c : Nat} {l : List ProdT} {cb co : List Value} {b old : Batch} {B0 : Prop} (hl : Sl tProdT k a c l) (_ : B0) (hB : tBatch.rep k cb b) (hsm : b.small) (hO : tBatch.rep k co old) (hso : old.small) :
    CT Try.prog 9 #[.slice a l.length c, .agg cb.toArray, .agg co.toArray] k (fun _ v => v = .bool true) := by
  obtain ⟨ab, cb', rfl, hr, hok⟩ := hB
  obtain ⟨ao, co', rfl, hro, hoko⟩ := hO
  refine ct_of_body (l := [_, _, _]) Try.func9 rfl Try.ntmps9 (by simp) (fun _ _ _ _ h => h) fun F hF0 hFm => ?_
  repeat (first | refine cg_seq ?_ | refine cg_region ?_)
  refine rb rfl rfl rfl rfl (a_box rfl rfl) ?_; intro b3 k3 hb3 hN3 hle3 hk3
  refine rb rfl rfl rfl rfl (a_box rfl rfl) ?_; intro b4 k4 hb4 hN4 hle4 hk4
  have hle34 := hle3.trans hle4
  have hl := hl.le hle34
  have hr := hr.le hle34
  have hro := hro.le hle34
  have hk3 := hle4 _ _ hk3
  have cb3 := cells_at (vs := b.cs ab cb') hk3 rfl
  have co3 := cells_at (vs := old.cs ao co') hk4 rfl
  repeat (first | refine cg_seq ?_ | refine cg_region ?_ | refine rg_nil ?_ | refine eg_then ?_ | refine qsp ?_)
  refine rs rfl rfl (loc_call_is rfl rfl rfl rfl (live11_ct)) ?_
  repeat (first | refine cg_seq ?_ | refine cg_region ?_ | refine rg_nil ?_ | refine eg_then ?_ | refine qsp ?_ | refine qsg ?_ | refine cg_cond_false rfl ?_ | refine cg_skip ?_)
  refine rs rfl rfl (loc_call_is rfl rfl rfl rfl (few11_ct hl hr (short_of hsm))) ?_
  cases q1 : (fewPB l && fewB b)
  case false =>
    repeat (first | refine cg_seq ?_ | refine cg_region ?_ | refine rg_nil ?_ | refine eg_then ?_ | refine qsp ?_ | refine qso ?_ | refine cg_cond_true rfl ?_ | refine cg_ret ?_ | refine eg_then_ret ?_)
    exact eg_return rfl rfl rfl
  repeat (first | refine qsp ?_ | refine qsg ?_)
  refine rs rfl rfl (loc_call_is rfl rfl rfl rfl (few0_ct hro (short_of hso))) ?_
  cases q2 : (fewPB [] && fewB old)
  case false =>
    repeat (first | refine cg_seq ?_ | refine cg_region ?_ | refine rg_nil ?_ | refine eg_then ?_ | refine qsp ?_ | refine cg_cond_true rfl ?_ | refine cg_ret ?_ | refine eg_then_ret ?_)
    exact eg_return rfl rfl rfl
  repeat (first | refine cg_seq ?_ | refine cg_region ?_ | refine rg_nil ?_ | refine eg_then ?_ | refine qsp ?_ | refine qsg ?_ | refine cg_cond_false rfl ?_ | refine cg_skip ?_)
  refine rvn rfl rfl rfl rfl rfl rfl rfl (seqsPut_ctn hl hr hok) ?_
  rintro N5 k5 _ hN5 _ hle5 ⟨u5, rfl, own5⟩
  have hel := look_elder (l := l) (b := b) (old := old)
  generalize putR l b = pr at own5 hel ⊢
  obtain ⟨m, er⟩ := pr
  dsimp only at own5 hel ⊢
  obtain ⟨am, cm, rfl, sm⟩ := own5.sl
  have hro := hro.le hle5
  have hk3 := hle5 _ _ hk3
  have hk4 := hle5 _ _ hk4
  obtain ⟨p0, p1, p2, p3, p4, p5, p6, p7, p8, p9⟩ := Batch.parts (cells_at (vs := b.cs ab cb') hk3 rfl)
  obtain ⟨o0, o1, o2, o3, o4, o5, o6, o7, o8, o9⟩ := Batch.parts (cells_at (vs := old.cs ao co') hk4 rfl)
  have co5 := cells_at (vs := old.cs ao co') hk4 rfl
  repeat (first | refine cg_seq ?_ | refine cg_region ?_ | refine rg_nil ?_ | refine eg_then ?_ | refine qsp ?_)
  cases q3 : (er != 0)
  case true =>
    repeat (first | refine cg_seq ?_ | refine cg_region ?_ | refine rg_nil ?_ | refine eg_then ?_ | refine qsp ?_ | refine qso ?_ | refine cg_cond_true rfl ?_ | refine cg_ret ?_ | refine eg_then_ret ?_)
    exact eg_return rfl rfl rfl
  have q3 : er = 0 := by simpa using q3
  subst q3
  repeat (first | refine qsp ?_ | refine qsl ?_ | refine qsf ?_)
  cases q4 : decide (b.pid < 0)
  case true =>
    repeat (first | refine cg_seq ?_ | refine cg_region ?_ | refine rg_nil ?_ | refine eg_then ?_ | refine qsp ?_ | refine qso ?_ | refine cg_cond_true rfl ?_ | refine cg_ret ?_ | refine eg_then_ret ?_)
    exact eg_return rfl rfl rfl
  have q4 := of_decide_eq_false q4
  repeat (first | refine qsg ?_)
  refine rs rfl rfl (loc_call_is rfl rfl rfl rfl (batchChk_ct hro hoko)) ?_
  cases q5 : (chkB old != 0)
  case true =>
    repeat (first | refine qsp ?_)
    rw [q5]
    repeat (first | refine cg_seq ?_ | refine cg_region ?_ | refine rg_nil ?_ | refine eg_then ?_ | refine qsp ?_ | refine qso ?_ | refine cg_cond_true rfl ?_ | refine cg_ret ?_ | refine eg_then_ret ?_)
    exact eg_return rfl rfl rfl
  have q5' : chkB old = 0 := by simpa using q5
  repeat (first | refine qsp ?_)
  rw [q5]
  repeat (first | refine qsp ?_ | refine qsl ?_ | refine qsf ?_)
  cases q6 : (old.pid != b.pid)
  case true =>
    repeat (first | refine cg_seq ?_ | refine cg_region ?_ | refine rg_nil ?_ | refine eg_then ?_ | refine qsp ?_ | refine qso ?_ | refine cg_cond_true rfl ?_ | refine cg_ret ?_ | refine eg_then_ret ?_)
    exact eg_return rfl rfl rfl
  have q6 : old.pid = b.pid := by simpa using q6
  repeat (first | refine rg_nil ?_ | refine eg_then ?_ | refine qsp ?_ | refine qsl ?_ | refine qsf ?_)
  cases q7 : decide (old.gen ≥ b.gen)
  case true =>
    repeat (first | refine cg_seq ?_ | refine cg_region ?_ | refine rg_nil ?_ | refine eg_then ?_ | refine qsp ?_ | refine cg_cond_true rfl ?_ | refine cg_ret ?_ | refine eg_then_ret ?_)
    exact eg_return rfl rfl rfl
  have q7 := of_decide_eq_false q7
  obtain ⟨e1, e2⟩ := hel rfl (by omega) q5' q6 (by omega)
  clear p0 p1 p2 p3 p4 p5 p6 p7 p8 p9 o0 o1 o2 o3 o4 o5 o6 o7 o8 o9
  have co5 := co5
  repeat (first | refine cg_seq ?_ | refine cg_region ?_ | refine eg_then ?_ | refine qsp ?_ | refine qsg ?_ | refine cg_cond_false rfl ?_ | refine cg_skip ?_)
  refine rs rfl rfl (loc_call_is rfl rfl rfl rfl (look_ct sm hro hoko)) ?_
  rw [e1]; unfold lookVal; dsimp only
  have hp2 := seqsPut_ctn sm hro hoko
  rw [e2] at hp2
  repeat (first | refine cg_seq ?_ | refine cg_region ?_ | refine rg_nil ?_ | refine eg_then ?_ | refine qsp ?_ | refine qsg ?_)
  refine rvn rfl rfl rfl rfl rfl rfl rfl hp2 ?_
  rintro N6 k6 _ hN6 _ hle6 ⟨u6, rfl, own6⟩
  obtain ⟨an, cn, rfl, sn⟩ := own6.sl
  dsimp only
  repeat (first | refine cg_seq ?_ | refine cg_region ?_ | refine rg_nil ?_ | refine eg_then ?_ | refine qsp ?_ | refine qsn ?_ | refine cg_ret ?_)
  exact eg_return rfl rfl rfl
end Go.Wm

/-
  How this seat's program was made. Conditions: none.
-/
import Derived.Test.YtfejamdfhbamcaaG20
import Derived.Test.YtfejamdfhbamcaaG17
import Derived.Test.YtfejamdfhbamcaaL1
import Derived.Test.YtfejamdfhbamcaaDat
import Derived.Test.YtfejamdfhbamcaaRows
set_option linter.all false
namespace Go.Wm
open Go.RowKit Go.Proofs
attribute [local irreducible] RG CG EG WA Loc Det Alc CT Exit.then Exit.inBlock Code.wp bodyPost
set_option maxHeartbeats 2000000 in
theorem refSeqsPut_ctn {k : PH} {a : Option Addr} {c : Nat} {l : List ProdT} {b : Batch} {ab : Option Addr} {cb : Nat} (hl : Sl tProdT k a c l) (hr : Sl tRec k ab cb b.recs) (hok : b.ok) :
    CTN Try.prog 25 #[.slice a l.length c, .agg (b.cs ab cb).toArray] k (PutV (putR l b)) := by
  refine ctn_of_body (l := [_, _]) Try.func25 rfl Try.ntmps25 (by simp) PutV.mono fun F hF0 hFm => ?_
  have b1 := hl.cap; have b2 := hl.max; unfold maxLen at b2
  repeat (first | refine cg_seq ?_ | refine cg_region ?_)
  refine rb rfl rfl rfl rfl (a_box rfl rfl) ?_; intro b3 k3 hb3 hN3 hle3 hk3
  have hl3 := hl.le hle3
  have hr3 := hr.le hle3
  have cb3 := cells_at (vs := b.cs ab cb) hk3 rfl
  repeat (first | refine cg_seq ?_ | refine cg_region ?_ | refine rg_nil ?_ | refine eg_then ?_ | refine qsp ?_ | refine qsg ?_)
  refine rs rfl rfl (loc_call_is rfl rfl rfl rfl (refLook_ct hl3 hr3 hok)) ?_
  have hput : putR l b = if (lookR l b).2.2 ≠ 0 then ([], (lookR l b).2.2) else if fullP l b = true then ([], 2) else if (lookR l b).2.1 = true ∨ b.pid < 0 then (l, 0) else (putP l (withB (stateR l b).1 b), 0) := rfl
  have hlz : (lookR l b).2.2 = 0 → _ := look_zero
  have hfence : (lookR l b).2.2 = 0 → (lookR l b).2.1 = false → ¬ b.pid < 0 → (stateR l b).2 = false ∧ (b.ctl = 0 → b.seq = nextD (stateR l b).1.did) := fun h1 h2 h3 => by
    obtain ⟨c1, c2⟩ := look_zero h1
    unfold lookR at h1 h2
    rw [if_neg (by simp [c1]), if_neg (by simp [c2]; omega)] at h1 h2
    split at h1
    · simp at h1
    rename_i hs
    refine ⟨by simpa using hs, fun hct => ?_⟩
    rw [if_neg hs, if_neg (by simp [hct])] at h2
    rw [if_neg (by simp [hct])] at h1
    unfold stepLook at h1 h2
    split at h1
    · rename_i d hd; rw [hd] at h2; simp at h2
    · split at h1
      · assumption
      · simp at h1
  generalize lookR l b = lk at hput hlz hfence ⊢
  obtain ⟨base, there, er⟩ := lk
  dsimp only at hput hlz hfence
  unfold lookVal
  dsimp only
  repeat (first | refine cg_seq ?_ | refine cg_region ?_ | refine rg_nil ?_ | refine eg_then ?_ | refine qsp ?_)
  cases q1 : (er != 0)
  case true =>
    repeat (first | refine cg_seq ?_ | refine cg_region ?_ | refine rg_nil ?_ | refine eg_then ?_ | refine qsp ?_ | refine cg_cond_true rfl ?_ | refine cg_ret ?_ | refine eg_then_ret ?_)
    refine eg_return2 rfl rfl rfl ?_
    rw [hput, if_pos (by simpa using q1)]
    exact ⟨_, rfl, own_nil _ _ _ _⟩
  have h1 : er = 0 := by simpa using q1
  subst h1
  obtain ⟨hc1, hc2⟩ := hlz rfl
  obtain ⟨hlen, hps⟩ := chk_zero.1 hc1
  have hform := chkB_form hc2
  have hpid : -1 ≤ b.pid ∧ b.pid ≤ 1099511627776 := by
    by_cases h : b.pid = -1
    · omega
    · have := hform.some h; omega
  rw [if_neg (by simp)] at hput
  have cb3 := cb3
  repeat (first | refine cg_seq ?_ | refine cg_region ?_ | refine eg_then ?_ | refine qsp ?_ | refine qsg ?_ | refine cg_cond_false rfl ?_ | refine cg_skip ?_)
  refine rs rfl rfl (loc_call_is rfl rfl rfl rfl (refFull_ct hl3 hpid.1)) ?_
  repeat (first | refine rg_nil ?_ | refine eg_then ?_)
  cases q2 : fullP l b
  case true =>
    repeat (first | refine cg_seq ?_ | refine cg_region ?_ | refine rg_nil ?_ | refine eg_then ?_ | refine qsp ?_ | refine cg_cond_true rfl ?_ | refine cg_ret ?_ | refine eg_then_ret ?_)
    refine eg_return2 rfl rfl rfl ?_
    rw [hput, if_pos q2]
    exact ⟨_, rfl, own_nil _ _ _ _⟩
  rw [if_neg (by simp [q2])] at hput
  have there_ret : (there = true ∨ b.pid < 0) → putR l b = (l, 0) := fun h => by rw [hput, if_pos h]
  obtain ⟨p0, p1, p2, p3, p4, p5, p6, p7, p8, p9⟩ := Batch.parts cb3
  repeat (first | refine cg_seq ?_ | refine cg_region ?_ | refine eg_then ?_ | refine qsp ?_ | refine cg_cond_false rfl ?_ | refine cg_skip ?_)
  cases there
  case true =>
    repeat (first | refine cg_seq ?_ | refine cg_region ?_ | refine rg_nil ?_ | refine eg_then ?_ | refine qsp ?_ | refine qso ?_ | refine cg_cond_true rfl ?_)
    refine rb rfl rfl rfl rfl (a_empty rfl) ?_; intro b6 k6 hb6 hN6 hle6 hk6
    repeat (first | refine qsp ?_)
    refine raps2 (T := tProdT) rfl rfl rfl rfl rfl rfl rfl rfl (row_empty hN6 hk6) hl3 hle6 ProdT.one (by kernel_rfl) rfl (by unfold maxLen; omega) (by omega) ?_
    intro v7 k7 css hpc hrow7 htn
    have hle7 : Le k3 k7 := (htn k3 hle6 (fun g hg => by simp [Value.ownBlock] at hg; subst hg; exact hb6)).1
    have hrow7 : Row F.w0.heap.size k7 51 3 v7 l.length css.flatten := by rw [Nat.zero_add, List.nil_append] at hrow7; exact hrow7
    repeat (first | refine rg_nil ?_ | refine eg_then ?_ | refine qsp ?_ | refine cg_ret ?_ | refine eg_then_ret ?_)
    refine eg_return2 rfl rfl rfl ?_
    rw [there_ret (.inl rfl)]
    exact ⟨_, rfl, css, hpc.le hle7, hrow7⟩
  repeat (first | refine rg_nil ?_ | refine eg_then ?_ | refine qsp ?_ | refine qsl ?_ | refine qsf ?_)
  cases q3 : (b.pid == -1)
  case true =>
    have q3 : b.pid = -1 := by simpa using q3
    repeat (first | refine cg_seq ?_ | refine cg_region ?_ | refine cg_cond_true rfl ?_)
    refine rb rfl rfl rfl rfl (a_empty rfl) ?_; intro b6 k6 hb6 hN6 hle6 hk6
    repeat (first | refine qsp ?_)
    refine raps2 (T := tProdT) rfl rfl rfl rfl rfl rfl rfl rfl (row_empty hN6 hk6) hl3 hle6 ProdT.one (by kernel_rfl) rfl (by unfold maxLen; omega) (by omega) ?_
    intro v7 k7 css hpc hrow7 htn
    have hle7 : Le k3 k7 := (htn k3 hle6 (fun g hg => by simp [Value.ownBlock] at hg; subst hg; exact hb6)).1
    have hrow7 : Row F.w0.heap.size k7 51 3 v7 l.length css.flatten := by rw [Nat.zero_add, List.nil_append] at hrow7; exact hrow7
    repeat (first | refine rg_nil ?_ | refine eg_then ?_ | refine qsp ?_ | refine cg_ret ?_ | refine eg_then_ret ?_)
    refine eg_return2 rfl rfl rfl ?_
    rw [there_ret (.inr (by omega))]
    exact ⟨_, rfl, css, hpc.le hle7, hrow7⟩
  have q3 : b.pid ≠ -1 := by simpa using q3
  rw [if_neg (by simp; omega)] at hput
  obtain ⟨hnf, hseq⟩ := hfence rfl rfl (by omega)
  obtain ⟨s1, s2, s3, s4⟩ := state_ok hps hnf
  have hwp : prodOk (withB (stateR l b).1 b) = true := by
    by_cases hct : b.ctl = 0
    · exact with_prod hform hps (by omega) hnf (hseq hct)
    · unfold withB; rw [if_neg hct]; exact state_prod hform hps (by omega) hnf
  clear p0 p1 p2 p3 p4 p5 p6 p7 p8 p9 there_ret
  have cb3 := cb3
  repeat (first | refine cg_seq ?_ | refine cg_region ?_ | refine eg_then ?_ | refine qsp ?_ | refine qsg ?_ | refine cg_cond_false rfl ?_ | refine cg_skip ?_)
  refine rv rfl rfl rfl (loc_call rfl rfl rfl rfl WrV.mono (written_ct hl3 hps hform hnf)) ?_
  rintro k4 hle4 v4 ⟨aw, cw, rfl, hsw⟩
  have hwI : (withB (stateR l b).1 b).ok := by
    have := prodOk_iff.1 hwp
    exact ⟨by unfold I64; omega, by unfold I64; omega, trivial⟩
  refine rvn rfl rfl rfl rfl rfl rfl rfl (with_ctn (hl3.le hle4) (by omega) hps hsw hwI) ?_
  rintro N5 k5 v5 hN5 _ hle5 hown
  repeat (first | refine rg_nil ?_ | refine eg_then ?_ | refine qsp ?_ | refine cg_ret ?_)
  refine eg_return2 rfl rfl rfl ?_
  rw [hput]
  exact ⟨_, rfl, hown.N_le hN5⟩
end Go.Wm
namespace Go.Wm
open Go.RowKit Go.Proofs
attribute [local irreducible] RG CG EG WA Loc Det Alc CT Exit.then Exit.inBlock Code.wp bodyPost
set_option maxHeartbeats 2000000 in
theorem seqsPuts_walk {k : PH} {a : Option Addr} {c : Nat} {l : List ProdT} {cb : List Value} {b : Batch} {B0 : Prop} (hl : Sl tProdT k a c l) (_ : B0) (hB : tBatch.rep k cb b) (hsm : b.small) :
    CT Try.prog 4 #[.slice a l.length c, .agg cb.toArray] k (fun _ v => v = .bool true) := by
  obtain ⟨ab, cb', rfl, hr, hok⟩ := hB
  refine ct_of_body (l := [_, _]) Try.func4 rfl Try.ntmps4 (by simp) (fun _ _ _ _ h => h) fun F hF0 hFm => ?_
  repeat (first | refine cg_seq ?_ | refine cg_region ?_)
  refine rb rfl rfl rfl rfl (a_box rfl rfl) ?_; intro b3 k3 hb3 hN3 hle3 hk3
  have hl := hl.le hle3
  have hr := hr.le hle3
  have cb3 := cells_at (vs := b.cs ab cb') hk3 rfl
  repeat (first | refine cg_seq ?_ | refine cg_region ?_ | refine rg_nil ?_ | refine eg_then ?_ | refine qsp ?_)
  refine rs rfl rfl (loc_call_is rfl rfl rfl rfl (live11_ct)) ?_
  repeat (first | refine cg_seq ?_ | refine cg_region ?_ | refine rg_nil ?_ | refine eg_then ?_ | refine qsp ?_ | refine qsg ?_ | refine cg_cond_false rfl ?_ | refine cg_skip ?_)
  refine rs rfl rfl (loc_call_is rfl rfl rfl rfl (few11_ct hl hr (short_of hsm))) ?_
  cases q1 : (fewPB l && fewB b)
  case false =>
    repeat (first | refine cg_seq ?_ | refine cg_region ?_ | refine rg_nil ?_ | refine eg_then ?_ | refine qsp ?_ | refine cg_cond_true rfl ?_ | refine cg_ret ?_ | refine eg_then_ret ?_)
    exact eg_return rfl rfl rfl
  repeat (first | refine cg_seq ?_ | refine cg_region ?_ | refine rg_nil ?_ | refine eg_then ?_ | refine qsp ?_ | refine qsg ?_ | refine cg_cond_false rfl ?_ | refine cg_skip ?_)
  refine rvn rfl rfl rfl rfl rfl rfl rfl (seqsPut_ctn hl hr hok) ?_
  rintro N4 k4 _ hN4 _ hle4 ⟨u4, rfl, own4⟩
  obtain ⟨am, cm, rfl, sm⟩ := own4.sl
  have hl := hl.le hle4
  have hr := hr.le hle4
  have cb4 := cells_at (vs := b.cs ab cb') (hle4 _ _ hk3) rfl
  repeat (first | refine cg_seq ?_ | refine cg_region ?_ | refine rg_nil ?_ | refine eg_then ?_ | refine qsp ?_ | refine qsg ?_)
  refine rvn rfl rfl rfl rfl rfl rfl rfl (refSeqsPut_ctn hl hr hok) ?_
  rintro N5 k5 _ hN5 _ hle5 ⟨u5, rfl, own5⟩
  obtain ⟨an, cn, rfl, sn⟩ := own5.sl
  have sm := sm.le hle5
  generalize putR l b = pr at sm sn ⊢
  obtain ⟨m, er⟩ := pr
  dsimp only at sm sn ⊢
  repeat (first | refine cg_seq ?_ | refine cg_region ?_ | refine rg_nil ?_ | refine eg_then ?_ | refine qsp ?_)
  refine rs rfl rfl (loc_call_is rfl rfl rfl rfl (samePd_ct sm sn)) ?_
  rw [decide_eq_true (rfl : m = m)]
  repeat (first | refine cg_seq ?_ | refine cg_region ?_ | refine rg_nil ?_ | refine eg_then ?_ | refine qsp ?_ | refine cg_ret ?_)
  rw [show (er == er) = true by simp]
  skip
  exact eg_return rfl rfl rfl
end Go.Wm
namespace Go.Wm
open Go.RowKit Go.Proofs
theorem mayEnter_ok : Try.prog.mayEnter = true := by kernel_rfl
end Go.Wm
namespace Go.Wm
open Go.RowKit Go.Proofs
theorem liftsFinal_nil : Try.prog.liftsFinal = false := by kernel_rfl
end Go.Wm
namespace Go.Wm
open Go.RowKit Go.Proofs
theorem make_eq : Try.prog.make = some (({ program := "", sum := "", func := "", spec := "" } : OpenClaim).make) := by kernel_rfl
end Go.Wm

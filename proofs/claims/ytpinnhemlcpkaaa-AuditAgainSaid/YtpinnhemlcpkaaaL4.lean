/-
  The walk of the law AuditAll. Conditions: that what is handed in reads as data, and that strings are within reach.
-/
import Derived.Test.YtpinnhemlcpkaaaL3
set_option linter.all false
namespace Go.Wm
open Go.RowKit Go.Proofs
attribute [local irreducible] RG CG EG WA Loc Det Alc CT Exit.then Exit.inBlock Code.wp bodyPost

theorem short_of {n : Nat} {bs : List Batch} (h : bs.length * n ≤ reachBytes ∧ ∀ x ∈ bs, x.small) : ∀ b ∈ bs, Short b := fun b hb r hr => by
  obtain ⟨_, _, _, _, _, _, _, _, _, h2⟩ := h.2 b hb
  obtain ⟨_, h3, h4, _⟩ := h2.2 r hr
  exact ⟨h3, h4⟩
theorem few_bs {l : List Told} {bs : List Batch} (h : fewL l bs = true) : l.length ≤ 200 ∧ bs.length ≤ 40 ∧ ∀ b ∈ bs, b.recs.length ≤ 100 := by
  simp [fewL] at h
  refine ⟨h.1, h.2.2, fun b hb => ?_⟩
  have := h.2.1 b hb
  simp [fewB] at this
  omega

set_option maxHeartbeats 1000000 in
theorem all_walk {k : PH} {a a1 a2 a4 : Option Addr} {c c1 c2 c4 n : Nat} {l : List Told} {bs : List Batch} {gone : List Gone} {to : Int} {fs : List Fact} {B0 B2 B4 : Prop} (hl : Sl tTold k a c l) (_ : B0) (hb : Sl tBatch k a1 c1 bs) (hsh : bs.length * n ≤ reachBytes ∧ ∀ x ∈ bs, x.small) (hg : Sl tGone k a2 c2 gone) (_ : B2) (_ : I64 to) (hf : Sl tFact k a4 c4 fs) (_ : B4) :
    CT Try.prog 4 #[.slice a l.length c, .slice a1 bs.length c1, .slice a2 gone.length c2, .int .i64 to, .slice a4 fs.length c4] k (fun _ v => v = .bool true) := by
  refine ct_of_body (l := [_, _, _, _, _]) Try.func4 rfl Try.ntmps4 (by simp) (fun _ _ _ _ h => h) fun F hF0 hFm => ?_
  repeat (first | refine cg_seq ?_ | refine cg_region ?_ | refine rg_nil ?_ | refine eg_then ?_ | refine qsp ?_ | refine qsn ?_ | refine qsa ?_ | refine qss ?_ | refine qsi ?_ | refine qsz ?_ | refine qsl ?_ | refine qsg ?_ | refine qsf ?_ | refine qsd ?_ | refine qsE ?_ | refine qsX ?_ | refine qse ?_ | refine qsx ?_ | refine qso ?_ | refine cg_cond_true rfl ?_ | refine cg_cond_false rfl ?_ | refine cg_skip ?_ | refine cg_block ?_ | refine eg_in_normal ?_ | refine cg_ret ?_ | refine eg_then_ret ?_ | refine eg_in_ret ?_ | refine cg_exit ?_ | refine eg_then_exit ?_ | refine eg_in_exit ?_ | refine eg_in_other rfl ?_)
  refine rs rfl rfl (loc_call_is rfl rfl rfl rfl (live_ct)) ?_
  repeat (first | refine cg_seq ?_ | refine cg_region ?_ | refine rg_nil ?_ | refine eg_then ?_ | refine qsp ?_ | refine qsn ?_ | refine qsa ?_ | refine qss ?_ | refine qsi ?_ | refine qsz ?_ | refine qsl ?_ | refine qsg ?_ | refine qsf ?_ | refine qsd ?_ | refine qsE ?_ | refine qsX ?_ | refine qse ?_ | refine qsx ?_ | refine qso ?_ | refine cg_cond_true rfl ?_ | refine cg_cond_false rfl ?_ | refine cg_skip ?_ | refine cg_block ?_ | refine eg_in_normal ?_ | refine cg_ret ?_ | refine eg_then_ret ?_ | refine eg_in_ret ?_ | refine cg_exit ?_ | refine eg_then_exit ?_ | refine eg_in_exit ?_ | refine eg_in_other rfl ?_)
  have hfew := few_ct hl hb (short_of hsh)
  refine rs rfl rfl (loc_call_is rfl rfl rfl rfl (hfew)) ?_
  repeat (first | refine cg_seq ?_ | refine cg_region ?_ | refine rg_nil ?_ | refine eg_then ?_ | refine qsp ?_ | refine qsn ?_ | refine qsa ?_ | refine qss ?_ | refine qsi ?_ | refine qsz ?_ | refine qsl ?_ | refine qsg ?_ | refine qsf ?_ | refine qsd ?_ | refine qsE ?_ | refine qsX ?_ | refine qse ?_ | refine qsx ?_ | refine qso ?_ | refine cg_cond_true rfl ?_ | refine cg_cond_false rfl ?_ | refine cg_skip ?_ | refine cg_block ?_ | refine eg_in_normal ?_ | refine cg_ret ?_ | refine eg_then_ret ?_ | refine eg_in_ret ?_ | refine cg_exit ?_ | refine eg_then_exit ?_ | refine eg_in_exit ?_ | refine eg_in_other rfl ?_)
  cases hfe : fewL l bs
  · repeat (first | refine cg_seq ?_ | refine cg_region ?_ | refine rg_nil ?_ | refine eg_then ?_ | refine qsp ?_ | refine qsn ?_ | refine qsa ?_ | refine qss ?_ | refine qsi ?_ | refine qsz ?_ | refine qsl ?_ | refine qsg ?_ | refine qsf ?_ | refine qsd ?_ | refine qsE ?_ | refine qsX ?_ | refine qse ?_ | refine qsx ?_ | refine qso ?_ | refine cg_cond_true rfl ?_ | refine cg_cond_false rfl ?_ | refine cg_skip ?_ | refine cg_block ?_ | refine eg_in_normal ?_ | refine cg_ret ?_ | refine eg_then_ret ?_ | refine eg_in_ret ?_ | refine cg_exit ?_ | refine eg_then_exit ?_ | refine eg_in_exit ?_ | refine eg_in_other rfl ?_)
    exact eg_return rfl rfl rfl
  obtain ⟨b200, b40, b100⟩ := few_bs hfe
  repeat (first | refine cg_seq ?_ | refine cg_region ?_ | refine rg_nil ?_ | refine eg_then ?_ | refine qsp ?_ | refine qsn ?_ | refine qsa ?_ | refine qss ?_ | refine qsi ?_ | refine qsz ?_ | refine qsl ?_ | refine qsg ?_ | refine qsf ?_ | refine qsd ?_ | refine qsE ?_ | refine qsX ?_ | refine qse ?_ | refine qsx ?_ | refine qso ?_ | refine cg_cond_true rfl ?_ | refine cg_cond_false rfl ?_ | refine cg_skip ?_ | refine cg_block ?_ | refine eg_in_normal ?_ | refine cg_ret ?_ | refine eg_then_ret ?_ | refine eg_in_ret ?_ | refine cg_exit ?_ | refine eg_then_exit ?_ | refine eg_in_exit ?_ | refine eg_in_other rfl ?_)
  cases hq : decide ((gone.length : Int) > 60)
  rotate_left
  · repeat (first | refine cg_seq ?_ | refine cg_region ?_ | refine rg_nil ?_ | refine eg_then ?_ | refine qsp ?_ | refine qsn ?_ | refine qsa ?_ | refine qss ?_ | refine qsi ?_ | refine qsz ?_ | refine qsl ?_ | refine qsg ?_ | refine qsf ?_ | refine qsd ?_ | refine qsE ?_ | refine qsX ?_ | refine qse ?_ | refine qsx ?_ | refine qso ?_ | refine cg_cond_true rfl ?_ | refine cg_cond_false rfl ?_ | refine cg_skip ?_ | refine cg_block ?_ | refine eg_in_normal ?_ | refine cg_ret ?_ | refine eg_then_ret ?_ | refine eg_in_ret ?_ | refine cg_exit ?_ | refine eg_then_exit ?_ | refine eg_in_exit ?_ | refine eg_in_other rfl ?_)
    exact eg_return rfl rfl rfl
  repeat (first | refine cg_seq ?_ | refine cg_region ?_ | refine rg_nil ?_ | refine eg_then ?_ | refine qsp ?_ | refine qsn ?_ | refine qsa ?_ | refine qss ?_ | refine qsi ?_ | refine qsz ?_ | refine qsl ?_ | refine qsg ?_ | refine qsf ?_ | refine qsd ?_ | refine qsE ?_ | refine qsX ?_ | refine qse ?_ | refine qsx ?_ | refine qso ?_ | refine cg_cond_true rfl ?_ | refine cg_cond_false rfl ?_ | refine cg_skip ?_ | refine cg_block ?_ | refine eg_in_normal ?_ | refine cg_ret ?_ | refine eg_then_ret ?_ | refine eg_in_ret ?_ | refine cg_exit ?_ | refine eg_then_exit ?_ | refine eg_in_exit ?_ | refine eg_in_other rfl ?_)
  cases hq2 : decide ((fs.length : Int) > 100)
  rotate_left
  · repeat (first | refine cg_seq ?_ | refine cg_region ?_ | refine rg_nil ?_ | refine eg_then ?_ | refine qsp ?_ | refine qsn ?_ | refine qsa ?_ | refine qss ?_ | refine qsi ?_ | refine qsz ?_ | refine qsl ?_ | refine qsg ?_ | refine qsf ?_ | refine qsd ?_ | refine qsE ?_ | refine qsX ?_ | refine qse ?_ | refine qsx ?_ | refine qso ?_ | refine cg_cond_true rfl ?_ | refine cg_cond_false rfl ?_ | refine cg_skip ?_ | refine cg_block ?_ | refine eg_in_normal ?_ | refine cg_ret ?_ | refine eg_then_ret ?_ | refine eg_in_ret ?_ | refine cg_exit ?_ | refine eg_then_exit ?_ | refine eg_in_exit ?_ | refine eg_in_other rfl ?_)
    exact eg_return rfl rfl rfl
  repeat (first | refine cg_seq ?_ | refine cg_region ?_ | refine rg_nil ?_ | refine eg_then ?_ | refine qsp ?_ | refine qsn ?_ | refine qsa ?_ | refine qss ?_ | refine qsi ?_ | refine qsz ?_ | refine qsl ?_ | refine qsg ?_ | refine qsf ?_ | refine qsd ?_ | refine qsE ?_ | refine qsX ?_ | refine qse ?_ | refine qsx ?_ | refine qso ?_ | refine cg_cond_true rfl ?_ | refine cg_cond_false rfl ?_ | refine cg_skip ?_ | refine cg_block ?_ | refine eg_in_normal ?_ | refine cg_ret ?_ | refine eg_then_ret ?_ | refine eg_in_ret ?_ | refine cg_exit ?_ | refine eg_then_exit ?_ | refine eg_in_exit ?_ | refine eg_in_other rfl ?_)
  refine rs rfl rfl (loc_call_is rfl rfl rfl rfl (all_ct to hl hb hg (by omega))) ?_
  repeat (first | refine cg_seq ?_ | refine cg_region ?_ | refine rg_nil ?_ | refine eg_then ?_ | refine qsp ?_ | refine qsn ?_ | refine qsa ?_ | refine qss ?_ | refine qsi ?_ | refine qsz ?_ | refine qsl ?_ | refine qsg ?_ | refine qsf ?_ | refine qsd ?_ | refine qsE ?_ | refine qsX ?_ | refine qse ?_ | refine qsx ?_ | refine qso ?_ | refine cg_cond_true rfl ?_ | refine cg_cond_false rfl ?_ | refine cg_skip ?_ | refine cg_block ?_ | refine eg_in_normal ?_ | refine cg_ret ?_ | refine eg_then_ret ?_ | refine eg_in_ret ?_ | refine cg_exit ?_ | refine eg_then_exit ?_ | refine eg_in_exit ?_ | refine eg_in_other rfl ?_)
  refine rs rfl rfl (loc_call_is rfl rfl rfl rfl (refAll_ct to hl hb hg b100 (by omega))) ?_
  repeat (first | refine cg_seq ?_ | refine cg_region ?_ | refine rg_nil ?_ | refine eg_then ?_ | refine qsp ?_ | refine qsn ?_ | refine qsa ?_ | refine qss ?_ | refine qsi ?_ | refine qsz ?_ | refine qsl ?_ | refine qsg ?_ | refine qsf ?_ | refine qsd ?_ | refine qsE ?_ | refine qsX ?_ | refine qse ?_ | refine qsx ?_ | refine qso ?_ | refine cg_cond_true rfl ?_ | refine cg_cond_false rfl ?_ | refine cg_skip ?_ | refine cg_block ?_ | refine eg_in_normal ?_ | refine cg_ret ?_ | refine eg_then_ret ?_ | refine eg_in_ret ?_ | refine cg_exit ?_ | refine eg_then_exit ?_ | refine eg_in_exit ?_ | refine eg_in_other rfl ?_)
  rw [beq_self_eq_true]
  repeat (first | refine cg_seq ?_ | refine cg_region ?_ | refine rg_nil ?_ | refine eg_then ?_ | refine qsp ?_ | refine qsn ?_ | refine qsa ?_ | refine qss ?_ | refine qsi ?_ | refine qsz ?_ | refine qsl ?_ | refine qsg ?_ | refine qsf ?_ | refine qsd ?_ | refine qsE ?_ | refine qsX ?_ | refine qse ?_ | refine qsx ?_ | refine qso ?_ | refine cg_cond_true rfl ?_ | refine cg_cond_false rfl ?_ | refine cg_skip ?_ | refine cg_block ?_ | refine eg_in_normal ?_ | refine cg_ret ?_ | refine eg_then_ret ?_ | refine eg_in_ret ?_ | refine cg_exit ?_ | refine eg_then_exit ?_ | refine eg_in_exit ?_ | refine eg_in_other rfl ?_)
  refine rs rfl rfl (loc_call_is rfl rfl rfl rfl (whole_ct hl hf)) ?_
  repeat (first | refine cg_seq ?_ | refine cg_region ?_ | refine rg_nil ?_ | refine eg_then ?_ | refine qsp ?_ | refine qsn ?_ | refine qsa ?_ | refine qss ?_ | refine qsi ?_ | refine qsz ?_ | refine qsl ?_ | refine qsg ?_ | refine qsf ?_ | refine qsd ?_ | refine qsE ?_ | refine qsX ?_ | refine qse ?_ | refine qsx ?_ | refine qso ?_ | refine cg_cond_true rfl ?_ | refine cg_cond_false rfl ?_ | refine cg_skip ?_ | refine cg_block ?_ | refine eg_in_normal ?_ | refine cg_ret ?_ | refine eg_then_ret ?_ | refine eg_in_ret ?_ | refine cg_exit ?_ | refine eg_then_exit ?_ | refine eg_in_exit ?_ | refine eg_in_other rfl ?_)
  refine rs rfl rfl (loc_call_is rfl rfl rfl rfl (refWhole_ct hl hf)) ?_
  repeat (first | refine cg_seq ?_ | refine cg_region ?_ | refine rg_nil ?_ | refine eg_then ?_ | refine qsp ?_ | refine qsn ?_ | refine qsa ?_ | refine qss ?_ | refine qsi ?_ | refine qsz ?_ | refine qsl ?_ | refine qsg ?_ | refine qsf ?_ | refine qsd ?_ | refine qsE ?_ | refine qsX ?_ | refine qse ?_ | refine qsx ?_ | refine qso ?_ | refine cg_cond_true rfl ?_ | refine cg_cond_false rfl ?_ | refine cg_skip ?_ | refine cg_block ?_ | refine eg_in_normal ?_ | refine cg_ret ?_ | refine eg_then_ret ?_ | refine eg_in_ret ?_ | refine cg_exit ?_ | refine eg_then_exit ?_ | refine eg_in_exit ?_ | refine eg_in_other rfl ?_)
  rw [beq_self_eq_true]
  repeat (first | refine cg_seq ?_ | refine cg_region ?_ | refine rg_nil ?_ | refine eg_then ?_ | refine qsp ?_ | refine qsn ?_ | refine qsa ?_ | refine qss ?_ | refine qsi ?_ | refine qsz ?_ | refine qsl ?_ | refine qsg ?_ | refine qsf ?_ | refine qsd ?_ | refine qsE ?_ | refine qsX ?_ | refine qse ?_ | refine qsx ?_ | refine qso ?_ | refine cg_cond_true rfl ?_ | refine cg_cond_false rfl ?_ | refine cg_skip ?_ | refine cg_block ?_ | refine eg_in_normal ?_ | refine cg_ret ?_ | refine eg_then_ret ?_ | refine eg_in_ret ?_ | refine cg_exit ?_ | refine eg_then_exit ?_ | refine eg_in_exit ?_ | refine eg_in_other rfl ?_)
  exact eg_return rfl rfl rfl
end Go.Wm

/-
  How this seat's program was made. Conditions: none.
-/
import Derived.Test.YtfejamdfhbamcaaG20
import Derived.Test.YtfejamdfhbamcaaG17
import Derived.Test.YtfejamdfhbamcaaL1
import Derived.Test.YtfejamdfhbamcaaDat
import Derived.Test.YtfejamdfhbamcaaRows
set_option linter.all false
namespace Go.Wm
open Go.RowKit Go.Proofs
attribute [local irreducible] RG CG EG WA Loc Det Alc CT Exit.then Exit.inBlock Code.wp bodyPost
set_option maxHeartbeats 2000000 in
theorem refSeqsPut_ctn {k : PH} {a : Option Addr} {c : Nat} {l : List ProdT} {b : Batch} {ab : Option Addr} {cb : Nat} (hl : Sl tProdT k a c l) (hr : Sl tRec k ab cb b.recs) (hok : b.ok) :
    CTN Try.prog 25 #[.slice a l.length c, .agg (b.cs ab cb).toArray] k (PutV (putR l b)) := by
  refine ctn_of_body (l := [_, _]) Try.func25 rfl Try.ntmps25 (by simp) PutV.mono fun F hF0 hFm => ?_
  have b1 := hl.cap; have b2 := hl.max; unfold maxLen at b2
  repeat (first | refine cg_seq ?_ | refine cg_region ?_)
  refine rb rfl rfl rfl rfl (a_box rfl rfl) ?_; intro b3 k3 hb3 hN3 hle3 hk3
  have hl3 := hl.le hle3
  have hr3 := hr.le hle3
  have cb3 := cells_at (vs := b.cs ab cb) hk3 rfl
  repeat (first | refine cg_seq ?_ | refine cg_region ?_ | refine rg_nil ?_ | refine eg_then ?_ | refine qsp ?_ | refine qsg ?_)
  refine rs rfl rfl (loc_call_is rfl rfl rfl rfl (refLook_ct hl3 hr3 hok)) ?_
  have hput : putR l b = if (lookR l b).2.2 ≠ 0 then ([], (lookR l b).2.2) else if fullP l b = true then ([], 2) else if (lookR l b).2.1 = true ∨ b.pid < 0 then (l, 0) else (putP l (withB (stateR l b).1 b), 0) := rfl
  have hlz : (lookR l b).2.2 = 0 → _ := look_zero
  have hfence : (lookR l b).2.2 = 0 → (lookR l b).2.1 = false → ¬ b.pid < 0 → (stateR l b).2 = false ∧ (b.ctl = 0 → b.seq = nextD (stateR l b).1.did) := fun h1 h2 h3 => by
    obtain ⟨c1, c2⟩ := look_zero h1
    unfold lookR at h1 h2
    rw [if_neg (by simp [c1]), if_neg (by simp [c2]; omega)] at h1 h2
    split at h1
    · simp at h1
    rename_i hs
    refine ⟨by simpa using hs, fun hct => ?_⟩
    rw [if_neg hs, if_neg (by simp [hct])] at h2
    rw [if_neg (by simp [hct])] at h1
    unfold stepLook at h1 h2
    split at h1
    · rename_i d hd; rw [hd] at h2; simp at h2
    · split at h1
      · assumption
      · simp at h1
  generalize lookR l b = lk at hput hlz hfence ⊢
  obtain ⟨base, there, er⟩ := lk
  dsimp only at hput hlz hfence
  unfold lookVal
  dsimp only
  repeat (first | refine cg_seq ?_ | refine cg_region ?_ | refine rg_nil ?_ | refine eg_then ?_ | refine qsp ?_)
  cases q1 : (er != 0)
  case true =>
    repeat (first | refine cg_seq ?_ | refine cg_region ?_ | refine rg_nil ?_ | refine eg_then ?_ | refine qsp ?_ | refine cg_cond_true rfl ?_ | refine cg_ret ?_ | refine eg_then_ret ?_)
    refine eg_return2 rfl rfl rfl ?_
    rw [hput, if_pos (by simpa using q1)]
    exact ⟨_, rfl, own_nil _ _ _ _⟩
  have h1 : er = 0 := by simpa using q1
  subst h1
  obtain ⟨hc1, hc2⟩ := hlz rfl
  obtain ⟨hlen, hps⟩ := chk_zero.1 hc1
  have hform := chkB_form hc2
  have hpid : -1 ≤ b.pid ∧ b.pid ≤ 1099511627776 := by
    by_cases h : b.pid = -1
    · omega
    · have := hform.some h; omega
  rw [if_neg (by simp)] at hput
  have cb3 := cb3
  repeat (first | refine cg_seq ?_ | refine cg_region ?_ | refine eg_then ?_ | refine qsp ?_ | refine qsg ?_ | refine cg_cond_false rfl ?_ | refine cg_skip ?_)
  refine rs rfl rfl (loc_call_is rfl rfl rfl rfl (refFull_ct hl3 hpid.1)) ?_
  repeat (first | refine rg_nil ?_ | refine eg_then ?_)
  cases q2 : fullP l b
  case true =>
    repeat (first | refine cg_seq ?_ | refine cg_region ?_ | refine rg_nil ?_ | refine eg_then ?_ | refine qsp ?_ | refine cg_cond_true rfl ?_ | refine cg_ret ?_ | refine eg_then_ret ?_)
    refine eg_return2 rfl rfl rfl ?_
    rw [hput, if_pos q2]
    exact ⟨_, rfl, own_nil _ _ _ _⟩
  rw [if_neg (by simp [q2])] at hput
  have there_ret : (there = true ∨ b.pid < 0) → putR l b = (l, 0) := fun h => by rw [hput, if_pos h]
  obtain ⟨p0, p1, p2, p3, p4, p5, p6, p7, p8, p9⟩ := Batch.parts cb3
  repeat (first | refine cg_seq ?_ | refine cg_region ?_ | refine eg_then ?_ | refine qsp ?_ | refine cg_cond_false rfl ?_ | refine cg_skip ?_)
  cases there
  case true =>
    repeat (first | refine cg_seq ?_ | refine cg_region ?_ | refine rg_nil ?_ | refine eg_then ?_ | refine qsp ?_ | refine qso ?_ | refine cg_cond_true rfl ?_)
    refine rb rfl rfl rfl rfl (a_empty rfl) ?_; intro b6 k6 hb6 hN6 hle6 hk6
    repeat (first | refine qsp ?_)
    refine raps2 (T := tProdT) rfl rfl rfl rfl rfl rfl rfl rfl (row_empty hN6 hk6) hl3 hle6 ProdT.one (by kernel_rfl) rfl (by unfold maxLen; omega) (by omega) ?_
    intro v7 k7 css hpc hrow7 htn
    have hle7 : Le k3 k7 := (htn k3 hle6 (fun g hg => by simp [Value.ownBlock] at hg; subst hg; exact hb6)).1
    have hrow7 : Row F.w0.heap.size k7 51 3 v7 l.length css.flatten := by rw [Nat.zero_add, List.nil_append] at hrow7; exact hrow7
    repeat (first | refine rg_nil ?_ | refine eg_then ?_ | refine qsp ?_ | refine cg_ret ?_ | refine eg_then_ret ?_)
    refine eg_return2 rfl rfl rfl ?_
    rw [there_ret (.inl rfl)]
    exact ⟨_, rfl, css, hpc.le hle7, hrow7⟩
  repeat (first | refine rg_nil ?_ | refine eg_then ?_ | refine qsp ?_ | refine qsl ?_ | refine qsf ?_)
  cases q3 : (b.pid == -1)
  case true =>
    have q3 : b.pid = -1 := by simpa using q3
    repeat (first | refine cg_seq ?_ | refine cg_region ?_ | refine cg_cond_true rfl ?_)
    refine rb rfl rfl rfl rfl (a_empty rfl) ?_; intro b6 k6 hb6 hN6 hle6 hk6
    repeat (first | refine qsp ?_)
    refine raps2 (T := tProdT) rfl rfl rfl rfl rfl rfl rfl rfl (row_empty hN6 hk6) hl3 hle6 ProdT.one (by kernel_rfl) rfl (by unfold maxLen; omega) (by omega) ?_
    intro v7 k7 css hpc hrow7 htn
    have hle7 : Le k3 k7 := (htn k3 hle6 (fun g hg => by simp [Value.ownBlock] at hg; subst hg; exact hb6)).1
    have hrow7 : Row F.w0.heap.size k7 51 3 v7 l.length css.flatten := by rw [Nat.zero_add, List.nil_append] at hrow7; exact hrow7
    repeat (first | refine rg_nil ?_ | refine eg_then ?_ | refine qsp ?_ | refine cg_ret ?_ | refine eg_then_ret ?_)
    refine eg_return2 rfl rfl rfl ?_
    rw [there_ret (.inr (by omega))]
    exact ⟨_, rfl, css, hpc.le hle7, hrow7⟩
  have q3 : b.pid ≠ -1 := by simpa using q3
  rw [if_neg (by simp; omega)] at hput
  obtain ⟨hnf, hseq⟩ := hfence rfl rfl (by omega)
  obtain ⟨s1, s2, s3, s4⟩ := state_ok hps hnf
  have hwp : prodOk (withB (stateR l b).1 b) = true := by
    by_cases hct : b.ctl = 0
    · exact with_prod hform hps (by omega) hnf (hseq hct)
    · unfold withB; rw [if_neg hct]; exact state_prod hform hps (by omega) hnf
  clear p0 p1 p2 p3 p4 p5 p6 p7 p8 p9 there_ret
  have cb3 := cb3
  repeat (first | refine cg_seq ?_ | refine cg_region ?_ | refine eg_then ?_ | refine qsp ?_ | refine qsg ?_ | refine cg_cond_false rfl ?_ | refine cg_skip ?_)
  refine rv rfl rfl rfl (loc_call rfl rfl rfl rfl WrV.mono (written_ct hl3 hps hform hnf)) ?_
  rintro k4 hle4 v4 ⟨aw, cw, rfl, hsw⟩
  have hwI : (withB (stateR l b).1 b).ok := by
    have := prodOk_iff.1 hwp
    exact ⟨by unfold I64; omega, by unfold I64; omega, trivial⟩
  refine rvn rfl rfl rfl rfl rfl rfl rfl (with_ctn (hl3.le hle4) (by omega) hps hsw hwI) ?_
  rintro N5 k5 v5 hN5 _ hle5 hown
  repeat (first | refine rg_nil ?_ | refine eg_then ?_ | refine qsp ?_ | refine cg_ret ?_)
  refine eg_return2 rfl rfl rfl ?_
  rw [hput]
  exact ⟨_, rfl, hown.N_le hN5⟩
end Go.Wm
namespace Go.Wm
open Go.RowKit Go.Proofs
attribute [local irreducible] RG CG EG WA Loc Det Alc CT Exit.then Exit.inBlock Code.wp bodyPost
set_option maxHeartbeats 2000000 in
theorem above_ct {k : PH} {a : Option Addr} {c : Nat} {l : List ProdT} {b : Batch} {ab : Option Addr} {cb : Nat} (hl : Sl tProdT k a c l) (hps : ProdsP l) (hnf : (stateR l b).2 = false) :
    CT Try.prog 80 #[.slice a l.length c, .agg (b.cs ab cb).toArray] k (fun _ v => v = .bool (aboveD (stateR l b).1.did b)) := by
  refine ct_of_body (l := [_, _]) Try.func80 rfl Try.ntmps80 (by simp) (fun _ _ _ _ h => h) fun F hF0 hFm => ?_
  have b1 := hl.cap; have b2 := hl.max; unfold maxLen at b2
  obtain ⟨s1, s2, s3, s4⟩ := state_ok hps hnf
  repeat (first | refine cg_seq ?_ | refine cg_region ?_)
  refine rb rfl rfl rfl rfl (a_box rfl rfl) ?_; intro b3 k3 hb3 hN3 hle3 hk3
  have hl3 := hl.le hle3
  have cb3 := cells_at (vs := b.cs ab cb) hk3 rfl
  repeat (first | refine cg_seq ?_ | refine cg_region ?_ | refine rg_nil ?_ | refine eg_then ?_ | refine qsp ?_ | refine qsg ?_)
  refine rs rfl rfl (loc_call_is rfl rfl rfl rfl (fresh_ct hl3 hnf)) ?_
  have hst := state_idx l b
  generalize hgd : (stateR l b).1.did = did0 at s3 s4 ⊢
  have hab := aboveD_at (l := did0) (b := b)
  cases hemp : did0.isEmpty
  case true =>
    have hnil : did0 = [] := by simpa using hemp
    repeat (first | refine cg_seq ?_ | refine cg_region ?_ | refine rg_nil ?_ | refine eg_then ?_ | refine qsp ?_ | refine cg_cond_true rfl ?_ | refine cg_ret ?_ | refine eg_then_ret ?_)
    refine eg_return rfl rfl ?_
    rw [hab, dif_neg (by rw [hnil]; simp)]
  have hne : did0 ≠ [] := by simpa using hemp
  have hpos : 0 < did0.length := List.length_pos_iff.2 hne
  rw [dif_pos hpos] at hab
  obtain ⟨i, hi, hi1, hdi⟩ : ∃ i, ∃ h : i < l.length, idxF l (fun p => decide (p.pid = b.pid)) = (i : Int) ∧ l[i].did = did0 := by
    rcases hst with ⟨_, _, h2⟩ | ⟨i, hi, h1, _, h2⟩
    · rw [h2] at hgd; exact absurd hgd.symm hne
    · rw [h2] at hgd
      split at hgd
      · exact ⟨i, hi, h1, hgd⟩
      · exact absurd hgd.symm hne
  obtain ⟨bx, ox, cx, rfl, ⟨a0, c0, rfl, hsd, hpok⟩, hcx⟩ := hl3.el i l[i] (List.getElem?_eq_getElem hi)
  obtain ⟨p, hp⟩ : ∃ p, l[i] = p := ⟨_, rfl⟩
  rw [hp] at hcx hsd hdi
  subst hdi
  have g1 := hsd.cap; have g2 := hsd.max; unfold maxLen at g2
  obtain ⟨f0, f1, f2⟩ := ProdT.parts hcx
  obtain ⟨p0, p1, p2, p3, p4, p5, p6, p7, p8, p9⟩ := Batch.parts cb3
  repeat (first | refine cg_seq ?_ | refine cg_region ?_ | refine rg_nil ?_ | refine eg_then ?_ | refine qsp ?_ | refine qsl ?_ | refine qsf ?_ | refine cg_cond_false rfl ?_ | refine cg_skip ?_)
  refine rs rfl rfl (loc_call_is rfl rfl rfl rfl (refFind_ct hl3 b.pid)) ?_
  rw [hi1]
  repeat (first | refine cg_seq ?_ | refine rg_nil ?_ | refine eg_then ?_ | refine qsp ?_ | refine qsi ?_ | refine qsl ?_ | refine qsf ?_)
  obtain ⟨by', oy, cy, ead, ⟨rfl, hdI⟩, hcy⟩ := hsd.el (p.did.length - 1) p.did[p.did.length - 1] (List.getElem?_eq_getElem (by omega))
  obtain ⟨d, hd⟩ : ∃ d, p.did[p.did.length - 1] = d := ⟨_, rfl⟩
  rw [hd] at hcy hdI hab
  subst ead
  obtain ⟨h0, h1, h2⟩ := Did.parts hcy
  refine cg_any (by kernel_rfl) rfl ?_
  repeat (first | refine qwp ?_ | refine qwn ?_ | refine qws ?_ | refine qwl ?_ | refine qwf ?_)
  rw [show (p.did.length : Int) - 1 = ((p.did.length - 1 : Nat) : Int) by omega]
  repeat (first | refine qwp ?_ | refine qwi ?_ | refine qwl ?_ | refine qwf ?_ | (refine wn rfl ?_; refine eg_then ?_))
  repeat (first | refine cg_ret ?_)
  exact eg_return rfl rfl (by rw [hab])
set_option maxHeartbeats 4000000 in
theorem refOf_ctn {k : PH} {a : Option Addr} {c : Nat} {bs : List Batch} (hl : Sl tBatch k a c bs) : CTN Try.prog 29 #[.slice a bs.length c] k (fun N k' v => POwn N k' v (ofR bs)) := by
  refine ctn_of_body (l := [_]) Try.func29 rfl Try.ntmps29 (by simp) (fun N k k' v hle h => h.le hle) fun F hF0 hFm => ?_
  have b1 := hl.cap; have b2 := hl.max; unfold maxLen at b2
  repeat (first | refine cg_seq ?_ | refine cg_region ?_ | refine rg_nil ?_ | refine eg_then ?_ | refine qsp ?_ | refine cg_block ?_)
  refine cg_loop (fun (i : Nat) e k' => ∃ v, Le k k' ∧ POwn F.w0.heap.size k' v (ofR (bs.take i)) ∧ i ≤ bs.length ∧ e = [(0, .is (.slice a bs.length c)), (3, .is v), (4, .is (.int .i64 (i : Int)))])
    (fun i => bs.length - i) 0 ⟨_, Le.refl _, own_nil _ _ _ _, by omega, rfl⟩ ⟨rfl, rfl, rfl, trivial⟩ ?_
  rintro i e k1 ⟨v, hle1, hown, hi, rfl⟩
  repeat (first | refine cg_seq ?_ | refine cg_region ?_ | refine rg_nil ?_ | refine eg_then ?_ | refine qsp ?_ | refine qsn ?_)
  refine cg_cond rfl (fun h => ?_) (fun h => ?_)
  rotate_left
  · have hil : i = bs.length := by have := of_decide_eq_false h; omega
    subst hil
    rw [List.take_length] at hown
    repeat (first | refine cg_seq ?_ | refine cg_region ?_ | refine rg_nil ?_ | refine eg_then ?_ | refine qsp ?_ | refine cg_ret ?_ | refine cg_exit ?_ | refine eg_then_exit ?_ | refine eg_in_exit ?_)
    exact eg_return rfl rfl hown
  have hlt : i < bs.length := by have := of_decide_eq_true h; omega
  have hch := of_chk0 (bs.take i)
  have hsu := ofR_succ hlt
  obtain ⟨bx, ox, cx, rfl, ⟨a0, c0, rfl, hsr, hbok⟩, hcx⟩ := (hl.le hle1).el i bs[i] (List.getElem?_eq_getElem hlt)
  generalize ofR (bs.take i) = l at hown hch hsu
  obtain ⟨b, hb⟩ : ∃ b, bs[i] = b := ⟨_, rfl⟩
  rw [hb] at hsr hbok hcx hsu
  obtain ⟨hlen, hps⟩ := chk_zero.1 hch
  obtain ⟨al, cl, rfl, hsl⟩ := hown.sl
  have hcx := hcx
  repeat (first | refine cg_seq ?_ | refine cg_region ?_ | refine eg_then ?_ | refine qsp ?_ | refine qsi ?_ | refine qsg ?_ | refine cg_skip ?_ | refine cg_block ?_)
  refine rvn rfl rfl rfl rfl rfl rfl rfl (refSeqsPut_ctn hsl hsr hbok) ?_
  rintro N6 k6 v6 hN6 hnew6 hle6 ⟨u6, rfl, hown6⟩
  have hseq : (putR l b).2 = 111 → chkB b = 0 ∧ 0 ≤ b.pid ∧ (stateR l b).2 = false ∧ b.ctl = 0 := fun h => look_seq (put_seq h) hch (chkB_ne b)
  have hst : ofStep l b = if (putR l b).2 = 0 then (putR l b).1 else if (putR l b).2 = 111 then (if aboveD (stateR l b).1.did b = true ∧ fullP l b = false then putP l { (stateR l b).1 with did := [didB b] } else l) else l := rfl
  generalize putR l b = pr at hown6 hseq hst ⊢
  obtain ⟨m, er⟩ := pr
  dsimp only at hown6 hseq hst ⊢
  have hown16 := hown.le hle6
  have hsl6 := hsl.le hle6
  have hcx6 := hcx.le hle6
  repeat (first | refine cg_seq ?_ | refine cg_region ?_ | refine rg_nil ?_ | refine eg_then ?_ | refine qsp ?_)
  cases q1 : (er == 0)
  case true =>
    have q1 : er = 0 := by simpa using q1
    subst q1
    rw [if_pos rfl] at hst
    repeat (first | refine cg_seq ?_ | refine cg_region ?_ | refine rg_nil ?_ | refine eg_then ?_ | refine qsp ?_ | refine qsa ?_ | refine qso ?_ | refine cg_cond_true rfl ?_ | refine cg_cond_false rfl ?_ | refine cg_skip ?_ | refine eg_in_normal ?_)
    exact eg_again (i + 1) _ ⟨u6, hle1.trans hle6, by rw [hsu, hst]; exact hown6.N_le hN6, hlt, rfl⟩ (by omega) ⟨rfl, rfl, rfl, trivial⟩
  have q1 : er ≠ 0 := by simpa using q1
  rw [if_neg q1] at hst
  repeat (first | refine cg_seq ?_ | refine cg_region ?_ | refine eg_then ?_ | refine qsp ?_ | refine cg_cond_false rfl ?_ | refine cg_skip ?_)
  cases q2 : (er == 111)
  case false =>
    have q2 : er ≠ 111 := by simpa using q2
    rw [if_neg q2] at hst
    repeat (first | refine cg_region ?_ | refine rg_nil ?_ | refine eg_then ?_ | refine qsp ?_ | refine qsa ?_ | refine qso ?_ | refine cg_cond_false rfl ?_ | refine cg_skip ?_ | refine eg_in_normal ?_)
    exact eg_again (i + 1) _ ⟨_, hle1.trans hle6, by rw [hsu, hst]; exact hown16, hlt, rfl⟩ (by omega) ⟨rfl, rfl, rfl, trivial⟩
  have q2 : er = 111 := by simpa using q2
  rw [if_pos q2] at hst
  obtain ⟨hcb, hpid0, hnf, hctl⟩ := hseq q2
  have hform := chkB_form hcb
  have hpid := form_pid hform (by omega)
  obtain ⟨s1, s2, s3, s4⟩ := state_ok hps hnf
  have hsp := state_prod hform hps hpid0 hnf
  have hcx6 := hcx6
  repeat (first | refine qsp ?_ | refine qsi ?_ | refine qsg ?_)
  refine rs rfl rfl (loc_call_is rfl rfl rfl rfl (above_ct hsl6 hps hnf)) ?_
  cases q3 : aboveD (stateR l b).1.did b
  case false =>
    rw [if_neg (by rw [q3]; simp)] at hst
    repeat (first | refine cg_region ?_ | refine rg_nil ?_ | refine eg_then ?_ | refine qsp ?_ | refine qsa ?_ | refine qso ?_ | refine cg_cond_false rfl ?_ | refine cg_skip ?_ | refine eg_in_normal ?_)
    exact eg_again (i + 1) _ ⟨_, hle1.trans hle6, by rw [hsu, hst]; exact hown16, hlt, rfl⟩ (by omega) ⟨rfl, rfl, rfl, trivial⟩
  repeat (first | refine qsp ?_ | refine qsi ?_ | refine qsg ?_)
  refine rs rfl rfl (loc_call_is rfl rfl rfl rfl (refFull_ct hsl6 (by omega))) ?_
  cases q4 : fullP l b
  case true =>
    rw [if_neg (by rw [q4]; simp)] at hst
    repeat (first | refine cg_region ?_ | refine rg_nil ?_ | refine eg_then ?_ | refine qsp ?_ | refine qsa ?_ | refine cg_cond_false rfl ?_ | refine cg_skip ?_ | refine eg_in_normal ?_)
    exact eg_again (i + 1) _ ⟨_, hle1.trans hle6, by rw [hsu, hst]; exact hown16, hlt, rfl⟩ (by omega) ⟨rfl, rfl, rfl, trivial⟩
  rw [if_pos ⟨q3, q4⟩] at hst
  obtain ⟨p0, p1, p2, p3, p4, p5, p6, p7, p8, p9⟩ := Batch.parts hcx6
  have hcx6 := hcx6
  have hIp : I64 (stateR l b).1.pid ∧ I64 (stateR l b).1.gen := by
    have := prodOk_iff.1 hsp
    unfold I64; omega
  have hpe : ({ (stateR l b).1 with did := [didB b] } : ProdT) = ⟨b.pid, b.gen, [didB b]⟩ := by rw [← s1, ← s2]
  rw [hpe] at hst
  rw [s1, s2] at hIp
  repeat (first | refine rg_nil ?_ | refine eg_then ?_ | refine qsp ?_ | refine cg_cond_true rfl ?_)
  refine cg_calls 30 (by kernel_rfl) (by kernel_rfl) rfl rfl ?_
  dsimp only [List.take]
  repeat (first | refine qcp ?_ | refine qci ?_ | refine qcl ?_ | refine qcg ?_ | refine qcf ?_)
  refine wc_s rfl (loc_call_is rfl rfl rfl rfl (refLast_ct hform)) rfl ?_
  repeat (first | refine qcp ?_ | refine qci ?_ | refine qcl ?_ | refine qcf ?_)
  refine wc_s rfl (loc_det rfl (d_lit (cells := (didB b).vs) rfl rfl rfl)) rfl ?_
  refine wc_iv rfl (loci_newN xn_size rfl (Le.refl _) (a_slice (cells := (didB b).vs) rfl rfl rfl rfl (by kernel_rfl) rfl)) rfl ?_
  refine wc_v (φ := WrV ⟨b.pid, b.gen, [didB b]⟩) rfl (loc_elim 71 rfl (by kernel_rfl) WrV.mono ?_) rfl ?_
  · rintro v k7 hle7 ⟨g, rfl, hkg, _, _⟩
    have hsn : Sl tDid k7 (some ⟨g, 0, none⟩) 1 [didB b] := sl_rows (T := tDid) (xs := [didB b]) (css := [(didB b).vs]) hkg rfl rfl (fun i cs x h1 h2 => by
      cases i with
      | zero => simp at h1 h2; rw [← h1, ← h2]; exact ⟨rfl, did_okI (didB_ok hform)⟩
      | succ i => simp at h1) (by simp [maxLen])
    exact loc_isv (loc_det rfl (d_lit (cells := ProdT.cs ⟨b.pid, b.gen, [didB b]⟩ (some ⟨g, 0, none⟩) 1) rfl rfl rfl)) rfl WrV.mono fun k' hk => ⟨_, _, rfl, hsn.le hk⟩
  refine wc_iv (φ := Made F.w0.heap.size k6 (fun N k v => POwn N k v (putP l ⟨b.pid, b.gen, [didB b]⟩))) rfl (LocI.elim 72 rfl (by kernel_rfl) (made_mono fun M k k' v hle h => h.le hle) ?_) rfl ?_
  · rintro v k7 hle7 ⟨a', c', rfl, hs'⟩
    exact loci_ctn xn_size rfl rfl rfl rfl hle7 (fun M k k' v hle h => h.le hle) (with_ctn (p := ⟨b.pid, b.gen, [didB b]⟩) (hsl6.le hle7) (by omega) hps hs' ⟨hIp.1, hIp.2, trivial⟩)
  refine wc_nil ?_
  intro k9 vs hle9 hvs
  obtain ⟨M, hM, _, hown9⟩ := hvs 73 _ rfl
  clear hvs
  dsimp only [List.drop]
  simp only [nameE, nameP]
  generalize vs 73 = v9 at hown9 ⊢
  repeat (first | refine cg_region ?_ | refine rg_nil ?_ | refine eg_then ?_ | refine qsp ?_ | refine qsa ?_ | refine eg_in_normal ?_)
  exact eg_again (i + 1) _ ⟨v9, hle1.trans (hle6.trans hle9), by rw [hsu, hst]; exact hown9.N_le hM, hlt, rfl⟩ (by omega) ⟨rfl, rfl, rfl, trivial⟩
end Go.Wm
namespace Go.Wm
open Go.RowKit Go.Proofs
attribute [local irreducible] RG CG EG WA Loc Det Alc CT Exit.then Exit.inBlock Code.wp bodyPost
set_option maxHeartbeats 2000000 in
theorem seqsOfs_walk {k : PH} {a : Option Addr} {c : Nat} {bs : List Batch} {B0 : Prop} (hl : Sl tBatch k a c bs) (hB : B0 ∧ ∀ x ∈ bs, x.small) :
    CT Try.prog 5 #[.slice a bs.length c] k (fun _ v => v = .bool true) := by
  refine ct_of_body (l := [_]) Try.func5 rfl Try.ntmps5 (by simp) (fun _ _ _ _ h => h) fun F hF0 hFm => ?_
  repeat (first | refine cg_seq ?_ | refine cg_region ?_ | refine rg_nil ?_ | refine eg_then ?_ | refine qsp ?_)
  refine rs rfl rfl (loc_call_is rfl rfl rfl rfl (live11_ct)) ?_
  repeat (first | refine cg_seq ?_ | refine cg_region ?_ | refine rg_nil ?_ | refine eg_then ?_ | refine qsp ?_ | refine cg_cond_false rfl ?_ | refine cg_skip ?_)
  refine rv rfl rfl rfl (loc_call rfl rfl rfl rfl (fun _ _ _ _ h => h) (fewOf_ct (m := 40) hl ⟨by decide, by decide⟩ (fun b hb => short_of (hB.2 b hb)))) ?_
  rintro k1 hle1 _ ⟨r, rfl, _⟩
  have hl := hl.le hle1
  repeat (first | refine rg_nil ?_ | refine eg_then ?_ | refine qsp ?_)
  cases r
  · repeat (first | refine cg_seq ?_ | refine cg_region ?_ | refine rg_nil ?_ | refine eg_then ?_ | refine qsp ?_ | refine cg_cond_true rfl ?_ | refine cg_ret ?_ | refine eg_then_ret ?_)
    exact eg_return rfl rfl rfl
  repeat (first | refine cg_seq ?_ | refine cg_region ?_ | refine eg_then ?_ | refine qsp ?_ | refine cg_cond_false rfl ?_ | refine cg_skip ?_)
  refine rvn rfl rfl rfl rfl rfl rfl rfl (of_ctn hl) ?_
  rintro N4 k4 v4 hN4 _ hle4 own4
  obtain ⟨am, cm, rfl, sm⟩ := own4.sl
  have hl := hl.le hle4
  repeat (first | refine cg_seq ?_ | refine cg_region ?_ | refine rg_nil ?_ | refine eg_then ?_ | refine qsp ?_)
  refine rvn rfl rfl rfl rfl rfl rfl rfl (refOf_ctn hl) ?_
  rintro N5 k5 v5 hN5 _ hle5 own5
  obtain ⟨an, cn, rfl, sn⟩ := own5.sl
  have sm := sm.le hle5
  have hc := of_chk0 bs
  generalize ofR bs = m at sm sn hc ⊢
  refine rs rfl rfl (loc_call_is rfl rfl rfl rfl (samePd_ct sm sn)) ?_
  rw [decide_eq_true (rfl : m = m)]
  repeat (first | refine cg_seq ?_ | refine cg_region ?_ | refine rg_nil ?_ | refine eg_then ?_ | refine qsp ?_)
  refine rs rfl rfl (loc_call_is rfl rfl rfl rfl (seqsCheck_ct sm)) ?_
  rw [hc]
  repeat (first | refine rg_nil ?_ | refine eg_then ?_ | refine qsp ?_ | refine cg_ret ?_)
  exact eg_return rfl rfl rfl
end Go.Wm
namespace Go.Wm
open Go.RowKit Go.Proofs
theorem mayEnter_ok : Try.prog.mayEnter = true := by kernel_rfl
end Go.Wm
namespace Go.Wm
open Go.RowKit Go.Proofs
theorem liftsFinal_nil : Try.prog.liftsFinal = false := by kernel_rfl
end Go.Wm
namespace Go.Wm
open Go.RowKit Go.Proofs
theorem make_eq : Try.prog.make = some (({ program := "", sum := "", func := "", spec := "" } : OpenClaim).make) := by kernel_rfl
end Go.Wm

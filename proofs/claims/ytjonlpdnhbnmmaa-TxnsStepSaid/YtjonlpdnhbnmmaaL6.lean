/-
  The walk of TxnsShown. Conditions: that what is handed in reads as data.
-/
import Derived.Test.YtjonlpdnhbnmmaaY6
import Derived.Test.YtjonlpdnhbnmmaaDiv
set_option linter.all false
namespace Go.Wm
open Go.RowKit Go.Proofs
attribute [local irreducible] RG CG EG WA Loc Det Alc CT Exit.then Exit.inBlock Code.wp bodyPost
theorem short_one {s : List Batch} {n : Nat} (h : s.length * n ≤ reachBytes ∧ ∀ x ∈ s, x.small) : ∀ b ∈ s, Short b := fun b hb r hr => by
  have h1 := h.2 b hb
  unfold Batch.small at h1
  have h2 := h1.2.2.2.2.2.2.2.2.2.2 r hr
  exact ⟨h2.2.1, h2.2.2.1⟩
theorem liveN_succ {to : Int} {l : List Batch} {i : Nat} (h : i < l.length) : ((l.take (i + 1)).filter (liveB to)).length = ((l.take i).filter (liveB to)).length + (if liveB to l[i] = true then 1 else 0) := by
  rw [filter_take_succ h, List.length_append]
  split <;> rename_i e <;> simp [e]
theorem shown_less {g1 g2 : List Gone} {to : Int} {bs : List Batch} (h : ∀ g ∈ g2, g ∈ g1) : (bs.filter (showB g1 to)).length ≤ (bs.filter (showB g2 to)).length := filter_len (fun x hx => show_less h hx) bs
set_option maxHeartbeats 4000000 in
theorem txnsShown_walk {k : PH} {a a1 : Option Addr} {c c1 : Nat} {bs : List Batch} {l : List Gone} {to kk : Int} {B1 : Prop} (hl : Sl tBatch k a c bs) (hsh : ∀ b ∈ bs, Short b) (hg : Sl tGone k a1 c1 l) (_ : B1) (_ : I64 to) (_ : I64 kk) :
    CT Try.prog 17 #[.slice a bs.length c, .slice a1 l.length c1, .int .i64 to, .int .i64 kk] k (fun _ v => v = .bool true) := by
  refine ct_of_body (l := [_, _, _, _]) Try.func17 rfl Try.ntmps17 (by simp) (fun _ _ _ _ h => h) fun F hF0 hFm => ?_
  have b1 := hl.cap; have b2 := hl.max; unfold maxLen at b2
  have b3 := hg.cap; have b4 := hg.max; unfold maxLen at b4
  repeat (first | refine cg_seq ?_ | refine cg_region ?_ | refine rg_nil ?_ | refine eg_then ?_ | refine qsp ?_ | refine qsn ?_ | refine qsa ?_ | refine qss ?_ | refine qsi ?_ | refine qsz ?_ | refine qsl ?_ | refine qsg ?_ | refine qsf ?_ | refine qsd ?_ | refine qsE ?_ | refine qsX ?_ | refine qse ?_ | refine qsx ?_ | refine qso ?_ | refine cg_cond_true rfl ?_ | refine cg_cond_false rfl ?_ | refine cg_skip ?_ | refine cg_block ?_ | refine eg_in_normal ?_ | refine cg_ret ?_ | refine eg_then_ret ?_ | refine eg_in_ret ?_ | refine cg_exit ?_ | refine eg_then_exit ?_ | refine eg_in_exit ?_ | refine eg_in_other rfl ?_)
  refine rs rfl rfl (loc_call_is rfl rfl rfl rfl (live12_ct)) ?_
  repeat (first | refine cg_seq ?_ | refine cg_region ?_ | refine rg_nil ?_ | refine eg_then ?_ | refine qsp ?_ | refine qsn ?_ | refine qsa ?_ | refine qss ?_ | refine qsi ?_ | refine qsz ?_ | refine qsl ?_ | refine qsg ?_ | refine qsf ?_ | refine qsd ?_ | refine qsE ?_ | refine qsX ?_ | refine qse ?_ | refine qsx ?_ | refine qso ?_ | refine cg_cond_true rfl ?_ | refine cg_cond_false rfl ?_ | refine cg_skip ?_ | refine cg_block ?_ | refine eg_in_normal ?_ | refine cg_ret ?_ | refine eg_then_ret ?_ | refine eg_in_ret ?_ | refine cg_exit ?_ | refine eg_then_exit ?_ | refine eg_in_exit ?_ | refine eg_in_other rfl ?_)
  refine rs rfl rfl (loc_call_is rfl rfl rfl rfl (fewAll12_ct hl hsh)) ?_
  repeat (first | refine cg_seq ?_ | refine cg_region ?_ | refine rg_nil ?_ | refine eg_then ?_ | refine qsp ?_ | refine qsn ?_ | refine qsa ?_ | refine qss ?_ | refine qsi ?_ | refine qsz ?_ | refine qsl ?_ | refine qsg ?_ | refine qsf ?_ | refine qsd ?_ | refine qsE ?_ | refine qsX ?_ | refine qse ?_ | refine qsx ?_ | refine qso ?_ | refine cg_cond_true rfl ?_ | refine cg_cond_false rfl ?_ | refine cg_skip ?_ | refine cg_block ?_ | refine eg_in_normal ?_ | refine cg_ret ?_ | refine eg_then_ret ?_ | refine eg_in_ret ?_ | refine cg_exit ?_ | refine eg_then_exit ?_ | refine eg_in_exit ?_ | refine eg_in_other rfl ?_)
  cases q1 : (bs.all fewB && decide ((bs.length : Int) ≤ 60))
  · repeat (first | refine cg_seq ?_ | refine cg_region ?_ | refine rg_nil ?_ | refine eg_then ?_ | refine qsp ?_ | refine qsn ?_ | refine qsa ?_ | refine qss ?_ | refine qsi ?_ | refine qsz ?_ | refine qsl ?_ | refine qsg ?_ | refine qsf ?_ | refine qsd ?_ | refine qsE ?_ | refine qsX ?_ | refine qse ?_ | refine qsx ?_ | refine qso ?_ | refine cg_cond_true rfl ?_ | refine cg_cond_false rfl ?_ | refine cg_skip ?_ | refine cg_block ?_ | refine eg_in_normal ?_ | refine cg_ret ?_ | refine eg_then_ret ?_ | refine eg_in_ret ?_ | refine cg_exit ?_ | refine eg_then_exit ?_ | refine eg_in_exit ?_ | refine eg_in_other rfl ?_)
    exact eg_return rfl rfl rfl
  simp only [Bool.and_eq_true, decide_eq_true_eq] at q1
  have q1 := q1.2
  repeat (first | refine cg_seq ?_ | refine cg_region ?_ | refine rg_nil ?_ | refine eg_then ?_ | refine qsp ?_ | refine qsn ?_ | refine qsa ?_ | refine qss ?_ | refine qsi ?_ | refine qsz ?_ | refine qsl ?_ | refine qsg ?_ | refine qsf ?_ | refine qsd ?_ | refine qsE ?_ | refine qsX ?_ | refine qse ?_ | refine qsx ?_ | refine qso ?_ | refine cg_cond_true rfl ?_ | refine cg_cond_false rfl ?_ | refine cg_skip ?_ | refine cg_block ?_ | refine eg_in_normal ?_ | refine cg_ret ?_ | refine eg_then_ret ?_ | refine eg_in_ret ?_ | refine cg_exit ?_ | refine eg_then_exit ?_ | refine eg_in_exit ?_ | refine eg_in_other rfl ?_)
  cases q2 : decide ((l.length : Int) > 60)
  rotate_left
  · repeat (first | refine cg_seq ?_ | refine cg_region ?_ | refine rg_nil ?_ | refine eg_then ?_ | refine qsp ?_ | refine qsn ?_ | refine qsa ?_ | refine qss ?_ | refine qsi ?_ | refine qsz ?_ | refine qsl ?_ | refine qsg ?_ | refine qsf ?_ | refine qsd ?_ | refine qsE ?_ | refine qsX ?_ | refine qse ?_ | refine qsx ?_ | refine qso ?_ | refine cg_cond_true rfl ?_ | refine cg_cond_false rfl ?_ | refine cg_skip ?_ | refine cg_block ?_ | refine eg_in_normal ?_ | refine cg_ret ?_ | refine eg_then_ret ?_ | refine eg_in_ret ?_ | refine cg_exit ?_ | refine eg_then_exit ?_ | refine eg_in_exit ?_ | refine eg_in_other rfl ?_)
    exact eg_return rfl rfl rfl
  have q2 := of_decide_eq_false q2
  repeat (first | refine cg_seq ?_ | refine cg_region ?_ | refine rg_nil ?_ | refine eg_then ?_ | refine qsp ?_ | refine qsn ?_ | refine qsa ?_ | refine qss ?_ | refine qsi ?_ | refine qsz ?_ | refine qsl ?_ | refine qsg ?_ | refine qsf ?_ | refine qsd ?_ | refine qsE ?_ | refine qsX ?_ | refine qse ?_ | refine qsx ?_ | refine qso ?_ | refine cg_cond_true rfl ?_ | refine cg_cond_false rfl ?_ | refine cg_skip ?_ | refine cg_block ?_ | refine eg_in_normal ?_ | refine cg_ret ?_ | refine eg_then_ret ?_ | refine eg_in_ret ?_ | refine cg_exit ?_ | refine eg_then_exit ?_ | refine eg_in_exit ?_ | refine eg_in_other rfl ?_)
  refine rv rfl rfl rfl (loc_call rfl rfl rfl rfl (fun k k' v hle ⟨a, c, h1, h2⟩ => ⟨a, c, h1, h2.le hle⟩) (show_ct to hl hg (by omega))) ?_
  rintro k2 hle2 _ ⟨a2, c2, rfl, hA⟩
  have hl2 := hl.le hle2
  have hg2 := hg.le hle2
  have hAl : (bs.filter (showB l to)).length ≤ bs.length := List.length_filter_le _ _
  repeat (first | refine cg_seq ?_ | refine cg_region ?_ | refine rg_nil ?_ | refine eg_then ?_ | refine qsp ?_ | refine qsn ?_ | refine qsa ?_ | refine qss ?_ | refine qsi ?_ | refine qsz ?_ | refine qsl ?_ | refine qsg ?_ | refine qsf ?_ | refine qsd ?_ | refine qsE ?_ | refine qsX ?_ | refine qse ?_ | refine qsx ?_ | refine qso ?_ | refine cg_cond_true rfl ?_ | refine cg_cond_false rfl ?_ | refine cg_skip ?_ | refine cg_block ?_ | refine eg_in_normal ?_ | refine cg_ret ?_ | refine eg_then_ret ?_ | refine eg_in_ret ?_ | refine cg_exit ?_ | refine eg_then_exit ?_ | refine eg_in_exit ?_ | refine eg_in_other rfl ?_)
  refine rv rfl rfl rfl (loc_call rfl rfl rfl rfl (fun k k' v hle ⟨a, c, h1, h2⟩ => ⟨a, c, h1, h2.le hle⟩) (show_ct to hA hg2 (by omega))) ?_
  rintro k3 hle3 _ ⟨a3, c3, rfl, hB⟩
  rw [show_twice] at hB ⊢
  have hl3 := hl2.le hle3
  have hg3 := hg2.le hle3
  have hA := hA.le hle3
  repeat (first | refine cg_seq ?_ | refine cg_region ?_ | refine rg_nil ?_ | refine eg_then ?_ | refine qsp ?_ | refine qsn ?_ | refine qsa ?_ | refine qss ?_ | refine qsi ?_ | refine qsz ?_ | refine qsl ?_ | refine qsg ?_ | refine qsf ?_ | refine qsd ?_ | refine qsE ?_ | refine qsX ?_ | refine qse ?_ | refine qsx ?_ | refine qso ?_ | refine cg_cond_true rfl ?_ | refine cg_cond_false rfl ?_ | refine cg_skip ?_ | refine cg_block ?_ | refine eg_in_normal ?_ | refine cg_ret ?_ | refine eg_then_ret ?_ | refine eg_in_ret ?_ | refine cg_exit ?_ | refine eg_then_exit ?_ | refine eg_in_exit ?_ | refine eg_in_other rfl ?_)
  refine rs rfl rfl (loc_det rfl (d_and16 rfl rfl rfl)) ?_
  repeat (first | refine cg_seq ?_ | refine cg_region ?_ | refine rg_nil ?_ | refine eg_then ?_ | refine qsp ?_ | refine qsn ?_ | refine qsa ?_ | refine qss ?_ | refine qsi ?_ | refine qsz ?_ | refine qsl ?_ | refine qsg ?_ | refine qsf ?_ | refine qsd ?_ | refine qsE ?_ | refine qsX ?_ | refine qse ?_ | refine qsx ?_ | refine qso ?_ | refine cg_cond_true rfl ?_ | refine cg_cond_false rfl ?_ | refine cg_skip ?_ | refine cg_block ?_ | refine eg_in_normal ?_ | refine cg_ret ?_ | refine eg_then_ret ?_ | refine eg_in_ret ?_ | refine cg_exit ?_ | refine eg_then_exit ?_ | refine eg_in_exit ?_ | refine eg_in_other rfl ?_)
  refine rs rfl rfl (loc_det rfl (d_rem (b := l.length + 1) rfl rfl rfl (by omega))) ?_
  have hat : low16 kk % (l.length + 1) ≤ l.length := by have := Nat.mod_lt (low16 kk) (y := l.length + 1) (by omega); omega
  generalize low16 kk % (l.length + 1) = at' at hat ⊢
  repeat (first | refine cg_seq ?_ | refine cg_region ?_ | refine rg_nil ?_ | refine eg_then ?_ | refine qsp ?_ | refine qsn ?_ | refine qsa ?_ | refine qss ?_ | refine qsi ?_ | refine qsz ?_ | refine qsl ?_ | refine qsg ?_ | refine qsf ?_ | refine qsd ?_ | refine qsE ?_ | refine qsX ?_ | refine qse ?_ | refine qsx ?_ | refine qso ?_ | refine cg_cond_true rfl ?_ | refine cg_cond_false rfl ?_ | refine cg_skip ?_ | refine cg_block ?_ | refine eg_in_normal ?_ | refine cg_ret ?_ | refine eg_then_ret ?_ | refine eg_in_ret ?_ | refine cg_exit ?_ | refine eg_then_exit ?_ | refine eg_in_exit ?_ | refine eg_in_other rfl ?_)
  refine rs rfl rfl (loc_det rfl (d_pre hg3 rfl rfl rfl hat)) ?_
  repeat (first | refine cg_seq ?_ | refine cg_region ?_ | refine rg_nil ?_ | refine eg_then ?_ | refine qsp ?_ | refine qsn ?_ | refine qsa ?_ | refine qss ?_ | refine qsi ?_ | refine qsz ?_ | refine qsl ?_ | refine qsg ?_ | refine qsf ?_ | refine qsd ?_ | refine qsE ?_ | refine qsX ?_ | refine qse ?_ | refine qsx ?_ | refine qso ?_ | refine cg_cond_true rfl ?_ | refine cg_cond_false rfl ?_ | refine cg_skip ?_ | refine cg_block ?_ | refine eg_in_normal ?_ | refine cg_ret ?_ | refine eg_then_ret ?_ | refine eg_in_ret ?_ | refine cg_exit ?_ | refine eg_then_exit ?_ | refine eg_in_exit ?_ | refine eg_in_other rfl ?_)
  refine rv rfl rfl rfl (loc_call rfl rfl rfl rfl (fun k k' v hle ⟨a, c, h1, h2⟩ => ⟨a, c, h1, h2.le hle⟩) (show_ct to hl3 (hg3.take at') (by omega))) ?_
  rintro k4 hle4 _ ⟨a4, c4, rfl, hC⟩
  have hl4 := hl3.le hle4
  repeat (first | refine cg_seq ?_ | refine cg_region ?_ | refine rg_nil ?_ | refine eg_then ?_ | refine qsp ?_ | refine qsn ?_ | refine qsa ?_ | refine qss ?_ | refine qsi ?_ | refine qsz ?_ | refine qsl ?_ | refine qsg ?_ | refine qsf ?_ | refine qsd ?_ | refine qsE ?_ | refine qsX ?_ | refine qse ?_ | refine qsx ?_ | refine qso ?_ | refine cg_cond_true rfl ?_ | refine cg_cond_false rfl ?_ | refine cg_skip ?_ | refine cg_block ?_ | refine eg_in_normal ?_ | refine cg_ret ?_ | refine eg_then_ret ?_ | refine eg_in_ret ?_ | refine cg_exit ?_ | refine eg_then_exit ?_ | refine eg_in_exit ?_ | refine eg_in_other rfl ?_)
  refine rv rfl rfl rfl (loc_call rfl rfl rfl rfl (fun k k' v hle ⟨a, c, h1, h2⟩ => ⟨a, c, h1, h2.le hle⟩) (show_ct (gone := []) to hl4 (sl_none _ _) (by omega))) ?_
  rintro k5 hle5 _ ⟨a5, c5, rfl, hD⟩
  have hl5 := hl4.le hle5
  have hA := hA.le (hle4.trans hle5)
  have hB := hB.le (hle4.trans hle5)
  rw [show_nil] at hD ⊢
  repeat (first | refine cg_seq ?_ | refine cg_region ?_ | refine rg_nil ?_ | refine eg_then ?_ | refine qsp ?_ | refine qsn ?_ | refine qsa ?_ | refine qss ?_ | refine qsi ?_ | refine qsz ?_ | refine qsl ?_ | refine qsg ?_ | refine qsf ?_ | refine qsd ?_ | refine qsE ?_ | refine qsX ?_ | refine qse ?_ | refine qsx ?_ | refine qso ?_ | refine cg_cond_true rfl ?_ | refine cg_cond_false rfl ?_ | refine cg_skip ?_ | refine cg_block ?_ | refine eg_in_normal ?_ | refine cg_ret ?_ | refine eg_then_ret ?_ | refine eg_in_ret ?_ | refine cg_exit ?_ | refine eg_then_exit ?_ | refine eg_in_exit ?_ | refine eg_in_other rfl ?_)
  refine cg_loop (fun (i : Nat) e k' => k' = k5 ∧ i ≤ bs.length ∧ ∃ m : Nat, m = ((bs.take i).filter (liveB to)).length ∧ e = [(0, .is (.slice a bs.length c)), (2, .is (.int .i64 to)), (9, .is (.bool true)), (10, .is (.slice a2 (bs.filter (showB l to)).length c2)), (11, .is (.slice a3 (bs.filter (showB l to)).length c3)), (12, .is (.slice a4 (bs.filter (showB (l.take at') to)).length c4)), (13, .is (.slice a5 (bs.filter (liveB to)).length c5)), (14, .is (.int .i64 (m : Int))), (15, .is (.int .i64 (i : Int)))])
    (fun i => bs.length - i) 0 ⟨rfl, Nat.zero_le _, 0, by simp, rfl⟩ ⟨rfl, rfl, rfl, rfl, rfl, rfl, rfl, rfl, rfl, trivial⟩ ?_
  rintro i e k6 ⟨rfl, hi, m, hm, rfl⟩
  have hfl := filter_take_len (liveB to) bs i
  repeat (first | refine cg_seq ?_ | refine cg_region ?_ | refine rg_nil ?_ | refine eg_then ?_ | refine qsp ?_ | refine qsn ?_ | refine qsa ?_ | refine qss ?_ | refine qsi ?_ | refine qsz ?_ | refine qsl ?_ | refine qsg ?_ | refine qsf ?_ | refine qsd ?_ | refine qsE ?_ | refine qsX ?_ | refine qse ?_ | refine qsx ?_ | refine qso ?_ | refine cg_cond_true rfl ?_ | refine cg_cond_false rfl ?_ | refine cg_skip ?_ | refine cg_block ?_ | refine eg_in_normal ?_ | refine cg_ret ?_ | refine eg_then_ret ?_ | refine eg_in_ret ?_ | refine cg_exit ?_ | refine eg_then_exit ?_ | refine eg_in_exit ?_ | refine eg_in_other rfl ?_)
  refine cg_cond rfl (fun h => ?_) (fun h => ?_)
  · have hlt : i < bs.length := by simpa using h
    obtain ⟨bx, ox, cx, rfl, ⟨ra, rc, rfl, hr, hok⟩, hcx⟩ := hl5.el i bs[i] (List.getElem?_eq_getElem hlt)
    obtain ⟨p0, p1, p2, p3, p4, p5, p6, p7, p8, p9⟩ := Batch.parts hcx
    have hsu := liveN_succ (to := to) hlt
    rw [← hm] at hsu hfl
    repeat (first | refine cg_seq ?_ | refine cg_region ?_ | refine rg_nil ?_ | refine eg_then ?_ | refine qsp ?_ | refine qsn ?_ | refine qsa ?_ | refine qss ?_ | refine qsi ?_ | refine qsz ?_ | refine qsl ?_ | refine qsg ?_ | refine qsf ?_ | refine qsd ?_ | refine qsE ?_ | refine qsX ?_ | refine qse ?_ | refine qsx ?_ | refine qso ?_ | refine cg_cond_true rfl ?_ | refine cg_cond_false rfl ?_ | refine cg_skip ?_ | refine cg_block ?_ | refine eg_in_normal ?_ | refine cg_ret ?_ | refine eg_then_ret ?_ | refine eg_in_ret ?_ | refine cg_exit ?_ | refine eg_then_exit ?_ | refine eg_in_exit ?_ | refine eg_in_other rfl ?_)
    cases q3 : (bs[i].ctl == 0)
    · repeat (first | refine cg_seq ?_ | refine cg_region ?_ | refine rg_nil ?_ | refine eg_then ?_ | refine qsp ?_ | refine qsn ?_ | refine qsa ?_ | refine qss ?_ | refine qsi ?_ | refine qsz ?_ | refine qsl ?_ | refine qsg ?_ | refine qsf ?_ | refine qsd ?_ | refine qsE ?_ | refine qsX ?_ | refine qse ?_ | refine qsx ?_ | refine qso ?_ | refine cg_cond_true rfl ?_ | refine cg_cond_false rfl ?_ | refine cg_skip ?_ | refine cg_block ?_ | refine eg_in_normal ?_ | refine cg_ret ?_ | refine eg_then_ret ?_ | refine eg_in_ret ?_ | refine cg_exit ?_ | refine eg_then_exit ?_ | refine eg_in_exit ?_ | refine eg_in_other rfl ?_)
      have : ((bs.take (i + 1)).filter (liveB to)).length = m := by
        rw [hsu, if_neg (by simp at q3; simp [liveB, q3])]; rfl
      exact eg_again (i + 1) _ ⟨rfl, hlt, m, this.symm, rfl⟩ (by omega) ⟨rfl, rfl, rfl, rfl, rfl, rfl, rfl, rfl, rfl, trivial⟩
    simp at q3
    repeat (first | refine cg_seq ?_ | refine cg_region ?_ | refine rg_nil ?_ | refine eg_then ?_ | refine qsp ?_ | refine qsn ?_ | refine qsa ?_ | refine qss ?_ | refine qsi ?_ | refine qsz ?_ | refine qsl ?_ | refine qsg ?_ | refine qsf ?_ | refine qsd ?_ | refine qsE ?_ | refine qsX ?_ | refine qse ?_ | refine qsx ?_ | refine qso ?_ | refine cg_cond_true rfl ?_ | refine cg_cond_false rfl ?_ | refine cg_skip ?_ | refine cg_block ?_ | refine eg_in_normal ?_ | refine cg_ret ?_ | refine eg_then_ret ?_ | refine eg_in_ret ?_ | refine cg_exit ?_ | refine eg_then_exit ?_ | refine eg_in_exit ?_ | refine eg_in_other rfl ?_)
    cases q4 : decide (bs[i].last < to)
    · repeat (first | refine cg_seq ?_ | refine cg_region ?_ | refine rg_nil ?_ | refine eg_then ?_ | refine qsp ?_ | refine qsn ?_ | refine qsa ?_ | refine qss ?_ | refine qsi ?_ | refine qsz ?_ | refine qsl ?_ | refine qsg ?_ | refine qsf ?_ | refine qsd ?_ | refine qsE ?_ | refine qsX ?_ | refine qse ?_ | refine qsx ?_ | refine qso ?_ | refine cg_cond_true rfl ?_ | refine cg_cond_false rfl ?_ | refine cg_skip ?_ | refine cg_block ?_ | refine eg_in_normal ?_ | refine cg_ret ?_ | refine eg_then_ret ?_ | refine eg_in_ret ?_ | refine cg_exit ?_ | refine eg_then_exit ?_ | refine eg_in_exit ?_ | refine eg_in_other rfl ?_)
      have : ((bs.take (i + 1)).filter (liveB to)).length = m := by
        rw [hsu, if_neg (by simp [liveB, q3, q4])]; rfl
      exact eg_again (i + 1) _ ⟨rfl, hlt, m, this.symm, rfl⟩ (by omega) ⟨rfl, rfl, rfl, rfl, rfl, rfl, rfl, rfl, rfl, trivial⟩
    · repeat (first | refine cg_seq ?_ | refine cg_region ?_ | refine rg_nil ?_ | refine eg_then ?_ | refine qsp ?_ | refine qsn ?_ | refine qsa ?_ | refine qss ?_ | refine qsi ?_ | refine qsz ?_ | refine qsl ?_ | refine qsg ?_ | refine qsf ?_ | refine qsd ?_ | refine qsE ?_ | refine qsX ?_ | refine qse ?_ | refine qsx ?_ | refine qso ?_ | refine cg_cond_true rfl ?_ | refine cg_cond_false rfl ?_ | refine cg_skip ?_ | refine cg_block ?_ | refine eg_in_normal ?_ | refine cg_ret ?_ | refine eg_then_ret ?_ | refine eg_in_ret ?_ | refine cg_exit ?_ | refine eg_then_exit ?_ | refine eg_in_exit ?_ | refine eg_in_other rfl ?_)
      have : ((bs.take (i + 1)).filter (liveB to)).length = m + 1 := by
        rw [hsu, if_pos (by simp [liveB, q3, q4])]
      exact eg_again (i + 1) _ ⟨rfl, hlt, m + 1, this.symm, rfl⟩ (by omega) ⟨rfl, rfl, rfl, rfl, rfl, rfl, rfl, rfl, rfl, trivial⟩
  · have hil : i = bs.length := by simp at h; omega
    subst hil
    rw [List.take_length] at hm
    subst hm
    have e1 : (bs.filter (showB l to)).length ≤ (bs.filter (showB (l.take at') to)).length := shown_less fun g hg => List.mem_of_mem_take hg
    have e2 : (bs.filter (showB (l.take at') to)).length ≤ (bs.filter (liveB to)).length := by rw [← show_nil]; exact shown_less fun g hg => by cases hg
    repeat (first | refine cg_seq ?_ | refine cg_region ?_ | refine rg_nil ?_ | refine eg_then ?_ | refine qsp ?_ | refine qsn ?_ | refine qsa ?_ | refine qss ?_ | refine qsi ?_ | refine qsz ?_ | refine qsl ?_ | refine qsg ?_ | refine qsf ?_ | refine qsd ?_ | refine qsE ?_ | refine qsX ?_ | refine qse ?_ | refine qsx ?_ | refine qso ?_ | refine cg_cond_true rfl ?_ | refine cg_cond_false rfl ?_ | refine cg_skip ?_ | refine cg_block ?_ | refine eg_in_normal ?_ | refine cg_ret ?_ | refine eg_then_ret ?_ | refine eg_in_ret ?_ | refine cg_exit ?_ | refine eg_then_exit ?_ | refine eg_in_exit ?_ | refine eg_in_other rfl ?_)
    refine rs rfl rfl (loc_call_is rfl rfl rfl rfl (sameAllB_ct hA hB)) ?_
    rw [decide_eq_true rfl]
    repeat (first | refine cg_seq ?_ | refine cg_region ?_ | refine rg_nil ?_ | refine eg_then ?_ | refine qsp ?_ | refine qsn ?_ | refine qsa ?_ | refine qss ?_ | refine qsi ?_ | refine qsz ?_ | refine qsl ?_ | refine qsg ?_ | refine qsf ?_ | refine qsd ?_ | refine qsE ?_ | refine qsX ?_ | refine qse ?_ | refine qsx ?_ | refine qso ?_ | refine cg_cond_true rfl ?_ | refine cg_cond_false rfl ?_ | refine cg_skip ?_ | refine cg_block ?_ | refine eg_in_normal ?_ | refine cg_ret ?_ | refine eg_then_ret ?_ | refine eg_in_ret ?_ | refine cg_exit ?_ | refine eg_then_exit ?_ | refine eg_in_exit ?_ | refine eg_in_other rfl ?_)
    rw [show decide (((bs.filter (showB l to)).length : Int) ≤ ((bs.filter (showB (l.take at') to)).length : Int)) = true from decide_eq_true (by omega)]
    repeat (first | refine cg_seq ?_ | refine cg_region ?_ | refine rg_nil ?_ | refine eg_then ?_ | refine qsp ?_ | refine qsn ?_ | refine qsa ?_ | refine qss ?_ | refine qsi ?_ | refine qsz ?_ | refine qsl ?_ | refine qsg ?_ | refine qsf ?_ | refine qsd ?_ | refine qsE ?_ | refine qsX ?_ | refine qse ?_ | refine qsx ?_ | refine qso ?_ | refine cg_cond_true rfl ?_ | refine cg_cond_false rfl ?_ | refine cg_skip ?_ | refine cg_block ?_ | refine eg_in_normal ?_ | refine cg_ret ?_ | refine eg_then_ret ?_ | refine eg_in_ret ?_ | refine cg_exit ?_ | refine eg_then_exit ?_ | refine eg_in_exit ?_ | refine eg_in_other rfl ?_)
    rw [show decide (((bs.filter (showB (l.take at') to)).length : Int) ≤ ((bs.filter (liveB to)).length : Int)) = true from decide_eq_true (by omega)]
    repeat (first | refine cg_seq ?_ | refine cg_region ?_ | refine rg_nil ?_ | refine eg_then ?_ | refine qsp ?_ | refine qsn ?_ | refine qsa ?_ | refine qss ?_ | refine qsi ?_ | refine qsz ?_ | refine qsl ?_ | refine qsg ?_ | refine qsf ?_ | refine qsd ?_ | refine qsE ?_ | refine qsX ?_ | refine qse ?_ | refine qsx ?_ | refine qso ?_ | refine cg_cond_true rfl ?_ | refine cg_cond_false rfl ?_ | refine cg_skip ?_ | refine cg_block ?_ | refine eg_in_normal ?_ | refine cg_ret ?_ | refine eg_then_ret ?_ | refine eg_in_ret ?_ | refine cg_exit ?_ | refine eg_then_exit ?_ | refine eg_in_exit ?_ | refine eg_in_other rfl ?_)
    exact eg_return rfl rfl (by simp)
end Go.Wm

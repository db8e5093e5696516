/-
  Views, the document's: whether they may be, few, whether a transaction is below. Conditions: that what is handed in reads as data.
-/
import Derived.Test.YtjonlpdnhbnmmaaR5
set_option linter.all false
namespace Go.Wm
open Go.RowKit Go.Proofs
attribute [local irreducible] RG CG EG WA Loc Det Alc CT Exit.then Exit.inBlock Code.wp bodyPost

def fewOne (v : View) : Bool := (decide (v.tx.openV.length ≤ 60) && (decide (v.tx.gone.length ≤ 60) && decide (v.tx.done.length ≤ 60))) && decide (v.tx.done.length ≤ 12)
def fewV (l : List View) : Bool := (l.take 20).all fewOne && decide (l.length ≤ 8)
def MayAt (l : List View) (i : Nat) (h : i < l.length) : Prop := tpP l[i].tp = true ∧ (0 < i → tpLess l[i - 1].tp l[i].tp = true) ∧ txP l[i].tx = true ∧ 0 ≤ l[i].high ∧ l[i].high ≤ 1099511627776
instance (l : List View) (i : Nat) (h : i < l.length) : Decidable (MayAt l i h) := by unfold MayAt; infer_instance
/-- May views be? -/
def MayV (l : List View) : Prop := ∀ i, (h : i < l.length) → MayAt l i h
instance (l : List View) : Decidable (MayV l) := by unfold MayV; infer_instance
set_option maxHeartbeats 1000000 in
theorem fewV_ct {k : PH} {a : Option Addr} {c : Nat} {l : List View} (hl : Sl tView k a c l) :
    CT Try.prog 19 #[.slice a l.length c] k (fun _ v => v = .bool (fewV l)) := by
  refine ct_of_body (l := [_]) Try.func19 rfl Try.ntmps19 (by simp) (fun _ _ _ _ h => h) fun F hF0 hFm => ?_
  have b1 := hl.cap; have b2 := hl.max; unfold maxLen at b2
  repeat (first | refine cg_seq ?_ | refine cg_region ?_ | refine rg_nil ?_ | refine eg_then ?_ | refine qsp ?_ | refine qsn ?_ | refine qsa ?_ | refine qss ?_ | refine qsi ?_ | refine qsz ?_ | refine qsl ?_ | refine qsg ?_ | refine qsf ?_ | refine qsd ?_ | refine qsE ?_ | refine qsX ?_ | refine qse ?_ | refine qsx ?_ | refine qso ?_ | refine cg_cond_true rfl ?_ | refine cg_cond_false rfl ?_ | refine cg_skip ?_ | refine cg_block ?_ | refine eg_in_normal ?_ | refine cg_ret ?_ | refine eg_then_ret ?_ | refine eg_in_ret ?_ | refine cg_exit ?_ | refine eg_then_exit ?_ | refine eg_in_exit ?_ | refine eg_in_other rfl ?_)
  refine cg_loop (fun (i : Nat) e k' => k' = k ∧ i ≤ l.length ∧ i ≤ 20 ∧ (l.take i).all fewOne = true ∧ e = [(0, .is (.slice a l.length c)), (3, .is (.int .i64 (i : Int)))])
    (fun i => l.length - i) 0 ⟨rfl, Nat.zero_le _, Nat.zero_le _, rfl, rfl⟩ ⟨rfl, rfl, trivial⟩ ?_
  rintro i e k1 ⟨rfl, hi, hi2, hno, rfl⟩
  have fin : (l.take 20).all fewOne = true → fewV l = decide (l.length ≤ 8) := fun h => by unfold fewV; rw [h, Bool.true_and]
  repeat (first | refine cg_seq ?_ | refine cg_region ?_ | refine rg_nil ?_ | refine eg_then ?_ | refine qsp ?_ | refine qsn ?_ | refine qsa ?_ | refine qss ?_ | refine qsi ?_ | refine qsz ?_ | refine qsl ?_ | refine qsg ?_ | refine qsf ?_ | refine qsd ?_ | refine qsE ?_ | refine qsX ?_ | refine qse ?_ | refine qsx ?_ | refine qso ?_ | refine cg_cond_true rfl ?_ | refine cg_cond_false rfl ?_ | refine cg_skip ?_ | refine cg_block ?_ | refine eg_in_normal ?_ | refine cg_ret ?_ | refine eg_then_ret ?_ | refine eg_in_ret ?_ | refine cg_exit ?_ | refine eg_then_exit ?_ | refine eg_in_exit ?_ | refine eg_in_other rfl ?_)
  cases q : decide ((i : Int) < (l.length : Int))
  · have hil : i = l.length := by simp at q; omega
    subst hil
    rw [List.take_length] at hno
    repeat (first | refine cg_seq ?_ | refine cg_region ?_ | refine rg_nil ?_ | refine eg_then ?_ | refine qsp ?_ | refine qsn ?_ | refine qsa ?_ | refine qss ?_ | refine qsi ?_ | refine qsz ?_ | refine qsl ?_ | refine qsg ?_ | refine qsf ?_ | refine qsd ?_ | refine qsE ?_ | refine qsX ?_ | refine qse ?_ | refine qsx ?_ | refine qso ?_ | refine cg_cond_true rfl ?_ | refine cg_cond_false rfl ?_ | refine cg_skip ?_ | refine cg_block ?_ | refine eg_in_normal ?_ | refine cg_ret ?_ | refine eg_then_ret ?_ | refine eg_in_ret ?_ | refine cg_exit ?_ | refine eg_then_exit ?_ | refine eg_in_exit ?_ | refine eg_in_other rfl ?_)
    refine eg_return rfl rfl ?_
    rw [fin (by rw [List.take_of_length_le hi2]; exact hno), Value.bool.injEq, Bool.eq_iff_iff]
    simp
    omega
  have hlt : i < l.length := by simp at q; omega
  repeat (first | refine cg_seq ?_ | refine cg_region ?_ | refine rg_nil ?_ | refine eg_then ?_ | refine qsp ?_ | refine qsn ?_ | refine qsa ?_ | refine qss ?_ | refine qsi ?_ | refine qsz ?_ | refine qsl ?_ | refine qsg ?_ | refine qsf ?_ | refine qsd ?_ | refine qsE ?_ | refine qsX ?_ | refine qse ?_ | refine qsx ?_ | refine qso ?_ | refine cg_cond_true rfl ?_ | refine cg_cond_false rfl ?_ | refine cg_skip ?_ | refine cg_block ?_ | refine eg_in_normal ?_ | refine cg_ret ?_ | refine eg_then_ret ?_ | refine eg_in_ret ?_ | refine cg_exit ?_ | refine eg_then_exit ?_ | refine eg_in_exit ?_ | refine eg_in_other rfl ?_)
  refine cg_cond rfl (fun h => ?_) (fun h => ?_)
  · have hi20 : i < 20 := by simp at h; omega
    obtain ⟨bx, ox, cx, rfl, ⟨a0, c0, a1, c1, a2, c2, rfl, ⟨so, sg, sd⟩, hok⟩, hcx⟩ := hl.el i l[i] (List.getElem?_eq_getElem hlt)
    obtain ⟨r0, r1, r2⟩ := View.parts hcx
    have d1 := sd.cap; have d2 := sd.max; unfold maxLen at d2
    have bad : fewOne l[i] = false → Value.bool false = .bool (fewV l) := fun hb => by
      have : fewV l = false := by
        unfold fewV
        rw [show (l.take 20).all fewOne = false by
          rw [List.all_eq_false]
          refine ⟨l[i], ?_, by simp [hb]⟩
          rw [List.mem_take_iff_getElem]
          exact ⟨i, by omega, rfl⟩]
        rfl
      rw [this]
    repeat (first | refine cg_seq ?_ | refine cg_region ?_ | refine rg_nil ?_ | refine eg_then ?_ | refine qsp ?_ | refine qsn ?_ | refine qsa ?_ | refine qss ?_ | refine qsi ?_ | refine qsz ?_ | refine qsl ?_ | refine qsg ?_ | refine qsf ?_ | refine qsd ?_ | refine qsE ?_ | refine qsX ?_ | refine qse ?_ | refine qsx ?_ | refine qso ?_ | refine cg_cond_true rfl ?_ | refine cg_cond_false rfl ?_ | refine cg_skip ?_ | refine cg_block ?_ | refine eg_in_normal ?_ | refine cg_ret ?_ | refine eg_then_ret ?_ | refine eg_in_ret ?_ | refine cg_exit ?_ | refine eg_then_exit ?_ | refine eg_in_exit ?_ | refine eg_in_other rfl ?_)
    refine rs rfl rfl (loc_call_is rfl rfl rfl rfl (refFewTx_ct ⟨so, sg, sd⟩)) ?_
    obtain ⟨t0, t1, t2⟩ := Tx.parts r1
    have hdef : fewOne l[i] = ((decide (l[i].tx.openV.length ≤ 60) && (decide (l[i].tx.gone.length ≤ 60) && decide (l[i].tx.done.length ≤ 60))) && decide (l[i].tx.done.length ≤ 12)) := rfl
    generalize hq1 : (decide (l[i].tx.openV.length ≤ 60) && (decide (l[i].tx.gone.length ≤ 60) && decide (l[i].tx.done.length ≤ 60))) = q1 at hdef
    cases q1
    · repeat (first | refine cg_seq ?_ | refine cg_region ?_ | refine rg_nil ?_ | refine eg_then ?_ | refine qsp ?_ | refine qsn ?_ | refine qsa ?_ | refine qss ?_ | refine qsi ?_ | refine qsz ?_ | refine qsl ?_ | refine qsg ?_ | refine qsf ?_ | refine qsd ?_ | refine qsE ?_ | refine qsX ?_ | refine qse ?_ | refine qsx ?_ | refine qso ?_ | refine cg_cond_true rfl ?_ | refine cg_cond_false rfl ?_ | refine cg_skip ?_ | refine cg_block ?_ | refine eg_in_normal ?_ | refine cg_ret ?_ | refine eg_then_ret ?_ | refine eg_in_ret ?_ | refine cg_exit ?_ | refine eg_then_exit ?_ | refine eg_in_exit ?_ | refine eg_in_other rfl ?_)
      exact eg_return rfl rfl (bad hdef)
    · repeat (first | refine cg_seq ?_ | refine cg_region ?_ | refine rg_nil ?_ | refine eg_then ?_ | refine qsp ?_ | refine qsn ?_ | refine qsa ?_ | refine qss ?_ | refine qsi ?_ | refine qsz ?_ | refine qsl ?_ | refine qsg ?_ | refine qsf ?_ | refine qsd ?_ | refine qsE ?_ | refine qsX ?_ | refine qse ?_ | refine qsx ?_ | refine qso ?_ | refine cg_cond_true rfl ?_ | refine cg_cond_false rfl ?_ | refine cg_skip ?_ | refine cg_block ?_ | refine eg_in_normal ?_ | refine cg_ret ?_ | refine eg_then_ret ?_ | refine eg_in_ret ?_ | refine cg_exit ?_ | refine eg_then_exit ?_ | refine eg_in_exit ?_ | refine eg_in_other rfl ?_)
      refine cg_cond rfl (fun h2 => ?_) (fun h2 => ?_)
      · repeat (first | refine cg_seq ?_ | refine cg_region ?_ | refine rg_nil ?_ | refine eg_then ?_ | refine qsp ?_ | refine qsn ?_ | refine qsa ?_ | refine qss ?_ | refine qsi ?_ | refine qsz ?_ | refine qsl ?_ | refine qsg ?_ | refine qsf ?_ | refine qsd ?_ | refine qsE ?_ | refine qsX ?_ | refine qse ?_ | refine qsx ?_ | refine qso ?_ | refine cg_cond_true rfl ?_ | refine cg_cond_false rfl ?_ | refine cg_skip ?_ | refine cg_block ?_ | refine eg_in_normal ?_ | refine cg_ret ?_ | refine eg_then_ret ?_ | refine eg_in_ret ?_ | refine cg_exit ?_ | refine eg_then_exit ?_ | refine eg_in_exit ?_ | refine eg_in_other rfl ?_)
        refine eg_return rfl rfl (bad ?_)
        rw [hdef]
        simp at h2 ⊢
        omega
      · repeat (first | refine cg_seq ?_ | refine cg_region ?_ | refine rg_nil ?_ | refine eg_then ?_ | refine qsp ?_ | refine qsn ?_ | refine qsa ?_ | refine qss ?_ | refine qsi ?_ | refine qsz ?_ | refine qsl ?_ | refine qsg ?_ | refine qsf ?_ | refine qsd ?_ | refine qsE ?_ | refine qsX ?_ | refine qse ?_ | refine qsx ?_ | refine qso ?_ | refine cg_cond_true rfl ?_ | refine cg_cond_false rfl ?_ | refine cg_skip ?_ | refine cg_block ?_ | refine eg_in_normal ?_ | refine cg_ret ?_ | refine eg_then_ret ?_ | refine eg_in_ret ?_ | refine cg_exit ?_ | refine eg_then_exit ?_ | refine eg_in_exit ?_ | refine eg_in_other rfl ?_)
        refine eg_again (i + 1) _ ⟨rfl, hlt, hi20, ?_, rfl⟩ (by omega) ⟨rfl, rfl, trivial⟩
        rw [List.take_succ_eq_append_getElem hlt, List.all_append, hno, Bool.true_and, List.all_cons, hdef]
        simp at h2 ⊢
        omega
  · have hi20 : i = 20 := by simp at h; omega
    repeat (first | refine cg_seq ?_ | refine cg_region ?_ | refine rg_nil ?_ | refine eg_then ?_ | refine qsp ?_ | refine qsn ?_ | refine qsa ?_ | refine qss ?_ | refine qsi ?_ | refine qsz ?_ | refine qsl ?_ | refine qsg ?_ | refine qsf ?_ | refine qsd ?_ | refine qsE ?_ | refine qsX ?_ | refine qse ?_ | refine qsx ?_ | refine qso ?_ | refine cg_cond_true rfl ?_ | refine cg_cond_false rfl ?_ | refine cg_skip ?_ | refine cg_block ?_ | refine eg_in_normal ?_ | refine cg_ret ?_ | refine eg_then_ret ?_ | refine eg_in_ret ?_ | refine cg_exit ?_ | refine eg_then_exit ?_ | refine eg_in_exit ?_ | refine eg_in_other rfl ?_)
    refine eg_return rfl rfl ?_
    rw [fin (by rw [hi20] at hno; exact hno), Value.bool.injEq, Bool.eq_iff_iff]
    simp
    omega

end Go.Wm

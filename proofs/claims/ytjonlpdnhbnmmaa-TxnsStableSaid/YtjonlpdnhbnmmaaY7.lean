/-
  How the next batch of a producer ends its transaction, the law's own. Conditions: that what is handed in reads as data.
-/
import Derived.Test.YtjonlpdnhbnmmaaQ2
set_option linter.all false
namespace Go.Wm
open Go.RowKit Go.Proofs
attribute [local irreducible] RG CG EG WA Loc Det Alc CT Exit.then Exit.inBlock Code.wp bodyPost
theorem nextE_cons (b : Batch) (r : List Batch) (p : Int) : nextE (b :: r) p = if b.pid = p ∧ b.ctl ≠ 0 then b.ctl else nextE r p := by
  unfold nextE
  rw [List.find?_cons]
  by_cases h1 : b.pid = p <;> by_cases h2 : b.ctl = 0 <;> simp [h1, h2]
set_option maxHeartbeats 1000000 in
theorem next12_ct {k : PH} {a : Option Addr} {c : Nat} {bs : List Batch} {i : Nat} (hl : Sl tBatch k a c bs) (hi : i < bs.length) (hb : bs.length ≤ 1000000) :
    CT Try.prog 47 #[.slice a bs.length c, .int .i64 (i : Int)] k (fun _ v => v = .int .i64 (nextE (bs.drop (i + 1)) bs[i].pid)) := by
  refine ct_of_body (l := [_, _]) Try.func47 rfl Try.ntmps47 (by simp) (fun _ _ _ _ h => h) fun F hF0 hFm => ?_
  have b1 := hl.cap; have b2 := hl.max; unfold maxLen at b2
  obtain ⟨by', oy, cy, ea, ⟨sa, sc, ecy, _, _⟩, hcy⟩ := hl.el i bs[i] (List.getElem?_eq_getElem hi)
  subst ea
  rw [ecy] at hcy
  obtain ⟨y0, y1, y2, y3, y4, _⟩ := Batch.parts hcy
  repeat (first | refine cg_seq ?_ | refine cg_region ?_ | refine rg_nil ?_ | refine eg_then ?_ | refine qsp ?_ | refine qsn ?_ | refine qsa ?_ | refine qss ?_ | refine qsi ?_ | refine qsz ?_ | refine qsl ?_ | refine qsg ?_ | refine qsf ?_ | refine qsd ?_ | refine qsE ?_ | refine qsX ?_ | refine qse ?_ | refine qsx ?_ | refine qso ?_ | refine cg_cond_true rfl ?_ | refine cg_cond_false rfl ?_ | refine cg_skip ?_ | refine cg_block ?_ | refine eg_in_normal ?_ | refine cg_ret ?_ | refine eg_then_ret ?_ | refine eg_in_ret ?_ | refine cg_exit ?_ | refine eg_then_exit ?_ | refine eg_in_exit ?_ | refine eg_in_other rfl ?_)
  refine cg_loop (fun (j : Nat) e k' => k' = k ∧ j ≤ bs.length ∧ nextE (bs.drop (i + 1)) bs[i].pid = nextE (bs.drop j) bs[i].pid ∧ e = [(0, .is (.slice (some ⟨by', oy, none⟩) bs.length c)), (1, .is (.int .i64 (i : Int))), (5, .is (.int .i64 (j : Int)))])
    (fun j => bs.length - j) (i + 1) ⟨rfl, hi, rfl, rfl⟩ ⟨rfl, rfl, rfl, trivial⟩ ?_
  rintro j e k1 ⟨rfl, hj, hinv, rfl⟩
  repeat (first | refine cg_seq ?_ | refine cg_region ?_ | refine rg_nil ?_ | refine eg_then ?_ | refine qsp ?_ | refine qsn ?_ | refine qsa ?_ | refine qss ?_ | refine qsi ?_ | refine qsz ?_ | refine qsl ?_ | refine qsg ?_ | refine qsf ?_ | refine qsd ?_ | refine qsE ?_ | refine qsX ?_ | refine qse ?_ | refine qsx ?_ | refine qso ?_ | refine cg_cond_true rfl ?_ | refine cg_cond_false rfl ?_ | refine cg_skip ?_ | refine cg_block ?_ | refine eg_in_normal ?_ | refine cg_ret ?_ | refine eg_then_ret ?_ | refine eg_in_ret ?_ | refine cg_exit ?_ | refine eg_then_exit ?_ | refine eg_in_exit ?_ | refine eg_in_other rfl ?_)
  refine cg_cond rfl (fun h => ?_) (fun h => ?_)
  · have hlt : j < bs.length := by simpa using h
    obtain ⟨bx, ox, cx, ex, ⟨ra, rc, ecx, _, _⟩, hcx⟩ := hl.el j bs[j] (List.getElem?_eq_getElem hlt)
    cases ex
    rw [ecx] at hcx
    obtain ⟨p0, p1, p2, p3, p4, p5, p6, p7, p8, p9⟩ := Batch.parts hcx
    have hc := nextE_cons bs[j] (bs.drop (j + 1)) bs[i].pid
    rw [← List.drop_eq_getElem_cons hlt, ← hinv] at hc
    repeat (first | refine cg_seq ?_ | refine cg_region ?_ | refine rg_nil ?_ | refine eg_then ?_ | refine qsp ?_ | refine qsn ?_ | refine qsa ?_ | refine qss ?_ | refine qsi ?_ | refine qsz ?_ | refine qsl ?_ | refine qsg ?_ | refine qsf ?_ | refine qsd ?_ | refine qsE ?_ | refine qsX ?_ | refine qse ?_ | refine qsx ?_ | refine qso ?_ | refine cg_cond_true rfl ?_ | refine cg_cond_false rfl ?_ | refine cg_skip ?_ | refine cg_block ?_ | refine eg_in_normal ?_ | refine cg_ret ?_ | refine eg_then_ret ?_ | refine eg_in_ret ?_ | refine cg_exit ?_ | refine eg_then_exit ?_ | refine eg_in_exit ?_ | refine eg_in_other rfl ?_)
    refine cg_any (by kernel_rfl) rfl ?_
    repeat (first | refine qwp ?_ | refine qwn ?_ | refine qwa ?_ | refine qws ?_ | refine qwi ?_ | refine qwz ?_ | refine qwl ?_ | refine qwg ?_ | refine qwf ?_ | refine qwd ?_ | refine qwE ?_ | refine qwX ?_ | refine qwe ?_ | refine qwx ?_ | refine qwo ?_ | (refine wn rfl ?_; refine eg_then ?_))
    cases q1 : (bs[j].pid == bs[i].pid)
    · simp at q1
      repeat (first | refine qwp ?_ | refine qwn ?_ | refine qwa ?_ | refine qws ?_ | refine qwi ?_ | refine qwz ?_ | refine qwl ?_ | refine qwg ?_ | refine qwf ?_ | refine qwd ?_ | refine qwE ?_ | refine qwX ?_ | refine qwe ?_ | refine qwx ?_ | refine qwo ?_ | (refine wn rfl ?_; refine eg_then ?_))
      repeat (first | refine cg_seq ?_ | refine cg_region ?_ | refine rg_nil ?_ | refine eg_then ?_ | refine qsp ?_ | refine qsn ?_ | refine qsa ?_ | refine qss ?_ | refine qsi ?_ | refine qsz ?_ | refine qsl ?_ | refine qsg ?_ | refine qsf ?_ | refine qsd ?_ | refine qsE ?_ | refine qsX ?_ | refine qse ?_ | refine qsx ?_ | refine qso ?_ | refine cg_cond_true rfl ?_ | refine cg_cond_false rfl ?_ | refine cg_skip ?_ | refine cg_block ?_ | refine eg_in_normal ?_ | refine cg_ret ?_ | refine eg_then_ret ?_ | refine eg_in_ret ?_ | refine cg_exit ?_ | refine eg_then_exit ?_ | refine eg_in_exit ?_ | refine eg_in_other rfl ?_)
      exact eg_again (j + 1) _ ⟨rfl, hlt, by rw [hc, if_neg (by simp [q1])], rfl⟩ (by omega) ⟨rfl, rfl, rfl, trivial⟩
    simp at q1
    repeat (first | refine qwp ?_ | refine qwn ?_ | refine qwa ?_ | refine qws ?_ | refine qwi ?_ | refine qwz ?_ | refine qwl ?_ | refine qwg ?_ | refine qwf ?_ | refine qwd ?_ | refine qwE ?_ | refine qwX ?_ | refine qwe ?_ | refine qwx ?_ | refine qwo ?_ | (refine wn rfl ?_; refine eg_then ?_))
    cases q2 : (bs[j].ctl != 0)
    · simp at q2
      repeat (first | refine qwp ?_ | refine qwn ?_ | refine qwa ?_ | refine qws ?_ | refine qwi ?_ | refine qwz ?_ | refine qwl ?_ | refine qwg ?_ | refine qwf ?_ | refine qwd ?_ | refine qwE ?_ | refine qwX ?_ | refine qwe ?_ | refine qwx ?_ | refine qwo ?_ | (refine wn rfl ?_; refine eg_then ?_))
      repeat (first | refine cg_seq ?_ | refine cg_region ?_ | refine rg_nil ?_ | refine eg_then ?_ | refine qsp ?_ | refine qsn ?_ | refine qsa ?_ | refine qss ?_ | refine qsi ?_ | refine qsz ?_ | refine qsl ?_ | refine qsg ?_ | refine qsf ?_ | refine qsd ?_ | refine qsE ?_ | refine qsX ?_ | refine qse ?_ | refine qsx ?_ | refine qso ?_ | refine cg_cond_true rfl ?_ | refine cg_cond_false rfl ?_ | refine cg_skip ?_ | refine cg_block ?_ | refine eg_in_normal ?_ | refine cg_ret ?_ | refine eg_then_ret ?_ | refine eg_in_ret ?_ | refine cg_exit ?_ | refine eg_then_exit ?_ | refine eg_in_exit ?_ | refine eg_in_other rfl ?_)
      exact eg_again (j + 1) _ ⟨rfl, hlt, by rw [hc, if_neg (by simp [q2])], rfl⟩ (by omega) ⟨rfl, rfl, rfl, trivial⟩
    simp at q2
    repeat (first | refine qwp ?_ | refine qwn ?_ | refine qwa ?_ | refine qws ?_ | refine qwi ?_ | refine qwz ?_ | refine qwl ?_ | refine qwg ?_ | refine qwf ?_ | refine qwd ?_ | refine qwE ?_ | refine qwX ?_ | refine qwe ?_ | refine qwx ?_ | refine qwo ?_ | (refine wn rfl ?_; refine eg_then ?_))
    repeat (first | refine cg_seq ?_ | refine cg_region ?_ | refine rg_nil ?_ | refine eg_then ?_ | refine qsp ?_ | refine qsn ?_ | refine qsa ?_ | refine qss ?_ | refine qsi ?_ | refine qsz ?_ | refine qsl ?_ | refine qsg ?_ | refine qsf ?_ | refine qsd ?_ | refine qsE ?_ | refine qsX ?_ | refine qse ?_ | refine qsx ?_ | refine qso ?_ | refine cg_cond_true rfl ?_ | refine cg_cond_false rfl ?_ | refine cg_skip ?_ | refine cg_block ?_ | refine eg_in_normal ?_ | refine cg_ret ?_ | refine eg_then_ret ?_ | refine eg_in_ret ?_ | refine cg_exit ?_ | refine eg_then_exit ?_ | refine eg_in_exit ?_ | refine eg_in_other rfl ?_)
    refine eg_return rfl rfl ?_
    rw [hc, if_pos ⟨q1, q2⟩]
  · have hjl : j = bs.length := by simp at h; omega
    repeat (first | refine cg_seq ?_ | refine cg_region ?_ | refine rg_nil ?_ | refine eg_then ?_ | refine qsp ?_ | refine qsn ?_ | refine qsa ?_ | refine qss ?_ | refine qsi ?_ | refine qsz ?_ | refine qsl ?_ | refine qsg ?_ | refine qsf ?_ | refine qsd ?_ | refine qsE ?_ | refine qsX ?_ | refine qse ?_ | refine qsx ?_ | refine qso ?_ | refine cg_cond_true rfl ?_ | refine cg_cond_false rfl ?_ | refine cg_skip ?_ | refine cg_block ?_ | refine eg_in_normal ?_ | refine cg_ret ?_ | refine eg_then_ret ?_ | refine eg_in_ret ?_ | refine cg_exit ?_ | refine eg_then_exit ?_ | refine eg_in_exit ?_ | refine eg_in_other rfl ?_)
    refine eg_return rfl rfl ?_
    rw [hinv, hjl, List.drop_length]; rfl
end Go.Wm

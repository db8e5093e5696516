/-
  Whether transactions may be, the program's. Conditions: that what is handed in reads as data.
-/
import Derived.Test.YtjonlpdnhbnmmaaA9
set_option linter.all false
namespace Go.Wm
open Go.RowKit Go.Proofs
attribute [local irreducible] RG CG EG WA Loc Det Alc CT Exit.then Exit.inBlock Code.wp bodyPost

theorem cmpInt_ge (a b : Int) : decide (cmpInt a b ≥ 0) = !decide (a < b) := by
  rcases cmpInt_cases a b with ⟨h, h2⟩ | ⟨h, h2⟩ | ⟨h, h2⟩
  · rw [h]; simp [h2]
  · rw [h]; simp; omega
  · rw [h]; simp; omega

set_option maxHeartbeats 2000000 in
theorem txCheck_ct {k : PH} {t : Tx} {a0 : Option Addr} {c0 : Nat} {a1 : Option Addr} {c1 : Nat} {a2 : Option Addr} {c2 : Nat} (ht : TxAt k t a0 c0 a1 c1 a2 c2) (hg : t.gone.length ≤ 1000000) (hdn : t.done.length ≤ 1000000) :
    CT Try.prog 41 #[.agg (t.cs a0 c0 a1 c1 a2 c2).toArray] k (fun _ v => v = errOf (txP t) 1) := by
  refine ct_of_body (l := [_]) Try.func41 rfl Try.ntmps41 (by simp) (fun _ _ _ _ h => h) fun F hF0 hFm => ?_
  have b1 := ht.o.cap; have b2 := ht.o.max; unfold maxLen at b2
  repeat (first | refine cg_seq ?_ | refine cg_region ?_ | refine rg_nil ?_ | refine eg_then ?_ | refine qsp ?_ | refine qsn ?_ | refine qsa ?_ | refine qss ?_ | refine qsi ?_ | refine qsz ?_ | refine qsl ?_ | refine qsg ?_ | refine qsf ?_ | refine qsd ?_ | refine qsE ?_ | refine qsX ?_ | refine qse ?_ | refine qsx ?_ | refine qso ?_ | refine cg_cond_true rfl ?_ | refine cg_cond_false rfl ?_ | refine cg_skip ?_ | refine cg_block ?_ | refine eg_in_normal ?_ | refine cg_ret ?_ | refine eg_then_ret ?_ | refine eg_in_ret ?_ | refine cg_exit ?_ | refine eg_then_exit ?_ | refine eg_in_exit ?_ | refine eg_in_other rfl ?_)
  refine rb rfl rfl rfl rfl (a_box rfl rfl) ?_; intro b1 k1 hb1 hN1 hle1 hk1
  have cc := cells_at (vs := t.cs a0 c0 a1 c1 a2 c2) hk1 rfl
  have ht := ht.le hle1
  obtain ⟨z0, z1, z2⟩ := Tx.parts cc
  repeat (first | refine cg_seq ?_ | refine cg_region ?_ | refine rg_nil ?_ | refine eg_then ?_ | refine qsp ?_ | refine qsn ?_ | refine qsa ?_ | refine qss ?_ | refine qsi ?_ | refine qsz ?_ | refine qsl ?_ | refine qsg ?_ | refine qsf ?_ | refine qsd ?_ | refine qsE ?_ | refine qsX ?_ | refine qse ?_ | refine qsx ?_ | refine qso ?_ | refine cg_cond_true rfl ?_ | refine cg_cond_false rfl ?_ | refine cg_skip ?_ | refine cg_block ?_ | refine eg_in_normal ?_ | refine cg_ret ?_ | refine eg_then_ret ?_ | refine eg_in_ret ?_ | refine cg_exit ?_ | refine eg_then_exit ?_ | refine eg_in_exit ?_ | refine eg_in_other rfl ?_)
  refine cg_loop (fun (i : Nat) e k' => Le k1 k' ∧ i ≤ t.openV.length ∧ (∀ j, (h : j < t.openV.length) → j < i → (inO t.openV[j].pid && inO t.openV[j].first) = true ∧ (0 < j → t.openV[j - 1].pid < t.openV[j].pid)) ∧ e = [(1, .is (.pointer (some ⟨b1, 0, none⟩))), (8, .is (.slice a0 t.openV.length c0)), (9, .is (.int .i64 (t.openV.length : Int))), (10, .is (.int .i64 (i : Int)))])
    (fun i => t.openV.length - i) 0 ⟨Le.refl _, Nat.zero_le _, fun j _ hj => by omega, rfl⟩ ⟨rfl, rfl, rfl, rfl, trivial⟩ ?_
  rintro i e k' ⟨hle, hi, hno, rfl⟩
  repeat (first | refine cg_seq ?_ | refine cg_region ?_ | refine rg_nil ?_ | refine eg_then ?_ | refine qsp ?_ | refine qsn ?_ | refine qsa ?_ | refine qss ?_ | refine qsi ?_ | refine qsz ?_ | refine qsl ?_ | refine qsg ?_ | refine qsf ?_ | refine qsd ?_ | refine qsE ?_ | refine qsX ?_ | refine qse ?_ | refine qsx ?_ | refine qso ?_ | refine cg_cond_true rfl ?_ | refine cg_cond_false rfl ?_ | refine cg_skip ?_ | refine cg_block ?_ | refine eg_in_normal ?_ | refine cg_ret ?_ | refine eg_then_ret ?_ | refine eg_in_ret ?_ | refine cg_exit ?_ | refine eg_then_exit ?_ | refine eg_in_exit ?_ | refine eg_in_other rfl ?_)
  refine cg_cond rfl (fun h => ?_) (fun h => ?_)
  · have hlt : i < t.openV.length := by simpa using h
    obtain ⟨bx, ox, cx, rfl, ⟨rfl, hok⟩, hcx⟩ := ht.o.el i t.openV[i] (List.getElem?_eq_getElem hlt)
    have hcx1 := hcx.le hle
    have bad : ¬ ((inO t.openV[i].pid && inO t.openV[i].first) = true ∧ (0 < i → t.openV[i - 1].pid < t.openV[i].pid)) → Value.int .i64 1 = errOf (txP t) 1 := fun hb => by
      have : ¬ Opens t.openV := fun ha => hb (ha i hlt)
      simp [errOf, txP, this]
    repeat (first | refine cg_seq ?_ | refine cg_region ?_ | refine rg_nil ?_ | refine eg_then ?_ | refine qsp ?_ | refine qsn ?_ | refine qsa ?_ | refine qss ?_ | refine qsi ?_ | refine qsz ?_ | refine qsl ?_ | refine qsg ?_ | refine qsf ?_ | refine qsd ?_ | refine qsE ?_ | refine qsX ?_ | refine qse ?_ | refine qsx ?_ | refine qso ?_ | refine cg_cond_true rfl ?_ | refine cg_cond_false rfl ?_ | refine cg_skip ?_ | refine cg_block ?_ | refine eg_in_normal ?_ | refine cg_ret ?_ | refine eg_then_ret ?_ | refine eg_in_ret ?_ | refine cg_exit ?_ | refine eg_then_exit ?_ | refine eg_in_exit ?_ | refine eg_in_other rfl ?_)
    refine rb rfl rfl rfl rfl (a_alloc rfl) ?_; intro b7 k7 hb7 hN7 hle7 hk7
    repeat (first | refine cg_seq ?_ | refine cg_region ?_ | refine rg_nil ?_ | refine eg_then ?_ | refine qsp ?_ | refine qsn ?_ | refine qsa ?_ | refine qss ?_ | refine qsi ?_ | refine qsz ?_ | refine qsl ?_ | refine qsg ?_ | refine qsf ?_ | refine qsd ?_ | refine qsE ?_ | refine qsX ?_ | refine qse ?_ | refine qsx ?_ | refine qso ?_ | refine cg_cond_true rfl ?_ | refine cg_cond_false rfl ?_ | refine cg_skip ?_ | refine cg_block ?_ | refine eg_in_normal ?_ | refine cg_ret ?_ | refine eg_then_ret ?_ | refine eg_in_ret ?_ | refine cg_exit ?_ | refine eg_then_exit ?_ | refine eg_in_exit ?_ | refine eg_in_other rfl ?_)
    refine rw1 rfl rfl rfl rfl rfl rfl rfl hk7 rfl (.inl hN7) ?_ ?_; (simp [Tp.vs, Mark.vs, OpenT.vs, Gone.vs, Tx.cs, View.cs, Rec.vs, Batch.cs, Who.vs, Pl.vs, Value.oneCell']); intro k8 ht8 hk8
    have c8 := cells_at (vs := t.openV[i].vs) hk8 rfl
    have hle8 : Le k' k8 := ht8 k' hle7 hb7
    have hl8 := hle.trans hle8
    have cc8 := cc.le hl8
    obtain ⟨p0, p1⟩ := OpenT.parts c8
    obtain ⟨z0, z1, z2⟩ := Tx.parts cc8
    repeat (first | refine cg_seq ?_ | refine cg_region ?_ | refine rg_nil ?_ | refine eg_then ?_ | refine qsp ?_ | refine qsn ?_ | refine qsa ?_ | refine qss ?_ | refine qsi ?_ | refine qsz ?_ | refine qsl ?_ | refine qsg ?_ | refine qsf ?_ | refine qsd ?_ | refine qsE ?_ | refine qsX ?_ | refine qse ?_ | refine qsx ?_ | refine qso ?_ | refine cg_cond_true rfl ?_ | refine cg_cond_false rfl ?_ | refine cg_skip ?_ | refine cg_block ?_ | refine eg_in_normal ?_ | refine cg_ret ?_ | refine eg_then_ret ?_ | refine eg_in_ret ?_ | refine cg_exit ?_ | refine eg_then_exit ?_ | refine eg_in_exit ?_ | refine eg_in_other rfl ?_)
    refine cg_any (by kernel_rfl) rfl ?_
    repeat (first | refine qwp ?_ | refine qwn ?_ | refine qwa ?_ | refine qws ?_ | refine qwi ?_ | refine qwz ?_ | refine qwl ?_ | refine qwg ?_ | refine qwf ?_ | refine qwd ?_ | refine qwE ?_ | refine qwX ?_ | refine qwe ?_ | refine qwx ?_ | refine qwo ?_ | (refine wn rfl ?_; refine eg_then ?_))
    refine ws rfl (loc_call_is rfl rfl rfl rfl (beyond_ct t.openV[i].pid)) ?_
    repeat (first | refine qwp ?_ | refine qwn ?_ | refine qwa ?_ | refine qws ?_ | refine qwi ?_ | refine qwz ?_ | refine qwl ?_ | refine qwg ?_ | refine qwf ?_ | refine qwd ?_ | refine qwE ?_ | refine qwX ?_ | refine qwe ?_ | refine qwx ?_ | refine qwo ?_ | (refine wn rfl ?_; refine eg_then ?_))
    cases q1 : inO t.openV[i].pid
    · repeat (first | refine qwp ?_ | refine qwn ?_ | refine qwa ?_ | refine qws ?_ | refine qwi ?_ | refine qwz ?_ | refine qwl ?_ | refine qwg ?_ | refine qwf ?_ | refine qwd ?_ | refine qwE ?_ | refine qwX ?_ | refine qwe ?_ | refine qwx ?_ | refine qwo ?_ | (refine wn rfl ?_; refine eg_then ?_))
      repeat (first | refine cg_seq ?_ | refine cg_region ?_ | refine rg_nil ?_ | refine eg_then ?_ | refine qsp ?_ | refine qsn ?_ | refine qsa ?_ | refine qss ?_ | refine qsi ?_ | refine qsz ?_ | refine qsl ?_ | refine qsg ?_ | refine qsf ?_ | refine qsd ?_ | refine qsE ?_ | refine qsX ?_ | refine qse ?_ | refine qsx ?_ | refine qso ?_ | refine cg_cond_true rfl ?_ | refine cg_cond_false rfl ?_ | refine cg_skip ?_ | refine cg_block ?_ | refine eg_in_normal ?_ | refine cg_ret ?_ | refine eg_then_ret ?_ | refine eg_in_ret ?_ | refine cg_exit ?_ | refine eg_then_exit ?_ | refine eg_in_exit ?_ | refine eg_in_other rfl ?_)
      exact eg_return rfl rfl (bad (by simp [q1]))
    repeat (first | refine qwp ?_ | refine qwn ?_ | refine qwa ?_ | refine qws ?_ | refine qwi ?_ | refine qwz ?_ | refine qwl ?_ | refine qwg ?_ | refine qwf ?_ | refine qwd ?_ | refine qwE ?_ | refine qwX ?_ | refine qwe ?_ | refine qwx ?_ | refine qwo ?_ | (refine wn rfl ?_; refine eg_then ?_))
    refine ws rfl (loc_call_is rfl rfl rfl rfl (beyond_ct t.openV[i].first)) ?_
    repeat (first | refine qwp ?_ | refine qwn ?_ | refine qwa ?_ | refine qws ?_ | refine qwi ?_ | refine qwz ?_ | refine qwl ?_ | refine qwg ?_ | refine qwf ?_ | refine qwd ?_ | refine qwE ?_ | refine qwX ?_ | refine qwe ?_ | refine qwx ?_ | refine qwo ?_ | (refine wn rfl ?_; refine eg_then ?_))
    cases q2 : inO t.openV[i].first
    · repeat (first | refine qwp ?_ | refine qwn ?_ | refine qwa ?_ | refine qws ?_ | refine qwi ?_ | refine qwz ?_ | refine qwl ?_ | refine qwg ?_ | refine qwf ?_ | refine qwd ?_ | refine qwE ?_ | refine qwX ?_ | refine qwe ?_ | refine qwx ?_ | refine qwo ?_ | (refine wn rfl ?_; refine eg_then ?_))
      repeat (first | refine cg_seq ?_ | refine cg_region ?_ | refine rg_nil ?_ | refine eg_then ?_ | refine qsp ?_ | refine qsn ?_ | refine qsa ?_ | refine qss ?_ | refine qsi ?_ | refine qsz ?_ | refine qsl ?_ | refine qsg ?_ | refine qsf ?_ | refine qsd ?_ | refine qsE ?_ | refine qsX ?_ | refine qse ?_ | refine qsx ?_ | refine qso ?_ | refine cg_cond_true rfl ?_ | refine cg_cond_false rfl ?_ | refine cg_skip ?_ | refine cg_block ?_ | refine eg_in_normal ?_ | refine cg_ret ?_ | refine eg_then_ret ?_ | refine eg_in_ret ?_ | refine cg_exit ?_ | refine eg_then_exit ?_ | refine eg_in_exit ?_ | refine eg_in_other rfl ?_)
      exact eg_return rfl rfl (bad (by simp [q2]))
    repeat (first | refine qwp ?_ | refine qwn ?_ | refine qwa ?_ | refine qws ?_ | refine qwi ?_ | refine qwz ?_ | refine qwl ?_ | refine qwg ?_ | refine qwf ?_ | refine qwd ?_ | refine qwE ?_ | refine qwX ?_ | refine qwe ?_ | refine qwx ?_ | refine qwo ?_ | (refine wn rfl ?_; refine eg_then ?_))
    cases q7 : decide ((i : Int) > 0)
    · repeat (first | refine qwp ?_ | refine qwn ?_ | refine qwa ?_ | refine qws ?_ | refine qwi ?_ | refine qwz ?_ | refine qwl ?_ | refine qwg ?_ | refine qwf ?_ | refine qwd ?_ | refine qwE ?_ | refine qwX ?_ | refine qwe ?_ | refine qwx ?_ | refine qwo ?_ | (refine wn rfl ?_; refine eg_then ?_))
      repeat (first | refine cg_seq ?_ | refine cg_region ?_ | refine rg_nil ?_ | refine eg_then ?_ | refine qsp ?_ | refine qsn ?_ | refine qsa ?_ | refine qss ?_ | refine qsi ?_ | refine qsz ?_ | refine qsl ?_ | refine qsg ?_ | refine qsf ?_ | refine qsd ?_ | refine qsE ?_ | refine qsX ?_ | refine qse ?_ | refine qsx ?_ | refine qso ?_ | refine cg_cond_true rfl ?_ | refine cg_cond_false rfl ?_ | refine cg_skip ?_ | refine cg_block ?_ | refine eg_in_normal ?_ | refine cg_ret ?_ | refine eg_then_ret ?_ | refine eg_in_ret ?_ | refine cg_exit ?_ | refine eg_then_exit ?_ | refine eg_in_exit ?_ | refine eg_in_other rfl ?_)
      refine eg_again (i + 1) _ ⟨hl8, hlt, fun j hj hji => ?_, rfl⟩ (by omega) ⟨rfl, rfl, rfl, rfl, trivial⟩
      have : i = 0 := by simp at q7; omega
      have : j = 0 := by omega
      subst this; subst i
      exact ⟨by simp [q1, q2], by omega⟩
    have hi0 : 0 < i := by simp at q7; omega
    have hlt' : i - 1 < t.openV.length := by omega
    obtain ⟨by', oy, cy, ey, ⟨rfl, hok'⟩, hcy⟩ := ht.o.el (i - 1) t.openV[i - 1] (List.getElem?_eq_getElem hlt')
    cases ey
    have hcy1 := hcy.le hl8
    have hsub : ((i - 1 : Nat) : Int) = (i : Int) - 1 := by omega
    repeat (first | refine qwp ?_ | refine qwn ?_ | refine qwa ?_ | refine qws ?_ | refine qwi ?_ | refine qwz ?_ | refine qwl ?_ | refine qwg ?_ | refine qwf ?_ | refine qwd ?_ | refine qwE ?_ | refine qwX ?_ | refine qwe ?_ | refine qwx ?_ | refine qwo ?_ | (refine wn rfl ?_; refine eg_then ?_))
    rw [← hsub]
    repeat (first | refine qwp ?_ | refine qwn ?_ | refine qwa ?_ | refine qws ?_ | refine qwi ?_ | refine qwz ?_ | refine qwl ?_ | refine qwg ?_ | refine qwf ?_ | refine qwd ?_ | refine qwE ?_ | refine qwX ?_ | refine qwe ?_ | refine qwx ?_ | refine qwo ?_ | (refine wn rfl ?_; refine eg_then ?_))
    refine ws rfl (loc_call_is rfl rfl rfl rfl (txOrder_ct t.openV[i - 1] t.openV[i].pid)) ?_
    repeat (first | refine qwp ?_ | refine qwn ?_ | refine qwa ?_ | refine qws ?_ | refine qwi ?_ | refine qwz ?_ | refine qwl ?_ | refine qwg ?_ | refine qwf ?_ | refine qwd ?_ | refine qwE ?_ | refine qwX ?_ | refine qwe ?_ | refine qwx ?_ | refine qwo ?_ | (refine wn rfl ?_; refine eg_then ?_))
    rw [cmpInt_ge]
    repeat (first | refine qwp ?_ | refine qwn ?_ | refine qwa ?_ | refine qws ?_ | refine qwi ?_ | refine qwz ?_ | refine qwl ?_ | refine qwg ?_ | refine qwf ?_ | refine qwd ?_ | refine qwE ?_ | refine qwX ?_ | refine qwe ?_ | refine qwx ?_ | refine qwo ?_ | (refine wn rfl ?_; refine eg_then ?_))
    cases q8 : decide (t.openV[i - 1].pid < t.openV[i].pid)
    · repeat (first | refine qwp ?_ | refine qwn ?_ | refine qwa ?_ | refine qws ?_ | refine qwi ?_ | refine qwz ?_ | refine qwl ?_ | refine qwg ?_ | refine qwf ?_ | refine qwd ?_ | refine qwE ?_ | refine qwX ?_ | refine qwe ?_ | refine qwx ?_ | refine qwo ?_ | (refine wn rfl ?_; refine eg_then ?_))
      repeat (first | refine cg_seq ?_ | refine cg_region ?_ | refine rg_nil ?_ | refine eg_then ?_ | refine qsp ?_ | refine qsn ?_ | refine qsa ?_ | refine qss ?_ | refine qsi ?_ | refine qsz ?_ | refine qsl ?_ | refine qsg ?_ | refine qsf ?_ | refine qsd ?_ | refine qsE ?_ | refine qsX ?_ | refine qse ?_ | refine qsx ?_ | refine qso ?_ | refine cg_cond_true rfl ?_ | refine cg_cond_false rfl ?_ | refine cg_skip ?_ | refine cg_block ?_ | refine eg_in_normal ?_ | refine cg_ret ?_ | refine eg_then_ret ?_ | refine eg_in_ret ?_ | refine cg_exit ?_ | refine eg_then_exit ?_ | refine eg_in_exit ?_ | refine eg_in_other rfl ?_)
      exact eg_return rfl rfl (bad (by rintro ⟨_, h3⟩; have := h3 hi0; simp at q8; omega))
    · repeat (first | refine qwp ?_ | refine qwn ?_ | refine qwa ?_ | refine qws ?_ | refine qwi ?_ | refine qwz ?_ | refine qwl ?_ | refine qwg ?_ | refine qwf ?_ | refine qwd ?_ | refine qwE ?_ | refine qwX ?_ | refine qwe ?_ | refine qwx ?_ | refine qwo ?_ | (refine wn rfl ?_; refine eg_then ?_))
      repeat (first | refine cg_seq ?_ | refine cg_region ?_ | refine rg_nil ?_ | refine eg_then ?_ | refine qsp ?_ | refine qsn ?_ | refine qsa ?_ | refine qss ?_ | refine qsi ?_ | refine qsz ?_ | refine qsl ?_ | refine qsg ?_ | refine qsf ?_ | refine qsd ?_ | refine qsE ?_ | refine qsX ?_ | refine qse ?_ | refine qsx ?_ | refine qso ?_ | refine cg_cond_true rfl ?_ | refine cg_cond_false rfl ?_ | refine cg_skip ?_ | refine cg_block ?_ | refine eg_in_normal ?_ | refine cg_ret ?_ | refine eg_then_ret ?_ | refine eg_in_ret ?_ | refine cg_exit ?_ | refine eg_then_exit ?_ | refine eg_in_exit ?_ | refine eg_in_other rfl ?_)
      refine eg_again (i + 1) _ ⟨hl8, hlt, fun j hj hji => ?_, rfl⟩ (by omega) ⟨rfl, rfl, rfl, rfl, trivial⟩
      by_cases e : j = i
      · subst e
        exact ⟨by simp [q1, q2], fun _ => by simp at q8; omega⟩
      · exact hno j hj (by omega)
  · have hin : i = t.openV.length := by simp at h; omega
    have hop : Opens t.openV := fun j hj => hno j hj (by omega)
    have hd : txP t = (decide (Ended t.gone) && decide (Ended t.done)) := by unfold txP; rw [decide_eq_true hop, Bool.true_and]
    have cc8 := cc.le hle
    obtain ⟨z0, z1, z2⟩ := Tx.parts cc8
    repeat (first | refine cg_seq ?_ | refine cg_region ?_ | refine rg_nil ?_ | refine eg_then ?_ | refine qsp ?_ | refine qsn ?_ | refine qsa ?_ | refine qss ?_ | refine qsi ?_ | refine qsz ?_ | refine qsl ?_ | refine qsg ?_ | refine qsf ?_ | refine qsd ?_ | refine qsE ?_ | refine qsX ?_ | refine qse ?_ | refine qsx ?_ | refine qso ?_ | refine cg_cond_true rfl ?_ | refine cg_cond_false rfl ?_ | refine cg_skip ?_ | refine cg_block ?_ | refine eg_in_normal ?_ | refine cg_ret ?_ | refine eg_then_ret ?_ | refine eg_in_ret ?_ | refine cg_exit ?_ | refine eg_then_exit ?_ | refine eg_in_exit ?_ | refine eg_in_other rfl ?_)
    refine rb rfl rfl rfl rfl (a_slice (cells := [.slice a1 t.gone.length c1, .slice a2 t.done.length c2]) rfl rfl rfl rfl (by kernel_rfl) rfl) ?_; intro b11 k11 hb11 hN11 hle11 hk11
    have hl11 := hle.trans hle11
    have hL : Sl (tSl tGone) k11 (some ⟨b11, 0, none⟩) 2 [t.gone, t.done] := sl_rows (T := tSl tGone) (xs := [t.gone, t.done]) (css := [[.slice a1 t.gone.length c1], [.slice a2 t.done.length c2]]) hk11 rfl rfl (fun i cs x h1 h2 => by
      rcases i with _ | _ | i <;> simp at h1 h2
      · subst h1; subst h2
        exact ⟨a1, c1, rfl, ht.g.le hl11⟩
      · subst h1; subst h2
        exact ⟨a2, c2, rfl, ht.d.le hl11⟩) (by simp [maxLen])
    repeat (first | refine cg_seq ?_ | refine cg_region ?_ | refine rg_nil ?_ | refine eg_then ?_ | refine qsp ?_ | refine qsn ?_ | refine qsa ?_ | refine qss ?_ | refine qsi ?_ | refine qsz ?_ | refine qsl ?_ | refine qsg ?_ | refine qsf ?_ | refine qsd ?_ | refine qsE ?_ | refine qsX ?_ | refine qse ?_ | refine qsx ?_ | refine qso ?_ | refine cg_cond_true rfl ?_ | refine cg_cond_false rfl ?_ | refine cg_skip ?_ | refine cg_block ?_ | refine eg_in_normal ?_ | refine cg_ret ?_ | refine eg_then_ret ?_ | refine eg_in_ret ?_ | refine cg_exit ?_ | refine eg_then_exit ?_ | refine eg_in_exit ?_ | refine eg_in_other rfl ?_)
    refine cg_loop (fun (i : Nat) e k' => Le k11 k' ∧ i ≤ 2 ∧ (∀ j, (h : j < [t.gone, t.done].length) → j < i → Ended [t.gone, t.done][j]) ∧ e = [(44, .is (.slice (some ⟨b11, 0, none⟩) 2 2)), (45, .is (.int .i64 2)), (46, .is (.int .i64 (i : Int)))])
      (fun i => 2 - i) 0 ⟨Le.refl _, Nat.zero_le _, fun j _ hj => by omega, rfl⟩ ⟨rfl, rfl, rfl, trivial⟩ ?_
    rintro i e k2 ⟨hle2, hi, hno, rfl⟩
    repeat (first | refine cg_seq ?_ | refine cg_region ?_ | refine rg_nil ?_ | refine eg_then ?_ | refine qsp ?_ | refine qsn ?_ | refine qsa ?_ | refine qss ?_ | refine qsi ?_ | refine qsz ?_ | refine qsl ?_ | refine qsg ?_ | refine qsf ?_ | refine qsd ?_ | refine qsE ?_ | refine qsX ?_ | refine qse ?_ | refine qsx ?_ | refine qso ?_ | refine cg_cond_true rfl ?_ | refine cg_cond_false rfl ?_ | refine cg_skip ?_ | refine cg_block ?_ | refine eg_in_normal ?_ | refine cg_ret ?_ | refine eg_then_ret ?_ | refine eg_in_ret ?_ | refine cg_exit ?_ | refine eg_then_exit ?_ | refine eg_in_exit ?_ | refine eg_in_other rfl ?_)
    refine cg_cond rfl (fun h => ?_) (fun h => ?_)
    · have hlt : i < 2 := by simp at h; omega
      have hli : i < [t.gone, t.done].length := by simpa using hlt
      obtain ⟨bx, ox, cx, ebx, ⟨al, cl, rfl, hsl⟩, hcx⟩ := (hL.le hle2).el i [t.gone, t.done][i] (List.getElem?_eq_getElem hli)
      cases ebx
      have hbl : [t.gone, t.done][i].length ≤ 1000000 := by
        have := List.getElem_mem hli
        simp only [List.mem_cons, List.not_mem_nil, or_false] at this
        rcases this with h | h <;> rw [h] <;> assumption
      have bad : ¬ Ended [t.gone, t.done][i] → Value.int .i64 1 = errOf (txP t) 1 := fun hb => by
        have : ¬ (Ended t.gone ∧ Ended t.done) := by
          rintro ⟨h1, h2⟩
          apply hb
          have := List.getElem_mem hli
          simp only [List.mem_cons, List.not_mem_nil, or_false] at this
          rcases this with h | h <;> rw [h] <;> assumption
        rw [hd]
        simp only [errOf, Bool.and_eq_true, decide_eq_true_eq]
        rw [if_neg this]
      obtain ⟨g, hgg⟩ : ∃ g, [t.gone, t.done][i] = g := ⟨_, rfl⟩
      rw [hgg] at hsl hcx hbl bad
      have hep := ended_prog g
      have hcall := containsFuncGone_ct hsl (g := 86) (cap := #[]) (fun g => !okGone g) (fun m hm cm hcm => by
        obtain ⟨rfl, _⟩ := hcm
        exact odd_ct m)
      repeat (first | refine cg_seq ?_ | refine cg_region ?_ | refine rg_nil ?_ | refine eg_then ?_ | refine qsp ?_ | refine qsn ?_ | refine qsa ?_ | refine qss ?_ | refine qsi ?_ | refine qsz ?_ | refine qsl ?_ | refine qsg ?_ | refine qsf ?_ | refine qsd ?_ | refine qsE ?_ | refine qsX ?_ | refine qse ?_ | refine qsx ?_ | refine qso ?_ | refine cg_cond_true rfl ?_ | refine cg_cond_false rfl ?_ | refine cg_skip ?_ | refine cg_block ?_ | refine eg_in_normal ?_ | refine cg_ret ?_ | refine eg_then_ret ?_ | refine eg_in_ret ?_ | refine cg_exit ?_ | refine eg_then_exit ?_ | refine eg_in_exit ?_ | refine eg_in_other rfl ?_)
      refine rs rfl rfl (loc_call_is rfl rfl rfl rfl (hcall)) ?_
      repeat (first | refine cg_seq ?_ | refine cg_region ?_ | refine rg_nil ?_ | refine eg_then ?_ | refine qsp ?_ | refine qsn ?_ | refine qsa ?_ | refine qss ?_ | refine qsi ?_ | refine qsz ?_ | refine qsl ?_ | refine qsg ?_ | refine qsf ?_ | refine qsd ?_ | refine qsE ?_ | refine qsX ?_ | refine qse ?_ | refine qsx ?_ | refine qso ?_ | refine cg_cond_true rfl ?_ | refine cg_cond_false rfl ?_ | refine cg_skip ?_ | refine cg_block ?_ | refine eg_in_normal ?_ | refine cg_ret ?_ | refine eg_then_ret ?_ | refine eg_in_ret ?_ | refine cg_exit ?_ | refine eg_then_exit ?_ | refine eg_in_exit ?_ | refine eg_in_other rfl ?_)
      cases q1 : g.any (fun g => !okGone g)
      rotate_left
      · repeat (first | refine cg_seq ?_ | refine cg_region ?_ | refine rg_nil ?_ | refine eg_then ?_ | refine qsp ?_ | refine qsn ?_ | refine qsa ?_ | refine qss ?_ | refine qsi ?_ | refine qsz ?_ | refine qsl ?_ | refine qsg ?_ | refine qsf ?_ | refine qsd ?_ | refine qsE ?_ | refine qsX ?_ | refine qse ?_ | refine qsx ?_ | refine qso ?_ | refine cg_cond_true rfl ?_ | refine cg_cond_false rfl ?_ | refine cg_skip ?_ | refine cg_block ?_ | refine eg_in_normal ?_ | refine cg_ret ?_ | refine eg_then_ret ?_ | refine eg_in_ret ?_ | refine cg_exit ?_ | refine eg_then_exit ?_ | refine eg_in_exit ?_ | refine eg_in_other rfl ?_)
        exact eg_return rfl rfl (bad (fun he => by rw [decide_eq_true he, q1] at hep; simp at hep))
      repeat (first | refine cg_seq ?_ | refine cg_region ?_ | refine rg_nil ?_ | refine eg_then ?_ | refine qsp ?_ | refine qsn ?_ | refine qsa ?_ | refine qss ?_ | refine qsi ?_ | refine qsz ?_ | refine qsl ?_ | refine qsg ?_ | refine qsf ?_ | refine qsd ?_ | refine qsE ?_ | refine qsX ?_ | refine qse ?_ | refine qsx ?_ | refine qso ?_ | refine cg_cond_true rfl ?_ | refine cg_cond_false rfl ?_ | refine cg_skip ?_ | refine cg_block ?_ | refine eg_in_normal ?_ | refine cg_ret ?_ | refine eg_then_ret ?_ | refine eg_in_ret ?_ | refine cg_exit ?_ | refine eg_then_exit ?_ | refine eg_in_exit ?_ | refine eg_in_other rfl ?_)
      refine rv rfl rfl rfl (loc_call rfl rfl rfl rfl (fun k k' v hle ⟨b, h1, h2⟩ => ⟨b, h1, h2.le hle⟩) (lasts_ct al g.length cl)) ?_
      rintro k3 hle3 _ ⟨Bs, rfl, hcb⟩
      repeat (first | refine cg_seq ?_ | refine cg_region ?_ | refine rg_nil ?_ | refine eg_then ?_ | refine qsp ?_ | refine qsn ?_ | refine qsa ?_ | refine qss ?_ | refine qsi ?_ | refine qsz ?_ | refine qsl ?_ | refine qsg ?_ | refine qsf ?_ | refine qsd ?_ | refine qsE ?_ | refine qsX ?_ | refine qse ?_ | refine qsx ?_ | refine qso ?_ | refine cg_cond_true rfl ?_ | refine cg_cond_false rfl ?_ | refine cg_skip ?_ | refine cg_block ?_ | refine eg_in_normal ?_ | refine cg_ret ?_ | refine eg_then_ret ?_ | refine eg_in_ret ?_ | refine cg_exit ?_ | refine eg_then_exit ?_ | refine eg_in_exit ?_ | refine eg_in_other rfl ?_)
      refine rs rfl rfl (loc_call_is rfl rfl rfl rfl (rises_ct (hsl.le hle3) hcb hbl)) ?_
      repeat (first | refine cg_seq ?_ | refine cg_region ?_ | refine rg_nil ?_ | refine eg_then ?_ | refine qsp ?_ | refine qsn ?_ | refine qsa ?_ | refine qss ?_ | refine qsi ?_ | refine qsz ?_ | refine qsl ?_ | refine qsg ?_ | refine qsf ?_ | refine qsd ?_ | refine qsE ?_ | refine qsX ?_ | refine qse ?_ | refine qsx ?_ | refine qso ?_ | refine cg_cond_true rfl ?_ | refine cg_cond_false rfl ?_ | refine cg_skip ?_ | refine cg_block ?_ | refine eg_in_normal ?_ | refine cg_ret ?_ | refine eg_then_ret ?_ | refine eg_in_ret ?_ | refine cg_exit ?_ | refine eg_then_exit ?_ | refine eg_in_exit ?_ | refine eg_in_other rfl ?_)
      rw [q1] at hep
      simp only [Bool.not_false, Bool.true_and] at hep
      rw [← hep]
      by_cases he : Ended g
      · rw [decide_eq_true he]
        repeat (first | refine cg_seq ?_ | refine cg_region ?_ | refine rg_nil ?_ | refine eg_then ?_ | refine qsp ?_ | refine qsn ?_ | refine qsa ?_ | refine qss ?_ | refine qsi ?_ | refine qsz ?_ | refine qsl ?_ | refine qsg ?_ | refine qsf ?_ | refine qsd ?_ | refine qsE ?_ | refine qsX ?_ | refine qse ?_ | refine qsx ?_ | refine qso ?_ | refine cg_cond_true rfl ?_ | refine cg_cond_false rfl ?_ | refine cg_skip ?_ | refine cg_block ?_ | refine eg_in_normal ?_ | refine cg_ret ?_ | refine eg_then_ret ?_ | refine eg_in_ret ?_ | refine cg_exit ?_ | refine eg_then_exit ?_ | refine eg_in_exit ?_ | refine eg_in_other rfl ?_)
        refine eg_again (i + 1) _ ⟨hle2.trans hle3, hlt, fun j hj hji => ?_, rfl⟩ (by omega) ⟨rfl, rfl, rfl, trivial⟩
        by_cases e : j = i
        · subst e
          rw [hgg]
          exact he
        · exact hno j hj (by omega)
      · rw [decide_eq_false he]
        repeat (first | refine cg_seq ?_ | refine cg_region ?_ | refine rg_nil ?_ | refine eg_then ?_ | refine qsp ?_ | refine qsn ?_ | refine qsa ?_ | refine qss ?_ | refine qsi ?_ | refine qsz ?_ | refine qsl ?_ | refine qsg ?_ | refine qsf ?_ | refine qsd ?_ | refine qsE ?_ | refine qsX ?_ | refine qse ?_ | refine qsx ?_ | refine qso ?_ | refine cg_cond_true rfl ?_ | refine cg_cond_false rfl ?_ | refine cg_skip ?_ | refine cg_block ?_ | refine eg_in_normal ?_ | refine cg_ret ?_ | refine eg_then_ret ?_ | refine eg_in_ret ?_ | refine cg_exit ?_ | refine eg_then_exit ?_ | refine eg_in_exit ?_ | refine eg_in_other rfl ?_)
        exact eg_return rfl rfl (bad he)
    · have hi2 : i = 2 := by simp at h; omega
      subst hi2
      have e1 : Ended t.gone := hno 0 (by simp) (by omega)
      have e2 : Ended t.done := hno 1 (by simp) (by omega)
      repeat (first | refine cg_seq ?_ | refine cg_region ?_ | refine rg_nil ?_ | refine eg_then ?_ | refine qsp ?_ | refine qsn ?_ | refine qsa ?_ | refine qss ?_ | refine qsi ?_ | refine qsz ?_ | refine qsl ?_ | refine qsg ?_ | refine qsf ?_ | refine qsd ?_ | refine qsE ?_ | refine qsX ?_ | refine qse ?_ | refine qsx ?_ | refine qso ?_ | refine cg_cond_true rfl ?_ | refine cg_cond_false rfl ?_ | refine cg_skip ?_ | refine cg_block ?_ | refine eg_in_normal ?_ | refine cg_ret ?_ | refine eg_then_ret ?_ | refine eg_in_ret ?_ | refine cg_exit ?_ | refine eg_then_exit ?_ | refine eg_in_exit ?_ | refine eg_in_other rfl ?_)
      refine eg_return rfl rfl ?_
      simp [hd, e1, e2, errOf]
end Go.Wm

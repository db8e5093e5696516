/-
  Whether a cut is whole, the program's. Conditions: that what is handed in reads as data.
-/
import Derived.Test.YtjonlpdnhbnmmaaA14
import Derived.Test.YtjonlpdnhbnmmaaR10
set_option linter.all false
namespace Go.Wm
open Go.RowKit Go.Proofs
attribute [local irreducible] RG CG EG WA Loc Det Alc CT Exit.then Exit.inBlock Code.wp bodyPost

theorem Row.shape {N : Nat} {k : PH} {et sz : Nat} {v : Value} {m : Nat} {xs : List Value} (h : Row N k et sz v m xs) : ∃ a n c, v = .slice a n c := by
  rcases h.2 with ⟨rfl, _⟩ | ⟨g, cap, cur, rfl, _⟩
  · exact ⟨_, _, _, rfl⟩
  · exact ⟨_, _, _, rfl⟩
theorem curR_succ {cut : List Mark} {i : Nat} (h : i < cut.length) : curR ((offs cut).take (i + 1)) = curR ((offs cut).take i) ++ [.int .i64 cut[i].off] := by
  have : (offs cut).take (i + 1) = (offs cut).take i ++ [cut[i].off] := by
    rw [List.take_succ_eq_append_getElem (by simp [offs]; omega)]
    simp [offs]
  rw [this, curR_eq, List.flatMap_append, ← curR_eq]
  rfl

set_option maxHeartbeats 2000000 in
theorem whole_ct {k : PH} {a b : Option Addr} {c d : Nat} {l : List View} {cut : List Mark} (hl : Sl tView k a c l) (hc : Sl tMark k b d cut) (hb : l.length ≤ 1000000) (hsmall : SmallV l) :
    CT Try.prog 24 #[.slice a l.length c, .slice b cut.length d] k (fun _ v => v = .bool (wholeB l cut)) := by
  refine ct_of_body (l := [_, _]) Try.func24 rfl Try.ntmps24 (by simp) (fun _ _ _ _ h => h) fun F hF0 hFm => ?_
  have b1 := hl.cap; have b2 := hl.max; unfold maxLen at b2
  have e1 := hc.cap; have e2 := hc.max; unfold maxLen at e2
  have hsl : (stableL l).length = l.length := by simp [stableL]
  have hsI := stableL_I64 hl
  repeat (first | refine cg_seq ?_ | refine cg_region ?_ | refine rg_nil ?_ | refine eg_then ?_ | refine qsp ?_ | refine qsn ?_ | refine qsa ?_ | refine qss ?_ | refine qsi ?_ | refine qsz ?_ | refine qsl ?_ | refine qsg ?_ | refine qsf ?_ | refine qsd ?_ | refine qsE ?_ | refine qsX ?_ | refine qse ?_ | refine qsx ?_ | refine qso ?_ | refine cg_cond_true rfl ?_ | refine cg_cond_false rfl ?_ | refine cg_skip ?_ | refine cg_block ?_ | refine eg_in_normal ?_ | refine cg_ret ?_ | refine eg_then_ret ?_ | refine eg_in_ret ?_ | refine cg_exit ?_ | refine eg_then_exit ?_ | refine eg_in_exit ?_ | refine eg_in_other rfl ?_)
  refine rs rfl rfl (loc_call_is rfl rfl rfl rfl (may_ct hl hsmall)) ?_
  repeat (first | refine cg_seq ?_ | refine cg_region ?_ | refine rg_nil ?_ | refine eg_then ?_ | refine qsp ?_ | refine qsn ?_ | refine qsa ?_ | refine qss ?_ | refine qsi ?_ | refine qsz ?_ | refine qsl ?_ | refine qsg ?_ | refine qsf ?_ | refine qsd ?_ | refine qsE ?_ | refine qsX ?_ | refine qse ?_ | refine qsx ?_ | refine qso ?_ | refine cg_cond_true rfl ?_ | refine cg_cond_false rfl ?_ | refine cg_skip ?_ | refine cg_block ?_ | refine eg_in_normal ?_ | refine cg_ret ?_ | refine eg_then_ret ?_ | refine eg_in_ret ?_ | refine cg_exit ?_ | refine eg_then_exit ?_ | refine eg_in_exit ?_ | refine eg_in_other rfl ?_)
  by_cases hmay : MayV l
  rotate_left
  · rw [decide_eq_false hmay]
    repeat (first | refine cg_seq ?_ | refine cg_region ?_ | refine rg_nil ?_ | refine eg_then ?_ | refine qsp ?_ | refine qsn ?_ | refine qsa ?_ | refine qss ?_ | refine qsi ?_ | refine qsz ?_ | refine qsl ?_ | refine qsg ?_ | refine qsf ?_ | refine qsd ?_ | refine qsE ?_ | refine qsX ?_ | refine qse ?_ | refine qsx ?_ | refine qso ?_ | refine cg_cond_true rfl ?_ | refine cg_cond_false rfl ?_ | refine cg_skip ?_ | refine cg_block ?_ | refine eg_in_normal ?_ | refine cg_ret ?_ | refine eg_then_ret ?_ | refine eg_in_ret ?_ | refine cg_exit ?_ | refine eg_then_exit ?_ | refine eg_in_exit ?_ | refine eg_in_other rfl ?_)
    refine eg_return rfl rfl ?_
    simp [wholeB, hmay]
  rw [decide_eq_true hmay]
  repeat (first | refine cg_seq ?_ | refine cg_region ?_ | refine rg_nil ?_ | refine eg_then ?_ | refine qsp ?_ | refine qsn ?_ | refine qsa ?_ | refine qss ?_ | refine qsi ?_ | refine qsz ?_ | refine qsl ?_ | refine qsg ?_ | refine qsf ?_ | refine qsd ?_ | refine qsE ?_ | refine qsX ?_ | refine qse ?_ | refine qsx ?_ | refine qso ?_ | refine cg_cond_true rfl ?_ | refine cg_cond_false rfl ?_ | refine cg_skip ?_ | refine cg_block ?_ | refine eg_in_normal ?_ | refine cg_ret ?_ | refine eg_then_ret ?_ | refine eg_in_ret ?_ | refine cg_exit ?_ | refine eg_then_exit ?_ | refine eg_in_exit ?_ | refine eg_in_other rfl ?_)
  refine cg_cond rfl (fun h => ?_) (fun h => ?_)
  · repeat (first | refine cg_seq ?_ | refine cg_region ?_ | refine rg_nil ?_ | refine eg_then ?_ | refine qsp ?_ | refine qsn ?_ | refine qsa ?_ | refine qss ?_ | refine qsi ?_ | refine qsz ?_ | refine qsl ?_ | refine qsg ?_ | refine qsf ?_ | refine qsd ?_ | refine qsE ?_ | refine qsX ?_ | refine qse ?_ | refine qsx ?_ | refine qso ?_ | refine cg_cond_true rfl ?_ | refine cg_cond_false rfl ?_ | refine cg_skip ?_ | refine cg_block ?_ | refine eg_in_normal ?_ | refine cg_ret ?_ | refine eg_then_ret ?_ | refine eg_in_ret ?_ | refine cg_exit ?_ | refine eg_then_exit ?_ | refine eg_in_exit ?_ | refine eg_in_other rfl ?_)
    refine eg_return rfl rfl ?_
    have : ¬ cut.length = l.length := by simp at h; omega
    simp [wholeB, this]
  have hlen : cut.length = l.length := by simp at h; omega
  repeat (first | refine cg_seq ?_ | refine cg_region ?_ | refine rg_nil ?_ | refine eg_then ?_ | refine qsp ?_ | refine qsn ?_ | refine qsa ?_ | refine qss ?_ | refine qsi ?_ | refine qsz ?_ | refine qsl ?_ | refine qsg ?_ | refine qsf ?_ | refine qsd ?_ | refine qsE ?_ | refine qsX ?_ | refine qse ?_ | refine qsx ?_ | refine qso ?_ | refine cg_cond_true rfl ?_ | refine cg_cond_false rfl ?_ | refine cg_skip ?_ | refine cg_block ?_ | refine eg_in_normal ?_ | refine cg_ret ?_ | refine eg_then_ret ?_ | refine eg_in_ret ?_ | refine cg_exit ?_ | refine eg_then_exit ?_ | refine eg_in_exit ?_ | refine eg_in_other rfl ?_)
  refine rb rfl rfl rfl rfl (a_alloc rfl) ?_; intro b5 k5 hb5 hN5 hle5 hk5
  repeat (first | refine cg_seq ?_ | refine cg_region ?_ | refine rg_nil ?_ | refine eg_then ?_ | refine qsp ?_ | refine qsn ?_ | refine qsa ?_ | refine qss ?_ | refine qsi ?_ | refine qsz ?_ | refine qsl ?_ | refine qsg ?_ | refine qsf ?_ | refine qsd ?_ | refine qsE ?_ | refine qsX ?_ | refine qse ?_ | refine qsx ?_ | refine qso ?_ | refine cg_cond_true rfl ?_ | refine cg_cond_false rfl ?_ | refine cg_skip ?_ | refine cg_block ?_ | refine eg_in_normal ?_ | refine cg_ret ?_ | refine eg_then_ret ?_ | refine eg_in_ret ?_ | refine cg_exit ?_ | refine eg_then_exit ?_ | refine eg_in_exit ?_ | refine eg_in_other rfl ?_)
  refine rvh rfl rfl rfl rfl rfl rfl rfl hle5 (safe_ct hl hb hsmall) ?_
  rintro kb k6 _ hleb hnb hle6 hleb6 ⟨a9, c9, rfl, hs⟩
  have hb5b : kb b5 = none := by rw [hnb _ _ hk5]; exact hb5
  have hk6 := hle6 _ _ hk5
  repeat (first | refine cg_seq ?_ | refine cg_region ?_ | refine rg_nil ?_ | refine eg_then ?_ | refine qsp ?_ | refine qsn ?_ | refine qsa ?_ | refine qss ?_ | refine qsi ?_ | refine qsz ?_ | refine qsl ?_ | refine qsg ?_ | refine qsf ?_ | refine qsd ?_ | refine qsE ?_ | refine qsX ?_ | refine qse ?_ | refine qsx ?_ | refine qso ?_ | refine cg_cond_true rfl ?_ | refine cg_cond_false rfl ?_ | refine cg_skip ?_ | refine cg_block ?_ | refine eg_in_normal ?_ | refine cg_ret ?_ | refine eg_then_ret ?_ | refine eg_in_ret ?_ | refine cg_exit ?_ | refine eg_then_exit ?_ | refine eg_in_exit ?_ | refine eg_in_other rfl ?_)
  refine cg_loop (fun (i : Nat) e k' => ∃ v, Le kb k' ∧ k' b5 = some (.cells #[v] 84 (0, 0)) ∧ Row F.w0.heap.size k' 3 1 v i (curR ((offs cut).take i)) ∧ Apart kb v ∧ v.ownBlock ≠ some b5 ∧ i ≤ l.length ∧ (∀ j, (h : j < l.length) → (h' : j < cut.length) → j < i → cut[j].tp = l[j].tp ∧ 0 ≤ cut[j].off ∧ cut[j].off ≤ stabP l[j].tx l[j].high) ∧ e = [(0, .is (.slice a l.length c)), (1, .is (.slice b cut.length d)), (5, .is (.pointer (some ⟨b5, 0, none⟩))), (21, .is (.slice a9 (stableL l).length c9)), (22, .is (.int .i64 ((stableL l).length : Int))), (23, .is (.int .i64 (i : Int)))])
    (fun i => l.length - i) 0 ⟨.slice none 0 0, hleb6, hk6, row_nil _ _ _ _, apart_nil _ _ _, (fun e => by cases e), Nat.zero_le _, fun j _ _ hj => by omega, rfl⟩ ⟨rfl, rfl, rfl, rfl, rfl, rfl, trivial⟩ ?_
  rintro i e k1 ⟨v, hle, hk1, hrow, hap, hvb, hi, hno, rfl⟩
  obtain ⟨va, vn, vc, rfl⟩ := hrow.shape
  repeat (first | refine cg_seq ?_ | refine cg_region ?_ | refine rg_nil ?_ | refine eg_then ?_ | refine qsp ?_ | refine qsn ?_ | refine qsa ?_ | refine qss ?_ | refine qsi ?_ | refine qsz ?_ | refine qsl ?_ | refine qsg ?_ | refine qsf ?_ | refine qsd ?_ | refine qsE ?_ | refine qsX ?_ | refine qse ?_ | refine qsx ?_ | refine qso ?_ | refine cg_cond_true rfl ?_ | refine cg_cond_false rfl ?_ | refine cg_skip ?_ | refine cg_block ?_ | refine eg_in_normal ?_ | refine cg_ret ?_ | refine eg_then_ret ?_ | refine eg_in_ret ?_ | refine cg_exit ?_ | refine eg_then_exit ?_ | refine eg_in_exit ?_ | refine eg_in_other rfl ?_)
  refine cg_cond rfl (fun h => ?_) (fun h => ?_)
  · have hlt : i < l.length := by simp at h; omega
    have hlc : i < cut.length := by omega
    have hlss : i < (stableL l).length := by omega
    obtain ⟨bx, ox, cx, rfl, ⟨a0, c0, a1, c1, a2, c2, rfl, _, hok⟩, hcx⟩ := hl.el i l[i] (List.getElem?_eq_getElem hlt)
    obtain ⟨bm, om, cm, rfl, ⟨rfl, hmok⟩, hcm⟩ := hc.el i cut[i] (List.getElem?_eq_getElem hlc)
    obtain ⟨bs, os, cs', rfl, ⟨rfl, hsok⟩, hcs⟩ := hs.el i (stableL l)[i] (List.getElem?_eq_getElem hlss)
    have hst : (stableL l)[i] = stabP l[i].tx l[i].high := by simp [stableL]
    rw [hst] at hcs
    have hcx1 := hcx.le (hleb.trans hle)
    have hcm1 := hcm.le (hleb.trans hle)
    have hcs1 := hcs.le hle
    obtain ⟨r0, r1, r2⟩ := View.parts hcx1
    obtain ⟨s0, s1⟩ := Mark.parts hcm1
    have bad : ¬ (cut[i].tp = l[i].tp ∧ 0 ≤ cut[i].off ∧ cut[i].off ≤ stabP l[i].tx l[i].high) → Value.bool false = .bool (wholeB l cut) := fun hb => by
      have : ¬ CutOk l cut := fun hk => hb (hk i hlt hlc)
      simp [wholeB, this]
    repeat (first | refine cg_seq ?_ | refine cg_region ?_ | refine rg_nil ?_ | refine eg_then ?_ | refine qsp ?_ | refine qsn ?_ | refine qsa ?_ | refine qss ?_ | refine qsi ?_ | refine qsz ?_ | refine qsl ?_ | refine qsg ?_ | refine qsf ?_ | refine qsd ?_ | refine qsE ?_ | refine qsX ?_ | refine qse ?_ | refine qsx ?_ | refine qso ?_ | refine cg_cond_true rfl ?_ | refine cg_cond_false rfl ?_ | refine cg_skip ?_ | refine cg_block ?_ | refine eg_in_normal ?_ | refine cg_ret ?_ | refine eg_then_ret ?_ | refine eg_in_ret ?_ | refine cg_exit ?_ | refine eg_then_exit ?_ | refine eg_in_exit ?_ | refine eg_in_other rfl ?_)
    refine cg_any (by kernel_rfl) rfl ?_
    repeat (first | refine qwp ?_ | refine qwn ?_ | refine qwa ?_ | refine qws ?_ | refine qwi ?_ | refine qwz ?_ | refine qwl ?_ | refine qwg ?_ | refine qwf ?_ | refine qwd ?_ | refine qwE ?_ | refine qwX ?_ | refine qwe ?_ | refine qwx ?_ | refine qwo ?_ | (refine wn rfl ?_; refine eg_then ?_))
    cases q1 : decide (cut[i].tp = l[i].tp)
    · repeat (first | refine qwp ?_ | refine qwn ?_ | refine qwa ?_ | refine qws ?_ | refine qwi ?_ | refine qwz ?_ | refine qwl ?_ | refine qwg ?_ | refine qwf ?_ | refine qwd ?_ | refine qwE ?_ | refine qwX ?_ | refine qwe ?_ | refine qwx ?_ | refine qwo ?_ | (refine wn rfl ?_; refine eg_then ?_))
      repeat (first | refine cg_seq ?_ | refine cg_region ?_ | refine rg_nil ?_ | refine eg_then ?_ | refine qsp ?_ | refine qsn ?_ | refine qsa ?_ | refine qss ?_ | refine qsi ?_ | refine qsz ?_ | refine qsl ?_ | refine qsg ?_ | refine qsf ?_ | refine qsd ?_ | refine qsE ?_ | refine qsX ?_ | refine qse ?_ | refine qsx ?_ | refine qso ?_ | refine cg_cond_true rfl ?_ | refine cg_cond_false rfl ?_ | refine cg_skip ?_ | refine cg_block ?_ | refine eg_in_normal ?_ | refine cg_ret ?_ | refine eg_then_ret ?_ | refine eg_in_ret ?_ | refine cg_exit ?_ | refine eg_then_exit ?_ | refine eg_in_exit ?_ | refine eg_in_other rfl ?_)
      exact eg_return rfl rfl (bad (fun h => by simp [h.1] at q1))
    repeat (first | refine qwp ?_ | refine qwn ?_ | refine qwa ?_ | refine qws ?_ | refine qwi ?_ | refine qwz ?_ | refine qwl ?_ | refine qwg ?_ | refine qwf ?_ | refine qwd ?_ | refine qwE ?_ | refine qwX ?_ | refine qwe ?_ | refine qwx ?_ | refine qwo ?_ | (refine wn rfl ?_; refine eg_then ?_))
    cases q2 : decide (cut[i].off < 0)
    rotate_left
    · repeat (first | refine qwp ?_ | refine qwn ?_ | refine qwa ?_ | refine qws ?_ | refine qwi ?_ | refine qwz ?_ | refine qwl ?_ | refine qwg ?_ | refine qwf ?_ | refine qwd ?_ | refine qwE ?_ | refine qwX ?_ | refine qwe ?_ | refine qwx ?_ | refine qwo ?_ | (refine wn rfl ?_; refine eg_then ?_))
      repeat (first | refine cg_seq ?_ | refine cg_region ?_ | refine rg_nil ?_ | refine eg_then ?_ | refine qsp ?_ | refine qsn ?_ | refine qsa ?_ | refine qss ?_ | refine qsi ?_ | refine qsz ?_ | refine qsl ?_ | refine qsg ?_ | refine qsf ?_ | refine qsd ?_ | refine qsE ?_ | refine qsX ?_ | refine qse ?_ | refine qsx ?_ | refine qso ?_ | refine cg_cond_true rfl ?_ | refine cg_cond_false rfl ?_ | refine cg_skip ?_ | refine cg_block ?_ | refine eg_in_normal ?_ | refine cg_ret ?_ | refine eg_then_ret ?_ | refine eg_in_ret ?_ | refine cg_exit ?_ | refine eg_then_exit ?_ | refine eg_in_exit ?_ | refine eg_in_other rfl ?_)
      exact eg_return rfl rfl (bad (fun h => by have := h.2.1; simp at q2; omega))
    repeat (first | refine qwp ?_ | refine qwn ?_ | refine qwa ?_ | refine qws ?_ | refine qwi ?_ | refine qwz ?_ | refine qwl ?_ | refine qwg ?_ | refine qwf ?_ | refine qwd ?_ | refine qwE ?_ | refine qwX ?_ | refine qwe ?_ | refine qwx ?_ | refine qwo ?_ | (refine wn rfl ?_; refine eg_then ?_))
    refine cg_cond rfl (fun h2 => ?_) (fun h2 => ?_)
    · repeat (first | refine cg_seq ?_ | refine cg_region ?_ | refine rg_nil ?_ | refine eg_then ?_ | refine qsp ?_ | refine qsn ?_ | refine qsa ?_ | refine qss ?_ | refine qsi ?_ | refine qsz ?_ | refine qsl ?_ | refine qsg ?_ | refine qsf ?_ | refine qsd ?_ | refine qsE ?_ | refine qsX ?_ | refine qse ?_ | refine qsx ?_ | refine qso ?_ | refine cg_cond_true rfl ?_ | refine cg_cond_false rfl ?_ | refine cg_skip ?_ | refine cg_block ?_ | refine eg_in_normal ?_ | refine cg_ret ?_ | refine eg_then_ret ?_ | refine eg_in_ret ?_ | refine cg_exit ?_ | refine eg_then_exit ?_ | refine eg_in_exit ?_ | refine eg_in_other rfl ?_)
      exact eg_return rfl rfl (bad (fun h => by have := h.2.2; simp at h2; omega))
    repeat (first | refine cg_seq ?_ | refine cg_region ?_ | refine rg_nil ?_ | refine eg_then ?_ | refine qsp ?_ | refine qsn ?_ | refine qsa ?_ | refine qss ?_ | refine qsi ?_ | refine qsz ?_ | refine qsl ?_ | refine qsg ?_ | refine qsf ?_ | refine qsd ?_ | refine qsE ?_ | refine qsX ?_ | refine qse ?_ | refine qsx ?_ | refine qso ?_ | refine cg_cond_true rfl ?_ | refine cg_cond_false rfl ?_ | refine cg_skip ?_ | refine cg_block ?_ | refine eg_in_normal ?_ | refine cg_ret ?_ | refine eg_then_ret ?_ | refine eg_in_ret ?_ | refine cg_exit ?_ | refine eg_then_exit ?_ | refine eg_in_exit ?_ | refine eg_in_other rfl ?_)
    have hd := le_delV hle hap
    have cd5 : Cells (delV k1 (.slice va vn vc)) b5 0 [.slice va vn vc] := (cells_at hk1 rfl).delV hvb
    obtain ⟨s0, s1⟩ := Mark.parts (hcm.le (hleb.trans hd))
    refine cg_app (.slice va vn vc) hrow rfl (by kernel_rfl) (by kernel_rfl) rfl rfl (m' := i + 1) (xs' := curR ((offs cut).take i) ++ [.int .i64 cut[i].off]) ?_
    repeat (first | refine qvp ?_ | refine qvn ?_ | refine qva ?_ | refine qvs ?_ | refine qvi ?_ | refine qvz ?_ | refine qvl ?_ | refine qvg ?_ | refine qvf ?_ | refine qvd ?_ | refine qvE ?_ | refine qvX ?_ | refine qve ?_ | refine qvx ?_ | refine qvo ?_)
    refine we_v rfl (loc_alloc rfl (a_slice rfl rfl rfl rfl (by kernel_rfl) rfl)) ?_
    refine we_app rfl rfl rfl rfl rfl (fun k1 u _ ⟨b, hu, hkb, _⟩ => ⟨b, 0, 1, hu, cells_at hkb rfl⟩) rfl (by simp [Value.oneCell']) rfl rfl (by unfold maxLen; omega) (by omega) ?_
    repeat (first | refine qvp ?_ | refine qvn ?_ | refine qva ?_ | refine qvs ?_ | refine qvi ?_ | refine qvz ?_ | refine qvl ?_ | refine qvg ?_ | refine qvf ?_ | refine qvd ?_ | refine qvE ?_ | refine qvX ?_ | refine qve ?_ | refine qvx ?_ | refine qvo ?_)
    refine we_nil ⟨63, _, [(0, .is (.slice (some ⟨bx, ox, none⟩) l.length c)), (1, .is (.slice (some ⟨bm, om, none⟩) cut.length d)), (5, .is (.pointer (some ⟨b5, 0, none⟩))), (21, .is (.slice (some ⟨bs, os, none⟩) (stableL l).length c9)), (22, .is (.int .i64 ((stableL l).length : Int))), (23, .is (.int .i64 (i : Int)))], rfl, rfl, rfl, ⟨rfl, rfl, rfl, rfl, rfl, rfl, trivial⟩, fun v' k9 hrow9 ht9 => ?_⟩
    obtain ⟨hle9, hap9⟩ := ht9 kb hle hap
    obtain ⟨hk9, hvb9⟩ := turn_keep ht9 hk1 hvb
    obtain ⟨va', vn', vc', rfl⟩ := hrow9.shape
    refine rw0 rfl rfl rfl rfl rfl rfl rfl rfl hk9 (by simp) (.inl hN5) ?_
    intro k10 ht10 hk10
    repeat (first | refine cg_seq ?_ | refine cg_region ?_ | refine rg_nil ?_ | refine eg_then ?_ | refine qsp ?_ | refine qsn ?_ | refine qsa ?_ | refine qss ?_ | refine qsi ?_ | refine qsz ?_ | refine qsl ?_ | refine qsg ?_ | refine qsf ?_ | refine qsd ?_ | refine qsE ?_ | refine qsX ?_ | refine qse ?_ | refine qsx ?_ | refine qso ?_ | refine cg_cond_true rfl ?_ | refine cg_cond_false rfl ?_ | refine cg_skip ?_ | refine cg_block ?_ | refine eg_in_normal ?_ | refine cg_ret ?_ | refine eg_then_ret ?_ | refine eg_in_ret ?_ | refine cg_exit ?_ | refine eg_then_exit ?_ | refine eg_in_exit ?_ | refine eg_in_other rfl ?_)
    refine eg_again (i + 1) _ ⟨_, ht10 kb hle9 hb5b, hk10, ?_, hap9, hvb9, hlt, fun j hj hj' hji => ?_, rfl⟩ (by omega) ⟨rfl, rfl, rfl, rfl, rfl, rfl, trivial⟩
    · rw [curR_succ hlc]
      exact hrow9.turn1 ht10 hvb9
    · by_cases e : j = i
      · subst e
        simp at q1 q2 h2
        exact ⟨q1, by omega, by omega⟩
      · exact hno j hj hj' (by omega)
  · have hil : i = l.length := by simp at h; omega
    have hck : CutOk l cut := fun j hj hj' => hno j hj hj' (by omega)
    have ho : (offs cut).length = l.length := by simp [offs, hlen]
    rw [hil, List.take_of_length_le (by omega), ← ho, curR_eq] at hrow
    obtain ⟨am, cm, e0, hsm⟩ := Row.sl (T := tInt) hrow (fun n hn => ⟨rfl, by
      unfold offs at hn
      rw [List.mem_map] at hn
      obtain ⟨m, hm, rfl⟩ := hn
      exact (mark_ok hc m hm).2⟩)
    simp only [Value.slice.injEq] at e0
    obtain ⟨rfl, rfl, rfl⟩ := e0
    obtain ⟨m, hm⟩ : ∃ m, m = offs cut := ⟨_, rfl⟩
    rw [← hm] at hsm hk1 ho
    have hgood : wholeB l cut = true ↔ WholeM l m := by
      rw [wholeB_iff, hm]
      exact ⟨fun h => h.2.2.2, fun h => ⟨hmay, hlen, hck, h⟩⟩
    repeat (first | refine cg_seq ?_ | refine cg_region ?_ | refine rg_nil ?_ | refine eg_then ?_ | refine qsp ?_ | refine qsn ?_ | refine qsa ?_ | refine qss ?_ | refine qsi ?_ | refine qsz ?_ | refine qsl ?_ | refine qsg ?_ | refine qsf ?_ | refine qsd ?_ | refine qsE ?_ | refine qsX ?_ | refine qse ?_ | refine qsx ?_ | refine qso ?_ | refine cg_cond_true rfl ?_ | refine cg_cond_false rfl ?_ | refine cg_skip ?_ | refine cg_block ?_ | refine eg_in_normal ?_ | refine cg_ret ?_ | refine eg_then_ret ?_ | refine eg_in_ret ?_ | refine cg_exit ?_ | refine eg_then_exit ?_ | refine eg_in_exit ?_ | refine eg_in_other rfl ?_)
    refine rvn rfl rfl rfl rfl rfl rfl rfl (places_ctn (hl.le (hleb.trans hle)) hb hsmall) ?_
    rintro N2 k2 _ hN2 hf2 hle2 ⟨r, D, rfl, hpl, hG⟩
    have hT := hG.places
    rw [show (toPls D).map (·.2) = D.map (·.2.2) by simp [toPls]] at hT
    have hwhole := places_whole hT ho
    have hm2 := hsm.le hle2
    have hk2 := hle2 _ _ hk1
    repeat (first | refine cg_seq ?_ | refine cg_region ?_ | refine rg_nil ?_ | refine eg_then ?_ | refine qsp ?_ | refine qsn ?_ | refine qsa ?_ | refine qss ?_ | refine qsi ?_ | refine qsz ?_ | refine qsl ?_ | refine qsg ?_ | refine qsf ?_ | refine qsd ?_ | refine qsE ?_ | refine qsX ?_ | refine qse ?_ | refine qsx ?_ | refine qso ?_ | refine cg_cond_true rfl ?_ | refine cg_cond_false rfl ?_ | refine cg_skip ?_ | refine cg_block ?_ | refine eg_in_normal ?_ | refine cg_ret ?_ | refine eg_then_ret ?_ | refine eg_in_ret ?_ | refine cg_exit ?_ | refine eg_then_exit ?_ | refine eg_in_exit ?_ | refine eg_in_other rfl ?_)
    obtain ⟨es, cl, g1, g2, g3, g4⟩ := hpl.out
    refine rb rfl rfl rfl rfl (a_range rfl rfl g1) ?_; intro it k4 hit hNit hle4 hk4
    repeat (first | refine cg_seq ?_ | refine cg_region ?_ | refine rg_nil ?_ | refine eg_then ?_ | refine qsp ?_ | refine qsn ?_ | refine qsa ?_ | refine qss ?_ | refine qsi ?_ | refine qsz ?_ | refine qsl ?_ | refine qsg ?_ | refine qsf ?_ | refine qsd ?_ | refine qsE ?_ | refine qsX ?_ | refine qse ?_ | refine qsx ?_ | refine qso ?_ | refine cg_cond_true rfl ?_ | refine cg_cond_false rfl ?_ | refine cg_skip ?_ | refine cg_block ?_ | refine eg_in_normal ?_ | refine cg_ret ?_ | refine eg_then_ret ?_ | refine eg_in_ret ?_ | refine cg_exit ?_ | refine eg_then_exit ?_ | refine eg_in_exit ?_ | refine eg_in_other rfl ?_)
    refine cg_loop (fun (seen : Array Nat) e k' => k' it = some (.mapIter (some r) cl seen cl) ∧ Le k2 k' ∧ (∀ p ∈ es, p.2.2 ∈ seen.toList → ∀ d ∈ D, d.1 = p.1 → goodP m d.2.2 = true) ∧ e = [(5, .is (.pointer (some ⟨b5, 0, none⟩))), (67, .is (.pointer (some ⟨it, 0, none⟩)))])
      (fun seen => restOf es seen) #[] ⟨hk4, hle4, fun p hp h => by simp at h, rfl⟩ ⟨rfl, rfl, trivial⟩ ?_
    rintro seen e k7 ⟨hi7, hle7, hall7, rfl⟩
    repeat (first | refine cg_seq ?_ | refine cg_region ?_ | refine rg_nil ?_ | refine eg_then ?_ | refine qsp ?_ | refine qsn ?_ | refine qsa ?_ | refine qss ?_ | refine qsi ?_ | refine qsz ?_ | refine qsl ?_ | refine qsg ?_ | refine qsf ?_ | refine qsd ?_ | refine qsE ?_ | refine qsX ?_ | refine qse ?_ | refine qsx ?_ | refine qso ?_ | refine cg_cond_true rfl ?_ | refine cg_cond_false rfl ?_ | refine cg_skip ?_ | refine cg_block ?_ | refine eg_in_normal ?_ | refine cg_ret ?_ | refine eg_then_ret ?_ | refine eg_in_ret ?_ | refine cg_exit ?_ | refine eg_then_exit ?_ | refine eg_in_exit ?_ | refine eg_in_other rfl ?_)
    refine r_next (enc := keyW) rfl rfl rfl rfl rfl rfl hi7 (hle7 _ _ g1) g4 hNit (fun hall => ?_) (fun p hp hns k8 ht8 hi8 => ?_)
    · repeat (first | refine cg_seq ?_ | refine cg_region ?_ | refine rg_nil ?_ | refine eg_then ?_ | refine qsp ?_ | refine qsn ?_ | refine qsa ?_ | refine qss ?_ | refine qsi ?_ | refine qsz ?_ | refine qsl ?_ | refine qsg ?_ | refine qsf ?_ | refine qsd ?_ | refine qsE ?_ | refine qsX ?_ | refine qse ?_ | refine qsx ?_ | refine qso ?_ | refine cg_cond_true rfl ?_ | refine cg_cond_false rfl ?_ | refine cg_skip ?_ | refine cg_block ?_ | refine eg_in_normal ?_ | refine cg_ret ?_ | refine eg_then_ret ?_ | refine eg_in_ret ?_ | refine cg_exit ?_ | refine eg_then_exit ?_ | refine eg_in_exit ?_ | refine eg_in_other rfl ?_)
      refine eg_return rfl rfl ?_
      rw [hgood.2 (hwhole.2 fun ps hps => ?_)]
      obtain ⟨d, hd, rfl⟩ := List.mem_map.1 hps
      have hmem : (d.1, d.2.1) ∈ es.map fun p => (p.1, p.2.1) := by rw [g2]; exact List.mem_map.2 ⟨d, hd, rfl⟩
      obtain ⟨p, hp, e⟩ := List.mem_map.1 hmem
      exact hall7 p hp (hall p hp) d hd (congrArg Prod.fst e).symm
    · have hle8 : Le k2 k8 := ht8 k2 hle7 hit
      repeat (first | refine cg_seq ?_ | refine cg_region ?_ | refine rg_nil ?_ | refine eg_then ?_ | refine qsp ?_ | refine qsn ?_ | refine qsa ?_ | refine qss ?_ | refine qsi ?_ | refine qsz ?_ | refine qsl ?_ | refine qsg ?_ | refine qsf ?_ | refine qsd ?_ | refine qsE ?_ | refine qsX ?_ | refine qse ?_ | refine qsx ?_ | refine qso ?_ | refine cg_cond_true rfl ?_ | refine cg_cond_false rfl ?_ | refine cg_skip ?_ | refine cg_block ?_ | refine eg_in_normal ?_ | refine cg_ret ?_ | refine eg_then_ret ?_ | refine eg_in_ret ?_ | refine cg_exit ?_ | refine eg_then_exit ?_ | refine eg_in_exit ?_ | refine eg_in_other rfl ?_)
      refine rs rfl rfl (loc_det rfl (d_entry (enc := keyW) rfl rfl hi8 (hle8 _ _ g1) hp g3)) ?_
      obtain ⟨w, v, st⟩ := p
      have hmem : (w, v) ∈ D.map fun d => (d.1, d.2.1) := by rw [← g2]; exact List.mem_map.2 ⟨_, hp, rfl⟩
      obtain ⟨⟨w2, v2, ps⟩, hd, e⟩ := List.mem_map.1 hmem
      obtain ⟨e1, e2⟩ : w = w2 ∧ v = v2 := ⟨(congrArg Prod.fst e).symm, (congrArg Prod.snd e).symm⟩
      subst e1 e2
      obtain ⟨ap, cp, hv', hps⟩ := hpl.sl _ hd
      simp only at hv'
      subst hv'
      have hps : Sl tPl k8 ap cp ps := hps.le hle8
      have hm8 := hm2.le hle8
      have c5 := cells_at (hle8 _ _ hk2) rfl
      have hrng : ∀ p ∈ ps, ∃ i, i < m.length ∧ p.view = (i : Int) := by rw [ho]; exact hT.range ps (List.mem_map.2 ⟨_, hd, rfl⟩)
      have hgp : goodP m ps = (!heldP m ps || ps.all fun p => decide (markAt m p ≤ p.first)) := rfl
      repeat (first | refine cg_seq ?_ | refine cg_region ?_ | refine rg_nil ?_ | refine eg_then ?_ | refine qsp ?_ | refine qsn ?_ | refine qsa ?_ | refine qss ?_ | refine qsi ?_ | refine qsz ?_ | refine qsl ?_ | refine qsg ?_ | refine qsf ?_ | refine qsd ?_ | refine qsE ?_ | refine qsX ?_ | refine qse ?_ | refine qsx ?_ | refine qso ?_ | refine cg_cond_true rfl ?_ | refine cg_cond_false rfl ?_ | refine cg_skip ?_ | refine cg_block ?_ | refine eg_in_normal ?_ | refine cg_ret ?_ | refine eg_then_ret ?_ | refine eg_in_ret ?_ | refine cg_exit ?_ | refine eg_then_exit ?_ | refine eg_in_exit ?_ | refine eg_in_other rfl ?_)
      refine rs rfl rfl (loc_call_is rfl rfl rfl rfl (held_ct hps hm8 hrng)) ?_
      repeat (first | refine cg_seq ?_ | refine cg_region ?_ | refine rg_nil ?_ | refine eg_then ?_ | refine qsp ?_ | refine qsn ?_ | refine qsa ?_ | refine qss ?_ | refine qsi ?_ | refine qsz ?_ | refine qsl ?_ | refine qsg ?_ | refine qsf ?_ | refine qsd ?_ | refine qsE ?_ | refine qsX ?_ | refine qse ?_ | refine qsx ?_ | refine qso ?_ | refine cg_cond_true rfl ?_ | refine cg_cond_false rfl ?_ | refine cg_skip ?_ | refine cg_block ?_ | refine eg_in_normal ?_ | refine cg_ret ?_ | refine eg_then_ret ?_ | refine eg_in_ret ?_ | refine cg_exit ?_ | refine eg_then_exit ?_ | refine eg_in_exit ?_ | refine eg_in_other rfl ?_)
      have next : goodP m ps = true → ∀ q ∈ es, q.2.2 ∈ (seen.push st).toList → ∀ d ∈ D, d.1 = q.1 → goodP m d.2.2 = true := fun hg q hq hqs d hdD hdq => by
        simp only [Array.toList_push, List.mem_append, List.mem_singleton] at hqs
        rcases hqs with hqs | hqs
        · exact hall7 q hq hqs d hdD hdq
        · have : q = (w, .slice ap ps.length cp, st) := stamp_inj (f := fun p => p.2.2) g3 hq hp hqs
          subst this
          have : d = (w, .slice ap ps.length cp, ps) := uniq_key hpl.keys hdD hd hdq
          subst this
          exact hg
      cases hh : heldP m ps
      · repeat (first | refine cg_seq ?_ | refine cg_region ?_ | refine rg_nil ?_ | refine eg_then ?_ | refine qsp ?_ | refine qsn ?_ | refine qsa ?_ | refine qss ?_ | refine qsi ?_ | refine qsz ?_ | refine qsl ?_ | refine qsg ?_ | refine qsf ?_ | refine qsd ?_ | refine qsE ?_ | refine qsX ?_ | refine qse ?_ | refine qsx ?_ | refine qso ?_ | refine cg_cond_true rfl ?_ | refine cg_cond_false rfl ?_ | refine cg_skip ?_ | refine cg_block ?_ | refine eg_in_normal ?_ | refine cg_ret ?_ | refine eg_then_ret ?_ | refine eg_in_ret ?_ | refine cg_exit ?_ | refine eg_then_exit ?_ | refine eg_in_exit ?_ | refine eg_in_other rfl ?_)
        exact eg_again (seen.push st) _ ⟨hi8, hle8, next (by rw [hgp, hh]; rfl), rfl⟩ (rest_lt hp hns) ⟨rfl, rfl, trivial⟩
      repeat (first | refine cg_seq ?_ | refine cg_region ?_ | refine rg_nil ?_ | refine eg_then ?_ | refine qsp ?_ | refine qsn ?_ | refine qsa ?_ | refine qss ?_ | refine qsi ?_ | refine qsz ?_ | refine qsl ?_ | refine qsg ?_ | refine qsf ?_ | refine qsd ?_ | refine qsE ?_ | refine qsX ?_ | refine qse ?_ | refine qsx ?_ | refine qso ?_ | refine cg_cond_true rfl ?_ | refine cg_cond_false rfl ?_ | refine cg_skip ?_ | refine cg_block ?_ | refine eg_in_normal ?_ | refine cg_ret ?_ | refine eg_then_ret ?_ | refine eg_in_ret ?_ | refine cg_exit ?_ | refine eg_then_exit ?_ | refine eg_in_exit ?_ | refine eg_in_other rfl ?_)
      have hcall := containsFuncPl_ct hps (g := 64) (cap := #[.pointer (some ⟨b5, 0, none⟩)]) (fun p => !decide (markAt m p ≤ p.first)) (fun p hp cm hcm => by
        obtain ⟨rfl, _⟩ := hcm
        exact whole1_ct p hm8 c5 (hrng p hp))
      refine rs rfl rfl (loc_call_is rfl rfl rfl rfl (hcall)) ?_
      repeat (first | refine cg_seq ?_ | refine cg_region ?_ | refine rg_nil ?_ | refine eg_then ?_ | refine qsp ?_ | refine qsn ?_ | refine qsa ?_ | refine qss ?_ | refine qsi ?_ | refine qsz ?_ | refine qsl ?_ | refine qsg ?_ | refine qsf ?_ | refine qsd ?_ | refine qsE ?_ | refine qsX ?_ | refine qse ?_ | refine qsx ?_ | refine qso ?_ | refine cg_cond_true rfl ?_ | refine cg_cond_false rfl ?_ | refine cg_skip ?_ | refine cg_block ?_ | refine eg_in_normal ?_ | refine cg_ret ?_ | refine eg_then_ret ?_ | refine eg_in_ret ?_ | refine cg_exit ?_ | refine eg_then_exit ?_ | refine eg_in_exit ?_ | refine eg_in_other rfl ?_)
      have hneg : (ps.any fun p => !decide (markAt m p ≤ p.first)) = !(ps.all fun p => decide (markAt m p ≤ p.first)) := by
        rw [List.not_all_eq_any_not]
      rw [hneg]
      cases ha : ps.all fun p => decide (markAt m p ≤ p.first)
      · repeat (first | refine cg_seq ?_ | refine cg_region ?_ | refine rg_nil ?_ | refine eg_then ?_ | refine qsp ?_ | refine qsn ?_ | refine qsa ?_ | refine qss ?_ | refine qsi ?_ | refine qsz ?_ | refine qsl ?_ | refine qsg ?_ | refine qsf ?_ | refine qsd ?_ | refine qsE ?_ | refine qsX ?_ | refine qse ?_ | refine qsx ?_ | refine qso ?_ | refine cg_cond_true rfl ?_ | refine cg_cond_false rfl ?_ | refine cg_skip ?_ | refine cg_block ?_ | refine eg_in_normal ?_ | refine cg_ret ?_ | refine eg_then_ret ?_ | refine eg_in_ret ?_ | refine cg_exit ?_ | refine eg_then_exit ?_ | refine eg_in_exit ?_ | refine eg_in_other rfl ?_)
        refine eg_return rfl rfl ?_
        rw [Value.bool.injEq, eq_comm, Bool.eq_false_iff]
        intro hw
        have := hwhole.1 (hgood.1 hw) ps (List.mem_map.2 ⟨_, hd, rfl⟩)
        rw [hgp, hh, ha] at this
        cases this
      · repeat (first | refine cg_seq ?_ | refine cg_region ?_ | refine rg_nil ?_ | refine eg_then ?_ | refine qsp ?_ | refine qsn ?_ | refine qsa ?_ | refine qss ?_ | refine qsi ?_ | refine qsz ?_ | refine qsl ?_ | refine qsg ?_ | refine qsf ?_ | refine qsd ?_ | refine qsE ?_ | refine qsX ?_ | refine qse ?_ | refine qsx ?_ | refine qso ?_ | refine cg_cond_true rfl ?_ | refine cg_cond_false rfl ?_ | refine cg_skip ?_ | refine cg_block ?_ | refine eg_in_normal ?_ | refine cg_ret ?_ | refine eg_then_ret ?_ | refine eg_in_ret ?_ | refine cg_exit ?_ | refine eg_then_exit ?_ | refine eg_in_exit ?_ | refine eg_in_other rfl ?_)
        exact eg_again (seen.push st) _ ⟨hi8, hle8, next (by rw [hgp, ha]; simp), rfl⟩ (rest_lt hp hns) ⟨rfl, rfl, trivial⟩
end Go.Wm

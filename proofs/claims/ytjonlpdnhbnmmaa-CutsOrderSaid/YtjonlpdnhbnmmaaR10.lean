/-
  Whether a cut is whole, the document's. Conditions: that what is handed in reads as data.
-/
import Derived.Test.YtjonlpdnhbnmmaaR9
set_option linter.all false
namespace Go.Wm
open Go.RowKit Go.Proofs
attribute [local irreducible] RG CG EG WA Loc Det Alc CT Exit.then Exit.inBlock Code.wp bodyPost

def offs (cut : List Mark) : List Int := cut.map (·.off)
def CutOk (l : List View) (cut : List Mark) : Prop := ∀ i, (h : i < l.length) → (h' : i < cut.length) → cut[i].tp = l[i].tp ∧ 0 ≤ cut[i].off ∧ cut[i].off ≤ stabP l[i].tx l[i].high
instance (l : List View) (cut : List Mark) : Decidable (CutOk l cut) := by unfold CutOk; infer_instance
/-- Are marks a cut that is whole? -/
def wholeB (l : List View) (cut : List Mark) : Bool := decide (MayV l) && (decide (cut.length = l.length) && (decide (CutOk l cut) && decide (lowP l (offs cut) = offs cut)))
theorem wholeB_iff {l : List View} {cut : List Mark} : wholeB l cut = true ↔ MayV l ∧ cut.length = l.length ∧ CutOk l cut ∧ WholeM l (offs cut) := by
  unfold wholeB
  simp only [Bool.and_eq_true, decide_eq_true_eq]
  constructor
  · rintro ⟨h1, h2, h3, h4⟩
    exact ⟨h1, h2, h3, (whole_iff (by simp [offs, h2])).1 h4⟩
  · rintro ⟨h1, h2, h3, h4⟩
    exact ⟨h1, h2, h3, (whole_iff (by simp [offs, h2])).2 h4⟩

set_option maxHeartbeats 2000000 in
theorem refWhole_ct {k : PH} {a b : Option Addr} {c d : Nat} {l : List View} {cut : List Mark} (hl : Sl tView k a c l) (hc : Sl tMark k b d cut) (hb : l.length ≤ 1000000) :
    CT Try.prog 25 #[.slice a l.length c, .slice b cut.length d] k (fun _ v => v = .bool (wholeB l cut)) := by
  refine ct_of_body (l := [_, _]) Try.func25 rfl Try.ntmps25 (by simp) (fun _ _ _ _ h => h) fun F hF0 hFm => ?_
  have b1 := hl.cap; have b2 := hl.max; unfold maxLen at b2
  have e1 := hc.cap; have e2 := hc.max; unfold maxLen at e2
  repeat (first | refine cg_seq ?_ | refine cg_region ?_ | refine rg_nil ?_ | refine eg_then ?_ | refine qsp ?_ | refine qsn ?_ | refine qsa ?_ | refine qss ?_ | refine qsi ?_ | refine qsz ?_ | refine qsl ?_ | refine qsg ?_ | refine qsf ?_ | refine qsd ?_ | refine qsE ?_ | refine qsX ?_ | refine qse ?_ | refine qsx ?_ | refine qso ?_ | refine cg_cond_true rfl ?_ | refine cg_cond_false rfl ?_ | refine cg_skip ?_ | refine cg_block ?_ | refine eg_in_normal ?_ | refine cg_ret ?_ | refine eg_then_ret ?_ | refine eg_in_ret ?_ | refine cg_exit ?_ | refine eg_then_exit ?_ | refine eg_in_exit ?_ | refine eg_in_other rfl ?_)
  refine rs rfl rfl (loc_call_is rfl rfl rfl rfl (refMay_ct hl)) ?_
  repeat (first | refine cg_seq ?_ | refine cg_region ?_ | refine rg_nil ?_ | refine eg_then ?_ | refine qsp ?_ | refine qsn ?_ | refine qsa ?_ | refine qss ?_ | refine qsi ?_ | refine qsz ?_ | refine qsl ?_ | refine qsg ?_ | refine qsf ?_ | refine qsd ?_ | refine qsE ?_ | refine qsX ?_ | refine qse ?_ | refine qsx ?_ | refine qso ?_ | refine cg_cond_true rfl ?_ | refine cg_cond_false rfl ?_ | refine cg_skip ?_ | refine cg_block ?_ | refine eg_in_normal ?_ | refine cg_ret ?_ | refine eg_then_ret ?_ | refine eg_in_ret ?_ | refine cg_exit ?_ | refine eg_then_exit ?_ | refine eg_in_exit ?_ | refine eg_in_other rfl ?_)
  by_cases hmay : MayV l
  rotate_left
  · rw [decide_eq_false hmay]
    repeat (first | refine cg_seq ?_ | refine cg_region ?_ | refine rg_nil ?_ | refine eg_then ?_ | refine qsp ?_ | refine qsn ?_ | refine qsa ?_ | refine qss ?_ | refine qsi ?_ | refine qsz ?_ | refine qsl ?_ | refine qsg ?_ | refine qsf ?_ | refine qsd ?_ | refine qsE ?_ | refine qsX ?_ | refine qse ?_ | refine qsx ?_ | refine qso ?_ | refine cg_cond_true rfl ?_ | refine cg_cond_false rfl ?_ | refine cg_skip ?_ | refine cg_block ?_ | refine eg_in_normal ?_ | refine cg_ret ?_ | refine eg_then_ret ?_ | refine eg_in_ret ?_ | refine cg_exit ?_ | refine eg_then_exit ?_ | refine eg_in_exit ?_ | refine eg_in_other rfl ?_)
    refine eg_return rfl rfl ?_
    simp [wholeB, hmay]
  rw [decide_eq_true hmay]
  repeat (first | refine cg_seq ?_ | refine cg_region ?_ | refine rg_nil ?_ | refine eg_then ?_ | refine qsp ?_ | refine qsn ?_ | refine qsa ?_ | refine qss ?_ | refine qsi ?_ | refine qsz ?_ | refine qsl ?_ | refine qsg ?_ | refine qsf ?_ | refine qsd ?_ | refine qsE ?_ | refine qsX ?_ | refine qse ?_ | refine qsx ?_ | refine qso ?_ | refine cg_cond_true rfl ?_ | refine cg_cond_false rfl ?_ | refine cg_skip ?_ | refine cg_block ?_ | refine eg_in_normal ?_ | refine cg_ret ?_ | refine eg_then_ret ?_ | refine eg_in_ret ?_ | refine cg_exit ?_ | refine eg_then_exit ?_ | refine eg_in_exit ?_ | refine eg_in_other rfl ?_)
  refine cg_cond rfl (fun h => ?_) (fun h => ?_)
  · repeat (first | refine cg_seq ?_ | refine cg_region ?_ | refine rg_nil ?_ | refine eg_then ?_ | refine qsp ?_ | refine qsn ?_ | refine qsa ?_ | refine qss ?_ | refine qsi ?_ | refine qsz ?_ | refine qsl ?_ | refine qsg ?_ | refine qsf ?_ | refine qsd ?_ | refine qsE ?_ | refine qsX ?_ | refine qse ?_ | refine qsx ?_ | refine qso ?_ | refine cg_cond_true rfl ?_ | refine cg_cond_false rfl ?_ | refine cg_skip ?_ | refine cg_block ?_ | refine eg_in_normal ?_ | refine cg_ret ?_ | refine eg_then_ret ?_ | refine eg_in_ret ?_ | refine cg_exit ?_ | refine eg_then_exit ?_ | refine eg_in_exit ?_ | refine eg_in_other rfl ?_)
    refine eg_return rfl rfl ?_
    have : ¬ cut.length = l.length := by simp at h; omega
    simp [wholeB, this]
  have hlen : cut.length = l.length := by simp at h; omega
  repeat (first | refine cg_seq ?_ | refine cg_region ?_ | refine rg_nil ?_ | refine eg_then ?_ | refine qsp ?_ | refine qsn ?_ | refine qsa ?_ | refine qss ?_ | refine qsi ?_ | refine qsz ?_ | refine qsl ?_ | refine qsg ?_ | refine qsf ?_ | refine qsd ?_ | refine qsE ?_ | refine qsX ?_ | refine qse ?_ | refine qsx ?_ | refine qso ?_ | refine cg_cond_true rfl ?_ | refine cg_cond_false rfl ?_ | refine cg_skip ?_ | refine cg_block ?_ | refine eg_in_normal ?_ | refine cg_ret ?_ | refine eg_then_ret ?_ | refine eg_in_ret ?_ | refine cg_exit ?_ | refine eg_then_exit ?_ | refine eg_in_exit ?_ | refine eg_in_other rfl ?_)
  refine rv rfl rfl rfl (loc_call rfl rfl rfl rfl (fun k k' v hle ⟨a, c, h1, h2⟩ => ⟨a, c, h1, h2.le hle⟩) (stable_ct hl hb)) ?_
  rintro k0 hle0 _ ⟨a9, c9, rfl, hs⟩
  have hsl : (stableL l).length = l.length := by simp [stableL]
  repeat (first | refine cg_seq ?_ | refine cg_region ?_ | refine rg_nil ?_ | refine eg_then ?_ | refine qsp ?_ | refine qsn ?_ | refine qsa ?_ | refine qss ?_ | refine qsi ?_ | refine qsz ?_ | refine qsl ?_ | refine qsg ?_ | refine qsf ?_ | refine qsd ?_ | refine qsE ?_ | refine qsX ?_ | refine qse ?_ | refine qsx ?_ | refine qso ?_ | refine cg_cond_true rfl ?_ | refine cg_cond_false rfl ?_ | refine cg_skip ?_ | refine cg_block ?_ | refine eg_in_normal ?_ | refine cg_ret ?_ | refine eg_then_ret ?_ | refine eg_in_ret ?_ | refine cg_exit ?_ | refine eg_then_exit ?_ | refine eg_in_exit ?_ | refine eg_in_other rfl ?_)
  refine cg_loop (fun (i : Nat) e k' => ∃ v, Le k0 k' ∧ Row F.w0.heap.size k' 3 1 v i (curR ((offs cut).take i)) ∧ Apart k0 v ∧ i ≤ l.length ∧ (∀ j, (h : j < l.length) → (h' : j < cut.length) → j < i → cut[j].tp = l[j].tp ∧ 0 ≤ cut[j].off ∧ cut[j].off ≤ stabP l[j].tx l[j].high) ∧ e = [(0, .is (.slice a l.length c)), (1, .is (.slice b cut.length d)), (5, .is (.slice a9 (stableL l).length c9)), (6, .is v), (7, .is (.int .i64 (i : Int)))])
    (fun i => l.length - i) 0 ⟨.slice none 0 0, Le.refl _, row_nil _ _ _ _, apart_nil _ _ _, Nat.zero_le _, fun j _ _ hj => by omega, rfl⟩ ⟨rfl, rfl, rfl, rfl, rfl, trivial⟩ ?_
  rintro i e k1 ⟨v, hle, hrow, hap, hi, hno, rfl⟩
  repeat (first | refine cg_seq ?_ | refine cg_region ?_ | refine rg_nil ?_ | refine eg_then ?_ | refine qsp ?_ | refine qsn ?_ | refine qsa ?_ | refine qss ?_ | refine qsi ?_ | refine qsz ?_ | refine qsl ?_ | refine qsg ?_ | refine qsf ?_ | refine qsd ?_ | refine qsE ?_ | refine qsX ?_ | refine qse ?_ | refine qsx ?_ | refine qso ?_ | refine cg_cond_true rfl ?_ | refine cg_cond_false rfl ?_ | refine cg_skip ?_ | refine cg_block ?_ | refine eg_in_normal ?_ | refine cg_ret ?_ | refine eg_then_ret ?_ | refine eg_in_ret ?_ | refine cg_exit ?_ | refine eg_then_exit ?_ | refine eg_in_exit ?_ | refine eg_in_other rfl ?_)
  refine cg_cond rfl (fun h => ?_) (fun h => ?_)
  · have hlt : i < l.length := by simpa using h
    have hlc : i < cut.length := by omega
    have hlss : i < (stableL l).length := by omega
    obtain ⟨bx, ox, cx, rfl, ⟨a0, c0, a1, c1, a2, c2, rfl, _, hok⟩, hcx⟩ := hl.el i l[i] (List.getElem?_eq_getElem hlt)
    obtain ⟨bm, om, cm, rfl, ⟨rfl, hmok⟩, hcm⟩ := hc.el i cut[i] (List.getElem?_eq_getElem hlc)
    obtain ⟨bs, os, cs', rfl, ⟨rfl, hsok⟩, hcs⟩ := hs.el i (stableL l)[i] (List.getElem?_eq_getElem hlss)
    have hst : (stableL l)[i] = stabP l[i].tx l[i].high := by simp [stableL]
    rw [hst] at hcs
    have hcx1 := hcx.le (hle0.trans hle)
    have hcm1 := hcm.le (hle0.trans hle)
    have hcs1 := hcs.le hle
    obtain ⟨r0, r1, r2⟩ := View.parts hcx1
    obtain ⟨s0, s1⟩ := Mark.parts hcm1
    have bad : ¬ (cut[i].tp = l[i].tp ∧ 0 ≤ cut[i].off ∧ cut[i].off ≤ stabP l[i].tx l[i].high) → Value.bool false = .bool (wholeB l cut) := fun hb => by
      have : ¬ CutOk l cut := fun hk => hb (hk i hlt hlc)
      simp [wholeB, this]
    repeat (first | refine cg_seq ?_ | refine cg_region ?_ | refine rg_nil ?_ | refine eg_then ?_ | refine qsp ?_ | refine qsn ?_ | refine qsa ?_ | refine qss ?_ | refine qsi ?_ | refine qsz ?_ | refine qsl ?_ | refine qsg ?_ | refine qsf ?_ | refine qsd ?_ | refine qsE ?_ | refine qsX ?_ | refine qse ?_ | refine qsx ?_ | refine qso ?_ | refine cg_cond_true rfl ?_ | refine cg_cond_false rfl ?_ | refine cg_skip ?_ | refine cg_block ?_ | refine eg_in_normal ?_ | refine cg_ret ?_ | refine eg_then_ret ?_ | refine eg_in_ret ?_ | refine cg_exit ?_ | refine eg_then_exit ?_ | refine eg_in_exit ?_ | refine eg_in_other rfl ?_)
    refine cg_any (by kernel_rfl) rfl ?_
    repeat (first | refine qwp ?_ | refine qwn ?_ | refine qwa ?_ | refine qws ?_ | refine qwi ?_ | refine qwz ?_ | refine qwl ?_ | refine qwg ?_ | refine qwf ?_ | refine qwd ?_ | refine qwE ?_ | refine qwX ?_ | refine qwe ?_ | refine qwx ?_ | refine qwo ?_ | (refine wn rfl ?_; refine eg_then ?_))
    cases q1 : decide (cut[i].tp = l[i].tp)
    · repeat (first | refine qwp ?_ | refine qwn ?_ | refine qwa ?_ | refine qws ?_ | refine qwi ?_ | refine qwz ?_ | refine qwl ?_ | refine qwg ?_ | refine qwf ?_ | refine qwd ?_ | refine qwE ?_ | refine qwX ?_ | refine qwe ?_ | refine qwx ?_ | refine qwo ?_ | (refine wn rfl ?_; refine eg_then ?_))
      repeat (first | refine cg_seq ?_ | refine cg_region ?_ | refine rg_nil ?_ | refine eg_then ?_ | refine qsp ?_ | refine qsn ?_ | refine qsa ?_ | refine qss ?_ | refine qsi ?_ | refine qsz ?_ | refine qsl ?_ | refine qsg ?_ | refine qsf ?_ | refine qsd ?_ | refine qsE ?_ | refine qsX ?_ | refine qse ?_ | refine qsx ?_ | refine qso ?_ | refine cg_cond_true rfl ?_ | refine cg_cond_false rfl ?_ | refine cg_skip ?_ | refine cg_block ?_ | refine eg_in_normal ?_ | refine cg_ret ?_ | refine eg_then_ret ?_ | refine eg_in_ret ?_ | refine cg_exit ?_ | refine eg_then_exit ?_ | refine eg_in_exit ?_ | refine eg_in_other rfl ?_)
      exact eg_return rfl rfl (bad (fun h => by simp [h.1] at q1))
    repeat (first | refine qwp ?_ | refine qwn ?_ | refine qwa ?_ | refine qws ?_ | refine qwi ?_ | refine qwz ?_ | refine qwl ?_ | refine qwg ?_ | refine qwf ?_ | refine qwd ?_ | refine qwE ?_ | refine qwX ?_ | refine qwe ?_ | refine qwx ?_ | refine qwo ?_ | (refine wn rfl ?_; refine eg_then ?_))
    cases q2 : decide (cut[i].off < 0)
    rotate_left
    · repeat (first | refine qwp ?_ | refine qwn ?_ | refine qwa ?_ | refine qws ?_ | refine qwi ?_ | refine qwz ?_ | refine qwl ?_ | refine qwg ?_ | refine qwf ?_ | refine qwd ?_ | refine qwE ?_ | refine qwX ?_ | refine qwe ?_ | refine qwx ?_ | refine qwo ?_ | (refine wn rfl ?_; refine eg_then ?_))
      repeat (first | refine cg_seq ?_ | refine cg_region ?_ | refine rg_nil ?_ | refine eg_then ?_ | refine qsp ?_ | refine qsn ?_ | refine qsa ?_ | refine qss ?_ | refine qsi ?_ | refine qsz ?_ | refine qsl ?_ | refine qsg ?_ | refine qsf ?_ | refine qsd ?_ | refine qsE ?_ | refine qsX ?_ | refine qse ?_ | refine qsx ?_ | refine qso ?_ | refine cg_cond_true rfl ?_ | refine cg_cond_false rfl ?_ | refine cg_skip ?_ | refine cg_block ?_ | refine eg_in_normal ?_ | refine cg_ret ?_ | refine eg_then_ret ?_ | refine eg_in_ret ?_ | refine cg_exit ?_ | refine eg_then_exit ?_ | refine eg_in_exit ?_ | refine eg_in_other rfl ?_)
      exact eg_return rfl rfl (bad (fun h => by have := h.2.1; simp at q2; omega))
    repeat (first | refine qwp ?_ | refine qwn ?_ | refine qwa ?_ | refine qws ?_ | refine qwi ?_ | refine qwz ?_ | refine qwl ?_ | refine qwg ?_ | refine qwf ?_ | refine qwd ?_ | refine qwE ?_ | refine qwX ?_ | refine qwe ?_ | refine qwx ?_ | refine qwo ?_ | (refine wn rfl ?_; refine eg_then ?_))
    refine cg_cond rfl (fun h2 => ?_) (fun h2 => ?_)
    · repeat (first | refine cg_seq ?_ | refine cg_region ?_ | refine rg_nil ?_ | refine eg_then ?_ | refine qsp ?_ | refine qsn ?_ | refine qsa ?_ | refine qss ?_ | refine qsi ?_ | refine qsz ?_ | refine qsl ?_ | refine qsg ?_ | refine qsf ?_ | refine qsd ?_ | refine qsE ?_ | refine qsX ?_ | refine qse ?_ | refine qsx ?_ | refine qso ?_ | refine cg_cond_true rfl ?_ | refine cg_cond_false rfl ?_ | refine cg_skip ?_ | refine cg_block ?_ | refine eg_in_normal ?_ | refine cg_ret ?_ | refine eg_then_ret ?_ | refine eg_in_ret ?_ | refine cg_exit ?_ | refine eg_then_exit ?_ | refine eg_in_exit ?_ | refine eg_in_other rfl ?_)
      exact eg_return rfl rfl (bad (fun h => by have := h.2.2; simp at h2; omega))
    repeat (first | refine cg_seq ?_ | refine cg_region ?_ | refine rg_nil ?_ | refine eg_then ?_ | refine qsp ?_ | refine qsn ?_ | refine qsa ?_ | refine qss ?_ | refine qsi ?_ | refine qsz ?_ | refine qsl ?_ | refine qsg ?_ | refine qsf ?_ | refine qsd ?_ | refine qsE ?_ | refine qsX ?_ | refine qse ?_ | refine qsx ?_ | refine qso ?_ | refine cg_cond_true rfl ?_ | refine cg_cond_false rfl ?_ | refine cg_skip ?_ | refine cg_block ?_ | refine eg_in_normal ?_ | refine cg_ret ?_ | refine eg_then_ret ?_ | refine eg_in_ret ?_ | refine cg_exit ?_ | refine eg_then_exit ?_ | refine eg_in_exit ?_ | refine eg_in_other rfl ?_)
    refine rb rfl rfl rfl rfl (a_slice rfl rfl rfl rfl (by kernel_rfl) rfl) ?_; intro b11 k11 hb11 hN11 hle11 hk11
    have c11 := cells_at (vs := [Value.int .i64 cut[i].off]) hk11 rfl
    refine rap rfl rfl rfl rfl rfl rfl rfl (hrow.le hle11) c11 rfl (by simp [Value.oneCell']) rfl rfl (by unfold maxLen; omega) (by omega) ?_
    intro v' k12 hrow12 hturn
    obtain ⟨hle12, hap12⟩ := hturn k0 (hle.trans hle11) hap
    repeat (first | refine cg_seq ?_ | refine cg_region ?_ | refine rg_nil ?_ | refine eg_then ?_ | refine qsp ?_ | refine qsn ?_ | refine qsa ?_ | refine qss ?_ | refine qsi ?_ | refine qsz ?_ | refine qsl ?_ | refine qsg ?_ | refine qsf ?_ | refine qsd ?_ | refine qsE ?_ | refine qsX ?_ | refine qse ?_ | refine qsx ?_ | refine qso ?_ | refine cg_cond_true rfl ?_ | refine cg_cond_false rfl ?_ | refine cg_skip ?_ | refine cg_block ?_ | refine eg_in_normal ?_ | refine cg_ret ?_ | refine eg_then_ret ?_ | refine eg_in_ret ?_ | refine cg_exit ?_ | refine eg_then_exit ?_ | refine eg_in_exit ?_ | refine eg_in_other rfl ?_)
    refine eg_again (i + 1) _ ⟨v', hle12, ?_, hap12, hlt, fun j hj hj' hji => ?_, rfl⟩ (by omega) ⟨rfl, rfl, rfl, rfl, rfl, trivial⟩
    · have : (offs cut).take (i + 1) = (offs cut).take i ++ [cut[i].off] := by
        rw [List.take_succ_eq_append_getElem (by simp [offs]; omega)]
        simp [offs]
      rw [this, curR_eq, List.flatMap_append, ← curR_eq]
      simpa using hrow12
    · by_cases e : j = i
      · subst e
        simp at q1 q2 h2
        exact ⟨q1, by omega, by omega⟩
      · exact hno j hj hj' (by omega)
  · have hil : i = l.length := by simp at h; omega
    have hck : CutOk l cut := fun j hj hj' => hno j hj hj' (by omega)
    have ho : (offs cut).length = l.length := by simp [offs, hlen]
    rw [hil, List.take_of_length_le (by omega), ← ho, curR_eq] at hrow
    obtain ⟨ai, ci, rfl, hsl'⟩ := Row.sl (T := tInt) hrow (fun n hn => ⟨rfl, by
      unfold offs at hn
      rw [List.mem_map] at hn
      obtain ⟨m, hm, rfl⟩ := hn
      exact (mark_ok hc m hm).2⟩)
    repeat (first | refine cg_seq ?_ | refine cg_region ?_ | refine rg_nil ?_ | refine eg_then ?_ | refine qsp ?_ | refine qsn ?_ | refine qsa ?_ | refine qss ?_ | refine qsi ?_ | refine qsz ?_ | refine qsl ?_ | refine qsg ?_ | refine qsf ?_ | refine qsd ?_ | refine qsE ?_ | refine qsX ?_ | refine qse ?_ | refine qsx ?_ | refine qso ?_ | refine cg_cond_true rfl ?_ | refine cg_cond_false rfl ?_ | refine cg_skip ?_ | refine cg_block ?_ | refine eg_in_normal ?_ | refine cg_ret ?_ | refine eg_then_ret ?_ | refine eg_in_ret ?_ | refine cg_exit ?_ | refine eg_then_exit ?_ | refine eg_in_exit ?_ | refine eg_in_other rfl ?_)
    refine rv rfl rfl rfl (loc_call rfl rfl rfl rfl (fun k k' v hle ⟨a, c, h1, h2⟩ => ⟨a, c, h1, h2.le hle⟩) (lower_ct (hl.le (hle0.trans hle)) hsl' ho hb)) ?_
    rintro k2 hle2 _ ⟨an, cn, rfl, hn⟩
    have hm2 := hsl'.le hle2
    repeat (first | refine cg_seq ?_ | refine cg_region ?_ | refine rg_nil ?_ | refine eg_then ?_ | refine qsp ?_ | refine qsn ?_ | refine qsa ?_ | refine qss ?_ | refine qsi ?_ | refine qsz ?_ | refine qsl ?_ | refine qsg ?_ | refine qsf ?_ | refine qsd ?_ | refine qsE ?_ | refine qsX ?_ | refine qse ?_ | refine qsx ?_ | refine qso ?_ | refine cg_cond_true rfl ?_ | refine cg_cond_false rfl ?_ | refine cg_skip ?_ | refine cg_block ?_ | refine eg_in_normal ?_ | refine cg_ret ?_ | refine eg_then_ret ?_ | refine eg_in_ret ?_ | refine cg_exit ?_ | refine eg_then_exit ?_ | refine eg_in_exit ?_ | refine eg_in_other rfl ?_)
    refine rs rfl rfl (loc_call_is rfl rfl rfl rfl (sameInt_ct hn hm2 (by rw [lowP_len ho, ho]))) ?_
    repeat (first | refine cg_seq ?_ | refine cg_region ?_ | refine rg_nil ?_ | refine eg_then ?_ | refine qsp ?_ | refine qsn ?_ | refine qsa ?_ | refine qss ?_ | refine qsi ?_ | refine qsz ?_ | refine qsl ?_ | refine qsg ?_ | refine qsf ?_ | refine qsd ?_ | refine qsE ?_ | refine qsX ?_ | refine qse ?_ | refine qsx ?_ | refine qso ?_ | refine cg_cond_true rfl ?_ | refine cg_cond_false rfl ?_ | refine cg_skip ?_ | refine cg_block ?_ | refine eg_in_normal ?_ | refine cg_ret ?_ | refine eg_then_ret ?_ | refine eg_in_ret ?_ | refine cg_exit ?_ | refine eg_then_exit ?_ | refine eg_in_exit ?_ | refine eg_in_other rfl ?_)
    refine eg_return rfl rfl ?_
    simp [wholeB, hmay, hlen, hck]
end Go.Wm

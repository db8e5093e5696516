/-
  The reference answer's fewest, and its target. Conditions: that members and partitions read as data, and that they are few.
-/
import Derived.Test.YtapfmndcjcdcjaaB1
import Derived.Test.YtapfmndcjcdcjaaA7
set_option linter.all false
namespace Go.Wm
open Go.RowKit Go.Proofs
attribute [local irreducible] RG CG EG WA Loc Det Alc CT Exit.then Exit.inBlock Code.wp bodyPost

theorem sl_ints {k : PH} {b : Nat} {w : List Int} (h : k b = some (.cells (w.map (Value.int .i64)).toArray 3 (0, 0))) (hw : ∀ x ∈ w, I64 x) (hm : w.length ≤ maxLen) : Sl tInt k (some ⟨b, 0, none⟩) w.length w := by
  refine ⟨Nat.le_refl _, hm, by simp, by simp, fun i x hx => ?_⟩
  have hi : i < w.length := (List.getElem?_eq_some_iff.1 hx).1
  have hg := (List.getElem?_eq_some_iff.1 hx).2
  refine ⟨b, 0, [.int .i64 x], rfl, ⟨rfl, hw x (List.mem_of_getElem? hx)⟩, ?_⟩
  have := cells_ints h hi
  rw [hg] at this
  exact this

/-- The best of the first i. -/
def bestM (l : List Mem) (tp : Tp) (many : List Int) (i : Nat) : Int := match whoL l tp i with
  | [] => -1
  | w => minBy (cmpM l many) w
theorem bestM_all (l : List Mem) (tp : Tp) (many : List Int) : bestM l tp many l.length = leastM l tp many := rfl
theorem minBy_snoc (cmp : Int → Int → Int) (w : List Int) (hw : w ≠ []) (y : Int) : minBy cmp (w ++ [y]) = if cmp y (minBy cmp w) < 0 then y else minBy cmp w := by
  cases w with
  | nil => exact absurd rfl hw
  | cons x r =>
    simp only [minBy, List.cons_append, List.foldl_append, List.foldl_cons, List.foldl_nil]
    rfl
theorem bestM_no {l : List Mem} {tp : Tp} {many : List Int} {i : Nat} (h : i < l.length) (hw : tp.topic ∉ l[i].subs) : bestM l tp many (i + 1) = bestM l tp many i := by
  unfold bestM
  rw [whoL_succ h, if_neg hw, List.append_nil]
theorem bestM_first {l : List Mem} {tp : Tp} {many : List Int} {i : Nat} (h : i < l.length) (hw : tp.topic ∈ l[i].subs) (hb : bestM l tp many i < 0) : bestM l tp many (i + 1) = (i : Int) := by
  have : whoL l tp i = [] := by
    unfold bestM at hb
    split at hb
    · assumption
    · rename_i hne
      have hm := minBy_mem (cmpM l many) _ hne
      obtain ⟨j, hj, _⟩ := whoL_mem hm
      omega
  unfold bestM
  rw [whoL_succ h, if_pos hw, this]
  rfl
theorem bestM_next {l : List Mem} {tp : Tp} {many : List Int} {i : Nat} (h : i < l.length) (hw : tp.topic ∈ l[i].subs) (hb : ¬ bestM l tp many i < 0) :
    bestM l tp many (i + 1) = if cmpM l many (i : Int) (bestM l tp many i) < 0 then (i : Int) else bestM l tp many i := by
  have hne : whoL l tp i ≠ [] := by
    intro h0
    unfold bestM at hb
    rw [h0] at hb
    simp at hb
  have e1 : bestM l tp many i = minBy (cmpM l many) (whoL l tp i) := by
    unfold bestM
    split
    · rename_i h0; exact absurd h0 hne
    · rfl
  have e2 : bestM l tp many (i + 1) = minBy (cmpM l many) (whoL l tp (i + 1)) := by
    unfold bestM
    split
    · rename_i h0
      rw [whoL_succ h, if_pos hw] at h0
      simp at h0
    · rfl
  rw [e2, whoL_succ h, if_pos hw, minBy_snoc _ _ hne, ← e1]
theorem bestM_lt {l : List Mem} {tp : Tp} {many : List Int} {i : Nat} : bestM l tp many i = -1 ∨ ∃ j : Nat, bestM l tp many i = (j : Int) ∧ j < i := by
  unfold bestM
  split
  · exact .inl rfl
  · rename_i hne
    exact .inr (whoL_mem (minBy_mem (cmpM l many) _ hne))
theorem cmpM_neg {l : List Mem} {n : Nat} {w : List Int} {i j : Nat} (hn : n = l.length) (hi : i < l.length) (hj : j < l.length) :
    (cmpM l (cnts n w) (i : Int) (j : Int) < 0) ↔ (w.count (i : Int) < w.count (j : Int) ∨ (w.count (i : Int) = w.count (j : Int) ∧ l[i].id.data.toList < l[j].id.data.toList)) := by
  subst hn
  have h1 : (cnts l.length w).getD ((i : Int).toNat) 0 = ((w.count (i : Int) : Nat) : Int) := by simp [cnts, hi]
  have h2 : (cnts l.length w).getD ((j : Int).toNat) 0 = ((w.count (j : Int) : Nat) : Int) := by simp [cnts, hj]
  unfold cmpM
  rw [h1, h2]
  simp only [Int.toNat_natCast, List.getElem?_eq_getElem hi, List.getElem?_eq_getElem hj, Option.map_some, Option.getD_some]
  unfold cmpInt cmpStr
  by_cases a1 : w.count (i : Int) < w.count (j : Int)
  · have : ((w.count (i : Int) : Nat) : Int) < ((w.count (j : Int) : Nat) : Int) := by omega
    simp [a1, orInt]
  · by_cases a2 : w.count (j : Int) < w.count (i : Int)
    · have a3 : ¬ w.count (i : Int) = w.count (j : Int) := by omega
      simp [a1, a2, a3, orInt]
    · have a3 : w.count (i : Int) = w.count (j : Int) := by omega
      have f1 : ¬ ((w.count (j : Int) : Nat) : Int) < ((w.count (j : Int) : Nat) : Int) := by omega
      rw [a3, if_neg f1]
      simp only [f1, if_false, Nat.lt_irrefl, false_or, true_and]
      by_cases b1 : l[i].id.data.toList < l[j].id.data.toList
      · simp [orInt, b1]
      · by_cases b2 : l[j].id.data.toList < l[i].id.data.toList <;> simp [orInt, b1, b2]

set_option maxHeartbeats 2000000 in
theorem fewest_ct {k : PH} {la ga : Option Addr} {lc gc : Nat} {l : List Mem} {got : List Int} (hl : Sl tMem k la lc l) (hg : Sl tInt k ga gc got) (tp : Tp) :
    CT Try.prog 37 #[.slice la l.length lc, .slice ga got.length gc, .agg tp.vs.toArray] k (fun _ v => v = .int .i64 (leastW l tp got)) := by
  refine ct_of_body (l := [_, _, _]) Try.func37 rfl Try.ntmps37 (by simp) (fun _ _ _ _ h => h) fun F hF0 hFm => ?_
  have b1 := hl.cap; have b2 := hl.max; unfold maxLen at b2
  repeat (first | refine cg_seq ?_ | refine cg_region ?_ | refine rg_nil ?_ | refine eg_then ?_ | refine qsp ?_ | refine qsn ?_ | refine qsa ?_ | refine qss ?_ | refine qsi ?_ | refine qsz ?_ | refine qsl ?_ | refine qsg ?_ | refine qsf ?_ | refine qsd ?_ | refine qse ?_ | refine qsx ?_ | refine qso ?_ | refine cg_cond_true rfl ?_ | refine cg_cond_false rfl ?_ | refine cg_skip ?_ | refine cg_block ?_ | refine eg_in_normal ?_ | refine cg_ret ?_ | refine eg_then_ret ?_ | refine eg_in_ret ?_ | refine cg_exit ?_ | refine eg_then_exit ?_ | refine eg_in_exit ?_ | refine eg_in_other rfl ?_)
  refine rb rfl rfl rfl rfl (a_box rfl rfl) ?_; intro b3 k3 hb3 hN3 hle3 hk3
  have c3 := cells_at (vs := tp.vs) hk3 rfl
  repeat (first | refine cg_seq ?_ | refine cg_region ?_ | refine rg_nil ?_ | refine eg_then ?_ | refine qsp ?_ | refine qsn ?_ | refine qsa ?_ | refine qss ?_ | refine qsi ?_ | refine qsz ?_ | refine qsl ?_ | refine qsg ?_ | refine qsf ?_ | refine qsd ?_ | refine qse ?_ | refine qsx ?_ | refine qso ?_ | refine cg_cond_true rfl ?_ | refine cg_cond_false rfl ?_ | refine cg_skip ?_ | refine cg_block ?_ | refine eg_in_normal ?_ | refine cg_ret ?_ | refine eg_then_ret ?_ | refine eg_in_ret ?_ | refine cg_exit ?_ | refine eg_then_exit ?_ | refine eg_in_exit ?_ | refine eg_in_other rfl ?_)
  refine cg_loop (fun (i : Nat) e k' => Le k3 k' ∧ i ≤ l.length ∧ e = [(0, .is (.slice la l.length lc)), (1, .is (.slice ga got.length gc)), (5, .is (.pointer (some ⟨b3, 0, none⟩))), (7, .is (.int .i64 (bestM l tp (cnts l.length got) i))), (10, .is (.slice la l.length lc)), (11, .is (.int .i64 (l.length : Int))), (12, .is (.int .i64 (i : Int)))])
    (fun i => l.length - i) 0 ⟨Le.refl _, Nat.zero_le _, rfl⟩ ⟨rfl, rfl, rfl, rfl, rfl, rfl, rfl, trivial⟩ ?_
  rintro i e k1 ⟨hle, hi, rfl⟩
  repeat (first | refine cg_seq ?_ | refine cg_region ?_ | refine rg_nil ?_ | refine eg_then ?_ | refine qsp ?_ | refine qsn ?_ | refine qsa ?_ | refine qss ?_ | refine qsi ?_ | refine qsz ?_ | refine qsl ?_ | refine qsg ?_ | refine qsf ?_ | refine qsd ?_ | refine qse ?_ | refine qsx ?_ | refine qso ?_ | refine cg_cond_true rfl ?_ | refine cg_cond_false rfl ?_ | refine cg_skip ?_ | refine cg_block ?_ | refine eg_in_normal ?_ | refine cg_ret ?_ | refine eg_then_ret ?_ | refine eg_in_ret ?_ | refine cg_exit ?_ | refine eg_then_exit ?_ | refine eg_in_exit ?_ | refine eg_in_other rfl ?_)
  refine cg_cond rfl (fun h => ?_) (fun h => ?_)
  · have hlt : i < l.length := by simpa using h
    have hle0 : Le k k1 := hle3.trans hle
    obtain ⟨bx, ox, cx, rfl, hrep, hcx⟩ := (hl.le hle0).el i l[i] (List.getElem?_eq_getElem hlt)
    obtain ⟨sa, sc, oa, oc, rfl, hsub, hown, hid⟩ := hrep
    repeat (first | refine cg_seq ?_ | refine cg_region ?_ | refine rg_nil ?_ | refine eg_then ?_ | refine qsp ?_ | refine qsn ?_ | refine qsa ?_ | refine qss ?_ | refine qsi ?_ | refine qsz ?_ | refine qsl ?_ | refine qsg ?_ | refine qsf ?_ | refine qsd ?_ | refine qse ?_ | refine qsx ?_ | refine qso ?_ | refine cg_cond_true rfl ?_ | refine cg_cond_false rfl ?_ | refine cg_skip ?_ | refine cg_block ?_ | refine eg_in_normal ?_ | refine cg_ret ?_ | refine eg_then_ret ?_ | refine eg_in_ret ?_ | refine cg_exit ?_ | refine eg_then_exit ?_ | refine eg_in_exit ?_ | refine eg_in_other rfl ?_)
    refine rb rfl rfl rfl rfl (a_alloc rfl) ?_; intro b5 k5 hb5 hN5 hle5 hk5
    repeat (first | refine cg_seq ?_ | refine cg_region ?_ | refine rg_nil ?_ | refine eg_then ?_ | refine qsp ?_ | refine qsn ?_ | refine qsa ?_ | refine qss ?_ | refine qsi ?_ | refine qsz ?_ | refine qsl ?_ | refine qsg ?_ | refine qsf ?_ | refine qsd ?_ | refine qse ?_ | refine qsx ?_ | refine qso ?_ | refine cg_cond_true rfl ?_ | refine cg_cond_false rfl ?_ | refine cg_skip ?_ | refine cg_block ?_ | refine eg_in_normal ?_ | refine cg_ret ?_ | refine eg_then_ret ?_ | refine eg_in_ret ?_ | refine cg_exit ?_ | refine eg_then_exit ?_ | refine eg_in_exit ?_ | refine eg_in_other rfl ?_)
    refine rw1 rfl rfl rfl rfl rfl rfl rfl hk5 rfl (.inl hN5) ?_ ?_; (simp [Tp.vs, memVs, Value.oneCell']); intro k6 ht6 hk6
    have c5 := cells_at (vs := memVs l[i] sa sc oa oc) hk6 rfl
    have hle6 : Le k1 k6 := ht6 k1 hle5 hb5
    have c3' := c3.le (hle.trans hle6)
    have hgot := hg.le (hle0.trans hle6)
    have hrep6 : tMem.rep k6 (memVs l[i] sa sc oa oc) l[i] := ⟨sa, sc, oa, oc, rfl, hsub.le hle6, hown.le hle6, hid⟩
    repeat (first | refine cg_seq ?_ | refine cg_region ?_ | refine rg_nil ?_ | refine eg_then ?_ | refine qsp ?_ | refine qsn ?_ | refine qsa ?_ | refine qss ?_ | refine qsi ?_ | refine qsz ?_ | refine qsl ?_ | refine qsg ?_ | refine qsf ?_ | refine qsd ?_ | refine qse ?_ | refine qsx ?_ | refine qso ?_ | refine cg_cond_true rfl ?_ | refine cg_cond_false rfl ?_ | refine cg_skip ?_ | refine cg_block ?_ | refine eg_in_normal ?_ | refine cg_ret ?_ | refine eg_then_ret ?_ | refine eg_in_ret ?_ | refine cg_exit ?_ | refine eg_then_exit ?_ | refine eg_in_exit ?_ | refine eg_in_other rfl ?_)
    refine rs rfl rfl (loc_call_is rfl rfl rfl rfl (refWants_ct hrep6 tp)) ?_
    repeat (first | refine cg_seq ?_ | refine cg_region ?_ | refine rg_nil ?_ | refine eg_then ?_ | refine qsp ?_ | refine qsn ?_ | refine qsa ?_ | refine qss ?_ | refine qsi ?_ | refine qsz ?_ | refine qsl ?_ | refine qsg ?_ | refine qsf ?_ | refine qsd ?_ | refine qse ?_ | refine qsx ?_ | refine qso ?_ | refine cg_cond_true rfl ?_ | refine cg_cond_false rfl ?_ | refine cg_skip ?_ | refine cg_block ?_ | refine eg_in_normal ?_ | refine cg_ret ?_ | refine eg_then_ret ?_ | refine eg_in_ret ?_ | refine cg_exit ?_ | refine eg_then_exit ?_ | refine eg_in_exit ?_ | refine eg_in_other rfl ?_)
    by_cases hw : tp.topic ∈ l[i].subs
    · refine cg_cond_false (by simp [opv, get, Nat.beq, hw]) ?_
      repeat (first | refine cg_seq ?_ | refine cg_region ?_ | refine rg_nil ?_ | refine eg_then ?_ | refine qsp ?_ | refine qsn ?_ | refine qsa ?_ | refine qss ?_ | refine qsi ?_ | refine qsz ?_ | refine qsl ?_ | refine qsg ?_ | refine qsf ?_ | refine qsd ?_ | refine qse ?_ | refine qsx ?_ | refine qso ?_ | refine cg_cond_true rfl ?_ | refine cg_cond_false rfl ?_ | refine cg_skip ?_ | refine cg_block ?_ | refine eg_in_normal ?_ | refine cg_ret ?_ | refine eg_then_ret ?_ | refine eg_in_ret ?_ | refine cg_exit ?_ | refine eg_then_exit ?_ | refine eg_in_exit ?_ | refine eg_in_other rfl ?_)
      have c5a := c5.one (i := 0) rfl
      rcases bestM_lt (l := l) (tp := tp) (many := cnts l.length got) (i := i) with hb | ⟨j, hb, hji⟩
      · have hnx := bestM_first (many := cnts l.length got) hlt hw (by omega)
        rw [hb]
        refine cg_any (by kernel_rfl) rfl ?_
        repeat (first | refine qwp ?_ | refine qwn ?_ | refine qwa ?_ | refine qws ?_ | refine qwi ?_ | refine qwz ?_ | refine qwl ?_ | refine qwg ?_ | refine qwf ?_ | refine qwd ?_ | refine qwe ?_ | refine qwx ?_ | refine qwo ?_ | (refine wn rfl ?_; refine eg_then ?_))
        refine cg_cond_true rfl ?_
        repeat (first | refine cg_seq ?_ | refine cg_region ?_ | refine rg_nil ?_ | refine eg_then ?_ | refine qsp ?_ | refine qsn ?_ | refine qsa ?_ | refine qss ?_ | refine qsi ?_ | refine qsz ?_ | refine qsl ?_ | refine qsg ?_ | refine qsf ?_ | refine qsd ?_ | refine qse ?_ | refine qsx ?_ | refine qso ?_ | refine cg_cond_true rfl ?_ | refine cg_cond_false rfl ?_ | refine cg_skip ?_ | refine cg_block ?_ | refine eg_in_normal ?_ | refine cg_ret ?_ | refine eg_then_ret ?_ | refine eg_in_ret ?_ | refine cg_exit ?_ | refine eg_then_exit ?_ | refine eg_in_exit ?_ | refine eg_in_other rfl ?_)
        refine eg_again (i + 1) _ ⟨hle.trans hle6, hlt, rfl⟩ (by omega) ⟨rfl, rfl, rfl, ?_, rfl, rfl, rfl, trivial⟩
        rw [hnx]; rfl
      · have hnx := bestM_next (many := cnts l.length got) hlt hw (by omega)
        have hcm := cmpM_neg (w := got) rfl hlt (show j < l.length by omega)
        rw [hb] at hnx
        rw [hb]
        obtain ⟨by', oy, cy, ey, ⟨sa2, sc2, oa2, oc2, rfl, _, _, _⟩, hcy⟩ := (hl.le (hle0.trans hle6)).el j l[j] (List.getElem?_eq_getElem (by omega))
        cases ey
        have cy0 := hcy.one (i := 0) rfl
        by_cases q1 : got.count (i : Int) < got.count (j : Int)
        · have q1' : decide (((got.count (i : Int) : Nat) : Int) < ((got.count (j : Int) : Nat) : Int)) = true := by simp [q1]
          refine cg_any (by kernel_rfl) rfl ?_
          repeat (first | refine qwp ?_ | refine qwn ?_ | refine qwa ?_ | refine qws ?_ | refine qwi ?_ | refine qwz ?_ | refine qwl ?_ | refine qwg ?_ | refine qwf ?_ | refine qwd ?_ | refine qwe ?_ | refine qwx ?_ | refine qwo ?_ | (refine wn rfl ?_; refine eg_then ?_))
          refine ws rfl (loc_call_is rfl rfl rfl rfl (count_ct hgot (i : Int))) ?_
          repeat (first | refine qwp ?_ | refine qwn ?_ | refine qwa ?_ | refine qws ?_ | refine qwi ?_ | refine qwz ?_ | refine qwl ?_ | refine qwg ?_ | refine qwf ?_ | refine qwd ?_ | refine qwe ?_ | refine qwx ?_ | refine qwo ?_ | (refine wn rfl ?_; refine eg_then ?_))
          refine ws rfl (loc_call_is rfl rfl rfl rfl (count_ct hgot (j : Int))) ?_
          repeat (first | refine qwp ?_ | refine qwn ?_ | refine qwa ?_ | refine qws ?_ | refine qwi ?_ | refine qwz ?_ | refine qwl ?_ | refine qwg ?_ | refine qwf ?_ | refine qwd ?_ | refine qwe ?_ | refine qwx ?_ | refine qwo ?_ | (refine wn rfl ?_; refine eg_then ?_))
          rw [q1']
          repeat (first | refine qwp ?_ | refine qwn ?_ | refine qwa ?_ | refine qws ?_ | refine qwi ?_ | refine qwz ?_ | refine qwl ?_ | refine qwg ?_ | refine qwf ?_ | refine qwd ?_ | refine qwe ?_ | refine qwx ?_ | refine qwo ?_ | (refine wn rfl ?_; refine eg_then ?_))
          refine cg_cond_true rfl ?_
          repeat (first | refine cg_seq ?_ | refine cg_region ?_ | refine rg_nil ?_ | refine eg_then ?_ | refine qsp ?_ | refine qsn ?_ | refine qsa ?_ | refine qss ?_ | refine qsi ?_ | refine qsz ?_ | refine qsl ?_ | refine qsg ?_ | refine qsf ?_ | refine qsd ?_ | refine qse ?_ | refine qsx ?_ | refine qso ?_ | refine cg_cond_true rfl ?_ | refine cg_cond_false rfl ?_ | refine cg_skip ?_ | refine cg_block ?_ | refine eg_in_normal ?_ | refine cg_ret ?_ | refine eg_then_ret ?_ | refine eg_in_ret ?_ | refine cg_exit ?_ | refine eg_then_exit ?_ | refine eg_in_exit ?_ | refine eg_in_other rfl ?_)
          refine eg_again (i + 1) _ ⟨hle.trans hle6, hlt, rfl⟩ (by omega) ⟨rfl, rfl, rfl, ?_, rfl, rfl, rfl, trivial⟩
          rw [hnx, if_pos (hcm.2 (.inl q1))]; rfl
        · have q1' : decide (((got.count (i : Int) : Nat) : Int) < ((got.count (j : Int) : Nat) : Int)) = false := by simp [q1]
          by_cases q2 : got.count (i : Int) = got.count (j : Int)
          · have q2' : (((got.count (i : Int) : Nat) : Int) == ((got.count (j : Int) : Nat) : Int)) = true := by simp [q2]
            have hc2 : (cmpM l (cnts l.length got) (i : Int) (j : Int) < 0) ↔ l[i].id.data.toList < l[j].id.data.toList := by
              rw [hcm]; simp [q2]
            refine cg_any (by kernel_rfl) rfl ?_
            repeat (first | refine qwp ?_ | refine qwn ?_ | refine qwa ?_ | refine qws ?_ | refine qwi ?_ | refine qwz ?_ | refine qwl ?_ | refine qwg ?_ | refine qwf ?_ | refine qwd ?_ | refine qwe ?_ | refine qwx ?_ | refine qwo ?_ | (refine wn rfl ?_; refine eg_then ?_))
            refine ws rfl (loc_call_is rfl rfl rfl rfl (count_ct hgot (i : Int))) ?_
            repeat (first | refine qwp ?_ | refine qwn ?_ | refine qwa ?_ | refine qws ?_ | refine qwi ?_ | refine qwz ?_ | refine qwl ?_ | refine qwg ?_ | refine qwf ?_ | refine qwd ?_ | refine qwe ?_ | refine qwx ?_ | refine qwo ?_ | (refine wn rfl ?_; refine eg_then ?_))
            refine ws rfl (loc_call_is rfl rfl rfl rfl (count_ct hgot (j : Int))) ?_
            repeat (first | refine qwp ?_ | refine qwn ?_ | refine qwa ?_ | refine qws ?_ | refine qwi ?_ | refine qwz ?_ | refine qwl ?_ | refine qwg ?_ | refine qwf ?_ | refine qwd ?_ | refine qwe ?_ | refine qwx ?_ | refine qwo ?_ | (refine wn rfl ?_; refine eg_then ?_))
            rw [q1']
            repeat (first | refine qwp ?_ | refine qwn ?_ | refine qwa ?_ | refine qws ?_ | refine qwi ?_ | refine qwz ?_ | refine qwl ?_ | refine qwg ?_ | refine qwf ?_ | refine qwd ?_ | refine qwe ?_ | refine qwx ?_ | refine qwo ?_ | (refine wn rfl ?_; refine eg_then ?_))
            refine ws rfl (loc_call_is rfl rfl rfl rfl (count_ct hgot (i : Int))) ?_
            repeat (first | refine qwp ?_ | refine qwn ?_ | refine qwa ?_ | refine qws ?_ | refine qwi ?_ | refine qwz ?_ | refine qwl ?_ | refine qwg ?_ | refine qwf ?_ | refine qwd ?_ | refine qwe ?_ | refine qwx ?_ | refine qwo ?_ | (refine wn rfl ?_; refine eg_then ?_))
            refine ws rfl (loc_call_is rfl rfl rfl rfl (count_ct hgot (j : Int))) ?_
            repeat (first | refine qwp ?_ | refine qwn ?_ | refine qwa ?_ | refine qws ?_ | refine qwi ?_ | refine qwz ?_ | refine qwl ?_ | refine qwg ?_ | refine qwf ?_ | refine qwd ?_ | refine qwe ?_ | refine qwx ?_ | refine qwo ?_ | (refine wn rfl ?_; refine eg_then ?_))
            rw [q2']
            repeat (first | refine qwp ?_ | refine qwn ?_ | refine qwa ?_ | refine qws ?_ | refine qwi ?_ | refine qwz ?_ | refine qwl ?_ | refine qwg ?_ | refine qwf ?_ | refine qwd ?_ | refine qwe ?_ | refine qwx ?_ | refine qwo ?_ | (refine wn rfl ?_; refine eg_then ?_))
            refine cg_cond rfl (fun h4 => ?_) (fun h4 => ?_)
            · repeat (first | refine cg_seq ?_ | refine cg_region ?_ | refine rg_nil ?_ | refine eg_then ?_ | refine qsp ?_ | refine qsn ?_ | refine qsa ?_ | refine qss ?_ | refine qsi ?_ | refine qsz ?_ | refine qsl ?_ | refine qsg ?_ | refine qsf ?_ | refine qsd ?_ | refine qse ?_ | refine qsx ?_ | refine qso ?_ | refine cg_cond_true rfl ?_ | refine cg_cond_false rfl ?_ | refine cg_skip ?_ | refine cg_block ?_ | refine eg_in_normal ?_ | refine cg_ret ?_ | refine eg_then_ret ?_ | refine eg_in_ret ?_ | refine cg_exit ?_ | refine eg_then_exit ?_ | refine eg_in_exit ?_ | refine eg_in_other rfl ?_)
              refine eg_again (i + 1) _ ⟨hle.trans hle6, hlt, rfl⟩ (by omega) ⟨rfl, rfl, rfl, ?_, rfl, rfl, rfl, trivial⟩
              rw [hnx, if_pos (hc2.2 (by simpa using h4))]; rfl
            · repeat (first | refine cg_seq ?_ | refine cg_region ?_ | refine rg_nil ?_ | refine eg_then ?_ | refine qsp ?_ | refine qsn ?_ | refine qsa ?_ | refine qss ?_ | refine qsi ?_ | refine qsz ?_ | refine qsl ?_ | refine qsg ?_ | refine qsf ?_ | refine qsd ?_ | refine qse ?_ | refine qsx ?_ | refine qso ?_ | refine cg_cond_true rfl ?_ | refine cg_cond_false rfl ?_ | refine cg_skip ?_ | refine cg_block ?_ | refine eg_in_normal ?_ | refine cg_ret ?_ | refine eg_then_ret ?_ | refine eg_in_ret ?_ | refine cg_exit ?_ | refine eg_then_exit ?_ | refine eg_in_exit ?_ | refine eg_in_other rfl ?_)
              refine eg_again (i + 1) _ ⟨hle.trans hle6, hlt, rfl⟩ (by omega) ⟨rfl, rfl, rfl, ?_, rfl, rfl, rfl, trivial⟩
              rw [hnx, if_neg (fun hh => by have := hc2.1 hh; simp at h4; exact absurd this h4)]; rfl
          · have q2' : (((got.count (i : Int) : Nat) : Int) == ((got.count (j : Int) : Nat) : Int)) = false := beq_eq_false_iff_ne.2 (fun h => q2 (by omega))
            refine cg_any (by kernel_rfl) rfl ?_
            repeat (first | refine qwp ?_ | refine qwn ?_ | refine qwa ?_ | refine qws ?_ | refine qwi ?_ | refine qwz ?_ | refine qwl ?_ | refine qwg ?_ | refine qwf ?_ | refine qwd ?_ | refine qwe ?_ | refine qwx ?_ | refine qwo ?_ | (refine wn rfl ?_; refine eg_then ?_))
            refine ws rfl (loc_call_is rfl rfl rfl rfl (count_ct hgot (i : Int))) ?_
            repeat (first | refine qwp ?_ | refine qwn ?_ | refine qwa ?_ | refine qws ?_ | refine qwi ?_ | refine qwz ?_ | refine qwl ?_ | refine qwg ?_ | refine qwf ?_ | refine qwd ?_ | refine qwe ?_ | refine qwx ?_ | refine qwo ?_ | (refine wn rfl ?_; refine eg_then ?_))
            refine ws rfl (loc_call_is rfl rfl rfl rfl (count_ct hgot (j : Int))) ?_
            repeat (first | refine qwp ?_ | refine qwn ?_ | refine qwa ?_ | refine qws ?_ | refine qwi ?_ | refine qwz ?_ | refine qwl ?_ | refine qwg ?_ | refine qwf ?_ | refine qwd ?_ | refine qwe ?_ | refine qwx ?_ | refine qwo ?_ | (refine wn rfl ?_; refine eg_then ?_))
            rw [q1']
            repeat (first | refine qwp ?_ | refine qwn ?_ | refine qwa ?_ | refine qws ?_ | refine qwi ?_ | refine qwz ?_ | refine qwl ?_ | refine qwg ?_ | refine qwf ?_ | refine qwd ?_ | refine qwe ?_ | refine qwx ?_ | refine qwo ?_ | (refine wn rfl ?_; refine eg_then ?_))
            refine ws rfl (loc_call_is rfl rfl rfl rfl (count_ct hgot (i : Int))) ?_
            repeat (first | refine qwp ?_ | refine qwn ?_ | refine qwa ?_ | refine qws ?_ | refine qwi ?_ | refine qwz ?_ | refine qwl ?_ | refine qwg ?_ | refine qwf ?_ | refine qwd ?_ | refine qwe ?_ | refine qwx ?_ | refine qwo ?_ | (refine wn rfl ?_; refine eg_then ?_))
            refine ws rfl (loc_call_is rfl rfl rfl rfl (count_ct hgot (j : Int))) ?_
            repeat (first | refine qwp ?_ | refine qwn ?_ | refine qwa ?_ | refine qws ?_ | refine qwi ?_ | refine qwz ?_ | refine qwl ?_ | refine qwg ?_ | refine qwf ?_ | refine qwd ?_ | refine qwe ?_ | refine qwx ?_ | refine qwo ?_ | (refine wn rfl ?_; refine eg_then ?_))
            rw [q2']
            repeat (first | refine qwp ?_ | refine qwn ?_ | refine qwa ?_ | refine qws ?_ | refine qwi ?_ | refine qwz ?_ | refine qwl ?_ | refine qwg ?_ | refine qwf ?_ | refine qwd ?_ | refine qwe ?_ | refine qwx ?_ | refine qwo ?_ | (refine wn rfl ?_; refine eg_then ?_))
            refine cg_cond_false rfl ?_
            repeat (first | refine cg_seq ?_ | refine cg_region ?_ | refine rg_nil ?_ | refine eg_then ?_ | refine qsp ?_ | refine qsn ?_ | refine qsa ?_ | refine qss ?_ | refine qsi ?_ | refine qsz ?_ | refine qsl ?_ | refine qsg ?_ | refine qsf ?_ | refine qsd ?_ | refine qse ?_ | refine qsx ?_ | refine qso ?_ | refine cg_cond_true rfl ?_ | refine cg_cond_false rfl ?_ | refine cg_skip ?_ | refine cg_block ?_ | refine eg_in_normal ?_ | refine cg_ret ?_ | refine eg_then_ret ?_ | refine eg_in_ret ?_ | refine cg_exit ?_ | refine eg_then_exit ?_ | refine eg_in_exit ?_ | refine eg_in_other rfl ?_)
            refine eg_again (i + 1) _ ⟨hle.trans hle6, hlt, rfl⟩ (by omega) ⟨rfl, rfl, rfl, ?_, rfl, rfl, rfl, trivial⟩
            rw [hnx, if_neg (fun hh => by rcases hcm.1 hh with h | ⟨h, _⟩ <;> omega)]; rfl
    · refine cg_cond_true (by simp [opv, get, Nat.beq, hw]) ?_
      repeat (first | refine cg_seq ?_ | refine cg_region ?_ | refine rg_nil ?_ | refine eg_then ?_ | refine qsp ?_ | refine qsn ?_ | refine qsa ?_ | refine qss ?_ | refine qsi ?_ | refine qsz ?_ | refine qsl ?_ | refine qsg ?_ | refine qsf ?_ | refine qsd ?_ | refine qse ?_ | refine qsx ?_ | refine qso ?_ | refine cg_cond_true rfl ?_ | refine cg_cond_false rfl ?_ | refine cg_skip ?_ | refine cg_block ?_ | refine eg_in_normal ?_ | refine cg_ret ?_ | refine eg_then_ret ?_ | refine eg_in_ret ?_ | refine cg_exit ?_ | refine eg_then_exit ?_ | refine eg_in_exit ?_ | refine eg_in_other rfl ?_)
      refine eg_again (i + 1) _ ⟨hle.trans hle6, hlt, rfl⟩ (by omega) ⟨rfl, rfl, rfl, ?_, rfl, rfl, rfl, trivial⟩
      rw [bestM_no hlt hw]; rfl
  · repeat (first | refine cg_seq ?_ | refine cg_region ?_ | refine rg_nil ?_ | refine eg_then ?_ | refine qsp ?_ | refine qsn ?_ | refine qsa ?_ | refine qss ?_ | refine qsi ?_ | refine qsz ?_ | refine qsl ?_ | refine qsg ?_ | refine qsf ?_ | refine qsd ?_ | refine qse ?_ | refine qsx ?_ | refine qso ?_ | refine cg_cond_true rfl ?_ | refine cg_cond_false rfl ?_ | refine cg_skip ?_ | refine cg_block ?_ | refine eg_in_normal ?_ | refine cg_ret ?_ | refine eg_then_ret ?_ | refine eg_in_ret ?_ | refine cg_exit ?_ | refine eg_then_exit ?_ | refine eg_in_exit ?_ | refine eg_in_other rfl ?_)
    refine eg_return rfl rfl ?_
    have : i = l.length := by simp at h; omega
    rw [this, bestM_all]
    rfl
end Go.Wm

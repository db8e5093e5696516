/-
  How many batches of an ended transaction there are, and how many of them a reader is told. Conditions: that what is handed in reads as data. How many batches of an ended transaction a reader at a mark is told, and how many not. Conditions: that what is handed in reads as data. Whether sets of batches are few, and rise; and in plain Lean: with a whole cut an ended transaction is told all or not at all. Conditions: that what is handed in reads as data.
-/
import Derived.Test.YtjonlpdnhbnmmaaT1
import Derived.Test.YtjonlpdnhbnmmaaR10
set_option linter.all false
namespace Go.Wm
open Go.RowKit Go.Proofs
attribute [local irreducible] RG CG EG WA Loc Det Alc CT Exit.then Exit.inBlock Code.wp bodyPost
/-- Does a batch count? -/
def cntP (g : Gone) (b : Batch) : Bool := isP b g && decide (b.last < g.last)
def countB (l : List Batch) (g : Gone) : Nat := l.countP (cntP g)
theorem countB_succ {l : List Batch} {i : Nat} (g : Gone) (h : i < l.length) : countB (l.take (i + 1)) g = countB (l.take i) g + (if cntP g l[i] then 1 else 0) := by
  unfold countB
  rw [List.take_succ_eq_append_getElem h, List.countP_append]
  by_cases hc : cntP g l[i] <;> simp [hc]
theorem countB_take (l : List Batch) (g : Gone) (i : Nat) : countB (l.take i) g ≤ i := by
  have h1 : countB (l.take i) g ≤ (l.take i).length := List.countP_le_length
  have h2 : (l.take i).length ≤ i := by simp; omega
  exact Nat.le_trans h1 h2
set_option maxHeartbeats 1000000 in
theorem count_ct {k : PH} {a : Option Addr} {c : Nat} {l : List Batch} (g : Gone) (hl : Sl tBatch k a c l) : CT Try.prog 71 #[.slice a l.length c, .agg g.vs.toArray] k (fun _ v => v = .int .i64 (countB l g : Int)) := by
  refine ct_of_body (l := [_, _]) Try.func71 rfl Try.ntmps71 (by simp) (fun _ _ _ _ h => h) fun F hF0 hFm => ?_
  have b1 := hl.cap; have b2 := hl.max; unfold maxLen at b2
  repeat (first | refine cg_seq ?_ | refine cg_region ?_ | refine rg_nil ?_ | refine eg_then ?_ | refine qsp ?_ | refine qsn ?_ | refine qsa ?_ | refine qss ?_ | refine qsi ?_ | refine qsz ?_ | refine qsl ?_ | refine qsg ?_ | refine qsf ?_ | refine qsd ?_ | refine qsE ?_ | refine qsX ?_ | refine qse ?_ | refine qsx ?_ | refine qso ?_ | refine cg_cond_true rfl ?_ | refine cg_cond_false rfl ?_ | refine cg_skip ?_ | refine cg_block ?_ | refine eg_in_normal ?_ | refine cg_ret ?_ | refine eg_then_ret ?_ | refine eg_in_ret ?_ | refine cg_exit ?_ | refine eg_then_exit ?_ | refine eg_in_exit ?_ | refine eg_in_other rfl ?_)
  refine rb rfl rfl rfl rfl (a_box rfl rfl) ?_; intro bg kg hbg hNg hle0 hkg
  have cg := cells_at (vs := g.vs) hkg rfl
  have cg' := Gone.parts cg
  repeat (first | refine cg_seq ?_ | refine cg_region ?_ | refine rg_nil ?_ | refine eg_then ?_ | refine qsp ?_ | refine qsn ?_ | refine qsa ?_ | refine qss ?_ | refine qsi ?_ | refine qsz ?_ | refine qsl ?_ | refine qsg ?_ | refine qsf ?_ | refine qsd ?_ | refine qsE ?_ | refine qsX ?_ | refine qse ?_ | refine qsx ?_ | refine qso ?_ | refine cg_cond_true rfl ?_ | refine cg_cond_false rfl ?_ | refine cg_skip ?_ | refine cg_block ?_ | refine eg_in_normal ?_ | refine cg_ret ?_ | refine eg_then_ret ?_ | refine eg_in_ret ?_ | refine cg_exit ?_ | refine eg_then_exit ?_ | refine eg_in_exit ?_ | refine eg_in_other rfl ?_)
  refine cg_loop (fun (i : Nat) e k' => Le kg k' ∧ i ≤ l.length ∧ ∃ m : Int, m = (countB (l.take i) g : Int) ∧ e = [(0, .is (.slice a l.length c)), (3, .is (.pointer (some ⟨bg, 0, none⟩))), (5, .is (.int .i64 m)), (6, .is (.int .i64 (i : Int)))])
    (fun i => l.length - i) 0 ⟨Le.refl _, Nat.zero_le _, 0, by simp [countB], rfl⟩ ⟨rfl, rfl, rfl, rfl, trivial⟩ ?_
  rintro i e k1 ⟨hle, hi, m, hm, rfl⟩
  have hn := countB_take l g i
  repeat (first | refine cg_seq ?_ | refine cg_region ?_ | refine rg_nil ?_ | refine eg_then ?_ | refine qsp ?_ | refine qsn ?_ | refine qsa ?_ | refine qss ?_ | refine qsi ?_ | refine qsz ?_ | refine qsl ?_ | refine qsg ?_ | refine qsf ?_ | refine qsd ?_ | refine qsE ?_ | refine qsX ?_ | refine qse ?_ | refine qsx ?_ | refine qso ?_ | refine cg_cond_true rfl ?_ | refine cg_cond_false rfl ?_ | refine cg_skip ?_ | refine cg_block ?_ | refine eg_in_normal ?_ | refine cg_ret ?_ | refine eg_then_ret ?_ | refine eg_in_ret ?_ | refine cg_exit ?_ | refine eg_then_exit ?_ | refine eg_in_exit ?_ | refine eg_in_other rfl ?_)
  refine cg_cond rfl (fun h => ?_) (fun h => ?_)
  · have hlt : i < l.length := by simpa using h
    obtain ⟨bx, ox, cx, rfl, ⟨ra, rc, rfl, hr, hok⟩, hcx⟩ := (hl.le (hle0.trans hle)).el i l[i] (List.getElem?_eq_getElem hlt)
    have hs := countB_succ g hlt
    have cgl := cg.le hle
    repeat (first | refine cg_seq ?_ | refine cg_region ?_ | refine rg_nil ?_ | refine eg_then ?_ | refine qsp ?_ | refine qsn ?_ | refine qsa ?_ | refine qss ?_ | refine qsi ?_ | refine qsz ?_ | refine qsl ?_ | refine qsg ?_ | refine qsf ?_ | refine qsd ?_ | refine qsE ?_ | refine qsX ?_ | refine qse ?_ | refine qsx ?_ | refine qso ?_ | refine cg_cond_true rfl ?_ | refine cg_cond_false rfl ?_ | refine cg_skip ?_ | refine cg_block ?_ | refine eg_in_normal ?_ | refine cg_ret ?_ | refine eg_then_ret ?_ | refine eg_in_ret ?_ | refine cg_exit ?_ | refine eg_then_exit ?_ | refine eg_in_exit ?_ | refine eg_in_other rfl ?_)
    refine cg_any (by kernel_rfl) rfl ?_
    repeat (first | refine qwp ?_ | refine qwn ?_ | refine qwa ?_ | refine qws ?_ | refine qwi ?_ | refine qwz ?_ | refine qwl ?_ | refine qwg ?_ | refine qwf ?_ | refine qwd ?_ | refine qwE ?_ | refine qwX ?_ | refine qwe ?_ | refine qwx ?_ | refine qwo ?_ | (refine wn rfl ?_; refine eg_then ?_))
    refine ws rfl (loc_call_is rfl rfl rfl rfl (isGone_ct l[i] ra rc g)) ?_
    obtain ⟨p0, p1, p2, p3, p4, p5, p6, p7, p8, p9⟩ := Batch.parts hcx
    obtain ⟨g0, g1, g2, g3⟩ := Gone.parts cgl
    repeat (first | refine qwp ?_ | refine qwn ?_ | refine qwa ?_ | refine qws ?_ | refine qwi ?_ | refine qwz ?_ | refine qwl ?_ | refine qwg ?_ | refine qwf ?_ | refine qwd ?_ | refine qwE ?_ | refine qwX ?_ | refine qwe ?_ | refine qwx ?_ | refine qwo ?_ | (refine wn rfl ?_; refine eg_then ?_))
    rw [show (decide (l[i].ctl = 0) && l[i].txn && decide (l[i].pid = g.pid) && decide (g.first ≤ l[i].base) && decide (l[i].base < g.last)) = isP l[i] g from rfl]
    cases q1 : isP l[i] g
    · repeat (first | refine qwp ?_ | refine qwn ?_ | refine qwa ?_ | refine qws ?_ | refine qwi ?_ | refine qwz ?_ | refine qwl ?_ | refine qwg ?_ | refine qwf ?_ | refine qwd ?_ | refine qwE ?_ | refine qwX ?_ | refine qwe ?_ | refine qwx ?_ | refine qwo ?_ | (refine wn rfl ?_; refine eg_then ?_))
      repeat (first | refine cg_seq ?_ | refine cg_region ?_ | refine rg_nil ?_ | refine eg_then ?_ | refine qsp ?_ | refine qsn ?_ | refine qsa ?_ | refine qss ?_ | refine qsi ?_ | refine qsz ?_ | refine qsl ?_ | refine qsg ?_ | refine qsf ?_ | refine qsd ?_ | refine qsE ?_ | refine qsX ?_ | refine qse ?_ | refine qsx ?_ | refine qso ?_ | refine cg_cond_true rfl ?_ | refine cg_cond_false rfl ?_ | refine cg_skip ?_ | refine cg_block ?_ | refine eg_in_normal ?_ | refine cg_ret ?_ | refine eg_then_ret ?_ | refine eg_in_ret ?_ | refine cg_exit ?_ | refine eg_then_exit ?_ | refine eg_in_exit ?_ | refine eg_in_other rfl ?_)
      refine eg_again (i + 1) _ ⟨hle, hlt, _, ?_, rfl⟩ (by omega) ⟨rfl, rfl, rfl, rfl, trivial⟩
      rw [hs]; simp [hm, cntP, q1]
    · repeat (first | refine qwp ?_ | refine qwn ?_ | refine qwa ?_ | refine qws ?_ | refine qwi ?_ | refine qwz ?_ | refine qwl ?_ | refine qwg ?_ | refine qwf ?_ | refine qwd ?_ | refine qwE ?_ | refine qwX ?_ | refine qwe ?_ | refine qwx ?_ | refine qwo ?_ | (refine wn rfl ?_; refine eg_then ?_))
      refine cg_cond rfl (fun h2 => ?_) (fun h2 => ?_)
      · repeat (first | refine cg_seq ?_ | refine cg_region ?_ | refine rg_nil ?_ | refine eg_then ?_ | refine qsp ?_ | refine qsn ?_ | refine qsa ?_ | refine qss ?_ | refine qsi ?_ | refine qsz ?_ | refine qsl ?_ | refine qsg ?_ | refine qsf ?_ | refine qsd ?_ | refine qsE ?_ | refine qsX ?_ | refine qse ?_ | refine qsx ?_ | refine qso ?_ | refine cg_cond_true rfl ?_ | refine cg_cond_false rfl ?_ | refine cg_skip ?_ | refine cg_block ?_ | refine eg_in_normal ?_ | refine cg_ret ?_ | refine eg_then_ret ?_ | refine eg_in_ret ?_ | refine cg_exit ?_ | refine eg_then_exit ?_ | refine eg_in_exit ?_ | refine eg_in_other rfl ?_)
        refine eg_again (i + 1) _ ⟨hle, hlt, _, ?_, rfl⟩ (by omega) ⟨rfl, rfl, rfl, rfl, trivial⟩
        rw [hs]; simp [hm, cntP, q1, h2]
      · repeat (first | refine cg_seq ?_ | refine cg_region ?_ | refine rg_nil ?_ | refine eg_then ?_ | refine qsp ?_ | refine qsn ?_ | refine qsa ?_ | refine qss ?_ | refine qsi ?_ | refine qsz ?_ | refine qsl ?_ | refine qsg ?_ | refine qsf ?_ | refine qsd ?_ | refine qsE ?_ | refine qsX ?_ | refine qse ?_ | refine qsx ?_ | refine qso ?_ | refine cg_cond_true rfl ?_ | refine cg_cond_false rfl ?_ | refine cg_skip ?_ | refine cg_block ?_ | refine eg_in_normal ?_ | refine cg_ret ?_ | refine eg_then_ret ?_ | refine eg_in_ret ?_ | refine cg_exit ?_ | refine eg_then_exit ?_ | refine eg_in_exit ?_ | refine eg_in_other rfl ?_)
        refine eg_again (i + 1) _ ⟨hle, hlt, _, ?_, rfl⟩ (by omega) ⟨rfl, rfl, rfl, rfl, trivial⟩
        rw [hs]; simp [hm, cntP, q1, h2]
  · repeat (first | refine cg_seq ?_ | refine cg_region ?_ | refine rg_nil ?_ | refine eg_then ?_ | refine qsp ?_ | refine qsn ?_ | refine qsa ?_ | refine qss ?_ | refine qsi ?_ | refine qsz ?_ | refine qsl ?_ | refine qsg ?_ | refine qsf ?_ | refine qsd ?_ | refine qsE ?_ | refine qsX ?_ | refine qse ?_ | refine qsx ?_ | refine qso ?_ | refine cg_cond_true rfl ?_ | refine cg_cond_false rfl ?_ | refine cg_skip ?_ | refine cg_block ?_ | refine eg_in_normal ?_ | refine cg_ret ?_ | refine eg_then_ret ?_ | refine eg_in_ret ?_ | refine cg_exit ?_ | refine eg_then_exit ?_ | refine eg_in_exit ?_ | refine eg_in_other rfl ?_)
    refine eg_return rfl rfl ?_
    have hin : i = l.length := by simp at h; omega
    subst hin
    rw [hm, List.take_length]
end Go.Wm
namespace Go.Wm
open Go.RowKit Go.Proofs
attribute [local irreducible] RG CG EG WA Loc Det Alc CT Exit.then Exit.inBlock Code.wp bodyPost
def sameG (g d : Gone) : Bool := decide (d.pid = g.pid) && decide (d.no = g.no)
/-- The sum of what counts among the ended ones of the same number. -/
def sumD (w : Gone → Nat) (g : Gone) (l : List Gone) : Nat := (l.map fun d => if sameG g d then w d else 0).sum
theorem sumD_succ {l : List Gone} {i : Nat} (w : Gone → Nat) (g : Gone) (h : i < l.length) : sumD w g (l.take (i + 1)) = sumD w g (l.take i) + (if sameG g l[i] then w l[i] else 0) := by
  unfold sumD
  rw [List.take_succ_eq_append_getElem h, List.map_append, List.sum_append]; simp
theorem sumD_le {l : List Gone} {w : Gone → Nat} {g : Gone} {n : Nat} (h : ∀ d, w d ≤ n) (i : Nat) : sumD w g (l.take i) ≤ i * n := by
  induction i with
  | zero => simp [sumD]
  | succ i ih =>
    by_cases hi : i < l.length
    · rw [sumD_succ w g hi, Nat.add_mul]
      have := h l[i]
      split <;> omega
    · rw [List.take_of_length_le (by omega)]
      rw [List.take_of_length_le (by omega)] at ih
      rw [Nat.add_mul]; omega
theorem sumD_mono {w w' : Gone → Nat} (h : ∀ d, w d ≤ w' d) (g : Gone) (l : List Gone) : sumD w g l ≤ sumD w' g l := by
  induction l with
  | nil => simp [sumD]
  | cons x r ih =>
    have := h x
    simp only [sumD, List.map_cons, List.sum_cons] at ih ⊢
    split <;> omega
theorem countB_le (l : List Batch) (g : Gone) : countB l g ≤ l.length := List.countP_le_length
/-- What a reader at a mark is told of. -/
def toldN (to : Int) (v : View) (l : List Batch) (g : Gone) : Nat := sumD (countB (l.filter (showB [] to))) g v.tx.done
def farMark : Int := 1152921504606846976
def hidN (to : Int) (v : View) (l : List Batch) (g : Gone) : Int := (toldN farMark v l g : Int) - (toldN to v l g : Int)

theorem toldB (to : Int) (l : List Batch) (g : Gone) : countB (l.filter (showB [] to)) g ≤ l.length := Nat.le_trans (countB_le _ _) (List.length_filter_le _ _)
set_option maxHeartbeats 2000000 in
theorem told_ct {k : PH} {a0 a1 a2 a : Option Addr} {c0 c1 c2 c : Nat} {v : View} {l : List Batch} (to : Int) (g : Gone) (hv : Sl tGone k a2 c2 v.tx.done) (hsm : v.tx.done.length ≤ 1000000) (hl : Sl tBatch k a c l) (hb : l.length ≤ 100) :
    CT Try.prog 35 #[.agg (v.cs a0 c0 a1 c1 a2 c2).toArray, .slice a l.length c, .int .i64 to, .agg g.vs.toArray] k (fun _ x => x = .tuple #[.int .i64 (toldN to v l g : Int), .int .i64 (hidN to v l g)]) := by
  refine ct_of_body (l := [_, _, _, _]) Try.func35 rfl Try.ntmps35 (by simp) (fun _ _ _ _ h => h) fun F hF0 hFm => ?_
  have b1 := hv.cap; have b2 := hv.max; unfold maxLen at b2
  have none_sl : ∀ k, Sl tGone k none 0 [] := fun k => sl_none _ k
  repeat (first | refine cg_seq ?_ | refine cg_region ?_ | refine rg_nil ?_ | refine eg_then ?_ | refine qsp ?_ | refine qsn ?_ | refine qsa ?_ | refine qss ?_ | refine qsi ?_ | refine qsz ?_ | refine qsl ?_ | refine qsg ?_ | refine qsf ?_ | refine qsd ?_ | refine qsE ?_ | refine qsX ?_ | refine qse ?_ | refine qsx ?_ | refine qso ?_ | refine cg_cond_true rfl ?_ | refine cg_cond_false rfl ?_ | refine cg_skip ?_ | refine cg_block ?_ | refine eg_in_normal ?_ | refine cg_ret ?_ | refine eg_then_ret ?_ | refine eg_in_ret ?_ | refine cg_exit ?_ | refine eg_then_exit ?_ | refine eg_in_exit ?_ | refine eg_in_other rfl ?_)
  refine rb rfl rfl rfl rfl (a_box rfl rfl) ?_; intro bv kv hbv hNv hlev hkv
  have cv := cells_at (vs := v.cs a0 c0 a1 c1 a2 c2) hkv rfl
  repeat (first | refine cg_seq ?_ | refine cg_region ?_ | refine rg_nil ?_ | refine eg_then ?_ | refine qsp ?_ | refine qsn ?_ | refine qsa ?_ | refine qss ?_ | refine qsi ?_ | refine qsz ?_ | refine qsl ?_ | refine qsg ?_ | refine qsf ?_ | refine qsd ?_ | refine qsE ?_ | refine qsX ?_ | refine qse ?_ | refine qsx ?_ | refine qso ?_ | refine cg_cond_true rfl ?_ | refine cg_cond_false rfl ?_ | refine cg_skip ?_ | refine cg_block ?_ | refine eg_in_normal ?_ | refine cg_ret ?_ | refine eg_then_ret ?_ | refine eg_in_ret ?_ | refine cg_exit ?_ | refine eg_then_exit ?_ | refine eg_in_exit ?_ | refine eg_in_other rfl ?_)
  refine rb rfl rfl rfl rfl (a_box rfl rfl) ?_; intro bg kg hbg hNg hleg hkg
  have cv := cv.le hleg
  have cg := cells_at (vs := g.vs) hkg rfl
  have hl := hl.le (hlev.trans hleg)
  have hv := hv.le (hlev.trans hleg)
  repeat (first | refine cg_seq ?_ | refine cg_region ?_ | refine rg_nil ?_ | refine eg_then ?_ | refine qsp ?_ | refine qsn ?_ | refine qsa ?_ | refine qss ?_ | refine qsi ?_ | refine qsz ?_ | refine qsl ?_ | refine qsg ?_ | refine qsf ?_ | refine qsd ?_ | refine qsE ?_ | refine qsX ?_ | refine qse ?_ | refine qsx ?_ | refine qso ?_ | refine cg_cond_true rfl ?_ | refine cg_cond_false rfl ?_ | refine cg_skip ?_ | refine cg_block ?_ | refine eg_in_normal ?_ | refine cg_ret ?_ | refine eg_then_ret ?_ | refine eg_in_ret ?_ | refine cg_exit ?_ | refine eg_then_exit ?_ | refine eg_in_exit ?_ | refine eg_in_other rfl ?_)
  refine rv rfl rfl rfl (loc_call rfl rfl rfl rfl (fun k k' v hle ⟨a, c, h1, h2⟩ => ⟨a, c, h1, h2.le hle⟩) (show_ct (gone := []) to hl (none_sl _) (by omega))) ?_
  rintro k1 hle1 _ ⟨s1, d1, rfl, h1⟩
  have hl := hl.le hle1
  have hv := hv.le hle1
  have cv := cv.le hle1
  have cg := cg.le hle1
  repeat (first | refine cg_seq ?_ | refine cg_region ?_ | refine rg_nil ?_ | refine eg_then ?_ | refine qsp ?_ | refine qsn ?_ | refine qsa ?_ | refine qss ?_ | refine qsi ?_ | refine qsz ?_ | refine qsl ?_ | refine qsg ?_ | refine qsf ?_ | refine qsd ?_ | refine qsE ?_ | refine qsX ?_ | refine qse ?_ | refine qsx ?_ | refine qso ?_ | refine cg_cond_true rfl ?_ | refine cg_cond_false rfl ?_ | refine cg_skip ?_ | refine cg_block ?_ | refine eg_in_normal ?_ | refine cg_ret ?_ | refine eg_then_ret ?_ | refine eg_in_ret ?_ | refine cg_exit ?_ | refine eg_then_exit ?_ | refine eg_in_exit ?_ | refine eg_in_other rfl ?_)
  refine rv rfl rfl rfl (loc_call rfl rfl rfl rfl (fun k k' v hle ⟨a, c, h1, h2⟩ => ⟨a, c, h1, h2.le hle⟩) (show_ct (gone := []) farMark hl (none_sl _) (by omega))) ?_
  rintro k2 hle2 _ ⟨s2, d2, rfl, h2⟩
  have h1 := h1.le hle2
  have hv := hv.le hle2
  have cv := cv.le hle2
  have cg := cg.le hle2
  have w1 := toldB to l
  have w2 := toldB farMark l
  obtain ⟨l1, el1⟩ : ∃ x, x = l.filter (showB [] to) := ⟨_, rfl⟩
  obtain ⟨l2, el2⟩ : ∃ x, x = l.filter (showB [] farMark) := ⟨_, rfl⟩
  rw [← el1] at h1 w1 ⊢
  rw [← el2] at h2 w2 ⊢
  repeat (first | refine cg_seq ?_ | refine cg_region ?_ | refine rg_nil ?_ | refine eg_then ?_ | refine qsp ?_ | refine qsn ?_ | refine qsa ?_ | refine qss ?_ | refine qsi ?_ | refine qsz ?_ | refine qsl ?_ | refine qsg ?_ | refine qsf ?_ | refine qsd ?_ | refine qsE ?_ | refine qsX ?_ | refine qse ?_ | refine qsx ?_ | refine qso ?_ | refine cg_cond_true rfl ?_ | refine cg_cond_false rfl ?_ | refine cg_skip ?_ | refine cg_block ?_ | refine eg_in_normal ?_ | refine cg_ret ?_ | refine eg_then_ret ?_ | refine eg_in_ret ?_ | refine cg_exit ?_ | refine eg_then_exit ?_ | refine eg_in_exit ?_ | refine eg_in_other rfl ?_)
  refine cg_loop (fun (i : Nat) e k' => Le k2 k' ∧ i ≤ v.tx.done.length ∧ ∃ m n : Int, m = (sumD (countB l1) g (v.tx.done.take i) : Int) ∧ n = (sumD (countB l2) g (v.tx.done.take i) : Int) ∧ e = [(4, .is (.pointer (some ⟨bv, 0, none⟩))), (7, .is (.pointer (some ⟨bg, 0, none⟩))), (10, .is (.slice s1 l1.length d1)), (11, .is (.slice s2 l2.length d2)), (12, .is (.int .i64 m)), (13, .is (.int .i64 n)), (14, .is (.int .i64 (i : Int)))])
    (fun i => v.tx.done.length - i) 0 ⟨Le.refl _, Nat.zero_le _, 0, 0, by simp [sumD], by simp [sumD], rfl⟩ ⟨rfl, rfl, rfl, rfl, rfl, rfl, rfl, trivial⟩ ?_
  rintro i e k3 ⟨hle, hi, m, n, hm, hn, rfl⟩
  have cv3 := cv.le hle
  have cg3 := cg.le hle
  obtain ⟨r0, r1, r2⟩ := View.parts cv3
  obtain ⟨t0, t1, t2⟩ := Tx.parts r1
  obtain ⟨g0, g1, g2, g3⟩ := Gone.parts cg3
  have hm1 := sumD_le (l := v.tx.done) (g := g) w1 i
  have hm2 := sumD_le (l := v.tx.done) (g := g) w2 i
  have q1 : i * l.length ≤ 1000000 * 100 := Nat.mul_le_mul (by omega) hb
  repeat (first | refine cg_seq ?_ | refine cg_region ?_ | refine rg_nil ?_ | refine eg_then ?_ | refine qsp ?_ | refine qsn ?_ | refine qsa ?_ | refine qss ?_ | refine qsi ?_ | refine qsz ?_ | refine qsl ?_ | refine qsg ?_ | refine qsf ?_ | refine qsd ?_ | refine qsE ?_ | refine qsX ?_ | refine qse ?_ | refine qsx ?_ | refine qso ?_ | refine cg_cond_true rfl ?_ | refine cg_cond_false rfl ?_ | refine cg_skip ?_ | refine cg_block ?_ | refine eg_in_normal ?_ | refine cg_ret ?_ | refine eg_then_ret ?_ | refine eg_in_ret ?_ | refine cg_exit ?_ | refine eg_then_exit ?_ | refine eg_in_exit ?_ | refine eg_in_other rfl ?_)
  refine cg_cond rfl (fun h => ?_) (fun h => ?_)
  · have hlt : i < v.tx.done.length := by simpa using h
    obtain ⟨bx, ox, cx, rfl, ⟨rfl, hok⟩, hcx⟩ := (hv.le hle).el i v.tx.done[i] (List.getElem?_eq_getElem hlt)
    have e1 := sumD_succ (countB l1) g hlt
    have e2 := sumD_succ (countB l2) g hlt
    have z1 := w1 v.tx.done[i]
    have z2 := w2 v.tx.done[i]
    repeat (first | refine cg_seq ?_ | refine cg_region ?_ | refine rg_nil ?_ | refine eg_then ?_ | refine qsp ?_ | refine qsn ?_ | refine qsa ?_ | refine qss ?_ | refine qsi ?_ | refine qsz ?_ | refine qsl ?_ | refine qsg ?_ | refine qsf ?_ | refine qsd ?_ | refine qsE ?_ | refine qsX ?_ | refine qse ?_ | refine qsx ?_ | refine qso ?_ | refine cg_cond_true rfl ?_ | refine cg_cond_false rfl ?_ | refine cg_skip ?_ | refine cg_block ?_ | refine eg_in_normal ?_ | refine cg_ret ?_ | refine eg_then_ret ?_ | refine eg_in_ret ?_ | refine cg_exit ?_ | refine eg_then_exit ?_ | refine eg_in_exit ?_ | refine eg_in_other rfl ?_)
    refine rb rfl rfl rfl rfl (a_alloc rfl) ?_; intro b5 k5 hb5 hN5 hle5 hk5
    repeat (first | refine cg_seq ?_ | refine cg_region ?_ | refine rg_nil ?_ | refine eg_then ?_ | refine qsp ?_ | refine qsn ?_ | refine qsa ?_ | refine qss ?_ | refine qsi ?_ | refine qsz ?_ | refine qsl ?_ | refine qsg ?_ | refine qsf ?_ | refine qsd ?_ | refine qsE ?_ | refine qsX ?_ | refine qse ?_ | refine qsx ?_ | refine qso ?_ | refine cg_cond_true rfl ?_ | refine cg_cond_false rfl ?_ | refine cg_skip ?_ | refine cg_block ?_ | refine eg_in_normal ?_ | refine cg_ret ?_ | refine eg_then_ret ?_ | refine eg_in_ret ?_ | refine cg_exit ?_ | refine eg_then_exit ?_ | refine eg_in_exit ?_ | refine eg_in_other rfl ?_)
    refine rw1 rfl rfl rfl rfl rfl rfl rfl hk5 rfl (.inl hN5) ?_ ?_; (simp [Tp.vs, Mark.vs, OpenT.vs, Gone.vs, Tx.cs, View.cs, Rec.vs, Batch.cs, Who.vs, Pl.vs, Value.oneCell']); intro k6 ht6 hk6
    have c6 := cells_at (vs := v.tx.done[i].vs) hk6 rfl
    have hle6 : Le k3 k6 := ht6 k3 hle5 hb5
    have cg6 := cg3.le hle6
    obtain ⟨g0, g1, g2, g3⟩ := Gone.parts cg6
    obtain ⟨p0, p1, p2, p3⟩ := Gone.parts c6
    repeat (first | refine cg_seq ?_ | refine cg_region ?_ | refine rg_nil ?_ | refine eg_then ?_ | refine qsp ?_ | refine qsn ?_ | refine qsa ?_ | refine qss ?_ | refine qsi ?_ | refine qsz ?_ | refine qsl ?_ | refine qsg ?_ | refine qsf ?_ | refine qsd ?_ | refine qsE ?_ | refine qsX ?_ | refine qse ?_ | refine qsx ?_ | refine qso ?_ | refine cg_cond_true rfl ?_ | refine cg_cond_false rfl ?_ | refine cg_skip ?_ | refine cg_block ?_ | refine eg_in_normal ?_ | refine cg_ret ?_ | refine eg_then_ret ?_ | refine eg_in_ret ?_ | refine cg_exit ?_ | refine eg_then_exit ?_ | refine eg_in_exit ?_ | refine eg_in_other rfl ?_)
    cases y1 : (v.tx.done[i].pid == g.pid)
    · repeat (first | refine cg_seq ?_ | refine cg_region ?_ | refine rg_nil ?_ | refine eg_then ?_ | refine qsp ?_ | refine qsn ?_ | refine qsa ?_ | refine qss ?_ | refine qsi ?_ | refine qsz ?_ | refine qsl ?_ | refine qsg ?_ | refine qsf ?_ | refine qsd ?_ | refine qsE ?_ | refine qsX ?_ | refine qse ?_ | refine qsx ?_ | refine qso ?_ | refine cg_cond_true rfl ?_ | refine cg_cond_false rfl ?_ | refine cg_skip ?_ | refine cg_block ?_ | refine eg_in_normal ?_ | refine cg_ret ?_ | refine eg_then_ret ?_ | refine eg_in_ret ?_ | refine cg_exit ?_ | refine eg_then_exit ?_ | refine eg_in_exit ?_ | refine eg_in_other rfl ?_)
      refine eg_again (i + 1) _ ⟨hle.trans hle6, hlt, _, _, ?_, ?_, rfl⟩ (by omega) ⟨rfl, rfl, rfl, rfl, rfl, rfl, rfl, trivial⟩
      · rw [e1, hm]; simp at y1; simp [sameG, y1]
      · rw [e2, hn]; simp at y1; simp [sameG, y1]
    simp at y1
    repeat (first | refine cg_seq ?_ | refine cg_region ?_ | refine rg_nil ?_ | refine eg_then ?_ | refine qsp ?_ | refine qsn ?_ | refine qsa ?_ | refine qss ?_ | refine qsi ?_ | refine qsz ?_ | refine qsl ?_ | refine qsg ?_ | refine qsf ?_ | refine qsd ?_ | refine qsE ?_ | refine qsX ?_ | refine qse ?_ | refine qsx ?_ | refine qso ?_ | refine cg_cond_true rfl ?_ | refine cg_cond_false rfl ?_ | refine cg_skip ?_ | refine cg_block ?_ | refine eg_in_normal ?_ | refine cg_ret ?_ | refine eg_then_ret ?_ | refine eg_in_ret ?_ | refine cg_exit ?_ | refine eg_then_exit ?_ | refine eg_in_exit ?_ | refine eg_in_other rfl ?_)
    cases y2 : (v.tx.done[i].no == g.no)
    · repeat (first | refine cg_seq ?_ | refine cg_region ?_ | refine rg_nil ?_ | refine eg_then ?_ | refine qsp ?_ | refine qsn ?_ | refine qsa ?_ | refine qss ?_ | refine qsi ?_ | refine qsz ?_ | refine qsl ?_ | refine qsg ?_ | refine qsf ?_ | refine qsd ?_ | refine qsE ?_ | refine qsX ?_ | refine qse ?_ | refine qsx ?_ | refine qso ?_ | refine cg_cond_true rfl ?_ | refine cg_cond_false rfl ?_ | refine cg_skip ?_ | refine cg_block ?_ | refine eg_in_normal ?_ | refine cg_ret ?_ | refine eg_then_ret ?_ | refine eg_in_ret ?_ | refine cg_exit ?_ | refine eg_then_exit ?_ | refine eg_in_exit ?_ | refine eg_in_other rfl ?_)
      refine eg_again (i + 1) _ ⟨hle.trans hle6, hlt, _, _, ?_, ?_, rfl⟩ (by omega) ⟨rfl, rfl, rfl, rfl, rfl, rfl, rfl, trivial⟩
      · rw [e1, hm]; simp at y2; simp [sameG, y1, y2]
      · rw [e2, hn]; simp at y2; simp [sameG, y1, y2]
    simp at y2
    clear p0 p1 p2 p3
    repeat (first | refine cg_seq ?_ | refine cg_region ?_ | refine rg_nil ?_ | refine eg_then ?_ | refine qsp ?_ | refine qsn ?_ | refine qsa ?_ | refine qss ?_ | refine qsi ?_ | refine qsz ?_ | refine qsl ?_ | refine qsg ?_ | refine qsf ?_ | refine qsd ?_ | refine qsE ?_ | refine qsX ?_ | refine qse ?_ | refine qsx ?_ | refine qso ?_ | refine cg_cond_true rfl ?_ | refine cg_cond_false rfl ?_ | refine cg_skip ?_ | refine cg_block ?_ | refine eg_in_normal ?_ | refine cg_ret ?_ | refine eg_then_ret ?_ | refine eg_in_ret ?_ | refine cg_exit ?_ | refine eg_then_exit ?_ | refine eg_in_exit ?_ | refine eg_in_other rfl ?_)
    have h1' := h1.le (hle.trans hle6)
    have h2' := h2.le (hle.trans hle6)
    refine rs rfl rfl (loc_call_is rfl rfl rfl rfl (count_ct v.tx.done[i] h1')) ?_
    repeat (first | refine cg_seq ?_ | refine cg_region ?_ | refine rg_nil ?_ | refine eg_then ?_ | refine qsp ?_ | refine qsn ?_ | refine qsa ?_ | refine qss ?_ | refine qsi ?_ | refine qsz ?_ | refine qsl ?_ | refine qsg ?_ | refine qsf ?_ | refine qsd ?_ | refine qsE ?_ | refine qsX ?_ | refine qse ?_ | refine qsx ?_ | refine qso ?_ | refine cg_cond_true rfl ?_ | refine cg_cond_false rfl ?_ | refine cg_skip ?_ | refine cg_block ?_ | refine eg_in_normal ?_ | refine cg_ret ?_ | refine eg_then_ret ?_ | refine eg_in_ret ?_ | refine cg_exit ?_ | refine eg_then_exit ?_ | refine eg_in_exit ?_ | refine eg_in_other rfl ?_)
    refine rs rfl rfl (loc_call_is rfl rfl rfl rfl (count_ct v.tx.done[i] h2')) ?_
    repeat (first | refine cg_seq ?_ | refine cg_region ?_ | refine rg_nil ?_ | refine eg_then ?_ | refine qsp ?_ | refine qsn ?_ | refine qsa ?_ | refine qss ?_ | refine qsi ?_ | refine qsz ?_ | refine qsl ?_ | refine qsg ?_ | refine qsf ?_ | refine qsd ?_ | refine qsE ?_ | refine qsX ?_ | refine qse ?_ | refine qsx ?_ | refine qso ?_ | refine cg_cond_true rfl ?_ | refine cg_cond_false rfl ?_ | refine cg_skip ?_ | refine cg_block ?_ | refine eg_in_normal ?_ | refine cg_ret ?_ | refine eg_then_ret ?_ | refine eg_in_ret ?_ | refine cg_exit ?_ | refine eg_then_exit ?_ | refine eg_in_exit ?_ | refine eg_in_other rfl ?_)
    refine eg_again (i + 1) _ ⟨hle.trans hle6, hlt, _, _, ?_, ?_, rfl⟩ (by omega) ⟨rfl, rfl, rfl, rfl, rfl, rfl, rfl, trivial⟩
    · rw [e1, hm]; simp [sameG, y1, y2]
    · rw [e2, hn]; simp [sameG, y1, y2]
  · have hil : i = v.tx.done.length := by simp at h; omega
    subst hil
    rw [List.take_length] at hm hn hm1 hm2
    subst hm
    subst hn
    repeat (first | refine cg_seq ?_ | refine cg_region ?_ | refine rg_nil ?_ | refine eg_then ?_ | refine qsp ?_ | refine qsn ?_ | refine qsa ?_ | refine qss ?_ | refine qsi ?_ | refine qsz ?_ | refine qsl ?_ | refine qsg ?_ | refine qsf ?_ | refine qsd ?_ | refine qsE ?_ | refine qsX ?_ | refine qse ?_ | refine qsx ?_ | refine qso ?_ | refine cg_cond_true rfl ?_ | refine cg_cond_false rfl ?_ | refine cg_skip ?_ | refine cg_block ?_ | refine eg_in_normal ?_ | refine cg_ret ?_ | refine eg_then_ret ?_ | refine eg_in_ret ?_ | refine cg_exit ?_ | refine eg_then_exit ?_ | refine eg_in_exit ?_ | refine eg_in_other rfl ?_)
    refine eg_return2 rfl rfl rfl ?_
    rw [el1, el2]; rfl
end Go.Wm
namespace Go.Wm
open Go.RowKit Go.Proofs
attribute [local irreducible] RG CG EG WA Loc Det Alc CT Exit.then Exit.inBlock Code.wp bodyPost
def shortP (l : List Batch) : Bool := (l.all fewB && decide ((l.length : Int) ≤ 40)) && decide (Rising l)
set_option maxHeartbeats 1000000 in
theorem shortSets_ct {k : PH} {a : Option Addr} {c : Nat} {l : List (List Batch)} (hl : Sl (tSl tBatch) k a c l) (hsh : ∀ x ∈ l, ∀ b ∈ x, Short b) : CT Try.prog 34 #[.slice a l.length c] k (fun _ v => v = .bool ((l.take 20).all shortP)) := by
  refine ct_of_body (l := [_]) Try.func34 rfl Try.ntmps34 (by simp) (fun _ _ _ _ h => h) fun F hF0 hFm => ?_
  have b1 := hl.cap; have b2 := hl.max; unfold maxLen at b2
  repeat (first | refine cg_seq ?_ | refine cg_region ?_ | refine rg_nil ?_ | refine eg_then ?_ | refine qsp ?_ | refine qsn ?_ | refine qsa ?_ | refine qss ?_ | refine qsi ?_ | refine qsz ?_ | refine qsl ?_ | refine qsg ?_ | refine qsf ?_ | refine qsd ?_ | refine qsE ?_ | refine qsX ?_ | refine qse ?_ | refine qsx ?_ | refine qso ?_ | refine cg_cond_true rfl ?_ | refine cg_cond_false rfl ?_ | refine cg_skip ?_ | refine cg_block ?_ | refine eg_in_normal ?_ | refine cg_ret ?_ | refine eg_then_ret ?_ | refine eg_in_ret ?_ | refine cg_exit ?_ | refine eg_then_exit ?_ | refine eg_in_exit ?_ | refine eg_in_other rfl ?_)
  refine cg_loop (fun (i : Nat) e k' => Le k k' ∧ i ≤ l.length ∧ i ≤ 20 ∧ (∀ j, (h : j < l.length) → j < i → shortP l[j] = true) ∧ e = [(0, .is (.slice a l.length c)), (3, .is (.int .i64 (i : Int)))])
    (fun i => l.length - i) 0 ⟨Le.refl _, Nat.zero_le _, Nat.zero_le _, fun j _ hj => by omega, rfl⟩ ⟨rfl, rfl, trivial⟩ ?_
  rintro i e k1 ⟨hle, hi, h20, hno, rfl⟩
  have hend : (i = l.length ∨ i = 20) → (l.take 20).all shortP = true := fun hx => by
    rw [List.all_eq_true]
    intro x hx'
    obtain ⟨j, hj, rfl⟩ := List.getElem_of_mem hx'
    simp only [List.length_take] at hj
    rw [List.getElem_take]
    exact hno j (by omega) (by omega)
  repeat (first | refine cg_seq ?_ | refine cg_region ?_ | refine rg_nil ?_ | refine eg_then ?_ | refine qsp ?_ | refine qsn ?_ | refine qsa ?_ | refine qss ?_ | refine qsi ?_ | refine qsz ?_ | refine qsl ?_ | refine qsg ?_ | refine qsf ?_ | refine qsd ?_ | refine qsE ?_ | refine qsX ?_ | refine qse ?_ | refine qsx ?_ | refine qso ?_ | refine cg_cond_true rfl ?_ | refine cg_cond_false rfl ?_ | refine cg_skip ?_ | refine cg_block ?_ | refine eg_in_normal ?_ | refine cg_ret ?_ | refine eg_then_ret ?_ | refine eg_in_ret ?_ | refine cg_exit ?_ | refine eg_then_exit ?_ | refine eg_in_exit ?_ | refine eg_in_other rfl ?_)
  cases q0 : decide ((i : Int) < (l.length : Int))
  · repeat (first | refine cg_seq ?_ | refine cg_region ?_ | refine rg_nil ?_ | refine eg_then ?_ | refine qsp ?_ | refine qsn ?_ | refine qsa ?_ | refine qss ?_ | refine qsi ?_ | refine qsz ?_ | refine qsl ?_ | refine qsg ?_ | refine qsf ?_ | refine qsd ?_ | refine qsE ?_ | refine qsX ?_ | refine qse ?_ | refine qsx ?_ | refine qso ?_ | refine cg_cond_true rfl ?_ | refine cg_cond_false rfl ?_ | refine cg_skip ?_ | refine cg_block ?_ | refine eg_in_normal ?_ | refine cg_ret ?_ | refine eg_then_ret ?_ | refine eg_in_ret ?_ | refine cg_exit ?_ | refine eg_then_exit ?_ | refine eg_in_exit ?_ | refine eg_in_other rfl ?_)
    refine eg_return rfl rfl ?_
    rw [hend (.inl (by simp at q0; omega))]
  have hlt : i < l.length := by simpa using q0
  repeat (first | refine cg_seq ?_ | refine cg_region ?_ | refine rg_nil ?_ | refine eg_then ?_ | refine qsp ?_ | refine qsn ?_ | refine qsa ?_ | refine qss ?_ | refine qsi ?_ | refine qsz ?_ | refine qsl ?_ | refine qsg ?_ | refine qsf ?_ | refine qsd ?_ | refine qsE ?_ | refine qsX ?_ | refine qse ?_ | refine qsx ?_ | refine qso ?_ | refine cg_cond_true rfl ?_ | refine cg_cond_false rfl ?_ | refine cg_skip ?_ | refine cg_block ?_ | refine eg_in_normal ?_ | refine cg_ret ?_ | refine eg_then_ret ?_ | refine eg_in_ret ?_ | refine cg_exit ?_ | refine eg_then_exit ?_ | refine eg_in_exit ?_ | refine eg_in_other rfl ?_)
  refine cg_cond rfl (fun h => ?_) (fun h => ?_)
  · have hi20 : i < 20 := by simp at h; omega
    obtain ⟨bx, ox, cx, rfl, ⟨ra, rc, rfl, hr⟩, hcx⟩ := (hl.le hle).el i l[i] (List.getElem?_eq_getElem hlt)
    have bad : shortP l[i] = false → Value.bool false = .bool ((l.take 20).all shortP) := fun hb => by
      have : (l.take 20).all shortP = false := by
        rw [List.all_eq_false]
        exact ⟨l[i], List.mem_take_iff_getElem.2 ⟨i, by omega, rfl⟩, by simp [hb]⟩
      rw [this]
    have hs := hsh _ (List.getElem_mem hlt)
    repeat (first | refine cg_seq ?_ | refine cg_region ?_ | refine rg_nil ?_ | refine eg_then ?_ | refine qsp ?_ | refine qsn ?_ | refine qsa ?_ | refine qss ?_ | refine qsi ?_ | refine qsz ?_ | refine qsl ?_ | refine qsg ?_ | refine qsf ?_ | refine qsd ?_ | refine qsE ?_ | refine qsX ?_ | refine qse ?_ | refine qsx ?_ | refine qso ?_ | refine cg_cond_true rfl ?_ | refine cg_cond_false rfl ?_ | refine cg_skip ?_ | refine cg_block ?_ | refine eg_in_normal ?_ | refine cg_ret ?_ | refine eg_then_ret ?_ | refine eg_in_ret ?_ | refine cg_exit ?_ | refine eg_then_exit ?_ | refine eg_in_exit ?_ | refine eg_in_other rfl ?_)
    refine rs rfl rfl (loc_call_is rfl rfl rfl rfl (fewAll_ct 40 hr hs)) ?_
    repeat (first | refine cg_seq ?_ | refine cg_region ?_ | refine rg_nil ?_ | refine eg_then ?_ | refine qsp ?_ | refine qsn ?_ | refine qsa ?_ | refine qss ?_ | refine qsi ?_ | refine qsz ?_ | refine qsl ?_ | refine qsg ?_ | refine qsf ?_ | refine qsd ?_ | refine qsE ?_ | refine qsX ?_ | refine qse ?_ | refine qsx ?_ | refine qso ?_ | refine cg_cond_true rfl ?_ | refine cg_cond_false rfl ?_ | refine cg_skip ?_ | refine cg_block ?_ | refine eg_in_normal ?_ | refine cg_ret ?_ | refine eg_then_ret ?_ | refine eg_in_ret ?_ | refine cg_exit ?_ | refine eg_then_exit ?_ | refine eg_in_exit ?_ | refine eg_in_other rfl ?_)
    cases q1 : (l[i].all fewB && decide ((l[i].length : Int) ≤ 40))
    · repeat (first | refine cg_seq ?_ | refine cg_region ?_ | refine rg_nil ?_ | refine eg_then ?_ | refine qsp ?_ | refine qsn ?_ | refine qsa ?_ | refine qss ?_ | refine qsi ?_ | refine qsz ?_ | refine qsl ?_ | refine qsg ?_ | refine qsf ?_ | refine qsd ?_ | refine qsE ?_ | refine qsX ?_ | refine qse ?_ | refine qsx ?_ | refine qso ?_ | refine cg_cond_true rfl ?_ | refine cg_cond_false rfl ?_ | refine cg_skip ?_ | refine cg_block ?_ | refine eg_in_normal ?_ | refine cg_ret ?_ | refine eg_then_ret ?_ | refine eg_in_ret ?_ | refine cg_exit ?_ | refine eg_then_exit ?_ | refine eg_in_exit ?_ | refine eg_in_other rfl ?_)
      exact eg_return rfl rfl (bad (by simp [shortP, q1]))
    repeat (first | refine cg_seq ?_ | refine cg_region ?_ | refine rg_nil ?_ | refine eg_then ?_ | refine qsp ?_ | refine qsn ?_ | refine qsa ?_ | refine qss ?_ | refine qsi ?_ | refine qsz ?_ | refine qsl ?_ | refine qsg ?_ | refine qsf ?_ | refine qsd ?_ | refine qsE ?_ | refine qsX ?_ | refine qse ?_ | refine qsx ?_ | refine qso ?_ | refine cg_cond_true rfl ?_ | refine cg_cond_false rfl ?_ | refine cg_skip ?_ | refine cg_block ?_ | refine eg_in_normal ?_ | refine cg_ret ?_ | refine eg_then_ret ?_ | refine eg_in_ret ?_ | refine cg_exit ?_ | refine eg_then_exit ?_ | refine eg_in_exit ?_ | refine eg_in_other rfl ?_)
    refine rs rfl rfl (loc_call_is rfl rfl rfl rfl (rising_ct hr)) ?_
    repeat (first | refine cg_seq ?_ | refine cg_region ?_ | refine rg_nil ?_ | refine eg_then ?_ | refine qsp ?_ | refine qsn ?_ | refine qsa ?_ | refine qss ?_ | refine qsi ?_ | refine qsz ?_ | refine qsl ?_ | refine qsg ?_ | refine qsf ?_ | refine qsd ?_ | refine qsE ?_ | refine qsX ?_ | refine qse ?_ | refine qsx ?_ | refine qso ?_ | refine cg_cond_true rfl ?_ | refine cg_cond_false rfl ?_ | refine cg_skip ?_ | refine cg_block ?_ | refine eg_in_normal ?_ | refine cg_ret ?_ | refine eg_then_ret ?_ | refine eg_in_ret ?_ | refine cg_exit ?_ | refine eg_then_exit ?_ | refine eg_in_exit ?_ | refine eg_in_other rfl ?_)
    cases q2 : decide (Rising l[i])
    · repeat (first | refine cg_seq ?_ | refine cg_region ?_ | refine rg_nil ?_ | refine eg_then ?_ | refine qsp ?_ | refine qsn ?_ | refine qsa ?_ | refine qss ?_ | refine qsi ?_ | refine qsz ?_ | refine qsl ?_ | refine qsg ?_ | refine qsf ?_ | refine qsd ?_ | refine qsE ?_ | refine qsX ?_ | refine qse ?_ | refine qsx ?_ | refine qso ?_ | refine cg_cond_true rfl ?_ | refine cg_cond_false rfl ?_ | refine cg_skip ?_ | refine cg_block ?_ | refine eg_in_normal ?_ | refine cg_ret ?_ | refine eg_then_ret ?_ | refine eg_in_ret ?_ | refine cg_exit ?_ | refine eg_then_exit ?_ | refine eg_in_exit ?_ | refine eg_in_other rfl ?_)
      exact eg_return rfl rfl (bad (by unfold shortP; rw [q1, q2]; rfl))
    · repeat (first | refine cg_seq ?_ | refine cg_region ?_ | refine rg_nil ?_ | refine eg_then ?_ | refine qsp ?_ | refine qsn ?_ | refine qsa ?_ | refine qss ?_ | refine qsi ?_ | refine qsz ?_ | refine qsl ?_ | refine qsg ?_ | refine qsf ?_ | refine qsd ?_ | refine qsE ?_ | refine qsX ?_ | refine qse ?_ | refine qsx ?_ | refine qso ?_ | refine cg_cond_true rfl ?_ | refine cg_cond_false rfl ?_ | refine cg_skip ?_ | refine cg_block ?_ | refine eg_in_normal ?_ | refine cg_ret ?_ | refine eg_then_ret ?_ | refine eg_in_ret ?_ | refine cg_exit ?_ | refine eg_then_exit ?_ | refine eg_in_exit ?_ | refine eg_in_other rfl ?_)
      refine eg_again (i + 1) _ ⟨hle, hlt, hi20, fun j hj hji => ?_, rfl⟩ (by omega) ⟨rfl, rfl, trivial⟩
      by_cases e : j = i
      · subst e; unfold shortP; rw [q1, q2]; rfl
      · exact hno j hj (by omega)
  · repeat (first | refine cg_seq ?_ | refine cg_region ?_ | refine rg_nil ?_ | refine eg_then ?_ | refine qsp ?_ | refine qsn ?_ | refine qsa ?_ | refine qss ?_ | refine qsi ?_ | refine qsz ?_ | refine qsl ?_ | refine qsg ?_ | refine qsf ?_ | refine qsd ?_ | refine qsE ?_ | refine qsX ?_ | refine qse ?_ | refine qsx ?_ | refine qso ?_ | refine cg_cond_true rfl ?_ | refine cg_cond_false rfl ?_ | refine cg_skip ?_ | refine cg_block ?_ | refine eg_in_normal ?_ | refine cg_ret ?_ | refine eg_then_ret ?_ | refine eg_in_ret ?_ | refine cg_exit ?_ | refine eg_then_exit ?_ | refine eg_in_exit ?_ | refine eg_in_other rfl ?_)
    refine eg_return rfl rfl ?_
    rw [hend (.inr (by simp at h; omega))]

/-! ### the plain law -/
theorem countB_mem {l : List Batch} {g : Gone} (h : countB l g ≠ 0) : ∃ b ∈ l, cntP g b = true := by
  unfold countB at h
  rw [← Nat.pos_iff_ne_zero, List.countP_pos_iff] at h
  exact h
theorem sumD_mem {w : Gone → Nat} {g : Gone} {l : List Gone} (h : sumD w g l ≠ 0) : ∃ d ∈ l, sameG g d = true ∧ w d ≠ 0 := by
  induction l with
  | nil => simp [sumD] at h
  | cons x r ih =>
    simp only [sumD, List.map_cons, List.sum_cons] at h
    by_cases hx : sameG g x = true ∧ w x ≠ 0
    · exact ⟨x, by simp, hx⟩
    · have : (if sameG g x then w x else 0) = 0 := by
        split
        · by_cases hw : w x = 0
          · exact hw
          · exact absurd ⟨by assumption, hw⟩ hx
        · rfl
      rw [this] at h
      obtain ⟨d, hd, p⟩ := ih (by unfold sumD; omega)
      exact ⟨d, by simp [hd], p⟩
theorem sumD_eq {w w' : Gone → Nat} {g : Gone} {l : List Gone} (h : ∀ d ∈ l, sameG g d = true → w d = w' d) : sumD w g l = sumD w' g l := by
  unfold sumD
  congr 1
  refine List.map_congr_left fun d hd => ?_
  split
  · exact h d hd (by assumption)
  · rfl
theorem rising_ends {l : List Batch} (h : Rising l) {b : Batch} (hb : b ∈ l) : b.base ≤ b.last := by
  obtain ⟨i, hi, rfl⟩ := List.getElem_of_mem hb
  have h1 := (h i hi).1
  unfold chkB at h1
  split at h1
  · rename_i hf
    exact hf.span.1
  · cases h1
/-- One set of batches: at or ahead of where every ended one of the number begins, none; behind them all, all. -/
theorem told_none {to : Int} {v : View} {l : List Batch} {g : Gone} (hr : Rising l) (h : ∀ d ∈ v.tx.done, sameG g d = true → to ≤ d.first) : toldN to v l g = 0 := by
  refine Decidable.byContradiction fun hn => ?_
  obtain ⟨d, hd, hs, hc⟩ := sumD_mem hn
  obtain ⟨b, hb, hp⟩ := countB_mem hc
  rw [List.mem_filter] at hb
  have h1 := h d hd hs
  have h2 := rising_ends hr hb.1
  have h3 := hb.2
  simp [cntP, isP] at hp
  simp [showB] at h3
  have h4 := h3.2
  have h5 := hp.1.1.2
  omega
theorem told_all {to : Int} {v : View} {l : List Batch} {g : Gone} (hto : to ≤ farMark) (h : ∀ d ∈ v.tx.done, sameG g d = true → d.last < to) : toldN farMark v l g = toldN to v l g := by
  refine sumD_eq fun d hd hs => ?_
  have h1 := h d hd hs
  unfold countB
  rw [List.countP_filter, List.countP_filter]
  refine List.countP_congr fun b hb => ?_
  simp [cntP, isP, showB]
  intro _ _ _ _ _ hz _
  constructor <;> intro _ <;> omega
theorem told_mono {to : Int} (hto : to ≤ farMark) (v : View) (l : List Batch) (g : Gone) : toldN to v l g ≤ toldN farMark v l g := by
  refine sumD_mono (fun d => ?_) g _
  unfold countB
  rw [List.countP_filter, List.countP_filter]
  refine List.countP_mono_left fun b hb hp => ?_
  simp [showB] at hp ⊢
  exact ⟨hp.1, hp.2.1, by have := hp.2.2; omega⟩
/-- With a whole cut: behind the ended one nothing is hidden, else nothing is shown. -/
theorem told_cut {l : List View} {cut : List Mark} {s : List Batch} (hw : wholeB l cut = true) (hr : Rising s) {j : Nat} (hj : j < l.length) (hj' : j < cut.length) (hto : cut[j].off ≤ farMark) (g : Gone) :
    (belowP l (offs cut) g.pid g.no = true → hidN cut[j].off l[j] s g = 0) ∧ (belowP l (offs cut) g.pid g.no = false → toldN cut[j].off l[j] s g = 0) := by
  have hj2 : j < (offs cut).length := by simp [offs]; exact hj'
  have he : (offs cut)[j] = cut[j].off := by simp [offs]
  constructor
  · intro hb
    unfold hidN
    rw [told_all hto fun d hd hs => ?_]
    · omega
    refine Decidable.byContradiction fun hn => ?_
    have : belowP l (offs cut) g.pid g.no = false := belowP_false.2 ⟨j, hj, hj2, d, hd, by simp [sameG] at hs; exact hs.1, by simp [sameG] at hs; exact hs.2, by rw [he]; omega⟩
    rw [hb] at this
    cases this
  · intro hb
    refine told_none hr fun d hd hs => ?_
    simp [sameG] at hs
    have := (wholeB_iff.1 hw).2.2.2.1 j hj hj2 d hd (by rw [hs.1, hs.2]; exact hb)
    rw [he] at this
    exact this
theorem toldN_le {to : Int} {v : View} {l : List Batch} (g : Gone) (h1 : v.tx.done.length ≤ 1000000) (h2 : l.length ≤ 100) : toldN to v l g ≤ 100000000 := by
  have h := sumD_le (l := v.tx.done) (g := g) (toldB to l) v.tx.done.length
  rw [List.take_length] at h
  have : v.tx.done.length * l.length ≤ 1000000 * 100 := Nat.mul_le_mul h1 h2
  unfold toldN
  omega
end Go.Wm

/-
  Whether shares are the same, whether what is handed in is few, and the chapter's example. Conditions: that what is handed in reads as data.
-/
import Derived.Test.YtapfmndcjcdcjaaB3
import Derived.Test.YtapfmndcjcdcjaaT1
set_option linter.all false
namespace Go.Wm
open Go.RowKit Go.Proofs
attribute [local irreducible] RG CG EG WA Loc Det Alc CT Exit.then Exit.inBlock Code.wp bodyPost

set_option maxHeartbeats 1000000 in
theorem same_ct {k : PH} {a b : Option Addr} {ca cb : Nat} {xs ys : List (List Tp)} (hx : Sl (tSl tTp) k a ca xs) (hy : Sl (tSl tTp) k b cb ys) :
    CT Try.prog 15 #[.slice a xs.length ca, .slice b ys.length cb] k (fun _ v => v = .bool (decide (xs = ys))) := by
  refine ct_of_body (l := [_, _]) Try.func15 rfl Try.ntmps15 (by simp) (fun _ _ _ _ h => h) fun F hF0 hFm => ?_
  have b1 := hx.cap; have b2 := hx.max; unfold maxLen at b2
  repeat (first | refine cg_seq ?_ | refine cg_region ?_ | refine rg_nil ?_ | refine eg_then ?_ | refine qsp ?_ | refine qsn ?_ | refine qsa ?_ | refine qss ?_ | refine qsi ?_ | refine qsz ?_ | refine qsl ?_ | refine qsg ?_ | refine qsf ?_ | refine qsd ?_ | refine qse ?_ | refine qsx ?_ | refine qso ?_ | refine cg_cond_true rfl ?_ | refine cg_cond_false rfl ?_ | refine cg_skip ?_ | refine cg_block ?_ | refine eg_in_normal ?_ | refine cg_ret ?_ | refine eg_then_ret ?_ | refine eg_in_ret ?_ | refine cg_exit ?_ | refine eg_then_exit ?_ | refine eg_in_exit ?_ | refine eg_in_other rfl ?_)
  refine cg_cond rfl (fun h => ?_) (fun h => ?_)
  · repeat (first | refine cg_seq ?_ | refine cg_region ?_ | refine rg_nil ?_ | refine eg_then ?_ | refine qsp ?_ | refine qsn ?_ | refine qsa ?_ | refine qss ?_ | refine qsi ?_ | refine qsz ?_ | refine qsl ?_ | refine qsg ?_ | refine qsf ?_ | refine qsd ?_ | refine qse ?_ | refine qsx ?_ | refine qso ?_ | refine cg_cond_true rfl ?_ | refine cg_cond_false rfl ?_ | refine cg_skip ?_ | refine cg_block ?_ | refine eg_in_normal ?_ | refine cg_ret ?_ | refine eg_then_ret ?_ | refine eg_in_ret ?_ | refine cg_exit ?_ | refine eg_then_exit ?_ | refine eg_in_exit ?_ | refine eg_in_other rfl ?_)
    refine eg_return rfl rfl ?_
    have : xs ≠ ys := by rintro rfl; simp at h
    simp [this]
  · have hlen : xs.length = ys.length := by
      simp at h; omega
    repeat (first | refine cg_seq ?_ | refine cg_region ?_ | refine rg_nil ?_ | refine eg_then ?_ | refine qsp ?_ | refine qsn ?_ | refine qsa ?_ | refine qss ?_ | refine qsi ?_ | refine qsz ?_ | refine qsl ?_ | refine qsg ?_ | refine qsf ?_ | refine qsd ?_ | refine qse ?_ | refine qsx ?_ | refine qso ?_ | refine cg_cond_true rfl ?_ | refine cg_cond_false rfl ?_ | refine cg_skip ?_ | refine cg_block ?_ | refine eg_in_normal ?_ | refine cg_ret ?_ | refine eg_then_ret ?_ | refine eg_in_ret ?_ | refine cg_exit ?_ | refine eg_then_exit ?_ | refine eg_in_exit ?_ | refine eg_in_other rfl ?_)
    refine cg_loop (fun (i : Nat) e k' => k' = k ∧ i ≤ xs.length ∧ (∀ j, j < i → xs[j]? = ys[j]?) ∧ e = [(0, .is (.slice a xs.length ca)), (1, .is (.slice b ys.length cb)), (12, .is (.int .i64 (xs.length : Int))), (13, .is (.int .i64 (i : Int)))])
      (fun i => xs.length - i) 0 ⟨rfl, Nat.zero_le _, fun j hj => by omega, rfl⟩ ⟨rfl, rfl, rfl, rfl, trivial⟩ ?_
    rintro i e k1 ⟨rfl, hi, heq, rfl⟩
    repeat (first | refine cg_seq ?_ | refine cg_region ?_ | refine rg_nil ?_ | refine eg_then ?_ | refine qsp ?_ | refine qsn ?_ | refine qsa ?_ | refine qss ?_ | refine qsi ?_ | refine qsz ?_ | refine qsl ?_ | refine qsg ?_ | refine qsf ?_ | refine qsd ?_ | refine qse ?_ | refine qsx ?_ | refine qso ?_ | refine cg_cond_true rfl ?_ | refine cg_cond_false rfl ?_ | refine cg_skip ?_ | refine cg_block ?_ | refine eg_in_normal ?_ | refine cg_ret ?_ | refine eg_then_ret ?_ | refine eg_in_ret ?_ | refine cg_exit ?_ | refine eg_then_exit ?_ | refine eg_in_exit ?_ | refine eg_in_other rfl ?_)
    refine cg_cond rfl (fun h => ?_) (fun h => ?_)
    · have hlt : i < xs.length := by simpa using h
      have hlt2 : i < ys.length := by omega
      obtain ⟨bx, ox, cx, rfl, ⟨ax, acx, rfl, hsx⟩, hcx⟩ := hx.el i xs[i] (List.getElem?_eq_getElem hlt)
      obtain ⟨by', oy, cy, rfl, ⟨ay, acy, rfl, hsy⟩, hcy⟩ := hy.el i ys[i] (List.getElem?_eq_getElem hlt2)
      repeat (first | refine cg_seq ?_ | refine cg_region ?_ | refine rg_nil ?_ | refine eg_then ?_ | refine qsp ?_ | refine qsn ?_ | refine qsa ?_ | refine qss ?_ | refine qsi ?_ | refine qsz ?_ | refine qsl ?_ | refine qsg ?_ | refine qsf ?_ | refine qsd ?_ | refine qse ?_ | refine qsx ?_ | refine qso ?_ | refine cg_cond_true rfl ?_ | refine cg_cond_false rfl ?_ | refine cg_skip ?_ | refine cg_block ?_ | refine eg_in_normal ?_ | refine cg_ret ?_ | refine eg_then_ret ?_ | refine eg_in_ret ?_ | refine cg_exit ?_ | refine eg_then_exit ?_ | refine eg_in_exit ?_ | refine eg_in_other rfl ?_)
      refine cg_any (by kernel_rfl) rfl ?_
      repeat (first | refine qwp ?_ | refine qwn ?_ | refine qwa ?_ | refine qws ?_ | refine qwi ?_ | refine qwz ?_ | refine qwl ?_ | refine qwg ?_ | refine qwf ?_ | refine qwd ?_ | refine qwe ?_ | refine qwx ?_ | refine qwo ?_ | (refine wn rfl ?_; refine eg_then ?_))
      refine ws rfl (loc_call_is rfl rfl rfl rfl (sameTps_ct hsx hsy)) ?_
      repeat (first | refine qwp ?_ | refine qwn ?_ | refine qwa ?_ | refine qws ?_ | refine qwi ?_ | refine qwz ?_ | refine qwl ?_ | refine qwg ?_ | refine qwf ?_ | refine qwd ?_ | refine qwe ?_ | refine qwx ?_ | refine qwo ?_ | (refine wn rfl ?_; refine eg_then ?_))
      refine cg_cond rfl (fun h => ?_) (fun h => ?_)
      · repeat (first | refine cg_seq ?_ | refine cg_region ?_ | refine rg_nil ?_ | refine eg_then ?_ | refine qsp ?_ | refine qsn ?_ | refine qsa ?_ | refine qss ?_ | refine qsi ?_ | refine qsz ?_ | refine qsl ?_ | refine qsg ?_ | refine qsf ?_ | refine qsd ?_ | refine qse ?_ | refine qsx ?_ | refine qso ?_ | refine cg_cond_true rfl ?_ | refine cg_cond_false rfl ?_ | refine cg_skip ?_ | refine cg_block ?_ | refine eg_in_normal ?_ | refine cg_ret ?_ | refine eg_then_ret ?_ | refine eg_in_ret ?_ | refine cg_exit ?_ | refine eg_then_exit ?_ | refine eg_in_exit ?_ | refine eg_in_other rfl ?_)
        refine eg_return rfl rfl ?_
        have : xs ≠ ys := by
          rintro rfl
          simp at h
        simp [this]
      · repeat (first | refine cg_seq ?_ | refine cg_region ?_ | refine rg_nil ?_ | refine eg_then ?_ | refine qsp ?_ | refine qsn ?_ | refine qsa ?_ | refine qss ?_ | refine qsi ?_ | refine qsz ?_ | refine qsl ?_ | refine qsg ?_ | refine qsf ?_ | refine qsd ?_ | refine qse ?_ | refine qsx ?_ | refine qso ?_ | refine cg_cond_true rfl ?_ | refine cg_cond_false rfl ?_ | refine cg_skip ?_ | refine cg_block ?_ | refine eg_in_normal ?_ | refine cg_ret ?_ | refine eg_then_ret ?_ | refine eg_in_ret ?_ | refine cg_exit ?_ | refine eg_then_exit ?_ | refine eg_in_exit ?_ | refine eg_in_other rfl ?_)
        refine eg_again (i + 1) _ ⟨rfl, hlt, fun j hj => ?_, rfl⟩ (by omega) ⟨rfl, rfl, rfl, rfl, trivial⟩
        by_cases hji : j = i
        · subst hji
          rw [List.getElem?_eq_getElem hlt, List.getElem?_eq_getElem hlt2]
          have : xs[j] = ys[j] := by simpa using h
          rw [this]
        · exact heq j (by omega)
    · repeat (first | refine cg_seq ?_ | refine cg_region ?_ | refine rg_nil ?_ | refine eg_then ?_ | refine qsp ?_ | refine qsn ?_ | refine qsa ?_ | refine qss ?_ | refine qsi ?_ | refine qsz ?_ | refine qsl ?_ | refine qsg ?_ | refine qsf ?_ | refine qsd ?_ | refine qse ?_ | refine qsx ?_ | refine qso ?_ | refine cg_cond_true rfl ?_ | refine cg_cond_false rfl ?_ | refine cg_skip ?_ | refine cg_block ?_ | refine eg_in_normal ?_ | refine cg_ret ?_ | refine eg_then_ret ?_ | refine eg_in_ret ?_ | refine cg_exit ?_ | refine eg_then_exit ?_ | refine eg_in_exit ?_ | refine eg_in_other rfl ?_)
      refine eg_return rfl rfl ?_
      have hix : i = xs.length := by simp at h; omega
      have : xs = ys := by
        apply List.ext_getElem?
        intro j
        by_cases hj : j < xs.length
        · exact heq j (by omega)
        · rw [List.getElem?_eq_none (by omega), List.getElem?_eq_none (by omega)]
      simp [this]

/-- Few enough. -/
def fewM (m : Mem) : Bool := decide (m.subs.length ≤ 20) && decide (m.own.length ≤ 40)
def fewB (l : List Mem) (n : Nat) : Bool := l.all fewM && (decide (l.length ≤ 10) && decide (n ≤ 30))

set_option maxHeartbeats 1000000 in
theorem few_ct {k : PH} {a b : Option Addr} {c d n : Nat} {l : List Mem} (hl : Sl tMem k a c l) :
    CT Try.prog 12 #[.slice a l.length c, .slice b n d] k (fun _ v => v = .bool (fewB l n)) := by
  refine ct_of_body (l := [_, _]) Try.func12 rfl Try.ntmps12 (by simp) (fun _ _ _ _ h => h) fun F hF0 hFm => ?_
  have b1 := hl.cap; have b2 := hl.max; unfold maxLen at b2
  repeat (first | refine cg_seq ?_ | refine cg_region ?_ | refine rg_nil ?_ | refine eg_then ?_ | refine qsp ?_ | refine qsn ?_ | refine qsa ?_ | refine qss ?_ | refine qsi ?_ | refine qsz ?_ | refine qsl ?_ | refine qsg ?_ | refine qsf ?_ | refine qsd ?_ | refine qse ?_ | refine qsx ?_ | refine qso ?_ | refine cg_cond_true rfl ?_ | refine cg_cond_false rfl ?_ | refine cg_skip ?_ | refine cg_block ?_ | refine eg_in_normal ?_ | refine cg_ret ?_ | refine eg_then_ret ?_ | refine eg_in_ret ?_ | refine cg_exit ?_ | refine eg_then_exit ?_ | refine eg_in_exit ?_ | refine eg_in_other rfl ?_)
  refine cg_loop (fun (i : Nat) e k' => Le k k' ∧ i ≤ l.length ∧ (l.take i).all fewM = true ∧ e = [(0, .is (.slice a l.length c)), (1, .is (.slice b n d)), (7, .is (.slice a l.length c)), (8, .is (.int .i64 (l.length : Int))), (9, .is (.int .i64 (i : Int)))])
    (fun i => l.length - i) 0 ⟨Le.refl _, Nat.zero_le _, by simp, rfl⟩ ⟨rfl, rfl, rfl, rfl, rfl, trivial⟩ ?_
  rintro i e k1 ⟨hle, hi, hok, rfl⟩
  repeat (first | refine cg_seq ?_ | refine cg_region ?_ | refine rg_nil ?_ | refine eg_then ?_ | refine qsp ?_ | refine qsn ?_ | refine qsa ?_ | refine qss ?_ | refine qsi ?_ | refine qsz ?_ | refine qsl ?_ | refine qsg ?_ | refine qsf ?_ | refine qsd ?_ | refine qse ?_ | refine qsx ?_ | refine qso ?_ | refine cg_cond_true rfl ?_ | refine cg_cond_false rfl ?_ | refine cg_skip ?_ | refine cg_block ?_ | refine eg_in_normal ?_ | refine cg_ret ?_ | refine eg_then_ret ?_ | refine eg_in_ret ?_ | refine cg_exit ?_ | refine eg_then_exit ?_ | refine eg_in_exit ?_ | refine eg_in_other rfl ?_)
  refine cg_cond rfl (fun h => ?_) (fun h => ?_)
  · have hlt : i < l.length := by simpa using h
    have hno : fewM l[i] = false → fewB l n = false := fun hf => by
      have : l.all fewM = false := by
        rw [List.all_eq_false]
        exact ⟨l[i], List.getElem_mem hlt, by simp [hf]⟩
      rw [fewB, this]; rfl
    have hyes : fewM l[i] = true → (l.take (i + 1)).all fewM = true := fun hf => by
      rw [List.take_succ_eq_append_getElem hlt, List.all_append, hok]
      simp [hf]
    obtain ⟨bx, ox, cx, rfl, ⟨sa, sc, oa, oc, rfl, _, _, _⟩, hcx⟩ := (hl.le hle).el i l[i] (List.getElem?_eq_getElem hlt)
    repeat (first | refine cg_seq ?_ | refine cg_region ?_ | refine rg_nil ?_ | refine eg_then ?_ | refine qsp ?_ | refine qsn ?_ | refine qsa ?_ | refine qss ?_ | refine qsi ?_ | refine qsz ?_ | refine qsl ?_ | refine qsg ?_ | refine qsf ?_ | refine qsd ?_ | refine qse ?_ | refine qsx ?_ | refine qso ?_ | refine cg_cond_true rfl ?_ | refine cg_cond_false rfl ?_ | refine cg_skip ?_ | refine cg_block ?_ | refine eg_in_normal ?_ | refine cg_ret ?_ | refine eg_then_ret ?_ | refine eg_in_ret ?_ | refine cg_exit ?_ | refine eg_then_exit ?_ | refine eg_in_exit ?_ | refine eg_in_other rfl ?_)
    refine rb rfl rfl rfl rfl (a_alloc rfl) ?_; intro b5 k5 hb5 hN5 hle5 hk5
    refine rw1 rfl rfl rfl rfl rfl rfl rfl hk5 rfl (.inl hN5) ?_ ?_; (simp [Tp.vs, memVs, Value.oneCell']); intro k6 ht6 hk6
    have c2 := (cells_at (vs := memVs l[i] sa sc oa oc) hk6 rfl).one (i := 2) rfl
    have c3 := (cells_at (vs := memVs l[i] sa sc oa oc) hk6 rfl).one (i := 3) rfl
    have hle6 : Le k1 k6 := ht6 k1 hle5 hb5
    by_cases h1 : l[i].subs.length ≤ 20
    · have e1 : decide ((l[i].subs.length : Int) > 20) = false := by simp; omega
      repeat (first | refine cg_seq ?_ | refine cg_region ?_ | refine rg_nil ?_ | refine eg_then ?_ | refine qsp ?_ | refine qsn ?_ | refine qsa ?_ | refine qss ?_ | refine qsi ?_ | refine qsz ?_ | refine qsl ?_ | refine qsg ?_ | refine qsf ?_ | refine qsd ?_ | refine qse ?_ | refine qsx ?_ | refine qso ?_ | refine cg_cond_true rfl ?_ | refine cg_cond_false rfl ?_ | refine cg_skip ?_ | refine cg_block ?_ | refine eg_in_normal ?_ | refine cg_ret ?_ | refine eg_then_ret ?_ | refine eg_in_ret ?_ | refine cg_exit ?_ | refine eg_then_exit ?_ | refine eg_in_exit ?_ | refine eg_in_other rfl ?_)
      rw [e1]
      repeat (first | refine cg_seq ?_ | refine cg_region ?_ | refine rg_nil ?_ | refine eg_then ?_ | refine qsp ?_ | refine qsn ?_ | refine qsa ?_ | refine qss ?_ | refine qsi ?_ | refine qsz ?_ | refine qsl ?_ | refine qsg ?_ | refine qsf ?_ | refine qsd ?_ | refine qse ?_ | refine qsx ?_ | refine qso ?_ | refine cg_cond_true rfl ?_ | refine cg_cond_false rfl ?_ | refine cg_skip ?_ | refine cg_block ?_ | refine eg_in_normal ?_ | refine cg_ret ?_ | refine eg_then_ret ?_ | refine eg_in_ret ?_ | refine cg_exit ?_ | refine eg_then_exit ?_ | refine eg_in_exit ?_ | refine eg_in_other rfl ?_)
      refine cg_cond rfl (fun h2 => ?_) (fun h2 => ?_)
      · repeat (first | refine cg_seq ?_ | refine cg_region ?_ | refine rg_nil ?_ | refine eg_then ?_ | refine qsp ?_ | refine qsn ?_ | refine qsa ?_ | refine qss ?_ | refine qsi ?_ | refine qsz ?_ | refine qsl ?_ | refine qsg ?_ | refine qsf ?_ | refine qsd ?_ | refine qse ?_ | refine qsx ?_ | refine qso ?_ | refine cg_cond_true rfl ?_ | refine cg_cond_false rfl ?_ | refine cg_skip ?_ | refine cg_block ?_ | refine eg_in_normal ?_ | refine cg_ret ?_ | refine eg_then_ret ?_ | refine eg_in_ret ?_ | refine cg_exit ?_ | refine eg_then_exit ?_ | refine eg_in_exit ?_ | refine eg_in_other rfl ?_)
        refine eg_return rfl rfl ?_
        rw [hno]
        simp at h2
        simp [fewM]
        omega
      · repeat (first | refine cg_seq ?_ | refine cg_region ?_ | refine rg_nil ?_ | refine eg_then ?_ | refine qsp ?_ | refine qsn ?_ | refine qsa ?_ | refine qss ?_ | refine qsi ?_ | refine qsz ?_ | refine qsl ?_ | refine qsg ?_ | refine qsf ?_ | refine qsd ?_ | refine qse ?_ | refine qsx ?_ | refine qso ?_ | refine cg_cond_true rfl ?_ | refine cg_cond_false rfl ?_ | refine cg_skip ?_ | refine cg_block ?_ | refine eg_in_normal ?_ | refine cg_ret ?_ | refine eg_then_ret ?_ | refine eg_in_ret ?_ | refine cg_exit ?_ | refine eg_then_exit ?_ | refine eg_in_exit ?_ | refine eg_in_other rfl ?_)
        refine eg_again (i + 1) _ ⟨hle.trans hle6, hlt, hyes ?_, rfl⟩ (by omega) ⟨rfl, rfl, rfl, rfl, rfl, trivial⟩
        simp at h2
        simp [fewM]
        omega
    · have e1 : decide ((l[i].subs.length : Int) > 20) = true := by simp; omega
      repeat (first | refine cg_seq ?_ | refine cg_region ?_ | refine rg_nil ?_ | refine eg_then ?_ | refine qsp ?_ | refine qsn ?_ | refine qsa ?_ | refine qss ?_ | refine qsi ?_ | refine qsz ?_ | refine qsl ?_ | refine qsg ?_ | refine qsf ?_ | refine qsd ?_ | refine qse ?_ | refine qsx ?_ | refine qso ?_ | refine cg_cond_true rfl ?_ | refine cg_cond_false rfl ?_ | refine cg_skip ?_ | refine cg_block ?_ | refine eg_in_normal ?_ | refine cg_ret ?_ | refine eg_then_ret ?_ | refine eg_in_ret ?_ | refine cg_exit ?_ | refine eg_then_exit ?_ | refine eg_in_exit ?_ | refine eg_in_other rfl ?_)
      rw [e1]
      repeat (first | refine cg_seq ?_ | refine cg_region ?_ | refine rg_nil ?_ | refine eg_then ?_ | refine qsp ?_ | refine qsn ?_ | refine qsa ?_ | refine qss ?_ | refine qsi ?_ | refine qsz ?_ | refine qsl ?_ | refine qsg ?_ | refine qsf ?_ | refine qsd ?_ | refine qse ?_ | refine qsx ?_ | refine qso ?_ | refine cg_cond_true rfl ?_ | refine cg_cond_false rfl ?_ | refine cg_skip ?_ | refine cg_block ?_ | refine eg_in_normal ?_ | refine cg_ret ?_ | refine eg_then_ret ?_ | refine eg_in_ret ?_ | refine cg_exit ?_ | refine eg_then_exit ?_ | refine eg_in_exit ?_ | refine eg_in_other rfl ?_)
      refine eg_return rfl rfl ?_
      rw [hno]
      simp [fewM, h1]
  · have : i = l.length := by simp at h; omega
    rw [this, List.take_length] at hok
    repeat (first | refine cg_seq ?_ | refine cg_region ?_ | refine rg_nil ?_ | refine eg_then ?_ | refine qsp ?_ | refine qsn ?_ | refine qsa ?_ | refine qss ?_ | refine qsi ?_ | refine qsz ?_ | refine qsl ?_ | refine qsg ?_ | refine qsf ?_ | refine qsd ?_ | refine qse ?_ | refine qsx ?_ | refine qso ?_ | refine cg_cond_true rfl ?_ | refine cg_cond_false rfl ?_ | refine cg_skip ?_ | refine cg_block ?_ | refine eg_in_normal ?_ | refine cg_ret ?_ | refine eg_then_ret ?_ | refine eg_in_ret ?_ | refine cg_exit ?_ | refine eg_then_exit ?_ | refine eg_in_exit ?_ | refine eg_in_other rfl ?_)
    by_cases h1 : l.length ≤ 10
    · have e1 : decide ((l.length : Int) ≤ 10) = true := by simp; omega
      rw [e1]
      repeat (first | refine cg_seq ?_ | refine cg_region ?_ | refine rg_nil ?_ | refine eg_then ?_ | refine qsp ?_ | refine qsn ?_ | refine qsa ?_ | refine qss ?_ | refine qsi ?_ | refine qsz ?_ | refine qsl ?_ | refine qsg ?_ | refine qsf ?_ | refine qsd ?_ | refine qse ?_ | refine qsx ?_ | refine qso ?_ | refine cg_cond_true rfl ?_ | refine cg_cond_false rfl ?_ | refine cg_skip ?_ | refine cg_block ?_ | refine eg_in_normal ?_ | refine cg_ret ?_ | refine eg_then_ret ?_ | refine eg_in_ret ?_ | refine cg_exit ?_ | refine eg_then_exit ?_ | refine eg_in_exit ?_ | refine eg_in_other rfl ?_)
      refine eg_return rfl rfl ?_
      rw [fewB, hok, decide_eq_true h1]
      congr 1
      rw [Bool.eq_iff_iff]
      simp
      omega
    · have e1 : decide ((l.length : Int) ≤ 10) = false := by simp; omega
      rw [e1]
      repeat (first | refine cg_seq ?_ | refine cg_region ?_ | refine rg_nil ?_ | refine eg_then ?_ | refine qsp ?_ | refine qsn ?_ | refine qsa ?_ | refine qss ?_ | refine qsi ?_ | refine qsz ?_ | refine qsl ?_ | refine qsg ?_ | refine qsf ?_ | refine qsd ?_ | refine qse ?_ | refine qsx ?_ | refine qso ?_ | refine cg_cond_true rfl ?_ | refine cg_cond_false rfl ?_ | refine cg_skip ?_ | refine cg_block ?_ | refine eg_in_normal ?_ | refine cg_ret ?_ | refine eg_then_ret ?_ | refine eg_in_ret ?_ | refine cg_exit ?_ | refine eg_then_exit ?_ | refine eg_in_exit ?_ | refine eg_in_other rfl ?_)
      refine eg_return rfl rfl ?_
      rw [fewB, hok, decide_eq_false h1]
      rfl

def tT : ByteArray := { data := #[116] }
def t0 : Tp := ⟨tT, 0, 0⟩
def t1 : Tp := ⟨tT, 1, 0⟩
def t2 : Tp := ⟨tT, 2, 0⟩
def mB : Mem := ⟨{ data := #[98] }, ByteArray.empty, [tT], [], false, 0⟩
def mA : Mem := ⟨{ data := #[97] }, ByteArray.empty, [tT], [], false, 0⟩

theorem live_tgt {r : List (List Tp)} {er : Int} (h : TgtR [mB, mA] [t0, t1, t2] r er) : r = [[t1], [t0, t2]] ∧ er = 0 := by
  have hok : okT [mB, mA] [t0, t1, t2] = true := by decide
  obtain ⟨h1, w, h2, h3⟩ := h.yes hok
  refine ⟨?_, h1⟩
  have hf : fillW [mB, mA] [t0, t1, t2] (wInit [mB, mA] [t0, t1, t2]) 3 = [1, 0, 1] := by decide
  have hs : stepM [mB, mA] [t0, t1, t2] [1, 0, 1] = none := by decide
  have hm := h2.moved
  rw [show ([t0, t1, t2] : List Tp).length = 3 from rfl, hf] at hm
  rcases hm.head with h4 | ⟨w1, h4, _⟩
  · rw [h3, ← h4]
    decide
  · rw [hs] at h4; cases h4

set_option maxHeartbeats 1000000 in
theorem live_ct {k : PH} : CT Try.prog 11 #[] k (fun _ v => v = .bool true) := by
  refine ct_of_body (l := []) Try.func11 rfl Try.ntmps11 (by simp) (fun _ _ _ _ h => h) fun F hF0 hFm => ?_
  repeat (first | refine cg_seq ?_ | refine cg_region ?_ | refine rg_nil ?_ | refine eg_then ?_ | refine qsp ?_ | refine qsn ?_ | refine qsa ?_ | refine qss ?_ | refine qsi ?_ | refine qsz ?_ | refine qsl ?_ | refine qsg ?_ | refine qsf ?_ | refine qsd ?_ | refine qse ?_ | refine qsx ?_ | refine qso ?_ | refine cg_cond_true rfl ?_ | refine cg_cond_false rfl ?_ | refine cg_skip ?_ | refine cg_block ?_ | refine eg_in_normal ?_ | refine cg_ret ?_ | refine eg_then_ret ?_ | refine eg_in_ret ?_ | refine cg_exit ?_ | refine eg_then_exit ?_ | refine eg_in_exit ?_ | refine eg_in_other rfl ?_)
  refine rs rfl rfl (loc_det rfl (d_lit rfl rfl rfl)) ?_
  refine rs rfl rfl (loc_det rfl (d_lit rfl rfl rfl)) ?_
  refine rs rfl rfl (loc_det rfl (d_lit rfl rfl rfl)) ?_
  refine rb rfl rfl rfl rfl (a_slice rfl rfl rfl rfl (by kernel_rfl) rfl) ?_; intro b1 k1 hb1 hN1 hle1 hk1
  have ht : Sl tTp k1 (some ⟨b1, 0, none⟩) 3 [t0, t1, t2] := sl_rows (xs := [t0, t1, t2]) (css := [t0.vs, t1.vs, t2.vs]) hk1 rfl rfl (fun i cs x h1 h2 => by
    match i, h1, h2 with
    | 0, h1, h2 => simp at h1 h2; rw [← h1, ← h2]; rfl
    | 1, h1, h2 => simp at h1 h2; rw [← h1, ← h2]; rfl
    | 2, h1, h2 => simp at h1 h2; rw [← h1, ← h2]; rfl) (by simp [maxLen])
  repeat (first | refine cg_seq ?_ | refine cg_region ?_ | refine rg_nil ?_ | refine eg_then ?_ | refine qsp ?_ | refine qsn ?_ | refine qsa ?_ | refine qss ?_ | refine qsi ?_ | refine qsz ?_ | refine qsl ?_ | refine qsg ?_ | refine qsf ?_ | refine qsd ?_ | refine qse ?_ | refine qsx ?_ | refine qso ?_ | refine cg_cond_true rfl ?_ | refine cg_cond_false rfl ?_ | refine cg_skip ?_ | refine cg_block ?_ | refine eg_in_normal ?_ | refine cg_ret ?_ | refine eg_then_ret ?_ | refine eg_in_ret ?_ | refine cg_exit ?_ | refine eg_then_exit ?_ | refine eg_in_exit ?_ | refine eg_in_other rfl ?_)
  refine rb rfl rfl rfl rfl (a_slice rfl rfl rfl rfl (by kernel_rfl) rfl) ?_; intro b2 k2 hb2 hN2 hle2 hk2
  refine rs rfl rfl (loc_det rfl (d_lit rfl rfl rfl)) ?_
  refine rb rfl rfl rfl rfl (a_slice rfl rfl rfl rfl (by kernel_rfl) rfl) ?_; intro b3 k3 hb3 hN3 hle3 hk3
  refine rs rfl rfl (loc_det rfl (d_lit rfl rfl rfl)) ?_
  refine rb rfl rfl rfl rfl (a_slice rfl rfl rfl rfl (by kernel_rfl) rfl) ?_; intro b4 k4 hb4 hN4 hle4 hk4
  have s2 : Sl tStr k2 (some ⟨b2, 0, none⟩) 1 [tT] := sl_rows (xs := [tT]) (css := [[.string tT]]) hk2 rfl rfl (fun i cs x h1 h2 => by
    match i, h1, h2 with
    | 0, h1, h2 => simp at h1 h2; rw [← h1, ← h2]; exact ⟨rfl, by decide⟩) (by simp [maxLen])
  have s3 : Sl tStr k3 (some ⟨b3, 0, none⟩) 1 [tT] := sl_rows (xs := [tT]) (css := [[.string tT]]) hk3 rfl rfl (fun i cs x h1 h2 => by
    match i, h1, h2 with
    | 0, h1, h2 => simp at h1 h2; rw [← h1, ← h2]; exact ⟨rfl, by decide⟩) (by simp [maxLen])
  have nils : ∀ k : PH, Sl tTp k none 0 [] := fun k => ⟨by simp, by simp [maxLen], fun _ => rfl, by simp, by simp⟩
  have hl : Sl tMem k4 (some ⟨b4, 0, none⟩) 2 [mB, mA] := sl_rows (xs := [mB, mA]) (css := [memVs mB (some ⟨b2, 0, none⟩) 1 none 0, memVs mA (some ⟨b3, 0, none⟩) 1 none 0]) hk4 rfl rfl (fun i cs x h1 h2 => by
    match i, h1, h2 with
    | 0, h1, h2 => simp at h1 h2; rw [← h1, ← h2]; exact ⟨_, _, _, _, rfl, s2.le (hle3.trans hle4), nils _, by decide⟩
    | 1, h1, h2 => simp at h1 h2; rw [← h1, ← h2]; exact ⟨_, _, _, _, rfl, s3.le hle4, nils _, by decide⟩) (by simp [maxLen])
  have ht4 := ht.le (hle2.trans (hle3.trans hle4))
  repeat (first | refine cg_seq ?_ | refine cg_region ?_ | refine rg_nil ?_ | refine eg_then ?_ | refine qsp ?_ | refine qsn ?_ | refine qsa ?_ | refine qss ?_ | refine qsi ?_ | refine qsz ?_ | refine qsl ?_ | refine qsg ?_ | refine qsf ?_ | refine qsd ?_ | refine qse ?_ | refine qsx ?_ | refine qso ?_ | refine cg_cond_true rfl ?_ | refine cg_cond_false rfl ?_ | refine cg_skip ?_ | refine cg_block ?_ | refine eg_in_normal ?_ | refine cg_ret ?_ | refine eg_then_ret ?_ | refine eg_in_ret ?_ | refine cg_exit ?_ | refine eg_then_exit ?_ | refine eg_in_exit ?_ | refine eg_in_other rfl ?_)
  refine rv rfl rfl rfl (loc_call rfl rfl rfl rfl (fun k k' v hle ⟨a, c, r, er, h1, h2, h3⟩ => ⟨a, c, r, er, h1, h2.le hle, h3⟩) (target_ct hl ht4 (by simp) (by simp))) ?_
  rintro k5 hle5 _ ⟨a, c, r, er, rfl, hsl, htr⟩
  obtain ⟨rfl, rfl⟩ := live_tgt htr
  have ht5 := ht4.le hle5
  obtain ⟨ba, oa, _, rfl, ⟨a0, c0, rfl, hr0⟩, hc0⟩ := hsl.el 0 [t1] rfl
  obtain ⟨ba', oa', _, ea, ⟨a1, c1, rfl, hr1⟩, hc1⟩ := hsl.el 1 [t0, t2] rfl
  cases ea
  obtain ⟨_, _, _, et, rfl, hct0⟩ := ht5.el 0 t0 rfl
  cases et
  obtain ⟨_, _, _, et, rfl, hct2⟩ := ht5.el 2 t2 rfl
  cases et
  repeat (first | refine cg_seq ?_ | refine cg_region ?_ | refine rg_nil ?_ | refine eg_then ?_ | refine qsp ?_ | refine qsn ?_ | refine qsa ?_ | refine qss ?_ | refine qsi ?_ | refine qsz ?_ | refine qsl ?_ | refine qsg ?_ | refine qsf ?_ | refine qsd ?_ | refine qse ?_ | refine qsx ?_ | refine qso ?_ | refine cg_cond_true rfl ?_ | refine cg_cond_false rfl ?_ | refine cg_skip ?_ | refine cg_block ?_ | refine eg_in_normal ?_ | refine cg_ret ?_ | refine eg_then_ret ?_ | refine eg_in_ret ?_ | refine cg_exit ?_ | refine eg_then_exit ?_ | refine eg_in_exit ?_ | refine eg_in_other rfl ?_)
  refine region_cut (by kernel_rfl) rfl ?_
  repeat (first | refine qwp ?_ | refine qwn ?_ | refine qwa ?_ | refine qws ?_ | refine qwi ?_ | refine qwz ?_ | refine qwl ?_ | refine qwg ?_ | refine qwf ?_ | refine qwd ?_ | refine qwe ?_ | refine qwx ?_ | refine qwo ?_ | (refine wn rfl ?_; refine eg_then ?_))
  refine ws rfl (loc_det rfl (d_mid (i := 1) (j := 2) ht5 rfl rfl rfl rfl (by simp) (by simp))) ?_
  repeat (first | refine qwp ?_ | refine qwn ?_ | refine qwa ?_ | refine qws ?_ | refine qwi ?_ | refine qwz ?_ | refine qwl ?_ | refine qwg ?_ | refine qwf ?_ | refine qwd ?_ | refine qwe ?_ | refine qwx ?_ | refine qwo ?_ | (refine wn rfl ?_; refine eg_then ?_))
  have hs1 := sameTps_ct hr0 ((ht5.take 2).drop (i := 1) (by simp))
  rw [decide_eq_true (show [t1] = List.drop 1 (List.take 2 [t0, t1, t2]) from rfl)] at hs1
  refine ws rfl (loc_call_is rfl rfl rfl rfl (hs1)) ?_
  repeat (first | refine qwp ?_ | refine qwn ?_ | refine qwa ?_ | refine qws ?_ | refine qwi ?_ | refine qwz ?_ | refine qwl ?_ | refine qwg ?_ | refine qwf ?_ | refine qwd ?_ | refine qwe ?_ | refine qwx ?_ | refine qwo ?_ | (refine wn rfl ?_; refine eg_then ?_))
  refine ws rfl (loc_det rfl (d_idx (i := 1) rfl rfl rfl (by simp))) ?_
  repeat (first | refine qwp ?_ | refine qwn ?_ | refine qwa ?_ | refine qws ?_ | refine qwi ?_ | refine qwz ?_ | refine qwl ?_ | refine qwg ?_ | refine qwf ?_ | refine qwd ?_ | refine qwe ?_ | refine qwx ?_ | refine qwo ?_ | (refine wn rfl ?_; refine eg_then ?_))
  refine ws rfl (loc_det rfl (d_idx (i := 2) rfl rfl rfl (by simp))) ?_
  repeat (first | refine qwp ?_ | refine qwn ?_ | refine qwa ?_ | refine qws ?_ | refine qwi ?_ | refine qwz ?_ | refine qwl ?_ | refine qwg ?_ | refine qwf ?_ | refine qwd ?_ | refine qwe ?_ | refine qwx ?_ | refine qwo ?_ | (refine wn rfl ?_; refine eg_then ?_))
  refine wv rfl (loc_alloc rfl (a_slice rfl rfl rfl rfl (by kernel_rfl) rfl)) ?_
  refine ws (v := .bool true) rfl (loc_elim 43 rfl (by kernel_rfl) trivial ?_) ?_
  · rintro v k6 hle6 ⟨b6, rfl, hk6, _⟩
    have h6 : Sl tTp k6 (some ⟨b6, 0, none⟩) 2 [t0, t2] := sl_rows (xs := [t0, t2]) (css := [t0.vs, t2.vs]) hk6 rfl rfl (fun i cs x h1 h2 => by
      match i, h1, h2 with
      | 0, h1, h2 => simp at h1 h2; rw [← h1, ← h2]; rfl
      | 1, h1, h2 => simp at h1 h2; rw [← h1, ← h2]; rfl) (by simp [maxLen])
    have hs2 := sameTps_ct (hr1.le hle6) h6
    rw [decide_eq_true rfl] at hs2
    exact loc_call_is rfl rfl rfl rfl hs2
  repeat (first | refine qwp ?_ | refine qwn ?_ | refine qwa ?_ | refine qws ?_ | refine qwi ?_ | refine qwz ?_ | refine qwl ?_ | refine qwg ?_ | refine qwf ?_ | refine qwd ?_ | refine qwe ?_ | refine qwx ?_ | refine qwo ?_ | (refine wn rfl ?_; refine eg_then ?_))
  refine wn_cut 43 rfl ?_; refine eg_then ?_
  repeat (first | refine cg_seq ?_ | refine cg_region ?_ | refine rg_nil ?_ | refine eg_then ?_ | refine qsp ?_ | refine qsn ?_ | refine qsa ?_ | refine qss ?_ | refine qsi ?_ | refine qsz ?_ | refine qsl ?_ | refine qsg ?_ | refine qsf ?_ | refine qsd ?_ | refine qse ?_ | refine qsx ?_ | refine qso ?_ | refine cg_cond_true rfl ?_ | refine cg_cond_false rfl ?_ | refine cg_skip ?_ | refine cg_block ?_ | refine eg_in_normal ?_ | refine cg_ret ?_ | refine eg_then_ret ?_ | refine eg_in_ret ?_ | refine cg_exit ?_ | refine eg_then_exit ?_ | refine eg_in_exit ?_ | refine eg_in_other rfl ?_)
  exact eg_return rfl rfl rfl
end Go.Wm

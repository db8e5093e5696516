/-
  Target, the program's. Conditions: that what is handed in reads as data.
-/
import Derived.Test.YtbhgbfhgdccghaaGreatP5
import Derived.Test.YtbhgbfhgdccghaaGreatS9
import Derived.Test.YtbhgbfhgdccghaaGreatK1
import Derived.Test.YtbhgbfhgdccghaaGreatCoB
import Derived.Test.YtbhgbfhgdccghaaGreatCoA
set_option linter.all false
namespace Go.Wm
open Go.RowKit Go.Proofs
attribute [local irreducible] RG CG EG WA Loc Det Alc CT Exit.then Exit.inBlock Code.wp bodyPost
theorem sl_tpok {k : PH} {a : Option Addr} {c : Nat} {l : List Tp} (h : Sl tTp k a c l) : ∀ x ∈ l, x.ok := fun x hx => by
  obtain ⟨i, hi⟩ := List.getElem?_of_mem hx
  obtain ⟨_, _, _, _, ⟨_, ho⟩, _⟩ := h.el i x hi
  exact ho
theorem outM_sub {n : Nat} {tps : List Tp} {w : List Int} {r : List Tp} {x : Tp} (hr : r ∈ outM n tps w) (hx : x ∈ r) : x ∈ tps := by
  unfold outM at hr
  obtain ⟨m, _, rfl⟩ := List.mem_map.1 hr
  obtain ⟨q, hq, rfl⟩ := List.mem_map.1 hx
  obtain ⟨hq, _⟩ := List.mem_filter.1 hq
  exact (List.of_mem_zip hq).1
attribute [local irreducible] WF LocG Exit.jump

theorem Sh.setW {h0 k k' : PH} {bs bw bm : Nat} {l : List Member} {tps : List Tp} {whose many : List Int} (h : Sh h0 k bs bw bm l tps whose many) (p : Nat) (x : Int) (ht : Turn1 k k' bw) (hk : k' bw = some (.cells ((whose.map (Value.int .i64)).toArray.setIfInBounds p (.int .i64 x)) 3 (0, 0))) : Sh h0 k' bs bw bm l tps (whose.set p x) many := by
  obtain ⟨hle, n0, n1, n2, d0, d1, d2, ⟨la, lc, ta, tc, h1, h2, h3⟩, h4, h5⟩ := h
  rw [set_ints] at hk
  exact ⟨ht h0 hle n1, n0, n1, n2, d0, d1, d2, ⟨la, lc, ta, tc, by rw [List.length_set]; exact turn1_get ht d0 h1, h2, h3⟩, hk, turn1_get ht (Ne.symm d2) h5⟩
theorem Sh.f2 {h0 k : PH} {bs bw bm : Nat} {l : List Member} {tps : List Tp} {whose many : List Int} (h : Sh h0 k bs bw bm l tps whose many) : Cells k bs (0 + 2) [.slice (some ⟨bw, 0, none⟩) whose.length whose.length] := by
  obtain ⟨la, lc, ta, tc, h1, _, _⟩ := h.cells
  exact (cells_at (vs := [.slice la l.length lc, .slice ta tps.length tc, .slice (some ⟨bw, 0, none⟩) whose.length whose.length, .slice (some ⟨bm, 0, none⟩) many.length many.length]) h1 rfl).one (i := 2) rfl
theorem Sh.f3 {h0 k : PH} {bs bw bm : Nat} {l : List Member} {tps : List Tp} {whose many : List Int} (h : Sh h0 k bs bw bm l tps whose many) : Cells k bs (0 + 3) [.slice (some ⟨bm, 0, none⟩) many.length many.length] := by
  obtain ⟨la, lc, ta, tc, h1, _, _⟩ := h.cells
  exact (cells_at (vs := [.slice la l.length lc, .slice ta tps.length tc, .slice (some ⟨bw, 0, none⟩) whose.length whose.length, .slice (some ⟨bm, 0, none⟩) many.length many.length]) h1 rfl).one (i := 3) rfl
theorem made_nils (n : Nat) : madeCells (Value.slice none 0 0).cells (n * 1) = (List.replicate n (Value.slice none 0 0)).toArray := by
  apply Array.toList_inj.1
  apply List.ext_getElem?
  intro i
  rw [Nat.mul_one]
  simp only [madeCells, Value.cells, Array.toList_map, Array.toList_range, List.getElem?_map, List.getElem?_replicate]
  by_cases hi : i < n
  · simp [hi, Nat.mod_one]
  · simp [hi]
theorem idxF_lt {α : Type} (l : List α) (f : α → Bool) : idxF l f < l.length ∧ -1 ≤ idxF l f := by
  rcases idxF_range l f with h | ⟨i, h, hi, _⟩
  · rw [h]; omega
  · rw [h]; omega
set_option maxHeartbeats 2000000 in
theorem target_ct {k : PH} {la ta : Option Addr} {lc tc : Nat} {l : List Member} {tps : List Tp} (hl : Sl tMember k la lc l) (ht : Sl tTp k ta tc tps) (hb : l.length ≤ 1000000) (hbt : tps.length ≤ 1000000) :
    CT Tryz.prog 31 #[.slice la l.length lc, .slice ta tps.length tc] k (fun k' v => ∃ a c r er, v = .tuple #[.slice a r.length c, .int .i64 er] ∧ Sl (tSl tTp) k' a c r ∧ TgtR l tps r er) := by
  refine ct_of_body (l := [_, _]) Tryz.func31 rfl Tryz.ntmps31 (by simp) (fun k k' v hle ⟨a, c, r, er, h1, h2, h3⟩ => ⟨a, c, r, er, h1, h2.le hle, h3⟩) fun F hF0 hFm => ?_
  have b1 := hl.cap; have b2 := hl.max; unfold maxLen at b2
  have b3 := ht.cap; have b4 := ht.max; unfold maxLen at b4
  repeat (first | refine cg_seq ?_ | refine cg_region ?_ | refine rg_nil ?_ | refine eg_then ?_ | refine qsp ?_)
  refine cg_scope (fun (w : List Int) e k' => okT l tps = true ∧ ∃ bs bw bm, F.w0.heap.size ≤ bw ∧ F.w0.heap.size ≤ bm ∧ Sh k k' bs bw bm l tps w (cnts l.length w) ∧ WInv l tps w ∧ Moved l tps (fillW l tps (wInit l tps) tps.length) w ∧ e = [(0, .is (.slice la l.length lc)), (1, .is (.slice ta tps.length tc)), (6, .is (.pointer (some ⟨bs, 0, none⟩)))])
    (fun w => sqW l.length w) 0 _ rfl ?_ ?_
  · rintro w e k5 ⟨hok, bs, bw, bm, hNw, hNm, sh5, hin5, hmv, rfl⟩
    have hwlen := hin5.len
    repeat (first | refine cg_seq ?_ | refine cg_region ?_ | refine rg_nil ?_ | refine eg_then ?_ | refine qsp ?_ | refine qsn ?_ | refine cg_block ?_)
    refine cg_loop (fun (p : Nat) e k' => Sh k k' bs bw bm l tps w (cnts l.length w) ∧ (∀ q, q < p → hotW l tps w q = false) ∧ p ≤ tps.length ∧ e = [(0, .is (.slice la l.length lc)), (1, .is (.slice ta tps.length tc)), (6, .is (.pointer (some ⟨bs, 0, none⟩))), (74, .is (.int .i64 (tps.length : Int))), (75, .is (.int .i64 (p : Int)))])
      (fun p => tps.length - p) 0 ⟨sh5, fun q hq => by omega, Nat.zero_le _, rfl⟩ ⟨rfl, rfl, rfl, rfl, rfl, trivial⟩ ?_
    rintro p e k6 ⟨sh6, hcold, hp, rfl⟩
    repeat (first | refine cg_seq ?_ | refine cg_region ?_ | refine rg_nil ?_ | refine eg_then ?_ | refine qsp ?_)
    refine cg_cond rfl (fun h => ?_) (fun h => ?_)
    · have hlt : p < tps.length := by simpa using h
      have hpw : p < w.length := by omega
      have g2 := sh6.f2
      have g3 := sh6.f3
      have htp : tps[p]? = some tps[p] := List.getElem?_eq_getElem hlt
      have hwp : w[p]? = some w[p] := List.getElem?_eq_getElem hpw
      have gw := cells_ints sh6.whose hpw
      have hcall := least_ct sh6 (cnts_len _ _) (by omega) p hlt
      rcases hin5.at' p _ _ hwp htp with hx | hx
      · rw [hx] at gw
        have hhot : hotW l tps w p = false := by simp only [hotW, hwp, htp, hx]; rfl
        repeat (first | refine cg_seq ?_ | refine cg_region ?_ | refine rg_nil ?_ | refine eg_then ?_ | refine qsp ?_ | refine cg_skip ?_ | refine cg_block ?_)
        refine cg_any (by kernel_rfl) rfl ?_
        repeat (first | refine qwp ?_ | refine qwi ?_ | refine qwl ?_ | refine qwf ?_)
        refine ws rfl (loc_call_is rfl rfl rfl rfl (hcall)) ?_
        repeat (first | refine qwp ?_ | (refine wn rfl ?_; refine eg_then ?_))
        repeat (first | refine cg_seq ?_)
        refine cg_any (by kernel_rfl) rfl ?_
        repeat (first | refine qwp ?_ | refine qwo ?_ | (refine wn rfl ?_; refine eg_then ?_))
        refine cg_cond_false rfl ?_
        repeat (first | refine cg_region ?_ | refine rg_nil ?_ | refine eg_then ?_ | refine qsp ?_ | refine qsa ?_ | refine cg_skip ?_ | refine eg_in_normal ?_)
        refine eg_again (p + 1) _ ⟨sh6, fun q hq => ?_, hlt, rfl⟩ (by omega) ⟨rfl, rfl, rfl, rfl, rfl, trivial⟩
        by_cases hqp : q = p
        · exact hqp ▸ hhot
        · exact hcold q (by omega)
      · have hto : Wants l tps[p] (leastW l tps[p] w) := leastW_of hx _
        have hto' := hto
        obtain ⟨i, hi, hil, _⟩ := hx
        obtain ⟨j, hj, hjl, _⟩ := hto
        have hj' : leastM l tps[p] (cnts l.length w) = (j : Int) := hj
        rw [hi] at gw
        rw [hj'] at hcall
        have gi := cells_ints sh6.many (i := i) (by rw [cnts_len]; exact hil)
        have gj := cells_ints sh6.many (i := j) (by rw [cnts_len]; exact hjl)
        have ei : (cnts l.length w)[i]'(by rw [cnts_len]; exact hil) = ((w.count (i : Int) : Nat) : Int) := by simp [cnts]
        have ej : (cnts l.length w)[j]'(by rw [cnts_len]; exact hjl) = ((w.count (j : Int) : Nat) : Int) := by simp [cnts]
        rw [ei] at gi
        rw [ej] at gj
        have bi := List.count_le_length (l := w) (a := (i : Int))
        have bj := List.count_le_length (l := w) (a := (j : Int))
        have hcl := cnts_len l.length w
        have hhot : hotW l tps w p = decide ((w.count (i : Int) : Int) - (w.count (j : Int) : Int) ≥ 2) := by
          simp only [hotW, hwp, htp, hi, hj]
          simp
        repeat (first | refine cg_seq ?_ | refine cg_region ?_ | refine rg_nil ?_ | refine eg_then ?_ | refine qsp ?_ | refine cg_skip ?_ | refine cg_block ?_)
        refine cg_any (by kernel_rfl) rfl ?_
        repeat (first | refine qwp ?_ | refine qwi ?_ | refine qwl ?_ | refine qwf ?_)
        refine ws rfl (loc_call_is rfl rfl rfl rfl (hcall)) ?_
        repeat (first | refine qwp ?_ | (refine wn rfl ?_; refine eg_then ?_))
        repeat (first | refine cg_seq ?_)
        refine cg_any (by kernel_rfl) rfl ?_
        repeat (first | refine qwp ?_ | refine qws ?_ | refine qwi ?_ | refine qwl ?_ | refine qwf ?_ | (refine wn rfl ?_; refine eg_then ?_))
        refine cg_cond rfl (fun h2 => ?_) (fun h2 => ?_)
        · have hge : (w.count (i : Int) : Int) - (w.count (j : Int) : Int) ≥ 2 := by simpa using h2
          repeat (first | refine cg_seq ?_ | refine cg_region ?_ | refine qsp ?_)
          refine rcm rfl rfl rfl rfl rfl rfl rfl (give_ct sh6 p _ hpw ?_ ?_ ?_) ?_ ?_
          · rw [hcl, hi]; omega
          · rw [hcl]; omega
          · intro x hx
            have := cnts_bd hx
            omega
          · rintro b (rfl | rfl)
            · exact .inl hNw
            · exact .inl hNm
          rintro _ k9 _ ⟨rfl, sh9⟩
          rw [give_cnts hpw] at sh9
          repeat (first | refine rg_nil ?_ | refine eg_then ?_)
          refine cg_goto ?_
          repeat (first | refine eg_in_goto ?_ | refine eg_then_goto ?_)
          refine eg_jump_goto (w.set p (j : Int)) _ ⟨hok, bs, bw, bm, hNw, hNm, sh9, hin5.set htp (.inr (hj ▸ hto')), ?_, rfl⟩ (sqW_lower hpw hi hil hjl (by omega)) ⟨rfl, rfl, rfl, trivial⟩
          refine .step hmv ?_
          rw [stepM_some hlt hcold (by rw [hhot]; simpa using hge), hj]
        · have hhot' : hotW l tps w p = false := by rw [hhot]; exact h2
          repeat (first | refine cg_region ?_ | refine rg_nil ?_ | refine eg_then ?_ | refine qsp ?_ | refine qsa ?_ | refine cg_skip ?_ | refine eg_in_normal ?_)
          refine eg_again (p + 1) _ ⟨sh6, fun q hq => ?_, hlt, rfl⟩ (by omega) ⟨rfl, rfl, rfl, rfl, rfl, trivial⟩
          by_cases hqp : q = p
          · exact hqp ▸ hhot'
          · exact hcold q (by omega)
    · have hpl : p = tps.length := by simp at h; omega
      subst hpl
      have htg : IsTgt l tps w := ⟨hmv, hin5, stepM_none hcold⟩
      repeat (first | refine cg_seq ?_ | refine cg_region ?_ | refine eg_then ?_ | refine qsp ?_ | refine qsn ?_ | refine cg_exit ?_ | refine eg_then_exit ?_ | refine eg_in_exit ?_)
      refine rb rfl rfl rfl rfl (a_makeSlice (m := l.length) (c := l.length) rfl rfl rfl (Nat.le_refl _) (by omega) (by omega)) ?_; intro bo k7 hbo hNo hle7 hk7
      have hk7' : k7 bo = some (.cells (List.replicate l.length (Value.slice none 0 0)).toArray 25 (0, 0)) := by
        rw [hk7, made_nils]
      have sh7 := sh6.up hle7
      have g2 := sh7.f2
      have rows0 := rows_nil Tp.vs (et := 53) (sz := 3) (h := k6) l.length hle7 hbo hNo hk7'
      rw [← outM_zero l.length tps w] at rows0
      repeat (first | refine cg_seq ?_ | refine cg_region ?_ | refine rg_nil ?_ | refine eg_then ?_ | refine qsp ?_ | refine qsn ?_ | refine qsl ?_ | refine qsf ?_ | refine cg_block ?_)
      refine cg_loop (fun (p : Nat) e k' => ∃ vs, RowsOf Tp.vs F.w0.heap.size 53 3 25 bo k6 k' vs (outM l.length (tps.take p) (w.take p)) ∧ p ≤ w.length ∧ e = [(1, .is (.slice ta tps.length tc)), (13, .is (.slice (some ⟨bo, 0, none⟩) l.length l.length)), (119, .is (.slice (some ⟨bw, 0, none⟩) w.length w.length)), (120, .is (.int .i64 (w.length : Int))), (121, .is (.int .i64 (p : Int)))])
        (fun p => w.length - p) 0 ⟨_, rows0, Nat.zero_le _, rfl⟩ ⟨rfl, rfl, rfl, rfl, rfl, trivial⟩ ?_
      rintro p e k8 ⟨vs, rows, hp, rfl⟩
      have sh8 := sh6.up rows.le
      repeat (first | refine cg_seq ?_ | refine cg_region ?_ | refine rg_nil ?_ | refine eg_then ?_ | refine qsp ?_)
      refine cg_cond rfl (fun h => ?_) (fun h => ?_)
      · have hpw : p < w.length := by simpa using h
        have hlt : p < tps.length := by omega
        have gw := cells_ints sh8.whose hpw
        repeat (first | refine cg_seq ?_ | refine cg_region ?_ | refine rg_nil ?_ | refine eg_then ?_ | refine qsp ?_ | refine qsi ?_ | refine qsl ?_ | refine cg_skip ?_ | refine cg_block ?_)
        refine cg_cond rfl (fun h2 => ?_) (fun h2 => ?_)
        · obtain ⟨i, hi, hil⟩ : ∃ i : Nat, w[p] = (i : Int) ∧ i < l.length := by
            have h3 : 0 ≤ w[p] := by simpa using h2
            rcases hin5.at' p _ _ (List.getElem?_eq_getElem hpw) (List.getElem?_eq_getElem hlt) with hx | ⟨i, hi, hil, _⟩
            · omega
            · exact ⟨i, hi, hil⟩
          have hvl : i < vs.length := by rw [rows.len, outM_len]; exact hil
          have hv : vs[i]? = some vs[i] := List.getElem?_eq_getElem hvl
          have hr : (outM l.length (tps.take p) (w.take p))[i]? = some _ := List.getElem?_eq_getElem (by rw [outM_len]; exact hil)
          generalize (outM l.length (tps.take p) (w.take p))[i]'(by rw [outM_len]; exact hil) = r at hr
          generalize hvv : vs[i] = v at hv
          obtain ⟨hrow, hap, hvb⟩ := rows.row i v r hv hr
          have hd := le_delV rows.le hap
          obtain ⟨bx, ox, cx, rfl, ⟨rfl, hxok⟩, hcx⟩ := (ht.le (sh6.le.trans hd)).el p tps[p] (List.getElem?_eq_getElem hlt)
          have cbo : Cells (delV k8 v) bo (0 + i * 1) [v] := by
            refine Cells.delV ⟨vs.toArray, 25, (0, 0), rows.at', fun j u hu => ?_⟩ hvb
            have hj : j = 0 := by
              have := (List.getElem?_eq_some_iff.1 hu).1
              simp at this
              exact this
            subst hj
            simp at hu
            subst hu
            simp [hv]
          have hrl : r.length ≤ 1000000 := by
            have := outM_bd hr
            rw [List.length_take] at this
            omega
          rw [hi]
          refine cg_app v hrow rfl (by kernel_rfl) (by kernel_rfl) rfl rfl (m' := r.length + 1) (xs' := r.flatMap Tp.vs ++ tps[p].vs) ?_
          repeat (first | refine qvp ?_ | refine qvi ?_ | refine qvl ?_ | refine qvg ?_)
          refine we_v rfl (loc_alloc rfl (a_slice rfl rfl rfl rfl (by kernel_rfl) rfl)) ?_
          refine we_app rfl rfl rfl rfl rfl (fun k1 u _ ⟨b, hu, hkb, _⟩ => ⟨b, 0, 1, hu, cells_at hkb rfl⟩) rfl (by simp [Tp.vs, Value.oneCell']) rfl rfl (by unfold maxLen; omega) (by omega) ?_
          repeat (first | refine qvi ?_)
          refine we_nil ⟨139, _, [(1, .is (.slice (some ⟨bx, ox, none⟩) tps.length tc)), (13, .is (.slice (some ⟨bo, 0, none⟩) l.length l.length)), (119, .is (.slice (some ⟨bw, 0, none⟩) w.length w.length)), (120, .is (.int .i64 (w.length : Int))), (121, .is (.int .i64 (p : Int))), (140, .is (.pointer (some ⟨bo, 0 + i * 1, none⟩)))], rfl, rfl, rfl, ⟨rfl, rfl, rfl, rfl, rfl, rfl, trivial⟩, fun v' k9 hrow9 ht9 => ?_⟩
          obtain ⟨hk9, hnext⟩ := rows.turn hv hr tps[p] hrow9 ht9
          refine rw0 rfl rfl rfl rfl rfl rfl ?_ rfl hk9 ?_ (.inl hNo) ?_
          · obtain ⟨_, h5⟩ := hrow9
            rcases h5 with ⟨rfl, _⟩ | ⟨g, cap, cur, rfl, _⟩ <;> rfl
          · simp; omega
          intro k10 ht10 hk10
          simp only [Nat.zero_add, Nat.mul_one] at hk10
          have rows10 := hnext k10 ht10 hk10
          rw [← outM_at hlt hpw hi hil hr] at rows10
          repeat (first | refine cg_region ?_ | refine rg_nil ?_ | refine eg_then ?_ | refine qsp ?_ | refine qsa ?_ | refine eg_in_normal ?_)
          exact eg_again (p + 1) _ ⟨_, rows10, hpw, rfl⟩ (by omega) ⟨rfl, rfl, rfl, rfl, rfl, trivial⟩
        · repeat (first | refine cg_region ?_ | refine rg_nil ?_ | refine eg_then ?_ | refine qsp ?_ | refine qsa ?_ | refine cg_skip ?_ | refine eg_in_normal ?_)
          refine eg_again (p + 1) _ ⟨vs, ?_, hpw, rfl⟩ (by omega) ⟨rfl, rfl, rfl, rfl, rfl, trivial⟩
          rw [outM_no hlt hpw (by simpa using h2)]
          exact rows
      · have hpl : p = w.length := by simp at h; omega
        subst hpl
        have hrows : RowsOf Tp.vs F.w0.heap.size 53 3 25 bo k6 k8 vs (outM l.length tps w) := by
          have := rows
          rw [show tps.take w.length = tps.take tps.length by rw [hwlen], outM_all hwlen] at this
          exact this
        have hsl := hrows.sl (T := tTp) (by rw [outM_len]; unfold maxLen; omega) (fun r hr x hx => ⟨rfl, sl_tpok ht x (outM_sub hr hx)⟩)
        repeat (first | refine cg_seq ?_ | refine cg_region ?_ | refine rg_nil ?_ | refine eg_then ?_ | refine qsp ?_ | refine cg_ret ?_ | refine cg_exit ?_ | refine eg_then_exit ?_ | refine eg_in_exit ?_)
        refine eg_jump_ret ?_
        refine eg_return2 rfl rfl rfl ⟨some ⟨bo, 0, none⟩, l.length, outM l.length tps w, 0, (by rw [outM_len]), ?_, (fun h => by rw [hok] at h; cases h), fun _ => ⟨rfl, w, htg, rfl⟩⟩
        rw [outM_len] at hsl
        exact hsl
  intro htail
  repeat (first | refine cg_seq ?_ | refine cg_region ?_ | refine qsp ?_)
  have hmc := members_ct hl (by omega)
  generalize hM : (decide (l.map (·.id)).Nodup && !decide (ByteArray.empty ∈ l.map (·.id))) = bM at hmc
  refine rs rfl rfl (loc_call_is rfl rfl rfl rfl (hmc)) ?_
  repeat (first | refine qsp ?_)
  cases bM with
  | false =>
    repeat (first | refine cg_seq ?_ | refine cg_region ?_ | refine rg_nil ?_ | refine eg_then ?_ | refine qsp ?_ | refine qso ?_ | refine cg_cond_true rfl ?_ | refine cg_ret ?_ | refine eg_then_ret ?_)
    refine eg_jump_ret ?_
    exact eg_return2 rfl rfl rfl ⟨none, 0, [], 1, rfl, ⟨by simp, by simp [maxLen], fun _ => rfl, by simp, by simp⟩, fun _ => ⟨rfl, rfl⟩, fun h => by simp only [okT, okM, hM, Bool.false_and] at h; cases h⟩
  | true =>
  repeat (first | refine qsp ?_)
  refine rs rfl rfl (loc_call_is rfl rfl rfl rfl (alikeTp_ct ht)) ?_
  repeat (first | refine rg_nil ?_ | refine eg_then ?_ | refine qsp ?_)
  by_cases hN : tps.Nodup
  · refine cg_cond_false (by simp [opv, get, Nat.beq, hN]) ?_
    repeat (first | refine cg_seq ?_ | refine eg_then ?_ | refine cg_skip ?_)
    refine cg_fresh 8 [27, 30] (by kernel_rfl) (by kernel_rfl) rfl rfl rfl ?_
    repeat (first | refine qfp ?_ | refine qfn ?_)
    refine fs_new rfl rfl (a_makeSlice (m := tps.length) (c := tps.length) rfl rfl rfl (Nat.le_refl _) (by omega) (by omega)) (fun _ => rfl) ?_
    repeat (first | refine qfp ?_ | refine qfn ?_)
    refine fs_new rfl rfl (a_makeSlice (m := l.length) (c := l.length) rfl rfl rfl (Nat.le_refl _) (by omega) (by omega)) (fun _ => rfl) ?_
    refine fs_nil ?_
    intro k1 vs hle1 hvs hnew hap
    obtain ⟨bw, ew, hkw, hnw⟩ := hvs 27 _ rfl
    obtain ⟨bm, em, hkm, hnm⟩ := hvs 30 _ rfl
    simp only [nameE, nameP, argEnv, ew, em]
    have hwm : bw ≠ bm := by
      have := hap 27 (by simp) 30 (by simp) (by decide)
      rw [ew, em] at this
      simpa [blkV] using this
    have hNw : F.w0.heap.size ≤ bw := by
      obtain ⟨b, h1, _, h2⟩ := hnew 27 (by simp)
      rw [ew] at h1
      simp [blkV] at h1
      omega
    have hNm : F.w0.heap.size ≤ bm := by
      obtain ⟨b, h1, _, h2⟩ := hnew 30 (by simp)
      rw [em] at h1
      simp [blkV] at h1
      omega
    have hn1w : k bw = none := by
      obtain ⟨b, h1, h2, _⟩ := hnew 27 (by simp)
      rw [ew] at h1
      simp [blkV] at h1
      rw [h1]; exact h2
    have hn1m : k bm = none := by
      obtain ⟨b, h1, h2, _⟩ := hnew 30 (by simp)
      rw [em] at h1
      simp [blkV] at h1
      rw [h1]; exact h2
    clear hvs hnew hap
    show RG _ _ _ _ _ [_, _, _] _ _
    refine rs rfl rfl (loc_det rfl (d_lit rfl rfl rfl)) ?_
    refine rb rfl rfl rfl rfl (a_box rfl rfl) ?_; intro bs k2 hbs hNs hle2 hk2
    have hsw : bs ≠ bw := by rintro rfl; rw [hbs] at hkw; cases hkw
    have hsm : bs ≠ bm := by rintro rfl; rw [hbs] at hkm; cases hkm
    have hns : k bs = none := by
      cases e : k bs with
      | none => rfl
      | some o => rw [hle1 _ _ e] at hbs; cases hbs
    have sh0 : Sh k k2 bs bw bm l tps (half (wInit l tps) 0) (cnts l.length ((wInit l tps).take 0)) := by
      refine ⟨hle1.trans hle2, hns, hn1w, hn1m, hsw, hsm, hwm, ⟨la, lc, ta, tc, ?_, hl, ht⟩, ?_, ?_⟩
      · rw [hk2, half_len (Nat.zero_le _), cnts_len, wInit_len]; rfl
      · rw [hle2 _ _ hkw, half_zero, wInit_len, made_ints]
      · rw [hle2 _ _ hkm, List.take_zero, cnts_nil, made_ints]
    repeat (first | refine cg_seq ?_ | refine cg_region ?_ | refine rg_nil ?_ | refine eg_then ?_ | refine qsp ?_ | refine qsn ?_ | refine cg_block ?_)
    refine cg_loop (fun (p : Nat) e k' => Sh k k' bs bw bm l tps (half (wInit l tps) p) (cnts l.length ((wInit l tps).take p)) ∧ p ≤ tps.length ∧ e = [(0, .is (.slice la l.length lc)), (1, .is (.slice ta tps.length tc)), (6, .is (.pointer (some ⟨bs, 0, none⟩))), (33, .is (.slice ta tps.length tc)), (34, .is (.int .i64 (tps.length : Int))), (35, .is (.int .i64 (p : Int)))])
      (fun p => tps.length - p) 0 ⟨sh0, Nat.zero_le _, rfl⟩ ⟨rfl, rfl, rfl, rfl, rfl, rfl, trivial⟩ ?_
    rintro p e k3 ⟨sh3, hp, rfl⟩
    repeat (first | refine cg_seq ?_ | refine cg_region ?_ | refine rg_nil ?_ | refine eg_then ?_ | refine qsp ?_)
    refine cg_cond rfl (fun h => ?_) (fun h => ?_)
    · have hlt : p < tps.length := by simpa using h
      obtain ⟨bx, ox, cx, rfl, ⟨rfl, hxok⟩, hcx⟩ := (ht.le sh3.le).el p tps[p] (List.getElem?_eq_getElem hlt)
      repeat (first | refine cg_seq ?_ | refine cg_region ?_ | refine eg_then ?_ | refine qsp ?_ | refine qsi ?_ | refine qsg ?_ | refine cg_skip ?_ | refine cg_block ?_)
      refine rb rfl rfl rfl rfl (a_alloc rfl) ?_; intro b6 k6 hb6 hN6 hle6 hk6
      repeat (first | refine qsp ?_)
      refine rw1 rfl rfl rfl rfl rfl rfl rfl hk6 rfl (.inl hN6) ?_ ?_; (simp [Tp.vs, Member.cs, Group.cs, Value.oneCell']); intro k7 ht7 hk7
      have sh7 := sh3.up (ht7 k3 hle6 hb6)
      have g2 := sh7.f2
      have hhl : (half (wInit l tps) p).length = tps.length := by rw [half_len (by rw [wInit_len]; omega), wInit_len]
      repeat (first | refine cg_seq ?_ | refine cg_region ?_ | refine rg_nil ?_ | refine eg_then ?_ | refine qsp ?_ | refine qsi ?_ | refine qsl ?_ | refine qsf ?_)
      refine rw0 rfl rfl rfl rfl rfl rfl rfl rfl sh7.whose ?_ (.inl hNw) ?_
      · simp; omega
      intro k8 ht8 hk8
      simp only [Nat.zero_add, Nat.mul_one] at hk8
      have sh8 := sh7.setW p (-1) ht8 hk8
      have hc8 : Cells k8 b6 0 tps[p].vs := cells_at (vs := tps[p].vs) (turn1_get ht8 (fun e => by have := sh3.whose; rw [← e, hb6] at this; cases this) hk7) rfl
      repeat (first | refine cg_region ?_ | refine rg_nil ?_ | refine eg_then ?_ | refine qsp ?_)
      refine rs rfl rfl (loc_call_is rfl rfl rfl rfl (indexFunc_ct (hl.le sh8.le) (fun m => decide (tps[p] ∈ m.own) && decide (tps[p].topic ∈ m.subs)) (fun m _ cm hcm => target1_ct hcm tps[p] hc8))) ?_
      have hix := idxF_lt l (fun m => decide (tps[p] ∈ m.own) && decide (tps[p].topic ∈ m.subs))
      have hwg := wInit_get (l := l) hlt
      have hps : p < ((half (wInit l tps) p).set p (-1)).length := by rw [List.length_set]; omega
      have hgs : ((half (wInit l tps) p).set p (-1))[p] = -1 := by simp
      refine rcm rfl rfl rfl rfl rfl rfl rfl (give_ct sh8 p _ hps ?_ ?_ ?_) ?_ ?_
      · rw [hgs]; omega
      · rw [cnts_len]; exact hix.1
      · intro x hx
        have := cnts_bd hx
        simp at this
        omega
      · rintro b (rfl | rfl)
        · exact .inl hNw
        · exact .inl hNm
      rintro _ k9 _ ⟨rfl, sh9⟩
      rw [hgs, less_no, cnts_snoc, half_next hwg] at sh9
      repeat (first | refine cg_region ?_ | refine rg_nil ?_ | refine eg_then ?_ | refine qsp ?_ | refine qsa ?_ | refine eg_in_normal ?_)
      refine eg_again (p + 1) _ ⟨?_, hlt, rfl⟩ (by omega) ⟨rfl, rfl, rfl, rfl, rfl, rfl, trivial⟩
      rw [show (wInit l tps).take (p + 1) = (wInit l tps).take p ++ [idxF l fun m => decide (tps[p] ∈ m.own) && decide (tps[p].topic ∈ m.subs)] by rw [List.take_add_one, hwg]; rfl]
      exact sh9
    · have hpl : p = tps.length := by simp at h; omega
      subst hpl
      have hwl := wInit_len l tps
      have sh4 : Sh k k3 bs bw bm l tps (fillW l tps (wInit l tps) 0) (cnts l.length (fillW l tps (wInit l tps) 0)) := by
        have e1 : half (wInit l tps) tps.length = wInit l tps := by
          have := half_all (wInit l tps)
          rw [hwl] at this
          exact this
        have e2 : (wInit l tps).take tps.length = wInit l tps := by rw [← hwl, List.take_length]
        rw [e1, e2] at sh3
        exact sh3
      repeat (first | refine cg_seq ?_ | refine cg_region ?_ | refine rg_nil ?_ | refine eg_then ?_ | refine qsp ?_ | refine qsn ?_ | refine cg_block ?_ | refine cg_exit ?_ | refine eg_then_exit ?_ | refine eg_in_exit ?_)
      refine cg_loop (fun (p : Nat) e k' => Sh k k' bs bw bm l tps (fillW l tps (wInit l tps) p) (cnts l.length (fillW l tps (wInit l tps) p)) ∧ WInv l tps (fillW l tps (wInit l tps) p) ∧ p ≤ tps.length ∧ e = [(0, .is (.slice la l.length lc)), (1, .is (.slice ta tps.length tc)), (6, .is (.pointer (some ⟨bs, 0, none⟩))), (54, .is (.int .i64 (tps.length : Int))), (55, .is (.int .i64 (p : Int)))])
        (fun p => tps.length - p) 0 ⟨sh4, wInit_inv l tps, Nat.zero_le _, rfl⟩ ⟨rfl, rfl, rfl, rfl, rfl, trivial⟩ ?_
      rintro p e k5 ⟨sh5, hin5, hp5, rfl⟩
      generalize hwp : fillW l tps (wInit l tps) p = w at sh5 hin5
      repeat (first | refine cg_seq ?_ | refine cg_region ?_ | refine rg_nil ?_ | refine eg_then ?_ | refine qsp ?_)
      refine cg_cond rfl (fun h => ?_) (fun h => ?_)
      · have hlt : p < tps.length := by simpa using h
        have hwlen := hin5.len
        have hpw : p < w.length := by omega
        have g2 := sh5.f2
        have gw := cells_ints sh5.whose hpw
        have htp : tps[p]? = some tps[p] := List.getElem?_eq_getElem hlt
        have hstep : fillW l tps (wInit l tps) (p + 1) = if w[p] < 0 then w.set p (leastW l tps[p] w) else w := by
          simp only [fillW, hwp, htp, List.getElem?_eq_getElem hpw]
        repeat (first | refine cg_seq ?_ | refine cg_region ?_ | refine rg_nil ?_ | refine eg_then ?_ | refine qsp ?_ | refine qsi ?_ | refine qsl ?_ | refine qsf ?_ | refine cg_skip ?_ | refine cg_block ?_)
        refine cg_cond rfl (fun h0 => ?_) (fun h0 => ?_)
        · have hneg : w[p] < 0 := by simpa using h0
          repeat (first | refine cg_region ?_ | refine qsp ?_)
          refine rs rfl rfl (loc_call_is rfl rfl rfl rfl (least_ct sh5 (cnts_len _ _) (by omega) p hlt)) ?_
          have hlw := leastW_or l tps[p] (cnts l.length w)
          refine rcm rfl rfl rfl rfl rfl rfl rfl (give_ct sh5 p _ hpw ?_ ?_ ?_) ?_ ?_
          · rw [cnts_len]; omega
          · rw [cnts_len]
            rcases hlw with h1 | ⟨i, h1, hi, _⟩
            · rw [h1]; omega
            · rw [h1]; omega
          · intro x hx
            have := cnts_bd hx
            omega
          · rintro b (rfl | rfl)
            · exact .inl hNw
            · exact .inl hNm
          rintro _ k9 _ ⟨rfl, sh9⟩
          rw [give_cnts hpw] at sh9
          repeat (first | refine cg_region ?_ | refine rg_nil ?_ | refine eg_then ?_ | refine qsp ?_ | refine qsa ?_ | refine eg_in_normal ?_)
          refine eg_again (p + 1) _ ⟨?_, ?_, hlt, rfl⟩ (by omega) ⟨rfl, rfl, rfl, rfl, rfl, trivial⟩
          · rw [hstep, if_pos hneg]
            exact sh9
          · rw [hstep, if_pos hneg]
            exact hin5.set htp hlw
        · have hneg : ¬ w[p] < 0 := by simpa using h0
          repeat (first | refine cg_region ?_ | refine rg_nil ?_ | refine eg_then ?_ | refine qsp ?_ | refine qsa ?_ | refine cg_skip ?_ | refine eg_in_normal ?_)
          refine eg_again (p + 1) _ ⟨?_, ?_, hlt, rfl⟩ (by omega) ⟨rfl, rfl, rfl, rfl, rfl, trivial⟩
          · rw [hstep, if_neg hneg]
            exact sh5
          · rw [hstep, if_neg hneg]
            exact hin5
      · have hpl : p = tps.length := by simp at h; omega
        subst hpl
        refine cg_exit ?_
        refine eg_then_exit ?_
        refine eg_then_exit ?_
        refine eg_in_exit ?_
        refine eg_then ?_
        refine cg_seq ?_
        refine cg_label ?_
        refine eg_then ?_
        exact htail w _ _ _ ⟨by simp only [okT, okM, hM, hN, decide_true, Bool.and_self], bs, bw, bm, hNw, hNm, sh5, hin5, hwp ▸ .refl _, rfl⟩ ⟨rfl, rfl, rfl, trivial⟩
  · refine cg_cond_true (by simp [opv, get, Nat.beq, hN]) ?_
    repeat (first | refine cg_seq ?_ | refine cg_region ?_ | refine rg_nil ?_ | refine eg_then ?_ | refine qsp ?_ | refine cg_ret ?_ | refine eg_then_ret ?_)
    refine eg_jump_ret ?_
    exact eg_return2 rfl rfl rfl ⟨none, 0, [], 1, rfl, ⟨by simp, by simp [maxLen], fun _ => rfl, by simp, by simp⟩, fun _ => ⟨rfl, rfl⟩, fun h => by simp only [okT, hN, decide_false, Bool.and_false] at h; cases h⟩
end Go.Wm

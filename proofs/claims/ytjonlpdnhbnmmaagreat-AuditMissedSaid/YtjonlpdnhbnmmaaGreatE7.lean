/-
  The walk of AuditMissed. Conditions: that what is handed in reads as data.
-/
import Derived.Test.YtjonlpdnhbnmmaaGreatU1
import Derived.Test.YtjonlpdnhbnmmaaGreatL8
set_option linter.all false
namespace Go.Wm
open Go.RowKit Go.Proofs
attribute [local irreducible] RG CG EG WA Loc Det Alc CT Exit.then Exit.inBlock Code.wp bodyPost
set_option maxHeartbeats 4000000 in
theorem auditMissed_walk {k : PH} {a : Option Addr} {c : Nat} {bs : List Batch} {ct : List Value} {tp : Tp} {kk : Int} {B1 : Prop} (hl : Sl tBatch k a c bs) (hsh : ∀ b ∈ bs, Short b) (_ : I64 kk) (hT : tTp.rep k ct tp) (_ : B1) :
    CT Tryz.prog 5 #[.slice a bs.length c, .int .i64 kk, .agg ct.toArray] k (fun _ v => v = .bool true) := by
  obtain ⟨rfl, htp⟩ := hT
  refine ct_of_body (l := [_, _, _]) Tryz.func5 rfl Tryz.ntmps5 (by simp) (fun _ _ _ _ h => h) fun F hF0 hFm => ?_
  have b1 := hl.cap; have b2 := hl.max; unfold maxLen at b2
  repeat (first | refine cg_seq ?_ | refine cg_region ?_)
  refine rb rfl rfl rfl rfl (a_box rfl rfl) ?_; intro b3 k3 hb3 hN3 hle3 hk3
  have ctp := cells_at (vs := tp.vs) hk3 rfl
  have hl := hl.le hle3
  repeat (first | refine cg_seq ?_ | refine cg_region ?_ | refine rg_nil ?_ | refine eg_then ?_ | refine qsp ?_)
  refine rs rfl rfl (loc_call_is rfl rfl rfl rfl (live32_ct)) ?_
  repeat (first | refine cg_seq ?_ | refine cg_region ?_ | refine rg_nil ?_ | refine eg_then ?_ | refine qsp ?_)
  refine rs rfl rfl (loc_call_is rfl rfl rfl rfl (few32_ct hl hsh)) ?_
  repeat (first | refine qsp ?_)
  cases q1 : (bs.all fewB && decide ((bs.length : Int) ≤ 40))
  · repeat (first | refine cg_seq ?_ | refine cg_region ?_ | refine rg_nil ?_ | refine eg_then ?_ | refine qsp ?_ | refine qso ?_ | refine cg_cond_true rfl ?_ | refine cg_ret ?_ | refine eg_then_ret ?_)
    exact eg_return rfl rfl rfl
  simp only [Bool.and_eq_true, decide_eq_true_eq] at q1
  have h100 : ∀ b ∈ bs, b.recs.length ≤ 100 := fun b hb => by
    have := List.all_eq_true.1 q1.1 b hb
    unfold fewB at this
    simp only [Bool.and_eq_true, decide_eq_true_eq] at this
    exact this.2
  have q1 := q1.2
  repeat (first | refine qsp ?_)
  refine rs rfl rfl (loc_call_is rfl rfl rfl rfl (rising_ct hl)) ?_
  repeat (first | refine qsp ?_)
  cases q2 : decide (Rising bs)
  · repeat (first | refine cg_seq ?_ | refine cg_region ?_ | refine rg_nil ?_ | refine eg_then ?_ | refine qsp ?_ | refine qso ?_ | refine cg_cond_true rfl ?_ | refine cg_ret ?_ | refine eg_then_ret ?_)
    exact eg_return rfl rfl rfl
  have hR := of_decide_eq_true q2
  repeat (first | refine rg_nil ?_ | refine eg_then ?_ | refine qsp ?_ | refine qsn ?_)
  cases q3 : ((bs.length : Int) == 0)
  rotate_left
  · repeat (first | refine cg_seq ?_ | refine cg_region ?_ | refine rg_nil ?_ | refine eg_then ?_ | refine qsp ?_ | refine cg_cond_true rfl ?_ | refine cg_ret ?_ | refine eg_then_ret ?_)
    exact eg_return rfl rfl rfl
  have hpos : 0 < bs.length := List.length_pos_iff.2 (by simpa using q3)
  obtain ⟨f0, f1, f2⟩ := of_few (bs := bs) (n := 40) (by omega)
  repeat (first | refine cg_seq ?_ | refine cg_region ?_ | refine eg_then ?_ | refine qsp ?_ | refine cg_cond_false rfl ?_ | refine cg_skip ?_)
  refine rv rfl rfl rfl (loc_call rfl rfl rfl rfl TxVal.mono (txOf_ct hl (by omega))) ?_
  rintro k5 hle5 _ ⟨e0, d0, e1, d1, e2, d2, rfl, hX⟩
  skip
  refine rb rfl rfl rfl rfl (a_alloc rfl) ?_; intro b6 k6 hb6 hN6 hle6 hk6
  refine rw1 (vs := (ofT bs).cs e0 d0 e1 d1 e2 d2) rfl rfl rfl rfl rfl rfl rfl hk6 rfl (.inl hN6) ?_ ?_
  · simp [Tx.cs, Value.oneCell']
  intro k7 ht7 hk7
  have cx := cells_at (vs := (ofT bs).cs e0 d0 e1 d1 e2 d2) hk7 rfl
  have hle7 : Le k5 k7 := ht7 k5 hle6 hb6
  have hX := hX.le hle7
  have hl := hl.le (hle5.trans hle7)
  have ctp := ctp.le (hle5.trans hle7)
  obtain ⟨q, hq⟩ : ∃ q, q = bs.length - 1 := ⟨_, rfl⟩
  have hql : q < bs.length := by omega
  have w1 := chk_form (hR q hql).1
  have w2 := w1.last
  obtain ⟨bz, oz, cz, ez, ⟨za, zc, ecz, _, _⟩, hcz⟩ := hl.el q bs[q] (List.getElem?_eq_getElem hql)
  subst ez
  rw [ecz] at hcz
  obtain ⟨_, x1, _⟩ := Batch.parts hcz
  obtain ⟨hi', hhi⟩ : ∃ x : Int, x = (if 1099511627776 < bs[q].last + 1 then 1099511627776 else bs[q].last + 1) := ⟨_, rfl⟩
  have hI : I64 hi' := by rw [hhi]; split <;> exact ⟨by omega, by omega⟩
  repeat (first | refine cg_seq ?_ | refine rg_nil ?_ | refine eg_then ?_)
  refine cg_anyn (by kernel_rfl) rfl ?_
  repeat (first | refine qwp ?_ | refine qwn ?_ | refine qws ?_ | refine qwg ?_)
  rw [show (bs.length : Int) - 1 = (q : Int) by omega]
  repeat (first | refine qwa ?_ | refine qwi ?_ | refine qwl ?_ | refine qwf ?_)
  refine ws rfl (loc_det rfl (d_min rfl rfl rfl)) ?_
  repeat (first | refine qwg ?_)
  rw [← hhi]
  refine wv rfl (loc_call rfl rfl rfl rfl (fun _ _ _ _ h => h) (safe32_ct tp hi' htp hI hX (by omega) (by omega) (by omega))) ?_
  refine wv rfl (loc_mv rfl (.inr rfl) rfl (fun _ _ _ _ h => h)) ?_
  refine wnn ?_
  intro k8 vs8 hle8 hvs8
  obtain ⟨to, e7, hS⟩ := hvs8 9 _ rfl
  clear hvs8
  simp only [nameE, nameP]
  rw [e7]
  refine eg_then ?_
  have hX := hX.le hle8
  have hl := hl.le hle8
  have ctp := ctp.le hle8
  have cx := cx.le hle8
  obtain ⟨z0, z1, z2⟩ := Tx.parts cx
  have cx' := cx
  have hSl : (bs.filter (showB (ofT bs).gone to)).length ≤ bs.length := List.length_filter_le _ _
  obtain ⟨S, hSS⟩ : ∃ S, S = bs.filter (showB (ofT bs).gone to) := ⟨_, rfl⟩
  have hSn : ∀ b ∈ S, NumB b := fun b hb => by rw [hSS] at hb; exact chk_num (rising_chk hR b (List.mem_filter.1 hb).1)
  have hS1 : ∀ b ∈ S, b.recs.length ≤ 100 := fun b hb => by rw [hSS] at hb; exact h100 b (List.mem_filter.1 hb).1
  repeat (first | refine cg_seq ?_)
  refine cg_anyn (by kernel_rfl) rfl ?_
  repeat (first | refine qwp ?_ | refine qwl ?_ | refine qwf ?_)
  refine wv rfl (loc_call rfl rfl rfl rfl (fun k k' v hle ⟨a, c, h1, h2⟩ => ⟨a, c, h1, h2.le hle⟩) (refShow_ct to hl hX.g (by omega))) ?_
  repeat (first | refine qwg ?_)
  refine wv (φ := fun k' v => ∃ a' c', v = .slice a' (heardL S tp).length c' ∧ Sl tTold k' a' c' (heardL S tp)) rfl (loc_elim 53 rfl (by kernel_rfl) (fun k k' v hle ⟨a, c, h1, h2⟩ => ⟨a, c, h1, h2.le hle⟩) ?_) ?_
  · rintro v k9 hle9 ⟨p, s, rfl, h9⟩
    rw [← hSS] at h9 ⊢
    exact loc_call rfl rfl rfl rfl (fun k k' v hle ⟨a, c, h1, h2⟩ => ⟨a, c, h1, h2.le hle⟩) (heard_ct tp htp h9 hSn hS1 (by rw [hSS]; omega))
  refine wv rfl (loc_mv rfl (.inr rfl) rfl (fun k k' v hle ⟨a, c, h1, h2⟩ => ⟨a, c, h1, h2.le hle⟩)) ?_
  refine wnn ?_
  intro k9 vs9 hle9 hvs9
  obtain ⟨a9, c9, e9, hL⟩ := hvs9 10 _ rfl
  clear hvs9
  simp only [nameE, nameP]
  rw [e9]
  refine eg_then ?_
  have hX := hX.le hle9
  have hl := hl.le hle9
  have ctp := ctp.le hle9
  have cx := cx.le hle9
  have hHl := heard_len (l := S) (tp := tp) hS1
  have hHl : (heardL S tp).length ≤ 4000 := by rw [← hSS] at hSl; omega
  have hch : ∀ b ∈ S, chkB b = 0 := fun b hb => by rw [hSS] at hb; exact rising_chk hR b (List.mem_filter.1 hb).1
  have hpw : (heardL S tp).Pairwise fun a b => a.off < b.off := heard_rise hch (by rw [hSS]; exact (rising_pair hR).sublist List.filter_sublist)
  repeat (first | refine cg_seq ?_ | refine cg_region ?_ | refine rg_nil ?_ | refine eg_then ?_ | refine qsp ?_ | refine qsn ?_)
  cases q4 : (((heardL S tp).length : Int) == 0)
  rotate_left
  · repeat (first | refine cg_seq ?_ | refine cg_region ?_ | refine rg_nil ?_ | refine eg_then ?_ | refine qsp ?_ | refine cg_cond_true rfl ?_ | refine cg_ret ?_ | refine eg_then_ret ?_)
    exact eg_return rfl rfl rfl
  have hlp : 0 < (heardL S tp).length := List.length_pos_iff.2 (by simpa using q4)
  have hC : CutF bs to := by
    rcases hS with h | ⟨_, h2, h3⟩
    · exfalso
      obtain ⟨b, hb, _⟩ := heard_mem.1 (List.getElem_mem hlp)
      have h1 := (chk_form (hch b hb)).last.1
      rw [hSS] at hb
      have h2 := (List.mem_filter.1 hb).2
      simp only [showB, Bool.and_eq_true, decide_eq_true_eq] at h2
      omega
    · exact ⟨stab_eq h2, h3⟩
  repeat (first | refine cg_seq ?_ | refine cg_region ?_ | refine eg_then ?_ | refine qsp ?_ | refine cg_cond_false rfl ?_ | refine cg_skip ?_)
  refine rs rfl rfl (loc_det rfl (d_and16 rfl rfl rfl)) ?_
  repeat (first | refine qsp ?_ | refine qsn ?_)
  refine rs rfl rfl (loc_det rfl (d_rem rfl rfl rfl hlp)) ?_
  have hn : low16 kk % (heardL S tp).length < (heardL S tp).length := Nat.mod_lt _ hlp
  generalize low16 kk % (heardL S tp).length = n at hn ⊢
  have m1 := miss_needed (bs := bs) (gone := (ofT bs).gone) (to := to) (tp := tp) (n := n) (by rw [← hSS]; exact hpw) (by rw [← hSS]; exact hn)
  have m2 := miss_whole (tp := tp) hR hC (n := n) (by rw [← hSS]; exact hpw) (by rw [← hSS]; exact hn)
  simp only [← hSS] at m1 m2
  obtain ⟨x, hx⟩ : ∃ x, x = (heardL S tp)[n].off := ⟨_, rfl⟩
  rw [← hx] at m1 m2
  have hw1 := heard_order (hpw.sublist (cut_sub (heardL S tp) n))
  have hw2 := heard_once (tp := tp) (hpw.sublist (cut_sub (heardL S tp) n)) (fun s hs => by obtain ⟨b, hb, r, hr, rfl⟩ := heard_mem.1 ((cut_sub _ n).subset hs); rfl) (fun s hs => by
    obtain ⟨b, hb, r, hr, rfl⟩ := heard_mem.1 ((cut_sub _ n).subset hs)
    obtain ⟨n1, n2, n3, n4, n5⟩ := hSn b hb
    have := n5 r hr
    show 0 ≤ r.off
    omega)
  obtain ⟨l, hll⟩ : ∃ l, l = heardL S tp := ⟨_, rfl⟩
  simp only [← hll] at hL hHl hlp hn m1 m2 hx hw1 hw2 ⊢
  have B1' := hL.cap; have B2' := hL.max; unfold maxLen at B2'
  repeat (first | refine cg_seq ?_ | refine cg_region ?_ | refine rg_nil ?_ | refine eg_then ?_ | refine qsp ?_)
  refine rs rfl rfl (loc_det rfl (d_pre hL rfl rfl rfl (by omega : n ≤ l.length))) ?_
  refine raps2 rfl rfl rfl rfl rfl rfl rfl rfl (row_nil _ _ _ _) (hL.take n) (Le.refl _) (fun k cs x h => Told.one k cs x h) rfl rfl (by rw [List.length_take]; unfold maxLen; omega) (by rw [List.length_take]; omega) ?_
  intro v10 k10 css hp10 hrow10 ht10
  obtain ⟨hle10, hap10⟩ := ht10 k9 (Le.refl _) (apart_nil _ _ _)
  rw [Nat.zero_add, List.nil_append] at hrow10
  repeat (first | refine cg_seq ?_ | refine cg_region ?_ | refine rg_nil ?_ | refine eg_then ?_ | refine qsp ?_ | refine qsa ?_)
  rw [show (n : Int) + 1 = ((n + 1 : Nat) : Int) by omega]
  refine rs rfl rfl (loc_det rfl (d_suf (hL.le hle10) rfl rfl rfl hn)) ?_
  refine raps2 rfl rfl rfl rfl rfl rfl rfl rfl hrow10 (hL.drop hn) hle10 (fun k cs x h => Told.one k cs x h) rfl rfl (by rw [List.length_take, List.length_drop]; unfold maxLen; omega) (by rw [List.length_take, List.length_drop]; omega) ?_
  intro v11 k11 css2 hp11 hrow11 ht11
  obtain ⟨hle11, _⟩ := ht11 k9 hle10 hap10
  have hrowA : Row F.w0.heap.size k11 63 10 v11 (cutL l n).length (css ++ css2).flatten := by
    have e1 : (cutL l n).length = (l.take n).length + (l.drop (n + 1)).length := by unfold cutL; rw [List.length_append]
    have e2 : (css ++ css2).flatten = css.flatten ++ css2.flatten := by simp
    rw [e1, e2]; exact hrow11
  obtain ⟨a11, c11, e11, hM⟩ := Row.sls (T := tTold) hrowA ((hp10.append hp11).le hle11)
  rw [e11]
  have hL := hL.le hle11
  have hX := hX.le hle11
  have hl := hl.le hle11
  have ctp := ctp.le hle11
  have cx := cx.le hle11
  obtain ⟨z0, z1, z2⟩ := Tx.parts cx
  have cx' := cx
  repeat (first | refine cg_seq ?_ | refine cg_region ?_ | refine rg_nil ?_ | refine eg_then ?_ | refine qsp ?_ | refine qsl ?_ | refine qsf ?_)
  refine rv rfl rfl rfl (loc_call rfl rfl rfl rfl (fun k k' v hle ⟨a, c, h1, h2⟩ => ⟨a, c, h1, h2.le hle⟩) (neededAll_ct to hl hX.g h100 (by omega))) ?_
  rintro k12 hle12 _ ⟨a12, c12, rfl, hN⟩
  obtain ⟨N, hNN⟩ : ∃ N, N = neededL bs (ofT bs).gone to := ⟨_, rfl⟩
  rw [← hNN] at m1 hN ⊢
  have B3' := hN.cap; have B4' := hN.max; unfold maxLen at B4'
  have hL := hL.le hle12
  have hM := hM.le hle12
  have hX := hX.le hle12
  have hl := hl.le hle12
  have ctp := ctp.le hle12
  have cx := cx.le hle12
  obtain ⟨bt, ot, ctt, et, ⟨ect, _⟩, hct⟩ := hL.el n l[n] (List.getElem?_eq_getElem hn)
  subst ect
  subst et
  obtain ⟨_, t3, _⟩ := Told.parts hct
  rw [← hx] at t3
  repeat (first | refine cg_seq ?_ | refine cg_region ?_ | refine rg_nil ?_ | refine eg_then ?_ | refine qsp ?_ | refine cg_block ?_)
  refine cg_loop (fun (i : Nat) e k' => k' = k12 ∧ i ≤ N.length ∧ ∃ w : Int, w = (if (N.take i).any (fun r => decide (r.off = x)) = true then 321 else 0) ∧ e = [(0, .is (.slice (some ⟨bz, oz, none⟩) bs.length c)), (5, .is (.pointer (some ⟨b3, 0, none⟩))), (7, .is (.bool true)), (8, .is (.pointer (some ⟨b6, 0, none⟩))), (9, .is (.int .i64 to)), (10, .is (.slice (some ⟨bt, ot, none⟩) l.length c9)), (11, .is (.int .i64 (n : Int))), (12, .is (.slice a11 (cutL l n).length c11)), (13, .is (.int .i64 w)), (14, .is (.slice a12 N.length c12)), (15, .is (.int .i64 (i : Int)))])
    (fun i => N.length - i) 0 ⟨rfl, Nat.zero_le _, 0, by simp, rfl⟩ ⟨rfl, rfl, rfl, rfl, rfl, rfl, rfl, rfl, rfl, rfl, rfl, trivial⟩ ?_
  rintro i e k13 ⟨rfl, hi, w, hw, rfl⟩
  repeat (first | refine cg_seq ?_ | refine cg_region ?_ | refine rg_nil ?_ | refine eg_then ?_ | refine qsp ?_ | refine qsn ?_)
  refine cg_cond rfl (fun h => ?_) (fun h => ?_)
  · have hlt : i < N.length := by simpa using h
    obtain ⟨by', oy, cy, rfl, ⟨rfl, _⟩, hcy⟩ := hN.el i N[i] (List.getElem?_eq_getElem hlt)
    obtain ⟨r0, _⟩ := Rec.parts hcy
    have hat := any_take_succ (p := fun r : Rec => decide (r.off = x)) hlt
    repeat (first | refine cg_seq ?_ | refine eg_then ?_ | refine cg_skip ?_ | refine cg_block ?_)
    refine cg_any (by kernel_rfl) rfl ?_
    repeat (first | refine qwp ?_ | refine qwi ?_ | refine qwl ?_ | refine qwf ?_ | (refine wn rfl ?_; refine eg_then ?_))
    cases y1 : (N[i].off == x)
    · simp at y1
      skip
      repeat (first | refine cg_region ?_ | refine rg_nil ?_ | refine eg_then ?_ | refine qsp ?_ | refine qsa ?_ | refine cg_cond_false rfl ?_ | refine cg_skip ?_ | refine eg_in_normal ?_)
      exact eg_again (i + 1) _ ⟨rfl, hlt, w, by rw [hw, hat]; simp [y1], rfl⟩ (by omega) ⟨rfl, rfl, rfl, rfl, rfl, rfl, rfl, rfl, rfl, rfl, rfl, trivial⟩
    · simp at y1
      skip
      repeat (first | refine cg_region ?_ | refine rg_nil ?_ | refine eg_then ?_ | refine qsp ?_ | refine qsa ?_ | refine cg_cond_true rfl ?_ | refine eg_in_normal ?_)
      exact eg_again (i + 1) _ ⟨rfl, hlt, 321, by rw [hat]; simp [y1], rfl⟩ (by omega) ⟨rfl, rfl, rfl, rfl, rfl, rfl, rfl, rfl, rfl, rfl, rfl, trivial⟩
  have hil : i = N.length := by simp at h; omega
  rw [hil, List.take_length] at hw
  have cx' := cx
  repeat (first | refine cg_seq ?_ | refine cg_region ?_ | refine eg_then ?_ | refine qsp ?_ | refine qsg ?_ | refine cg_exit ?_ | refine eg_then_exit ?_ | refine eg_in_exit ?_)
  refine rv rfl rfl rfl (loc_call rfl rfl rfl rfl (fun k k' v hle ⟨a, c, h1, h2⟩ => ⟨a, c, h1, h2.le hle⟩) (facts_ct tp htp hl hX.d h100 (by omega))) ?_
  rintro k14 hle14 _ ⟨a14, c14, rfl, hF⟩
  obtain ⟨fs, hfs⟩ : ∃ fs, fs = factsN tp (ofT bs) bs bs.length := ⟨_, rfl⟩
  rw [← hfs] at m2 hF ⊢
  have B5' := hF.cap; have B6' := hF.max; unfold maxLen at B6'
  have t3 := t3.le hle14
  have hM := hM.le hle14
  have hX := hX.le hle14
  have hl := hl.le hle14
  have ctp := ctp.le hle14
  have cx := cx.le hle14
  repeat (first | refine cg_seq ?_ | refine cg_region ?_ | refine rg_nil ?_ | refine eg_then ?_ | refine qsp ?_ | refine cg_block ?_)
  clear h hi hil
  refine cg_loop (fun (i : Nat) e k' => k' = k14 ∧ i ≤ fs.length ∧ ∃ sp : Int, sp = (if (fs.take i).any (fun f => fs.any (condF x f)) = true then 322 else 0) ∧ e = [(0, .is (.slice (some ⟨bz, oz, none⟩) bs.length c)), (5, .is (.pointer (some ⟨b3, 0, none⟩))), (7, .is (.bool true)), (8, .is (.pointer (some ⟨b6, 0, none⟩))), (9, .is (.int .i64 to)), (10, .is (.slice (some ⟨bt, ot, none⟩) l.length c9)), (11, .is (.int .i64 (n : Int))), (12, .is (.slice a11 (cutL l n).length c11)), (13, .is (.int .i64 w)), (16, .is (.slice a14 fs.length c14)), (17, .is (.int .i64 sp)), (18, .is (.int .i64 (i : Int)))])
    (fun i => fs.length - i) 0 ⟨rfl, Nat.zero_le _, 0, by simp, rfl⟩ ⟨rfl, rfl, rfl, rfl, rfl, rfl, rfl, rfl, rfl, rfl, rfl, rfl, trivial⟩ ?_
  rintro i e k15 ⟨rfl, hi, sp, hsp, rfl⟩
  repeat (first | refine cg_seq ?_ | refine cg_region ?_ | refine rg_nil ?_ | refine eg_then ?_ | refine qsp ?_ | refine qsn ?_)
  refine cg_cond rfl (fun h => ?_) (fun h => ?_)
  · have hlt : i < fs.length := by simpa using h
    obtain ⟨bf, oF, cf, efa, ⟨ecf, _⟩, hcf⟩ := hF.el i fs[i] (List.getElem?_eq_getElem hlt)
    subst ecf
    subst efa
    obtain ⟨_, u1, _, u3, u4, _⟩ := Fact.parts hcf
    have hat := any_take_succ (p := fun f : Fact => fs.any (condF x f)) hlt
    generalize hf0 : fs[i] = f at u1 u3 u4 hat
    generalize (fs.take i).any (fun f => fs.any (condF x f)) = A at hsp hat
    repeat (first | refine cg_seq ?_ | refine cg_region ?_ | refine rg_nil ?_ | refine eg_then ?_ | refine qsp ?_ | refine cg_skip ?_ | refine cg_block ?_)
    refine cg_loop (fun (j : Nat) e k' => k' = k15 ∧ j ≤ fs.length ∧ ∃ sp : Int, sp = (if (A || (fs.take j).any (condF x f)) = true then 322 else 0) ∧ e = [(0, .is (.slice (some ⟨bz, oz, none⟩) bs.length c)), (5, .is (.pointer (some ⟨b3, 0, none⟩))), (7, .is (.bool true)), (8, .is (.pointer (some ⟨b6, 0, none⟩))), (9, .is (.int .i64 to)), (10, .is (.slice (some ⟨bt, ot, none⟩) l.length c9)), (11, .is (.int .i64 (n : Int))), (12, .is (.slice a11 (cutL l n).length c11)), (13, .is (.int .i64 w)), (16, .is (.slice (some ⟨bf, oF, none⟩) fs.length c14)), (17, .is (.int .i64 sp)), (18, .is (.int .i64 (i : Int))), (19, .is (.int .i64 (j : Int)))])
      (fun j => fs.length - j) 0 ⟨rfl, Nat.zero_le _, sp, by rw [hsp]; simp, rfl⟩ ⟨rfl, rfl, rfl, rfl, rfl, rfl, rfl, rfl, rfl, rfl, rfl, rfl, rfl, trivial⟩ ?_
    rintro j e k16 ⟨rfl, hj, sp, hsp, rfl⟩
    repeat (first | refine cg_seq ?_ | refine cg_region ?_ | refine rg_nil ?_ | refine eg_then ?_ | refine qsp ?_ | refine qsn ?_)
    refine cg_cond rfl (fun h2 => ?_) (fun h2 => ?_)
    · have hjt : j < fs.length := by simpa using h2
      obtain ⟨bg, og, cg, ega, ⟨ecg, _⟩, hcg⟩ := hF.el j fs[j] (List.getElem?_eq_getElem hjt)
      cases ega
      subst ecg
      obtain ⟨_, v1, _, v3, v4, _⟩ := Fact.parts hcg
      have hbt := any_take_succ (p := condF x f) hjt
      generalize hg0 : fs[j] = g at v1 v3 v4 hbt
      repeat (first | refine cg_seq ?_ | refine eg_then ?_ | refine cg_skip ?_ | refine cg_block ?_)
      refine cg_any (by kernel_rfl) rfl ?_
      repeat (first | refine qwp ?_ | refine qwi ?_ | refine qwl ?_ | refine qwf ?_)
      cases y1 : (f.off == x)
      · simp at y1
        have hcd : condF x f g = false := by simp [condF, y1]
        repeat (first | refine qwp ?_ | refine qwo ?_ | (refine wn rfl ?_; refine eg_then ?_))
        repeat (first | refine cg_region ?_ | refine rg_nil ?_ | refine eg_then ?_ | refine qsp ?_ | refine qsa ?_ | refine cg_cond_false rfl ?_ | refine cg_skip ?_ | refine eg_in_normal ?_)
        exact eg_again (j + 1) _ ⟨rfl, hjt, sp, by rw [hsp, hbt, hcd, Bool.or_false], rfl⟩ (by omega) ⟨rfl, rfl, rfl, rfl, rfl, rfl, rfl, rfl, rfl, rfl, rfl, rfl, rfl, trivial⟩
      simp at y1
      repeat (first | refine qwp ?_ | refine qwi ?_ | refine qwl ?_ | refine qwf ?_)
      cases y2 : decide (f.txn ≥ 0)
      · have hcd : condF x f g = false := by
          have : ¬ 0 ≤ f.txn := by simp at y2; omega
          simp [condF, this]
        repeat (first | refine qwp ?_ | refine qwo ?_ | (refine wn rfl ?_; refine eg_then ?_))
        repeat (first | refine cg_region ?_ | refine rg_nil ?_ | refine eg_then ?_ | refine qsp ?_ | refine qsa ?_ | refine cg_cond_false rfl ?_ | refine cg_skip ?_ | refine eg_in_normal ?_)
        exact eg_again (j + 1) _ ⟨rfl, hjt, sp, by rw [hsp, hbt, hcd, Bool.or_false], rfl⟩ (by omega) ⟨rfl, rfl, rfl, rfl, rfl, rfl, rfl, rfl, rfl, rfl, rfl, rfl, rfl, trivial⟩
      simp at y2
      repeat (first | refine qwp ?_ | refine qwi ?_ | refine qwl ?_ | refine qwf ?_)
      cases y3 : (g.off != f.off)
      · simp at y3
        have hcd : condF x f g = false := by simp [condF, y3]
        repeat (first | refine qwp ?_ | refine qwo ?_ | (refine wn rfl ?_; refine eg_then ?_))
        repeat (first | refine cg_region ?_ | refine rg_nil ?_ | refine eg_then ?_ | refine qsp ?_ | refine qsa ?_ | refine cg_cond_false rfl ?_ | refine cg_skip ?_ | refine eg_in_normal ?_)
        exact eg_again (j + 1) _ ⟨rfl, hjt, sp, by rw [hsp, hbt, hcd, Bool.or_false], rfl⟩ (by omega) ⟨rfl, rfl, rfl, rfl, rfl, rfl, rfl, rfl, rfl, rfl, rfl, rfl, rfl, trivial⟩
      simp at y3
      repeat (first | refine qwp ?_ | refine qwi ?_ | refine qwl ?_ | refine qwf ?_)
      cases y4 : (g.pid == f.pid)
      · simp at y4
        have hcd : condF x f g = false := by simp [condF, y4]
        repeat (first | refine qwp ?_ | refine qwo ?_ | (refine wn rfl ?_; refine eg_then ?_))
        repeat (first | refine cg_region ?_ | refine rg_nil ?_ | refine eg_then ?_ | refine qsp ?_ | refine qsa ?_ | refine cg_cond_false rfl ?_ | refine cg_skip ?_ | refine eg_in_normal ?_)
        exact eg_again (j + 1) _ ⟨rfl, hjt, sp, by rw [hsp, hbt, hcd, Bool.or_false], rfl⟩ (by omega) ⟨rfl, rfl, rfl, rfl, rfl, rfl, rfl, rfl, rfl, rfl, rfl, rfl, rfl, trivial⟩
      simp at y4
      repeat (first | refine qwp ?_ | refine qwi ?_ | refine qwl ?_ | refine qwf ?_ | (refine wn rfl ?_; refine eg_then ?_))
      cases y5 : (g.txn == f.txn)
      · simp at y5
        have hcd : condF x f g = false := by simp [condF, y5]
        skip
        repeat (first | refine cg_region ?_ | refine rg_nil ?_ | refine eg_then ?_ | refine qsp ?_ | refine qsa ?_ | refine cg_cond_false rfl ?_ | refine cg_skip ?_ | refine eg_in_normal ?_)
        exact eg_again (j + 1) _ ⟨rfl, hjt, sp, by rw [hsp, hbt, hcd, Bool.or_false], rfl⟩ (by omega) ⟨rfl, rfl, rfl, rfl, rfl, rfl, rfl, rfl, rfl, rfl, rfl, rfl, rfl, trivial⟩
      simp at y5
      have hcd : condF x f g = true := cond_iff.2 ⟨y1, y2, y3, y4, y5⟩
      skip
      repeat (first | refine cg_region ?_ | refine rg_nil ?_ | refine eg_then ?_ | refine qsp ?_ | refine qsa ?_ | refine cg_cond_true rfl ?_ | refine eg_in_normal ?_)
      exact eg_again (j + 1) _ ⟨rfl, hjt, 322, by rw [hbt, hcd]; simp, rfl⟩ (by omega) ⟨rfl, rfl, rfl, rfl, rfl, rfl, rfl, rfl, rfl, rfl, rfl, rfl, rfl, trivial⟩
    · have hje : j = fs.length := by simp at h2; omega
      rw [hje, List.take_length] at hsp
      repeat (first | refine cg_region ?_ | refine rg_nil ?_ | refine eg_then ?_ | refine qsp ?_ | refine qsa ?_ | refine eg_in_normal ?_ | refine cg_exit ?_ | refine eg_then_exit ?_ | refine eg_in_exit ?_)
      exact eg_again (i + 1) _ ⟨rfl, hlt, sp, by rw [hsp, hat], rfl⟩ (by omega) ⟨rfl, rfl, rfl, rfl, rfl, rfl, rfl, rfl, rfl, rfl, rfl, rfl, trivial⟩
  have hil : i = fs.length := by simp at h; omega
  rw [hil, List.take_length] at hsp
  have hsp : sp = (if splitB fs x = true then 322 else 0) := hsp
  have s1 := audAll_ct to hM hl hX.g (by omega)
  rw [← hNN, m1, show errOf (!N.any fun r => decide (r.off = x)) 321 = .int .i64 w by rw [hw]; unfold errOf; cases N.any (fun r => decide (r.off = x)) <;> rfl] at s1
  have s4 := audWhole_ct hM hF
  rw [m2, show errOf (!splitB fs x) 322 = .int .i64 sp by rw [hsp]; unfold errOf; cases splitB fs x <;> rfl] at s4
  have s2 := audOrder_ct hM
  rw [decide_eq_true hw1] at s2
  obtain ⟨z0, z1, z2⟩ := Tx.parts cx
  repeat (first | refine cg_seq ?_ | refine cg_region ?_ | refine eg_then ?_ | refine qsp ?_ | refine qsl ?_ | refine qsf ?_ | refine cg_exit ?_ | refine eg_then_exit ?_ | refine eg_in_exit ?_)
  refine rs rfl rfl (loc_call_is rfl rfl rfl rfl (s1)) ?_
  repeat (first | refine qsp ?_)
  rw [show (w == w) = true from beq_self_eq_true _]
  repeat (first | refine qsp ?_)
  refine rs rfl rfl (loc_call_is rfl rfl rfl rfl (s4)) ?_
  repeat (first | refine qsp ?_)
  rw [show (sp == sp) = true from beq_self_eq_true _]
  repeat (first | refine qsp ?_)
  refine rs rfl rfl (loc_call_is rfl rfl rfl rfl (s2)) ?_
  simp only [errOf, if_true]
  repeat (first | refine qsp ?_ | refine qsg ?_)
  refine rs rfl rfl (loc_det rfl (d_lit (cells := (⟨tp, 0⟩ : Mark).vs) rfl rfl rfl)) ?_
  skip
  refine rbg rfl rfl rfl rfl (a_slice (cells := [(⟨tp, 0⟩ : Mark)].flatMap Mark.vs) rfl rfl rfl rfl (by kernel_rfl) rfl) ?_
  intro b20 k20 hb20 hN20 hle20 hk20
  have hMk : Sl tMark k20 (some ⟨b20, 0, none⟩) 1 [⟨tp, 0⟩] := sl_flat (xs := [(⟨tp, 0⟩ : Mark)]) hk20 rfl (fun x hx => ⟨rfl, by simp at hx; subst hx; exact ⟨htp, i64_0⟩⟩) (by simp [maxLen])
  have s3 := audOnce_ct (hM.le hle20) hMk
  rw [decide_eq_true hw2] at s3
  skip
  refine rs rfl rfl (loc_call_is rfl rfl rfl rfl (s3)) ?_
  simp only [errOf, if_true]
  repeat (first | refine rg_nil ?_ | refine eg_then ?_ | refine qsp ?_ | refine cg_ret ?_)
  exact eg_return rfl rfl rfl
end Go.Wm

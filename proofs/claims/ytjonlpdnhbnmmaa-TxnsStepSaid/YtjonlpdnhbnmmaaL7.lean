/-
  The walk of TxnsRow. Conditions: that what is handed in reads as data.
-/
import Derived.Test.YtjonlpdnhbnmmaaL6
set_option linter.all false
namespace Go.Wm
open Go.RowKit Go.Proofs
attribute [local irreducible] RG CG EG WA Loc Det Alc CT Exit.then Exit.inBlock Code.wp bodyPost
theorem row_good {bs : List Batch} {n : Nat} (h : n < bs.length) (hn : n = bs.length - 1) : ofT bs = stepT (ofT (bs.take n)) bs[n] := by
  have := of_take h
  rw [show n + 1 = bs.length by omega, List.take_length] at this
  exact this
theorem of_few {bs : List Batch} {n : Nat} (hb : bs.length ≤ n) : (ofT bs).openV.length ≤ n ∧ (ofT bs).gone.length ≤ n ∧ (ofT bs).done.length ≤ n := by
  have h := of_size bs
  unfold sizeT at h
  omega
set_option maxHeartbeats 4000000 in
theorem txnsRow_walk {k : PH} {a : Option Addr} {c : Nat} {bs : List Batch} (hl : Sl tBatch k a c bs) (hsh : ∀ b ∈ bs, Short b) :
    CT Try.prog 15 #[.slice a bs.length c] k (fun _ v => v = .bool true) := by
  refine ct_of_body (l := [_]) Try.func15 rfl Try.ntmps15 (by simp) (fun _ _ _ _ h => h) fun F hF0 hFm => ?_
  have b1 := hl.cap; have b2 := hl.max; unfold maxLen at b2
  repeat (first | refine cg_seq ?_ | refine cg_region ?_ | refine rg_nil ?_ | refine eg_then ?_ | refine qsp ?_ | refine qsn ?_ | refine qsa ?_ | refine qss ?_ | refine qsi ?_ | refine qsz ?_ | refine qsl ?_ | refine qsg ?_ | refine qsf ?_ | refine qsd ?_ | refine qsE ?_ | refine qsX ?_ | refine qse ?_ | refine qsx ?_ | refine qso ?_ | refine cg_cond_true rfl ?_ | refine cg_cond_false rfl ?_ | refine cg_skip ?_ | refine cg_block ?_ | refine eg_in_normal ?_ | refine cg_ret ?_ | refine eg_then_ret ?_ | refine eg_in_ret ?_ | refine cg_exit ?_ | refine eg_then_exit ?_ | refine eg_in_exit ?_ | refine eg_in_other rfl ?_)
  refine rs rfl rfl (loc_call_is rfl rfl rfl rfl (live12_ct)) ?_
  repeat (first | refine cg_seq ?_ | refine cg_region ?_ | refine rg_nil ?_ | refine eg_then ?_ | refine qsp ?_ | refine qsn ?_ | refine qsa ?_ | refine qss ?_ | refine qsi ?_ | refine qsz ?_ | refine qsl ?_ | refine qsg ?_ | refine qsf ?_ | refine qsd ?_ | refine qsE ?_ | refine qsX ?_ | refine qse ?_ | refine qsx ?_ | refine qso ?_ | refine cg_cond_true rfl ?_ | refine cg_cond_false rfl ?_ | refine cg_skip ?_ | refine cg_block ?_ | refine eg_in_normal ?_ | refine cg_ret ?_ | refine eg_then_ret ?_ | refine eg_in_ret ?_ | refine cg_exit ?_ | refine eg_then_exit ?_ | refine eg_in_exit ?_ | refine eg_in_other rfl ?_)
  refine rs rfl rfl (loc_call_is rfl rfl rfl rfl (fewAll12_ct hl hsh)) ?_
  repeat (first | refine cg_seq ?_ | refine cg_region ?_ | refine rg_nil ?_ | refine eg_then ?_ | refine qsp ?_ | refine qsn ?_ | refine qsa ?_ | refine qss ?_ | refine qsi ?_ | refine qsz ?_ | refine qsl ?_ | refine qsg ?_ | refine qsf ?_ | refine qsd ?_ | refine qsE ?_ | refine qsX ?_ | refine qse ?_ | refine qsx ?_ | refine qso ?_ | refine cg_cond_true rfl ?_ | refine cg_cond_false rfl ?_ | refine cg_skip ?_ | refine cg_block ?_ | refine eg_in_normal ?_ | refine cg_ret ?_ | refine eg_then_ret ?_ | refine eg_in_ret ?_ | refine cg_exit ?_ | refine eg_then_exit ?_ | refine eg_in_exit ?_ | refine eg_in_other rfl ?_)
  cases q1 : (bs.all fewB && decide ((bs.length : Int) ≤ 60))
  · repeat (first | refine cg_seq ?_ | refine cg_region ?_ | refine rg_nil ?_ | refine eg_then ?_ | refine qsp ?_ | refine qsn ?_ | refine qsa ?_ | refine qss ?_ | refine qsi ?_ | refine qsz ?_ | refine qsl ?_ | refine qsg ?_ | refine qsf ?_ | refine qsd ?_ | refine qsE ?_ | refine qsX ?_ | refine qse ?_ | refine qsx ?_ | refine qso ?_ | refine cg_cond_true rfl ?_ | refine cg_cond_false rfl ?_ | refine cg_skip ?_ | refine cg_block ?_ | refine eg_in_normal ?_ | refine cg_ret ?_ | refine eg_then_ret ?_ | refine eg_in_ret ?_ | refine cg_exit ?_ | refine eg_then_exit ?_ | refine eg_in_exit ?_ | refine eg_in_other rfl ?_)
    exact eg_return rfl rfl rfl
  simp only [Bool.and_eq_true, decide_eq_true_eq] at q1
  have q1 := q1.2
  repeat (first | refine cg_seq ?_ | refine cg_region ?_ | refine rg_nil ?_ | refine eg_then ?_ | refine qsp ?_ | refine qsn ?_ | refine qsa ?_ | refine qss ?_ | refine qsi ?_ | refine qsz ?_ | refine qsl ?_ | refine qsg ?_ | refine qsf ?_ | refine qsd ?_ | refine qsE ?_ | refine qsX ?_ | refine qse ?_ | refine qsx ?_ | refine qso ?_ | refine cg_cond_true rfl ?_ | refine cg_cond_false rfl ?_ | refine cg_skip ?_ | refine cg_block ?_ | refine eg_in_normal ?_ | refine cg_ret ?_ | refine eg_then_ret ?_ | refine eg_in_ret ?_ | refine cg_exit ?_ | refine eg_then_exit ?_ | refine eg_in_exit ?_ | refine eg_in_other rfl ?_)
  cases q2 : ((bs.length : Int) == 0)
  rotate_left
  · repeat (first | refine cg_seq ?_ | refine cg_region ?_ | refine rg_nil ?_ | refine eg_then ?_ | refine qsp ?_ | refine qsn ?_ | refine qsa ?_ | refine qss ?_ | refine qsi ?_ | refine qsz ?_ | refine qsl ?_ | refine qsg ?_ | refine qsf ?_ | refine qsd ?_ | refine qsE ?_ | refine qsX ?_ | refine qse ?_ | refine qsx ?_ | refine qso ?_ | refine cg_cond_true rfl ?_ | refine cg_cond_false rfl ?_ | refine cg_skip ?_ | refine cg_block ?_ | refine eg_in_normal ?_ | refine cg_ret ?_ | refine eg_then_ret ?_ | refine eg_in_ret ?_ | refine cg_exit ?_ | refine eg_then_exit ?_ | refine eg_in_exit ?_ | refine eg_in_other rfl ?_)
    exact eg_return rfl rfl rfl
  have hpos : 0 < bs.length := List.length_pos_iff.2 (by simpa using q2)
  repeat (first | refine cg_seq ?_ | refine cg_region ?_ | refine rg_nil ?_ | refine eg_then ?_ | refine qsp ?_ | refine qsn ?_ | refine qsa ?_ | refine qss ?_ | refine qsi ?_ | refine qsz ?_ | refine qsl ?_ | refine qsg ?_ | refine qsf ?_ | refine qsd ?_ | refine qsE ?_ | refine qsX ?_ | refine qse ?_ | refine qsx ?_ | refine qso ?_ | refine cg_cond_true rfl ?_ | refine cg_cond_false rfl ?_ | refine cg_skip ?_ | refine cg_block ?_ | refine eg_in_normal ?_ | refine cg_ret ?_ | refine eg_then_ret ?_ | refine eg_in_ret ?_ | refine cg_exit ?_ | refine eg_then_exit ?_ | refine eg_in_exit ?_ | refine eg_in_other rfl ?_)
  obtain ⟨n, hn⟩ : ∃ n, n = bs.length - 1 := ⟨_, rfl⟩
  have hlt : n < bs.length := by omega
  rw [show (bs.length : Int) - 1 = (n : Int) by omega]
  repeat (first | refine cg_seq ?_ | refine cg_region ?_ | refine rg_nil ?_ | refine eg_then ?_ | refine qsp ?_ | refine qsn ?_ | refine qsa ?_ | refine qss ?_ | refine qsi ?_ | refine qsz ?_ | refine qsl ?_ | refine qsg ?_ | refine qsf ?_ | refine qsd ?_ | refine qsE ?_ | refine qsX ?_ | refine qse ?_ | refine qsx ?_ | refine qso ?_ | refine cg_cond_true rfl ?_ | refine cg_cond_false rfl ?_ | refine cg_skip ?_ | refine cg_block ?_ | refine eg_in_normal ?_ | refine cg_ret ?_ | refine eg_then_ret ?_ | refine eg_in_ret ?_ | refine cg_exit ?_ | refine eg_then_exit ?_ | refine eg_in_exit ?_ | refine eg_in_other rfl ?_)
  refine rs rfl rfl (loc_det rfl (d_pre hl rfl rfl rfl (by omega : n ≤ bs.length))) ?_
  refine rv rfl rfl rfl (loc_call rfl rfl rfl rfl TxVal.mono (txOf_ct (hl.take n) (by rw [List.length_take]; omega))) ?_
  rintro k2 hle2 _ ⟨e0, d0, e1, d1, e2, d2, rfl, hT⟩
  obtain ⟨tp, htp⟩ : ∃ tp, tp = ofT (bs.take n) := ⟨_, rfl⟩
  rw [← htp] at hT ⊢
  obtain ⟨f0, f1, f2⟩ := of_few (bs := bs.take n) (n := 60) (by rw [List.length_take]; omega)
  rw [← htp] at f0 f1 f2
  repeat (first | refine cg_seq ?_ | refine cg_region ?_ | refine rg_nil ?_ | refine eg_then ?_ | refine qsp ?_ | refine qsn ?_ | refine qsa ?_ | refine qss ?_ | refine qsi ?_ | refine qsz ?_ | refine qsl ?_ | refine qsg ?_ | refine qsf ?_ | refine qsd ?_ | refine qsE ?_ | refine qsX ?_ | refine qse ?_ | refine qsx ?_ | refine qso ?_ | refine cg_cond_true rfl ?_ | refine cg_cond_false rfl ?_ | refine cg_skip ?_ | refine cg_block ?_ | refine eg_in_normal ?_ | refine cg_ret ?_ | refine eg_then_ret ?_ | refine eg_in_ret ?_ | refine cg_exit ?_ | refine eg_then_exit ?_ | refine eg_in_exit ?_ | refine eg_in_other rfl ?_)
  refine rb rfl rfl rfl rfl (a_alloc rfl) ?_; intro b5 k5 hb5 hN5 hle5 hk5
  refine rw1 (vs := tp.cs e0 d0 e1 d1 e2 d2) rfl rfl rfl rfl rfl rfl rfl hk5 rfl (.inl hN5) ?_ ?_
  · simp [Tx.cs, Value.oneCell']
  intro k6 ht6 hk6
  have c5 := cells_at (vs := tp.cs e0 d0 e1 d1 e2 d2) hk6 rfl
  have hle6 : Le k2 k6 := ht6 k2 hle5 hb5
  have hT := hT.le hle6
  have hl6 := hl.le (hle2.trans hle6)
  obtain ⟨bx, ox, cx, ea, ⟨ra, rc, ecx, hr, hok⟩, hcx⟩ := hl6.el n bs[n] (List.getElem?_eq_getElem hlt)
  subst ea
  rw [ecx] at hcx
  repeat (first | refine cg_seq ?_ | refine cg_region ?_ | refine rg_nil ?_ | refine eg_then ?_ | refine qsp ?_ | refine qsn ?_ | refine qsa ?_ | refine qss ?_ | refine qsi ?_ | refine qsz ?_ | refine qsl ?_ | refine qsg ?_ | refine qsf ?_ | refine qsd ?_ | refine qsE ?_ | refine qsX ?_ | refine qse ?_ | refine qsx ?_ | refine qso ?_ | refine cg_cond_true rfl ?_ | refine cg_cond_false rfl ?_ | refine cg_skip ?_ | refine cg_block ?_ | refine eg_in_normal ?_ | refine cg_ret ?_ | refine eg_then_ret ?_ | refine eg_in_ret ?_ | refine cg_exit ?_ | refine eg_then_exit ?_ | refine eg_in_exit ?_ | refine eg_in_other rfl ?_)
  refine cg_sto 11 9 10 6 3 43 (TxVal (putR tp bs[n])) (by kernel_rfl) (by kernel_rfl) rfl (by kernel_rfl) rfl rfl ?_
  dsimp only [List.take]
  repeat (first | refine qcp ?_ | refine qcn ?_ | refine qca ?_ | refine qcs ?_ | refine qci ?_ | refine qcz ?_ | refine qcl ?_ | refine qcg ?_ | refine qcf ?_ | refine qcd ?_ | refine qcE ?_ | refine qcX ?_ | refine qce ?_ | refine qcx ?_ | refine qco ?_)
  refine wc_v rfl (loc_call rfl rfl rfl rfl PutRes.mono (txPut_ct hT hr hok (by omega) (by omega) (by omega))) rfl ?_
  refine wc_v rfl (loc_mv rfl (.inl rfl) rfl PutRes.mono) rfl ?_
  refine wc_v (φ := TxVal (putR tp bs[n])) rfl (loc_elim 25 rfl (by kernel_rfl) TxVal.mono ?_) rfl ?_
  · rintro v k9 hle9 ⟨p0, q0, p1, q1, p2, q2, rfl, h9⟩
    exact loc_isv (loc_det rfl (d_pure rfl)) rfl TxVal.mono fun k' hk => ⟨p0, q0, p1, q1, p2, q2, rfl, h9.le hk⟩
  refine wc_s (v := .int .i64 (putErr tp bs[n])) rfl (loc_elim 25 rfl (by kernel_rfl) trivial ?_) rfl ?_
  · rintro v k9 hle9 ⟨p0, q0, p1, q1, p2, q2, rfl, h9⟩
    exact loc_det rfl (d_pure rfl)
  refine wc_e 0 rfl (effs_new rfl rfl rfl (Le.refl _) (a_alloc rfl) rfl) ?_
  refine wc_e 1 rfl (effs_sto rfl rfl (Le.refl _) rfl rfl (fun k u ⟨p0, q0, p1, q1, p2, q2, h, _⟩ => ⟨_, h, rfl, by simp [Tx.cs, Value.oneCell']⟩)) ?_
  refine wc_nil ?_
  rintro k7 kq k8 vs7 b7 _ hle7 ⟨p0, s0, p1, s1, p2, s2, rfl, hU⟩ hle7q hn7 hq8 hk8 hN7 eb7 hvs7
  clear hvs7
  dsimp only [List.drop]
  simp only [nameE, nameP, set]
  rw [eb7]
  have c8 := cells_at (vs := (putR tp bs[n]).cs p0 s0 p1 s1 p2 s2) hk8 rfl
  have hle8 : Le k6 k8 := hle7.trans (hle7q.trans hq8)
  have hU := hU.le hle7q
  have hb7 : k6 b7 = none := (hle7.trans hle7q).none hn7
  have c5 := c5.le hle8
  have hl8 := hl6.le hle8
  have hstep : ofT bs = stepT tp bs[n] := by rw [htp]; exact row_good hlt hn
  obtain ⟨g0', g1', g2'⟩ := of_few (bs := bs) (n := 60) (by omega)
  repeat (first | refine cg_seq ?_ | refine cg_region ?_ | refine rg_nil ?_ | refine eg_then ?_ | refine qsp ?_ | refine qsn ?_ | refine qsa ?_ | refine qss ?_ | refine qsi ?_ | refine qsz ?_ | refine qsl ?_ | refine qsg ?_ | refine qsf ?_ | refine qsd ?_ | refine qsE ?_ | refine qsX ?_ | refine qse ?_ | refine qsx ?_ | refine qso ?_ | refine cg_cond_true rfl ?_ | refine cg_cond_false rfl ?_ | refine cg_skip ?_ | refine cg_block ?_ | refine eg_in_normal ?_ | refine cg_ret ?_ | refine eg_then_ret ?_ | refine eg_in_ret ?_ | refine cg_exit ?_ | refine eg_then_exit ?_ | refine eg_in_exit ?_ | refine eg_in_other rfl ?_)
  cases q3 : (putErr tp bs[n] != 0)
  · have q3' : putErr tp bs[n] = 0 := by simpa using q3
    have eR : putR tp bs[n] = ofT bs := by rw [hstep, stepT, if_pos q3', putR, if_pos q3']
    rw [eR] at c8 hU
    have hX := hU.le hq8
    have hl9 := hl8
    repeat (first | refine cg_seq ?_ | refine cg_region ?_ | refine rg_nil ?_ | refine eg_then ?_ | refine qsp ?_ | refine qsn ?_ | refine qsa ?_ | refine qss ?_ | refine qsi ?_ | refine qsz ?_ | refine qsl ?_ | refine qsg ?_ | refine qsf ?_ | refine qsd ?_ | refine qsE ?_ | refine qsX ?_ | refine qse ?_ | refine qsx ?_ | refine qso ?_ | refine cg_cond_true rfl ?_ | refine cg_cond_false rfl ?_ | refine cg_skip ?_ | refine cg_block ?_ | refine eg_in_normal ?_ | refine cg_ret ?_ | refine eg_then_ret ?_ | refine eg_in_ret ?_ | refine cg_exit ?_ | refine eg_then_exit ?_ | refine eg_in_exit ?_ | refine eg_in_other rfl ?_)
    refine cg_anyn (by kernel_rfl) rfl ?_
    repeat (first | refine qwp ?_ | refine qwn ?_ | refine qwa ?_ | refine qws ?_ | refine qwi ?_ | refine qwz ?_ | refine qwl ?_ | refine qwg ?_ | refine qwf ?_ | refine qwd ?_ | refine qwE ?_ | refine qwX ?_ | refine qwe ?_ | refine qwx ?_ | refine qwo ?_ | (refine wn rfl ?_; refine eg_then ?_))
    refine wv rfl (loc_call rfl rfl rfl rfl TxVal.mono (txOf_ct hl9 (by omega))) ?_
    repeat (first | refine qwp ?_ | refine qwn ?_ | refine qwa ?_ | refine qws ?_ | refine qwi ?_ | refine qwz ?_ | refine qwl ?_ | refine qwg ?_ | refine qwf ?_ | refine qwd ?_ | refine qwE ?_ | refine qwX ?_ | refine qwe ?_ | refine qwx ?_ | refine qwo ?_ | (refine wn rfl ?_; refine eg_then ?_))
    refine ws (v := .bool true) rfl (loc_elim 40 rfl (by kernel_rfl) trivial ?_) ?_
    · rintro v k10 hle10 ⟨g0, h0, g1, h1, g2, h2, rfl, hO⟩
      have hs := sameTx_ct hO.o hO.g hO.d (hX.o.le hle10) (hX.g.le hle10) (hX.d.le hle10)
      rw [decide_eq_true rfl] at hs
      exact loc_call_is rfl rfl rfl rfl hs
    repeat (first | refine qwp ?_ | refine qwn ?_ | refine qwa ?_ | refine qws ?_ | refine qwi ?_ | refine qwz ?_ | refine qwl ?_ | refine qwg ?_ | refine qwf ?_ | refine qwd ?_ | refine qwE ?_ | refine qwX ?_ | refine qwe ?_ | refine qwx ?_ | refine qwo ?_ | (refine wn rfl ?_; refine eg_then ?_))
    have hc := txCheck_ct hX (by omega) (by omega)
    rw [of_ok] at hc
    refine ws rfl (loc_call_is rfl rfl rfl rfl hc) ?_
    simp only [errOf, if_true]
    repeat (first | refine qwp ?_ | refine qwn ?_ | refine qwa ?_ | refine qws ?_ | refine qwi ?_ | refine qwz ?_ | refine qwl ?_ | refine qwg ?_ | refine qwf ?_ | refine qwd ?_ | refine qwE ?_ | refine qwX ?_ | refine qwe ?_ | refine qwx ?_ | refine qwo ?_ | (refine wn rfl ?_; refine eg_then ?_))
    refine wnn ?_
    intro k11 vs11 hle11 hvs11
    clear hvs11
    simp only [nameE, nameP]
    refine eg_then ?_
    repeat (first | refine cg_seq ?_ | refine cg_region ?_ | refine rg_nil ?_ | refine eg_then ?_ | refine qsp ?_ | refine qsn ?_ | refine qsa ?_ | refine qss ?_ | refine qsi ?_ | refine qsz ?_ | refine qsl ?_ | refine qsg ?_ | refine qsf ?_ | refine qsd ?_ | refine qsE ?_ | refine qsX ?_ | refine qse ?_ | refine qsx ?_ | refine qso ?_ | refine cg_cond_true rfl ?_ | refine cg_cond_false rfl ?_ | refine cg_skip ?_ | refine cg_block ?_ | refine eg_in_normal ?_ | refine cg_ret ?_ | refine eg_then_ret ?_ | refine eg_in_ret ?_ | refine cg_exit ?_ | refine eg_then_exit ?_ | refine eg_in_exit ?_ | refine eg_in_other rfl ?_)
    exact eg_return rfl rfl rfl
  · have q3' : putErr tp bs[n] ≠ 0 := by simpa using q3
    have eR : tp = ofT bs := by rw [hstep, stepT, if_neg q3']
    rw [eR] at c5 hT
    repeat (first | refine cg_seq ?_ | refine cg_region ?_ | refine rg_nil ?_ | refine eg_then ?_ | refine qsp ?_ | refine qsn ?_ | refine qsa ?_ | refine qss ?_ | refine qsi ?_ | refine qsz ?_ | refine qsl ?_ | refine qsg ?_ | refine qsf ?_ | refine qsd ?_ | refine qsE ?_ | refine qsX ?_ | refine qse ?_ | refine qsx ?_ | refine qso ?_ | refine cg_cond_true rfl ?_ | refine cg_cond_false rfl ?_ | refine cg_skip ?_ | refine cg_block ?_ | refine eg_in_normal ?_ | refine cg_ret ?_ | refine eg_then_ret ?_ | refine eg_in_ret ?_ | refine cg_exit ?_ | refine eg_then_exit ?_ | refine eg_in_exit ?_ | refine eg_in_other rfl ?_)
    refine rw1 (vs := (ofT bs).cs e0 d0 e1 d1 e2 d2) rfl rfl rfl rfl rfl rfl rfl hk8 rfl (.inl hN7) ?_ ?_
    · simp [Tx.cs, Value.oneCell']
    intro k9 ht9 hk9
    have c9 := cells_at (vs := (ofT bs).cs e0 d0 e1 d1 e2 d2) hk9 rfl
    have hX := hT.le (ht9 k6 hle8 hb7)
    have hl9 := hl6.le (ht9 k6 hle8 hb7)
    repeat (first | refine cg_seq ?_ | refine cg_region ?_ | refine rg_nil ?_ | refine eg_then ?_ | refine qsp ?_ | refine qsn ?_ | refine qsa ?_ | refine qss ?_ | refine qsi ?_ | refine qsz ?_ | refine qsl ?_ | refine qsg ?_ | refine qsf ?_ | refine qsd ?_ | refine qsE ?_ | refine qsX ?_ | refine qse ?_ | refine qsx ?_ | refine qso ?_ | refine cg_cond_true rfl ?_ | refine cg_cond_false rfl ?_ | refine cg_skip ?_ | refine cg_block ?_ | refine eg_in_normal ?_ | refine cg_ret ?_ | refine eg_then_ret ?_ | refine eg_in_ret ?_ | refine cg_exit ?_ | refine eg_then_exit ?_ | refine eg_in_exit ?_ | refine eg_in_other rfl ?_)
    refine cg_anyn (by kernel_rfl) rfl ?_
    repeat (first | refine qwp ?_ | refine qwn ?_ | refine qwa ?_ | refine qws ?_ | refine qwi ?_ | refine qwz ?_ | refine qwl ?_ | refine qwg ?_ | refine qwf ?_ | refine qwd ?_ | refine qwE ?_ | refine qwX ?_ | refine qwe ?_ | refine qwx ?_ | refine qwo ?_ | (refine wn rfl ?_; refine eg_then ?_))
    refine wv rfl (loc_call rfl rfl rfl rfl TxVal.mono (txOf_ct hl9 (by omega))) ?_
    repeat (first | refine qwp ?_ | refine qwn ?_ | refine qwa ?_ | refine qws ?_ | refine qwi ?_ | refine qwz ?_ | refine qwl ?_ | refine qwg ?_ | refine qwf ?_ | refine qwd ?_ | refine qwE ?_ | refine qwX ?_ | refine qwe ?_ | refine qwx ?_ | refine qwo ?_ | (refine wn rfl ?_; refine eg_then ?_))
    refine ws (v := .bool true) rfl (loc_elim 40 rfl (by kernel_rfl) trivial ?_) ?_
    · rintro v k10 hle10 ⟨g0, h0, g1, h1, g2, h2, rfl, hO⟩
      have hs := sameTx_ct hO.o hO.g hO.d (hX.o.le hle10) (hX.g.le hle10) (hX.d.le hle10)
      rw [decide_eq_true rfl] at hs
      exact loc_call_is rfl rfl rfl rfl hs
    repeat (first | refine qwp ?_ | refine qwn ?_ | refine qwa ?_ | refine qws ?_ | refine qwi ?_ | refine qwz ?_ | refine qwl ?_ | refine qwg ?_ | refine qwf ?_ | refine qwd ?_ | refine qwE ?_ | refine qwX ?_ | refine qwe ?_ | refine qwx ?_ | refine qwo ?_ | (refine wn rfl ?_; refine eg_then ?_))
    have hc := txCheck_ct hX (by omega) (by omega)
    rw [of_ok] at hc
    refine ws rfl (loc_call_is rfl rfl rfl rfl hc) ?_
    simp only [errOf, if_true]
    repeat (first | refine qwp ?_ | refine qwn ?_ | refine qwa ?_ | refine qws ?_ | refine qwi ?_ | refine qwz ?_ | refine qwl ?_ | refine qwg ?_ | refine qwf ?_ | refine qwd ?_ | refine qwE ?_ | refine qwX ?_ | refine qwe ?_ | refine qwx ?_ | refine qwo ?_ | (refine wn rfl ?_; refine eg_then ?_))
    refine wnn ?_
    intro k11 vs11 hle11 hvs11
    clear hvs11
    simp only [nameE, nameP]
    refine eg_then ?_
    repeat (first | refine cg_seq ?_ | refine cg_region ?_ | refine rg_nil ?_ | refine eg_then ?_ | refine qsp ?_ | refine qsn ?_ | refine qsa ?_ | refine qss ?_ | refine qsi ?_ | refine qsz ?_ | refine qsl ?_ | refine qsg ?_ | refine qsf ?_ | refine qsd ?_ | refine qsE ?_ | refine qsX ?_ | refine qse ?_ | refine qsx ?_ | refine qso ?_ | refine cg_cond_true rfl ?_ | refine cg_cond_false rfl ?_ | refine cg_skip ?_ | refine cg_block ?_ | refine eg_in_normal ?_ | refine cg_ret ?_ | refine eg_then_ret ?_ | refine eg_in_ret ?_ | refine cg_exit ?_ | refine eg_then_exit ?_ | refine eg_in_exit ?_ | refine eg_in_other rfl ?_)
    exact eg_return rfl rfl rfl
end Go.Wm

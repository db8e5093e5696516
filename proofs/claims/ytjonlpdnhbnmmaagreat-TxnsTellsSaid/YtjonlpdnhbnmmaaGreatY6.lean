/-
  The example of layer 12 runs. Conditions: none.
-/
import Derived.Test.YtjonlpdnhbnmmaaGreatQ4
set_option linter.all false
namespace Go.Wm
open Go.RowKit Go.Proofs
attribute [local irreducible] RG CG EG WA Loc Det Alc CT Exit.then Exit.inBlock Code.wp bodyPost
theorem i64_0 : I64 0 := ⟨by decide, by decide⟩
theorem dataOk {base pid : Int} (h : I64 base) (h2 : I64 pid) : (dataB base pid).ok := ⟨h, h, h, i64_0, h2, i64_0, i64_0, trivial, i64_0, trivial⟩
theorem endOk {base pid ctl : Int} (h : I64 base) (h2 : I64 pid) (h3 : I64 ctl) : (endB base pid ctl).ok := ⟨h, h, h, i64_0, h2, i64_0, i64_0, trivial, h3, trivial⟩
theorem ex_rep {k : PH} {b : Nat} {et : TypeId} {fr : Nat × Nat} {a0 a1 a2 : Option Addr} {c0 c1 c2 : Nat} (h : k b = some (.cells ((dataB 0 7).cs a0 c0 ++ (dataB 1 8).cs a1 c1 ++ (dataB 2 7).cs a2 c2 ++ (endB 3 7 1).cs none 0 ++ (endB 4 8 2).cs none 0).toArray et fr))
    (r0 : Sl tRec k a0 c0 (dataB 0 7).recs) (r1 : Sl tRec k a1 c1 (dataB 1 8).recs) (r2 : Sl tRec k a2 c2 (dataB 2 7).recs) : Sl tBatch k (some ⟨b, 0, none⟩) 5 exL := by
  refine sl_rows (xs := exL) (css := [(dataB 0 7).cs a0 c0, (dataB 1 8).cs a1 c1, (dataB 2 7).cs a2 c2, (endB 3 7 1).cs none 0, (endB 4 8 2).cs none 0]) h rfl rfl (fun i cs x h1 h2 => ?_) (by simp [exL, maxLen])
  have i8 : I64 8 := ⟨by decide, by decide⟩
  have i7 : I64 7 := ⟨by decide, by decide⟩
  have i0 : I64 0 := ⟨by decide, by decide⟩
  have i1 : I64 1 := ⟨by decide, by decide⟩
  have i2 : I64 2 := ⟨by decide, by decide⟩
  have i3 : I64 3 := ⟨by decide, by decide⟩
  have i4 : I64 4 := ⟨by decide, by decide⟩
  match i, h1, h2 with
  | 0, h1, h2 =>
    simp [exL] at h1 h2
    rw [← h1, ← h2]
    exact ⟨_, _, rfl, r0, dataOk i0 i7⟩
  | 1, h1, h2 =>
    simp [exL] at h1 h2
    rw [← h1, ← h2]
    exact ⟨_, _, rfl, r1, dataOk i1 i8⟩
  | 2, h1, h2 =>
    simp [exL] at h1 h2
    rw [← h1, ← h2]
    exact ⟨_, _, rfl, r2, dataOk i2 i7⟩
  | 3, h1, h2 =>
    simp [exL] at h1 h2
    rw [← h1, ← h2]
    exact ⟨_, _, rfl, sl_none _ _, endOk i3 i7 i1⟩
  | 4, h1, h2 =>
    simp [exL] at h1 h2
    rw [← h1, ← h2]
    exact ⟨_, _, rfl, sl_none _ _, endOk i4 i8 i2⟩
theorem ofEx_ct {k : PH} {a : Option Addr} {c : Nat} (hl : Sl tBatch k a c exL) : CT Tryz.prog 20 #[.slice a 4 c] k (TxVal tA) := by
  have h := txOf_ct (hl.take 4) (by decide)
  rw [ex_of] at h
  exact h
theorem txAt_turn {k k' : PH} {t : Tx} {a0 a1 a2 : Option Addr} {c0 c1 c2 g : Nat} (h : TxAt k t a0 c0 a1 c1 a2 c2) (ht : Turn1 k k' g) (hk : k g = some (.cells #[.slice none 0 0, .slice none 0 0, .slice none 0 0] 25 (0, 0))) : TxAt k' t a0 c0 a1 c1 a2 c2 :=
  ⟨sl_turnX h.o ht hk (fun cs x ⟨h, _⟩ => ⟨.int .i64 x.pid, by rw [h]; rfl, by simp⟩) (fun _ _ h => h), sl_turnX h.g ht hk (fun cs x ⟨h, _⟩ => ⟨.int .i64 x.pid, by rw [h]; rfl, by simp⟩) (fun _ _ h => h), sl_turnX h.d ht hk (fun cs x ⟨h, _⟩ => ⟨.int .i64 x.pid, by rw [h]; rfl, by simp⟩) (fun _ _ h => h)⟩
theorem showEx_ct {k : PH} {a a2 : Option Addr} {c c2 : Nat} (hl : Sl tBatch k a c exL) (hg : Sl tGone k a2 c2 uA.gone) : CT Tryz.prog 13 #[.slice a 5 c, .slice a2 uA.gone.length c2, .int .i64 5] k (fun k' v => ∃ a' c', v = .slice a' 2 c' ∧ Sl tBatch k' a' c' [dataB 0 7, dataB 2 7]) := by
  have h := show_ct 5 hl hg (by decide)
  rw [ex_show] at h
  exact h
set_option maxHeartbeats 4000000 in
theorem live12_ct {k : PH} : CT Tryz.prog 6 #[] k (fun _ v => v = .bool true) := by
  refine ct_of_body (l := []) Tryz.func6 rfl Tryz.ntmps6 (by simp) (fun _ _ _ _ h => h) fun F hF0 hFm => ?_
  repeat (first | refine cg_seq ?_ | refine cg_region ?_ | refine rg_nil ?_ | refine eg_then ?_ | refine qsp ?_)
  refine rv rfl rfl rfl (loc_call rfl rfl rfl rfl (fun k k' v hle ⟨a, c, h1, h2⟩ => ⟨a, c, h1, h2.le hle⟩) (data12_ct 0 7 ⟨by decide, by decide⟩)) ?_
  rintro k1 hle1 _ ⟨a0, c0, rfl, r0⟩
  refine rv rfl rfl rfl (loc_call rfl rfl rfl rfl (fun k k' v hle ⟨a, c, h1, h2⟩ => ⟨a, c, h1, h2.le hle⟩) (data12_ct 1 8 ⟨by decide, by decide⟩)) ?_
  rintro k2 hle2 _ ⟨a1, c1, rfl, r1⟩
  refine rv rfl rfl rfl (loc_call rfl rfl rfl rfl (fun k k' v hle ⟨a, c, h1, h2⟩ => ⟨a, c, h1, h2.le hle⟩) (data12_ct 2 7 ⟨by decide, by decide⟩)) ?_
  rintro k3 hle3 _ ⟨a2, c2, rfl, r2⟩
  refine rs rfl rfl (loc_call_is rfl rfl rfl rfl (end12_ct 3 7 1)) ?_
  refine rs rfl rfl (loc_call_is rfl rfl rfl rfl (end12_ct 4 8 2)) ?_
  refine rb rfl rfl rfl rfl (a_slice (cells := (dataB 0 7).cs a0 c0 ++ (dataB 1 8).cs a1 c1 ++ (dataB 2 7).cs a2 c2 ++ (endB 3 7 1).cs none 0 ++ (endB 4 8 2).cs none 0) rfl rfl rfl rfl (by kernel_rfl) rfl) ?_
  intro b5 k5 hb5 hN5 hle5 hk5
  have hL := ex_rep hk5 (r0.le (hle2.trans (hle3.trans hle5))) (r1.le (hle3.trans hle5)) (r2.le hle5)
  repeat (first | refine cg_seq ?_ | refine cg_region ?_ | refine rg_nil ?_ | refine eg_then ?_ | refine qsp ?_)
  refine rs rfl rfl (loc_det rfl (d_pre hL rfl rfl rfl (by decide))) ?_
  refine rv rfl rfl rfl (loc_call rfl rfl rfl rfl TxVal.mono (ofEx_ct hL)) ?_
  rintro k6 hle6 _ ⟨e0, d0, e1, d1, e2, d2, rfl, hA⟩
  skip
  refine rb rfl rfl rfl rfl (a_alloc rfl) ?_; intro b7 k7 hb7 hN7 hle7 hk7
  refine rw1 (vs := tA.cs e0 d0 e1 d1 e2 d2) rfl rfl rfl rfl rfl rfl rfl hk7 rfl (.inl hN7) ?_ ?_
  · simp [Tx.cs, Value.oneCell']
  intro k8 ht8 hk8
  have c8 := cells_at (vs := tA.cs e0 d0 e1 d1 e2 d2) hk8 rfl
  have hle8 : Le k6 k8 := ht8 k6 hle7 hb7
  have hA := hA.le hle8
  have hL := hL.le (hle6.trans hle8)
  repeat (first | refine cg_seq ?_ | refine rg_nil ?_ | refine eg_then ?_)
  obtain ⟨bx, ox, cx, e, ⟨ra, rc, ecx, hr, hok⟩, hcx⟩ := hL.el 4 (endB 4 8 2) rfl
  cases e
  rw [ecx] at hcx
  refine cg_sto 10 8 9 3 3 25 (TxVal uA) (by kernel_rfl) (by kernel_rfl) rfl (by kernel_rfl) rfl rfl ?_
  dsimp only [List.take]
  repeat (first | refine qcp ?_ | refine qcg ?_)
  refine wc_s rfl (loc_det rfl (d_idx (i := 4) rfl rfl rfl (by decide))) rfl ?_
  repeat (first | refine qcg ?_)
  refine wc_v rfl (loc_call rfl rfl rfl rfl PutRes.mono (txPut_ct hA hr hok (by decide) (by decide) (by decide))) rfl ?_
  refine wc_v rfl (loc_mv rfl (.inl rfl) rfl PutRes.mono) rfl ?_
  refine wc_v (φ := TxVal uA) rfl (loc_elim 17 rfl (by kernel_rfl) TxVal.mono ?_) rfl ?_
  · rintro v k9 hle9 ⟨p0, q0, p1, q1, p2, q2, rfl, h9⟩
    rw [ex_put] at h9 ⊢
    exact loc_isv (loc_det rfl (d_pure rfl)) rfl TxVal.mono fun k' hk => ⟨p0, q0, p1, q1, p2, q2, rfl, h9.le hk⟩
  refine wc_s (v := .int .i64 0) rfl (loc_elim 17 rfl (by kernel_rfl) trivial ?_) rfl ?_
  · rintro v k9 hle9 ⟨p0, q0, p1, q1, p2, q2, rfl, h9⟩
    rw [ex_err]
    exact loc_det rfl (d_pure rfl)
  refine wc_e 0 rfl (effs_new rfl rfl rfl (Le.refl _) (a_alloc rfl) rfl) ?_
  refine wc_e 1 rfl (effs_sto rfl rfl (Le.refl _) rfl rfl (fun k u ⟨p0, q0, p1, q1, p2, q2, h, _⟩ => ⟨_, h, rfl, by simp [Tx.cs, Value.oneCell']⟩)) ?_
  refine wc_nil ?_
  rintro k9 kq k10 vs9 b9 _ hle9 ⟨p0, q0, p1, q1, p2, q2, rfl, hU⟩ hle9q hn9 hq10 hk10 hN9 eb9 hvs9
  clear hvs9
  dsimp only [List.drop]
  simp only [nameE, nameP, set]
  rw [eb9]
  have c10 := cells_at (vs := uA.cs p0 q0 p1 q1 p2 q2) hk10 rfl
  have hle10 : Le k8 k10 := hle9.trans (hle9q.trans hq10)
  have hU := hU.le (hle9q.trans hq10)
  have hA := hA.le hle10
  have hL := hL.le hle10
  have c8 := c8.le hle10
  repeat (first | refine cg_seq ?_ | refine rg_nil ?_ | refine eg_then ?_ | refine qsp ?_)
  obtain ⟨bx, ox, cx, e, ⟨ra, rc, ecx, hr, hok⟩, hcx⟩ := hL.el 0 (dataB 0 7) rfl
  cases e
  rw [ecx] at hcx
  refine cg_sto 10 8 9 5 3 25 (TxVal (putR tA (dataB 0 7))) (by kernel_rfl) (by kernel_rfl) rfl (by kernel_rfl) rfl rfl ?_
  dsimp only [List.take]
  repeat (first | refine qcp ?_ | refine qcz ?_ | refine qcg ?_)
  refine wc_v rfl (loc_call rfl rfl rfl rfl PutRes.mono (txPut_ct hA hr hok (by decide) (by decide) (by decide))) rfl ?_
  refine wc_v rfl (loc_mv rfl (.inl rfl) rfl PutRes.mono) rfl ?_
  refine wc_v (φ := TxVal (putR tA (dataB 0 7))) rfl (loc_elim 25 rfl (by kernel_rfl) TxVal.mono ?_) rfl ?_
  · rintro v k9 hle9 ⟨p0, q0, p1, q1, p2, q2, rfl, h9⟩
    skip
    exact loc_isv (loc_det rfl (d_pure rfl)) rfl TxVal.mono fun k' hk => ⟨p0, q0, p1, q1, p2, q2, rfl, h9.le hk⟩
  refine wc_s (v := .int .i64 71) rfl (loc_elim 25 rfl (by kernel_rfl) trivial ?_) rfl ?_
  · rintro v k9 hle9 ⟨p0, q0, p1, q1, p2, q2, rfl, h9⟩
    rw [ex_order]
    exact loc_det rfl (d_pure rfl)
  refine wc_e 0 rfl (effs_new rfl rfl rfl (Le.refl _) (a_alloc rfl) rfl) ?_
  refine wc_e 1 rfl (effs_sto rfl rfl (Le.refl _) rfl rfl (fun k u ⟨p0, q0, p1, q1, p2, q2, h, _⟩ => ⟨_, h, rfl, by simp [Tx.cs, Value.oneCell']⟩)) ?_
  refine wc_nil ?_
  rintro k11 kr k12 vs11 b11 _ hle11 _ hle11r hn11 hr12 hk12 hN11 eb11 hvs11
  clear hvs11
  dsimp only [List.drop]
  simp only [nameE, nameP, set]
  rw [eb11]
  have hle12 : Le k10 k12 := hle11.trans (hle11r.trans hr12)
  have hA := hA.le hle12
  have hU := hU.le hle12
  have hL := hL.le hle12
  have c8 := c8.le hle12
  have c10 := c10.le hle12
  obtain ⟨w0, w1, w2⟩ := Tx.parts c8
  obtain ⟨u0, u1, u2⟩ := Tx.parts c10
  repeat (first | refine cg_seq ?_ | refine cg_region ?_ | refine rg_nil ?_ | refine eg_then ?_ | refine qsp ?_ | refine qsl ?_ | refine qsf ?_)
  refine rv rfl rfl rfl (loc_call rfl rfl rfl rfl (fun k k' v hle ⟨a, c, h1, h2⟩ => ⟨a, c, h1, h2.le hle⟩) (showEx_ct hL hU.g)) ?_
  rintro k13 hle13 _ ⟨a13, c13, rfl, hS⟩
  have hA := hA.le hle13
  have hU := hU.le hle13
  have c8 := c8.le hle13
  have c10 := c10.le hle13
  obtain ⟨w0, w1, w2⟩ := Tx.parts c8
  obtain ⟨u0, u1, u2⟩ := Tx.parts c10
  repeat (first | refine cg_seq ?_ | refine cg_region ?_ | refine rg_nil ?_ | refine eg_then ?_ | refine qsp ?_ | refine qsn ?_ | refine qsl ?_ | refine qsf ?_ | refine cg_cond_false rfl ?_ | refine cg_skip ?_)
  obtain ⟨bo, oo, co, eo, ⟨eco, _⟩, hco⟩ := hA.o.el 0 ⟨8, 1⟩ rfl
  subst eco
  subst eo
  obtain ⟨bg, og, cg, eg, ⟨ecg, _⟩, hcg⟩ := hU.g.el 0 ⟨8, 0, 1, 4⟩ rfl
  subst ecg
  subst eg
  obtain ⟨bd, od, cd, ed, ⟨ecd, _⟩, hcd⟩ := hU.d.el 0 ⟨7, 0, 0, 3⟩ rfl
  subst ecd
  subst ed
  obtain ⟨bs1, os1, cs1, es1, ⟨_, _, ecs1, _⟩, hcs1⟩ := hS.el 1 (dataB 2 7) rfl
  obtain ⟨bs0, os0, cs0, es0, ⟨_, _, ecs0, _⟩, hcs0⟩ := hS.el 0 (dataB 0 7) rfl
  rw [es0] at es1
  cases es1
  subst es0
  rw [ecs0] at hcs0
  rw [ecs1] at hcs1
  obtain ⟨m0, _⟩ := Batch.parts hcs0
  obtain ⟨m1, _⟩ := Batch.parts hcs1
  have c8' := c8
  have c10' := c10
  have s1 := txStable_ct 4 hA (by decide)
  have s2 := txStable_ct 5 hU (by decide)
  rw [ex_s1] at s1
  rw [ex_s2] at s2
  skip
  refine rs rfl rfl (loc_det rfl (d_idx (i := 0) rfl rfl rfl (by decide))) ?_
  repeat (first | refine qsg ?_)
  refine rs rfl rfl (loc_det rfl (d_lit (cells := (⟨8, 1⟩ : OpenT).vs) rfl rfl rfl)) ?_
  repeat (first | refine qsp ?_ | refine qsg ?_ | refine qsE ?_)
  refine rs rfl rfl (loc_call_is rfl rfl rfl rfl (s1)) ?_
  repeat (first | refine qsp ?_ | refine qsg ?_)
  refine rs rfl rfl (loc_call_is rfl rfl rfl rfl (s2)) ?_
  repeat (first | refine qsp ?_ | refine qsl ?_ | refine qsf ?_)
  refine rs rfl rfl (loc_det rfl (d_idx (i := 0) rfl rfl rfl (by decide))) ?_
  repeat (first | refine qsg ?_)
  refine rs rfl rfl (loc_det rfl (d_lit (cells := (⟨8, 0, 1, 4⟩ : Gone).vs) rfl rfl rfl)) ?_
  repeat (first | refine qsp ?_ | refine qsl ?_ | refine qsf ?_ | refine qsE ?_)
  refine rs rfl rfl (loc_det rfl (d_idx (i := 0) rfl rfl rfl (by decide))) ?_
  repeat (first | refine qsg ?_)
  refine rs rfl rfl (loc_det rfl (d_lit (cells := (⟨7, 0, 0, 3⟩ : Gone).vs) rfl rfl rfl)) ?_
  repeat (first | refine qsp ?_ | refine qsz ?_ | refine qsl ?_ | refine qsf ?_ | refine qsE ?_)
  refine rs rfl rfl (loc_det rfl (d_idx (i := 1) rfl rfl rfl (by decide))) ?_
  repeat (first | refine qsp ?_ | refine qsl ?_ | refine qsg ?_ | refine qsf ?_)
  have h1 := hidden_ct (t := uA) (a0 := p0) (c0 := q0) (a2 := some ⟨bd, od, none⟩) (c2 := q2) 5 9 hU.g (by decide)
  rw [ex_h1] at h1
  refine rv rfl rfl rfl (loc_call rfl rfl rfl rfl (fun k k' v hle ⟨a, c, h1, h2⟩ => ⟨a, c, h1, h2.le hle⟩) h1) ?_
  rintro k14 hle14 _ ⟨a14, c14, rfl, _⟩
  have c10 := c10.le hle14
  have hU := hU.le hle14
  have h2 := hidden_ct (t := uA) (a0 := p0) (c0 := q0) (a2 := some ⟨bd, od, none⟩) (c2 := q2) 4 9 hU.g (by decide)
  rw [ex_h2] at h2
  repeat (first | refine qsp ?_ | refine qsn ?_ | refine qsg ?_)
  refine rv rfl rfl rfl (loc_call rfl rfl rfl rfl (fun k k' v hle ⟨a, c, h1, h2⟩ => ⟨a, c, h1, h2.le hle⟩) h2) ?_
  rintro k15 hle15 _ ⟨a15, c15, rfl, _⟩
  have c10 := c10.le hle15
  have hU := hU.le hle15
  repeat (first | refine qsp ?_ | refine qsn ?_ | refine qsg ?_)
  refine rv rfl rfl rfl (loc_call rfl rfl rfl rfl TxVal.mono (txTrim_ct 4 hU (by decide) (by decide))) ?_
  rintro k16 hle16 _ ⟨f0, g0, f1, g1, f2, g2, rfl, _⟩
  have c10 := c10.le hle16
  have hU := hU.le hle16
  have s3 := txCheck_ct hU (by decide) (by decide)
  rw [ex_okU] at s3
  repeat (first | refine qsp ?_ | refine qsn ?_ | refine qsg ?_ | refine qsd ?_)
  refine rs rfl rfl (loc_call_is rfl rfl rfl rfl (s3)) ?_
  simp only [errOf, if_true]
  repeat (first | refine qsp ?_)
  refine rs rfl rfl (loc_det rfl (d_lit (cells := (⟨-1, 0⟩ : OpenT).vs) rfl rfl rfl)) ?_
  skip
  refine rbg rfl rfl rfl rfl (a_slice (cells := [(⟨-1, 0⟩ : OpenT)].flatMap OpenT.vs) rfl rfl rfl rfl (by kernel_rfl) rfl) ?_
  intro b17 k17 hb17 hN17 hle17 hk17
  have hodd : Sl tOpenT k17 (some ⟨b17, 0, none⟩) 1 [⟨-1, 0⟩] := sl_flat (xs := [(⟨-1, 0⟩ : OpenT)]) hk17 rfl (fun x hx => ⟨rfl, by simp at hx; subst hx; exact ⟨⟨by decide, by decide⟩, i64_0⟩⟩) (by decide)
  have s4 := txCheck_ct (k := k17) (t := oddT) ⟨hodd, sl_none _ _, sl_none _ _⟩ (by decide) (by decide)
  rw [ex_odd] at s4
  skip
  refine rs rfl rfl (loc_det rfl (d_lit (cells := oddT.cs (some ⟨b17, 0, none⟩) 1 none 0 none 0) rfl rfl rfl)) ?_
  skip
  refine rs rfl rfl (loc_call_is rfl rfl rfl rfl (s4)) ?_
  simp only [errOf]
  repeat (first | refine rg_nil ?_ | refine eg_then ?_ | refine qsp ?_ | refine cg_ret ?_)
  exact eg_return rfl rfl rfl
end Go.Wm

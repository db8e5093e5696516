/-
  The walk of TxnsTells. Conditions: that what is handed in reads as data.
-/
import Derived.Test.YtjonlpdnhbnmmaaGreatZ1
import Derived.Test.YtjonlpdnhbnmmaaGreatCoA
import Derived.Test.YtjonlpdnhbnmmaaGreatY6
set_option linter.all false
namespace Go.Wm
open Go.RowKit Go.Proofs
theorem txAt_turn2 {k k' : PH} {t s : Tx} {a0 a1 a2 b0 b1 b2 : Option Addr} {c0 c1 c2 d0 d1 d2 g : Nat} {et : TypeId} {fr : Nat × Nat} (h : TxAt k t a0 c0 a1 c1 a2 c2) (ht : Turn1 k k' g) (hk : k g = some (.cells (s.cs b0 d0 b1 d1 b2 d2).toArray et fr)) : TxAt k' t a0 c0 a1 c1 a2 c2 :=
  ⟨sl_turnX h.o ht hk (fun cs x ⟨h, _⟩ => ⟨.int .i64 x.pid, by rw [h]; rfl, by simp [Tx.cs]⟩) (fun _ _ h => h), sl_turnX h.g ht hk (fun cs x ⟨h, _⟩ => ⟨.int .i64 x.pid, by rw [h]; rfl, by simp [Tx.cs]⟩) (fun _ _ h => h), sl_turnX h.d ht hk (fun cs x ⟨h, _⟩ => ⟨.int .i64 x.pid, by rw [h]; rfl, by simp [Tx.cs]⟩) (fun _ _ h => h)⟩
end Go.Wm
namespace Go.Wm
open Go.RowKit Go.Proofs
attribute [local irreducible] RG CG EG WA Loc Det Alc CT Exit.then Exit.inBlock Code.wp bodyPost
set_option maxHeartbeats 1000000 in
theorem refTrim_ct {k : PH} {t : Tx} {a0 a1 a2 : Option Addr} {c0 c1 c2 : Nat} (start : Int) (ht : TxAt k t a0 c0 a1 c1 a2 c2) (hg : t.gone.length ≤ 1000000) (hd : t.done.length ≤ 1000000) :
    CT Tryz.prog 19 #[.agg (t.cs a0 c0 a1 c1 a2 c2).toArray, .int .i64 start] k (TxVal (trimT t start)) := by
  refine ct_of_body (l := [_, _]) Tryz.func19 rfl Tryz.ntmps19 (by simp) TxVal.mono fun F hF0 hFm => ?_
  repeat (first | refine cg_seq ?_ | refine cg_region ?_)
  refine rb rfl rfl rfl rfl (a_box rfl rfl) ?_; intro b2 k2 hb2 hN2 hle2 hk2
  refine rb rfl rfl rfl rfl (a_alloc rfl) ?_; intro b4 k4 hb4 hN4 hle4 hk4
  have hle := hle2.trans hle4
  have ct := (cells_at (vs := t.cs a0 c0 a1 c1 a2 c2) hk2 rfl).le hle4
  obtain ⟨z0, z1, z2⟩ := Tx.parts ct
  have ht := ht.le hle
  repeat (first | refine cg_seq ?_ | refine rg_nil ?_ | refine eg_then ?_)
  refine cg_fresh 11 [] (by kernel_rfl) (by kernel_rfl) rfl rfl rfl ?_
  dsimp only [List.take]
  repeat (first | refine qfp ?_ | refine qfl ?_ | refine qff ?_)
  refine fs_v rfl (loc_call rfl rfl rfl rfl slM (refFrom_ct start ht.g hg)) rfl ?_
  repeat (first | refine qfp ?_ | refine qfl ?_ | refine qff ?_)
  refine fs_v rfl (loc_call rfl rfl rfl rfl slM (refFrom_ct start ht.d hd)) rfl ?_
  refine fs_v (φ := TxVal (trimT t start)) rfl (loc_elim 10 rfl (by kernel_rfl) TxVal.mono ?_) rfl ?_
  · rintro v5 k5 hle5 ⟨a5, c5, rfl, h5⟩
    refine loc_elim 14 rfl (by kernel_rfl) TxVal.mono ?_
    rintro v6 k6 hle6 ⟨a6, c6, rfl, h6⟩
    exact loc_isv (loc_det rfl (d_lit (cells := (trimT t start).cs a0 c0 a5 c5 a6 c6) rfl rfl rfl)) rfl TxVal.mono fun k' hk => ⟨a0, c0, a5, c5, a6, c6, rfl, ⟨(ht.o.le (hle5.trans hle6)).le hk, (h5.le hle6).le hk, h6.le hk⟩⟩
  refine fs_nil ?_
  intro k7 vs7 hle7 hvs7 _ _
  obtain ⟨p0, d0, p1, d1, p2, d2, e7, h7⟩ := hvs7 15 _ rfl
  clear hvs7
  dsimp only [List.drop]
  simp only [nameE, nameP]
  rw [e7]
  refine rw1 (vs := (trimT t start).cs p0 d0 p1 d1 p2 d2) rfl rfl rfl rfl rfl rfl rfl (hle7 _ _ hk4) rfl (.inl hN4) ?_ ?_
  · simp [Tx.cs, Value.oneCell']
  intro k8 ht8 hk8
  have c8 := cells_at (vs := (trimT t start).cs p0 d0 p1 d1 p2 d2) hk8 rfl
  repeat (first | refine rg_nil ?_ | refine eg_then ?_ | refine cg_ret ?_)
  exact eg_returnC rfl rfl rfl c8 rfl ⟨p0, d0, p1, d1, p2, d2, rfl, txAt_turn h7 ht8 (hle7 _ _ hk4)⟩
set_option maxHeartbeats 1000000 in
theorem refOf_ct {k : PH} {a : Option Addr} {c : Nat} {bs : List Batch} (hl : Sl tBatch k a c bs) (hb : bs.length ≤ 1000000) :
    CT Tryz.prog 21 #[.slice a bs.length c] k (TxVal (ofT bs)) := by
  refine ct_of_body (l := [_]) Tryz.func21 rfl Tryz.ntmps21 (by simp) TxVal.mono fun F hF0 hFm => ?_
  have b1' := hl.cap; have b2' := hl.max; unfold maxLen at b2'
  repeat (first | refine cg_seq ?_ | refine cg_region ?_)
  refine rb rfl rfl rfl rfl (a_alloc rfl) ?_; intro b1 k1 hb1 hN1 hle1 hk1
  repeat (first | refine cg_seq ?_ | refine cg_region ?_ | refine rg_nil ?_ | refine eg_then ?_)
  refine rs rfl rfl (loc_det rfl (d_lit (cells := noTx.cs none 0 none 0 none 0) rfl rfl rfl)) ?_
  refine rb rfl rfl rfl rfl (a_alloc rfl) ?_; intro b2 k2 hb2 hN2 hle2 hk2
  have hb12 : b1 ≠ b2 := fun e => by rw [← e, hk1] at hb2; cases hb2
  refine rw1 (vs := noTx.cs none 0 none 0 none 0) rfl rfl rfl rfl rfl rfl rfl hk2 rfl (.inl hN2) ?_ ?_
  · simp [Tx.cs, Value.oneCell']
  intro k2' ht2' hk2'
  have hle2' : Le k1 k2' := ht2' k1 hle2 hb2
  repeat (first | refine cg_seq ?_ | refine cg_region ?_ | refine rg_nil ?_ | refine eg_then ?_ | refine qsp ?_ | refine cg_block ?_)
  refine cg_loop (fun (i : Nat) e k' => ∃ a0 c0 a1 c1 a2 c2, Le k k' ∧ i ≤ bs.length ∧ k' b1 = some (.cells #[.slice none 0 0, .slice none 0 0, .slice none 0 0] 25 (0, 0)) ∧ k' b2 = some (.cells ((ofT (bs.take i)).cs a0 c0 a1 c1 a2 c2).toArray 25 (0, 0)) ∧ TxAt k' (ofT (bs.take i)) a0 c0 a1 c1 a2 c2 ∧
      e = [(0, .is (.slice a bs.length c)), (2, .is (.pointer (some ⟨b1, 0, none⟩))), (3, .is (.pointer (some ⟨b2, 0, none⟩))), (4, .is (.int .i64 (i : Int)))])
    (fun i => bs.length - i) 0 ⟨none, 0, none, 0, none, 0, hle1.trans hle2', Nat.zero_le _, hle2' _ _ hk1, hk2', noTxAt _, rfl⟩ ⟨rfl, rfl, rfl, rfl, trivial⟩ ?_
  rintro i e k3 ⟨a0, c0, a1, c1, a2, c2, hkk, hi, hk1, hk2, htx, rfl⟩
  have c2' := cells_at (vs := (ofT (bs.take i)).cs a0 c0 a1 c1 a2 c2) hk2 rfl
  repeat (first | refine cg_seq ?_ | refine cg_region ?_ | refine rg_nil ?_ | refine eg_then ?_ | refine qsp ?_ | refine qsn ?_)
  refine cg_cond rfl (fun hc => ?_) (fun hc => ?_)
  · have hlt : i < bs.length := by simpa using hc
    obtain ⟨bx, ox, cx, ea, ⟨ra, rc, ecx, hr, hok⟩, hcx⟩ := (hl.le hkk).el i bs[i] (List.getElem?_eq_getElem hlt)
    rw [ecx] at hcx
    subst ea
    obtain ⟨q0, q1, q2⟩ := of_bound hb i
    repeat (first | refine cg_seq ?_ | refine eg_then ?_ | refine cg_skip ?_ | refine cg_block ?_)
    refine cg_sto 11 9 10 5 3 25 (TxVal (putR (ofT (bs.take i)) bs[i])) (by kernel_rfl) (by kernel_rfl) rfl (by kernel_rfl) rfl rfl ?_
    dsimp only [List.take]
    repeat (first | refine qcp ?_ | refine qci ?_ | refine qcg ?_)
    refine wc_v rfl (loc_call rfl rfl rfl rfl PutRes.mono (refPut_ct htx hr hok q0 q1 q2)) rfl ?_
    refine wc_v rfl (loc_mv rfl (.inl rfl) rfl PutRes.mono) rfl ?_
    refine wc_v (φ := TxVal (putR (ofT (bs.take i)) bs[i])) rfl (loc_elim 14 rfl (by kernel_rfl) TxVal.mono ?_) rfl ?_
    · rintro v k9 hle9 ⟨p0, q0, p1, q1, p2, q2, rfl, h9⟩
      exact loc_isv (loc_det rfl (d_pure rfl)) rfl TxVal.mono fun k' hk => ⟨p0, q0, p1, q1, p2, q2, rfl, h9.le hk⟩
    refine wc_s (v := .int .i64 (putErr (ofT (bs.take i)) bs[i])) rfl (loc_elim 14 rfl (by kernel_rfl) trivial ?_) rfl ?_
    · rintro v k9 hle9 ⟨p0, q0, p1, q1, p2, q2, rfl, h9⟩
      exact loc_det rfl (d_pure rfl)
    refine wc_e 0 rfl (effs_new rfl rfl rfl (Le.refl _) (a_alloc rfl) rfl) ?_
    refine wc_e 1 rfl (effs_sto rfl rfl (Le.refl _) rfl rfl (fun k u ⟨p0, q0, p1, q1, p2, q2, h, _⟩ => ⟨_, h, rfl, by simp [Tx.cs, Value.oneCell']⟩)) ?_
    refine wc_nil ?_
    rintro k7 kq k8 vs7 b7 _ hle7 ⟨p0, s0, p1, s1, p2, s2, rfl, hU⟩ hle7q hn7 hq8 hk8 hN7 eb7 hvs7
    clear hvs7
    dsimp only [List.drop]
    simp only [nameE, nameP, set]
    rw [eb7]
    have c8 := cells_at (vs := (putR (ofT (bs.take i)) bs[i]).cs p0 s0 p1 s1 p2 s2) hk8 rfl
    have hle8 : Le k3 k8 := hle7.trans (hle7q.trans hq8)
    have hU := hU.le (hle7q.trans hq8)
    have hk1 := hle8 _ _ hk1
    have hk2 := hle8 _ _ hk2
    repeat (first | refine cg_seq ?_ | refine cg_region ?_ | refine rg_nil ?_ | refine eg_then ?_ | refine qsp ?_)
    cases q : (putErr (ofT (bs.take i)) bs[i] == 0)
    · have q' : putErr (ofT (bs.take i)) bs[i] ≠ 0 := by simpa using q
      repeat (first | refine cg_region ?_ | refine rg_nil ?_ | refine eg_then ?_ | refine qsp ?_ | refine qsa ?_ | refine cg_cond_false rfl ?_ | refine cg_skip ?_ | refine eg_in_normal ?_)
      refine eg_again (i + 1) _ ⟨a0, c0, a1, c1, a2, c2, hkk.trans hle8, hlt, hk1, ?_, ?_, rfl⟩ (by omega) ⟨rfl, rfl, rfl, rfl, trivial⟩
      · rw [of_take hlt, stepT, if_neg q']; exact hk2
      · rw [of_take hlt, stepT, if_neg q']; exact htx.le hle8
    · have q' : putErr (ofT (bs.take i)) bs[i] = 0 := by simpa using q
      have eR : putR (ofT (bs.take i)) bs[i] = ofT (bs.take (i + 1)) := by rw [of_take hlt, stepT, if_pos q', putR, if_pos q']
      rw [eR] at c8 hU
      repeat (first | refine cg_region ?_ | refine qsg ?_ | refine cg_cond_true rfl ?_)
      refine rw1 (vs := (ofT (bs.take (i + 1))).cs p0 s0 p1 s1 p2 s2) rfl rfl rfl rfl rfl rfl rfl hk2 rfl (.inl hN2) ?_ ?_
      · simp [Tx.cs, Value.oneCell']
      intro k10 ht10 hk10
      repeat (first | refine cg_region ?_ | refine rg_nil ?_ | refine eg_then ?_ | refine qsp ?_ | refine qsa ?_ | refine eg_in_normal ?_)
      exact eg_again (i + 1) _ ⟨p0, s0, p1, s1, p2, s2, ht10 k (hkk.trans hle8) ((hle1.none hb2)), hlt, turn1_get ht10 hb12 hk1, hk10, txAt_turn2 hU ht10 hk2, rfl⟩ (by omega) ⟨rfl, rfl, rfl, rfl, trivial⟩
  · have hil : i = bs.length := by simp at hc; omega
    subst hil
    rw [List.take_length] at c2' htx
    repeat (first | refine cg_seq ?_ | refine cg_region ?_ | refine eg_then ?_ | refine qsg ?_ | refine cg_exit ?_ | refine eg_then_exit ?_ | refine eg_in_exit ?_)
    refine rw1 (vs := (ofT bs).cs a0 c0 a1 c1 a2 c2) rfl rfl rfl rfl rfl rfl rfl hk1 rfl (.inl hN1) ?_ ?_
    · simp [Tx.cs, Value.oneCell']
    intro k9 ht9 hk9
    have c9 := cells_at (vs := (ofT bs).cs a0 c0 a1 c1 a2 c2) hk9 rfl
    repeat (first | refine rg_nil ?_ | refine eg_then ?_ | refine cg_ret ?_)
    exact eg_returnC rfl rfl rfl c9 rfl ⟨a0, c0, a1, c1, a2, c2, rfl, txAt_turn htx ht9 hk1⟩
end Go.Wm
namespace Go.Wm
open Go.RowKit
/-- The low 16 bits. -/
def low16 (x : Int) : Nat := (BitVec.ofInt 64 x &&& BitVec.ofInt 64 65535).toNat
section
variable {P : Program} {o : Oper} {e : Env} {k : PH} {t t' : TypeId} {x y : Operand}
end
end Go.Wm
namespace Go.Wm
open Go.RowKit Go.Proofs
attribute [local irreducible] RG CG EG WA Loc Det Alc CT Exit.then Exit.inBlock Code.wp bodyPost
theorem short_one {s : List Batch} {n : Nat} (h : s.length * n ≤ reachBytes ∧ ∀ x ∈ s, x.small) : ∀ b ∈ s, Short b := fun b hb r hr => by
  have h1 := h.2 b hb
  unfold Batch.small at h1
  have h2 := h1.2.2.2.2.2.2.2.2.2.2 r hr
  exact ⟨h2.2.1, h2.2.2.1⟩
end Go.Wm
-- cut by zcut
namespace Go.Wm
open Go.RowKit Go.Proofs
attribute [local irreducible] RG CG EG WA Loc Det Alc CT Exit.then Exit.inBlock Code.wp bodyPost
structure StepF (t : Tx) (b : Batch) (u : Tx) : Prop where
  o : u.openV.length ≤ t.openV.length + 1
  g : u.gone.length ≤ t.gone.length + 1
  d : u.done.length ≤ t.done.length + 1
  g' : t.gone.length ≤ u.gone.length
  d' : t.done.length ≤ u.done.length
  gt : u.gone.take t.gone.length = t.gone
  dt : u.done.take t.done.length = t.done
  sz : sizeT u = sizeT t ∨ (sizeT u = sizeT t + 1 ∧ b.ctl = 0 ∧ b.txn = true ∧ u.openV.length = t.openV.length + 1)
  none : b.txn = false → u = t
  ok : txP u = true
theorem stepF {t : Tx} {b : Batch} (h : putErr t b = 0) : StepF t b (putT t b) := by
  obtain ⟨h1, h2, h3⟩ := putErr_iff.1 h
  have f := chk_form h2
  have hok := put_ok h
  rcases put_len t b with ⟨e, _⟩ | ⟨c0, ct, th, e⟩ | ⟨c0, th, e⟩
  · rw [e] at hok ⊢
    exact ⟨by omega, by omega, by omega, by omega, by omega, List.take_length, List.take_length, .inl rfl, fun _ => rfl, hok⟩
  · rw [e] at hok ⊢
    have l1 := len_opens t b
    have l2 : (opensT t b).gone = t.gone := rfl
    have l3 : (opensT t b).done = t.done := rfl
    exact ⟨by omega, by rw [l2]; omega, by rw [l3]; omega, by rw [l2]; omega, by rw [l3]; omega, by rw [l2]; exact List.take_length, by rw [l3]; exact List.take_length, .inr ⟨by unfold sizeT; rw [l1, l2, l3]; omega, c0, ct, l1⟩, fun hn => (by rw [ct] at hn; cases hn), hok⟩
  · have l1 := len_less th
    have hno : b.txn = false → putT t b = t := fun hn => by rw [(f.ctl c0).2.2.2.1] at hn; cases hn
    rcases e with e | e
    · rw [e] at hok hno ⊢
      refine ⟨?_, ?_, ?_, ?_, ?_, ?_, ?_, .inl ?_, hno, hok⟩
      · show (lessT t b).length ≤ _; omega
      · show (t.gone ++ [goneOf t b]).length ≤ _; simp
      · show t.done.length ≤ _; omega
      · show _ ≤ (t.gone ++ [goneOf t b]).length; simp
      · show _ ≤ t.done.length; omega
      · show (t.gone ++ [goneOf t b]).take _ = _; simp
      · exact List.take_length
      · show (lessT t b).length + (t.gone ++ [goneOf t b]).length + t.done.length = _
        unfold sizeT; simp; omega
    · rw [e] at hok hno ⊢
      refine ⟨?_, ?_, ?_, ?_, ?_, ?_, ?_, .inl ?_, hno, hok⟩
      · show (lessT t b).length ≤ _; omega
      · show t.gone.length ≤ _; omega
      · show (t.done ++ [goneOf t b]).length ≤ _; simp
      · show _ ≤ t.gone.length; omega
      · show _ ≤ (t.done ++ [goneOf t b]).length; simp
      · exact List.take_length
      · show (t.done ++ [goneOf t b]).take _ = _; simp
      · show (lessT t b).length + t.gone.length + (t.done ++ [goneOf t b]).length = _
        unfold sizeT; simp; omega
theorem fewT_iff {t : Tx} (h : fewT t = true) : t.openV.length ≤ 60 ∧ t.gone.length ≤ 60 ∧ t.done.length ≤ 60 := by
  simpa [fewT] using h
end Go.Wm
-- cut by zcut
namespace Go.Wm
open Go.RowKit Go.Proofs
attribute [local irreducible] RG CG EG WA Loc Det Alc CT Exit.then Exit.inBlock Code.wp bodyPost
set_option maxHeartbeats 4000000 in
theorem txnsTells_walk {k : PH} {ct : List Value} {t : Tx} {a : Option Addr} {c : Nat} {bs : List Batch} {fr to : Int} {B0 : Prop} (hT : tTx.rep k ct t) (_ : B0) (hl : Sl tBatch k a c bs) (hsh : ∀ b ∈ bs, Short b) (_ : I64 fr) (_ : I64 to) :
    CT Tryz.prog 3 #[.agg ct.toArray, .slice a bs.length c, .int .i64 fr, .int .i64 to] k (fun _ v => v = .bool true) := by
  obtain ⟨a0, c0, a1, c1, a2, c2, rfl, ⟨ho, hg, hd⟩, hokT⟩ := hT
  refine ct_of_body (l := [_, _, _, _]) Tryz.func3 rfl Tryz.ntmps3 (by simp) (fun _ _ _ _ h => h) fun F hF0 hFm => ?_
  have b1 := hl.cap; have b2 := hl.max; unfold maxLen at b2
  repeat (first | refine cg_seq ?_ | refine cg_region ?_)
  refine rb rfl rfl rfl rfl (a_box rfl rfl) ?_; intro b4 k4 hb4 hN4 hle4 hk4
  have cT := cells_at (vs := t.cs a0 c0 a1 c1 a2 c2) hk4 rfl
  have hT : TxAt k4 t a0 c0 a1 c1 a2 c2 := ⟨ho.le hle4, hg.le hle4, hd.le hle4⟩
  have hl := hl.le hle4
  repeat (first | refine cg_seq ?_ | refine cg_region ?_ | refine rg_nil ?_ | refine eg_then ?_ | refine qsp ?_)
  refine rs rfl rfl (loc_call_is rfl rfl rfl rfl (live12_ct)) ?_
  repeat (first | refine cg_seq ?_ | refine cg_region ?_ | refine rg_nil ?_ | refine eg_then ?_ | refine qsp ?_ | refine qsg ?_)
  refine rs rfl rfl (loc_call_is rfl rfl rfl rfl (fewT_ct)) ?_
  repeat (first | refine qsp ?_)
  cases q1 : fewT t
  · repeat (first | refine cg_seq ?_ | refine cg_region ?_ | refine rg_nil ?_ | refine eg_then ?_ | refine qsp ?_ | refine qso ?_ | refine cg_cond_true rfl ?_ | refine cg_ret ?_ | refine eg_then_ret ?_)
    exact eg_return rfl rfl rfl
  obtain ⟨f0, f1, f2⟩ := fewT_iff q1
  repeat (first | refine qsp ?_)
  refine rs rfl rfl (loc_call_is rfl rfl rfl rfl (fewAll12_ct hl hsh)) ?_
  repeat (first | refine rg_nil ?_ | refine eg_then ?_ | refine qsp ?_)
  cases q2 : (bs.all fewB && decide ((bs.length : Int) ≤ 60))
  · repeat (first | refine cg_seq ?_ | refine cg_region ?_ | refine rg_nil ?_ | refine eg_then ?_ | refine qsp ?_ | refine cg_cond_true rfl ?_ | refine cg_ret ?_ | refine eg_then_ret ?_)
    exact eg_return rfl rfl rfl
  simp only [Bool.and_eq_true, decide_eq_true_eq] at q2
  have q2 := q2.2
  obtain ⟨z0, z1, z2⟩ := Tx.parts cT
  have cT' := cT
  repeat (first | refine cg_seq ?_ | refine eg_then ?_ | refine cg_cond_false rfl ?_ | refine cg_skip ?_)
  refine cg_anyn (by kernel_rfl) rfl ?_
  repeat (first | refine qwp ?_ | refine qwg ?_)
  refine wv rfl (loc_call rfl rfl rfl rfl slM (hidden_ct (t := t) fr to hT.g (by omega))) ?_
  repeat (first | refine qwp ?_ | refine qwg ?_)
  refine wv rfl (loc_call rfl rfl rfl rfl slM (refHidden_ct (t := t) fr to hT.g (by omega))) ?_
  refine ws (v := .bool true) rfl (loc_elim 25 rfl (by kernel_rfl) trivial ?_) ?_
  · rintro v k5 hle5 ⟨p, s, rfl, h5⟩
    refine loc_elim 29 rfl (by kernel_rfl) trivial ?_
    rintro v k6 hle6 ⟨q, r, rfl, h6⟩
    have hs := sameGone_ct (h5.le hle6) h6
    rw [decide_eq_true rfl] at hs
    exact loc_call_is rfl rfl rfl rfl hs
  repeat (first | refine qwp ?_)
  refine wnn ?_
  intro k5 vs5 hle5 hvs5
  clear hvs5
  simp only [nameE, nameP]
  refine eg_then ?_
  have cT := cT.le hle5
  have hT := hT.le hle5
  have hl := hl.le hle5
  obtain ⟨z0, z1, z2⟩ := Tx.parts cT
  have cT' := cT
  repeat (first | refine cg_seq ?_)
  refine cg_anyn (by kernel_rfl) rfl ?_
  repeat (first | refine qwp ?_ | refine qwl ?_ | refine qwf ?_)
  refine wv rfl (loc_call rfl rfl rfl rfl slM (show_ct to hl hT.g (by omega))) ?_
  repeat (first | refine qwp ?_ | refine qwl ?_ | refine qwf ?_)
  refine wv rfl (loc_call rfl rfl rfl rfl slM (refShow_ct to hl hT.g (by omega))) ?_
  refine ws (v := .bool true) rfl (loc_elim 35 rfl (by kernel_rfl) trivial ?_) ?_
  · rintro v k6 hle6 ⟨p, s, rfl, h6⟩
    refine loc_elim 40 rfl (by kernel_rfl) trivial ?_
    rintro v k7 hle7 ⟨q, r, rfl, h7⟩
    have hs := sameAllB_ct (h6.le hle7) h7
    rw [decide_eq_true rfl] at hs
    exact loc_call_is rfl rfl rfl rfl hs
  repeat (first | refine qwp ?_)
  refine wnn ?_
  intro k6 vs6 hle6 hvs6
  clear hvs6
  simp only [nameE, nameP]
  refine eg_then ?_
  have cT := cT.le hle6
  have hT := hT.le hle6
  have hl := hl.le hle6
  repeat (first | refine cg_seq ?_)
  refine cg_anyn (by kernel_rfl) rfl ?_
  repeat (first | refine qwp ?_ | refine qwg ?_)
  refine ws rfl (loc_call_is rfl rfl rfl rfl (txStable_ct to hT (by omega))) ?_
  repeat (first | refine qwp ?_ | refine qwg ?_)
  refine ws rfl (loc_call_is rfl rfl rfl rfl (refStable_ct to hT)) ?_
  repeat (first | refine qwp ?_)
  rw [show (stabP t to == stabP t to) = true from beq_self_eq_true _]
  repeat (first | refine qwp ?_ | refine qwg ?_)
  refine wv rfl (loc_call rfl rfl rfl rfl TxVal.mono (txTrim_ct fr hT (by omega) (by omega))) ?_
  repeat (first | refine qwp ?_ | refine qwg ?_)
  refine wv rfl (loc_call rfl rfl rfl rfl TxVal.mono (refTrim_ct fr hT (by omega) (by omega))) ?_
  refine ws (v := .bool true) rfl (loc_elim 61 rfl (by kernel_rfl) trivial ?_) ?_
  · rintro v k7 hle7 ⟨g0, h0, g1, h1, g2, h2, rfl, hO⟩
    refine loc_elim 64 rfl (by kernel_rfl) trivial ?_
    rintro v k8 hle8 ⟨i0, j0, i1, j1, i2, j2, rfl, hX⟩
    have hs := sameTx_ct (hO.o.le hle8) (hO.g.le hle8) (hO.d.le hle8) hX.o hX.g hX.d
    rw [decide_eq_true rfl] at hs
    exact loc_call_is rfl rfl rfl rfl hs
  repeat (first | refine qwp ?_)
  refine wv rfl (loc_call rfl rfl rfl rfl TxVal.mono (txOf_ct hl (by omega))) ?_
  repeat (first | refine qwp ?_)
  refine wv rfl (loc_call rfl rfl rfl rfl TxVal.mono (refOf_ct hl (by omega))) ?_
  refine ws (v := .bool true) rfl (loc_elim 69 rfl (by kernel_rfl) trivial ?_) ?_
  · rintro v k7 hle7 ⟨g0, h0, g1, h1, g2, h2, rfl, hO⟩
    refine loc_elim 71 rfl (by kernel_rfl) trivial ?_
    rintro v k8 hle8 ⟨i0, j0, i1, j1, i2, j2, rfl, hX⟩
    have hs := sameTx_ct (hO.o.le hle8) (hO.g.le hle8) (hO.d.le hle8) hX.o hX.g hX.d
    rw [decide_eq_true rfl] at hs
    exact loc_call_is rfl rfl rfl rfl hs
  repeat (first | refine qwp ?_)
  refine wnn ?_
  intro k7 vs7 hle7 hvs7
  clear hvs7
  simp only [nameE, nameP]
  refine eg_then ?_
  repeat (first | refine cg_ret ?_)
  exact eg_return rfl rfl rfl
end Go.Wm

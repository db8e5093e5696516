/-
  A step's body read, the document's. Conditions: that what is handed in reads as data.
-/
import Derived.Test.YtgalkgidjpbiaaaGreatE9
set_option linter.all false
namespace Go.Wm
open Go.RowKit Go.Proofs
attribute [local irreducible] RG CG EG WA Loc Det Alc CT Exit.then Exit.inBlock Code.wp bodyPost
theorem bad0 {bs : List Nat} (h : (rd0 bs).2.2 ≠ 0) : (rdAll bs).2.2 ≠ 0 := by
  unfold rdAll; rw [rdN_err h, rdT_err h, rdA_err h, rdB_err h, rdC_err h]; exact h
theorem bad1 {bs : List Nat} (h : (tS bs 1).2.2 ≠ 0) : (rdAll bs).2.2 ≠ 0 := by
  have h : (rdN bs (rd0 bs)).2.2 ≠ 0 := h
  unfold rdAll; rw [rdT_err h, rdA_err h, rdB_err h, rdC_err h]; exact h
theorem bad2 {bs : List Nat} (h : (tS bs 2).2.2 ≠ 0) : (rdAll bs).2.2 ≠ 0 := by
  have h : (rdT bs (rdN bs (rd0 bs))).2.2 ≠ 0 := h
  unfold rdAll; rw [rdA_err h, rdB_err h, rdC_err h]; exact h
theorem bad3 {bs : List Nat} {i : Nat} (hi : i < 4) (h : (vS bs i).2.2 ≠ 0) : (rdAll bs).2.2 ≠ 0 := by
  match i with
  | 0 => exact bad2 h
  | 1 =>
    have h : (rdA bs (rdT bs (rdN bs (rd0 bs)))).2.2 ≠ 0 := h
    unfold rdAll; rw [rdB_err h, rdC_err h]; exact h
  | 2 =>
    have h : (rdB bs (rdA bs (rdT bs (rdN bs (rd0 bs))))).2.2 ≠ 0 := h
    unfold rdAll; rw [rdC_err h]; exact h
  | 3 => exact h
theorem read_bad {bs : List Nat} (h : (rdAll bs).2.2 ≠ 0) : readS bs = none := by rw [readS_all, if_neg (fun hc => h hc.1)]
theorem noStep_ok : noStep.ok := ⟨i64_zero, small_max (by simp [noStep, ByteArray.size]), small_max (by simp [noStep, ByteArray.size]), i64_zero, i64_zero, i64_zero⟩
/-- Three numbers, as far as they are read. -/
def triV (x : RdS) : List Value := [.int .i64 x.1.a, .int .i64 x.1.b, .int .i64 x.1.c]
def keepR (x y : RdS) : Prop := x.1.kind = y.1.kind ∧ x.1.name = y.1.name ∧ x.1.topic = y.1.topic
theorem keepA (bs : List Nat) (x : RdS) : keepR (rdA bs x) x := by unfold rdA; split <;> exact ⟨rfl, rfl, rfl⟩
theorem keepB (bs : List Nat) (x : RdS) : keepR (rdB bs x) x := by unfold rdB; split <;> exact ⟨rfl, rfl, rfl⟩
theorem keepC (bs : List Nat) (x : RdS) : keepR (rdC bs x) x := by unfold rdC; split <;> exact ⟨rfl, rfl, rfl⟩
theorem keepR.trans {x y z : RdS} (h : keepR x y) (h' : keepR y z) : keepR x z := ⟨h.1.trans h'.1, h.2.1.trans h'.2.1, h.2.2.trans h'.2.2⟩
theorem keep3 (bs : List Nat) : keepR (vS bs 3) (tS bs 2) := (keepC bs _).trans ((keepB bs _).trans (keepA bs _))
set_option maxHeartbeats 4000000 in
theorem refRead_ct {k : PH} {a : Option Addr} {c : Nat} {bs : List Nat} (h : Sl tU8 k a c bs) (hl : bs.length ≤ 100000000) : CT Tryz.prog 54 #[.slice a bs.length c] k (fun _ v => RdV bs v) := by
  refine ct_of_body (l := [_]) Tryz.func54 rfl Tryz.ntmps54 (by simp) (fun _ _ _ _ h => h) fun F hF0 hFm => ?_
  have hby := sl_bytes h
  repeat (first | refine cg_seq ?_ | refine cg_region ?_)
  refine rb rfl rfl rfl rfl (a_alloc rfl) ?_; intro b1 k1 hb1 hN1 hle1 hk1
  have hk1 : k1 b1 = some (.cells noStep.vs.toArray 35 (0, 0)) := hk1
  have h1 := h.le hle1
  repeat (first | refine cg_seq ?_ | refine cg_region ?_ | refine rg_nil ?_ | refine eg_then ?_ | refine qsp ?_)
  refine rs rfl rfl (loc_call_is rfl rfl rfl rfl (refGet_ct (w := 1) h1 (by unfold I64; omega) (by omega) (by omega) hl)) ?_
  repeat (first | refine cg_seq ?_ | refine cg_region ?_ | refine rg_nil ?_ | refine eg_then ?_ | refine qsp ?_)
  refine rs rfl rfl (loc_call_is rfl rfl rfl rfl (refGetText_ct h1 (p := 1) i64_one hl)) ?_
  unfold textV
  repeat (first | refine cg_seq ?_ | refine cg_region ?_ | refine rg_nil ?_ | refine eg_then ?_ | refine qsp ?_)
  have hr0 : (rd0 bs).2.2 = (getR bs 0 1).2 := rfl
  have hr1 : (rd0 bs).2.2 = 0 → tS bs 1 = ({ (tS bs 0).1 with name := (getTextR bs 1 64).1 }, (getTextR bs 1 64).2.1, (getTextR bs 1 64).2.2) := fun q => t1_yes q
  have hik := one_i64 hby
  have hk0 : (rd0 bs).1.kind = (((getR bs 0 1).1 : Nat) : Int) := rfl
  generalize hg0 : getR bs 0 1 = g0 at hr0 hik hk0 ⊢
  generalize hg1 : getTextR bs 1 64 = g1 at hr1 ⊢
  obtain ⟨kn, e0⟩ := g0
  obtain ⟨nm, at1, e1⟩ := g1
  dsimp only at hr0 hr1 hik hk0 ⊢
  cases q0 : (e0 != 0)
  case true =>
    repeat (first | refine cg_seq ?_ | refine cg_region ?_ | refine rg_nil ?_ | refine eg_then ?_ | refine qsp ?_ | refine qso ?_ | refine cg_cond_true rfl ?_)
    refine rs rfl rfl (loc_det rfl (d_lit (cells := noStep.vs) rfl rfl rfl)) ?_
    skip
    refine rw1 (vs := noStep.vs) rfl rfl rfl rfl rfl rfl rfl hk1 rfl (.inl hN1) ?_ ?_
    · simp [noStep, Step.vs, Value.oneCell']
    intro k3 ht3 hk3
    repeat (first | refine rg_nil ?_ | refine eg_then ?_ | refine qsp ?_ | refine cg_ret ?_ | refine eg_then_ret ?_)
    refine eg_returnC2 rfl rfl rfl rfl (cells_step hk3) rfl ⟨noStep, false, rfl, noStep_ok, ?_⟩
    exact read_bad (bad0 (by rw [hr0]; simpa using q0))
  have q0 : e0 = 0 := by simpa using q0
  have hr1 := hr1 (hr0.trans q0)
  repeat (first | refine rg_nil ?_ | refine eg_then ?_ | refine qsp ?_)
  cases q1 : (e1 != 0)
  case true =>
    repeat (first | refine cg_seq ?_ | refine cg_region ?_ | refine cg_cond_true rfl ?_)
    refine rs rfl rfl (loc_det rfl (d_lit (cells := noStep.vs) rfl rfl rfl)) ?_
    skip
    refine rw1 (vs := noStep.vs) rfl rfl rfl rfl rfl rfl rfl hk1 rfl (.inl hN1) ?_ ?_
    · simp [noStep, Step.vs, Value.oneCell']
    intro k3 ht3 hk3
    repeat (first | refine rg_nil ?_ | refine eg_then ?_ | refine qsp ?_ | refine cg_ret ?_ | refine eg_then_ret ?_)
    refine eg_returnC2 rfl rfl rfl rfl (cells_step hk3) rfl ⟨noStep, false, rfl, noStep_ok, ?_⟩
    exact read_bad (bad1 (by rw [hr1]; simpa using q1))
  have q1 : e1 = 0 := by simpa using q1
  have hz1 : (tS bs 1).2.2 = 0 := by rw [hr1]; exact q1
  have hr2 := t2_yes hz1
  have hat1 : (tS bs 1).2.1 = at1 := by rw [hr1]
  have hok1 := (tS_ok hby hl 1).2
  rw [hat1] at hr2 hok1
  repeat (first | refine cg_seq ?_ | refine cg_region ?_ | refine eg_then ?_ | refine qsp ?_ | refine cg_cond_false rfl ?_ | refine cg_skip ?_)
  refine rs rfl rfl (loc_call_is rfl rfl rfl rfl (refGetText_ct h1 hok1 hl)) ?_
  unfold textV
  repeat (first | refine cg_seq ?_ | refine cg_region ?_ | refine rg_nil ?_ | refine eg_then ?_ | refine qsp ?_)
  generalize hg2 : getTextR bs at1 64 = g2 at hr2 ⊢
  obtain ⟨tp, at2, e2⟩ := g2
  dsimp only at hr2 ⊢
  cases q2 : (e2 != 0)
  case true =>
    repeat (first | refine cg_seq ?_ | refine cg_region ?_ | refine cg_cond_true rfl ?_)
    refine rs rfl rfl (loc_det rfl (d_lit (cells := noStep.vs) rfl rfl rfl)) ?_
    skip
    refine rw1 (vs := noStep.vs) rfl rfl rfl rfl rfl rfl rfl hk1 rfl (.inl hN1) ?_ ?_
    · simp [noStep, Step.vs, Value.oneCell']
    intro k3 ht3 hk3
    repeat (first | refine rg_nil ?_ | refine eg_then ?_ | refine qsp ?_ | refine cg_ret ?_ | refine eg_then_ret ?_)
    refine eg_returnC2 rfl rfl rfl rfl (cells_step hk3) rfl ⟨noStep, false, rfl, noStep_ok, ?_⟩
    exact read_bad (bad2 (by rw [hr2]; simpa using q2))
  have q2 : e2 = 0 := by simpa using q2
  have hz2 : (vS bs 0).2.2 = 0 := by show (tS bs 2).2.2 = 0; rw [hr2]; exact q2
  have hat2 : (vS bs 0).2.1 = at2 := by show (tS bs 2).2.1 = _; rw [hr2]
  have hnm : (tS bs 2).1.name = nm ∧ (tS bs 2).1.topic = tp ∧ (tS bs 2).1.kind = (kn : Int) := by
    rw [hr2, hr1]; exact ⟨rfl, rfl, hk0⟩
  have htri : triV (vS bs 0) = [.int .i64 0, .int .i64 0, .int .i64 0] := by show triV (tS bs 2) = _; rw [hr2, hr1]; rfl
  repeat (first | refine cg_seq ?_ | refine cg_region ?_ | refine eg_then ?_ | refine cg_cond_false rfl ?_ | refine cg_skip ?_)
  refine rs rfl rfl (loc_det rfl (d_arr0 rfl)) ?_
  refine rb rfl rfl rfl rfl (a_alloc rfl) ?_; intro b4 k4 hb4 hN4 hle4 hk4
  refine rw1 (vs := triV (vS bs 0)) rfl rfl rfl rfl rfl (by rw [htri]; rfl) rfl hk4 rfl (.inl hN4) ?_ ?_
  · simp [triV, Value.oneCell']
  intro k5 ht5 hk5
  have hle5 : Le k1 k5 := ht5 k1 hle4 hb4
  have hne : b4 ≠ b1 := fun hc => by rw [hc, hk1] at hb4; cases hb4
  repeat (first | refine cg_seq ?_ | refine cg_region ?_ | refine rg_nil ?_ | refine eg_then ?_ | refine qsp ?_ | refine cg_block ?_)
  refine cg_loop (fun (i : Nat) e k' => Le k1 k' ∧ k' b4 = some (.cells (triV (vS bs i)).toArray 84 (0, 0)) ∧ (vS bs i).2.2 = 0 ∧ i ≤ 3 ∧ e = [(0, .is (.slice a bs.length c)), (2, .is (.pointer (some ⟨b1, 0, none⟩))), (4, .is (.int .u64 (kn : Int))), (6, .is (.string nm)), (7, .is (.int .i64 (vS bs i).2.1)), (9, .is (.string tp)), (10, .is (.pointer (some ⟨b4, 0, none⟩))), (44, .is (.int .i64 (i : Int)))])
    (fun i => 3 - i) 0 ⟨hle5, hk5, hz2, by omega, rfl⟩ ⟨rfl, rfl, rfl, rfl, by rw [hat2]; rfl, rfl, rfl, rfl, trivial⟩ ?_
  rintro i e k6 ⟨hle6, hk6, hzi, hi, rfl⟩
  have hoki := (vS_ok hby hl i).2
  have h6 := h1.le hle6
  have hk61 : k6 b1 = some (.cells noStep.vs.toArray 35 (0, 0)) := hle6 _ _ hk1
  repeat (first | refine cg_seq ?_ | refine cg_region ?_ | refine rg_nil ?_ | refine eg_then ?_ | refine qsp ?_)
  refine cg_cond rfl (fun h5 => ?_) (fun h5 => ?_)
  · have hlt : i < 3 := by have := of_decide_eq_true h5; omega
    clear h5
    repeat (first | refine cg_seq ?_ | refine cg_region ?_ | refine rg_nil ?_ | refine eg_then ?_ | refine qsp ?_ | refine cg_skip ?_ | refine cg_block ?_)
    refine rs rfl rfl (loc_call_is rfl rfl rfl rfl (refGetVar_ct h6 hoki hl)) ?_
    unfold varV
    repeat (first | refine cg_seq ?_ | refine cg_region ?_ | refine rg_nil ?_ | refine eg_then ?_ | refine qsp ?_)
    have hstep : (vS bs (i + 1)).2 = (getVarR bs (vS bs i).2.1).2 ∧ triV (vS bs (i + 1)) = (triV (vS bs i)).set i (.int .i64 (getVarR bs (vS bs i).2.1).1) := by
      match i, hzi, hlt with
      | 0, hz, _ => rw [v1_yes hz]; exact ⟨rfl, rfl⟩
      | 1, hz, _ => rw [v2_yes hz]; exact ⟨rfl, rfl⟩
      | 2, hz, _ => rw [v3_yes hz]; exact ⟨rfl, rfl⟩
    generalize hgv : getVarR bs (vS bs i).2.1 = gv at hstep ⊢
    obtain ⟨n3, at3, e3⟩ := gv
    dsimp only at hstep ⊢
    cases q3 : (e3 != 0)
    case true =>
      repeat (first | refine cg_seq ?_ | refine cg_region ?_ | refine cg_cond_true rfl ?_)
      refine rs rfl rfl (loc_det rfl (d_lit (cells := noStep.vs) rfl rfl rfl)) ?_
      skip
      refine rw1 (vs := noStep.vs) rfl rfl rfl rfl rfl rfl rfl hk61 rfl (.inl hN1) ?_ ?_
      · simp [noStep, Step.vs, Value.oneCell']
      intro k7 ht7 hk7
      repeat (first | refine rg_nil ?_ | refine eg_then ?_ | refine qsp ?_ | refine cg_ret ?_ | refine eg_then_ret ?_ | refine eg_in_ret ?_)
      refine eg_returnC2 rfl rfl rfl rfl (cells_step hk7) rfl ⟨noStep, false, rfl, noStep_ok, ?_⟩
      exact read_bad (bad3 (i := i + 1) (by omega) (by rw [hstep.1]; simpa using q3))
    have q3 : e3 = 0 := by simpa using q3
    repeat (first | refine cg_seq ?_ | refine cg_region ?_ | refine eg_then ?_ | refine qsp ?_ | refine cg_cond_false rfl ?_ | refine cg_skip ?_)
    refine rs rfl rfl (loc_det rfl (d_idxA (i := i) rfl rfl rfl hlt)) ?_
    refine rw0 rfl rfl rfl rfl rfl rfl rfl rfl hk6 (show _ < 3 by omega) (.inl hN4) ?_; intro k7 ht7 hk7
    have hle7 : Le k1 k7 := ht7 k1 hle6 hb4
    have hk7 : k7 b4 = some (.cells (triV (vS bs (i + 1))).toArray 84 (0, 0)) := by
      rw [hk7, hstep.2]
      match i, hlt with
      | 0, _ => rfl
      | 1, _ => rfl
      | 2, _ => rfl
    repeat (first | refine cg_region ?_ | refine rg_nil ?_ | refine eg_then ?_ | refine qsp ?_ | refine qsa ?_ | refine eg_in_normal ?_)
    refine eg_again (i + 1) _ ⟨hle7, hk7, by rw [hstep.1]; exact q3, hlt, rfl⟩ (by omega) ⟨rfl, rfl, rfl, rfl, by rw [hstep.1]; rfl, rfl, rfl, rfl, trivial⟩
  · have hi3 : i = 3 := by have := of_decide_eq_false h5; omega
    subst hi3
    have c6 := cells_at (vs := triV (vS bs 3)) hk6 rfl
    have g0 : Cells k6 b4 (0 + 0 * 1) [.int .i64 (vS bs 3).1.a] := c6.one (i := 0) rfl
    have g1 : Cells k6 b4 (0 + 1 * 1) [.int .i64 (vS bs 3).1.b] := c6.one (i := 1) rfl
    have g2 : Cells k6 b4 (0 + 2 * 1) [.int .i64 (vS bs 3).1.c] := c6.one (i := 2) rfl
    have hro := readS_all bs
    have hv3 : vS bs 3 = rdAll bs := rfl
    have hall := (vS_ok hby hl 3).1
    have hfix : (vS bs 3).1.kind = (kn : Int) ∧ (vS bs 3).1.name = nm ∧ (vS bs 3).1.topic = tp := by
      obtain ⟨j1, j2, j3⟩ := keep3 bs
      exact ⟨j1.trans hnm.2.2, j2.trans hnm.1, j3.trans hnm.2.1⟩
    rw [← hv3] at hro
    generalize vS bs 3 = x at hzi hro hall hfix g0 g1 g2 ⊢
    obtain ⟨s, at', er⟩ := x
    dsimp only at hzi hro hall hfix g0 g1 g2 ⊢
    clear c6
    repeat (first | refine cg_seq ?_ | refine cg_region ?_ | refine eg_then ?_ | refine qsp ?_ | refine cg_exit ?_ | refine eg_then_exit ?_ | refine eg_in_exit ?_)
    refine rs rfl rfl (loc_det rfl (d_conv rfl rfl)) ?_
    rw [wrapi hik]
    repeat (first | refine qsp ?_)
    refine rs rfl rfl (loc_det rfl (d_idxA (i := 0) rfl rfl rfl (by omega))) ?_
    repeat (first | refine qsl ?_)
    refine rs rfl rfl (loc_det rfl (d_idxA (i := 1) rfl rfl rfl (by omega))) ?_
    repeat (first | refine qsl ?_)
    refine rs rfl rfl (loc_det rfl (d_idxA (i := 2) rfl rfl rfl (by omega))) ?_
    repeat (first | refine qsl ?_)
    refine rs rfl rfl (loc_det rfl (d_lit (cells := s.vs) rfl rfl (by obtain ⟨f1, f2, f3⟩ := hfix; rw [← f1, ← f2, ← f3]; rfl))) ?_
    repeat (first | refine qsp ?_ | refine qsn ?_)
    refine rw1 (vs := s.vs) rfl rfl rfl rfl rfl rfl rfl hk61 rfl (.inl hN1) ?_ ?_
    · simp [Step.vs, Value.oneCell']
    intro k7 ht7 hk7
    repeat (first | refine rg_nil ?_ | refine eg_then ?_ | refine qsp ?_ | refine cg_ret ?_)
    refine eg_returnC2 rfl rfl rfl rfl (cells_step hk7) rfl ⟨s, _, rfl, hall, ?_⟩
    rw [hro]
    by_cases q9 : at' = (bs.length : Int)
    · rw [if_pos ⟨hzi, q9⟩, if_pos (by simp [q9])]
    · rw [if_neg (fun hc => q9 hc.2), if_neg (by simp [q9])]
end Go.Wm

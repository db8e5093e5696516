/-
  A step's body read, the program's. Conditions: that what is handed in reads as data.
-/
import Derived.Test.YtgalkgidjpbiaaaGreatE8
import Derived.Test.YtgalkgidjpbiaaaGreatArr3
set_option linter.all false
namespace Go.Wm
open Go.RowKit Go.Proofs
attribute [local irreducible] RG CG EG WA Loc Det Alc CT Exit.then Exit.inBlock Code.wp bodyPost
/-- What read hands back. -/
def RdV (bs : List Nat) (v : Value) : Prop := ∃ (s : Step) (ok : Bool), v = .tuple #[.agg s.vs.toArray, .bool ok] ∧ s.ok ∧ readS bs = if ok = true then some s else none
theorem one_i64 {bs : List Nat} (hb : Bytes bs) : I64 (((getR bs 0 1).1 : Nat) : Int) := (rd0_ok hb).1.1
theorem cells_step {k : PH} {b : Nat} {et : TypeId} {fr : Nat × Nat} {s : Step} (h : k b = some (.cells s.vs.toArray et fr)) : Cells k b 0 s.vs := cells_at h rfl
theorem t1_no {bs : List Nat} (q : ((tS bs 0).2.2 == 0) = false) : tS bs 1 = tS bs 0 := rdN_err (x := tS bs 0) (by simpa using q)
theorem t1_yes {bs : List Nat} (q : (tS bs 0).2.2 = 0) : tS bs 1 = ({ (tS bs 0).1 with name := (getTextR bs (tS bs 0).2.1 64).1 }, (getTextR bs (tS bs 0).2.1 64).2.1, (getTextR bs (tS bs 0).2.1 64).2.2) := if_pos q
theorem t2_no {bs : List Nat} (q : ((tS bs 1).2.2 == 0) = false) : tS bs 2 = tS bs 1 := by
  have : (tS bs 1).2.2 ≠ 0 := by simpa using q
  show rdT bs (tS bs 1) = _; unfold rdT; rw [if_neg this]
theorem t2_yes {bs : List Nat} (q : (tS bs 1).2.2 = 0) : tS bs 2 = ({ (tS bs 1).1 with topic := (getTextR bs (tS bs 1).2.1 64).1 }, (getTextR bs (tS bs 1).2.1 64).2.1, (getTextR bs (tS bs 1).2.1 64).2.2) := by
  show rdT bs (tS bs 1) = _; unfold rdT; rw [if_pos q]
theorem v1_no {bs : List Nat} (q : ((vS bs 0).2.2 == 0) = false) : vS bs 1 = vS bs 0 := by
  have : (vS bs 0).2.2 ≠ 0 := by simpa using q
  show rdA bs (vS bs 0) = _; unfold rdA; rw [if_neg this]
theorem v1_yes {bs : List Nat} (q : (vS bs 0).2.2 = 0) : vS bs 1 = ({ (vS bs 0).1 with a := (getVarR bs (vS bs 0).2.1).1 }, (getVarR bs (vS bs 0).2.1).2.1, (getVarR bs (vS bs 0).2.1).2.2) := by
  show rdA bs (vS bs 0) = _; unfold rdA; rw [if_pos q]
theorem v2_no {bs : List Nat} (q : ((vS bs 1).2.2 == 0) = false) : vS bs 2 = vS bs 1 := by
  have : (vS bs 1).2.2 ≠ 0 := by simpa using q
  show rdB bs (vS bs 1) = _; unfold rdB; rw [if_neg this]
theorem v2_yes {bs : List Nat} (q : (vS bs 1).2.2 = 0) : vS bs 2 = ({ (vS bs 1).1 with b := (getVarR bs (vS bs 1).2.1).1 }, (getVarR bs (vS bs 1).2.1).2.1, (getVarR bs (vS bs 1).2.1).2.2) := by
  show rdB bs (vS bs 1) = _; unfold rdB; rw [if_pos q]
theorem v3_no {bs : List Nat} (q : ((vS bs 2).2.2 == 0) = false) : vS bs 3 = vS bs 2 := by
  have : (vS bs 2).2.2 ≠ 0 := by simpa using q
  show rdC bs (vS bs 2) = _; unfold rdC; rw [if_neg this]
theorem v3_yes {bs : List Nat} (q : (vS bs 2).2.2 = 0) : vS bs 3 = ({ (vS bs 2).1 with c := (getVarR bs (vS bs 2).2.1).1 }, (getVarR bs (vS bs 2).2.1).2.1, (getVarR bs (vS bs 2).2.1).2.2) := by
  show rdC bs (vS bs 2) = _; unfold rdC; rw [if_pos q]
set_option maxHeartbeats 4000000 in
theorem read_ct {k : PH} {a : Option Addr} {c : Nat} {bs : List Nat} (h : Sl tU8 k a c bs) (hl : bs.length ≤ 100000000) : CT Tryz.prog 51 #[.slice a bs.length c] k (fun _ v => RdV bs v) := by
  refine ct_of_body (l := [_]) Tryz.func51 rfl Tryz.ntmps51 (by simp) (fun _ _ _ _ h => h) fun F hF0 hFm => ?_
  have hby := sl_bytes h
  repeat (first | refine cg_seq ?_ | refine cg_region ?_)
  refine rb rfl rfl rfl rfl (a_alloc rfl) ?_; intro b1 k1 hb1 hN1 hle1 hk1
  have hk1 : k1 b1 = some (.cells noStep.vs.toArray 35 (0, 0)) := hk1
  repeat (first | refine cg_seq ?_ | refine cg_region ?_ | refine rg_nil ?_ | refine eg_then ?_ | refine qsp ?_)
  refine rs rfl rfl (loc_call_is rfl rfl rfl rfl (get_ct (w := 1) (h.le hle1) (by unfold I64; omega) (by omega) (by omega) hl)) ?_
  repeat (first | refine cg_seq ?_ | refine cg_region ?_ | refine rg_nil ?_ | refine eg_then ?_ | refine qsp ?_)
  refine rs rfl rfl (loc_det rfl (d_conv rfl rfl)) ?_
  rw [wrapi (one_i64 hby)]
  repeat (first | refine qsf ?_)
  refine rw0 rfl rfl rfl rfl rfl rfl rfl rfl hk1 (show _ < 6 by decide) (.inl hN1) ?_; intro k2 ht2 hk2
  have hle2 : Le k k2 := ht2 _ hle1 hb1
  have hk2 : k2 b1 = some (.cells (tS bs 0).1.vs.toArray 35 (0, 0)) := hk2
  repeat (first | refine cg_seq ?_ | refine cg_region ?_ | refine rg_nil ?_ | refine eg_then ?_ | refine qsp ?_ | refine qsf ?_)
  refine rs rfl rfl (loc_det rfl (d_arr2V (a := .pointer (some ⟨b1, 1, none⟩)) (b := .pointer (some ⟨b1, 2, none⟩)) rfl rfl rfl rfl rfl)) ?_
  repeat (first | refine rg_nil ?_ | refine eg_then ?_ | refine qsp ?_ | refine cg_block ?_)
  refine cg_loop (fun (i : Nat) e k' => Le k k' ∧ k' b1 = some (.cells (tS bs i).1.vs.toArray 35 (0, 0)) ∧ i ≤ 2 ∧ e = [(0, .is (.slice a bs.length c)), (2, .is (.pointer (some ⟨b1, 0, none⟩))), (5, .is (.int .i64 (tS bs i).2.2)), (6, .is (.int .i64 (tS bs i).2.1)), (21, .is (.agg #[.pointer (some ⟨b1, 1, none⟩), .pointer (some ⟨b1, 2, none⟩)])), (22, .is (.int .i64 (i : Int)))])
    (fun i => 2 - i) 0 ⟨hle2, hk2, by omega, rfl⟩ ⟨rfl, rfl, rfl, rfl, rfl, rfl, trivial⟩ ?_
  clear hk2 hle2
  rintro i e k2 ⟨hle2, hk2, hi, rfl⟩
  repeat (first | refine cg_seq ?_ | refine cg_region ?_ | refine rg_nil ?_ | refine eg_then ?_ | refine qsp ?_)
  refine cg_cond rfl (fun h5 => ?_) (fun h5 => ?_)
  · have hlt : i < 2 := by have := of_decide_eq_true h5; omega
    have hi01 : i = 0 ∨ i = 1 := by omega
    clear h5
    rcases hi01 with rfl | rfl
    · repeat (first | refine cg_seq ?_ | refine cg_region ?_ | refine eg_then ?_ | refine cg_skip ?_ | refine cg_block ?_)
      refine rs rfl rfl (loc_det rfl (d_ixV (i := 0) rfl rfl rfl hlt rfl rfl)) ?_
      repeat (first | refine cg_seq ?_ | refine cg_region ?_ | refine rg_nil ?_ | refine eg_then ?_ | refine qsp ?_)
      cases q : ((tS bs 0).2.2 == 0)
      · repeat (first | refine cg_region ?_ | refine rg_nil ?_ | refine eg_then ?_ | refine qsp ?_ | refine qsa ?_ | refine cg_cond_false rfl ?_ | refine cg_skip ?_ | refine eg_in_normal ?_)
        refine eg_again (0 + 1) _ ⟨hle2, ?_, by omega, rfl⟩ (by omega) ⟨rfl, rfl, ?_, ?_, rfl, rfl, trivial⟩
        · rw [t1_no q]; exact hk2
        · rw [t1_no q]; rfl
        · rw [t1_no q]; rfl
      · have hz : (tS bs 0).2.2 = 0 := by simpa using q
        repeat (first | refine cg_region ?_ | refine qsp ?_ | refine cg_cond_true rfl ?_)
        refine rs rfl rfl (loc_call_is rfl rfl rfl rfl (getText_ct (h.le hle2) (tS_ok hby hl 0).2 hl)) ?_
        unfold textV
        repeat (first | refine qsp ?_)
        refine rw0 rfl rfl rfl rfl rfl rfl rfl rfl hk2 (show _ < 6 by decide) (.inl hN1) ?_; intro k3 ht3 hk3
        have hle3 : Le k k3 := ht3 _ hle2 hb1
        repeat (first | refine cg_region ?_ | refine rg_nil ?_ | refine eg_then ?_ | refine qsp ?_ | refine qsa ?_ | refine eg_in_normal ?_)
        refine eg_again (0 + 1) _ ⟨hle3, ?_, by omega, rfl⟩ (by omega) ⟨rfl, rfl, ?_, ?_, rfl, rfl, trivial⟩
        · rw [t1_yes hz]; exact hk3
        · rw [t1_yes hz]; rfl
        · rw [t1_yes hz]; rfl
    · repeat (first | refine cg_seq ?_ | refine cg_region ?_ | refine eg_then ?_ | refine cg_skip ?_ | refine cg_block ?_)
      refine rs rfl rfl (loc_det rfl (d_ixV (i := 1) rfl rfl rfl hlt rfl rfl)) ?_
      repeat (first | refine cg_seq ?_ | refine cg_region ?_ | refine rg_nil ?_ | refine eg_then ?_ | refine qsp ?_)
      cases q : ((tS bs 1).2.2 == 0)
      · repeat (first | refine cg_region ?_ | refine rg_nil ?_ | refine eg_then ?_ | refine qsp ?_ | refine qsa ?_ | refine cg_cond_false rfl ?_ | refine cg_skip ?_ | refine eg_in_normal ?_)
        refine eg_again (1 + 1) _ ⟨hle2, ?_, by omega, rfl⟩ (by omega) ⟨rfl, rfl, ?_, ?_, rfl, rfl, trivial⟩
        · rw [t2_no q]; exact hk2
        · rw [t2_no q]; rfl
        · rw [t2_no q]; rfl
      · have hz : (tS bs 1).2.2 = 0 := by simpa using q
        repeat (first | refine cg_region ?_ | refine qsp ?_ | refine cg_cond_true rfl ?_)
        refine rs rfl rfl (loc_call_is rfl rfl rfl rfl (getText_ct (h.le hle2) (tS_ok hby hl 1).2 hl)) ?_
        unfold textV
        repeat (first | refine qsp ?_)
        refine rw0 rfl rfl rfl rfl rfl rfl rfl rfl hk2 (show _ < 6 by decide) (.inl hN1) ?_; intro k3 ht3 hk3
        have hle3 : Le k k3 := ht3 _ hle2 hb1
        repeat (first | refine cg_region ?_ | refine rg_nil ?_ | refine eg_then ?_ | refine qsp ?_ | refine qsa ?_ | refine eg_in_normal ?_)
        refine eg_again (1 + 1) _ ⟨hle3, ?_, by omega, rfl⟩ (by omega) ⟨rfl, rfl, ?_, ?_, rfl, rfl, trivial⟩
        · rw [t2_yes hz]; exact hk3
        · rw [t2_yes hz]; rfl
        · rw [t2_yes hz]; rfl
  · have hi2 : i = 2 := by have := of_decide_eq_false h5; omega
    subst hi2
    have hk2 : k2 b1 = some (.cells (vS bs 0).1.vs.toArray 35 (0, 0)) := hk2
    repeat (first | refine cg_seq ?_ | refine cg_region ?_ | refine eg_then ?_ | refine qsf ?_ | refine cg_exit ?_ | refine eg_then_exit ?_ | refine eg_in_exit ?_)
    refine rs rfl rfl (loc_det rfl (d_arr3V (a := .pointer (some ⟨b1, 3, none⟩)) (b := .pointer (some ⟨b1, 4, none⟩)) (c := .pointer (some ⟨b1, 5, none⟩)) rfl rfl rfl rfl rfl rfl rfl)) ?_
    repeat (first | refine rg_nil ?_ | refine eg_then ?_ | refine qsp ?_ | refine cg_block ?_)
    refine cg_loop (fun (i : Nat) e k' => Le k k' ∧ k' b1 = some (.cells (vS bs i).1.vs.toArray 35 (0, 0)) ∧ i ≤ 3 ∧ e = [(0, .is (.slice a bs.length c)), (2, .is (.pointer (some ⟨b1, 0, none⟩))), (5, .is (.int .i64 (vS bs i).2.2)), (6, .is (.int .i64 (vS bs i).2.1)), (40, .is (.agg #[.pointer (some ⟨b1, 3, none⟩), .pointer (some ⟨b1, 4, none⟩), .pointer (some ⟨b1, 5, none⟩)])), (41, .is (.int .i64 (i : Int)))])
      (fun i => 3 - i) 0 ⟨hle2, hk2, by omega, rfl⟩ ⟨rfl, rfl, rfl, rfl, rfl, rfl, trivial⟩ ?_
    clear hk2 hle2 h5
    rintro i e k2 ⟨hle2, hk2, hi, rfl⟩
    repeat (first | refine cg_seq ?_ | refine cg_region ?_ | refine rg_nil ?_ | refine eg_then ?_ | refine qsp ?_)
    refine cg_cond rfl (fun h5 => ?_) (fun h5 => ?_)
    · have hlt : i < 3 := by have := of_decide_eq_true h5; omega
      have hi012 : i = 0 ∨ i = 1 ∨ i = 2 := by omega
      clear h5
      rcases hi012 with rfl | rfl | rfl
      · repeat (first | refine cg_seq ?_ | refine cg_region ?_ | refine eg_then ?_ | refine cg_skip ?_ | refine cg_block ?_)
        refine rs rfl rfl (loc_det rfl (d_ixV (i := 0) rfl rfl rfl hlt rfl rfl)) ?_
        repeat (first | refine cg_seq ?_ | refine cg_region ?_ | refine rg_nil ?_ | refine eg_then ?_ | refine qsp ?_)
        cases q : ((vS bs 0).2.2 == 0)
        · repeat (first | refine cg_region ?_ | refine rg_nil ?_ | refine eg_then ?_ | refine qsp ?_ | refine qsa ?_ | refine cg_cond_false rfl ?_ | refine cg_skip ?_ | refine eg_in_normal ?_)
          refine eg_again (0 + 1) _ ⟨hle2, ?_, by omega, rfl⟩ (by omega) ⟨rfl, rfl, ?_, ?_, rfl, rfl, trivial⟩
          · rw [v1_no q]; exact hk2
          · rw [v1_no q]; rfl
          · rw [v1_no q]; rfl
        · have hz : (vS bs 0).2.2 = 0 := by simpa using q
          repeat (first | refine cg_region ?_ | refine qsp ?_ | refine cg_cond_true rfl ?_)
          refine rs rfl rfl (loc_call_is rfl rfl rfl rfl (getVar_ct (h.le hle2) (vS_ok hby hl 0).2 hl)) ?_
          unfold varV
          repeat (first | refine qsp ?_)
          refine rw0 rfl rfl rfl rfl rfl rfl rfl rfl hk2 (show _ < 6 by decide) (.inl hN1) ?_; intro k3 ht3 hk3
          have hle3 : Le k k3 := ht3 _ hle2 hb1
          repeat (first | refine cg_region ?_ | refine rg_nil ?_ | refine eg_then ?_ | refine qsp ?_ | refine qsa ?_ | refine eg_in_normal ?_)
          refine eg_again (0 + 1) _ ⟨hle3, ?_, by omega, rfl⟩ (by omega) ⟨rfl, rfl, ?_, ?_, rfl, rfl, trivial⟩
          · rw [v1_yes hz]; exact hk3
          · rw [v1_yes hz]; rfl
          · rw [v1_yes hz]; rfl
      · repeat (first | refine cg_seq ?_ | refine cg_region ?_ | refine eg_then ?_ | refine cg_skip ?_ | refine cg_block ?_)
        refine rs rfl rfl (loc_det rfl (d_ixV (i := 1) rfl rfl rfl hlt rfl rfl)) ?_
        repeat (first | refine cg_seq ?_ | refine cg_region ?_ | refine rg_nil ?_ | refine eg_then ?_ | refine qsp ?_)
        cases q : ((vS bs 1).2.2 == 0)
        · repeat (first | refine cg_region ?_ | refine rg_nil ?_ | refine eg_then ?_ | refine qsp ?_ | refine qsa ?_ | refine cg_cond_false rfl ?_ | refine cg_skip ?_ | refine eg_in_normal ?_)
          refine eg_again (1 + 1) _ ⟨hle2, ?_, by omega, rfl⟩ (by omega) ⟨rfl, rfl, ?_, ?_, rfl, rfl, trivial⟩
          · rw [v2_no q]; exact hk2
          · rw [v2_no q]; rfl
          · rw [v2_no q]; rfl
        · have hz : (vS bs 1).2.2 = 0 := by simpa using q
          repeat (first | refine cg_region ?_ | refine qsp ?_ | refine cg_cond_true rfl ?_)
          refine rs rfl rfl (loc_call_is rfl rfl rfl rfl (getVar_ct (h.le hle2) (vS_ok hby hl 1).2 hl)) ?_
          unfold varV
          repeat (first | refine qsp ?_)
          refine rw0 rfl rfl rfl rfl rfl rfl rfl rfl hk2 (show _ < 6 by decide) (.inl hN1) ?_; intro k3 ht3 hk3
          have hle3 : Le k k3 := ht3 _ hle2 hb1
          repeat (first | refine cg_region ?_ | refine rg_nil ?_ | refine eg_then ?_ | refine qsp ?_ | refine qsa ?_ | refine eg_in_normal ?_)
          refine eg_again (1 + 1) _ ⟨hle3, ?_, by omega, rfl⟩ (by omega) ⟨rfl, rfl, ?_, ?_, rfl, rfl, trivial⟩
          · rw [v2_yes hz]; exact hk3
          · rw [v2_yes hz]; rfl
          · rw [v2_yes hz]; rfl
      · repeat (first | refine cg_seq ?_ | refine cg_region ?_ | refine eg_then ?_ | refine cg_skip ?_ | refine cg_block ?_)
        refine rs rfl rfl (loc_det rfl (d_ixV (i := 2) rfl rfl rfl hlt rfl rfl)) ?_
        repeat (first | refine cg_seq ?_ | refine cg_region ?_ | refine rg_nil ?_ | refine eg_then ?_ | refine qsp ?_)
        cases q : ((vS bs 2).2.2 == 0)
        · repeat (first | refine cg_region ?_ | refine rg_nil ?_ | refine eg_then ?_ | refine qsp ?_ | refine qsa ?_ | refine cg_cond_false rfl ?_ | refine cg_skip ?_ | refine eg_in_normal ?_)
          refine eg_again (2 + 1) _ ⟨hle2, ?_, by omega, rfl⟩ (by omega) ⟨rfl, rfl, ?_, ?_, rfl, rfl, trivial⟩
          · rw [v3_no q]; exact hk2
          · rw [v3_no q]; rfl
          · rw [v3_no q]; rfl
        · have hz : (vS bs 2).2.2 = 0 := by simpa using q
          repeat (first | refine cg_region ?_ | refine qsp ?_ | refine cg_cond_true rfl ?_)
          refine rs rfl rfl (loc_call_is rfl rfl rfl rfl (getVar_ct (h.le hle2) (vS_ok hby hl 2).2 hl)) ?_
          unfold varV
          repeat (first | refine qsp ?_)
          refine rw0 rfl rfl rfl rfl rfl rfl rfl rfl hk2 (show _ < 6 by decide) (.inl hN1) ?_; intro k3 ht3 hk3
          have hle3 : Le k k3 := ht3 _ hle2 hb1
          repeat (first | refine cg_region ?_ | refine rg_nil ?_ | refine eg_then ?_ | refine qsp ?_ | refine qsa ?_ | refine eg_in_normal ?_)
          refine eg_again (2 + 1) _ ⟨hle3, ?_, by omega, rfl⟩ (by omega) ⟨rfl, rfl, ?_, ?_, rfl, rfl, trivial⟩
          · rw [v3_yes hz]; exact hk3
          · rw [v3_yes hz]; rfl
          · rw [v3_yes hz]; rfl
    · have hi3 : i = 3 := by have := of_decide_eq_false h5; omega
      subst hi3
      have hk2 : k2 b1 = some (.cells (rdAll bs).1.vs.toArray 35 (0, 0)) := hk2
      have c2 := cells_step hk2
      have hok := vS_ok hby hl 3
      have hro := readS_all bs
      have hv3 : vS bs 3 = rdAll bs := rfl
      rw [hv3] at hok ⊢
      generalize rdAll bs = x at hk2 c2 hok hro ⊢
      obtain ⟨s, at', er⟩ := x
      dsimp only at hk2 c2 hok hro ⊢
      repeat (first | refine cg_seq ?_ | refine cg_region ?_ | refine eg_then ?_ | refine qsp ?_ | refine qsg ?_ | refine cg_exit ?_ | refine eg_then_exit ?_ | refine eg_in_exit ?_)
      cases q : (er == 0)
      · repeat (first | refine qsp ?_ | refine qso ?_)
        refine rw1 rfl rfl rfl rfl rfl rfl rfl hk2 rfl (.inl hN1) ?_ ?_; (simp [Topic.vs, Rule.vs, Rate.vs, Way.vs, Conf.cs, Step.vs, Tp.vs, Member.cs, Group.cs, Value.oneCell']); intro k3 ht3 hk3
        repeat (first | refine rg_nil ?_ | refine eg_then ?_ | refine qsp ?_ | refine cg_ret ?_)
        refine eg_returnC2 rfl rfl rfl rfl (cells_step hk3) rfl ⟨s, false, rfl, hok.1, ?_⟩
        rw [hro, if_neg (fun hc => by simp at q; exact q hc.1)]; rfl
      · repeat (first | refine qsp ?_ | refine qsn ?_)
        cases q2 : (at' == (bs.length : Int))
        · skip
          refine rw1 rfl rfl rfl rfl rfl rfl rfl hk2 rfl (.inl hN1) ?_ ?_; (simp [Topic.vs, Rule.vs, Rate.vs, Way.vs, Conf.cs, Step.vs, Tp.vs, Member.cs, Group.cs, Value.oneCell']); intro k3 ht3 hk3
          repeat (first | refine rg_nil ?_ | refine eg_then ?_ | refine qsp ?_ | refine cg_ret ?_)
          refine eg_returnC2 rfl rfl rfl rfl (cells_step hk3) rfl ⟨s, false, rfl, hok.1, ?_⟩
          rw [hro, if_neg (fun hc => by simp at q2; exact q2 hc.2)]; rfl
        · skip
          refine rw1 rfl rfl rfl rfl rfl rfl rfl hk2 rfl (.inl hN1) ?_ ?_; (simp [Topic.vs, Rule.vs, Rate.vs, Way.vs, Conf.cs, Step.vs, Tp.vs, Member.cs, Group.cs, Value.oneCell']); intro k3 ht3 hk3
          repeat (first | refine rg_nil ?_ | refine eg_then ?_ | refine qsp ?_ | refine cg_ret ?_)
          refine eg_returnC2 rfl rfl rfl rfl (cells_step hk3) rfl ⟨s, true, rfl, hok.1, ?_⟩
          rw [hro, if_pos ⟨by simpa using q, by simpa using q2⟩]; rfl
end Go.Wm

/-
  Producers, the document's: the next number, and what stays while they are read. Conditions: that what is handed in reads as data.
-/
import Derived.Test.YtfejamdfhbamcaaG14
import Derived.Test.YtfejamdfhbamcaaG4
import Derived.Test.YtfejamdfhbamcaaG12
import Derived.Test.YtfejamdfhbamcaaE4
set_option linter.all false
namespace Go.Wm
open Go.RowKit Go.Proofs
attribute [local irreducible] RG CG EG WA Loc Det Alc CT Exit.then Exit.inBlock Code.wp bodyPost
set_option maxHeartbeats 4000000 in
theorem refBytesP_ctn {k : PH} {a : Option Addr} {c : Nat} {l : List ProdT} (hl : Sl tProdT k a c l) (hck : chkP l = 0) : CTN Try.prog 84 #[.slice a l.length c] k (fun N k' v => BRow N k' v (sealL (prodsL l))) := by
  refine ctn_of_body (l := [_]) Try.func84 rfl Try.ntmps84 (by simp) (fun N k k' v hle h => h.le hle) fun F hF0 hFm => ?_
  have b1 := hl.cap; have b2 := hl.max; unfold maxLen at b2
  obtain ⟨hlen, hps⟩ := chk_zero.1 hck
  have hpo := ((prods_iff l).1 hps).1
  have hI : I64 (l.length : Int) := by unfold I64; omega
  have hv0 := varL_ten (zigN_lt hI)
  repeat (first | refine cg_seq ?_ | refine cg_region ?_ | refine rg_nil ?_ | refine eg_then ?_ | refine qsp ?_ | refine qsn ?_)
  refine rvn rfl rfl rfl rfl rfl rfl rfl (refPutVar_ct (sl_nilB _) (by simp) hI) ?_
  rintro N1 k1 v1 hN1 _ hle1 hrow1
  have hl1 := hl.le hle1
  obtain ⟨pre, hpre⟩ : ∃ pre, varL (zigN (l.length : Int)) = pre := ⟨_, rfl⟩
  have hpb : Bytes pre := by rw [← hpre]; exact varL_bytes _
  have hrow1 : BRow F.w0.heap.size k1 v1 pre := by have := hrow1.N_le hN1; rw [← hpre]; simpa using this
  rw [hpre] at hv0
  repeat (first | refine cg_seq ?_ | refine cg_region ?_ | refine rg_nil ?_ | refine eg_then ?_ | refine qsp ?_ | refine cg_block ?_)
  refine cg_loop (fun (i : Nat) e k' => ∃ v, Le k1 k' ∧ BRow F.w0.heap.size k' v (pre ++ (l.take i).flatMap prodL) ∧ i ≤ l.length ∧ e = [(0, .is (.slice a l.length c)), (3, .is v), (4, .is (.int .i64 (i : Int)))])
    (fun i => l.length - i) 0 ⟨v1, Le.refl _, by simpa using hrow1, by omega, rfl⟩ ⟨rfl, rfl, rfl, trivial⟩ ?_
  rintro i e k2 ⟨v2, hle2, hrow2, hi, rfl⟩
  repeat (first | refine cg_seq ?_ | refine cg_region ?_ | refine rg_nil ?_ | refine eg_then ?_ | refine qsp ?_ | refine qsn ?_)
  refine cg_cond rfl (fun h => ?_) (fun h => ?_)
  rotate_left
  · have hil : i = l.length := by have := of_decide_eq_false h; omega
    subst hil
    have hrow2 : BRow F.w0.heap.size k2 v2 (prodsL l) := by rw [List.take_length] at hrow2; unfold prodsL; rw [hpre]; exact hrow2
    obtain ⟨a5, c5, rfl, hs5⟩ := hrow2.sl (prodsL_bytes l)
    have hln := prods_len hpo
    repeat (first | refine cg_seq ?_ | refine cg_region ?_ | refine eg_then ?_ | refine qsp ?_ | refine cg_exit ?_ | refine eg_then_exit ?_ | refine eg_in_exit ?_)
    refine rvn rfl rfl rfl rfl rfl rfl rfl (refSeal_ct hs5 (by unfold prodsL; rw [List.length_append, hpre]; omega)) ?_
    rintro N6 k6 v6 hN6 _ hle6 hrow6
    repeat (first | refine rg_nil ?_ | refine eg_then ?_ | refine qsp ?_ | refine cg_ret ?_)
    exact eg_return rfl rfl (hrow6.N_le hN6)
  have hlt : i < l.length := by have := of_decide_eq_true h; omega
  have hl2 := hl1.le hle2
  obtain ⟨bx, ox, cx, rfl, ⟨ad, cd, rfl, hsd, hpok⟩, hcx⟩ := hl2.el i l[i] (List.getElem?_eq_getElem hlt)
  have hok := hpo l[i] (List.getElem_mem hlt)
  have hfs := flatS prodL hlt
  obtain ⟨p, hp⟩ : ∃ p, l[i] = p := ⟨_, rfl⟩
  rw [hp] at hcx hsd hok hfs
  obtain ⟨o1, o2, o3, o4⟩ := prodOk_iff.1 hok
  have htl : ((l.take i).flatMap prodL).length ≤ 180 * l.length := by
    have := prods_len (l := l.take i) fun x hx => hpo x (List.mem_of_mem_take hx)
    rw [List.length_take] at this; omega
  obtain ⟨pr2, hpr2⟩ : ∃ pr2, pre ++ (l.take i).flatMap prodL = pr2 := ⟨_, rfl⟩
  have hpl2 : pr2.length ≤ 10 + 180 * l.length := by rw [← hpr2, List.length_append]; omega
  have hpb2 : Bytes pr2 := by rw [← hpr2]; exact hpb.append (prods_bytes _)
  rw [hpr2] at hrow2
  have g1 := hsd.cap; have g2 := hsd.max; unfold maxLen at g2
  have i0 : I64 p.pid := by unfold I64; omega
  have i1 : I64 p.gen := by unfold I64; omega
  have i2 : I64 (p.did.length : Int) := by unfold I64; omega
  have z0 := varL_ten (zigN_lt i0)
  have z1 := varL_ten (zigN_lt i1)
  have z2 := varL_ten (zigN_lt i2)
  obtain ⟨e0, e1, e2⟩ := ProdT.parts hcx
  obtain ⟨aak3, cck3, rfl, hsk3⟩ := BRow.sl hrow2 hpb2
  repeat (first | refine cg_seq ?_ | refine cg_region ?_ | refine eg_then ?_ | refine qsp ?_ | refine qsi ?_ | refine qsl ?_ | refine qsf ?_ | refine cg_skip ?_ | refine cg_block ?_)
  refine rvn rfl rfl rfl rfl rfl rfl rfl (refPutVar_ct hsk3 (by omega) i0) ?_
  rintro Nk3 k3 vk3 hNk3 _ hlek3 hrow3
  have hrow3 : BRow F.w0.heap.size k3 vk3 _ := hrow3.N_le hNk3
  clear e0 e1 e2
  obtain ⟨e0, e1, e2⟩ := ProdT.parts (hcx.le hlek3)
  obtain ⟨aak4, cck4, rfl, hsk4⟩ := BRow.sl hrow3 (hpb2.append (varL_bytes _))
  repeat (first | refine cg_seq ?_ | refine cg_region ?_ | refine rg_nil ?_ | refine eg_then ?_ | refine qsp ?_ | refine qsi ?_ | refine qsl ?_ | refine qsf ?_)
  refine rvn rfl rfl rfl rfl rfl rfl rfl (refPutVar_ct hsk4 (by rw [List.length_append]; omega) i1) ?_
  rintro Nk4 k4 vk4 hNk4 _ hlek4 hrow4
  have hrow4 : BRow F.w0.heap.size k4 vk4 _ := hrow4.N_le hNk4
  clear e0 e1 e2
  obtain ⟨e0, e1, e2⟩ := ProdT.parts (hcx.le (hlek3.trans hlek4))
  obtain ⟨aak5, cck5, rfl, hsk5⟩ := BRow.sl hrow4 ((hpb2.append (varL_bytes _)).append (varL_bytes _))
  repeat (first | refine cg_seq ?_ | refine cg_region ?_ | refine rg_nil ?_ | refine eg_then ?_ | refine qsp ?_ | refine qsn ?_ | refine qsi ?_ | refine qsl ?_ | refine qsf ?_)
  refine rvn rfl rfl rfl rfl rfl rfl rfl (refPutVar_ct hsk5 (by simp only [List.length_append]; omega) i2) ?_
  rintro Nk5 k5 vk5 hNk5 _ hlek5 hrow5
  have hrow5 : BRow F.w0.heap.size k5 vk5 _ := hrow5.N_le hNk5
  have hle25 : Le k2 k5 := hlek3.trans (hlek4.trans hlek5)
  clear e0 e1 e2
  obtain ⟨pr3, hpr3⟩ : ∃ pr3, pr2 ++ prodHead p = pr3 := ⟨_, rfl⟩
  have hpr3' : pr2 ++ varL (zigN p.pid) ++ varL (zigN p.gen) ++ varL (zigN (p.did.length : Int)) = pr3 := by rw [← hpr3]; simp [prodHead]
  rw [hpr3'] at hrow5
  have hpb3 : Bytes pr3 := by rw [← hpr3']; exact ((hpb2.append (varL_bytes _)).append (varL_bytes _)).append (varL_bytes _)
  have hpl3 : pr3.length ≤ 40 + 180 * l.length := by rw [← hpr3']; simp only [List.length_append]; omega
  have hdm := dids_mem o4
  repeat (first | refine cg_seq ?_ | refine cg_region ?_ | refine rg_nil ?_ | refine eg_then ?_ | refine qsp ?_ | refine cg_block ?_)
  refine cg_loop (fun (j : Nat) e k' => ∃ v, Le k5 k' ∧ BRow F.w0.heap.size k' v (pr3 ++ (p.did.take j).flatMap didL) ∧ j ≤ p.did.length ∧ e = [(0, .is (.slice (some ⟨bx, ox, none⟩) l.length c)), (3, .is v), (4, .is (.int .i64 (i : Int))), (5, .is (.int .i64 (j : Int)))])
    (fun j => p.did.length - j) 0 ⟨_, Le.refl _, by simpa using hrow5, by omega, rfl⟩ ⟨rfl, rfl, rfl, rfl, trivial⟩ ?_
  rintro j e k6 ⟨v6, hle6, hrow6, hj, rfl⟩
  have hcx6 := hcx.le (hle25.trans hle6)
  have hsd6 := hsd.le (hle25.trans hle6)
  obtain ⟨e0, e1, e2⟩ := ProdT.parts hcx6
  repeat (first | refine cg_seq ?_ | refine cg_region ?_ | refine rg_nil ?_ | refine eg_then ?_ | refine qsp ?_ | refine qsn ?_ | refine qsi ?_ | refine qsl ?_ | refine qsf ?_)
  refine cg_cond rfl (fun h => ?_) (fun h => ?_)
  rotate_left
  · have hjl : j = p.did.length := by have := of_decide_eq_false h; omega
    subst hjl
    rw [List.take_length] at hrow6
    repeat (first | refine cg_region ?_ | refine rg_nil ?_ | refine eg_then ?_ | refine qsp ?_ | refine qsa ?_ | refine eg_in_normal ?_ | refine cg_exit ?_ | refine eg_then_exit ?_ | refine eg_in_exit ?_)
    refine eg_again (i + 1) _ ⟨v6, hle2.trans (hle25.trans hle6), ?_, hlt, rfl⟩ (by omega) ⟨rfl, rfl, rfl, trivial⟩
    rw [hfs]
    have : pre ++ ((l.take i).flatMap prodL ++ prodL p) = pr3 ++ p.did.flatMap didL := by rw [← hpr3, ← hpr2]; simp [prodL]
    rw [this]; exact hrow6
  have hjlt : j < p.did.length := by have := of_decide_eq_true h; omega
  have hfd := flatS didL hjlt
  have htd : ((p.did.take j).flatMap didL).length ≤ 150 := by
    have := dids_len (l := p.did.take j) fun x hx => hdm x (List.mem_of_mem_take hx)
    rw [List.length_take] at this; omega
  obtain ⟨by', oy, cy, ead, ⟨rfl, hdI⟩, hcy⟩ := hsd6.el j p.did[j] (List.getElem?_eq_getElem hjlt)
  obtain ⟨d, hd⟩ : ∃ d, p.did[j] = d := ⟨_, rfl⟩
  rw [hd] at hcy hdI hfd
  subst ead
  obtain ⟨pr4, hpr4⟩ : ∃ pr4, pr3 ++ (p.did.take j).flatMap didL = pr4 := ⟨_, rfl⟩
  have hpl4 : pr4.length ≤ 200 + 180 * l.length := by rw [← hpr4, List.length_append]; omega
  have hpb4 : Bytes pr4 := by rw [← hpr4]; exact hpb3.append (dids_bytes _)
  rw [hpr4] at hrow6
  obtain ⟨j0, j1, j2⟩ := hdI
  have y0 := varL_ten (zigN_lt j0)
  have y1 := varL_ten (zigN_lt j1)
  have y2 := varL_ten (zigN_lt j2)
  obtain ⟨f0, f1, f2⟩ := Did.parts hcy
  obtain ⟨aak7, cck7, rfl, hsk7⟩ := BRow.sl hrow6 hpb4
  repeat (first | refine cg_seq ?_ | refine cg_region ?_ | refine eg_then ?_ | refine qsp ?_ | refine qsi ?_ | refine qsl ?_ | refine qsf ?_ | refine cg_skip ?_ | refine cg_block ?_)
  refine rvn rfl rfl rfl rfl rfl rfl rfl (refPutVar_ct hsk7 (by omega) j0) ?_
  rintro Nk7 k7 vk7 hNk7 _ hlek7 hrow7
  have hrow7 : BRow F.w0.heap.size k7 vk7 _ := hrow7.N_le hNk7
  clear e0 e1 e2 f0 f1 f2
  obtain ⟨e0, e1, e2⟩ := ProdT.parts (hcx6.le hlek7)
  obtain ⟨f0, f1, f2⟩ := Did.parts (hcy.le hlek7)
  obtain ⟨aak8, cck8, rfl, hsk8⟩ := BRow.sl hrow7 (hpb4.append (varL_bytes _))
  repeat (first | refine cg_seq ?_ | refine cg_region ?_ | refine rg_nil ?_ | refine eg_then ?_ | refine qsp ?_ | refine qsi ?_ | refine qsl ?_ | refine qsf ?_)
  refine rvn rfl rfl rfl rfl rfl rfl rfl (refPutVar_ct hsk8 (by rw [List.length_append]; omega) j1) ?_
  rintro Nk8 k8 vk8 hNk8 _ hlek8 hrow8
  have hrow8 : BRow F.w0.heap.size k8 vk8 _ := hrow8.N_le hNk8
  clear e0 e1 e2 f0 f1 f2
  obtain ⟨e0, e1, e2⟩ := ProdT.parts (hcx6.le (hlek7.trans hlek8))
  obtain ⟨f0, f1, f2⟩ := Did.parts (hcy.le (hlek7.trans hlek8))
  obtain ⟨aak9, cck9, rfl, hsk9⟩ := BRow.sl hrow8 ((hpb4.append (varL_bytes _)).append (varL_bytes _))
  repeat (first | refine cg_region ?_ | refine rg_nil ?_ | refine eg_then ?_ | refine qsp ?_ | refine qsi ?_ | refine qsl ?_ | refine qsf ?_)
  refine rvn rfl rfl rfl rfl rfl rfl rfl (refPutVar_ct hsk9 (by simp only [List.length_append]; omega) j2) ?_
  rintro Nk9 k9 vk9 hNk9 _ hlek9 hrow9
  have hrow9 : BRow F.w0.heap.size k9 vk9 _ := hrow9.N_le hNk9
  repeat (first | refine cg_region ?_ | refine rg_nil ?_ | refine eg_then ?_ | refine qsp ?_ | refine qsa ?_ | refine eg_in_normal ?_)
  refine eg_again (j + 1) _ ⟨_, hle6.trans (hlek7.trans (hlek8.trans hlek9)), ?_, hjlt, rfl⟩ (by omega) ⟨rfl, rfl, rfl, rfl, trivial⟩
  rw [hfd, ← List.append_assoc, hpr4]
  have : pr4 ++ didL d = pr4 ++ varL (zigN d.seq) ++ varL (zigN d.last) ++ varL (zigN d.base) := by simp [didL]
  rw [this]; exact hrow9
theorem refSavePd_ctn {k : PH} {a : Option Addr} {c : Nat} {l : List ProdT} (hl : Sl tProdT k a c l) : CTN Try.prog 32 #[.slice a l.length c] k (SavePV (saveP l)) := by
  refine ctn_of_body (l := [_]) Try.func32 rfl Try.ntmps32 (by simp) SavePV.mono fun F hF0 hFm => ?_
  repeat (first | refine cg_seq ?_ | refine cg_region ?_ | refine rg_nil ?_ | refine eg_then ?_ | refine qsp ?_)
  refine rs rfl rfl (loc_call_is rfl rfl rfl rfl (refSeqsCheck_ct hl)) ?_
  repeat (first | refine cg_seq ?_ | refine cg_region ?_ | refine rg_nil ?_ | refine eg_then ?_ | refine qsp ?_)
  cases q1 : (chkP l != 0)
  case true =>
    repeat (first | refine cg_seq ?_ | refine cg_region ?_ | refine rg_nil ?_ | refine eg_then ?_ | refine qsp ?_ | refine cg_cond_true rfl ?_ | refine cg_ret ?_ | refine eg_then_ret ?_)
    refine eg_return2 rfl rfl rfl ?_
    have : ¬ chkP l = 0 := by simpa using q1
    exact ⟨_, by unfold saveP; rw [if_neg this], by unfold saveP; rw [if_neg this]; exact row_nil _ _ _ _⟩
  have q1' : chkP l = 0 := by simpa using q1
  repeat (first | refine cg_seq ?_ | refine cg_region ?_ | refine eg_then ?_ | refine qsp ?_ | refine cg_cond_false rfl ?_ | refine cg_skip ?_)
  refine rvn rfl rfl rfl rfl rfl rfl rfl (refBytesP_ctn hl q1') ?_
  rintro N1 k1 v1 hN1 _ hle1 hrow1
  repeat (first | refine rg_nil ?_ | refine eg_then ?_ | refine qsp ?_ | refine cg_ret ?_)
  refine eg_return2 rfl rfl rfl ?_
  exact ⟨v1, by unfold saveP; rw [if_pos q1'], by unfold saveP; rw [if_pos q1']; exact hrow1.N_le hN1⟩
end Go.Wm
namespace Go.Wm
open Go.RowKit Go.Proofs
/-- The next number, where none may have been one. -/
def numS (bs : List Nat) (s : Int × Bool) : Int × (Int × Bool) := if s.2 = true then (0, s) else match numR bs s.1 with
  | some x => (x.1, (x.2, false))
  | none => (0, (s.1, true))
theorem numS_bind {α : Type} (bs : List Nat) (s : Int × Bool) (f : Int × Int → Option α) : (if s.2 = true then none else (numR bs s.1).bind f) = if (numS bs s).2.2 = true then none else f ((numS bs s).1, (numS bs s).2.1) := by
  obtain ⟨q, bad⟩ := s
  unfold numS
  cases bad with
  | true => simp
  | false =>
    cases h : numR bs q with
    | none => simp [h]
    | some x => simp [h]
theorem numS_ok {bs : List Nat} {s : Int × Bool} (hb : Bytes bs) (hl : bs.length ≤ 100000000) (hs : I64 s.1) : I64 (numS bs s).1 ∧ I64 (numS bs s).2.1 := by
  obtain ⟨q, bad⟩ := s
  have z : I64 0 := ⟨by decide, by decide⟩
  unfold numS
  cases bad with
  | true => exact ⟨z, hs⟩
  | false =>
    cases h : numR bs q with
    | none => simp only [h]; exact ⟨z, hs⟩
    | some x => simp only [h]; exact numR_ok hb hl h
attribute [local irreducible] RG CG EG WA Loc Det Alc CT Exit.then Exit.inBlock Code.wp bodyPost
abbrev RdL (k : PH) (br : Nat) (a : Option Addr) (c : Nat) (bs : List Nat) (s : Int × Bool) : Prop := k br = some (.cells #[.slice a bs.length c, .int .i64 s.1, .bool s.2] 124 (0, 0))
set_option maxHeartbeats 1000000 in
theorem number_ctm {k : PH} {br : Nat} {a : Option Addr} {c : Nat} {bs : List Nat} {s : Int × Bool} (hk : RdL k br a c bs s) (h : Sl tU8 k a c bs) (hp : I64 s.1) (hl : bs.length ≤ 100000000) :
    CTM Try.prog 88 #[.pointer (some ⟨br, 0, none⟩)] k (fun b => b = br) (fun k' v => v = .int .i64 (numS bs s).1 ∧ RdL k' br a c bs (numS bs s).2) := by
  refine ctm_of_body (l := [_]) Try.func88 rfl Try.ntmps88 (by simp) fun F hF0 hFm hlt => ?_
  obtain ⟨q, bad⟩ := s
  dsimp only at hp
  have hc := cells_at (vs := [.slice a bs.length c, .int .i64 q, .bool bad]) hk rfl
  have c2 := hc.one (i := 2) rfl
  have c1 := hc.one (i := 1) rfl
  have c0 := hc.one (i := 0) rfl
  repeat (first | refine cg_seq ?_ | refine cg_region ?_ | refine rg_nil ?_ | refine eg_then ?_ | refine qsp ?_ | refine qsl ?_ | refine qsf ?_)
  cases bad
  case true =>
    repeat (first | refine cg_seq ?_ | refine cg_region ?_ | refine rg_nil ?_ | refine eg_then ?_ | refine qsp ?_ | refine cg_cond_true rfl ?_ | refine cg_ret ?_ | refine eg_then_ret ?_)
    exact eg_return rfl rfl ⟨rfl, hk⟩
  repeat (first | refine cg_seq ?_ | refine eg_then ?_ | refine cg_cond_false rfl ?_ | refine cg_skip ?_)
  refine cg_any (by kernel_rfl) rfl ?_
  repeat (first | refine qwp ?_ | refine qwl ?_ | refine qwf ?_)
  refine ws rfl (loc_call_is rfl rfl rfl rfl (refGetVar_ct h hp hl)) ?_
  have hn : numS bs (q, false) = match numR bs q with | some x => (x.1, (x.2, false)) | none => (0, (q, true)) := rfl
  rw [hn]
  cases hx : numR bs q with
  | none =>
    have hv := numR_none hx
    obtain ⟨r, hr⟩ : ∃ r, getVarR bs q = r := ⟨_, rfl⟩
    obtain ⟨x, y, er⟩ := r
    rw [hr] at hv ⊢
    dsimp only at hv
    unfold varV
    repeat (first | refine qwp ?_ | (refine wn rfl ?_; refine eg_then ?_))
    repeat (first | refine cg_seq ?_ | refine cg_region ?_ | refine rg_nil ?_ | refine eg_then ?_ | refine qsp ?_)
    rw [show (er != 0) = true by simpa using hv]
    repeat (first | refine cg_seq ?_ | refine cg_region ?_ | refine qsp ?_ | refine qsf ?_ | refine cg_cond_true rfl ?_)
    refine rw0 rfl rfl rfl rfl rfl rfl rfl rfl hk (show 0 + 2 < 3 by decide) (.inr (by rw [hFm])) ?_; intro k2 ht2 hk2
    repeat (first | refine cg_seq ?_ | refine cg_region ?_ | refine rg_nil ?_ | refine eg_then ?_ | refine qsp ?_ | refine cg_ret ?_ | refine eg_then_ret ?_)
    exact eg_return rfl rfl ⟨rfl, hk2⟩
  | some xq =>
    obtain ⟨x, y⟩ := xq
    rw [numR_some hx]
    unfold varV
    repeat (first | refine qwp ?_ | (refine wn rfl ?_; refine eg_then ?_))
    repeat (first | refine cg_seq ?_ | refine cg_region ?_ | refine rg_nil ?_ | refine eg_then ?_ | refine qsp ?_ | refine qsf ?_ | refine cg_cond_false rfl ?_ | refine cg_skip ?_)
    refine rw0 rfl rfl rfl rfl rfl rfl rfl rfl hk (show 0 + 1 < 3 by decide) (.inr (by rw [hFm])) ?_; intro k2 ht2 hk2
    repeat (first | refine cg_seq ?_ | refine cg_region ?_ | refine rg_nil ?_ | refine eg_then ?_ | refine qsp ?_ | refine cg_ret ?_)
    exact eg_return rfl rfl ⟨rfl, hk2⟩
structure InL (N : Nat) (k0 h K : PH) (br : Nat) (a : Option Addr) (c : Nat) (bs : List Nat) (s : Int × Bool) (v : Value) (m : Nat) (xs : List Value) : Prop where
  le0 : Le k0 K
  rdr : RdL K br a c bs s
  leh : Le h K
  row : Row N K 51 3 v m xs
structure FxL (k0 h : PH) (br : Nat) (v : Value) : Prop where
  r0 : k0 br = none
  hr : h br = none
  ap : Apart h v
  a0 : Apart k0 v
section
variable {N : Nat} {k0 h K K' : PH} {br : Nat} {a : Option Addr} {c : Nat} {bs : List Nat} {s s' : Int × Bool} {v w w' : Value} {m : Nat} {xs : List Value}
theorem InL.turn {b : Nat} (I : InL N k0 h K br a c bs s v m xs) (ht : Turn1 K K' b) (hv : v.ownBlock ≠ some b) (h3 : b ≠ br) (hk0 : k0 b = none) (hh : h b = none) : InL N k0 h K' br a c bs s v m xs :=
  ⟨ht k0 I.le0 hk0, turn1_get ht (Ne.symm h3) I.rdr, ht h I.leh hh, I.row.at fun g hg => by
    obtain ⟨_, ob, ho⟩ := I.row.block hg
    rw [ho]
    exact turn1_get ht (fun e => hv (by rw [← e]; exact hg)) ho⟩
theorem InL.le (I : InL N k0 h K br a c bs s v m xs) (hl : Le K K') : InL N k0 h K' br a c bs s v m xs :=
  ⟨I.le0.trans hl, hl _ _ I.rdr, I.leh.trans hl, I.row.le hl⟩
theorem InL.next (I : InL N k0 h K br a c bs s v m xs) (X : FxL k0 h br v) (ht : Turn1 K K' br) (hr : RdL K' br a c bs s') : InL N k0 h K' br a c bs s' v m xs := by
  have hv := I.row.owner I.rdr (by decide)
  exact ⟨ht k0 I.le0 X.r0, hr, ht h I.leh X.hr, I.row.at fun g hg => by
    obtain ⟨_, ob, ho⟩ := I.row.block hg
    rw [ho]
    exact turn1_get ht (fun e => hv (by rw [← e]; exact hg)) ho⟩
theorem InL.app {m' : Nat} {xs' : List Value} (I : InL N k0 h K br a c bs s v m xs) (ht : Turn K K' w w') (hw : Row N K 101 3 w m' xs') (ha : Apart h w) (h0 : Apart k0 w) : InL N k0 h K' br a c bs s v m xs := by
  have hd := (ht (delV K w) (delV_le _ _) (fun g hg => delV_own hg)).1
  refine ⟨(ht k0 I.le0 h0).1, hd _ _ ?_, (ht h I.leh ha).1, (I.row.at (k' := delV K w) fun g hg => delV_of (I.row.two hw (by decide) hg)).le hd⟩
  rw [delV_of (hw.owner I.rdr (by decide))]; exact I.rdr
end
end Go.Wm

/-
  SeqsBack and SeqsOthers, walked. Conditions: that what is handed in reads as data.
-/
import Derived.Test.YtfejamdfhbamcaaL1
import Derived.Test.YtfejamdfhbamcaaE15
set_option linter.all false
namespace Go.Wm
open Go.RowKit Go.Proofs
theorem xor_ne {a b : Nat} (hb : b ≠ 0) : a ^^^ b ≠ a := fun h => hb (by
  have := congrArg (fun x => a ^^^ x) h
  simp only [← Nat.xor_assoc, Nat.xor_self, Nat.zero_xor] at this
  exact this)
def notOf (pid : Int) (q : ProdT) : Bool := !decide (q.pid = pid)
def isOfP (pid : Int) (q : ProdT) : Bool := decide (q.pid = pid)
theorem filt_succ {f : ProdT → Bool} {l : List ProdT} {i : Nat} (h : i < l.length) : (l.take (i + 1)).filter f = (l.take i).filter f ++ if f l[i] = true then [l[i]] else [] := by
  rw [List.take_succ_eq_append_getElem h, List.filter_append]
  congr 1
  rw [List.filter_cons]
  split <;> simp_all
section
variable {P : Program} {o : Oper} {e : Env} {k : PH} {t t' : TypeId} {x y : Operand}
theorem d_eqlk {kd : IntKind} {a b : Int} (hop : o.op = .binOp .eql t x y t') (hx : opv e x = some (.int kd a)) (hy : opv e y = some (.int kd b)) : Det P e k o (.bool (a == b)) := by
  intro ev w hev _
  rw [hop] at hev
  have e1 := hev x (by simp [Op.operands]) _ hx
  have e2 := hev y (by simp [Op.operands]) _ hy
  simp [execOp, hop, e1, e2, eqGuard, binOp, Op.intCmp]
end
attribute [local irreducible] RG CG EG WA Loc Det Alc CT Exit.then Exit.inBlock Code.wp bodyPost
set_option maxHeartbeats 4000000 in
theorem seqsBack_walk {k : PH} {a : Option Addr} {c : Nat} {l : List ProdT} {p : Int} {x : Nat} {B0 : Prop} (hl : Sl tProdT k a c l) (_ : B0) (hp : I64 p) (hx : x < 256) :
    CT Try.prog 7 #[.slice a l.length c, .int .i64 p, .int .u8 (x : Int)] k (fun _ v => v = .bool true) := by
  refine ct_of_body (l := [_, _, _]) Try.func7 rfl Try.ntmps7 (by simp) (fun _ _ _ _ h => h) fun F hF0 hFm => ?_
  unfold I64 at hp
  repeat (first | refine cg_seq ?_ | refine cg_region ?_ | refine rg_nil ?_ | refine eg_then ?_ | refine qsp ?_)
  refine rs rfl rfl (loc_call_is rfl rfl rfl rfl (live11_ct)) ?_
  repeat (first | refine cg_seq ?_ | refine cg_region ?_ | refine rg_nil ?_ | refine eg_then ?_ | refine qsp ?_ | refine cg_cond_false rfl ?_ | refine cg_skip ?_)
  refine rs rfl rfl (loc_call_is rfl rfl rfl rfl (fewPd_ct hl)) ?_
  repeat (first | refine cg_seq ?_ | refine cg_region ?_ | refine rg_nil ?_ | refine eg_then ?_ | refine qsp ?_)
  cases q1 : fewPB l
  case false =>
    repeat (first | refine cg_seq ?_ | refine cg_region ?_ | refine rg_nil ?_ | refine eg_then ?_ | refine qsp ?_ | refine cg_cond_true rfl ?_ | refine cg_ret ?_ | refine eg_then_ret ?_)
    exact eg_return rfl rfl rfl
  repeat (first | refine cg_seq ?_ | refine cg_region ?_ | refine eg_then ?_ | refine qsp ?_ | refine cg_cond_false rfl ?_ | refine cg_skip ?_)
  refine rvn rfl rfl rfl rfl rfl rfl rfl (savePd_ctn hl) ?_
  rintro N1 k1 _ hN1 _ hle1 ⟨u1, rfl, row1⟩
  have hl := hl.le hle1
  by_cases q2 : chkP l = 0
  rotate_left
  · have hs : saveP l = ([], chkP l) := by unfold saveP; rw [if_neg q2]
    rw [hs] at row1 ⊢
    dsimp only at row1 ⊢
    obtain ⟨a1, c1, rfl, s1⟩ := row1.sl (fun x hx => by simp at hx)
    repeat (first | refine cg_seq ?_ | refine cg_region ?_ | refine rg_nil ?_ | refine eg_then ?_ | refine qsp ?_)
    rw [show (chkP l != 0) = true by simpa using q2]
    repeat (first | refine cg_seq ?_ | refine cg_region ?_ | refine qsp ?_ | refine qsn ?_ | refine cg_cond_true rfl ?_)
    refine rs rfl rfl (loc_call_is rfl rfl rfl rfl (seqsCheck_ct hl)) ?_
    repeat (first | refine rg_nil ?_ | refine eg_then ?_ | refine qsp ?_ | refine cg_ret ?_ | refine eg_then_ret ?_)
    rw [show (chkP l == chkP l) = true by simp]
    skip
    exact eg_return rfl rfl rfl
  have hs : saveP l = (sealL (prodsL l), 0) := by unfold saveP; rw [if_pos q2]
  have hld := loadP_save q2
  have hspo := @loadP_spoilt l
  rw [hs] at row1 hld hspo ⊢
  dsimp only at row1 hld hspo ⊢
  obtain ⟨hlen, hps⟩ := chk_zero.1 q2
  have hpl : (prodsL l).length ≤ 190000 := by
    have h1 := prods_len (l := l) ((prods_iff l).1 hps).1
    have h2 := varL_ten (zigN_lt (n := (l.length : Int)) (by unfold I64; omega))
    unfold prodsL; rw [List.length_append]; omega
  have hbb : Bytes (sealL (prodsL l)) := seal_bytes (prodsL_bytes l)
  have hbl : (sealL (prodsL l)).length = (prodsL l).length + 4 := sealL_len _
  generalize sealL (prodsL l) = bs at row1 hld hspo hbb hbl ⊢
  obtain ⟨a1, c1, rfl, s1⟩ := row1.sl hbb
  have b1 := s1.cap; have b2 := s1.max; unfold maxLen at b2
  repeat (first | refine cg_seq ?_ | refine cg_region ?_ | refine rg_nil ?_ | refine eg_then ?_ | refine qsp ?_ | refine cg_cond_false rfl ?_ | refine cg_skip ?_)
  have hlc := loadPd_ctn s1 (by omega)
  rw [hld] at hlc
  refine rvn rfl rfl rfl rfl rfl rfl rfl hlc ?_
  rintro N2 k2 _ hN2 _ hle2 ⟨u2, rfl, own2⟩
  dsimp only at own2 ⊢
  obtain ⟨a2, c2, rfl, s2⟩ := own2.sl
  have hl := hl.le hle2
  have s1 := s1.le hle2
  repeat (first | refine cg_seq ?_ | refine cg_region ?_ | refine rg_nil ?_ | refine eg_then ?_ | refine qsp ?_)
  refine rs rfl rfl (loc_call_is rfl rfl rfl rfl (samePd_ct hl s2)) ?_
  rw [decide_eq_true (rfl : l = l)]
  repeat (first | refine cg_seq ?_ | refine cg_region ?_ | refine rg_nil ?_ | refine eg_then ?_ | refine qsp ?_ | refine qsn ?_)
  rw [show decide ((bs.length : Int) < 4) = false by simp; omega]
  repeat (first | refine cg_seq ?_ | refine cg_region ?_ | refine eg_then ?_ | refine qsp ?_ | refine cg_cond_false rfl ?_ | refine cg_skip ?_)
  refine rs rfl rfl (loc_det rfl (d_eqlk rfl rfl rfl)) ?_
  repeat (first | refine qsp ?_)
  cases q3 : ((x : Int) == 0)
  case true =>
    repeat (first | refine cg_seq ?_ | refine cg_region ?_ | refine rg_nil ?_ | refine eg_then ?_ | refine qsp ?_ | refine qso ?_ | refine cg_cond_true rfl ?_ | refine cg_ret ?_ | refine eg_then_ret ?_)
    exact eg_return rfl rfl rfl
  have q3 : x ≠ 0 := by simp at q3; omega
  repeat (first | refine qsp ?_)
  cases q4 : decide (p < 0)
  case true =>
    repeat (first | refine cg_seq ?_ | refine cg_region ?_ | refine rg_nil ?_ | refine eg_then ?_ | refine qsp ?_ | refine qso ?_ | refine cg_cond_true rfl ?_ | refine cg_ret ?_ | refine eg_then_ret ?_)
    exact eg_return rfl rfl rfl
  have q4 := of_decide_eq_false q4
  repeat (first | refine rg_nil ?_ | refine eg_then ?_ | refine qsp ?_ | refine qsn ?_)
  cases q5 : decide (p ≥ (bs.length : Int))
  case true =>
    repeat (first | refine cg_seq ?_ | refine cg_region ?_ | refine rg_nil ?_ | refine eg_then ?_ | refine qsp ?_ | refine cg_cond_true rfl ?_ | refine cg_ret ?_ | refine eg_then_ret ?_)
    exact eg_return rfl rfl rfl
  have q5 := of_decide_eq_false q5
  obtain ⟨m, rfl⟩ : ∃ m : Nat, p = (m : Int) := ⟨p.toNat, by omega⟩
  have hm : m < bs.length := by omega
  repeat (first | refine cg_seq ?_ | refine cg_region ?_ | refine eg_then ?_ | refine cg_cond_false rfl ?_ | refine cg_skip ?_)
  refine rb rfl rfl rfl rfl (a_empty rfl) ?_; intro b3 k3 hb3 hN3 hle3 hk3
  repeat (first | refine qsp ?_)
  refine rapsB (bs := []) rfl rfl rfl rfl rfl rfl rfl (row_empty hN3 hk3) s1 hle3 (by simp; omega) ?_
  intro v4 k4 hrow4 ht4
  obtain ⟨hle4, hap4⟩ := ht4 k2 hle3 (fun g hg => by simp [Value.ownBlock] at hg; subst hg; exact hb3)
  have hrow4' : Row F.w0.heap.size k4 5 1 v4 bs.length (bs.map u8V).flatten := hrow4
  obtain ⟨g, cap, cur, rfl, hgN, hkg, hglt, hcg, hset⟩ := Row.cell (i := m) (j := 0) hrow4' (by simp) (by rw [List.getElem?_map, List.getElem?_eq_getElem hm]; rfl) (by omega)
  rw [Nat.add_zero, Nat.mul_one] at hglt
  have hbm : bs[m] < 256 := hbb _ (List.getElem_mem hm)
  repeat (first | refine cg_seq ?_ | refine cg_region ?_ | refine rg_nil ?_ | refine eg_then ?_ | refine qsp ?_ | refine qsi ?_ | refine qsl ?_)
  refine rs rfl rfl (loc_det rfl (d_xorN rfl rfl rfl rfl hbm hx)) ?_
  repeat (first | refine qsi ?_)
  refine rw0 rfl rfl rfl rfl rfl rfl rfl rfl hkg (show 0 + m * 1 < cur.size by omega) (.inl hgN) ?_; intro k5 ht5 hk5
  have hg2 : k2 g = none := hap4 g rfl
  have hle5 : Le k2 k5 := ht5 k2 hle4 hg2
  have hrow5 := hset k5 (.int .u8 ((bs[m] ^^^ x : Nat) : Int)) ht5 (by rw [hk5]; simp)
  have hrow5 : BRow F.w0.heap.size k5 (.slice (some ⟨g, 0, none⟩) bs.length cap) (bs.set m (bs[m] ^^^ x)) := by
    unfold BRow
    rw [List.length_set]
    have e : ((bs.map u8V).set m ([Value.int .u8 ((bs[m] : Nat) : Int)].set 0 (.int .u8 ((bs[m] ^^^ x : Nat) : Int)))).flatten = (bs.set m (bs[m] ^^^ x)).flatMap u8V := by
      rw [List.flatMap, List.map_set]; rfl
    rw [e] at hrow5
    exact hrow5
  have hx2 : bs[m] ^^^ x < 256 := Nat.xor_lt_two_pow (n := 8) hbm hx
  obtain ⟨sp1, sp2⟩ := hspo (i := m) (x := bs[m] ^^^ x) q2 hx2 hm (by rw [List.getElem?_eq_getElem hm]; intro h; exact xor_ne q3 (Option.some.inj h).symm)
  have hbs : Bytes (bs.set m (bs[m] ^^^ x)) := fun y hy => by
    rcases List.mem_or_eq_of_mem_set hy with hy | rfl
    · exact hbb y hy
    · exact hx2
  obtain ⟨a6, c6, e6, s6⟩ := hrow5.sl hbs
  rw [List.length_set] at e6
  cases e6
  have hl5 : (bs.set m (bs[m] ^^^ x)).length = bs.length := List.length_set
  have hlc2 := loadPd_ctn s6 (by omega)
  rw [sp2, hl5] at hlc2
  repeat (first | refine cg_seq ?_ | refine cg_region ?_ | refine rg_nil ?_ | refine eg_then ?_ | refine qsp ?_)
  refine rvn rfl rfl rfl rfl rfl rfl rfl hlc2 ?_
  rintro N6 k6 _ hN6 _ hle6 ⟨u6, rfl, own6⟩
  obtain ⟨a7, c7, rfl, s7⟩ := own6.sl
  have hoc := open_ctn (s6.le hle6) (by omega)
  rw [hl5] at hoc
  dsimp only
  repeat (first | refine cg_seq ?_ | refine cg_region ?_ | refine rg_nil ?_ | refine eg_then ?_ | refine qsp ?_)
  refine rvn rfl rfl rfl rfl rfl rfl rfl hoc ?_
  rintro N8 k8 _ hN8 _ hle8 ⟨u8, rfl, row8⟩
  rw [sp1]
  dsimp only
  repeat (first | refine cg_seq ?_ | refine cg_region ?_ | refine rg_nil ?_ | refine eg_then ?_ | refine qsp ?_ | refine qsn ?_ | refine cg_ret ?_)
  exact eg_return rfl rfl rfl
set_option maxHeartbeats 4000000 in
theorem seqsOthers_walk {k : PH} {a : Option Addr} {c : Nat} {l : List ProdT} {cb : List Value} {b : Batch} {B0 : Prop} (hl : Sl tProdT k a c l) (_ : B0) (hB : tBatch.rep k cb b) (hsm : b.small) :
    CT Try.prog 10 #[.slice a l.length c, .agg cb.toArray] k (fun _ v => v = .bool true) := by
  obtain ⟨ab, cb', rfl, hr, hok⟩ := hB
  refine ct_of_body (l := [_, _]) Try.func10 rfl Try.ntmps10 (by simp) (fun _ _ _ _ h => h) fun F hF0 hFm => ?_
  repeat (first | refine cg_seq ?_ | refine cg_region ?_)
  refine rb rfl rfl rfl rfl (a_box rfl rfl) ?_; intro b3 k3 hb3 hN3 hle3 hk3
  have hl := hl.le hle3
  have hr := hr.le hle3
  have cb3 := cells_at (vs := b.cs ab cb') hk3 rfl
  repeat (first | refine cg_seq ?_ | refine cg_region ?_ | refine rg_nil ?_ | refine eg_then ?_ | refine qsp ?_)
  refine rs rfl rfl (loc_call_is rfl rfl rfl rfl (live11_ct)) ?_
  repeat (first | refine cg_seq ?_ | refine cg_region ?_ | refine rg_nil ?_ | refine eg_then ?_ | refine qsp ?_ | refine qsg ?_ | refine cg_cond_false rfl ?_ | refine cg_skip ?_)
  refine rs rfl rfl (loc_call_is rfl rfl rfl rfl (few11_ct hl hr (short_of hsm))) ?_
  cases q1 : (fewPB l && fewB b)
  case false =>
    repeat (first | refine cg_seq ?_ | refine cg_region ?_ | refine rg_nil ?_ | refine eg_then ?_ | refine qsp ?_ | refine cg_cond_true rfl ?_ | refine cg_ret ?_ | refine eg_then_ret ?_)
    exact eg_return rfl rfl rfl
  repeat (first | refine cg_seq ?_ | refine cg_region ?_ | refine rg_nil ?_ | refine eg_then ?_ | refine qsp ?_ | refine qsg ?_ | refine cg_cond_false rfl ?_ | refine cg_skip ?_)
  refine rvn rfl rfl rfl rfl rfl rfl rfl (seqsPut_ctn hl hr hok) ?_
  rintro N4 k4 _ hN4 _ hle4 ⟨u4, rfl, own4⟩
  have hfind := put_find (l := l) (b := b)
  have hoth := put_others (l := l) (b := b)
  have hpc0 := put_chk (l := l) (b := b)
  have hpz : (putR l b).2 = 0 → chkP l = 0 ∧ chkB b = 0 := fun h => look_zero (put_zero h)
  generalize putR l b = pr at own4 hfind hoth hpc0 hpz ⊢
  obtain ⟨m, er⟩ := pr
  dsimp only at own4 hfind hoth hpc0 hpz ⊢
  obtain ⟨am, cm, rfl, sm⟩ := own4.sl
  have hl := hl.le hle4
  have hk4 := hle4 _ _ hk3
  have b1 := hl.cap; have b2 := hl.max; have b5 := sm.cap; have b6 := sm.max; unfold maxLen at b2 b6
  repeat (first | refine cg_seq ?_ | refine cg_region ?_ | refine rg_nil ?_ | refine eg_then ?_ | refine qsp ?_)
  cases q2 : (er != 0)
  case true =>
    repeat (first | refine cg_seq ?_ | refine cg_region ?_ | refine rg_nil ?_ | refine eg_then ?_ | refine qsp ?_ | refine cg_cond_true rfl ?_ | refine cg_ret ?_ | refine eg_then_ret ?_)
    exact eg_return rfl rfl rfl
  have q2 : er = 0 := by simpa using q2
  subst q2
  have hoth := hoth rfl
  obtain ⟨hmlen, hmps⟩ := chk_zero.1 (hpc0 rfl)
  obtain ⟨hmok, hmpw⟩ := (prods_iff m).1 hmps
  obtain ⟨hz1, hz2⟩ := hpz rfl
  have hform := chkB_form hz2
  obtain ⟨hllen, _⟩ := chk_zero.1 hz1
  have hfind := hfind rfl
  repeat (first | refine cg_seq ?_ | refine cg_region ?_ | refine rg_nil ?_ | refine eg_then ?_ | refine qsp ?_ | refine cg_cond_false rfl ?_ | refine cg_skip ?_ | refine cg_block ?_)
  refine cg_loop (fun (i : Nat) e k' => ∃ v css, Le k4 k' ∧ Apart k4 v ∧ Pieces tProdT k4 css ((l.take i).filter (notOf b.pid)) ∧ Row F.w0.heap.size k' 51 3 v ((l.take i).filter (notOf b.pid)).length css.flatten ∧ i ≤ l.length ∧
      e = [(0, .is (.slice a l.length c)), (3, .is (.pointer (some ⟨b3, 0, none⟩))), (5, .is (.bool true)), (6, .is (.slice am m.length cm)), (8, .is v), (9, .is (.slice none 0 0)), (10, .is (.int .i64 (i : Int)))])
    (fun i => l.length - i) 0 ⟨.slice none 0 0, [], Le.refl _, apart_nil _ _ _, Pieces.nil _ _, row_nil _ _ _ _, by omega, rfl⟩ ⟨rfl, rfl, rfl, rfl, rfl, rfl, rfl, trivial⟩ ?_
  rintro i e k5 ⟨v, css, hle5, hap, hpc, hrow, hi, rfl⟩
  repeat (first | refine cg_seq ?_ | refine cg_region ?_ | refine rg_nil ?_ | refine eg_then ?_ | refine qsp ?_ | refine qsn ?_)
  refine cg_cond rfl (fun h => ?_) (fun h => ?_)
  · have hlt : i < l.length := by have := of_decide_eq_true h; omega
    obtain ⟨bx, ox, cx, rfl, ⟨a0, c0, rfl, hsd, hpok⟩, hcx⟩ := hl.el i l[i] (List.getElem?_eq_getElem hlt)
    have hfs := filt_succ (f := notOf b.pid) hlt
    obtain ⟨pp, hp⟩ : ∃ pp, l[i] = pp := ⟨_, rfl⟩
    rw [hp] at hcx hsd hpok hfs
    have hrepK : tProdT.rep k4 (pp.cs a0 c0) pp := ⟨a0, c0, rfl, hsd, hpok⟩
    have hcx5 := hcx.le hle5
    obtain ⟨e0, e1, e2⟩ := ProdT.parts hcx5
    obtain ⟨p0, p1, p2, p3, p4, p5, p6, p7, p8, p9⟩ := Batch.parts (cells_at (vs := b.cs ab cb') (hle5 _ _ hk4) rfl)
    have hfl : ((l.take i).filter (notOf b.pid)).length ≤ 1024 := by
      have := List.length_filter_le (notOf b.pid) (l.take i)
      rw [List.length_take] at this; omega
    generalize (l.take i).filter (notOf b.pid) = fs at hpc hrow hfs hfl
    repeat (first | refine cg_seq ?_ | refine eg_then ?_ | refine cg_skip ?_ | refine cg_block ?_)
    refine cg_any (by kernel_rfl) rfl ?_
    repeat (first | refine qwp ?_ | refine qwi ?_ | refine qwl ?_ | refine qwf ?_ | (refine wn rfl ?_; refine eg_then ?_))
    cases q4 : (pp.pid != b.pid)
    case false =>
      have hn : notOf b.pid pp = false := by unfold notOf; simp at q4; simp [q4]
      rw [hn, if_neg (by simp), List.append_nil] at hfs
      skip
      repeat (first | refine cg_region ?_ | refine rg_nil ?_ | refine eg_then ?_ | refine qsp ?_ | refine qsa ?_ | refine cg_cond_false rfl ?_ | refine cg_skip ?_ | refine eg_in_normal ?_)
      exact eg_again (i + 1) _ ⟨v, css, hle5, hap, by rw [hfs]; exact hpc, by rw [hfs]; exact hrow, hlt, rfl⟩ (by omega) ⟨rfl, rfl, rfl, rfl, rfl, rfl, rfl, trivial⟩
    have hn : notOf b.pid pp = true := by unfold notOf; simp at q4; simp [q4]
    rw [hn, if_pos rfl] at hfs
    clear e0 e1 e2 p0 p1 p2 p3 p4 p5 p6 p7 p8 p9
    have hcx5 := hcx5
    obtain ⟨KK, hKK⟩ : ∃ KK : PH, KK = k4 := ⟨_, rfl⟩
    rw [← hKK] at hle5 hap hpc hrepK
    have hleK := hle5
    skip
    repeat (first | refine cg_region ?_ | refine qsp ?_ | refine qsi ?_ | refine qsg ?_ | refine cg_cond_true rfl ?_)
    refine rb rfl rfl rfl rfl (a_slice (cells := ProdT.cs pp a0 c0) rfl rfl rfl rfl (by kernel_rfl) rfl) ?_; intro bn k7 hbn hNn hle7 hkn
    refine rap (j := 1) (news := ProdT.cs pp a0 c0) rfl rfl rfl rfl rfl rfl rfl (hrow.le hle7) (cells_at hkn rfl) rfl (by simp [ProdT.cs, Value.oneCell']) (by kernel_rfl) rfl (by unfold maxLen; omega) (by omega) ?_
    rintro v' k8 hrow8 htn
    obtain ⟨hle8, hap8⟩ := htn KK (hleK.trans hle7) hap
    have hrow8 : Row F.w0.heap.size k8 51 3 v' (fs ++ [pp]).length (css ++ [ProdT.cs pp a0 c0]).flatten := by simpa using hrow8
    have hpc8 : Pieces tProdT KK (css ++ [ProdT.cs pp a0 c0]) (fs ++ [pp]) := hpc.append (Pieces.one hrepK)
    rw [hKK] at hle8 hap8 hpc8
    repeat (first | refine cg_region ?_ | refine rg_nil ?_ | refine eg_then ?_ | refine qsp ?_ | refine qsa ?_ | refine eg_in_normal ?_)
    exact eg_again (i + 1) _ ⟨v', css ++ [ProdT.cs pp a0 c0], hle8, hap8, by rw [hfs]; exact hpc8, by rw [hfs]; exact hrow8, hlt, rfl⟩ (by omega) ⟨rfl, rfl, rfl, rfl, rfl, rfl, rfl, trivial⟩
  have hil : i = l.length := by have := of_decide_eq_false h; omega
  subst hil
  rw [List.take_length] at hpc hrow
  obtain ⟨a8, c8, rfl, s8⟩ := Row.sls (T := tProdT) hrow (hpc.le hle5)
  have sm5 := sm.le hle5
  have hk5 := hle5 _ _ hk4
  clear hpc hrow hap
  have hgen : ∀ q ∈ m, q.pid = b.pid → q.gen = b.gen := fun q hq he => by
    have h0 := (prodOk_iff.1 (hmok q hq)).1
    obtain ⟨p, hp1, hp2⟩ := hfind (by omega)
    have := findP_mem hmpw hq
    rw [he, hp1] at this
    cases this; exact hp2
  have hone : 0 ≤ b.pid → (m.filter (isOfP b.pid)).length = 1 := fun h0 => by
    obtain ⟨p, hp1, hp2⟩ := hfind h0
    have hpe := (findP_some hp1).2
    have := one_of (p := p) hmpw (by rw [hpe]; exact hp1)
    rw [hpe] at this
    show (m.filter (fun q => decide (q.pid = b.pid))).length = 1
    rw [this]; rfl
  repeat (first | refine cg_seq ?_ | refine cg_region ?_ | refine rg_nil ?_ | refine eg_then ?_ | refine qsp ?_ | refine cg_block ?_ | refine cg_exit ?_ | refine eg_then_exit ?_ | refine eg_in_exit ?_)
  refine cg_loop (fun (i : Nat) e k' => ∃ v css, Le k5 k' ∧ Apart k5 v ∧ Pieces tProdT k5 css ((m.take i).filter (notOf b.pid)) ∧ Row F.w0.heap.size k' 51 3 v ((m.take i).filter (notOf b.pid)).length css.flatten ∧ i ≤ m.length ∧
      e = [(3, .is (.pointer (some ⟨b3, 0, none⟩))), (5, .is (.bool true)), (6, .is (.slice am m.length cm)), (8, .is (.slice a8 (l.filter (notOf b.pid)).length c8)), (9, .is v), (11, .is (.int .i64 (((m.take i).filter (isOfP b.pid)).length : Int))), (12, .is (.int .i64 (i : Int)))])
    (fun i => m.length - i) 0 ⟨.slice none 0 0, [], Le.refl _, apart_nil _ _ _, Pieces.nil _ _, row_nil _ _ _ _, by omega, rfl⟩ ⟨rfl, rfl, rfl, rfl, rfl, rfl, rfl, trivial⟩ ?_
  rintro i e k6 ⟨v, css, hle6, hap, hpc, hrow, hi, rfl⟩
  repeat (first | refine cg_seq ?_ | refine cg_region ?_ | refine rg_nil ?_ | refine eg_then ?_ | refine qsp ?_ | refine qsn ?_)
  refine cg_cond rfl (fun h => ?_) (fun h => ?_)
  · have hlt : i < m.length := by have := of_decide_eq_true h; omega
    obtain ⟨bx, ox, cx, rfl, ⟨a0, c0, rfl, hsd, hpok⟩, hcx⟩ := sm5.el i m[i] (List.getElem?_eq_getElem hlt)
    have hfs := filt_succ (f := notOf b.pid) hlt
    have hft := filt_succ (f := isOfP b.pid) hlt
    have hgi := hgen m[i] (List.getElem_mem hlt)
    obtain ⟨pp, hp⟩ : ∃ pp, m[i] = pp := ⟨_, rfl⟩
    rw [hp] at hcx hsd hpok hfs hft hgi
    have hrepK : tProdT.rep k5 (pp.cs a0 c0) pp := ⟨a0, c0, rfl, hsd, hpok⟩
    have hcx5 := hcx.le hle6
    obtain ⟨e0, e1, e2⟩ := ProdT.parts hcx5
    obtain ⟨p0, p1, p2, p3, p4, p5, p6, p7, p8, p9⟩ := Batch.parts (cells_at (vs := b.cs ab cb') (hle6 _ _ hk5) rfl)
    have hfl : ((m.take i).filter (notOf b.pid)).length ≤ 1024 := by
      have := List.length_filter_le (notOf b.pid) (m.take i)
      rw [List.length_take] at this; omega
    have hfl2 : ((m.take i).filter (isOfP b.pid)).length ≤ 1024 := by
      have := List.length_filter_le (isOfP b.pid) (m.take i)
      rw [List.length_take] at this; omega
    generalize (m.take i).filter (notOf b.pid) = fs at hpc hrow hfs hfl
    generalize (m.take i).filter (isOfP b.pid) = gs at hft hfl2 ⊢
    repeat (first | refine cg_seq ?_ | refine eg_then ?_ | refine cg_skip ?_ | refine cg_block ?_)
    refine cg_any (by kernel_rfl) rfl ?_
    repeat (first | refine qwp ?_ | refine qwi ?_ | refine qwl ?_ | refine qwf ?_ | (refine wn rfl ?_; refine eg_then ?_))
    cases q4 : (pp.pid != b.pid)
    case false =>
      have hpe : pp.pid = b.pid := by simpa using q4
      have hn : notOf b.pid pp = false := by unfold notOf; simp [hpe]
      have hn2 : isOfP b.pid pp = true := by unfold isOfP; simp [hpe]
      rw [hn, if_neg (by simp), List.append_nil] at hfs
      rw [hn2, if_pos rfl] at hft
      have hge := hgi hpe
      skip
      repeat (first | refine cg_seq ?_ | refine cg_region ?_ | refine rg_nil ?_ | refine eg_then ?_ | refine qsp ?_ | refine qsa ?_ | refine cg_cond_false rfl ?_)
      refine cg_any (by kernel_rfl) rfl ?_
      repeat (first | refine qwp ?_ | refine qwi ?_ | refine qwl ?_ | refine qwf ?_ | (refine wn rfl ?_; refine eg_then ?_))
      rw [show (pp.gen != b.gen) = false by simp [hge]]
      skip
      repeat (first | refine cg_region ?_ | refine rg_nil ?_ | refine eg_then ?_ | refine qsp ?_ | refine qsa ?_ | refine cg_cond_false rfl ?_ | refine cg_skip ?_ | refine eg_in_normal ?_)
      rw [show ((gs.length : Int) + 1) = (((gs ++ [pp]).length : Nat) : Int) by simp, ← hft]
      exact eg_again (i + 1) _ ⟨v, css, hle6, hap, by rw [hfs]; exact hpc, by rw [hfs]; exact hrow, hlt, rfl⟩ (by omega) ⟨rfl, rfl, rfl, rfl, rfl, rfl, rfl, trivial⟩
    have hpe : pp.pid ≠ b.pid := by simpa using q4
    have hn : notOf b.pid pp = true := by unfold notOf; simp [hpe]
    have hn2 : isOfP b.pid pp = false := by unfold isOfP; simp [hpe]
    rw [hn, if_pos rfl] at hfs
    rw [hn2, if_neg (by simp), List.append_nil] at hft
    clear e0 e1 e2 p0 p1 p2 p3 p4 p5 p6 p7 p8 p9
    have hcx5 := hcx5
    obtain ⟨KK, hKK⟩ : ∃ KK : PH, KK = k5 := ⟨_, rfl⟩
    rw [← hKK] at hle6 hap hpc hrepK
    have hleK := hle6
    skip
    repeat (first | refine cg_region ?_ | refine qsp ?_ | refine qsi ?_ | refine qsg ?_ | refine cg_cond_true rfl ?_)
    refine rb rfl rfl rfl rfl (a_slice (cells := ProdT.cs pp a0 c0) rfl rfl rfl rfl (by kernel_rfl) rfl) ?_; intro bn k7 hbn hNn hle7 hkn
    refine rap (j := 1) (news := ProdT.cs pp a0 c0) rfl rfl rfl rfl rfl rfl rfl (hrow.le hle7) (cells_at hkn rfl) rfl (by simp [ProdT.cs, Value.oneCell']) (by kernel_rfl) rfl (by unfold maxLen; omega) (by omega) ?_
    rintro v' k8 hrow8 htn
    obtain ⟨hle8, hap8⟩ := htn KK (hleK.trans hle7) hap
    have hrow8 : Row F.w0.heap.size k8 51 3 v' (fs ++ [pp]).length (css ++ [ProdT.cs pp a0 c0]).flatten := by simpa using hrow8
    have hpc8 : Pieces tProdT KK (css ++ [ProdT.cs pp a0 c0]) (fs ++ [pp]) := hpc.append (Pieces.one hrepK)
    rw [hKK] at hle8 hap8 hpc8
    repeat (first | refine cg_region ?_ | refine rg_nil ?_ | refine eg_then ?_ | refine qsp ?_ | refine qsa ?_ | refine eg_in_normal ?_)
    rw [← hft]
    exact eg_again (i + 1) _ ⟨v', css ++ [ProdT.cs pp a0 c0], hle8, hap8, by rw [hfs]; exact hpc8, by rw [hfs]; exact hrow8, hlt, rfl⟩ (by omega) ⟨rfl, rfl, rfl, rfl, rfl, rfl, rfl, trivial⟩
  have hil : i = m.length := by have := of_decide_eq_false h; omega
  subst hil
  rw [List.take_length] at hpc hrow ⊢
  obtain ⟨a9, c9, rfl, s9⟩ := Row.sls (T := tProdT) hrow (hpc.le hle6)
  have s8 := s8.le hle6
  have hoth : m.filter (notOf b.pid) = l.filter (notOf b.pid) := hoth
  obtain ⟨p0, p1, p2, p3, p4, p5, p6, p7, p8, p9⟩ := Batch.parts (cells_at (vs := b.cs ab cb') (hle6 _ _ hk5) rfl)
  repeat (first | refine cg_seq ?_ | refine cg_region ?_ | refine eg_then ?_ | refine qsp ?_ | refine cg_exit ?_ | refine eg_then_exit ?_ | refine eg_in_exit ?_)
  refine rs rfl rfl (loc_call_is rfl rfl rfl rfl (samePd_ct s8 s9)) ?_
  rw [decide_eq_true hoth.symm]
  repeat (first | refine cg_seq ?_ | refine cg_region ?_ | refine rg_nil ?_ | refine eg_then ?_ | refine qsp ?_ | refine qsl ?_ | refine qsf ?_)
  cases q7 : decide (b.pid < 0)
  case true =>
    repeat (first | refine rg_nil ?_ | refine eg_then ?_ | refine qsp ?_ | refine qso ?_ | refine cg_ret ?_)
    exact eg_return rfl rfl rfl
  have q7 := of_decide_eq_false q7
  rw [hone (by omega)]
  repeat (first | refine rg_nil ?_ | refine eg_then ?_ | refine qsp ?_ | refine cg_ret ?_)
  exact eg_return rfl rfl rfl
end Go.Wm

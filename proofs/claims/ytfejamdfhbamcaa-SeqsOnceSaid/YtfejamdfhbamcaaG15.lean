/-
  Producers, the program's: bytes held against each other; loaded. Conditions: that what is handed in reads as data.
-/
import Derived.Test.YtfejamdfhbamcaaE3
import Derived.Test.YtfejamdfhbamcaaG13
import Derived.Test.YtfejamdfhbamcaaG14
import Derived.Test.YtfejamdfhbamcaaG7
set_option linter.all false
namespace Go.Wm
open Go.RowKit Go.Proofs
attribute [local irreducible] RG CG EG WA Loc Det Alc CT Exit.then Exit.inBlock Code.wp bodyPost
/-- What Open hands back. -/
def OpenV (bs : List Nat) (N : Nat) (k : PH) (v : Value) : Prop := ∃ u, v = .tuple #[u, .int .i64 (openR bs).2] ∧ BRow N k u (openR bs).1
theorem OpenV.mono {bs : List Nat} : ∀ N k k' v, Le k k' → OpenV bs N k v → OpenV bs N k' v := fun N k k' v hle ⟨u, e, h⟩ => ⟨u, e, h.le hle⟩
theorem openV_no {bs : List Nat} {N : Nat} {k : PH} {e : Int} (h : openR bs = ([], e)) : OpenV bs N k (.tuple #[.slice none 0 0, .int .i64 e]) := ⟨_, by rw [h], by rw [h]; exact row_nil _ _ _ _⟩
theorem openV_yes {bs : List Nat} {N : Nat} {k : PH} {u : Value} (h4 : ¬ bs.length < 4) (h : openedP bs = true) (hr : BRow N k u (bs.take (bs.length - 4))) : OpenV bs N k (.tuple #[u, .int .i64 0]) := by
  have e : openR bs = (bs.take (bs.length - 4), 0) := by unfold openR; rw [if_neg h4, if_pos h]
  exact ⟨u, by rw [e], by rw [e]; exact hr⟩
set_option maxHeartbeats 1000000 in
theorem open_ctn {k : PH} {a : Option Addr} {c : Nat} {bs : List Nat} (h : Sl tU8 k a c bs) (hl : bs.length ≤ 100000000) :
    CTN Try.prog 35 #[.slice a bs.length c] k (OpenV bs) := by
  refine ctn_of_body (l := [_]) Try.func35 rfl Try.ntmps35 (by simp) OpenV.mono fun F hF0 hFm => ?_
  have hby := sl_bytes h
  repeat (first | refine cg_seq ?_ | refine cg_region ?_ | refine rg_nil ?_ | refine eg_then ?_ | refine qsp ?_ | refine qsn ?_ | refine qss ?_)
  cases q : decide ((bs.length : Int) - 4 < 0)
  case true =>
    have := of_decide_eq_true q
    repeat (first | refine cg_seq ?_ | refine cg_region ?_ | refine rg_nil ?_ | refine eg_then ?_ | refine qsp ?_ | refine cg_cond_true rfl ?_ | refine cg_ret ?_ | refine eg_then_ret ?_)
    refine eg_return2 rfl rfl rfl (openV_no ?_)
    unfold openR; rw [if_pos (by omega)]
  have h4 := of_decide_eq_false q
  obtain ⟨m, hm⟩ : ∃ m, bs.length - 4 = m := ⟨_, rfl⟩
  have hmi : (bs.length : Int) - 4 = (m : Int) := by omega
  have hn4 : ¬ bs.length < 4 := by omega
  rw [hmi]
  repeat (first | refine cg_seq ?_ | refine cg_region ?_ | refine eg_then ?_ | refine qsp ?_ | refine cg_cond_false rfl ?_ | refine cg_skip ?_)
  refine rs rfl rfl (loc_call_is rfl rfl rfl rfl (get_ct (w := 4) h (by unfold I64; omega) (by omega) (by omega) hl)) ?_
  have hg : getR bs (m : Int) 4 = (fromL (bs.drop m), 0) := by
    unfold getR; rw [if_neg (by omega), if_neg (by rw [Int.toNat_natCast]; omega), Int.toNat_natCast, List.take_of_length_le (by rw [List.length_drop]; omega)]
  rw [hg]
  repeat (first | refine cg_seq ?_ | refine cg_region ?_ | refine rg_nil ?_ | refine eg_then ?_ | refine qsp ?_)
  refine rs rfl rfl (loc_det rfl (d_pre h rfl rfl rfl (by omega))) ?_
  have hpre := h.take m
  have hps := sumL_lt (sl_bytes hpre)
  refine rs rfl rfl (loc_call_is rfl rfl rfl rfl (sum_ct hpre)) ?_
  refine rs rfl rfl (loc_det rfl (d_conv rfl rfl)) ?_
  rw [wrap64 (by omega)]
  refine rs rfl rfl (loc_det rfl (d_cmp rfl rfl rfl rfl)) ?_
  repeat (first | refine rg_nil ?_ | refine eg_then ?_ | refine qsp ?_)
  have ho : openedP bs = decide (fromL (bs.drop m) = sumL (bs.take m)) := by unfold openedP; rw [hm]
  cases q2 : (((fromL (bs.drop m) : Nat) : Int) != ((sumL (bs.take m) : Nat) : Int))
  · repeat (first | refine cg_seq ?_ | refine cg_region ?_ | refine eg_then ?_ | refine qsp ?_ | refine cg_cond_false rfl ?_ | refine cg_skip ?_)
    refine rs rfl rfl (loc_det rfl (d_pre h rfl rfl rfl (by omega))) ?_
    refine rapsB (bs := []) rfl rfl rfl rfl rfl rfl rfl (row_nil _ _ _ _) hpre (Le.refl _) (by simp; omega) ?_
    intro v1 k1 hrow1 ht1
    rw [List.nil_append] at hrow1
    repeat (first | refine rg_nil ?_ | refine eg_then ?_ | refine qsp ?_ | refine cg_ret ?_)
    refine eg_return2 rfl rfl rfl (openV_yes hn4 ?_ (by rw [hm]; exact hrow1))
    rw [ho]; simp at q2; simp; omega
  · repeat (first | refine cg_seq ?_ | refine cg_region ?_ | refine rg_nil ?_ | refine eg_then ?_ | refine qsp ?_ | refine cg_cond_true rfl ?_ | refine cg_ret ?_ | refine eg_then_ret ?_)
    refine eg_return2 rfl rfl rfl (openV_no ?_)
    unfold openR; rw [if_neg hn4, if_neg]
    rw [ho]; simp at q2; simp; omega
end Go.Wm
namespace Go.Wm
open Go.RowKit Go.Proofs
section
variable {P : Program} {o : Oper} {e : Env} {k : PH} {t t' : TypeId} {x y : Operand}
theorem d_neqk {kd : IntKind} {a b : Int} (hop : o.op = .binOp .neq t x y t') (hx : opv e x = some (.int kd a)) (hy : opv e y = some (.int kd b)) : Det P e k o (.bool (a != b)) := by
  intro ev w hev _
  rw [hop] at hev
  have e1 := hev x (by simp [Op.operands]) _ hx
  have e2 := hev y (by simp [Op.operands]) _ hy
  simp [execOp, hop, e1, e2, eqGuard, binOp, Op.intCmp]
end
attribute [local irreducible] RG CG EG WA Loc Det Alc CT Exit.then Exit.inBlock Code.wp bodyPost
set_option maxHeartbeats 1000000 in
theorem equalB_ct {k : PH} {a b : Option Addr} {c d : Nat} {xs ys : List Nat} (hx : Sl tU8 k a c xs) (hy : Sl tU8 k b d ys) : CT Try.prog 86 #[.slice a xs.length c, .slice b ys.length d] k (fun _ v => v = .bool (decide (xs = ys))) := by
  refine ct_of_body (l := [_, _]) Try.func86 rfl Try.ntmps86 (by simp) (fun _ _ _ _ h => h) fun F hF0 hFm => ?_
  have b1 := hx.cap; have b2 := hx.max; have b3 := hy.cap; have b4 := hy.max; unfold maxLen at b2 b4
  repeat (first | refine cg_seq ?_ | refine cg_region ?_ | refine rg_nil ?_ | refine eg_then ?_ | refine qsp ?_ | refine qsn ?_)
  cases q1 : ((xs.length : Int) != (ys.length : Int))
  case true =>
    have : xs.length ≠ ys.length := by simp at q1; omega
    repeat (first | refine cg_seq ?_ | refine cg_region ?_ | refine rg_nil ?_ | refine eg_then ?_ | refine qsp ?_ | refine cg_cond_true rfl ?_ | refine cg_ret ?_ | refine eg_then_ret ?_)
    exact eg_return rfl rfl (by rw [decide_eq_false (fun e => this (by rw [e]))])
  have hl : xs.length = ys.length := by simp at q1; omega
  repeat (first | refine cg_seq ?_ | refine cg_region ?_ | refine rg_nil ?_ | refine eg_then ?_ | refine qsp ?_ | refine qsn ?_ | refine cg_cond_false rfl ?_ | refine cg_skip ?_ | refine cg_block ?_)
  refine cg_loop (fun (j : Nat) e k' => k' = k ∧ j ≤ xs.length ∧ (∀ n, n < j → xs[n]? = ys[n]?) ∧ e = [(0, .is (.slice a xs.length c)), (1, .is (.slice b ys.length d)), (12, .is (.int .i64 (xs.length : Int))), (13, .is (.int .i64 (j : Int)))])
    (fun j => xs.length - j) 0 ⟨rfl, Nat.zero_le _, fun n hn => by omega, rfl⟩ ⟨rfl, rfl, rfl, rfl, trivial⟩ ?_
  rintro j e k1 ⟨rfl, hj, hsame, rfl⟩
  repeat (first | refine cg_seq ?_ | refine cg_region ?_ | refine rg_nil ?_ | refine eg_then ?_ | refine qsp ?_)
  refine cg_cond rfl (fun hc => ?_) (fun hc => ?_)
  rotate_left
  · have hjl : j = xs.length := by have := of_decide_eq_false hc; omega
    repeat (first | refine cg_seq ?_ | refine cg_region ?_ | refine rg_nil ?_ | refine eg_then ?_ | refine qsp ?_ | refine cg_ret ?_ | refine cg_exit ?_ | refine eg_then_exit ?_ | refine eg_in_exit ?_)
    refine eg_return rfl rfl ?_
    have : xs = ys := by
      apply List.ext_getElem? 
      intro n
      by_cases hn : n < j
      · exact hsame n hn
      · rw [List.getElem?_eq_none (by omega), List.getElem?_eq_none (by omega)]
    rw [decide_eq_true this]
  have hjlt : j < xs.length := by have := of_decide_eq_true hc; omega
  have hjy : j < ys.length := by omega
  obtain ⟨bx, ox, rfl, hx2, hcx⟩ := sl_u8 hx hjlt
  obtain ⟨by', oy, rfl, hy2, hcy⟩ := sl_u8 hy hjy
  repeat (first | refine cg_seq ?_ | refine cg_region ?_ | refine rg_nil ?_ | refine eg_then ?_ | refine qsp ?_ | refine cg_skip ?_ | refine cg_block ?_)
  refine cg_any (by kernel_rfl) rfl ?_
  repeat (first | refine qwp ?_ | refine qwi ?_ | refine qwl ?_)
  refine ws rfl (loc_det rfl (d_neqk rfl rfl rfl)) ?_
  repeat (first | (refine wn rfl ?_; refine eg_then ?_))
  cases q2 : (((xs[j] : Nat) : Int) != ((ys[j] : Nat) : Int))
  · have he : xs[j] = ys[j] := by
      have : ((xs[j] : Nat) : Int) = ((ys[j] : Nat) : Int) := by simpa using q2
      omega
    repeat (first | refine cg_region ?_ | refine rg_nil ?_ | refine eg_then ?_ | refine qsp ?_ | refine qsa ?_ | refine cg_cond_false rfl ?_ | refine cg_skip ?_ | refine eg_in_normal ?_)
    refine eg_again (j + 1) _ ⟨rfl, hjlt, fun n hn => ?_, rfl⟩ (by omega) ⟨rfl, rfl, rfl, rfl, trivial⟩
    by_cases h : n < j
    · exact hsame n h
    · have : n = j := by omega
      subst this
      rw [List.getElem?_eq_getElem hjlt, List.getElem?_eq_getElem hjy, he]
  · have hne : xs[j] ≠ ys[j] := fun e => by rw [e] at q2; simp at q2
    repeat (first | refine cg_seq ?_ | refine cg_region ?_ | refine rg_nil ?_ | refine eg_then ?_ | refine qsp ?_ | refine cg_cond_true rfl ?_ | refine cg_ret ?_ | refine eg_then_ret ?_ | refine eg_in_ret ?_)
    refine eg_return rfl rfl ?_
    rw [decide_eq_false (fun e => by subst e; exact hne rfl)]
set_option maxHeartbeats 2000000 in
theorem loadPd_ctn {k : PH} {a : Option Addr} {c : Nat} {bs : List Nat} (hs : Sl tU8 k a c bs) (hl : bs.length ≤ 100000000) : CTN Try.prog 33 #[.slice a bs.length c] k (PutV (loadP bs)) := by
  refine ctn_of_body (l := [_]) Try.func33 rfl Try.ntmps33 (by simp) PutV.mono fun F hF0 hFm => ?_
  have b1 := hs.cap; have b2 := hs.max; unfold maxLen at b2
  have hby := sl_bytes hs
  repeat (first | refine cg_seq ?_ | refine cg_region ?_ | refine rg_nil ?_ | refine eg_then ?_ | refine qsp ?_)
  refine rvn rfl rfl rfl rfl rfl rfl rfl (open_ctn hs hl) ?_
  rintro N1 k1 v1 hN1 _ hle1 ⟨u1, rfl, hrow1⟩
  obtain ⟨op, hop⟩ : ∃ op, openR bs = op := ⟨_, rfl⟩
  have hld : loadP bs = if op.2 ≠ 0 then ([], op.2) else match readP op.1 with | none => ([], 11) | some l => if chkP l = 0 ∧ sealL (prodsL l) = bs then (l, 0) else ([], 11) := by unfold loadP; rw [hop]; rfl
  have hob : Bytes op.1 ∧ op.1.length ≤ bs.length := by
    rw [← hop]; unfold openR
    split
    · exact ⟨fun x hx => by simp at hx, by simp⟩
    · split
      · exact ⟨fun x hx => hby x (List.mem_of_mem_take hx), by simp⟩
      · exact ⟨fun x hx => by simp at hx, by simp⟩
  rw [hop] at hrow1
  rw [hop]
  obtain ⟨xs, er⟩ := op
  dsimp only at hld hob hrow1 ⊢
  repeat (first | refine cg_seq ?_ | refine cg_region ?_ | refine rg_nil ?_ | refine eg_then ?_ | refine qsp ?_)
  cases q1 : (er != 0)
  case true =>
    repeat (first | refine cg_seq ?_ | refine cg_region ?_ | refine rg_nil ?_ | refine eg_then ?_ | refine qsp ?_ | refine cg_cond_true rfl ?_ | refine cg_ret ?_ | refine eg_then_ret ?_)
    refine eg_return2 rfl rfl rfl ?_
    rw [hld, if_pos (by simpa using q1)]
    exact ⟨_, rfl, own_nil _ _ _ _⟩
  rw [if_neg (by simpa using q1)] at hld
  obtain ⟨a2, c2, rfl, hs2⟩ := hrow1.sl hob.1
  repeat (first | refine cg_seq ?_ | refine cg_region ?_ | refine eg_then ?_ | refine qsp ?_ | refine cg_cond_false rfl ?_ | refine cg_skip ?_)
  refine rvn rfl rfl rfl rfl rfl rfl rfl (read_ctn hs2 (by omega)) ?_
  rintro N3 k3 v3 hN3 _ hle3 hV
  cases hr : readP xs with
  | none =>
    rw [hr] at hV hld
    unfold ReadV at hV
    subst hV
    repeat (first | refine cg_seq ?_ | refine cg_region ?_ | refine rg_nil ?_ | refine eg_then ?_ | refine qsp ?_ | refine cg_cond_true rfl ?_ | refine cg_ret ?_ | refine eg_then_ret ?_)
    refine eg_return2 rfl rfl rfl ?_
    rw [hld]
    exact ⟨_, rfl, own_nil _ _ _ _⟩
  | some l =>
  rw [hr] at hV hld
  obtain ⟨u, rfl, hown⟩ := hV
  dsimp only at hld
  obtain ⟨a4, c4, rfl, hs4⟩ := hown.sl
  repeat (first | refine cg_seq ?_ | refine cg_region ?_ | refine rg_nil ?_ | refine eg_then ?_ | refine qsp ?_ | refine cg_cond_false rfl ?_ | refine cg_skip ?_)
  refine rvn rfl rfl rfl rfl rfl rfl rfl (savePd_ctn hs4) ?_
  rintro N5 k5 v5 hN5 _ hle5 ⟨u5, rfl, hrow5⟩
  have hown5 := hown.le hle5
  unfold saveP at hrow5 ⊢
  by_cases q2 : chkP l = 0
  · rw [if_pos q2] at hrow5 ⊢
    obtain ⟨a6, c6, rfl, hs6⟩ := hrow5.sl (seal_bytes (prodsL_bytes l))
    have hs' := hs.le (hle1.trans (hle3.trans hle5))
    repeat (first | refine cg_seq ?_ | refine cg_region ?_ | refine rg_nil ?_ | refine eg_then ?_ | refine qsp ?_)
    refine rs rfl rfl (loc_call_is rfl rfl rfl rfl (equalB_ct hs6 hs')) ?_
    by_cases q3 : sealL (prodsL l) = bs
    · rw [decide_eq_true q3]
      repeat (first | refine cg_seq ?_ | refine cg_region ?_ | refine rg_nil ?_ | refine eg_then ?_ | refine qsp ?_ | refine cg_cond_false rfl ?_ | refine cg_skip ?_ | refine cg_ret ?_)
      refine eg_return2 rfl rfl rfl ?_
      rw [hld, if_pos ⟨q2, q3⟩]
      exact ⟨_, rfl, hown5.N_le (by omega)⟩
    · rw [decide_eq_false q3]
      repeat (first | refine cg_seq ?_ | refine cg_region ?_ | refine rg_nil ?_ | refine eg_then ?_ | refine qsp ?_ | refine cg_cond_true rfl ?_ | refine cg_ret ?_ | refine eg_then_ret ?_)
      refine eg_return2 rfl rfl rfl ?_
      rw [hld, if_neg (fun hc => q3 hc.2)]
      exact ⟨_, rfl, own_nil _ _ _ _⟩
  · rw [if_neg q2] at hrow5 ⊢
    dsimp only
    repeat (first | refine cg_seq ?_ | refine cg_region ?_ | refine rg_nil ?_ | refine eg_then ?_ | refine qsp ?_)
    rw [show (chkP l != 0) = true by simpa using q2]
    repeat (first | refine cg_seq ?_ | refine cg_region ?_ | refine rg_nil ?_ | refine eg_then ?_ | refine qsp ?_ | refine qso ?_ | refine cg_cond_true rfl ?_ | refine cg_ret ?_ | refine eg_then_ret ?_)
    refine eg_return2 rfl rfl rfl ?_
    rw [hld, if_neg (fun hc => q2 hc.1)]
    exact ⟨_, rfl, own_nil _ _ _ _⟩
end Go.Wm

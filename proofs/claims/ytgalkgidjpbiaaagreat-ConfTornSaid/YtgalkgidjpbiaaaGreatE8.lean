/-
  A step's body read, field by field, in plain Lean. Conditions: none.
-/
import Derived.Test.YtgalkgidjpbiaaaGreatE3
import Derived.Laws.BytesArg
import Derived.Test.YtgalkgidjpbiaaaGreatE2
set_option linter.all false
namespace Go.Wm
open Go.RowKit Go.Proofs
attribute [local irreducible] RG CG EG WA Loc Det Alc CT Exit.then Exit.inBlock Code.wp bodyPost
/-- What Open hands back. -/
def OpenV (bs : List Nat) (N : Nat) (k : PH) (v : Value) : Prop := ∃ u, v = .tuple #[u, .int .i64 (openR bs).2] ∧ BRow N k u (openR bs).1
theorem OpenV.mono {bs : List Nat} : ∀ N k k' v, Le k k' → OpenV bs N k v → OpenV bs N k' v := fun N k k' v hle ⟨u, e, h⟩ => ⟨u, e, h.le hle⟩
theorem openV_no {bs : List Nat} {N : Nat} {k : PH} {e : Int} (h : openR bs = ([], e)) : OpenV bs N k (.tuple #[.slice none 0 0, .int .i64 e]) := ⟨_, by rw [h], by rw [h]; exact row_nil _ _ _ _⟩
theorem openV_yes {bs : List Nat} {N : Nat} {k : PH} {u : Value} (h4 : ¬ bs.length < 4) (h : openedP bs = true) (hr : BRow N k u (bs.take (bs.length - 4))) : OpenV bs N k (.tuple #[u, .int .i64 0]) := by
  have e : openR bs = (bs.take (bs.length - 4), 0) := by unfold openR; rw [if_neg h4, if_pos h]
  exact ⟨u, by rw [e], by rw [e]; exact hr⟩
set_option maxHeartbeats 1000000 in
theorem open_ctn {k : PH} {a : Option Addr} {c : Nat} {bs : List Nat} (h : Sl tU8 k a c bs) (hl : bs.length ≤ 100000000) :
    CTN Tryz.prog 50 #[.slice a bs.length c] k (OpenV bs) := by
  refine ctn_of_body (l := [_]) Tryz.func50 rfl Tryz.ntmps50 (by simp) OpenV.mono fun F hF0 hFm => ?_
  have hby := sl_bytes h
  repeat (first | refine cg_seq ?_ | refine cg_region ?_ | refine rg_nil ?_ | refine eg_then ?_ | refine qsp ?_ | refine qsn ?_ | refine qss ?_)
  cases q : decide ((bs.length : Int) - 4 < 0)
  case true =>
    have := of_decide_eq_true q
    repeat (first | refine cg_seq ?_ | refine cg_region ?_ | refine rg_nil ?_ | refine eg_then ?_ | refine qsp ?_ | refine cg_cond_true rfl ?_ | refine cg_ret ?_ | refine eg_then_ret ?_)
    refine eg_return2 rfl rfl rfl (openV_no ?_)
    unfold openR; rw [if_pos (by omega)]
  have h4 := of_decide_eq_false q
  obtain ⟨m, hm⟩ : ∃ m, bs.length - 4 = m := ⟨_, rfl⟩
  have hmi : (bs.length : Int) - 4 = (m : Int) := by omega
  have hn4 : ¬ bs.length < 4 := by omega
  rw [hmi]
  repeat (first | refine cg_seq ?_ | refine cg_region ?_ | refine eg_then ?_ | refine qsp ?_ | refine cg_cond_false rfl ?_ | refine cg_skip ?_)
  refine rs rfl rfl (loc_call_is rfl rfl rfl rfl (get_ct (w := 4) h (by unfold I64; omega) (by omega) (by omega) hl)) ?_
  have hg : getR bs (m : Int) 4 = (fromL (bs.drop m), 0) := by
    unfold getR; rw [if_neg (by omega), if_neg (by rw [Int.toNat_natCast]; omega), Int.toNat_natCast, List.take_of_length_le (by rw [List.length_drop]; omega)]
  rw [hg]
  repeat (first | refine cg_seq ?_ | refine cg_region ?_ | refine rg_nil ?_ | refine eg_then ?_ | refine qsp ?_)
  refine rs rfl rfl (loc_det rfl (d_pre h rfl rfl rfl (by omega))) ?_
  have hpre := h.take m
  have hps := sumL_lt (sl_bytes hpre)
  refine rs rfl rfl (loc_call_is rfl rfl rfl rfl (sum_ct hpre)) ?_
  refine rs rfl rfl (loc_det rfl (d_conv rfl rfl)) ?_
  rw [wrap64 (by omega)]
  refine rs rfl rfl (loc_det rfl (d_cmp rfl rfl rfl rfl)) ?_
  repeat (first | refine rg_nil ?_ | refine eg_then ?_ | refine qsp ?_)
  have ho : openedP bs = decide (fromL (bs.drop m) = sumL (bs.take m)) := by unfold openedP; rw [hm]
  cases q2 : (((fromL (bs.drop m) : Nat) : Int) != ((sumL (bs.take m) : Nat) : Int))
  · repeat (first | refine cg_seq ?_ | refine cg_region ?_ | refine eg_then ?_ | refine qsp ?_ | refine cg_cond_false rfl ?_ | refine cg_skip ?_)
    refine rs rfl rfl (loc_det rfl (d_pre h rfl rfl rfl (by omega))) ?_
    refine rapsB (bs := []) rfl rfl rfl rfl rfl rfl rfl (row_nil _ _ _ _) hpre (Le.refl _) (by simp; omega) ?_
    intro v1 k1 hrow1 ht1
    rw [List.nil_append] at hrow1
    repeat (first | refine rg_nil ?_ | refine eg_then ?_ | refine qsp ?_ | refine cg_ret ?_)
    refine eg_return2 rfl rfl rfl (openV_yes hn4 ?_ (by rw [hm]; exact hrow1))
    rw [ho]; simp at q2; simp; omega
  · repeat (first | refine cg_seq ?_ | refine cg_region ?_ | refine rg_nil ?_ | refine eg_then ?_ | refine qsp ?_ | refine cg_cond_true rfl ?_ | refine cg_ret ?_ | refine eg_then_ret ?_)
    refine eg_return2 rfl rfl rfl (openV_no ?_)
    unfold openR; rw [if_neg hn4, if_neg]
    rw [ho]; simp at q2; simp; omega
end Go.Wm
namespace Go.Wm
open Go.RowKit Go.Proofs
section
variable {P : Program} {o : Oper} {e : Env} {k : PH}
/-- A text out of bytes. -/
theorem d_bstr {src dst et : TypeId} {x : Operand} {a : Option Addr} {c : Nat} {bs : List Nat} [hs : TyU P src (.slice et)] [he : TyU P et (.int .u8)] [hd : TyU P dst .string] (h : Sl tU8 k a c bs) (hop : o.op = .convert src dst x) (hx : opv e x = some (.slice a bs.length c)) : Det P e k o (.string (strOf bs)) := by
  intro ev w hev hsub
  rw [hop] at hev
  have e1 := hev x (by simp [Op.operands]) _ hx
  have key : (convert src dst (.slice a bs.length c)).run P w = .ok (.string (strOf bs)) w := by
    cases bs with
    | nil =>
      cases a with
      | none =>
        rw [List.length_nil, run_convert_bytes_nil w src et hs.eq he.eq 0 c dst hd.eq]
        rfl
      | some ad =>
        rw [List.length_nil, run_convert_bytes_string w src dst et _ 0 c hs.eq he.eq hd.eq]
        simp [Conv.bytesToString, loadCells, loadCellsFrom, Sem.run_pure]
        rfl
    | cons b bs =>
      obtain ⟨bx, ox, _, rfl, _⟩ := h.el 0 b rfl
      have h2 := run_convert_bytes_arg (P := P) w src et hs.eq he.eq bx ox (b :: bs).length c ((b :: bs).map fun x => ((x : Nat) : Int)) (by simp) (fun i hi => by
        obtain ⟨b', o', c', hb', ⟨rfl, _⟩, hc'⟩ := h.el i (b :: bs)[i] (List.getElem?_eq_getElem hi)
        cases hb'
        have := hc'.cell hsub (i := 0) rfl
        rw [show ox + i * tU8.sz + 0 = ox + i by show ox + i * 1 + 0 = ox + i; omega] at this
        rw [this, List.getD_eq_getElem?_getD, List.getElem?_map, List.getElem?_eq_getElem hi]
        rfl) dst hd.eq
      rw [h2]
      unfold strOfNums strOf
      rw [List.map_map]
      rfl
  simp [execOp, hop, e1, key]
end
attribute [local irreducible] RG CG EG WA Loc Det Alc CT Exit.then Exit.inBlock Code.wp bodyPost
def textV (q : ByteArray × Int × Int) : Value := .tuple #[.string q.1, .int .i64 q.2.1, .int .i64 q.2.2]
set_option maxHeartbeats 1000000 in
theorem getText_ct {k : PH} {a : Option Addr} {c : Nat} {bs : List Nat} {p : Int} (h : Sl tU8 k a c bs) (hp : I64 p) (hl : bs.length ≤ 100000000) :
    CT Tryz.prog 107 #[.slice a bs.length c, .int .i64 p, .int .i64 64] k (fun _ r => r = textV (getTextR bs p 64)) := by
  refine ct_of_body (l := [_, _, _]) Tryz.func107 rfl Tryz.ntmps107 (by simp) (fun _ _ _ _ h => h) fun F hF0 hFm => ?_
  have b1 := h.cap; have b2 := h.max; unfold maxLen at b2
  repeat (first | refine cg_seq ?_ | refine cg_region ?_ | refine rg_nil ?_ | refine eg_then ?_ | refine qsp ?_)
  refine rs rfl rfl (loc_call_is rfl rfl rfl rfl (getVar_ct h hp hl)) ?_
  have hle : (getVarR bs p).2.2 = 0 → 0 ≤ p ∧ p < (getVarR bs p).2.1 ∧ (getVarR bs p).2.1 ≤ bs.length := getVarR_le
  unfold getTextR
  generalize getVarR bs p = q at hle ⊢
  obtain ⟨n, next, er⟩ := q
  dsimp only at hle
  unfold varV textQ
  dsimp only
  repeat (first | refine cg_seq ?_ | refine cg_region ?_ | refine rg_nil ?_ | refine eg_then ?_ | refine qsp ?_ | refine cg_block ?_)
  cases q1 : (er != 0)
  case true =>
    have h1 : er ≠ 0 := by simpa using q1
    repeat (first | refine cg_seq ?_ | refine cg_region ?_ | refine rg_nil ?_ | refine eg_then ?_ | refine qsp ?_ | refine cg_cond_true rfl ?_ | refine cg_ret ?_ | refine eg_then_ret ?_ | refine eg_in_ret ?_)
    refine eg_return3 rfl rfl rfl rfl ?_
    rw [if_pos h1]; rfl
  have h1 : er = 0 := by simpa using q1
  subst h1
  obtain ⟨l1, l2, l3⟩ := hle rfl
  rw [if_neg (by simp)]
  repeat (first | refine cg_seq ?_ | refine cg_region ?_ | refine rg_nil ?_ | refine eg_then ?_ | refine qsp ?_ | refine cg_cond_false rfl ?_)
  cases q2 : decide (n < 0)
  case true =>
    repeat (first | refine cg_seq ?_ | refine cg_region ?_ | refine rg_nil ?_ | refine eg_then ?_ | refine qsp ?_ | refine cg_cond_true rfl ?_ | refine cg_ret ?_ | refine eg_then_ret ?_ | refine eg_in_ret ?_)
    refine eg_return3 rfl rfl rfl rfl ?_
    rw [if_pos (of_decide_eq_true q2)]; rfl
  have h2 := of_decide_eq_false q2
  rw [if_neg h2]
  repeat (first | refine cg_seq ?_ | refine cg_region ?_ | refine rg_nil ?_ | refine eg_then ?_ | refine qsp ?_ | refine cg_cond_false rfl ?_)
  cases q3 : decide (n > 64)
  case true =>
    repeat (first | refine cg_seq ?_ | refine cg_region ?_ | refine rg_nil ?_ | refine eg_then ?_ | refine qsp ?_ | refine cg_cond_true rfl ?_ | refine cg_ret ?_ | refine eg_then_ret ?_ | refine eg_in_ret ?_)
    refine eg_return3 rfl rfl rfl rfl ?_
    rw [if_pos (of_decide_eq_true q3)]; rfl
  have h3 := of_decide_eq_false q3
  rw [if_neg (by omega)]
  repeat (first | refine cg_seq ?_ | refine cg_region ?_ | refine rg_nil ?_ | refine eg_then ?_ | refine qsp ?_ | refine qsn ?_ | refine qss ?_ | refine cg_cond_false rfl ?_)
  cases q4 : decide (n > (bs.length : Int) - next)
  case true =>
    repeat (first | refine cg_seq ?_ | refine cg_region ?_ | refine rg_nil ?_ | refine eg_then ?_ | refine qsp ?_ | refine cg_cond_true rfl ?_ | refine cg_ret ?_ | refine eg_then_ret ?_ | refine eg_in_ret ?_)
    refine eg_return3 rfl rfl rfl rfl ?_
    rw [if_pos (of_decide_eq_true q4)]; rfl
  have h4 := of_decide_eq_false q4
  repeat (first | refine cg_seq ?_ | refine cg_region ?_ | refine eg_then ?_ | refine qsp ?_ | refine qsa ?_ | refine cg_cond_false rfl ?_ | refine cg_skip ?_ | refine eg_in_normal ?_)
  obtain ⟨nn, rfl⟩ : ∃ m : Nat, n = (m : Int) := ⟨n.toNat, by omega⟩
  obtain ⟨nx, rfl⟩ : ∃ m : Nat, next = (m : Int) := ⟨next.toNat, by omega⟩
  rw [if_neg (by omega), Int.toNat_natCast, Int.toNat_natCast]
  skip
  rw [show (nx : Int) + (nn : Int) = ((nx + nn : Nat) : Int) by omega]
  refine rs rfl rfl (loc_det rfl (d_mid h rfl rfl rfl rfl (by omega) (by omega))) ?_
  have hmid := (h.take (nx + nn)).drop (i := nx) (by rw [List.length_take]; omega)
  have hel : (bs.take (nx + nn)).drop nx = (bs.drop nx).take nn := by rw [List.drop_take]; congr 1; omega
  rw [hel] at hmid ⊢
  refine rs rfl rfl (loc_det rfl (d_bstr hmid rfl rfl)) ?_
  repeat (first | refine rg_nil ?_ | refine eg_then ?_ | refine qsp ?_ | refine qsa ?_ | refine cg_ret ?_)
  refine eg_return3 rfl rfl rfl rfl ?_
  rfl
end Go.Wm
namespace Go.Wm
theorem varR_lt : ∀ (l : List Nat) (i z : Nat), Bytes l → i ≤ 9 → z < 128 ^ i → (varR i z l).2 = 0 → (varR i z l).1.1 < 18446744073709551616 := by
  intro l
  induction l with
  | nil => intro i z _ _ _ h; simp [varR] at h
  | cons x r ih =>
    intro i z hb hi hz h
    have hx := hb x (by simp)
    rw [varR_cons] at h ⊢
    by_cases h1 : (i = 9 ∧ 1 < x) ∨ (0 < i ∧ x = 0)
    · rw [if_pos h1] at h; simp at h
    rw [if_neg h1] at h ⊢
    by_cases h2 : x < 128
    · rw [if_pos h2]
      dsimp only
      by_cases h9 : i = 9
      · have hpl := pow128_le hi
        have : x ≤ 1 := by omega
        have : x * 128 ^ i ≤ 1 * 128 ^ i := Nat.mul_le_mul_right _ this
        omega
      · have e1 := var_next hz h2
        have e2 := pow128_le (i := i + 1) (by omega)
        omega
    · rw [if_neg h2] at h ⊢
      have h9 : i ≠ 9 := fun h9 => h1 (.inl ⟨h9, by omega⟩)
      exact ih _ _ (fun y hy => hb y (by simp [hy])) (by omega) (var_next hz (by omega)) h
theorem getVarR_i64 {b : List Nat} {p : Int} (hb : Bytes b) : I64 (getVarR b p).1 := by
  unfold getVarR
  split
  · exact ⟨by dsimp only; decide, by dsimp only; decide⟩
  split
  · rename_i h
    have := varR_lt (b.drop p.toNat) 0 0 (fun x hx => hb x (List.mem_of_mem_drop hx)) (by omega) (by decide) h
    unfold unzig I64
    dsimp only
    split <;> omega
  · exact ⟨by dsimp only; decide, by dsimp only; decide⟩
theorem getVarR_next {b : List Nat} {p : Int} (hl : b.length ≤ 100000000) : I64 (getVarR b p).2.1 := by
  by_cases h : (getVarR b p).2.2 = 0
  · have := getVarR_le h; unfold I64; omega
  · have : (getVarR b p).2.1 = 0 := by
      unfold getVarR at h ⊢
      split
      · rfl
      · rename_i h1
        rw [if_neg h1] at h
        split
        · rename_i h2; rw [if_pos h2] at h; exact absurd rfl h
        · rfl
    rw [this]; exact ⟨by decide, by decide⟩
theorem strOf_size (bs : List Nat) : (strOf bs).size = bs.length := by simp [strOf, ByteArray.size]
theorem getTextR_size {b : List Nat} {p : Int} : (getTextR b p 64).1.size ≤ 64 := by
  unfold getTextR textQ
  split
  · simp [ByteArray.size]
  split
  · simp [ByteArray.size]
  split
  · simp [ByteArray.size]
  split
  · simp [ByteArray.size]
  · rw [strOf_size, List.length_take]; omega
theorem getTextR_next {b : List Nat} {p : Int} (hl : b.length ≤ 100000000) : I64 (getTextR b p 64).2.1 := by
  by_cases h : (getTextR b p 64).2.2 = 0
  · have := getTextR_le h; unfold I64; omega
  · have : (getTextR b p 64).2.1 = 0 := by
      unfold getTextR textQ at h ⊢
      split
      · rfl
      rename_i h1
      rw [if_neg h1] at h
      split
      · rfl
      rename_i h2
      rw [if_neg h2] at h
      split
      · rfl
      rename_i h3
      rw [if_neg h3] at h
      split
      · rfl
      rename_i h4
      rw [if_neg h4] at h
      exact absurd rfl h
    rw [this]; exact ⟨by decide, by decide⟩
abbrev RdS : Type := Step × Int × Int
def rd0 (b : List Nat) : RdS := (⟨((getR b 0 1).1 : Nat), ⟨#[]⟩, ⟨#[]⟩, 0, 0, 0⟩, 1, (getR b 0 1).2)
def rdN (b : List Nat) (x : RdS) : RdS := if x.2.2 = 0 then ({ x.1 with name := (getTextR b x.2.1 64).1 }, (getTextR b x.2.1 64).2.1, (getTextR b x.2.1 64).2.2) else x
def rdT (b : List Nat) (x : RdS) : RdS := if x.2.2 = 0 then ({ x.1 with topic := (getTextR b x.2.1 64).1 }, (getTextR b x.2.1 64).2.1, (getTextR b x.2.1 64).2.2) else x
def rdA (b : List Nat) (x : RdS) : RdS := if x.2.2 = 0 then ({ x.1 with a := (getVarR b x.2.1).1 }, (getVarR b x.2.1).2.1, (getVarR b x.2.1).2.2) else x
def rdB (b : List Nat) (x : RdS) : RdS := if x.2.2 = 0 then ({ x.1 with b := (getVarR b x.2.1).1 }, (getVarR b x.2.1).2.1, (getVarR b x.2.1).2.2) else x
def rdC (b : List Nat) (x : RdS) : RdS := if x.2.2 = 0 then ({ x.1 with c := (getVarR b x.2.1).1 }, (getVarR b x.2.1).2.1, (getVarR b x.2.1).2.2) else x
def rdAll (b : List Nat) : RdS := rdC b (rdB b (rdA b (rdT b (rdN b (rd0 b)))))
theorem rdN_err {b : List Nat} {x : RdS} (h : x.2.2 ≠ 0) : rdN b x = x := if_neg h
theorem rdT_err {b : List Nat} {x : RdS} (h : x.2.2 ≠ 0) : rdT b x = x := if_neg h
theorem rdA_err {b : List Nat} {x : RdS} (h : x.2.2 ≠ 0) : rdA b x = x := if_neg h
theorem rdB_err {b : List Nat} {x : RdS} (h : x.2.2 ≠ 0) : rdB b x = x := if_neg h
theorem rdC_err {b : List Nat} {x : RdS} (h : x.2.2 ≠ 0) : rdC b x = x := if_neg h
theorem readS_all (b : List Nat) : readS b = if (rdAll b).2.2 = 0 ∧ (rdAll b).2.1 = b.length then some (rdAll b).1 else none := by
  unfold readS parseS
  by_cases h1 : (getR b 0 1).2 = 0
  case neg =>
    rw [if_neg (fun h => h1 h.1)]
    have : (rdAll b).2.2 = (getR b 0 1).2 := by
      have h1 : (rd0 b).2.2 ≠ 0 := h1
      unfold rdAll; rw [rdN_err h1, rdT_err h1, rdA_err h1, rdB_err h1, rdC_err h1]; rfl
    rw [if_neg (fun h => h1 (by rw [← this]; exact h.1))]
  have e1 : rdN b (rd0 b) = ({ (rd0 b).1 with name := (getTextR b 1 64).1 }, (getTextR b 1 64).2.1, (getTextR b 1 64).2.2) := by unfold rdN rd0; dsimp only; rw [if_pos h1]
  by_cases h2 : (getTextR b 1 64).2.2 = 0
  case neg =>
    rw [if_neg (fun h => h2 h.2.1)]
    have : (rdAll b).2.2 = (getTextR b 1 64).2.2 := by
      unfold rdAll; rw [e1, rdT_err (by exact h2), rdA_err (by exact h2), rdB_err (by exact h2), rdC_err (by exact h2)]
    rw [if_neg (fun h => h2 (by rw [← this]; exact h.1))]
  generalize hq1 : getTextR b 1 64 = q1 at *
  have e2 : rdT b (rdN b (rd0 b)) = ({ (rd0 b).1 with name := q1.1, topic := (getTextR b q1.2.1 64).1 }, (getTextR b q1.2.1 64).2.1, (getTextR b q1.2.1 64).2.2) := by rw [e1]; unfold rdT; dsimp only; rw [if_pos h2]
  by_cases h3 : (getTextR b q1.2.1 64).2.2 = 0
  case neg =>
    rw [if_neg (fun h => h3 h.2.2.1)]
    have : (rdAll b).2.2 = (getTextR b q1.2.1 64).2.2 := by
      unfold rdAll; rw [e2, rdA_err (by exact h3), rdB_err (by exact h3), rdC_err (by exact h3)]
    rw [if_neg (fun h => h3 (by rw [← this]; exact h.1))]
  generalize hq2 : getTextR b q1.2.1 64 = q2 at *
  have e3 : rdA b (rdT b (rdN b (rd0 b))) = ({ (rd0 b).1 with name := q1.1, topic := q2.1, a := (getVarR b q2.2.1).1 }, (getVarR b q2.2.1).2.1, (getVarR b q2.2.1).2.2) := by rw [e2]; unfold rdA; dsimp only; rw [if_pos h3]
  by_cases h4 : (getVarR b q2.2.1).2.2 = 0
  case neg =>
    rw [if_neg (fun h => h4 h.2.2.2.1)]
    have : (rdAll b).2.2 = (getVarR b q2.2.1).2.2 := by
      unfold rdAll; rw [e3, rdB_err (by exact h4), rdC_err (by exact h4)]
    rw [if_neg (fun h => h4 (by rw [← this]; exact h.1))]
  generalize hq3 : getVarR b q2.2.1 = q3 at *
  have e4 : rdB b (rdA b (rdT b (rdN b (rd0 b)))) = ({ (rd0 b).1 with name := q1.1, topic := q2.1, a := q3.1, b := (getVarR b q3.2.1).1 }, (getVarR b q3.2.1).2.1, (getVarR b q3.2.1).2.2) := by rw [e3]; unfold rdB; dsimp only; rw [if_pos h4]
  by_cases h5 : (getVarR b q3.2.1).2.2 = 0
  case neg =>
    rw [if_neg (fun h => h5 h.2.2.2.2.1)]
    have : (rdAll b).2.2 = (getVarR b q3.2.1).2.2 := by
      unfold rdAll; rw [e4, rdC_err (by exact h5)]
    rw [if_neg (fun h => h5 (by rw [← this]; exact h.1))]
  generalize hq4 : getVarR b q3.2.1 = q4 at *
  have e5 : rdAll b = ({ (rd0 b).1 with name := q1.1, topic := q2.1, a := q3.1, b := q4.1, c := (getVarR b q4.2.1).1 }, (getVarR b q4.2.1).2.1, (getVarR b q4.2.1).2.2) := by unfold rdAll; rw [e4]; unfold rdC; dsimp only; rw [if_pos h5]
  by_cases h6 : (getVarR b q4.2.1).2.2 = 0
  case neg =>
    rw [if_neg (fun h => h6 h.2.2.2.2.2)]
    rw [if_neg (fun h => h6 (by rw [e5] at h; exact h.1))]
  rw [if_pos ⟨h1, h2, h3, h4, h5, h6⟩, e5]
  dsimp only [rd0]
  by_cases h7 : (getVarR b q4.2.1).2.1 = b.length
  · rw [if_pos h7, if_pos ⟨h6, h7⟩]
  · rw [if_neg h7, if_neg (fun h => h7 h.2)]
/-- What is read so far may be. -/
def RdOk (x : RdS) : Prop := x.1.ok ∧ I64 x.2.1
theorem small_max {n : Nat} (h : n ≤ 64) : n ≤ maxLen := by unfold maxLen; omega
theorem i64_zero : I64 0 := ⟨by decide, by decide⟩
theorem i64_one : I64 1 := ⟨by decide, by decide⟩
theorem rd0_ok {b : List Nat} (hb : Bytes b) : RdOk (rd0 b) := by
  refine ⟨⟨?_, small_max (by simp [rd0, ByteArray.size]), small_max (by simp [rd0, ByteArray.size]), i64_zero, i64_zero, i64_zero⟩, i64_one⟩
  show I64 (((getR b 0 1).1 : Nat) : Int)
  unfold getR
  split
  · exact i64_zero
  split
  · exact i64_zero
  · have := fromL_lt ((b.drop (0 : Int).toNat).take 1) fun x hx => hb x (List.mem_of_mem_drop (List.mem_of_mem_take hx))
    have h2 : 256 ^ ((b.drop (0 : Int).toNat).take 1).length ≤ 256 ^ 1 := Nat.pow_le_pow_right (by decide) (by rw [List.length_take]; omega)
    unfold I64; dsimp only; omega
theorem rdN_ok {b : List Nat} {x : RdS} (hl : b.length ≤ 100000000) (h : RdOk x) : RdOk (rdN b x) := by
  unfold rdN; split
  · exact ⟨⟨h.1.1, small_max getTextR_size, h.1.2.2.1, h.1.2.2.2⟩, getTextR_next hl⟩
  · exact h
theorem rdT_ok {b : List Nat} {x : RdS} (hl : b.length ≤ 100000000) (h : RdOk x) : RdOk (rdT b x) := by
  unfold rdT; split
  · exact ⟨⟨h.1.1, h.1.2.1, small_max getTextR_size, h.1.2.2.2⟩, getTextR_next hl⟩
  · exact h
theorem rdA_ok {b : List Nat} {x : RdS} (hb : Bytes b) (hl : b.length ≤ 100000000) (h : RdOk x) : RdOk (rdA b x) := by
  unfold rdA; split
  · exact ⟨⟨h.1.1, h.1.2.1, h.1.2.2.1, getVarR_i64 hb, h.1.2.2.2.2⟩, getVarR_next hl⟩
  · exact h
theorem rdB_ok {b : List Nat} {x : RdS} (hb : Bytes b) (hl : b.length ≤ 100000000) (h : RdOk x) : RdOk (rdB b x) := by
  unfold rdB; split
  · exact ⟨⟨h.1.1, h.1.2.1, h.1.2.2.1, h.1.2.2.2.1, getVarR_i64 hb, h.1.2.2.2.2.2⟩, getVarR_next hl⟩
  · exact h
theorem rdC_ok {b : List Nat} {x : RdS} (hb : Bytes b) (hl : b.length ≤ 100000000) (h : RdOk x) : RdOk (rdC b x) := by
  unfold rdC; split
  · exact ⟨⟨h.1.1, h.1.2.1, h.1.2.2.1, h.1.2.2.2.1, h.1.2.2.2.2.1, getVarR_i64 hb⟩, getVarR_next hl⟩
  · exact h
def tS (b : List Nat) : Nat → RdS
  | 0 => rd0 b
  | 1 => rdN b (rd0 b)
  | _ => rdT b (rdN b (rd0 b))
def vS (b : List Nat) : Nat → RdS
  | 0 => tS b 2
  | 1 => rdA b (tS b 2)
  | 2 => rdB b (rdA b (tS b 2))
  | _ => rdAll b
theorem tS_ok {b : List Nat} (hb : Bytes b) (hl : b.length ≤ 100000000) : ∀ i, RdOk (tS b i)
  | 0 => rd0_ok hb
  | 1 => rdN_ok hl (rd0_ok hb)
  | _ + 2 => rdT_ok hl (rdN_ok hl (rd0_ok hb))
theorem vS_ok {b : List Nat} (hb : Bytes b) (hl : b.length ≤ 100000000) : ∀ i, RdOk (vS b i)
  | 0 => tS_ok hb hl 2
  | 1 => rdA_ok hb hl (tS_ok hb hl 2)
  | 2 => rdB_ok hb hl (rdA_ok hb hl (tS_ok hb hl 2))
  | _ + 3 => rdC_ok hb hl (rdB_ok hb hl (rdA_ok hb hl (tS_ok hb hl 2)))
end Go.Wm

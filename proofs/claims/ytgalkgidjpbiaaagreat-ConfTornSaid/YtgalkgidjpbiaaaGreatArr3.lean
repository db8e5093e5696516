/-
  Arrays of two or three one-celled values: literals, and one of them. Conditions: those of each law.
-/
import Derived.Test.YtgalkgidjpbiaaaGreatB4
import Derived.Test.YtgalkgidjpbiaaaGreatCoB
import Derived.Test.YtgalkgidjpbiaaaGreatCrP
set_option linter.all false
namespace Go.Wm
open Go.RowKit Go.Proofs
attribute [local irreducible] RG CG EG WA Loc Det Alc CT Exit.then Exit.inBlock Code.wp bodyPost
set_option maxHeartbeats 1000000 in
theorem put1_ct {k : PH} {a : Option Addr} {c : Nat} {bs : List Nat} {n : Nat} (h : Sl tU8 k a c bs) (hb : bs.length ≤ 100000000) (hn : n < 18446744073709551616) :
    CTN Tryz.prog 39 #[.slice a bs.length c, .int .u64 (n : Int), .int .i64 1] k (fun N k' v => BRow N k' v (bs ++ bigL n 1 1)) := by
  refine ctn_of_body (l := [_, _, _]) Tryz.func39 rfl Tryz.ntmps39 (by simp) (fun N k k' v hle h => h.le hle) fun F hF0 hFm => ?_
  repeat (first | refine cg_seq ?_ | refine cg_region ?_ | refine rg_nil ?_ | refine eg_then ?_ | refine qsp ?_ | refine qsn ?_ | refine qsa ?_ | refine qss ?_ | refine qsi ?_ | refine qsz ?_ | refine qsl ?_ | refine qsg ?_ | refine qsf ?_ | refine qsd ?_ | refine qsE ?_ | refine qsX ?_ | refine qse ?_ | refine qsx ?_ | refine qso ?_ | refine cg_cond_true rfl ?_ | refine cg_cond_false rfl ?_ | refine cg_skip ?_ | refine cg_block ?_ | refine eg_in_normal ?_ | refine cg_ret ?_ | refine eg_then_ret ?_ | refine eg_in_ret ?_ | refine cg_exit ?_ | refine eg_then_exit ?_ | refine eg_in_exit ?_ | refine eg_in_other rfl ?_)
  refine rvn rfl rfl rfl rfl rfl rfl rfl (cloneU8_ct h (by omega)) ?_
  rintro N1 k1 v1 hN hf1 hle1 hrow1
  repeat (first | refine cg_seq ?_ | refine cg_region ?_ | refine rg_nil ?_ | refine eg_then ?_ | refine qsp ?_ | refine qsn ?_ | refine qsa ?_ | refine qss ?_ | refine qsi ?_ | refine qsz ?_ | refine qsl ?_ | refine qsg ?_ | refine qsf ?_ | refine qsd ?_ | refine qsE ?_ | refine qsX ?_ | refine qse ?_ | refine qsx ?_ | refine qso ?_ | refine cg_cond_true rfl ?_ | refine cg_cond_false rfl ?_ | refine cg_skip ?_ | refine cg_block ?_ | refine eg_in_normal ?_ | refine cg_ret ?_ | refine eg_then_ret ?_ | refine eg_in_ret ?_ | refine cg_exit ?_ | refine eg_then_exit ?_ | refine eg_in_exit ?_ | refine eg_in_other rfl ?_)
  refine rs rfl rfl (loc_det rfl (d_mulk rfl rfl rfl)) ?_
  repeat (first | refine cg_seq ?_ | refine cg_region ?_ | refine rg_nil ?_ | refine eg_then ?_ | refine qsp ?_ | refine qsn ?_ | refine qsa ?_ | refine qss ?_ | refine qsi ?_ | refine qsz ?_ | refine qsl ?_ | refine qsg ?_ | refine qsf ?_ | refine qsd ?_ | refine qsE ?_ | refine qsX ?_ | refine qse ?_ | refine qsx ?_ | refine qso ?_ | refine cg_cond_true rfl ?_ | refine cg_cond_false rfl ?_ | refine cg_skip ?_ | refine cg_block ?_ | refine eg_in_normal ?_ | refine cg_ret ?_ | refine eg_then_ret ?_ | refine eg_in_ret ?_ | refine cg_exit ?_ | refine eg_then_exit ?_ | refine eg_in_exit ?_ | refine eg_in_other rfl ?_)
  refine cg_loop (fun (i : Nat) e k' => ∃ v, Le k k' ∧ BRow F.w0.heap.size k' v (bs ++ bigL n 1 i) ∧ Apart k v ∧ i ≤ 1 ∧ e = [(1, .is (.int .u64 (n : Int))), (7, .is v), (8, .is (.int .i64 (0 - 8 * (i : Int))))])
    (fun i => 1 - i) 0 ⟨v1, hle1, by simpa [bigL] using hrow1.N_le hN, hrow1.apart hf1, by omega, rfl⟩ ⟨rfl, rfl, by rfl, trivial⟩ ?_
  rintro i e k2 ⟨v, hle, hrow, hap, hi, rfl⟩
  repeat (first | refine cg_seq ?_ | refine cg_region ?_ | refine rg_nil ?_ | refine eg_then ?_ | refine qsp ?_ | refine qsn ?_ | refine qsa ?_ | refine qss ?_ | refine qsi ?_ | refine qsz ?_ | refine qsl ?_ | refine qsg ?_ | refine qsf ?_ | refine qsd ?_ | refine qsE ?_ | refine qsX ?_ | refine qse ?_ | refine qsx ?_ | refine qso ?_ | refine cg_cond_true rfl ?_ | refine cg_cond_false rfl ?_ | refine cg_skip ?_ | refine cg_block ?_ | refine eg_in_normal ?_ | refine cg_ret ?_ | refine eg_then_ret ?_ | refine eg_in_ret ?_ | refine cg_exit ?_ | refine eg_then_exit ?_ | refine eg_in_exit ?_ | refine eg_in_other rfl ?_)
  refine cg_cond rfl (fun h => ?_) (fun h => ?_)
  · have hlt : i < 1 := by simp at h; omega
    repeat (first | refine cg_seq ?_ | refine cg_region ?_ | refine rg_nil ?_ | refine eg_then ?_ | refine qsp ?_ | refine qsn ?_ | refine qsa ?_ | refine qss ?_ | refine qsi ?_ | refine qsz ?_ | refine qsl ?_ | refine qsg ?_ | refine qsf ?_ | refine qsd ?_ | refine qsE ?_ | refine qsX ?_ | refine qse ?_ | refine qsx ?_ | refine qso ?_ | refine cg_cond_true rfl ?_ | refine cg_cond_false rfl ?_ | refine cg_skip ?_ | refine cg_block ?_ | refine eg_in_normal ?_ | refine cg_ret ?_ | refine eg_then_ret ?_ | refine eg_in_ret ?_ | refine cg_exit ?_ | refine eg_then_exit ?_ | refine eg_in_exit ?_ | refine eg_in_other rfl ?_)
    rw [show (0 - 8 * (i : Int)) = ((8 * (1 - 1 - i) : Nat) : Int) by omega]
    refine rs rfl rfl (loc_det rfl (d_shrN rfl rfl rfl (show 8 * (1 - 1 - i) ≤ 64 by omega))) ?_
    rw [pow256]
    refine rs rfl rfl (loc_det rfl (d_conv rfl rfl)) ?_
    rw [wrap8]
    refine rb rfl rfl rfl rfl (a_slice rfl rfl rfl rfl (by kernel_rfl) rfl) ?_; intro b3 k3' hb3 hN3 hle3 hk3
    have c3 := cells_at (vs := [Value.int .u8 ((n / 256 ^ (1 - 1 - i) % 256 : Nat) : Int)]) hk3 rfl
    refine rapB rfl rfl rfl rfl rfl rfl rfl (hrow.le hle3) c3 (by rw [List.length_append, bigL_len]; omega) ?_
    intro v4 k4 hrow4 ht4
    obtain ⟨hle4, hap4⟩ := ht4 k (hle.trans hle3) hap
    repeat (first | refine cg_seq ?_ | refine cg_region ?_ | refine rg_nil ?_ | refine eg_then ?_ | refine qsp ?_ | refine qsn ?_ | refine qsa ?_ | refine qss ?_ | refine qsi ?_ | refine qsz ?_ | refine qsl ?_ | refine qsg ?_ | refine qsf ?_ | refine qsd ?_ | refine qsE ?_ | refine qsX ?_ | refine qse ?_ | refine qsx ?_ | refine qso ?_ | refine cg_cond_true rfl ?_ | refine cg_cond_false rfl ?_ | refine cg_skip ?_ | refine cg_block ?_ | refine eg_in_normal ?_ | refine cg_ret ?_ | refine eg_then_ret ?_ | refine eg_in_ret ?_ | refine cg_exit ?_ | refine eg_then_exit ?_ | refine eg_in_exit ?_ | refine eg_in_other rfl ?_)
    refine eg_again (i + 1) _ ⟨v4, hle4, ?_, hap4, by omega, rfl⟩ (by omega) ⟨rfl, rfl, ?_, trivial⟩
    · rw [bigL_succ, ← List.append_assoc]
      exact hrow4
    · rw [show (0 - 8 * ((i + 1 : Nat) : Int)) = ((8 * (1 - 1 - i) : Nat) : Int) - 8 by omega]
      rfl
  · have hil : i = 1 := by simp at h; omega
    subst hil
    repeat (first | refine cg_seq ?_ | refine cg_region ?_ | refine rg_nil ?_ | refine eg_then ?_ | refine qsp ?_ | refine qsn ?_ | refine qsa ?_ | refine qss ?_ | refine qsi ?_ | refine qsz ?_ | refine qsl ?_ | refine qsg ?_ | refine qsf ?_ | refine qsd ?_ | refine qsE ?_ | refine qsX ?_ | refine qse ?_ | refine qsx ?_ | refine qso ?_ | refine cg_cond_true rfl ?_ | refine cg_cond_false rfl ?_ | refine cg_skip ?_ | refine cg_block ?_ | refine eg_in_normal ?_ | refine cg_ret ?_ | refine eg_then_ret ?_ | refine eg_in_ret ?_ | refine cg_exit ?_ | refine eg_then_exit ?_ | refine eg_in_exit ?_ | refine eg_in_other rfl ?_)
    exact eg_return rfl rfl hrow
end Go.Wm
namespace Go.Wm
open Go.RowKit Go.Proofs
attribute [local irreducible] RG CG EG WA Loc Det Alc CT Exit.then Exit.inBlock Code.wp bodyPost
def lenB (own : List (List Nat)) : Nat → Nat
  | 0 => 0
  | i + 1 => lenB own i + (own.getD i []).length
theorem lenB_mono (own : List (List Nat)) {i j : Nat} (h : i ≤ j) : lenB own i ≤ lenB own j := by
  induction h with
  | refl => exact Nat.le_refl _
  | step _ ih => exact Nat.le_trans ih (Nat.le_add_right _ _)
set_option maxHeartbeats 1000000 in
theorem growB_ctn {k : PH} (m : Nat) (hb : m ≤ 1000000) : CTN Tryz.prog 101 #[.slice none 0 0, .int .i64 (m : Int)] k (fun N k' v => Row N k' 5 1 v 0 []) := by
  refine ctn_of_body (l := [_, _]) Tryz.func101 rfl Tryz.ntmps101 (by simp) (fun N k k' v hle h => h.le hle) fun F hF0 hFm => ?_
  have q1 : decide ((m : Int) < 0) = false := by simp
  have q2 : (m : Int) - (((0 : Nat) : Int) - ((0 : Nat) : Int)) = (m : Int) := by omega
  repeat (first | refine cg_seq ?_ | refine cg_region ?_ | refine rg_nil ?_ | refine eg_then ?_ | refine qsp ?_ | refine cg_cond_false rfl ?_ | refine cg_skip ?_)
  rw [q1]
  skip
  refine rs rfl rfl (loc_det rfl (d_cap rfl rfl)) ?_
  repeat (first | refine cg_seq ?_ | refine cg_region ?_ | refine rg_nil ?_ | refine eg_then ?_ | refine qsp ?_ | refine qsn ?_ | refine qss ?_)
  rw [q2]
  refine cg_cond rfl (fun h => ?_) (fun h => ?_)
  · have hpos : 0 < m := by simp at h; omega
    repeat (first | refine cg_region ?_ | refine qsp ?_)
    refine rs rfl rfl (loc_det rfl (d_cap rfl rfl)) ?_
    refine rs rfl rfl (loc_det rfl (d_part (l := none) (h := some 0) rfl rfl trivial ⟨_, rfl⟩ (Nat.le_refl _) (Nat.le_refl _) (Nat.le_refl _) (fun _ => rfl))) ?_
    repeat (first | refine qsp ?_)
    refine a_zeros rfl rfl rfl rfl rfl rfl rfl hpos rfl rfl (by unfold maxLen; omega) (by omega) ?_
    intro g cap cur k1 hNg hkg hle hk1 hmc hcm hcs
    have e : shiftA cap 0 1 (some ⟨g, 0, none⟩) = some ⟨g, 0, none⟩ := by
      simp only [shiftA, Option.map_some]
      rw [if_neg (by omega), addr_add]
    repeat (first | refine qsp ?_ | refine qsn ?_)
    refine rs rfl rfl (loc_det rfl (d_part (l := none) (h := some 0) rfl rfl trivial ⟨_, rfl⟩ (Nat.le_refl _) (Nat.zero_le _) hmc (fun h => by cases h))) ?_
    simp only [ob]
    rw [e]
    repeat (first | refine cg_seq ?_ | refine cg_region ?_ | refine rg_nil ?_ | refine eg_then ?_ | refine qsp ?_ | refine cg_ret ?_)
    exact eg_return rfl rfl ⟨rfl, .inr ⟨g, cap, cur, rfl, hNg, hk1, Nat.zero_le _, hcm, hcs, by simp⟩⟩
  · repeat (first | refine cg_seq ?_ | refine cg_region ?_ | refine rg_nil ?_ | refine eg_then ?_ | refine qsp ?_ | refine cg_skip ?_ | refine cg_ret ?_)
    exact eg_return rfl rfl (row_nil _ _ _ _)

theorem lenB_flat (own : List (List Nat)) : ∀ i, i ≤ own.length → lenB own i = (own.take i).flatten.length
  | 0, _ => by simp [lenB]
  | i + 1, h => by
    have hi : i < own.length := h
    rw [List.take_succ_eq_append_getElem hi, List.flatten_append, List.length_append, ← lenB_flat own i (by omega)]
    simp [lenB, hi]

set_option maxHeartbeats 1000000 in
theorem concatB_ctn {k : PH} {a : Option Addr} {c : Nat} {own : List (List Nat)} (ho : Sl (tSl tU8) k a c own) (hsum : lenB own own.length ≤ 1000000) :
    CTN Tryz.prog 43 #[.slice a own.length c] k (fun N k' v => BRow N k' v own.flatten) := by
  refine ctn_of_body (l := [_]) Tryz.func43 rfl Tryz.ntmps43 (by simp) (fun N k k' v hle h => h.le hle) fun F hF0 hFm => ?_
  have b1 := ho.cap; have b2 := ho.max; unfold maxLen at b2
  repeat (first | refine cg_seq ?_ | refine cg_region ?_ | refine rg_nil ?_ | refine eg_then ?_ | refine qsp ?_ | refine qsn ?_ | refine cg_block ?_)
  refine cg_loop (fun (i : Nat) e k' => k' = k ∧ i ≤ own.length ∧ e = [(0, .is (.slice a own.length c)), (3, .is (.int .i64 (lenB own i : Nat))), (9, .is (.slice a own.length c)), (10, .is (.int .i64 (own.length : Int))), (11, .is (.int .i64 (i : Int)))])
    (fun i => own.length - i) 0 ⟨rfl, Nat.zero_le _, rfl⟩ ⟨rfl, rfl, rfl, rfl, rfl, trivial⟩ ?_
  rintro i e k1 ⟨rfl, hi, rfl⟩
  have hmono := lenB_mono own hi
  repeat (first | refine cg_seq ?_ | refine cg_region ?_ | refine rg_nil ?_ | refine eg_then ?_ | refine qsp ?_)
  refine cg_cond rfl (fun h => ?_) (fun h => ?_)
  · have hlt : i < own.length := by simpa using h
    obtain ⟨os, hos⟩ : ∃ os, own[i]? = some os := ⟨_, List.getElem?_eq_getElem hlt⟩
    obtain ⟨bx, ox, cx, rfl, ⟨ax, acx, rfl, hsx⟩, hcx⟩ := ho.el i os hos
    have hgd : own.getD i [] = os := by rw [List.getD_eq_getElem?_getD, hos]; rfl
    have hmono2 := lenB_mono own (i := i + 1) (j := own.length) hlt
    simp only [lenB, hgd] at hmono2
    have q1 : decide ((lenB own i : Int) + (os.length : Int) < 0) = false := by simp; omega
    repeat (first | refine cg_seq ?_ | refine cg_region ?_ | refine rg_nil ?_ | refine eg_then ?_ | refine qsp ?_ | refine qsn ?_ | refine qsa ?_ | refine qsi ?_ | refine qsl ?_ | refine cg_cond_false rfl ?_ | refine cg_skip ?_ | refine cg_block ?_ | refine eg_in_normal ?_)
    rw [q1]
    skip
    refine eg_again (i + 1) _ ⟨rfl, hlt, rfl⟩ (by omega) ⟨rfl, ?_, rfl, rfl, rfl, trivial⟩
    simp only [lenB, hgd]
    rfl
  · have hil : i = own.length := by simp at h; omega
    subst hil
    repeat (first | refine cg_seq ?_ | refine cg_region ?_ | refine eg_then ?_ | refine qsp ?_ | refine cg_exit ?_ | refine eg_then_exit ?_ | refine eg_in_exit ?_)
    refine rvn rfl rfl rfl rfl rfl rfl rfl (growB_ctn _ hsum) ?_
    intro N k2 v hN hnew hle2 hrow2
    repeat (first | refine cg_seq ?_ | refine cg_region ?_ | refine rg_nil ?_ | refine eg_then ?_ | refine qsp ?_ | refine qsn ?_ | refine cg_block ?_)
    refine cg_loop (fun (i : Nat) e k' => ∃ v css, Row F.w0.heap.size k' 5 tU8.sz v (lenB own i) css.flatten ∧ Pieces tU8 k' css ((own.take i).flatten) ∧ Le k1 k' ∧ Apart k1 v ∧ i ≤ own.length ∧ e = [(6, .is v), (25, .is (.slice a own.length c)), (26, .is (.int .i64 (own.length : Int))), (27, .is (.int .i64 (i : Int)))])
      (fun i => own.length - i) 0 ⟨v, [], hrow2.N_le hN, Pieces.nil _ _, hle2, hrow2.apart hnew, Nat.zero_le _, rfl⟩ ⟨rfl, rfl, rfl, rfl, trivial⟩ ?_
    clear hrow2 hnew h hmono
    rintro i e k3 ⟨v, css, hrow, hp, hle3, hap, hi, rfl⟩
    repeat (first | refine cg_seq ?_ | refine cg_region ?_ | refine rg_nil ?_ | refine eg_then ?_ | refine qsp ?_)
    refine cg_cond rfl (fun h => ?_) (fun h => ?_)
    · have hlt : i < own.length := by simpa using h
      obtain ⟨os, hos⟩ : ∃ os, own[i]? = some os := ⟨_, List.getElem?_eq_getElem hlt⟩
      obtain ⟨bx, ox, cx, rfl, ⟨ax, acx, rfl, hsx⟩, hcx⟩ := (ho.le hle3).el i os hos
      have hgd : own.getD i [] = os := by rw [List.getD_eq_getElem?_getD, hos]; rfl
      have hmono2 := lenB_mono own (i := i + 1) (j := own.length) hlt
      simp only [lenB, hgd] at hmono2
      have htk : (own.take (i + 1)).flatten = (own.take i).flatten ++ os := by
        rw [List.take_add_one, hos]
        simp
      repeat (first | refine cg_seq ?_ | refine cg_region ?_ | refine rg_nil ?_ | refine eg_then ?_ | refine qsp ?_ | refine qsi ?_ | refine qsl ?_ | refine cg_skip ?_ | refine cg_block ?_)
      refine raps rfl rfl rfl rfl rfl rfl rfl hrow hsx u8_one rfl rfl (by unfold maxLen; omega) (by omega) ?_
      intro v' k4 css' hp4 hrow4 ht4
      obtain ⟨hle4, hap4⟩ := ht4 k1 hle3 hap
      repeat (first | refine cg_region ?_ | refine rg_nil ?_ | refine eg_then ?_ | refine qsp ?_ | refine qsa ?_ | refine eg_in_normal ?_)
      refine eg_again (i + 1) _ ⟨v', css ++ css', ?_, ?_, hle4, hap4, hlt, rfl⟩ (by omega) ⟨rfl, rfl, rfl, rfl, trivial⟩
      · rw [List.flatten_append]
        simp only [lenB, hgd]
        exact hrow4
      · rw [htk]
        have h5 : Pieces tU8 k4 css (own.take i).flatten := ⟨hp.1, hp.2⟩
        have h6 : Pieces tU8 k4 css' os := ⟨hp4.1, hp4.2⟩
        exact h5.append h6
    · have hil : i = own.length := by simp at h; omega
      rw [hil, lenB_flat own own.length (Nat.le_refl _), List.take_length] at hrow
      rw [hil, List.take_length] at hp
      rw [pieces_u8 hp] at hrow
      repeat (first | refine cg_seq ?_ | refine cg_region ?_ | refine rg_nil ?_ | refine eg_then ?_ | refine qsp ?_ | refine cg_ret ?_ | refine cg_exit ?_ | refine eg_then_exit ?_ | refine eg_in_exit ?_)
      exact eg_return rfl rfl hrow
end Go.Wm
namespace Go.Wm
open Go.RowKit
section
variable {P : Program} {o : Oper} {e : Env} {k : PH}
theorem d_arr2V {t et : TypeId} {x y : Operand} {a b z0 : Value} {bs bs' : Nat} {z : Value} [h : TyU P t (.array 2 et)] [hi : TyI P et 1 bs z] [hz : TyI P t 2 bs' (.agg #[z0, z0])] (hop : o.op = .build t #[(0, x), (1, y)]) (hx : opv e x = some a) (hy : opv e y = some b) (ha : a.cells = #[a]) (hb : b.cells = #[b]) : Det P e k o (.agg #[a, b]) := by
  intro ev w hev hs
  rw [hop] at hev
  obtain ⟨i, h1, h2, _⟩ := hi.eq
  have e1 := hev x (by simp [Op.operands]) _ hx
  have e2 := hev y (by simp [Op.operands]) _ hy
  have hzc : (Value.agg #[z0, z0]).cells = #[z0, z0] := rfl
  simp [execOp, hop, e1, e2, Instr.build, run_zero (t := t) (z := .agg #[z0, z0]), run_underlying h.eq, run_size h1, h2, Instr.fill, ha, hb, hzc]
theorem d_arr3V {t et : TypeId} {x y u : Operand} {a b c z0 : Value} {bs bs' : Nat} {z : Value} [h : TyU P t (.array 3 et)] [hi : TyI P et 1 bs z] [hz : TyI P t 3 bs' (.agg #[z0, z0, z0])] (hop : o.op = .build t #[(0, x), (1, y), (2, u)]) (hx : opv e x = some a) (hy : opv e y = some b) (hu : opv e u = some c) (ha : a.cells = #[a]) (hb : b.cells = #[b]) (hc : c.cells = #[c]) : Det P e k o (.agg #[a, b, c]) := by
  intro ev w hev hs
  rw [hop] at hev
  obtain ⟨i, h1, h2, _⟩ := hi.eq
  have e1 := hev x (by simp [Op.operands]) _ hx
  have e2 := hev y (by simp [Op.operands]) _ hy
  have e3 := hev u (by simp [Op.operands]) _ hu
  have hzc : (Value.agg #[z0, z0, z0]).cells = #[z0, z0, z0] := rfl
  simp [execOp, hop, e1, e2, e3, Instr.build, run_zero (t := t) (z := .agg #[z0, z0, z0]), run_underlying h.eq, run_size h1, h2, Instr.fill, ha, hb, hc, hzc]
/-- One of an array that is a value. -/
theorem d_ixV {t et : TypeId} {d : TypeDesc} {x ix : Operand} {cs : Array Value} {L i bs : Nat} {v z : Value} [h : TyU P t (.array L et)] [hu : TyU P et d] [hi : TyI P et 1 bs z] (hop : o.op = .index t x ix) (hx : opv e x = some (.agg cs)) (hy : opv e ix = some (.int .i64 (i : Int))) (hlt : i < L) (hd : aggD d = false) (hv : cs[i]? = some v) : Det P e k o v := by
  intro ev w hev hs
  rw [hop] at hev
  obtain ⟨inf, g1, g2, _⟩ := hi.eq
  have e1 := hev x (by simp [Op.operands]) _ hx
  have e2 := hev ix (by simp [Op.operands]) _ hy
  have h3 : (i : Int) < (L : Int) := by omega
  have hp : (part et cs i).run P w = .ok v w := part_plain hu.eq hd hv w
  simp [execOp, hop, e1, e2, Instr.index, asIntOf, run_underlying h.eq, h3, hlt, run_size g1, g2, hp]
end
end Go.Wm

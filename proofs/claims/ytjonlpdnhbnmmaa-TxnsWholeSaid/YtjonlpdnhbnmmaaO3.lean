/-
  Numbers of so many bytes, and sums of bytes, the program's and the document's. Conditions: that what is handed in reads as data.
-/
import Derived.Test.YtjonlpdnhbnmmaaO2
set_option linter.all false
namespace Go.Wm
open Go.RowKit Go.Proofs
attribute [local irreducible] RG CG EG WA Loc Det Alc CT Exit.then Exit.inBlock Code.wp bodyPost

/-- The bytes of a number, the highest one first, of which i are written. -/
def bigL (n k i : Nat) : List Nat := (List.range i).map fun j => n / 256 ^ (k - 1 - j) % 256
theorem bigL_succ (n k i : Nat) : bigL n k (i + 1) = bigL n k i ++ [n / 256 ^ (k - 1 - i) % 256] := by
  simp [bigL, List.range_succ]
theorem bigL_len (n k i : Nat) : (bigL n k i).length = i := by simp [bigL]
theorem bigL_bytes (n k i : Nat) : Bytes (bigL n k i) := fun x hx => by
  unfold bigL at hx
  obtain ⟨j, _, rfl⟩ := List.mem_map.1 hx
  exact Nat.mod_lt _ (by decide)
theorem pow256 (j : Nat) : 2 ^ (8 * j) = 256 ^ j := by rw [Nat.pow_mul]

set_option maxHeartbeats 1000000 in
theorem refPut4_ct {k : PH} {a : Option Addr} {c : Nat} {bs : List Nat} {n : Nat} (h : Sl tU8 k a c bs) (hb : bs.length ≤ 100000000) (hn : n < 18446744073709551616) :
    CTN Try.prog 136 #[.slice a bs.length c, .int .u64 (n : Int), .int .i64 4] k (fun N k' v => BRow N k' v (bs ++ bigL n 4 4)) := by
  refine ctn_of_body (l := [_, _, _]) Try.func136 rfl Try.ntmps136 (by simp) (fun N k k' v hle h => h.le hle) fun F hF0 hFm => ?_
  repeat (first | refine cg_seq ?_ | refine cg_region ?_ | refine rg_nil ?_ | refine eg_then ?_ | refine qsp ?_ | refine qsn ?_ | refine qsa ?_ | refine qss ?_ | refine qsi ?_ | refine qsz ?_ | refine qsl ?_ | refine qsg ?_ | refine qsf ?_ | refine qsd ?_ | refine qsE ?_ | refine qsX ?_ | refine qse ?_ | refine qsx ?_ | refine qso ?_ | refine cg_cond_true rfl ?_ | refine cg_cond_false rfl ?_ | refine cg_skip ?_ | refine cg_block ?_ | refine eg_in_normal ?_ | refine cg_ret ?_ | refine eg_then_ret ?_ | refine eg_in_ret ?_ | refine cg_exit ?_ | refine eg_then_exit ?_ | refine eg_in_exit ?_ | refine eg_in_other rfl ?_)
  refine rvn rfl rfl rfl rfl rfl rfl rfl (refCopy_ct h (by omega)) ?_
  rintro N1 k1 v1 hN hf1 hle1 hrow1
  repeat (first | refine cg_seq ?_ | refine cg_region ?_ | refine rg_nil ?_ | refine eg_then ?_ | refine qsp ?_ | refine qsn ?_ | refine qsa ?_ | refine qss ?_ | refine qsi ?_ | refine qsz ?_ | refine qsl ?_ | refine qsg ?_ | refine qsf ?_ | refine qsd ?_ | refine qsE ?_ | refine qsX ?_ | refine qse ?_ | refine qsx ?_ | refine qso ?_ | refine cg_cond_true rfl ?_ | refine cg_cond_false rfl ?_ | refine cg_skip ?_ | refine cg_block ?_ | refine eg_in_normal ?_ | refine cg_ret ?_ | refine eg_then_ret ?_ | refine eg_in_ret ?_ | refine cg_exit ?_ | refine eg_then_exit ?_ | refine eg_in_exit ?_ | refine eg_in_other rfl ?_)
  refine cg_loop (fun (i : Nat) e k' => ∃ v, Le k k' ∧ BRow F.w0.heap.size k' v (bs ++ bigL n 4 i) ∧ Apart k v ∧ i ≤ 4 ∧ e = [(1, .is (.int .u64 (n : Int))), (2, .is (.int .i64 4)), (7, .is v), (19, .is (.int .i64 4)), (20, .is (.int .i64 (i : Int)))])
    (fun i => 4 - i) 0 ⟨v1, hle1, by simpa [bigL] using hrow1.N_le hN, hrow1.apart hf1, by omega, rfl⟩ ⟨rfl, rfl, rfl, rfl, rfl, trivial⟩ ?_
  rintro i e k2 ⟨v, hle, hrow, hap, hi, rfl⟩
  repeat (first | refine cg_seq ?_ | refine cg_region ?_ | refine rg_nil ?_ | refine eg_then ?_ | refine qsp ?_ | refine qsn ?_ | refine qsa ?_ | refine qss ?_ | refine qsi ?_ | refine qsz ?_ | refine qsl ?_ | refine qsg ?_ | refine qsf ?_ | refine qsd ?_ | refine qsE ?_ | refine qsX ?_ | refine qse ?_ | refine qsx ?_ | refine qso ?_ | refine cg_cond_true rfl ?_ | refine cg_cond_false rfl ?_ | refine cg_skip ?_ | refine cg_block ?_ | refine eg_in_normal ?_ | refine cg_ret ?_ | refine eg_then_ret ?_ | refine eg_in_ret ?_ | refine cg_exit ?_ | refine eg_then_exit ?_ | refine eg_in_exit ?_ | refine eg_in_other rfl ?_)
  refine cg_cond rfl (fun h => ?_) (fun h => ?_)
  · have hlt : i < 4 := by simp at h; omega
    repeat (first | refine cg_seq ?_ | refine cg_region ?_ | refine rg_nil ?_ | refine eg_then ?_ | refine qsp ?_ | refine qsn ?_ | refine qsa ?_ | refine qss ?_ | refine qsi ?_ | refine qsz ?_ | refine qsl ?_ | refine qsg ?_ | refine qsf ?_ | refine qsd ?_ | refine qsE ?_ | refine qsX ?_ | refine qse ?_ | refine qsx ?_ | refine qso ?_ | refine cg_cond_true rfl ?_ | refine cg_cond_false rfl ?_ | refine cg_skip ?_ | refine cg_block ?_ | refine eg_in_normal ?_ | refine cg_ret ?_ | refine eg_then_ret ?_ | refine eg_in_ret ?_ | refine cg_exit ?_ | refine eg_then_exit ?_ | refine eg_in_exit ?_ | refine eg_in_other rfl ?_)
    refine cg_loop (fun (j : Nat) e k' => k' = k2 ∧ j ≤ 3 - i ∧ e = [(1, .is (.int .u64 (n : Int))), (2, .is (.int .i64 4)), (7, .is v), (9, .is (.int .u64 ((n / 256 ^ j : Nat) : Int))), (19, .is (.int .i64 4)), (20, .is (.int .i64 (i : Int))), (27, .is (.int .i64 ((4 : Int) - 1 - i))), (28, .is (.int .i64 (j : Int)))])
      (fun j => 3 - i - j) 0 (e0 := [(1, .is (.int .u64 (n : Int))), (2, .is (.int .i64 4)), (7, .is v), (9, .is (.int .u64 ((n / 256 ^ 0 : Nat) : Int))), (19, .is (.int .i64 4)), (20, .is (.int .i64 (i : Int))), (27, .is (.int .i64 ((4 : Int) - 1 - i))), (28, .is (.int .i64 ((0 : Nat) : Int)))]) ⟨rfl, Nat.zero_le _, rfl⟩ ⟨rfl, rfl, rfl, by rw [Nat.pow_zero, Nat.div_one]; rfl, rfl, rfl, rfl, rfl, trivial⟩ ?_
    rintro j e k3 ⟨rfl, hj, rfl⟩
    have hnj : n / 256 ^ j < 18446744073709551616 := Nat.lt_of_le_of_lt (Nat.div_le_self _ _) hn
    repeat (first | refine cg_seq ?_ | refine cg_region ?_ | refine rg_nil ?_ | refine eg_then ?_ | refine qsp ?_ | refine qsn ?_ | refine qsa ?_ | refine qss ?_ | refine qsi ?_ | refine qsz ?_ | refine qsl ?_ | refine qsg ?_ | refine qsf ?_ | refine qsd ?_ | refine qsE ?_ | refine qsX ?_ | refine qse ?_ | refine qsx ?_ | refine qso ?_ | refine cg_cond_true rfl ?_ | refine cg_cond_false rfl ?_ | refine cg_skip ?_ | refine cg_block ?_ | refine eg_in_normal ?_ | refine cg_ret ?_ | refine eg_then_ret ?_ | refine eg_in_ret ?_ | refine cg_exit ?_ | refine eg_then_exit ?_ | refine eg_in_exit ?_ | refine eg_in_other rfl ?_)
    refine cg_cond rfl (fun h2 => ?_) (fun h2 => ?_)
    · have hj2 : j < 3 - i := by simp at h2; omega
      repeat (first | refine cg_seq ?_ | refine cg_region ?_ | refine rg_nil ?_ | refine eg_then ?_ | refine qsp ?_ | refine qsn ?_ | refine qsa ?_ | refine qss ?_ | refine qsi ?_ | refine qsz ?_ | refine qsl ?_ | refine qsg ?_ | refine qsf ?_ | refine qsd ?_ | refine qsE ?_ | refine qsX ?_ | refine qse ?_ | refine qsx ?_ | refine qso ?_ | refine cg_cond_true rfl ?_ | refine cg_cond_false rfl ?_ | refine cg_skip ?_ | refine cg_block ?_ | refine eg_in_normal ?_ | refine cg_ret ?_ | refine eg_then_ret ?_ | refine eg_in_ret ?_ | refine cg_exit ?_ | refine eg_then_exit ?_ | refine eg_in_exit ?_ | refine eg_in_other rfl ?_)
      refine rs rfl rfl (loc_det rfl (d_quoN rfl rfl rfl rfl (by decide) hnj)) ?_
      repeat (first | refine cg_seq ?_ | refine cg_region ?_ | refine rg_nil ?_ | refine eg_then ?_ | refine qsp ?_ | refine qsn ?_ | refine qsa ?_ | refine qss ?_ | refine qsi ?_ | refine qsz ?_ | refine qsl ?_ | refine qsg ?_ | refine qsf ?_ | refine qsd ?_ | refine qsE ?_ | refine qsX ?_ | refine qse ?_ | refine qsx ?_ | refine qso ?_ | refine cg_cond_true rfl ?_ | refine cg_cond_false rfl ?_ | refine cg_skip ?_ | refine cg_block ?_ | refine eg_in_normal ?_ | refine cg_ret ?_ | refine eg_then_ret ?_ | refine eg_in_ret ?_ | refine cg_exit ?_ | refine eg_then_exit ?_ | refine eg_in_exit ?_ | refine eg_in_other rfl ?_)
      refine eg_again (j + 1) _ ⟨rfl, by omega, rfl⟩ (by omega) ⟨rfl, rfl, rfl, ?_, rfl, rfl, rfl, rfl, trivial⟩
      rw [Nat.pow_succ, ← Nat.div_div_eq_div_mul]
      rfl
    · have hj2 : j = 4 - 1 - i := by simp at h2; omega
      repeat (first | refine cg_seq ?_ | refine cg_region ?_ | refine rg_nil ?_ | refine eg_then ?_ | refine qsp ?_ | refine qsn ?_ | refine qsa ?_ | refine qss ?_ | refine qsi ?_ | refine qsz ?_ | refine qsl ?_ | refine qsg ?_ | refine qsf ?_ | refine qsd ?_ | refine qsE ?_ | refine qsX ?_ | refine qse ?_ | refine qsx ?_ | refine qso ?_ | refine cg_cond_true rfl ?_ | refine cg_cond_false rfl ?_ | refine cg_skip ?_ | refine cg_block ?_ | refine eg_in_normal ?_ | refine cg_ret ?_ | refine eg_then_ret ?_ | refine eg_in_ret ?_ | refine cg_exit ?_ | refine eg_then_exit ?_ | refine eg_in_exit ?_ | refine eg_in_other rfl ?_)
      refine rs rfl rfl (loc_det rfl (d_remN rfl rfl rfl (by decide))) ?_
      refine rs rfl rfl (loc_det rfl (d_conv rfl rfl)) ?_
      rw [wrap8, Nat.mod_mod]
      refine rb rfl rfl rfl rfl (a_slice rfl rfl rfl rfl (by kernel_rfl) rfl) ?_; intro b3 k3' hb3 hN3 hle3 hk3
      have c3 := cells_at (vs := [Value.int .u8 ((n / 256 ^ j % 256 : Nat) : Int)]) hk3 rfl
      refine rapB rfl rfl rfl rfl rfl rfl rfl (hrow.le hle3) c3 (by rw [List.length_append, bigL_len]; omega) ?_
      intro v4 k4 hrow4 ht4
      obtain ⟨hle4, hap4⟩ := ht4 k (hle.trans hle3) hap
      repeat (first | refine cg_seq ?_ | refine cg_region ?_ | refine rg_nil ?_ | refine eg_then ?_ | refine qsp ?_ | refine qsn ?_ | refine qsa ?_ | refine qss ?_ | refine qsi ?_ | refine qsz ?_ | refine qsl ?_ | refine qsg ?_ | refine qsf ?_ | refine qsd ?_ | refine qsE ?_ | refine qsX ?_ | refine qse ?_ | refine qsx ?_ | refine qso ?_ | refine cg_cond_true rfl ?_ | refine cg_cond_false rfl ?_ | refine cg_skip ?_ | refine cg_block ?_ | refine eg_in_normal ?_ | refine cg_ret ?_ | refine eg_then_ret ?_ | refine eg_in_ret ?_ | refine cg_exit ?_ | refine eg_then_exit ?_ | refine eg_in_exit ?_ | refine eg_in_other rfl ?_)
      refine eg_again (i + 1) _ ⟨v4, hle4, ?_, hap4, by omega, rfl⟩ (by omega) ⟨rfl, rfl, rfl, rfl, rfl, trivial⟩
      rw [bigL_succ, ← List.append_assoc, ← hj2]
      exact hrow4
  · have hil : i = 4 := by simp at h; omega
    subst hil
    repeat (first | refine cg_seq ?_ | refine cg_region ?_ | refine rg_nil ?_ | refine eg_then ?_ | refine qsp ?_ | refine qsn ?_ | refine qsa ?_ | refine qss ?_ | refine qsi ?_ | refine qsz ?_ | refine qsl ?_ | refine qsg ?_ | refine qsf ?_ | refine qsd ?_ | refine qsE ?_ | refine qsX ?_ | refine qse ?_ | refine qsx ?_ | refine qso ?_ | refine cg_cond_true rfl ?_ | refine cg_cond_false rfl ?_ | refine cg_skip ?_ | refine cg_block ?_ | refine eg_in_normal ?_ | refine cg_ret ?_ | refine eg_then_ret ?_ | refine eg_in_ret ?_ | refine cg_exit ?_ | refine eg_then_exit ?_ | refine eg_in_exit ?_ | refine eg_in_other rfl ?_)
    exact eg_return rfl rfl hrow
set_option maxHeartbeats 1000000 in
theorem put4_ct {k : PH} {a : Option Addr} {c : Nat} {bs : List Nat} {n : Nat} (h : Sl tU8 k a c bs) (hb : bs.length ≤ 100000000) (hn : n < 18446744073709551616) :
    CTN Try.prog 142 #[.slice a bs.length c, .int .u64 (n : Int), .int .i64 4] k (fun N k' v => BRow N k' v (bs ++ bigL n 4 4)) := by
  refine ctn_of_body (l := [_, _, _]) Try.func142 rfl Try.ntmps142 (by simp) (fun N k k' v hle h => h.le hle) fun F hF0 hFm => ?_
  repeat (first | refine cg_seq ?_ | refine cg_region ?_ | refine rg_nil ?_ | refine eg_then ?_ | refine qsp ?_ | refine qsn ?_ | refine qsa ?_ | refine qss ?_ | refine qsi ?_ | refine qsz ?_ | refine qsl ?_ | refine qsg ?_ | refine qsf ?_ | refine qsd ?_ | refine qsE ?_ | refine qsX ?_ | refine qse ?_ | refine qsx ?_ | refine qso ?_ | refine cg_cond_true rfl ?_ | refine cg_cond_false rfl ?_ | refine cg_skip ?_ | refine cg_block ?_ | refine eg_in_normal ?_ | refine cg_ret ?_ | refine eg_then_ret ?_ | refine eg_in_ret ?_ | refine cg_exit ?_ | refine eg_then_exit ?_ | refine eg_in_exit ?_ | refine eg_in_other rfl ?_)
  refine rvn rfl rfl rfl rfl rfl rfl rfl (cloneU8_ct h (by omega)) ?_
  rintro N1 k1 v1 hN hf1 hle1 hrow1
  repeat (first | refine cg_seq ?_ | refine cg_region ?_ | refine rg_nil ?_ | refine eg_then ?_ | refine qsp ?_ | refine qsn ?_ | refine qsa ?_ | refine qss ?_ | refine qsi ?_ | refine qsz ?_ | refine qsl ?_ | refine qsg ?_ | refine qsf ?_ | refine qsd ?_ | refine qsE ?_ | refine qsX ?_ | refine qse ?_ | refine qsx ?_ | refine qso ?_ | refine cg_cond_true rfl ?_ | refine cg_cond_false rfl ?_ | refine cg_skip ?_ | refine cg_block ?_ | refine eg_in_normal ?_ | refine cg_ret ?_ | refine eg_then_ret ?_ | refine eg_in_ret ?_ | refine cg_exit ?_ | refine eg_then_exit ?_ | refine eg_in_exit ?_ | refine eg_in_other rfl ?_)
  refine rs rfl rfl (loc_det rfl (d_mulk rfl rfl rfl)) ?_
  repeat (first | refine cg_seq ?_ | refine cg_region ?_ | refine rg_nil ?_ | refine eg_then ?_ | refine qsp ?_ | refine qsn ?_ | refine qsa ?_ | refine qss ?_ | refine qsi ?_ | refine qsz ?_ | refine qsl ?_ | refine qsg ?_ | refine qsf ?_ | refine qsd ?_ | refine qsE ?_ | refine qsX ?_ | refine qse ?_ | refine qsx ?_ | refine qso ?_ | refine cg_cond_true rfl ?_ | refine cg_cond_false rfl ?_ | refine cg_skip ?_ | refine cg_block ?_ | refine eg_in_normal ?_ | refine cg_ret ?_ | refine eg_then_ret ?_ | refine eg_in_ret ?_ | refine cg_exit ?_ | refine eg_then_exit ?_ | refine eg_in_exit ?_ | refine eg_in_other rfl ?_)
  refine cg_loop (fun (i : Nat) e k' => ∃ v, Le k k' ∧ BRow F.w0.heap.size k' v (bs ++ bigL n 4 i) ∧ Apart k v ∧ i ≤ 4 ∧ e = [(1, .is (.int .u64 (n : Int))), (7, .is v), (8, .is (.int .i64 (24 - 8 * (i : Int))))])
    (fun i => 4 - i) 0 ⟨v1, hle1, by simpa [bigL] using hrow1.N_le hN, hrow1.apart hf1, by omega, rfl⟩ ⟨rfl, rfl, by rfl, trivial⟩ ?_
  rintro i e k2 ⟨v, hle, hrow, hap, hi, rfl⟩
  repeat (first | refine cg_seq ?_ | refine cg_region ?_ | refine rg_nil ?_ | refine eg_then ?_ | refine qsp ?_ | refine qsn ?_ | refine qsa ?_ | refine qss ?_ | refine qsi ?_ | refine qsz ?_ | refine qsl ?_ | refine qsg ?_ | refine qsf ?_ | refine qsd ?_ | refine qsE ?_ | refine qsX ?_ | refine qse ?_ | refine qsx ?_ | refine qso ?_ | refine cg_cond_true rfl ?_ | refine cg_cond_false rfl ?_ | refine cg_skip ?_ | refine cg_block ?_ | refine eg_in_normal ?_ | refine cg_ret ?_ | refine eg_then_ret ?_ | refine eg_in_ret ?_ | refine cg_exit ?_ | refine eg_then_exit ?_ | refine eg_in_exit ?_ | refine eg_in_other rfl ?_)
  refine cg_cond rfl (fun h => ?_) (fun h => ?_)
  · have hlt : i < 4 := by simp at h; omega
    repeat (first | refine cg_seq ?_ | refine cg_region ?_ | refine rg_nil ?_ | refine eg_then ?_ | refine qsp ?_ | refine qsn ?_ | refine qsa ?_ | refine qss ?_ | refine qsi ?_ | refine qsz ?_ | refine qsl ?_ | refine qsg ?_ | refine qsf ?_ | refine qsd ?_ | refine qsE ?_ | refine qsX ?_ | refine qse ?_ | refine qsx ?_ | refine qso ?_ | refine cg_cond_true rfl ?_ | refine cg_cond_false rfl ?_ | refine cg_skip ?_ | refine cg_block ?_ | refine eg_in_normal ?_ | refine cg_ret ?_ | refine eg_then_ret ?_ | refine eg_in_ret ?_ | refine cg_exit ?_ | refine eg_then_exit ?_ | refine eg_in_exit ?_ | refine eg_in_other rfl ?_)
    rw [show (24 - 8 * (i : Int)) = ((8 * (4 - 1 - i) : Nat) : Int) by omega]
    refine rs rfl rfl (loc_det rfl (d_shrN rfl rfl rfl (show 8 * (4 - 1 - i) ≤ 64 by omega))) ?_
    rw [pow256]
    refine rs rfl rfl (loc_det rfl (d_conv rfl rfl)) ?_
    rw [wrap8]
    refine rb rfl rfl rfl rfl (a_slice rfl rfl rfl rfl (by kernel_rfl) rfl) ?_; intro b3 k3' hb3 hN3 hle3 hk3
    have c3 := cells_at (vs := [Value.int .u8 ((n / 256 ^ (4 - 1 - i) % 256 : Nat) : Int)]) hk3 rfl
    refine rapB rfl rfl rfl rfl rfl rfl rfl (hrow.le hle3) c3 (by rw [List.length_append, bigL_len]; omega) ?_
    intro v4 k4 hrow4 ht4
    obtain ⟨hle4, hap4⟩ := ht4 k (hle.trans hle3) hap
    repeat (first | refine cg_seq ?_ | refine cg_region ?_ | refine rg_nil ?_ | refine eg_then ?_ | refine qsp ?_ | refine qsn ?_ | refine qsa ?_ | refine qss ?_ | refine qsi ?_ | refine qsz ?_ | refine qsl ?_ | refine qsg ?_ | refine qsf ?_ | refine qsd ?_ | refine qsE ?_ | refine qsX ?_ | refine qse ?_ | refine qsx ?_ | refine qso ?_ | refine cg_cond_true rfl ?_ | refine cg_cond_false rfl ?_ | refine cg_skip ?_ | refine cg_block ?_ | refine eg_in_normal ?_ | refine cg_ret ?_ | refine eg_then_ret ?_ | refine eg_in_ret ?_ | refine cg_exit ?_ | refine eg_then_exit ?_ | refine eg_in_exit ?_ | refine eg_in_other rfl ?_)
    refine eg_again (i + 1) _ ⟨v4, hle4, ?_, hap4, by omega, rfl⟩ (by omega) ⟨rfl, rfl, ?_, trivial⟩
    · rw [bigL_succ, ← List.append_assoc]
      exact hrow4
    · rw [show (24 - 8 * ((i + 1 : Nat) : Int)) = ((8 * (4 - 1 - i) : Nat) : Int) - 8 by omega]
      rfl
  · have hil : i = 4 := by simp at h; omega
    subst hil
    repeat (first | refine cg_seq ?_ | refine cg_region ?_ | refine rg_nil ?_ | refine eg_then ?_ | refine qsp ?_ | refine qsn ?_ | refine qsa ?_ | refine qss ?_ | refine qsi ?_ | refine qsz ?_ | refine qsl ?_ | refine qsg ?_ | refine qsf ?_ | refine qsd ?_ | refine qsE ?_ | refine qsX ?_ | refine qse ?_ | refine qsx ?_ | refine qso ?_ | refine cg_cond_true rfl ?_ | refine cg_cond_false rfl ?_ | refine cg_skip ?_ | refine cg_block ?_ | refine eg_in_normal ?_ | refine cg_ret ?_ | refine eg_then_ret ?_ | refine eg_in_ret ?_ | refine cg_exit ?_ | refine eg_then_exit ?_ | refine eg_in_exit ?_ | refine eg_in_other rfl ?_)
    exact eg_return rfl rfl hrow
end Go.Wm

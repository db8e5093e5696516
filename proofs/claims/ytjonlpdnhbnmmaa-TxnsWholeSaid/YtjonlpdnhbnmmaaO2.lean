/-
  Numbers and texts as bytes, the program's and the document's. Conditions: that what is handed in reads as data.
-/
import Derived.Test.YtjonlpdnhbnmmaaO1
import Derived.Test.YtjonlpdnhbnmmaaAppS
set_option linter.all false
namespace Go.Wm
open Go.RowKit Go.Proofs
attribute [local irreducible] RG CG EG WA Loc Det Alc CT Exit.then Exit.inBlock Code.wp bodyPost

theorem xor_ones {a : Nat} (h : a < 18446744073709551616) : a ^^^ 18446744073709551615 = 18446744073709551615 - a := by
  have h1 : (BitVec.ofNat 64 a ^^^ BitVec.allOnes 64).toNat = (~~~ BitVec.ofNat 64 a).toNat := by rw [BitVec.xor_allOnes]
  rw [BitVec.toNat_xor, BitVec.toNat_not, BitVec.toNat_allOnes, BitVec.toNat_ofNat, Nat.mod_eq_of_lt (by omega)] at h1
  simpa using h1
theorem or_128 (z : Nat) : z % 256 ||| 128 = 128 + z % 128 := by
  have key : ∀ x : Fin 256, x.val ||| 128 = 128 + x.val % 128 := by decide +kernel
  have := key ⟨z % 256, by omega⟩
  simp only at this
  rw [this, Nat.mod_mod_of_dvd z (by decide : 128 ∣ 256)]
theorem wrap64i {n : Int} (h : I64 n) : ∃ q : Nat, IntKind.u64.wrap n = (q : Int) ∧ q < 18446744073709551616 ∧ (0 ≤ n → (q : Int) = n) ∧ (n < 0 → (q : Int) = n + 18446744073709551616) := by
  rw [wrap_uns rfl]
  show ∃ q : Nat, n % 18446744073709551616 = (q : Int) ∧ _
  unfold I64 at h
  refine ⟨(n % 18446744073709551616).toNat, by omega, by omega, fun h0 => by omega, fun h0 => by omega⟩

set_option maxHeartbeats 400000 in
theorem cloneU8_ct {k : PH} {a : Option Addr} {c : Nat} {l : List Nat} (hl : Sl tU8 k a c l) (hb : l.length ≤ 1000000000) :
    CTN Try.prog 154 #[.slice a l.length c] k (fun N k' v => BRow N k' v l) := by
  refine ctn_of_body (l := [_]) Try.func154 rfl Try.ntmps154 (by simp) (fun N k k' v hle h => h.le hle) fun F hF0 hFm => ?_
  repeat (first | refine cg_seq ?_ | refine cg_region ?_ | refine rg_nil ?_ | refine eg_then ?_ | refine qsp ?_ | refine qsn ?_ | refine qsa ?_ | refine qss ?_ | refine qsi ?_ | refine qsz ?_ | refine qsl ?_ | refine qsg ?_ | refine qsf ?_ | refine qsd ?_ | refine qsE ?_ | refine qsX ?_ | refine qse ?_ | refine qsx ?_ | refine qso ?_ | refine cg_cond_true rfl ?_ | refine cg_cond_false rfl ?_ | refine cg_skip ?_ | refine cg_block ?_ | refine eg_in_normal ?_ | refine cg_ret ?_ | refine eg_then_ret ?_ | refine eg_in_ret ?_ | refine cg_exit ?_ | refine eg_then_exit ?_ | refine eg_in_exit ?_ | refine eg_in_other rfl ?_)
  refine rs rfl rfl (loc_det rfl (d_eqsl rfl rfl)) ?_
  cases a with
  | none =>
    have hc := hl.nil rfl
    have hc2 := hl.cap
    have : l = [] := List.length_eq_zero_iff.1 (by omega)
    subst this
    repeat (first | refine cg_seq ?_ | refine cg_region ?_ | refine rg_nil ?_ | refine eg_then ?_ | refine qsp ?_ | refine qsn ?_ | refine qsa ?_ | refine qss ?_ | refine qsi ?_ | refine qsz ?_ | refine qsl ?_ | refine qsg ?_ | refine qsf ?_ | refine qsd ?_ | refine qsE ?_ | refine qsX ?_ | refine qse ?_ | refine qsx ?_ | refine qso ?_ | refine cg_cond_true rfl ?_ | refine cg_cond_false rfl ?_ | refine cg_skip ?_ | refine cg_block ?_ | refine eg_in_normal ?_ | refine cg_ret ?_ | refine eg_then_ret ?_ | refine eg_in_ret ?_ | refine cg_exit ?_ | refine eg_then_exit ?_ | refine eg_in_exit ?_ | refine eg_in_other rfl ?_)
    exact eg_return rfl rfl (row_nil _ _ _ _)
  | some ad =>
    repeat (first | refine cg_seq ?_ | refine cg_region ?_ | refine rg_nil ?_ | refine eg_then ?_ | refine qsp ?_ | refine qsn ?_ | refine qsa ?_ | refine qss ?_ | refine qsi ?_ | refine qsz ?_ | refine qsl ?_ | refine qsg ?_ | refine qsf ?_ | refine qsd ?_ | refine qsE ?_ | refine qsX ?_ | refine qse ?_ | refine qsx ?_ | refine qso ?_ | refine cg_cond_true rfl ?_ | refine cg_cond_false rfl ?_ | refine cg_skip ?_ | refine cg_block ?_ | refine eg_in_normal ?_ | refine cg_ret ?_ | refine eg_then_ret ?_ | refine eg_in_ret ?_ | refine cg_exit ?_ | refine eg_then_exit ?_ | refine eg_in_exit ?_ | refine eg_in_other rfl ?_)
    refine rb rfl rfl rfl rfl (a_empty rfl) ?_; intro b k2 hb2 hN2 hle2 hk2
    repeat (first | refine cg_seq ?_ | refine cg_region ?_ | refine rg_nil ?_ | refine eg_then ?_ | refine qsp ?_ | refine qsn ?_ | refine qsa ?_ | refine qss ?_ | refine qsi ?_ | refine qsz ?_ | refine qsl ?_ | refine qsg ?_ | refine qsf ?_ | refine qsd ?_ | refine qsE ?_ | refine qsX ?_ | refine qse ?_ | refine qsx ?_ | refine qso ?_ | refine cg_cond_true rfl ?_ | refine cg_cond_false rfl ?_ | refine cg_skip ?_ | refine cg_block ?_ | refine eg_in_normal ?_ | refine cg_ret ?_ | refine eg_then_ret ?_ | refine eg_in_ret ?_ | refine cg_exit ?_ | refine eg_then_exit ?_ | refine eg_in_exit ?_ | refine eg_in_other rfl ?_)
    refine rapsB (bs := []) rfl rfl rfl rfl rfl rfl rfl (row_empty hN2 hk2) hl hle2 (by simp; omega) ?_
    intro v k3 hrow ht
    repeat (first | refine cg_seq ?_ | refine cg_region ?_ | refine rg_nil ?_ | refine eg_then ?_ | refine qsp ?_ | refine qsn ?_ | refine qsa ?_ | refine qss ?_ | refine qsi ?_ | refine qsz ?_ | refine qsl ?_ | refine qsg ?_ | refine qsf ?_ | refine qsd ?_ | refine qsE ?_ | refine qsX ?_ | refine qse ?_ | refine qsx ?_ | refine qso ?_ | refine cg_cond_true rfl ?_ | refine cg_cond_false rfl ?_ | refine cg_skip ?_ | refine cg_block ?_ | refine eg_in_normal ?_ | refine cg_ret ?_ | refine eg_then_ret ?_ | refine eg_in_ret ?_ | refine cg_exit ?_ | refine eg_then_exit ?_ | refine eg_in_exit ?_ | refine eg_in_other rfl ?_)
    exact eg_return rfl rfl hrow

set_option maxHeartbeats 1000000 in
theorem putVar_ct {k : PH} {a : Option Addr} {c : Nat} {bs : List Nat} {n : Int} (h : Sl tU8 k a c bs) (hb : bs.length ≤ 100000000) (hn : I64 n) :
    CTN Try.prog 139 #[.slice a bs.length c, .int .i64 n] k (fun N k' v => BRow N k' v (bs ++ varL (zigN n))) := by
  refine ctn_of_body (l := [_, _]) Try.func139 rfl Try.ntmps139 (by simp) (fun N k k' v hle h => h.le hle) fun F hF0 hFm => ?_
  obtain ⟨q, hq, hq1, hq2, hq3⟩ := wrap64i hn
  have hI := hn
  unfold I64 at hI
  have hs : ∃ s : Nat, IntKind.u64.wrap (if n < 0 then -1 else 0) = (s : Int) ∧ s < 18446744073709551616 ∧ q * 2 ^ 1 % 2 ^ IntKind.u64.bits ^^^ s = zigN n := by
    by_cases hneg : n < 0
    · refine ⟨18446744073709551615, by rw [if_pos hneg, wrap_uns rfl]; rfl, by decide, ?_⟩
      show q * 2 % 18446744073709551616 ^^^ 18446744073709551615 = _
      rw [xor_ones (by omega)]
      have := hq3 hneg
      unfold zigN
      rw [if_pos hneg]
      omega
    · refine ⟨0, by rw [if_neg hneg, wrap_uns rfl]; rfl, by decide, ?_⟩
      show q * 2 % 18446744073709551616 ^^^ 0 = _
      rw [Nat.xor_zero]
      have := hq2 (by omega)
      unfold zigN
      rw [if_neg hneg]
      omega
  obtain ⟨s, hs1, hs2, hs3⟩ := hs
  repeat (first | refine cg_seq ?_ | refine cg_region ?_ | refine rg_nil ?_ | refine eg_then ?_ | refine qsp ?_ | refine qsn ?_ | refine qsa ?_ | refine qss ?_ | refine qsi ?_ | refine qsz ?_ | refine qsl ?_ | refine qsg ?_ | refine qsf ?_ | refine qsd ?_ | refine qsE ?_ | refine qsX ?_ | refine qse ?_ | refine qsx ?_ | refine qso ?_ | refine cg_cond_true rfl ?_ | refine cg_cond_false rfl ?_ | refine cg_skip ?_ | refine cg_block ?_ | refine eg_in_normal ?_ | refine cg_ret ?_ | refine eg_then_ret ?_ | refine eg_in_ret ?_ | refine cg_exit ?_ | refine eg_then_exit ?_ | refine eg_in_exit ?_ | refine eg_in_other rfl ?_)
  refine rs rfl rfl (loc_det rfl (d_conv rfl rfl)) ?_
  rw [hq]
  refine rs rfl rfl (loc_det rfl (d_shlN (b := 1) rfl rfl rfl rfl (by decide))) ?_
  repeat (first | refine cg_seq ?_ | refine cg_region ?_ | refine rg_nil ?_ | refine eg_then ?_ | refine qsp ?_ | refine qsn ?_ | refine qsa ?_ | refine qss ?_ | refine qsi ?_ | refine qsz ?_ | refine qsl ?_ | refine qsg ?_ | refine qsf ?_ | refine qsd ?_ | refine qsE ?_ | refine qsX ?_ | refine qse ?_ | refine qsx ?_ | refine qso ?_ | refine cg_cond_true rfl ?_ | refine cg_cond_false rfl ?_ | refine cg_skip ?_ | refine cg_block ?_ | refine eg_in_normal ?_ | refine cg_ret ?_ | refine eg_then_ret ?_ | refine eg_in_ret ?_ | refine cg_exit ?_ | refine eg_then_exit ?_ | refine eg_in_exit ?_ | refine eg_in_other rfl ?_)
  refine rs rfl rfl (loc_det rfl (d_sign hI rfl rfl rfl)) ?_
  refine rs rfl rfl (loc_det rfl (d_conv rfl rfl)) ?_
  rw [hs1]
  refine rs rfl rfl (loc_det rfl (d_xorN rfl rfl rfl rfl (Nat.mod_lt _ (by decide)) hs2)) ?_
  rw [hs3]
  repeat (first | refine cg_seq ?_ | refine cg_region ?_ | refine rg_nil ?_ | refine eg_then ?_ | refine qsp ?_ | refine qsn ?_ | refine qsa ?_ | refine qss ?_ | refine qsi ?_ | refine qsz ?_ | refine qsl ?_ | refine qsg ?_ | refine qsf ?_ | refine qsd ?_ | refine qsE ?_ | refine qsX ?_ | refine qse ?_ | refine qsx ?_ | refine qso ?_ | refine cg_cond_true rfl ?_ | refine cg_cond_false rfl ?_ | refine cg_skip ?_ | refine cg_block ?_ | refine eg_in_normal ?_ | refine cg_ret ?_ | refine eg_then_ret ?_ | refine eg_in_ret ?_ | refine cg_exit ?_ | refine eg_then_exit ?_ | refine eg_in_exit ?_ | refine eg_in_other rfl ?_)
  refine rvn rfl rfl rfl rfl rfl rfl rfl (cloneU8_ct h (by omega)) ?_
  rintro N1 k1 v1 hN hf1 hle1 hrow1
  repeat (first | refine cg_seq ?_ | refine cg_region ?_ | refine rg_nil ?_ | refine eg_then ?_ | refine qsp ?_ | refine qsn ?_ | refine qsa ?_ | refine qss ?_ | refine qsi ?_ | refine qsz ?_ | refine qsl ?_ | refine qsg ?_ | refine qsf ?_ | refine qsd ?_ | refine qsE ?_ | refine qsX ?_ | refine qse ?_ | refine qsx ?_ | refine qso ?_ | refine cg_cond_true rfl ?_ | refine cg_cond_false rfl ?_ | refine cg_skip ?_ | refine cg_block ?_ | refine eg_in_normal ?_ | refine cg_ret ?_ | refine eg_then_ret ?_ | refine eg_in_ret ?_ | refine cg_exit ?_ | refine eg_then_exit ?_ | refine eg_in_exit ?_ | refine eg_in_other rfl ?_)
  refine cg_loop (fun (x : Nat × List Nat) e k' => ∃ v, Le k k' ∧ BRow F.w0.heap.size k' v (bs ++ x.2) ∧ Apart k v ∧ x.1 < 18446744073709551616 ∧ varL (zigN n) = x.2 ++ varL x.1 ∧ e = [(5, .is (.int .u64 (x.1 : Int))), (6, .is v)])
    (fun x => x.1) (zigN n, []) ⟨v1, hle1, by simpa using hrow1.N_le hN, hrow1.apart hf1, zigN_lt hn, rfl, rfl⟩ ⟨rfl, rfl, trivial⟩ ?_
  rintro ⟨z, pre⟩ e k2 ⟨v, hle, hrow, hap, hz, hzz, rfl⟩
  have hpl : pre.length ≤ 10 := by
    have := varL_ten (zigN_lt hn)
    rw [hzz, List.length_append] at this
    simp only at this
    omega
  simp only at hz hzz
  repeat (first | refine cg_seq ?_ | refine cg_region ?_ | refine rg_nil ?_ | refine eg_then ?_ | refine qsp ?_ | refine qsn ?_ | refine qsa ?_ | refine qss ?_ | refine qsi ?_ | refine qsz ?_ | refine qsl ?_ | refine qsg ?_ | refine qsf ?_ | refine qsd ?_ | refine qsE ?_ | refine qsX ?_ | refine qse ?_ | refine qsx ?_ | refine qso ?_ | refine cg_cond_true rfl ?_ | refine cg_cond_false rfl ?_ | refine cg_skip ?_ | refine cg_block ?_ | refine eg_in_normal ?_ | refine cg_ret ?_ | refine eg_then_ret ?_ | refine eg_in_ret ?_ | refine cg_exit ?_ | refine eg_then_exit ?_ | refine eg_in_exit ?_ | refine eg_in_other rfl ?_)
  refine rs rfl rfl (loc_det rfl (d_cmp rfl rfl rfl rfl)) ?_
  repeat (first | refine cg_seq ?_ | refine cg_region ?_ | refine rg_nil ?_ | refine eg_then ?_ | refine qsp ?_ | refine qsn ?_ | refine qsa ?_ | refine qss ?_ | refine qsi ?_ | refine qsz ?_ | refine qsl ?_ | refine qsg ?_ | refine qsf ?_ | refine qsd ?_ | refine qsE ?_ | refine qsX ?_ | refine qse ?_ | refine qsx ?_ | refine qso ?_ | refine cg_cond_true rfl ?_ | refine cg_cond_false rfl ?_ | refine cg_skip ?_ | refine cg_block ?_ | refine eg_in_normal ?_ | refine cg_ret ?_ | refine eg_then_ret ?_ | refine eg_in_ret ?_ | refine cg_exit ?_ | refine eg_then_exit ?_ | refine eg_in_exit ?_ | refine eg_in_other rfl ?_)
  refine cg_cond rfl (fun h => ?_) (fun h => ?_)
  · have hge : ¬ z < 128 := by simp at h; omega
    have hvz := varL_ge hge
    repeat (first | refine cg_seq ?_ | refine cg_region ?_ | refine rg_nil ?_ | refine eg_then ?_ | refine qsp ?_ | refine qsn ?_ | refine qsa ?_ | refine qss ?_ | refine qsi ?_ | refine qsz ?_ | refine qsl ?_ | refine qsg ?_ | refine qsf ?_ | refine qsd ?_ | refine qsE ?_ | refine qsX ?_ | refine qse ?_ | refine qsx ?_ | refine qso ?_ | refine cg_cond_true rfl ?_ | refine cg_cond_false rfl ?_ | refine cg_skip ?_ | refine cg_block ?_ | refine eg_in_normal ?_ | refine cg_ret ?_ | refine eg_then_ret ?_ | refine eg_in_ret ?_ | refine cg_exit ?_ | refine eg_then_exit ?_ | refine eg_in_exit ?_ | refine eg_in_other rfl ?_)
    refine rs rfl rfl (loc_det rfl (d_conv rfl rfl)) ?_
    rw [wrap8]
    refine rs rfl rfl (loc_det rfl (d_orN (b := 128) rfl rfl rfl rfl (Nat.mod_lt _ (by decide)) (by decide))) ?_
    rw [or_128]
    refine rb rfl rfl rfl rfl (a_slice rfl rfl rfl rfl (by kernel_rfl) rfl) ?_; intro b3 k3 hb3 hN3 hle3 hk3
    have c3 := cells_at (vs := [Value.int .u8 ((128 + z % 128 : Nat) : Int)]) hk3 rfl
    refine rapB rfl rfl rfl rfl rfl rfl rfl (hrow.le hle3) c3 (by rw [List.length_append]; simp only; omega) ?_
    intro v4 k4 hrow4 ht4
    obtain ⟨hle4, hap4⟩ := ht4 k (hle.trans hle3) hap
    repeat (first | refine cg_seq ?_ | refine cg_region ?_ | refine rg_nil ?_ | refine eg_then ?_ | refine qsp ?_ | refine qsn ?_ | refine qsa ?_ | refine qss ?_ | refine qsi ?_ | refine qsz ?_ | refine qsl ?_ | refine qsg ?_ | refine qsf ?_ | refine qsd ?_ | refine qsE ?_ | refine qsX ?_ | refine qse ?_ | refine qsx ?_ | refine qso ?_ | refine cg_cond_true rfl ?_ | refine cg_cond_false rfl ?_ | refine cg_skip ?_ | refine cg_block ?_ | refine eg_in_normal ?_ | refine cg_ret ?_ | refine eg_then_ret ?_ | refine eg_in_ret ?_ | refine cg_exit ?_ | refine eg_then_exit ?_ | refine eg_in_exit ?_ | refine eg_in_other rfl ?_)
    refine rs rfl rfl (loc_det rfl (d_shrN (b := 7) rfl rfl rfl (by decide))) ?_
    repeat (first | refine cg_seq ?_ | refine cg_region ?_ | refine rg_nil ?_ | refine eg_then ?_ | refine qsp ?_ | refine qsn ?_ | refine qsa ?_ | refine qss ?_ | refine qsi ?_ | refine qsz ?_ | refine qsl ?_ | refine qsg ?_ | refine qsf ?_ | refine qsd ?_ | refine qsE ?_ | refine qsX ?_ | refine qse ?_ | refine qsx ?_ | refine qso ?_ | refine cg_cond_true rfl ?_ | refine cg_cond_false rfl ?_ | refine cg_skip ?_ | refine cg_block ?_ | refine eg_in_normal ?_ | refine cg_ret ?_ | refine eg_then_ret ?_ | refine eg_in_ret ?_ | refine cg_exit ?_ | refine eg_then_exit ?_ | refine eg_in_exit ?_ | refine eg_in_other rfl ?_)
    refine eg_again (z / 128, pre ++ [128 + z % 128]) _ ⟨v4, hle4, by simpa using hrow4, hap4, by simp only; omega, by rw [hzz]; simp only; rw [hvz, List.append_assoc]; rfl, rfl⟩ (by simp only; omega) ⟨rfl, rfl, trivial⟩
  · have hlt : z < 128 := by simp at h; omega
    repeat (first | refine cg_seq ?_ | refine cg_region ?_ | refine rg_nil ?_ | refine eg_then ?_ | refine qsp ?_ | refine qsn ?_ | refine qsa ?_ | refine qss ?_ | refine qsi ?_ | refine qsz ?_ | refine qsl ?_ | refine qsg ?_ | refine qsf ?_ | refine qsd ?_ | refine qsE ?_ | refine qsX ?_ | refine qse ?_ | refine qsx ?_ | refine qso ?_ | refine cg_cond_true rfl ?_ | refine cg_cond_false rfl ?_ | refine cg_skip ?_ | refine cg_block ?_ | refine eg_in_normal ?_ | refine cg_ret ?_ | refine eg_then_ret ?_ | refine eg_in_ret ?_ | refine cg_exit ?_ | refine eg_then_exit ?_ | refine eg_in_exit ?_ | refine eg_in_other rfl ?_)
    refine rs rfl rfl (loc_det rfl (d_conv rfl rfl)) ?_
    rw [wrap8, Nat.mod_eq_of_lt (show z < 256 by omega)]
    refine rb rfl rfl rfl rfl (a_slice rfl rfl rfl rfl (by kernel_rfl) rfl) ?_; intro b3 k3 hb3 hN3 hle3 hk3
    have c3 := cells_at (vs := [Value.int .u8 (z : Int)]) hk3 rfl
    refine rapB rfl rfl rfl rfl rfl rfl rfl (hrow.le hle3) c3 (by rw [List.length_append]; simp only; omega) ?_
    intro v4 k4 hrow4 ht4
    repeat (first | refine cg_seq ?_ | refine cg_region ?_ | refine rg_nil ?_ | refine eg_then ?_ | refine qsp ?_ | refine qsn ?_ | refine qsa ?_ | refine qss ?_ | refine qsi ?_ | refine qsz ?_ | refine qsl ?_ | refine qsg ?_ | refine qsf ?_ | refine qsd ?_ | refine qsE ?_ | refine qsX ?_ | refine qse ?_ | refine qsx ?_ | refine qso ?_ | refine cg_cond_true rfl ?_ | refine cg_cond_false rfl ?_ | refine cg_skip ?_ | refine cg_block ?_ | refine eg_in_normal ?_ | refine cg_ret ?_ | refine eg_then_ret ?_ | refine eg_in_ret ?_ | refine cg_exit ?_ | refine eg_then_exit ?_ | refine eg_in_exit ?_ | refine eg_in_other rfl ?_)
    refine eg_return rfl rfl ?_
    rw [hzz, varL_lt hlt, ← List.append_assoc]
    exact hrow4

/-- A text's bytes. -/
def strB (s : ByteArray) : List Nat := s.data.toList.map (·.toNat)
theorem strB_len (s : ByteArray) : (strB s).length = s.size := by
  unfold strB
  rw [List.length_map, Array.length_toList]
  rfl
theorem strB_bytes (s : ByteArray) : Bytes (strB s) := fun x hx => by
  unfold strB at hx
  obtain ⟨b, _, rfl⟩ := List.mem_map.1 hx
  exact b.toNat_lt
theorem strB_cells (s : ByteArray) : Lib.strCells s = (strB s).flatMap u8V := by
  unfold Lib.strCells strB
  rw [List.flatMap_map]
  induction s.data.toList with
  | nil => rfl
  | cons b l ih => rw [List.map_cons, List.flatMap_cons, ← ih]; rfl
def textL (s : ByteArray) : List Nat := varL (zigN (s.size : Int)) ++ strB s
set_option maxHeartbeats 400000 in
theorem putText_ct {k : PH} {a : Option Addr} {c : Nat} {bs : List Nat} {s : ByteArray} (h : Sl tU8 k a c bs) (hb : bs.length ≤ 10000000) (hs : s.size ≤ 100000000) :
    CTN Try.prog 155 #[.slice a bs.length c, .string s] k (fun N k' v => BRow N k' v (bs ++ textL s)) := by
  refine ctn_of_body (l := [_, _]) Try.func155 rfl Try.ntmps155 (by simp) (fun N k k' v hle h => h.le hle) fun F hF0 hFm => ?_
  repeat (first | refine cg_seq ?_ | refine cg_region ?_ | refine rg_nil ?_ | refine eg_then ?_ | refine qsp ?_ | refine qsn ?_ | refine qsa ?_ | refine qss ?_ | refine qsi ?_ | refine qsz ?_ | refine qsl ?_ | refine qsg ?_ | refine qsf ?_ | refine qsd ?_ | refine qsE ?_ | refine qsX ?_ | refine qse ?_ | refine qsx ?_ | refine qso ?_ | refine cg_cond_true rfl ?_ | refine cg_cond_false rfl ?_ | refine cg_skip ?_ | refine cg_block ?_ | refine eg_in_normal ?_ | refine cg_ret ?_ | refine eg_then_ret ?_ | refine eg_in_ret ?_ | refine cg_exit ?_ | refine eg_then_exit ?_ | refine eg_in_exit ?_ | refine eg_in_other rfl ?_)
  refine rs rfl rfl (loc_det rfl (d_len_str rfl rfl)) ?_
  refine rvn rfl rfl rfl rfl rfl rfl rfl (putVar_ct h (by omega) (by unfold I64; omega)) ?_
  rintro N1 k1 v1 hN hf1 hle1 hrow1
  repeat (first | refine cg_seq ?_ | refine cg_region ?_ | refine rg_nil ?_ | refine eg_then ?_ | refine qsp ?_ | refine qsn ?_ | refine qsa ?_ | refine qss ?_ | refine qsi ?_ | refine qsz ?_ | refine qsl ?_ | refine qsg ?_ | refine qsf ?_ | refine qsd ?_ | refine qsE ?_ | refine qsX ?_ | refine qse ?_ | refine qsx ?_ | refine qso ?_ | refine cg_cond_true rfl ?_ | refine cg_cond_false rfl ?_ | refine cg_skip ?_ | refine cg_block ?_ | refine eg_in_normal ?_ | refine cg_ret ?_ | refine eg_then_ret ?_ | refine eg_in_ret ?_ | refine cg_exit ?_ | refine eg_then_exit ?_ | refine eg_in_exit ?_ | refine eg_in_other rfl ?_)
  have hvl := varL_ten (zigN_lt (n := (s.size : Int)) (by unfold I64; omega))
  refine rapS rfl rfl rfl rfl rfl rfl rfl (hrow1.N_le hN) (by rw [List.length_append]; omega) ?_
  intro v2 k2 hrow2 ht2
  repeat (first | refine cg_seq ?_ | refine cg_region ?_ | refine rg_nil ?_ | refine eg_then ?_ | refine qsp ?_ | refine qsn ?_ | refine qsa ?_ | refine qss ?_ | refine qsi ?_ | refine qsz ?_ | refine qsl ?_ | refine qsg ?_ | refine qsf ?_ | refine qsd ?_ | refine qsE ?_ | refine qsX ?_ | refine qse ?_ | refine qsx ?_ | refine qso ?_ | refine cg_cond_true rfl ?_ | refine cg_cond_false rfl ?_ | refine cg_skip ?_ | refine cg_block ?_ | refine eg_in_normal ?_ | refine cg_ret ?_ | refine eg_then_ret ?_ | refine eg_in_ret ?_ | refine cg_exit ?_ | refine eg_then_exit ?_ | refine eg_in_exit ?_ | refine eg_in_other rfl ?_)
  refine eg_return rfl rfl ?_
  rw [strB_cells, ← strB_len s, ← List.length_append, ← List.flatMap_append] at hrow2
  unfold textL
  rw [← List.append_assoc, ← strB_len s]
  exact hrow2
set_option maxHeartbeats 400000 in
theorem refPutText_ct {k : PH} {a : Option Addr} {c : Nat} {bs : List Nat} {s : ByteArray} (h : Sl tU8 k a c bs) (hb : bs.length ≤ 10000000) (hs : s.size ≤ 100000000) :
    CTN Try.prog 148 #[.slice a bs.length c, .string s] k (fun N k' v => BRow N k' v (bs ++ textL s)) := by
  refine ctn_of_body (l := [_, _]) Try.func148 rfl Try.ntmps148 (by simp) (fun N k k' v hle h => h.le hle) fun F hF0 hFm => ?_
  repeat (first | refine cg_seq ?_ | refine cg_region ?_ | refine rg_nil ?_ | refine eg_then ?_ | refine qsp ?_ | refine qsn ?_ | refine qsa ?_ | refine qss ?_ | refine qsi ?_ | refine qsz ?_ | refine qsl ?_ | refine qsg ?_ | refine qsf ?_ | refine qsd ?_ | refine qsE ?_ | refine qsX ?_ | refine qse ?_ | refine qsx ?_ | refine qso ?_ | refine cg_cond_true rfl ?_ | refine cg_cond_false rfl ?_ | refine cg_skip ?_ | refine cg_block ?_ | refine eg_in_normal ?_ | refine cg_ret ?_ | refine eg_then_ret ?_ | refine eg_in_ret ?_ | refine cg_exit ?_ | refine eg_then_exit ?_ | refine eg_in_exit ?_ | refine eg_in_other rfl ?_)
  refine rs rfl rfl (loc_det rfl (d_len_str rfl rfl)) ?_
  refine rvn rfl rfl rfl rfl rfl rfl rfl (refPutVar_ct h (by omega) (by unfold I64; omega)) ?_
  rintro N1 k1 v1 hN hf1 hle1 hrow1
  repeat (first | refine cg_seq ?_ | refine cg_region ?_ | refine rg_nil ?_ | refine eg_then ?_ | refine qsp ?_ | refine qsn ?_ | refine qsa ?_ | refine qss ?_ | refine qsi ?_ | refine qsz ?_ | refine qsl ?_ | refine qsg ?_ | refine qsf ?_ | refine qsd ?_ | refine qsE ?_ | refine qsX ?_ | refine qse ?_ | refine qsx ?_ | refine qso ?_ | refine cg_cond_true rfl ?_ | refine cg_cond_false rfl ?_ | refine cg_skip ?_ | refine cg_block ?_ | refine eg_in_normal ?_ | refine cg_ret ?_ | refine eg_then_ret ?_ | refine eg_in_ret ?_ | refine cg_exit ?_ | refine eg_then_exit ?_ | refine eg_in_exit ?_ | refine eg_in_other rfl ?_)
  have hvl := varL_ten (zigN_lt (n := (s.size : Int)) (by unfold I64; omega))
  refine rapS rfl rfl rfl rfl rfl rfl rfl (hrow1.N_le hN) (by rw [List.length_append]; omega) ?_
  intro v2 k2 hrow2 ht2
  repeat (first | refine cg_seq ?_ | refine cg_region ?_ | refine rg_nil ?_ | refine eg_then ?_ | refine qsp ?_ | refine qsn ?_ | refine qsa ?_ | refine qss ?_ | refine qsi ?_ | refine qsz ?_ | refine qsl ?_ | refine qsg ?_ | refine qsf ?_ | refine qsd ?_ | refine qsE ?_ | refine qsX ?_ | refine qse ?_ | refine qsx ?_ | refine qso ?_ | refine cg_cond_true rfl ?_ | refine cg_cond_false rfl ?_ | refine cg_skip ?_ | refine cg_block ?_ | refine eg_in_normal ?_ | refine cg_ret ?_ | refine eg_then_ret ?_ | refine eg_in_ret ?_ | refine cg_exit ?_ | refine eg_then_exit ?_ | refine eg_in_exit ?_ | refine eg_in_other rfl ?_)
  refine eg_return rfl rfl ?_
  rw [strB_cells, ← strB_len s, ← List.length_append, ← List.flatMap_append] at hrow2
  unfold textL
  rw [← List.append_assoc, ← strB_len s]
  exact hrow2
end Go.Wm

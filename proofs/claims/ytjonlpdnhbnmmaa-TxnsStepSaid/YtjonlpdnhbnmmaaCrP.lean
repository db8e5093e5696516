/-
  Sums of bytes in plain Lean: a table of 16 serves. Conditions: none.
-/
import Derived.Test.YtjonlpdnhbnmmaaO2
import Derived.Test.YtjonlpdnhbnmmaaDat
set_option linter.all false
namespace Go.Wm
open Go.RowKit Go.Proofs
attribute [local irreducible] RG CG EG WA Loc Det Alc CT Exit.then Exit.inBlock Code.wp bodyPost

/-- The bytes of a number, the highest one first, of which i are written. -/
def bigL (n k i : Nat) : List Nat := (List.range i).map fun j => n / 256 ^ (k - 1 - j) % 256
theorem bigL_succ (n k i : Nat) : bigL n k (i + 1) = bigL n k i ++ [n / 256 ^ (k - 1 - i) % 256] := by
  simp [bigL, List.range_succ]
theorem bigL_len (n k i : Nat) : (bigL n k i).length = i := by simp [bigL]
theorem bigL_bytes (n k i : Nat) : Bytes (bigL n k i) := fun x hx => by
  unfold bigL at hx
  obtain ⟨j, _, rfl⟩ := List.mem_map.1 hx
  exact Nat.mod_lt _ (by decide)
theorem pow256 (j : Nat) : 2 ^ (8 * j) = 256 ^ j := by rw [Nat.pow_mul]

set_option maxHeartbeats 1000000 in
theorem put4_ct {k : PH} {a : Option Addr} {c : Nat} {bs : List Nat} {n : Nat} (h : Sl tU8 k a c bs) (hb : bs.length ≤ 100000000) (hn : n < 18446744073709551616) :
    CTN Try.prog 142 #[.slice a bs.length c, .int .u64 (n : Int), .int .i64 4] k (fun N k' v => BRow N k' v (bs ++ bigL n 4 4)) := by
  refine ctn_of_body (l := [_, _, _]) Try.func142 rfl Try.ntmps142 (by simp) (fun N k k' v hle h => h.le hle) fun F hF0 hFm => ?_
  repeat (first | refine cg_seq ?_ | refine cg_region ?_ | refine rg_nil ?_ | refine eg_then ?_ | refine qsp ?_ | refine qsn ?_ | refine qsa ?_ | refine qss ?_ | refine qsi ?_ | refine qsz ?_ | refine qsl ?_ | refine qsg ?_ | refine qsf ?_ | refine qsd ?_ | refine qsE ?_ | refine qsX ?_ | refine qse ?_ | refine qsx ?_ | refine qso ?_ | refine cg_cond_true rfl ?_ | refine cg_cond_false rfl ?_ | refine cg_skip ?_ | refine cg_block ?_ | refine eg_in_normal ?_ | refine cg_ret ?_ | refine eg_then_ret ?_ | refine eg_in_ret ?_ | refine cg_exit ?_ | refine eg_then_exit ?_ | refine eg_in_exit ?_ | refine eg_in_other rfl ?_)
  refine rvn rfl rfl rfl rfl rfl rfl rfl (cloneU8_ct h (by omega)) ?_
  rintro N1 k1 v1 hN hf1 hle1 hrow1
  repeat (first | refine cg_seq ?_ | refine cg_region ?_ | refine rg_nil ?_ | refine eg_then ?_ | refine qsp ?_ | refine qsn ?_ | refine qsa ?_ | refine qss ?_ | refine qsi ?_ | refine qsz ?_ | refine qsl ?_ | refine qsg ?_ | refine qsf ?_ | refine qsd ?_ | refine qsE ?_ | refine qsX ?_ | refine qse ?_ | refine qsx ?_ | refine qso ?_ | refine cg_cond_true rfl ?_ | refine cg_cond_false rfl ?_ | refine cg_skip ?_ | refine cg_block ?_ | refine eg_in_normal ?_ | refine cg_ret ?_ | refine eg_then_ret ?_ | refine eg_in_ret ?_ | refine cg_exit ?_ | refine eg_then_exit ?_ | refine eg_in_exit ?_ | refine eg_in_other rfl ?_)
  refine rs rfl rfl (loc_det rfl (d_mulk rfl rfl rfl)) ?_
  repeat (first | refine cg_seq ?_ | refine cg_region ?_ | refine rg_nil ?_ | refine eg_then ?_ | refine qsp ?_ | refine qsn ?_ | refine qsa ?_ | refine qss ?_ | refine qsi ?_ | refine qsz ?_ | refine qsl ?_ | refine qsg ?_ | refine qsf ?_ | refine qsd ?_ | refine qsE ?_ | refine qsX ?_ | refine qse ?_ | refine qsx ?_ | refine qso ?_ | refine cg_cond_true rfl ?_ | refine cg_cond_false rfl ?_ | refine cg_skip ?_ | refine cg_block ?_ | refine eg_in_normal ?_ | refine cg_ret ?_ | refine eg_then_ret ?_ | refine eg_in_ret ?_ | refine cg_exit ?_ | refine eg_then_exit ?_ | refine eg_in_exit ?_ | refine eg_in_other rfl ?_)
  refine cg_loop (fun (i : Nat) e k' => ∃ v, Le k k' ∧ BRow F.w0.heap.size k' v (bs ++ bigL n 4 i) ∧ Apart k v ∧ i ≤ 4 ∧ e = [(1, .is (.int .u64 (n : Int))), (7, .is v), (8, .is (.int .i64 (24 - 8 * (i : Int))))])
    (fun i => 4 - i) 0 ⟨v1, hle1, by simpa [bigL] using hrow1.N_le hN, hrow1.apart hf1, by omega, rfl⟩ ⟨rfl, rfl, by rfl, trivial⟩ ?_
  rintro i e k2 ⟨v, hle, hrow, hap, hi, rfl⟩
  repeat (first | refine cg_seq ?_ | refine cg_region ?_ | refine rg_nil ?_ | refine eg_then ?_ | refine qsp ?_ | refine qsn ?_ | refine qsa ?_ | refine qss ?_ | refine qsi ?_ | refine qsz ?_ | refine qsl ?_ | refine qsg ?_ | refine qsf ?_ | refine qsd ?_ | refine qsE ?_ | refine qsX ?_ | refine qse ?_ | refine qsx ?_ | refine qso ?_ | refine cg_cond_true rfl ?_ | refine cg_cond_false rfl ?_ | refine cg_skip ?_ | refine cg_block ?_ | refine eg_in_normal ?_ | refine cg_ret ?_ | refine eg_then_ret ?_ | refine eg_in_ret ?_ | refine cg_exit ?_ | refine eg_then_exit ?_ | refine eg_in_exit ?_ | refine eg_in_other rfl ?_)
  refine cg_cond rfl (fun h => ?_) (fun h => ?_)
  · have hlt : i < 4 := by simp at h; omega
    repeat (first | refine cg_seq ?_ | refine cg_region ?_ | refine rg_nil ?_ | refine eg_then ?_ | refine qsp ?_ | refine qsn ?_ | refine qsa ?_ | refine qss ?_ | refine qsi ?_ | refine qsz ?_ | refine qsl ?_ | refine qsg ?_ | refine qsf ?_ | refine qsd ?_ | refine qsE ?_ | refine qsX ?_ | refine qse ?_ | refine qsx ?_ | refine qso ?_ | refine cg_cond_true rfl ?_ | refine cg_cond_false rfl ?_ | refine cg_skip ?_ | refine cg_block ?_ | refine eg_in_normal ?_ | refine cg_ret ?_ | refine eg_then_ret ?_ | refine eg_in_ret ?_ | refine cg_exit ?_ | refine eg_then_exit ?_ | refine eg_in_exit ?_ | refine eg_in_other rfl ?_)
    rw [show (24 - 8 * (i : Int)) = ((8 * (4 - 1 - i) : Nat) : Int) by omega]
    refine rs rfl rfl (loc_det rfl (d_shrN rfl rfl rfl (show 8 * (4 - 1 - i) ≤ 64 by omega))) ?_
    rw [pow256]
    refine rs rfl rfl (loc_det rfl (d_conv rfl rfl)) ?_
    rw [wrap8]
    refine rb rfl rfl rfl rfl (a_slice rfl rfl rfl rfl (by kernel_rfl) rfl) ?_; intro b3 k3' hb3 hN3 hle3 hk3
    have c3 := cells_at (vs := [Value.int .u8 ((n / 256 ^ (4 - 1 - i) % 256 : Nat) : Int)]) hk3 rfl
    refine rapB rfl rfl rfl rfl rfl rfl rfl (hrow.le hle3) c3 (by rw [List.length_append, bigL_len]; omega) ?_
    intro v4 k4 hrow4 ht4
    obtain ⟨hle4, hap4⟩ := ht4 k (hle.trans hle3) hap
    repeat (first | refine cg_seq ?_ | refine cg_region ?_ | refine rg_nil ?_ | refine eg_then ?_ | refine qsp ?_ | refine qsn ?_ | refine qsa ?_ | refine qss ?_ | refine qsi ?_ | refine qsz ?_ | refine qsl ?_ | refine qsg ?_ | refine qsf ?_ | refine qsd ?_ | refine qsE ?_ | refine qsX ?_ | refine qse ?_ | refine qsx ?_ | refine qso ?_ | refine cg_cond_true rfl ?_ | refine cg_cond_false rfl ?_ | refine cg_skip ?_ | refine cg_block ?_ | refine eg_in_normal ?_ | refine cg_ret ?_ | refine eg_then_ret ?_ | refine eg_in_ret ?_ | refine cg_exit ?_ | refine eg_then_exit ?_ | refine eg_in_exit ?_ | refine eg_in_other rfl ?_)
    refine eg_again (i + 1) _ ⟨v4, hle4, ?_, hap4, by omega, rfl⟩ (by omega) ⟨rfl, rfl, ?_, trivial⟩
    · rw [bigL_succ, ← List.append_assoc]
      exact hrow4
    · rw [show (24 - 8 * ((i + 1 : Nat) : Int)) = ((8 * (4 - 1 - i) : Nat) : Int) - 8 by omega]
      rfl
  · have hil : i = 4 := by simp at h; omega
    subst hil
    repeat (first | refine cg_seq ?_ | refine cg_region ?_ | refine rg_nil ?_ | refine eg_then ?_ | refine qsp ?_ | refine qsn ?_ | refine qsa ?_ | refine qss ?_ | refine qsi ?_ | refine qsz ?_ | refine qsl ?_ | refine qsg ?_ | refine qsf ?_ | refine qsd ?_ | refine qsE ?_ | refine qsX ?_ | refine qse ?_ | refine qsx ?_ | refine qso ?_ | refine cg_cond_true rfl ?_ | refine cg_cond_false rfl ?_ | refine cg_skip ?_ | refine cg_block ?_ | refine eg_in_normal ?_ | refine cg_ret ?_ | refine eg_then_ret ?_ | refine eg_in_ret ?_ | refine cg_exit ?_ | refine eg_then_exit ?_ | refine eg_in_exit ?_ | refine eg_in_other rfl ?_)
    exact eg_return rfl rfl hrow
end Go.Wm
namespace Go.Wm

def polyN : Nat := 3988292384
def stepN (v : Nat) : Nat := if v % 2 = 1 then (v / 2) ^^^ polyN else v / 2
def stepsN (v : Nat) : Nat → Nat
  | 0 => v
  | n + 1 => stepsN (stepN v) n
def halfN (v : Nat) : Nat := stepsN v 4
def sumFrom (v : Nat) (bs : List Nat) : Nat := bs.foldl (fun v b => stepsN (v ^^^ b) 8) v
def sumL (bs : List Nat) : Nat := 4294967295 ^^^ sumFrom 4294967295 bs
theorem stepN_lt {v : Nat} (h : v < 4294967296) : stepN v < 4294967296 := by
  unfold stepN
  split
  · exact Nat.xor_lt_two_pow (n := 32) (by omega) (by decide)
  · omega
theorem stepsN_lt : ∀ (n : Nat) {v : Nat}, v < 4294967296 → stepsN v n < 4294967296
  | 0, v, h => h
  | n + 1, v, h => stepsN_lt n (stepN_lt h)
theorem stepsN_add (v : Nat) : ∀ a b : Nat, stepsN v (a + b) = stepsN (stepsN v a) b
  | 0, b => by rw [Nat.zero_add]; rfl
  | a + 1, b => by rw [Nat.succ_add]; exact stepsN_add (stepN v) a b
theorem xor_odd (a b : Nat) : (a ^^^ b) % 2 = (a + b) % 2 := by
  have h := Nat.testBit_xor (x := a) (y := b) (i := 0)
  simp only [Nat.testBit_zero] at h
  rcases Nat.mod_two_eq_zero_or_one a with ha | ha <;> rcases Nat.mod_two_eq_zero_or_one b with hb | hb <;> rcases Nat.mod_two_eq_zero_or_one (a ^^^ b) with hc | hc <;> rw [ha, hb, hc] at h <;> first | (simp at h; done) | omega
theorem stepN_xor (a b : Nat) : stepN (a ^^^ b) = stepN a ^^^ stepN b := by
  unfold stepN
  rw [Nat.xor_div_two, xor_odd]
  rcases Nat.mod_two_eq_zero_or_one a with ha | ha <;> rcases Nat.mod_two_eq_zero_or_one b with hb | hb
  · rw [if_neg (by omega), if_neg (by omega), if_neg (by omega)]
  · rw [if_pos (by omega), if_neg (by omega), if_pos hb, Nat.xor_assoc]
  · rw [if_pos (by omega), if_pos ha, if_neg (by omega), Nat.xor_assoc, Nat.xor_assoc, Nat.xor_comm (b / 2)]
  · rw [if_neg (by omega), if_pos ha, if_pos hb, Nat.xor_assoc, Nat.xor_comm polyN, Nat.xor_assoc, Nat.xor_self, Nat.xor_zero]
theorem stepsN_xor : ∀ (n a b : Nat), stepsN (a ^^^ b) n = stepsN a n ^^^ stepsN b n
  | 0, _, _ => rfl
  | n + 1, a, b => by
    show stepsN (stepN (a ^^^ b)) n = _
    rw [stepN_xor]
    exact stepsN_xor n _ _
theorem stepN_two (v : Nat) : stepN (2 * v) = v := by
  unfold stepN
  rw [if_neg (by omega)]
  omega
theorem half_sixteen (q : Nat) : halfN (16 * q) = q := by
  show stepN (stepN (stepN (stepN (16 * q)))) = q
  rw [show 16 * q = 2 * (2 * (2 * (2 * q))) by omega, stepN_two, stepN_two, stepN_two, stepN_two]
theorem split_sixteen (v : Nat) : v = v % 16 ^^^ 16 * (v / 16) := by
  apply Nat.eq_of_testBit_eq
  intro j
  have hv : v = 2 ^ 4 * (v / 16) + v % 16 := by omega
  conv => lhs; rw [hv]
  rw [Nat.testBit_two_pow_mul_add _ (by omega), Nat.testBit_xor, show 16 * (v / 16) = 2 ^ 4 * (v / 16) by rfl, Nat.testBit_two_pow_mul]
  by_cases hj : j < 4
  · simp [hj, Nat.not_le.2 hj]
  · have h16 : (v % 16).testBit j = false := Nat.testBit_lt_two_pow (Nat.lt_of_lt_of_le (show v % 16 < 2 ^ 4 by omega) (Nat.pow_le_pow_right (by decide) (by omega)))
    simp [hj, h16, Nat.not_lt.1 hj]
/-- Four steps by a table. -/
theorem half_table (v : Nat) : halfN v = halfN (v % 16) ^^^ v / 16 := by
  conv => lhs; rw [split_sixteen v]
  unfold halfN
  rw [stepsN_xor]
  show halfN (v % 16) ^^^ halfN (16 * (v / 16)) = _
  rw [half_sixteen]
  rfl
theorem and_15 (v : Nat) : v &&& 15 = v % 16 := Nat.and_two_pow_sub_one_eq_mod v 4
theorem sumFrom_snoc (v : Nat) (bs : List Nat) (b : Nat) : sumFrom v (bs ++ [b]) = stepsN (sumFrom v bs ^^^ b) 8 := by simp [sumFrom]
theorem sumFrom_lt : ∀ (bs : List Nat) {v : Nat}, v < 4294967296 → (∀ b ∈ bs, b < 256) → sumFrom v bs < 4294967296
  | [], v, h, _ => h
  | b :: bs, v, h, hb => by
    refine sumFrom_lt bs (stepsN_lt 8 (Nat.xor_lt_two_pow (n := 32) h ?_)) fun x hx => hb x (by simp [hx])
    have := hb b (by simp)
    omega
theorem sumL_lt {bs : List Nat} (hb : ∀ b ∈ bs, b < 256) : sumL bs < 4294967296 := Nat.xor_lt_two_pow (n := 32) (by decide) (sumFrom_lt bs (by decide) hb)
end Go.Wm

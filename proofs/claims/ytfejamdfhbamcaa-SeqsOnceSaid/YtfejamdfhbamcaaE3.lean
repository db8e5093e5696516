/-
  Bytes read, the program's: numbers of a few bytes, and of seven bits a byte. Conditions: that what is handed in reads as data.
-/
import Derived.Test.YtfejamdfhbamcaaM4
import Derived.Test.YtfejamdfhbamcaaCoB
set_option linter.all false
namespace Go.Wm
open Go.RowKit Go.Proofs
theorem eg_return3 {P : Program} {F : Fr} {n : Nat} {e : Env} {k : PH} {fn : Func} {φ : PH → Value → Prop} {t u s : Nat} (hr : fn.results = #[.tmp t, .tmp u, .tmp s]) {v x y : Value} (hv : get e t = some (.is v)) (hx : get e u = some (.is x)) (hy : get e s = some (.is y)) (hφ : φ k (.tuple #[v, x, y])) :
    EG F n (bodyPost P fn (RetF F φ) .ret) e k := by
  intro a w ha hs
  have h1 := ha.get t _ hv
  have h2 := ha.get u _ hx
  have h3 := ha.get s _ hy
  exact bodyPost_ret (v := .tuple #[a.tmps.getD t undef, a.tmps.getD u undef, a.tmps.getD s undef]) (by simp [results, hr]) ha.defers ⟨_, k, rfl, hs, by rw [show a.tmps.getD t undef = v from h1, show a.tmps.getD u undef = x from h2, show a.tmps.getD s undef = y from h3]; exact hφ⟩
section
variable {P : Program} {o : Oper} {e : Env} {k : PH} {t t' : TypeId} {x y : Operand}
/-- A number without a sign against 0 or all ones. -/
theorem d_xorS {a : Nat} {b : Int} (hop : o.op = .binOp .xor t x y t') (hx : opv e x = some (.int .i64 (a : Int))) (hy : opv e y = some (.int .i64 b)) (ha : a < 9223372036854775808) (hb : b = 0 ∨ b = -1) : Det P e k o (.int .i64 (if b = 0 then (a : Int) else -(a : Int) - 1)) := by
  intro ev w hev _
  rw [hop] at hev
  have e1 := hev x (by simp [Op.operands]) _ hx
  have e2 := hev y (by simp [Op.operands]) _ hy
  have h6 : (Op.intBits .xor .i64 (a : Int) b).run P w = .ok (.int .i64 (if b = 0 then (a : Int) else -(a : Int) - 1)) w := by
    show Result.ok (Value.int .i64 (IntKind.i64.wrap (((BitVec.ofInt 64 (a : Int) ^^^ BitVec.ofInt 64 b).toNat : Nat) : Int))) w = _
    have e3 : IntKind.i64.wrap ((18446744073709551615 - a : Nat) : Int) = -(a : Int) - 1 := by
      have e4 : ((18446744073709551615 - a : Nat) : Int) = 18446744073709551615 - (a : Int) := by omega
      rw [e4, IntKind.wrap_i64]
      omega
    rcases hb with rfl | rfl
    · rw [if_pos rfl, ofInt_nat, BitVec.toNat_xor, BitVec.toNat_ofNat, show (BitVec.ofInt 64 0).toNat = 0 from rfl, Nat.xor_zero, Nat.mod_eq_of_lt (by omega), wrapi (by unfold I64; omega)]
    · rw [if_neg (by omega), ofInt_nat, BitVec.toNat_xor, BitVec.toNat_ofNat, show (BitVec.ofInt 64 (-1)).toNat = 18446744073709551615 from rfl, Nat.mod_eq_of_lt (by omega), xor_ones (by omega), e3]
  simp [execOp, hop, e1, e2, eqGuard, binOp, h6]
end
attribute [local irreducible] RG CG EG WA Loc Det Alc CT Exit.then Exit.inBlock Code.wp bodyPost

theorem sl_u8 {k : PH} {a : Option Addr} {c : Nat} {bs : List Nat} (h : Sl tU8 k a c bs) {i : Nat} (hi : i < bs.length) : ∃ b off, a = some ⟨b, off, none⟩ ∧ bs[i] < 256 ∧ Cells k b (off + i * 1) [.int .u8 ((bs[i] : Nat) : Int)] := by
  obtain ⟨bx, ox, cx, rfl, ⟨rfl, h2⟩, hcx⟩ := h.el i bs[i] (List.getElem?_eq_getElem hi)
  exact ⟨bx, ox, rfl, h2, hcx⟩
theorem from_ct {k : PH} {a : Option Addr} {c : Nat} {bs : List Nat} {p : Nat} (h : Sl tU8 k a c bs) (hp : p ≤ 9223372036854775807) :
    CT Try.prog 161 #[.slice a bs.length c, .int .i64 (p : Int)] k (fun _ r => r = .slice (shiftA c (min p bs.length) 1 a) (bs.drop p).length (c - min p bs.length)) := by
  refine ct_of_body (l := [_, _]) Try.func161 rfl Try.ntmps161 (by simp) (fun _ _ _ _ h => h) fun F hF0 hFm => ?_
  have b1 := h.cap; have b2 := h.max; unfold maxLen at b2
  have hm : (if (bs.length : Int) < (p : Int) then (bs.length : Int) else (p : Int)) = ((min p bs.length : Nat) : Int) := by split <;> omega
  repeat (first | refine cg_seq ?_ | refine cg_region ?_ | refine rg_nil ?_ | refine eg_then ?_ | refine qsp ?_ | refine qsn ?_)
  refine rs rfl rfl (loc_det rfl (d_min rfl rfl rfl)) ?_
  rw [hm]
  refine rs rfl rfl (loc_det rfl (d_suf h rfl rfl rfl (by omega))) ?_
  have hl : (bs.drop (min p bs.length)).length = (bs.drop p).length := by simp only [List.length_drop]; omega
  rw [hl]
  repeat (first | refine rg_nil ?_ | refine eg_then ?_ | refine qsp ?_ | refine cg_ret ?_)
  exact eg_return rfl rfl rfl
theorem sl_from {k : PH} {a : Option Addr} {c : Nat} {bs : List Nat} (h : Sl tU8 k a c bs) (p : Nat) : Sl tU8 k (shiftA c (min p bs.length) 1 a) (c - min p bs.length) (bs.drop p) := by
  have := h.drop (i := min p bs.length) (by omega)
  have e : bs.drop (min p bs.length) = bs.drop p := by
    by_cases hp : p ≤ bs.length
    · rw [Nat.min_eq_left hp]
    · rw [Nat.min_eq_right (by omega), List.drop_eq_nil_of_le (Nat.le_refl _), List.drop_eq_nil_of_le (by omega)]
  rw [e] at this
  exact this
theorem or_256 {n x : Nat} (hx : x < 256) : n * 2 ^ 8 ||| x = n * 256 + x := by
  rw [← Nat.shiftLeft_eq, ← Nat.shiftLeft_add_eq_or_of_lt hx, Nat.shiftLeft_eq]
set_option maxHeartbeats 1000000 in
theorem get_ct {k : PH} {a : Option Addr} {c : Nat} {bs : List Nat} {p : Int} {w : Nat} (h : Sl tU8 k a c bs) (hp : I64 p) (hw : 1 ≤ w) (hw8 : w ≤ 8) (hl : bs.length ≤ 100000000) :
    CT Try.prog 89 #[.slice a bs.length c, .int .i64 p, .int .i64 (w : Int)] k (fun _ r => r = .tuple #[.int .u64 ((getR bs p w).1 : Nat), .int .i64 (getR bs p w).2]) := by
  refine ct_of_body (l := [_, _, _]) Try.func89 rfl Try.ntmps89 (by simp) (fun _ _ _ _ h => h) fun F hF0 hFm => ?_
  have b1 := h.cap; have b2 := h.max; unfold maxLen at b2
  have q1 : decide ((w : Int) < 1) = false := by simp; omega
  have q2 : decide ((w : Int) > 8) = false := by simp; omega
  repeat (first | refine cg_seq ?_ | refine cg_region ?_ | refine rg_nil ?_ | refine eg_then ?_ | refine qsp ?_)
  rw [q1]
  repeat (first | refine qsp ?_)
  rw [q2]
  repeat (first | refine rg_nil ?_ | refine eg_then ?_ | refine qsp ?_)
  unfold I64 at hp
  cases q : decide (p < 0)
  case true =>
    repeat (first | refine cg_seq ?_ | refine cg_region ?_ | refine rg_nil ?_ | refine eg_then ?_ | refine qsp ?_ | refine cg_cond_true rfl ?_ | refine cg_ret ?_ | refine eg_then_ret ?_)
    refine eg_return2 rfl rfl rfl ?_
    unfold getR; rw [if_pos (of_decide_eq_true q)]; rfl
  have hp0 : ¬ p < 0 := of_decide_eq_false q
  obtain ⟨m, rfl⟩ : ∃ m : Nat, p = (m : Int) := ⟨p.toNat, by omega⟩
  repeat (first | refine cg_seq ?_ | refine cg_region ?_ | refine eg_then ?_ | refine qsp ?_ | refine cg_cond_false rfl ?_ | refine cg_skip ?_)
  refine rs rfl rfl (loc_call_is rfl rfl rfl rfl (from_ct h (by omega))) ?_
  repeat (first | refine cg_seq ?_ | refine cg_region ?_ | refine rg_nil ?_ | refine eg_then ?_ | refine qsp ?_ | refine qsn ?_)
  cases q3 : decide ((((bs.drop m).length : Nat) : Int) < (w : Int))
  case true =>
    repeat (first | refine cg_seq ?_ | refine cg_region ?_ | refine rg_nil ?_ | refine eg_then ?_ | refine qsp ?_ | refine cg_cond_true rfl ?_ | refine cg_ret ?_ | refine eg_then_ret ?_)
    refine eg_return2 rfl rfl rfl ?_
    have := of_decide_eq_true q3
    rw [List.length_drop] at this
    unfold getR; rw [if_neg hp0, if_pos (by rw [Int.toNat_natCast]; omega)]; rfl
  have h3 := of_decide_eq_false q3
  have hfr := sl_from h m
  obtain ⟨seg, hseg⟩ : ∃ seg, (bs.drop m).take w = seg := ⟨_, rfl⟩
  have hsl : seg.length = w := by rw [← hseg, List.length_take]; omega
  have htk := hfr.take w
  rw [hseg] at htk
  repeat (first | refine cg_seq ?_ | refine cg_region ?_ | refine rg_nil ?_ | refine eg_then ?_ | refine qsp ?_ | refine cg_cond_false rfl ?_ | refine cg_skip ?_)
  refine rs rfl rfl (loc_det rfl (d_pre hfr rfl rfl rfl (by omega))) ?_
  rw [hseg]
  obtain ⟨a', ha'⟩ : ∃ a', shiftA c (min m bs.length) 1 a = a' := ⟨_, rfl⟩
  rw [ha'] at htk ⊢
  repeat (first | refine rg_nil ?_ | refine eg_then ?_ | refine qsp ?_ | refine qsn ?_ | refine cg_block ?_)
  have hby := sl_bytes htk
  refine cg_loop (fun (i : Nat) e k' => k' = k ∧ i ≤ w ∧ e = [(9, .is (.int .u64 ((fromL (seg.take i) : Nat) : Int))), (31, .is (.slice a' seg.length (c - min m bs.length))), (32, .is (.int .i64 (w : Int))), (33, .is (.int .i64 (i : Int)))])
    (fun i => w - i) 0 ⟨rfl, by omega, rfl⟩ ⟨rfl, rfl, by rw [hsl]; rfl, rfl, trivial⟩ ?_
  rintro i e k1 ⟨rfl, hi, rfl⟩
  repeat (first | refine cg_seq ?_ | refine cg_region ?_ | refine rg_nil ?_ | refine eg_then ?_ | refine qsp ?_)
  refine cg_cond rfl (fun h4 => ?_) (fun h4 => ?_)
  · have hlt : i < w := by have := of_decide_eq_true h4; omega
    have hf := fromL_lt (seg.take i) fun x hx => hby x (List.mem_of_mem_take hx)
    rw [List.length_take, hsl, Nat.min_eq_left hi] at hf
    have hpw : 256 ^ i ≤ 256 ^ 7 := Nat.pow_le_pow_right (by decide) (by omega)
    obtain ⟨bx, ox, hax, hx2, hcx⟩ := sl_u8 htk (i := i) (by omega)
    have hf2 : fromL (seg.take i) * 256 < 2 ^ 64 := by
      have e7 : (256 : Nat) ^ 7 = 72057594037927936 := by decide
      omega
    subst hax
    repeat (first | refine cg_seq ?_ | refine cg_region ?_ | refine rg_nil ?_ | refine eg_then ?_ | refine qsp ?_ | refine qsi ?_ | refine qsl ?_ | refine cg_skip ?_ | refine cg_block ?_)
    refine rs rfl rfl (loc_det rfl (d_shlN (b := 8) rfl rfl rfl rfl (by decide))) ?_
    rw [show fromL (seg.take i) * 2 ^ 8 % 2 ^ IntKind.bits .u64 = fromL (seg.take i) * 2 ^ 8 from Nat.mod_eq_of_lt hf2]
    repeat (first | refine qsp ?_)
    refine rs rfl rfl (loc_det rfl (d_conv rfl rfl)) ?_
    rw [wrap64 (by omega)]
    refine rs rfl rfl (loc_det rfl (d_orN rfl rfl rfl rfl hf2 (show seg[i] < 2 ^ 64 by omega))) ?_
    rw [or_256 hx2]
    repeat (first | refine cg_region ?_ | refine rg_nil ?_ | refine eg_then ?_ | refine qsp ?_ | refine qsa ?_ | refine eg_in_normal ?_)
    refine eg_again (i + 1) _ ⟨rfl, hlt, rfl⟩ (by omega) ⟨?_, rfl, rfl, rfl, trivial⟩
    have hil : i < seg.length := by omega
    rw [List.take_succ_eq_append_getElem hil, fromL_snoc]
    rfl
  · have hil : i = w := by have := of_decide_eq_false h4; omega
    subst hil
    repeat (first | refine cg_seq ?_ | refine cg_region ?_ | refine rg_nil ?_ | refine eg_then ?_ | refine qsp ?_ | refine cg_ret ?_ | refine cg_exit ?_ | refine eg_then_exit ?_ | refine eg_in_exit ?_)
    refine eg_return2 rfl rfl rfl ?_
    rw [List.length_drop] at h3
    unfold getR; rw [if_neg hp0, if_neg (by rw [Int.toNat_natCast]; omega), Int.toNat_natCast, hseg, List.take_of_length_le (by omega)]

def varV (q : Int × Int × Int) : Value := .tuple #[.int .i64 q.1, .int .i64 q.2.1, .int .i64 q.2.2]
theorem and_127 (x : Nat) : x &&& 127 = x % 128 := Nat.and_two_pow_sub_one_eq_mod x 7
theorem and_one (x : Nat) : x &&& 1 = x % 2 := Nat.and_two_pow_sub_one_eq_mod x 1
theorem or_unit {z y i : Nat} (hz : z < 128 ^ i) : z ||| y * 128 ^ i = z + y * 128 ^ i := by
  have e : (128 : Nat) ^ i = 2 ^ (7 * i) := by rw [Nat.pow_mul]
  rw [e] at hz ⊢
  rw [Nat.or_comm, ← Nat.shiftLeft_eq, ← Nat.shiftLeft_add_eq_or_of_lt hz, Nat.add_comm]
theorem pow128_le {i : Nat} (h : i ≤ 9) : (128 : Nat) ^ i ≤ 9223372036854775808 := Nat.le_trans (Nat.pow_le_pow_right (by decide) h) (by decide)
theorem var_next {z x i : Nat} (hz : z < 128 ^ i) (hx : x < 128) : z + x * 128 ^ i < 128 ^ (i + 1) := by
  rw [pow128]
  have : (x + 1) * 128 ^ i ≤ 128 * 128 ^ i := Nat.mul_le_mul_right _ hx
  rw [Nat.add_mul] at this; omega
/-- What the code's bits say of a number is what the document says. -/
theorem unzig_bits {z : Nat} (hz : z < 18446744073709551616) : (if -((z % 2 : Nat) : Int) = 0 then ((z / 2 : Nat) : Int) else -((z / 2 : Nat) : Int) - 1) = unzig z := by
  unfold unzig
  split <;> split <;> omega
theorem varR_cons (i z x : Nat) (r : List Nat) : varR i z (x :: r) = if (i = 9 ∧ 1 < x) ∨ (0 < i ∧ x = 0) then ((0, 0), 11) else if x < 128 then ((z + x * 128 ^ i, i + 1), 0) else varR (i + 1) (z + (x - 128) * 128 ^ i) r := rfl
set_option maxHeartbeats 4000000 in
theorem getVar_ct {k : PH} {a : Option Addr} {c : Nat} {bs : List Nat} {p : Int} (h : Sl tU8 k a c bs) (hp : I64 p) (hl : bs.length ≤ 100000000) :
    CT Try.prog 199 #[.slice a bs.length c, .int .i64 p] k (fun _ r => r = varV (getVarR bs p)) := by
  refine ct_of_body (l := [_, _]) Try.func199 rfl Try.ntmps199 (by simp) (fun _ _ _ _ h => h) fun F hF0 hFm => ?_
  have b1 := h.cap; have b2 := h.max; unfold maxLen at b2
  unfold I64 at hp
  repeat (first | refine cg_seq ?_ | refine cg_region ?_ | refine rg_nil ?_ | refine eg_then ?_ | refine qsp ?_)
  cases q : decide (p < 0)
  case true =>
    repeat (first | refine cg_seq ?_ | refine cg_region ?_ | refine rg_nil ?_ | refine eg_then ?_ | refine qsp ?_ | refine cg_cond_true rfl ?_ | refine cg_ret ?_ | refine eg_then_ret ?_)
    refine eg_return3 rfl rfl rfl rfl ?_
    unfold getVarR; rw [if_pos (of_decide_eq_true q)]; rfl
  have hp0 : ¬ p < 0 := of_decide_eq_false q
  obtain ⟨m, rfl⟩ : ∃ m : Nat, p = (m : Int) := ⟨p.toNat, by omega⟩
  have hg : getVarR bs (m : Int) = if (varR 0 0 (bs.drop m)).2 = 0 then (unzig (varR 0 0 (bs.drop m)).1.1, (m : Int) + ((varR 0 0 (bs.drop m)).1.2 : Nat), 0) else (0, 0, (varR 0 0 (bs.drop m)).2) := by
    unfold getVarR; rw [if_neg hp0]; rfl
  repeat (first | refine cg_seq ?_ | refine cg_region ?_ | refine rg_nil ?_ | refine eg_then ?_ | refine qsp ?_ | refine cg_cond_false rfl ?_ | refine cg_skip ?_)
  refine rs rfl rfl (loc_call_is rfl rfl rfl rfl (from_ct h (by omega))) ?_
  repeat (first | refine rg_nil ?_ | refine eg_then ?_ | refine qsp ?_ | refine qsn ?_ | refine cg_block ?_)
  have hfr := sl_from h m
  have hby := sl_bytes hfr
  obtain ⟨seg, hseg⟩ : ∃ seg, bs.drop m = seg := ⟨_, rfl⟩
  have hsl : seg.length = bs.length - m := by rw [← hseg, List.length_drop]
  rw [hseg] at hfr hby hg ⊢
  obtain ⟨a', ha'⟩ : ∃ a', shiftA c (min m bs.length) 1 a = a' := ⟨_, rfl⟩
  rw [ha'] at hfr ⊢
  refine cg_loop (fun (x : Nat × Nat) e k' => k' = k ∧ x.1 ≤ 9 ∧ x.1 ≤ seg.length ∧ x.2 < 128 ^ x.1 ∧ varR 0 0 seg = varR x.1 x.2 (seg.drop x.1) ∧ e = [(1, .is (.int .i64 (m : Int))), (7, .is (.int .u64 (x.2 : Int))), (14, .is (.slice a' seg.length (c - min m bs.length))), (15, .is (.int .i64 (seg.length : Int))), (16, .is (.int .i64 (x.1 : Int)))])
    (fun x => seg.length - x.1) (0, 0) ⟨rfl, by omega, by omega, by decide, rfl, rfl⟩ ⟨rfl, rfl, rfl, rfl, rfl, trivial⟩ ?_
  rintro ⟨i, z⟩ e k1 ⟨rfl, hi9, hi, hz, hv, rfl⟩
  simp only at hi9 hi hz hv
  simp only
  have hpl := pow128_le hi9
  repeat (first | refine cg_seq ?_ | refine cg_region ?_ | refine rg_nil ?_ | refine eg_then ?_ | refine qsp ?_)
  refine cg_cond rfl (fun h4 => ?_) (fun h4 => ?_)
  · have hlt : i < seg.length := by have := of_decide_eq_true h4; omega
    obtain ⟨bx, ox, hax, hx2, hcx⟩ := sl_u8 hfr hlt
    obtain ⟨x, hx⟩ : ∃ x, seg[i] = x := ⟨_, rfl⟩
    have hdr : seg.drop i = x :: seg.drop (i + 1) := by rw [List.drop_eq_getElem_cons hlt, hx]
    rw [hdr, varR_cons] at hv
    rw [hx] at hx2 hcx
    subst hax
    repeat (first | refine cg_seq ?_ | refine cg_region ?_ | refine rg_nil ?_ | refine eg_then ?_ | refine qsp ?_ | refine qsi ?_ | refine qsl ?_ | refine cg_skip ?_ | refine cg_block ?_)
    apply meetR [(35, .is (.int .u64 (z : Int))), (36, .is (.int .u8 (x : Int))), (1, .is (.int .i64 (m : Int))), (7, .is (.int .u64 (z : Int))), (8, .is (.int .i64 (i : Int))), (9, .is (.int .u8 (x : Int))), (14, .is (.slice (some ⟨bx, ox, none⟩) seg.length (c - min m bs.length))), (15, .is (.int .i64 (seg.length : Int))), (16, .is (.int .i64 (i : Int)))] (¬ ((i = 9 ∧ 1 < x) ∨ (0 < i ∧ x = 0)))
    · intro go
      by_cases h9 : i = 9
      · rw [show (((i : Nat) : Int) == 9) = true by simp; omega]
        repeat (first | refine qsp ?_)
        refine rs rfl rfl (loc_det rfl (d_cmp rfl rfl rfl rfl)) ?_
        repeat (first | refine qsp ?_)
        cases q27 : decide (((x : Nat) : Int) > 1)
        · have h27 := of_decide_eq_false q27
          repeat (first | refine qsp ?_)
          rw [show decide (((i : Nat) : Int) > 0) = true by simp; omega]
          repeat (first | refine qsp ?_)
          refine rs rfl rfl (loc_det rfl (d_cmp rfl rfl rfl rfl)) ?_
          repeat (first | refine rg_nil ?_ | refine eg_then ?_ | refine qsp ?_)
          cases q32 : (((x : Nat) : Int) == 0)
          · repeat (first | refine cg_seq ?_ | refine cg_region ?_ | refine eg_then ?_ | refine qsp ?_ | refine cg_cond_false rfl ?_ | refine cg_skip ?_)
            exact go _ (by simp at q32; omega) ⟨rfl, rfl, rfl, rfl, rfl, rfl, rfl, rfl, rfl, trivial⟩
          · repeat (first | refine cg_seq ?_ | refine cg_region ?_ | refine rg_nil ?_ | refine eg_then ?_ | refine qsp ?_ | refine cg_cond_true rfl ?_ | refine cg_ret ?_ | refine eg_then_ret ?_ | refine eg_in_ret ?_)
            refine eg_return3 rfl rfl rfl rfl ?_
            rw [if_pos (.inr ⟨by omega, by simpa using q32⟩)] at hv
            rw [hg, hv]; rfl
        · repeat (first | refine cg_seq ?_ | refine cg_region ?_ | refine rg_nil ?_ | refine eg_then ?_ | refine qsp ?_ | refine qso ?_ | refine cg_cond_true rfl ?_ | refine cg_ret ?_ | refine eg_then_ret ?_ | refine eg_in_ret ?_)
          refine eg_return3 rfl rfl rfl rfl ?_
          rw [if_pos (.inl ⟨h9, by have := of_decide_eq_true q27; omega⟩)] at hv
          rw [hg, hv]; rfl
      · rw [show (((i : Nat) : Int) == 9) = false by simp; omega]
        repeat (first | refine qsp ?_ | refine qso ?_)
        by_cases h0 : 0 < i
        · rw [show decide (((i : Nat) : Int) > 0) = true by simp; omega]
          repeat (first | refine qsp ?_)
          refine rs rfl rfl (loc_det rfl (d_cmp rfl rfl rfl rfl)) ?_
          repeat (first | refine rg_nil ?_ | refine eg_then ?_ | refine qsp ?_)
          cases q32 : (((x : Nat) : Int) == 0)
          · repeat (first | refine cg_seq ?_ | refine cg_region ?_ | refine eg_then ?_ | refine qsp ?_ | refine cg_cond_false rfl ?_ | refine cg_skip ?_)
            exact go _ (by simp at q32; omega) ⟨rfl, rfl, rfl, rfl, rfl, rfl, rfl, rfl, rfl, trivial⟩
          · repeat (first | refine cg_seq ?_ | refine cg_region ?_ | refine rg_nil ?_ | refine eg_then ?_ | refine qsp ?_ | refine cg_cond_true rfl ?_ | refine cg_ret ?_ | refine eg_then_ret ?_ | refine eg_in_ret ?_)
            refine eg_return3 rfl rfl rfl rfl ?_
            rw [if_pos (.inr ⟨by omega, by simpa using q32⟩)] at hv
            rw [hg, hv]; rfl
        · rw [show decide (((i : Nat) : Int) > 0) = false by simp; omega]
          repeat (first | refine cg_seq ?_ | refine cg_region ?_ | refine rg_nil ?_ | refine eg_then ?_ | refine qsp ?_ | refine qso ?_ | refine cg_cond_false rfl ?_ | refine cg_skip ?_)
          exact go _ (by omega) ⟨rfl, rfl, rfl, rfl, rfl, rfl, rfl, rfl, rfl, trivial⟩
    · intro hnb
      rw [if_neg hnb] at hv
      refine rs rfl rfl (loc_det rfl (d_andN (kd := .u8) (b := 127) rfl rfl rfl rfl hx2 (by decide))) ?_
      rw [and_127]
      refine rs rfl rfl (loc_det rfl (d_conv rfl rfl)) ?_
      rw [wrap64 (by omega)]
      repeat (first | refine qsp ?_)
      refine rs rfl rfl (loc_det rfl (d_mul rfl rfl rfl (by omega) (by omega))) ?_
      rw [show (7 : Int) * ((i : Nat) : Int) = ((7 * i : Nat) : Int) by omega]
      refine rs rfl rfl (loc_det rfl (d_shlN (b := 7 * i) rfl rfl rfl rfl (show 7 * i ≤ 64 by omega))) ?_
      have hx1 : x % 128 * 2 ^ (7 * i) = x % 128 * 128 ^ i := by rw [Nat.pow_mul]
      have hx3 : x % 128 * 128 ^ i < 18446744073709551616 := by
        by_cases h9 : i = 9
        · have : x ≤ 1 := by omega
          have : x % 128 * 128 ^ i ≤ 1 * 128 ^ i := Nat.mul_le_mul_right _ (by omega)
          omega
        · have h1 := var_next (z := 0) (x := x % 128) (i := i) (Nat.pow_pos (by decide)) (by omega)
          have h2 := pow128_le (i := i + 1) (by omega)
          omega
      rw [show x % 128 * 2 ^ (7 * i) % 2 ^ IntKind.bits .u64 = x % 128 * 128 ^ i by rw [hx1]; exact Nat.mod_eq_of_lt hx3]
      refine rs rfl rfl (loc_det rfl (d_orN rfl rfl rfl rfl (show z < 2 ^ 64 by omega) hx3)) ?_
      rw [or_unit hz]
      obtain ⟨y, hy⟩ : ∃ y, z + x % 128 * 128 ^ i = y := ⟨_, rfl⟩
      rw [hy]
      repeat (first | refine cg_seq ?_ | refine cg_region ?_ | refine rg_nil ?_ | refine eg_then ?_ | refine qsp ?_)
      refine rs rfl rfl (loc_det rfl (d_cmp rfl rfl rfl rfl)) ?_
      obtain ⟨g44, q44⟩ : ∃ g, decide (((x : Nat) : Int) < ((128 : Nat) : Int)) = g := ⟨_, rfl⟩
      rw [show decide (((x : Nat) : Int) < 128) = g44 from q44]
      repeat (first | refine rg_nil ?_ | refine eg_then ?_)
      cases g44
      · have h44 := of_decide_eq_false q44
        rw [if_neg (by omega)] at hv
        repeat (first | refine cg_region ?_ | refine rg_nil ?_ | refine eg_then ?_ | refine qsp ?_ | refine qsa ?_ | refine cg_cond_false rfl ?_ | refine cg_skip ?_ | refine eg_in_normal ?_)
        have hi8 : i ≠ 9 := fun h9 => hnb (.inl ⟨h9, by omega⟩)
        refine eg_again (i + 1, y) _ ⟨rfl, by simp only; omega, hlt, by rw [← hy]; exact var_next hz (by omega), ?_, rfl⟩ (by simp only; omega) ⟨rfl, rfl, rfl, rfl, rfl, trivial⟩
        simp only
        rw [hv, show x - 128 = x % 128 by omega, hy]
      · have h44 := of_decide_eq_true q44
        rw [if_pos (by omega)] at hv
        have hzz : z + x % 128 * 128 ^ i < 18446744073709551616 := by
          by_cases h9 : i = 9
          · have : x ≤ 1 := by omega
            have : x % 128 * 128 ^ i ≤ 1 * 128 ^ i := Nat.mul_le_mul_right _ (by omega)
            omega
          · have h1 := var_next (z := z) (x := x % 128) (i := i) hz (by omega)
            have h2 := pow128_le (i := i + 1) (by omega)
            omega
        rw [hy] at hzz
        repeat (first | refine cg_seq ?_ | refine cg_region ?_ | refine qsp ?_ | refine cg_cond_true rfl ?_)
        refine rs rfl rfl (loc_det rfl (d_shrN (b := 1) rfl rfl rfl (by decide))) ?_
        refine rs rfl rfl (loc_det rfl (d_conv rfl rfl)) ?_
        rw [show y / 2 ^ 1 = y / 2 by omega, wrapi (by unfold I64; omega)]
        repeat (first | refine qsp ?_)
        refine rs rfl rfl (loc_det rfl (d_andN (kd := .u64) (b := 1) rfl rfl rfl rfl hzz (by decide))) ?_
        rw [and_one]
        refine rs rfl rfl (loc_det rfl (d_conv rfl rfl)) ?_
        rw [wrapi (by unfold I64; omega)]
        refine rs rfl rfl (loc_det rfl (d_negk rfl rfl)) ?_
        rw [wrapi (by unfold I64; omega), show (0 : Int) - ((y % 2 : Nat) : Int) = -((y % 2 : Nat) : Int) by omega]
        refine rs rfl rfl (loc_det rfl (d_xorS rfl rfl rfl (by omega) (by omega))) ?_
        rw [unzig_bits hzz]
        repeat (first | refine rg_nil ?_ | refine eg_then ?_ | refine qsp ?_ | refine qsa ?_ | refine cg_ret ?_ | refine eg_then_ret ?_ | refine eg_in_ret ?_)
        refine eg_return3 rfl rfl rfl rfl ?_
        rw [hg, hv]
        simp only [if_true]
        have hx' : x % 128 = x := Nat.mod_eq_of_lt (by omega)
        rw [hx'] at hy
        rw [hy, show (m : Int) + (i : Int) + 1 = (m : Int) + ((i + 1 : Nat) : Int) by omega]
        rfl
  · have hil : i = seg.length := by have := of_decide_eq_false h4; omega
    rw [hil, List.drop_length] at hv
    repeat (first | refine cg_seq ?_ | refine cg_region ?_ | refine rg_nil ?_ | refine eg_then ?_ | refine qsp ?_ | refine cg_ret ?_ | refine cg_exit ?_ | refine eg_then_exit ?_ | refine eg_in_exit ?_)
    refine eg_return3 rfl rfl rfl rfl ?_
    rw [hg, hv]; rfl
end Go.Wm

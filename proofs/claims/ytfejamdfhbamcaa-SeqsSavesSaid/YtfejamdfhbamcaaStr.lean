/-
  Loops over a text, rune by rune; comparisons of whole numbers of any kind. Conditions: none beyond those of each law.
-/
import Derived.Test.YtfejamdfhbamcaaCoA
import Derived.Test.YtfejamdfhbamcaaCoB
set_option linter.all false
namespace Go.Wm
variable [Dfr]
open Go.RowKit

theorem wrap_uns {kd : IntKind} (h : kd.signed = false) (n : Int) : kd.wrap n = n % (2 ^ kd.bits : Int) := by simp [IntKind.wrap, h]
theorem wrap_nat {kd : IntKind} (h : kd.signed = false) (n : Nat) : kd.wrap (n : Int) = ((n % 2 ^ kd.bits : Nat) : Int) := by
  rw [wrap_uns h]; simp
theorem ofInt_nat (B n : Nat) : BitVec.ofInt B (n : Int) = BitVec.ofNat B n := by simp
section
variable {P : Program} {o : Oper} {e : Env} {k : PH} {t t' : TypeId} {x y : Operand}
/-- Of a kind without a sign. -/
theorem d_xorN {kd : IntKind} {a b : Nat} (hs : kd.signed = false) (hop : o.op = .binOp .xor t x y t') (hx : opv e x = some (.int kd (a : Int))) (hy : opv e y = some (.int kd (b : Int))) (ha : a < 2 ^ kd.bits) (hb : b < 2 ^ kd.bits) : Det P e k o (.int kd ((a ^^^ b : Nat) : Int)) := by
  intro ev w hev _
  rw [hop] at hev
  have e1 := hev x (by simp [Op.operands]) _ hx
  have e2 := hev y (by simp [Op.operands]) _ hy
  have hlt : a ^^^ b < 2 ^ kd.bits := Nat.xor_lt_two_pow ha hb
  have h6 : (Op.intBits .xor kd (a : Int) (b : Int)).run P w = .ok (.int kd ((a ^^^ b : Nat) : Int)) w := by
    show Result.ok (Value.int kd (kd.wrap (((BitVec.ofInt kd.bits (a : Int) ^^^ BitVec.ofInt kd.bits (b : Int)).toNat : Nat) : Int))) w = _
    rw [ofInt_nat, ofInt_nat, BitVec.toNat_xor, BitVec.toNat_ofNat, BitVec.toNat_ofNat, Nat.mod_eq_of_lt ha, Nat.mod_eq_of_lt hb, wrap_nat hs, Nat.mod_eq_of_lt hlt]
  simp [execOp, hop, e1, e2, eqGuard, binOp, h6]
theorem d_andN {kd : IntKind} {a b : Nat} (hs : kd.signed = false) (hop : o.op = .binOp .and t x y t') (hx : opv e x = some (.int kd (a : Int))) (hy : opv e y = some (.int kd (b : Int))) (ha : a < 2 ^ kd.bits) (hb : b < 2 ^ kd.bits) : Det P e k o (.int kd ((a &&& b : Nat) : Int)) := by
  intro ev w hev _
  rw [hop] at hev
  have e1 := hev x (by simp [Op.operands]) _ hx
  have e2 := hev y (by simp [Op.operands]) _ hy
  have hlt : a &&& b < 2 ^ kd.bits := Nat.lt_of_le_of_lt Nat.and_le_left ha
  have h6 : (Op.intBits .and kd (a : Int) (b : Int)).run P w = .ok (.int kd ((a &&& b : Nat) : Int)) w := by
    show Result.ok (Value.int kd (kd.wrap (((BitVec.ofInt kd.bits (a : Int) &&& BitVec.ofInt kd.bits (b : Int)).toNat : Nat) : Int))) w = _
    rw [ofInt_nat, ofInt_nat, BitVec.toNat_and, BitVec.toNat_ofNat, BitVec.toNat_ofNat, Nat.mod_eq_of_lt ha, Nat.mod_eq_of_lt hb, wrap_nat hs, Nat.mod_eq_of_lt hlt]
  simp [execOp, hop, e1, e2, eqGuard, binOp, h6]
theorem d_orN {kd : IntKind} {a b : Nat} (hs : kd.signed = false) (hop : o.op = .binOp .or t x y t') (hx : opv e x = some (.int kd (a : Int))) (hy : opv e y = some (.int kd (b : Int))) (ha : a < 2 ^ kd.bits) (hb : b < 2 ^ kd.bits) : Det P e k o (.int kd ((a ||| b : Nat) : Int)) := by
  intro ev w hev _
  rw [hop] at hev
  have e1 := hev x (by simp [Op.operands]) _ hx
  have e2 := hev y (by simp [Op.operands]) _ hy
  have hlt : a ||| b < 2 ^ kd.bits := Nat.or_lt_two_pow ha hb
  have h6 : (Op.intBits .or kd (a : Int) (b : Int)).run P w = .ok (.int kd ((a ||| b : Nat) : Int)) w := by
    show Result.ok (Value.int kd (kd.wrap (((BitVec.ofInt kd.bits (a : Int) ||| BitVec.ofInt kd.bits (b : Int)).toNat : Nat) : Int))) w = _
    rw [ofInt_nat, ofInt_nat, BitVec.toNat_or, BitVec.toNat_ofNat, BitVec.toNat_ofNat, Nat.mod_eq_of_lt ha, Nat.mod_eq_of_lt hb, wrap_nat hs, Nat.mod_eq_of_lt hlt]
  simp [execOp, hop, e1, e2, eqGuard, binOp, h6]
theorem d_shlN {kd ky : IntKind} {a b : Nat} (hs : kd.signed = false) (hop : o.op = .binOp .shl t x y t') (hx : opv e x = some (.int kd (a : Int))) (hy : opv e y = some (.int ky (b : Int))) (hb : b ≤ kd.bits) : Det P e k o (.int kd ((a * 2 ^ b % 2 ^ kd.bits : Nat) : Int)) := by
  intro ev w hev _
  rw [hop] at hev
  have e1 := hev x (by simp [Op.operands]) _ hx
  have e2 := hev y (by simp [Op.operands]) _ hy
  have h0 : ¬ ((b : Int) < 0) := by omega
  have h1 : min (b : Int).toNat kd.bits = b := by simp; exact Nat.min_eq_left hb
  have h6 : (Op.shift .shl kd (a : Int) ky (b : Int)).run P w = .ok (.int kd ((a * 2 ^ b % 2 ^ kd.bits : Nat) : Int)) w := by
    unfold Op.shift
    rw [if_neg h0]
    show Result.ok (Value.int kd (kd.wrap ((a : Int) * 2 ^ (min (b : Int).toNat kd.bits)))) w = _
    rw [h1, show ((a : Int) * 2 ^ b) = ((a * 2 ^ b : Nat) : Int) by simp, wrap_nat hs]
  simp [execOp, hop, e1, e2, eqGuard, binOp, h6]
theorem d_shrN {kd ky : IntKind} {a b : Nat} (hop : o.op = .binOp .shr t x y t') (hx : opv e x = some (.int kd (a : Int))) (hy : opv e y = some (.int ky (b : Int))) (hb : b ≤ kd.bits) : Det P e k o (.int kd ((a / 2 ^ b : Nat) : Int)) := by
  intro ev w hev _
  rw [hop] at hev
  have e1 := hev x (by simp [Op.operands]) _ hx
  have e2 := hev y (by simp [Op.operands]) _ hy
  have h0 : ¬ ((b : Int) < 0) := by omega
  have h1 : min (b : Int).toNat kd.bits = b := by simp; exact Nat.min_eq_left hb
  have h6 : (Op.shift .shr kd (a : Int) ky (b : Int)).run P w = .ok (.int kd ((a / 2 ^ b : Nat) : Int)) w := by
    unfold Op.shift
    rw [if_neg h0]
    show Result.ok (Value.int kd ((a : Int).fdiv (2 ^ (min (b : Int).toNat kd.bits)))) w = _
    rw [h1]
    congr 2
    rw [Int.fdiv_eq_ediv_of_nonneg _ (by exact Int.pow_nonneg (by decide))]
    simp
  simp [execOp, hop, e1, e2, eqGuard, binOp, h6]
/-- A whole number, shifted to the right by 63: its sign. -/
theorem d_sign {ky : IntKind} {a : Int} (ha : -9223372036854775808 ≤ a ∧ a ≤ 9223372036854775807) (hop : o.op = .binOp .shr t x y t') (hx : opv e x = some (.int .i64 a)) (hy : opv e y = some (.int ky 63)) : Det P e k o (.int .i64 (if a < 0 then -1 else 0)) := by
  intro ev w hev _
  rw [hop] at hev
  have e1 := hev x (by simp [Op.operands]) _ hx
  have e2 := hev y (by simp [Op.operands]) _ hy
  have h6 : (Op.shift .shr .i64 a ky 63).run P w = .ok (.int .i64 (if a < 0 then -1 else 0)) w := by
    show Result.ok (Value.int .i64 (a.fdiv 9223372036854775808)) w = _
    congr 2
    rw [Int.fdiv_eq_ediv_of_nonneg _ (by decide)]
    split <;> omega
  simp [execOp, hop, e1, e2, eqGuard, binOp, h6]
theorem d_addk {kd : IntKind} {a b : Int} (hop : o.op = .binOp .add t x y t') (hx : opv e x = some (.int kd a)) (hy : opv e y = some (.int kd b)) : Det P e k o (.int kd (kd.wrap (a + b))) := by
  intro ev w hev _
  rw [hop] at hev
  have e1 := hev x (by simp [Op.operands]) _ hx
  have e2 := hev y (by simp [Op.operands]) _ hy
  simp [execOp, hop, e1, e2, eqGuard, binOp, Op.intArith]
theorem d_mulk {kd : IntKind} {a b : Int} (hop : o.op = .binOp .mul t x y t') (hx : opv e x = some (.int kd a)) (hy : opv e y = some (.int kd b)) : Det P e k o (.int kd (kd.wrap (a * b))) := by
  intro ev w hev _
  rw [hop] at hev
  have e1 := hev x (by simp [Op.operands]) _ hx
  have e2 := hev y (by simp [Op.operands]) _ hy
  simp [execOp, hop, e1, e2, eqGuard, binOp, Op.intArith]
theorem d_negk {kd : IntKind} {a : Int} (hop : o.op = .unOp .neg t x) (hx : opv e x = some (.int kd a)) : Det P e k o (.int kd (kd.wrap (0 - a))) := by
  intro ev w hev _
  rw [hop] at hev
  have e1 := hev x (by simp [Op.operands]) _ hx
  simp [execOp, hop, e1, Op.unary, Op.intArith]
/-- All bits turned. -/
theorem d_notN {kd : IntKind} {a : Nat} (hs : kd.signed = false) (hop : o.op = .unOp .xor t x) (hx : opv e x = some (.int kd (a : Int))) (ha : a < 2 ^ kd.bits) : Det P e k o (.int kd (((2 ^ kd.bits - 1) ^^^ a : Nat) : Int)) := by
  intro ev w hev _
  rw [hop] at hev
  have e1 := hev x (by simp [Op.operands]) _ hx
  have hpos : 0 < 2 ^ kd.bits := Nat.two_pow_pos _
  have hb : 2 ^ kd.bits - 1 < 2 ^ kd.bits := by omega
  have hlt : (2 ^ kd.bits - 1) ^^^ a < 2 ^ kd.bits := Nat.xor_lt_two_pow hb ha
  have hm : kd.max = ((2 ^ kd.bits - 1 : Nat) : Int) := by
    unfold IntKind.max
    rw [hs]
    simp only [Bool.false_eq_true, if_false]
    rw [Int.ofNat_sub hpos]
    simp
  have h6 : (Op.intBits .xor kd kd.max (a : Int)).run P w = .ok (.int kd (((2 ^ kd.bits - 1) ^^^ a : Nat) : Int)) w := by
    rw [hm]
    show Result.ok (Value.int kd (kd.wrap (((BitVec.ofInt kd.bits ((2 ^ kd.bits - 1 : Nat) : Int) ^^^ BitVec.ofInt kd.bits (a : Int)).toNat : Nat) : Int))) w = _
    rw [ofInt_nat, ofInt_nat, BitVec.toNat_xor, BitVec.toNat_ofNat, BitVec.toNat_ofNat, Nat.mod_eq_of_lt ha, Nat.mod_eq_of_lt hb, wrap_nat hs, Nat.mod_eq_of_lt hlt]
  simp [execOp, hop, e1, Op.unary, hs, h6]
theorem d_quoN {kd : IntKind} {a b : Nat} (hs : kd.signed = false) (hop : o.op = .binOp .quo t x y t') (hx : opv e x = some (.int kd (a : Int))) (hy : opv e y = some (.int kd (b : Int))) (hb : 0 < b) (ha : a < 2 ^ kd.bits) : Det P e k o (.int kd ((a / b : Nat) : Int)) := by
  intro ev w hev _
  rw [hop] at hev
  have e1 := hev x (by simp [Op.operands]) _ hx
  have e2 := hev y (by simp [Op.operands]) _ hy
  have h0 : ¬ (b : Int) = 0 := by omega
  have h2 : ((a : Int).tdiv (b : Int)) = ((a / b : Nat) : Int) := rfl
  have h3 : a / b < 2 ^ kd.bits := Nat.lt_of_le_of_lt (Nat.div_le_self _ _) ha
  have h4 : kd.wrap ((a / b : Nat) : Int) = ((a / b : Nat) : Int) := by rw [wrap_nat hs, Nat.mod_eq_of_lt h3]
  simp only [execOp, hop, e1, e2, eqGuard, binOp, Op.intDiv, h0, if_false, h2, h4]
  simp
theorem d_remN {kd : IntKind} {a b : Nat} (hop : o.op = .binOp .rem t x y t') (hx : opv e x = some (.int kd (a : Int))) (hy : opv e y = some (.int kd (b : Int))) (hb : 0 < b) : Det P e k o (.int kd ((a % b : Nat) : Int)) := by
  intro ev w hev _
  rw [hop] at hev
  have e1 := hev x (by simp [Op.operands]) _ hx
  have e2 := hev y (by simp [Op.operands]) _ hy
  have h0 : ¬ (b : Int) = 0 := by omega
  have h2 : ((a : Int).tmod (b : Int)) = ((a % b : Nat) : Int) := rfl
  simp only [execOp, hop, e1, e2, eqGuard, binOp, Op.intDiv, h0, if_false, h2]
  simp
/-- A whole number becomes one of another kind. -/
theorem d_conv {src dst : TypeId} {d : TypeDesc} {kd kx : IntKind} {a : Int} [hs : TyU P src d] [hd : TyU P dst (.int kd)] (hop : o.op = .convert src dst x) (hx : opv e x = some (.int kx a)) : Det P e k o (.int kd (kd.wrap a)) := by
  intro ev w hev _
  rw [hop] at hev
  have e1 := hev x (by simp [Op.operands]) _ hx
  have : (convert src dst (.int kx a)).run P w = .ok (.int kd (kd.wrap a)) w := by
    simp [convert, run_underlying hs.eq, run_underlying hd.eq, Conv.intToInt]
  simp [execOp, hop, e1, this]
/-- A place in an array. -/
theorem d_idxA {et : TypeId} {ix : Operand} {b off L i sz bs : Nat} {z : Value} {kd : IntKind} [h : TyU P t (.array L et)] [hi : TyI P et sz bs z] (hop : o.op = .indexAddr t x ix) (hx : opv e x = some (.pointer (some ⟨b, off, none⟩)))
    (hy : opv e ix = some (.int kd (i : Int))) (hlt : i < L) : Det P e k o (.pointer (some ⟨b, off + i * sz, none⟩)) := by
  intro ev w hev _
  rw [hop] at hev
  obtain ⟨inf, hi1, hi2, _⟩ := hi.eq
  have h3 : (i : Int) < (L : Int) := by omega
  simp [execOp, hop, hev x (by simp [Op.operands]) _ hx, hev ix (by simp [Op.operands]) _ hy, Instr.indexAt, Instr.sureAddr, asIntOf, run_underlying h.eq, h3, run_size hi1, hi2, addr_add, Nat.not_le.2 hlt, hlt]
end
end Go.Wm
namespace Go.Wm
variable [Dfr]
open Go.RowKit

section
variable {P : Program} {F : Fr} {n : Nat} {ops : Array Oper} {Q : Exit → Act → World → Prop} {rest : List Oper} {o : Oper} {e : Env} {k : PH}
/-- Whole numbers of one kind, held against each other. -/
theorem d_cmp {op : BinOp} {t t' : TypeId} {x y : Operand} {kd : IntKind} {a b : Int} {r : Bool} (hop : o.op = .binOp op t x y t') (hx : opv e x = some (.int kd a)) (hy : opv e y = some (.int kd b)) (hr : cmpI op a b = some r) : Det P e k o (.bool r) := by
  intro ev w hev _
  rw [hop] at hev
  have h1 := hev x (by simp [Op.operands]) _ hx
  have h2 := hev y (by simp [Op.operands]) _ hy
  cases op <;> simp only [cmpI] at hr <;> cases hr <;> simp [execOp, hop, h1, h2, eqGuard, binOp, Op.intCmp, pure, Sem.run, bind, Sem.bind]
end
end Go.Wm

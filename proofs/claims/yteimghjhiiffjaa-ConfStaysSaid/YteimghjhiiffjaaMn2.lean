/-
  Bits of whole numbers that are no less than 0; '==' of texts as a value. Conditions: the bounds.
-/
import Derived.Test.YteimghjhiiffjaaCoB
import Derived.Test.YteimghjhiiffjaaC1
set_option linter.all false
namespace Go.Wm
open Go.RowKit
variable {P : Program} {o : Oper} {e : Env} {k : PH} {t t' : TypeId} {x y : Operand}
theorem d_orI {a b : Nat} (hop : o.op = .binOp .or t x y t') (hx : opv e x = some (.int .i64 (a : Int))) (hy : opv e y = some (.int .i64 (b : Int))) (ha : a < 2 ^ 62) (hb : b < 2 ^ 62) : Det P e k o (.int .i64 ((a ||| b : Nat) : Int)) := by
  intro ev w hev _
  rw [hop] at hev
  have e1 := hev x (by simp [Op.operands]) _ hx
  have e2 := hev y (by simp [Op.operands]) _ hy
  have hlt : a ||| b < 2 ^ 62 := Nat.or_lt_two_pow ha hb
  have h4 : IntKind.i64.wrap ((a ||| b : Nat) : Int) = ((a ||| b : Nat) : Int) := by rw [IntKind.wrap_i64]; omega
  have h6 : (Op.intBits .or .i64 (a : Int) (b : Int)).run P w = .ok (.int .i64 ((a ||| b : Nat) : Int)) w := by
    show Result.ok (Value.int .i64 (IntKind.i64.wrap (((BitVec.ofInt 64 (a : Int) ||| BitVec.ofInt 64 (b : Int)).toNat : Nat) : Int))) w = _
    rw [ofInt_nat, ofInt_nat, BitVec.toNat_or, BitVec.toNat_ofNat, BitVec.toNat_ofNat, Nat.mod_eq_of_lt (by omega), Nat.mod_eq_of_lt (by omega), h4]
  simp [execOp, hop, e1, e2, eqGuard, binOp, h6]
theorem d_andI {a b : Nat} (hop : o.op = .binOp .and t x y t') (hx : opv e x = some (.int .i64 (a : Int))) (hy : opv e y = some (.int .i64 (b : Int))) (ha : a < 2 ^ 62) (hb : b < 2 ^ 62) : Det P e k o (.int .i64 ((a &&& b : Nat) : Int)) := by
  intro ev w hev _
  rw [hop] at hev
  have e1 := hev x (by simp [Op.operands]) _ hx
  have e2 := hev y (by simp [Op.operands]) _ hy
  have hlt : a &&& b < 2 ^ 62 := Nat.lt_of_le_of_lt Nat.and_le_left ha
  have h4 : IntKind.i64.wrap ((a &&& b : Nat) : Int) = ((a &&& b : Nat) : Int) := by rw [IntKind.wrap_i64]; omega
  have h6 : (Op.intBits .and .i64 (a : Int) (b : Int)).run P w = .ok (.int .i64 ((a &&& b : Nat) : Int)) w := by
    show Result.ok (Value.int .i64 (IntKind.i64.wrap (((BitVec.ofInt 64 (a : Int) &&& BitVec.ofInt 64 (b : Int)).toNat : Nat) : Int))) w = _
    rw [ofInt_nat, ofInt_nat, BitVec.toNat_and, BitVec.toNat_ofNat, BitVec.toNat_ofNat, Nat.mod_eq_of_lt (by omega), Nat.mod_eq_of_lt (by omega), h4]
  simp [execOp, hop, e1, e2, eqGuard, binOp, h6]
end Go.Wm

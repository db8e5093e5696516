/-
  Quotients, remainders and the low 16 bits of a whole number. Conditions: that what is divided by is no 0.
-/
import Derived.Test.YtjonlpdnhbnmmaaCoA
set_option linter.all false
namespace Go.Wm
open Go.RowKit
/-- The low 16 bits. -/
def low16 (x : Int) : Nat := (BitVec.ofInt 64 x &&& BitVec.ofInt 64 65535).toNat
theorem low16_le (x : Int) : low16 x ≤ 65535 := by
  unfold low16
  rw [BitVec.toNat_and]
  exact Nat.and_le_right
section
variable {P : Program} {o : Oper} {e : Env} {k : PH} {t t' : TypeId} {x y : Operand}
theorem d_rem {a b : Nat} (hop : o.op = .binOp .rem t x y t') (hx : opv e x = some (.int .i64 (a : Int))) (hy : opv e y = some (.int .i64 (b : Int))) (hb : 0 < b) : Det P e k o (.int .i64 ((a % b : Nat) : Int)) := by
  intro ev w hev _
  rw [hop] at hev
  have e1 := hev x (by simp [Op.operands]) _ hx
  have e2 := hev y (by simp [Op.operands]) _ hy
  have h0 : ¬ (b : Int) = 0 := by omega
  have h2 : ((a : Int).tmod (b : Int)) = ((a % b : Nat) : Int) := rfl
  simp only [execOp, hop, e1, e2, eqGuard, binOp, Op.intDiv, h0, if_false, h2]
  simp
theorem d_and16 {a : Int} (hop : o.op = .binOp .and t x y t') (hx : opv e x = some (.int .i64 a)) (hy : opv e y = some (.int .i64 65535)) : Det P e k o (.int .i64 ((low16 a : Nat) : Int)) := by
  intro ev w hev _
  rw [hop] at hev
  have e1 := hev x (by simp [Op.operands]) _ hx
  have e2 := hev y (by simp [Op.operands]) _ hy
  have h3 := low16_le a
  have h4 : IntKind.i64.wrap ((low16 a : Nat) : Int) = ((low16 a : Nat) : Int) := by rw [IntKind.wrap_i64]; omega
  have h5 : IntKind.i64.wrap (((BitVec.ofInt 64 a &&& BitVec.ofInt 64 65535).toNat : Nat) : Int) = ((low16 a : Nat) : Int) := h4
  have h6 : (Op.intBits .and .i64 a 65535).run P w = .ok (.int .i64 ((low16 a : Nat) : Int)) w := by
    show Result.ok (Value.int .i64 (IntKind.i64.wrap (((BitVec.ofInt 64 a &&& BitVec.ofInt 64 65535).toNat : Nat) : Int))) w = _
    rw [h5]
  simp [execOp, hop, e1, e2, eqGuard, binOp, h6]
end
end Go.Wm

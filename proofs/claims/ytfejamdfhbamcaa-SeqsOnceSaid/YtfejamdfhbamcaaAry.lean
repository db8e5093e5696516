/-
  Arrays of seven whole numbers: a literal, and one of its numbers; what a call in a region that draws has told, taken apart. Conditions: none beyond those of each law.
-/
import Derived.Test.YtfejamdfhbamcaaCoB
import Derived.Test.YtfejamdfhbamcaaGrw
set_option linter.all false
namespace Go.Wm
variable [Dfr]
open Go.RowKit
section
variable {P : Program} {o : Oper} {e : Env} {k : PH}
theorem d_arr7 {t et : TypeId} {x0 x1 x2 x3 x4 x5 x6 : Operand} {a0 a1 a2 a3 a4 a5 a6 : Int} {bs bs' : Nat} {z : Value} [h : TyU P t (.array 7 et)] [hi : TyI P et 1 bs z] [hz : TyI P t 7 bs' (.agg #[.int .i64 0, .int .i64 0, .int .i64 0, .int .i64 0, .int .i64 0, .int .i64 0, .int .i64 0])]
    (hop : o.op = .build t #[(0, x0), (1, x1), (2, x2), (3, x3), (4, x4), (5, x5), (6, x6)]) (h0 : opv e x0 = some (.int .i64 a0)) (h1 : opv e x1 = some (.int .i64 a1)) (h2 : opv e x2 = some (.int .i64 a2)) (h3 : opv e x3 = some (.int .i64 a3)) (h4 : opv e x4 = some (.int .i64 a4)) (h5 : opv e x5 = some (.int .i64 a5)) (h6 : opv e x6 = some (.int .i64 a6)) :
    Det P e k o (.agg #[.int .i64 a0, .int .i64 a1, .int .i64 a2, .int .i64 a3, .int .i64 a4, .int .i64 a5, .int .i64 a6]) := by
  intro ev w hev hs
  rw [hop] at hev
  obtain ⟨i, g1, g2, _⟩ := hi.eq
  have e0 := hev x0 (by simp [Op.operands]) _ h0
  have e1 := hev x1 (by simp [Op.operands]) _ h1
  have e2 := hev x2 (by simp [Op.operands]) _ h2
  have e3 := hev x3 (by simp [Op.operands]) _ h3
  have e4 := hev x4 (by simp [Op.operands]) _ h4
  have e5 := hev x5 (by simp [Op.operands]) _ h5
  have e6 := hev x6 (by simp [Op.operands]) _ h6
  simp [execOp, hop, e0, e1, e2, e3, e4, e5, e6, Instr.build, run_zero (t := t) (z := .agg #[.int .i64 0, .int .i64 0, .int .i64 0, .int .i64 0, .int .i64 0, .int .i64 0, .int .i64 0]), run_underlying h.eq, run_size g1, g2, Instr.fill, Value.cells]
/-- One number of an array that is a value. -/
theorem d_ixA {t et : TypeId} {x ix : Operand} {cs : Array Value} {L i bs : Nat} {v z : Value} [h : TyU P t (.array L et)] [hu : TyU P et (.int .i64)] [hi : TyI P et 1 bs z] (hop : o.op = .index t x ix) (hx : opv e x = some (.agg cs)) (hy : opv e ix = some (.int .i64 (i : Int))) (hlt : i < L) (hv : cs[i]? = some v) : Det P e k o v := by
  intro ev w hev hs
  rw [hop] at hev
  obtain ⟨inf, g1, g2, _⟩ := hi.eq
  have e1 := hev x (by simp [Op.operands]) _ hx
  have e2 := hev ix (by simp [Op.operands]) _ hy
  have h3 : (i : Int) < (L : Int) := by omega
  have hp : (part et cs i).run P w = .ok v w := part_int hu.eq hv w
  simp [execOp, hop, e1, e2, Instr.index, asIntOf, run_underlying h.eq, h3, hlt, run_size g1, g2, hp]
end
end Go.Wm

/-
  Arrays of two or three one-celled values: literals, and one of them. Conditions: those of each law.
-/
import Derived.Test.YtfejamdfhbamcaaCoB
import Derived.Test.YtfejamdfhbamcaaCrP
set_option linter.all false
namespace Go.Wm
variable [Dfr]
open Go.RowKit
section
variable {P : Program} {o : Oper} {e : Env} {k : PH}
theorem d_arr3V {t et : TypeId} {x y u : Operand} {a b c z0 : Value} {bs bs' : Nat} {z : Value} [h : TyU P t (.array 3 et)] [hi : TyI P et 1 bs z] [hz : TyI P t 3 bs' (.agg #[z0, z0, z0])] (hop : o.op = .build t #[(0, x), (1, y), (2, u)]) (hx : opv e x = some a) (hy : opv e y = some b) (hu : opv e u = some c) (ha : a.cells = #[a]) (hb : b.cells = #[b]) (hc : c.cells = #[c]) : Det P e k o (.agg #[a, b, c]) := by
  intro ev w hev hs
  rw [hop] at hev
  obtain ⟨i, h1, h2, _⟩ := hi.eq
  have e1 := hev x (by simp [Op.operands]) _ hx
  have e2 := hev y (by simp [Op.operands]) _ hy
  have e3 := hev u (by simp [Op.operands]) _ hu
  have hzc : (Value.agg #[z0, z0, z0]).cells = #[z0, z0, z0] := rfl
  simp [execOp, hop, e1, e2, e3, Instr.build, run_zero (t := t) (z := .agg #[z0, z0, z0]), run_underlying h.eq, run_size h1, h2, Instr.fill, ha, hb, hc, hzc]
/-- One of an array that is a value. -/
theorem d_ixV {t et : TypeId} {d : TypeDesc} {x ix : Operand} {cs : Array Value} {L i bs : Nat} {v z : Value} [h : TyU P t (.array L et)] [hu : TyU P et d] [hi : TyI P et 1 bs z] (hop : o.op = .index t x ix) (hx : opv e x = some (.agg cs)) (hy : opv e ix = some (.int .i64 (i : Int))) (hlt : i < L) (hd : aggD d = false) (hv : cs[i]? = some v) : Det P e k o v := by
  intro ev w hev hs
  rw [hop] at hev
  obtain ⟨inf, g1, g2, _⟩ := hi.eq
  have e1 := hev x (by simp [Op.operands]) _ hx
  have e2 := hev ix (by simp [Op.operands]) _ hy
  have h3 : (i : Int) < (L : Int) := by omega
  have hp : (part et cs i).run P w = .ok v w := part_plain hu.eq hd hv w
  simp [execOp, hop, e1, e2, Instr.index, asIntOf, run_underlying h.eq, h3, hlt, run_size g1, g2, hp]
end
end Go.Wm

/-
  Arrays of two or three one-celled values: literals, and one of them. Conditions: those of each law.
-/
import Derived.Test.YteimghjhiiffjaaGreatMn2
import Derived.Test.YteimghjhiiffjaaGreatD9
import Derived.Test.YteimghjhiiffjaaGreatCoB
import Derived.Test.YteimghjhiiffjaaGreatC1
set_option linter.all false
namespace Go.Wm
open Go.RowKit Go.Proofs
theorem put_len {α : Type} (ord : α → α → Int) (l : List α) (x : α) (there : Bool) : (putInL ord l x there).length ≤ l.length + 1 := by
  unfold putInL
  split <;> split <;> simp <;> omega
/-- At most n of each. -/
def Conf.upto (x : Conf) (n : Nat) : Prop := x.topics.length ≤ n ∧ x.rules.length ≤ n ∧ x.rates.length ≤ n ∧ x.ways.length ≤ n
theorem act_upto {x y : Conf} {s : Step} {n : Nat} (h : x.upto n) (ha : actC x s = .ok y) : y.upto (n + 1) := by
  obtain ⟨h1, h2, h3, h4⟩ := h
  unfold actC at ha
  unfold Conf.upto
  repeat' split at ha
  all_goals first | cases ha | skip
  all_goals simp only [List.length_map]
  · exact ⟨Nat.le_trans (put_len _ _ _ _) (by omega), by omega, by omega, by omega⟩
  · exact ⟨Nat.le_trans (List.length_filter_le _ _) (by omega), Nat.le_trans (List.length_filter_le _ _) (by omega), by omega, Nat.le_trans (List.length_filter_le _ _) (by omega)⟩
  · exact ⟨by omega, by omega, by omega, by omega⟩
  · exact ⟨by omega, by omega, by omega, by omega⟩
  · exact ⟨by omega, Nat.le_trans (put_len _ _ _ _) (by omega), by omega, by omega⟩
  · exact ⟨by omega, by omega, Nat.le_trans (put_len _ _ _ _) (by omega), by omega⟩
  · exact ⟨by omega, by omega, by omega, Nat.le_trans (put_len _ _ _ _) (by omega)⟩
theorem noConf_upto (n : Nat) : noConf.upto n := ⟨Nat.zero_le _, Nat.zero_le _, Nat.zero_le _, Nat.zero_le _⟩
theorem do_upto {x : Conf} {s : Step} {n : Nat} (h : x.upto n) : (doC x s).1.upto (n + 1) := by
  unfold doC
  split
  · exact noConf_upto _
  · split
    · exact noConf_upto _
    · cases ha : actC { x with ver := x.ver + 1 } s with
      | error e => exact noConf_upto _
      | ok y => exact act_upto (x := { x with ver := x.ver + 1 }) h ha
end Go.Wm
namespace Go.Wm
open Go.RowKit Go.Proofs
def dropS (name : ByteArray) : Step := ⟨2, name, ⟨#[]⟩, 0, 0, 0⟩
end Go.Wm
namespace Go.Wm
open Go.RowKit
section
variable {P : Program} {o : Oper} {e : Env} {k : PH}
theorem d_arr2V {t et : TypeId} {x y : Operand} {a b z0 : Value} {bs bs' : Nat} {z : Value} [h : TyU P t (.array 2 et)] [hi : TyI P et 1 bs z] [hz : TyI P t 2 bs' (.agg #[z0, z0])] (hop : o.op = .build t #[(0, x), (1, y)]) (hx : opv e x = some a) (hy : opv e y = some b) (ha : a.cells = #[a]) (hb : b.cells = #[b]) : Det P e k o (.agg #[a, b]) := by
  intro ev w hev hs
  rw [hop] at hev
  obtain ⟨i, h1, h2, _⟩ := hi.eq
  have e1 := hev x (by simp [Op.operands]) _ hx
  have e2 := hev y (by simp [Op.operands]) _ hy
  have hzc : (Value.agg #[z0, z0]).cells = #[z0, z0] := rfl
  simp [execOp, hop, e1, e2, Instr.build, run_zero (t := t) (z := .agg #[z0, z0]), run_underlying h.eq, run_size h1, h2, Instr.fill, ha, hb, hzc]
/-- An array's zero. -/
theorem d_arr0 {t et : TypeId} {L sz bs bs' : Nat} {z : Value} {cs : Array Value} [h : TyU P t (.array L et)] [hi : TyI P et 1 bs z] [hz : TyI P t sz bs' (.agg cs)] (hop : o.op = .build t #[]) : Det P e k o (.agg cs) := by
  intro ev w hev hs
  obtain ⟨i, h1, h2, _⟩ := hi.eq
  simp [execOp, hop, Instr.build, run_zero (t := t) (z := .agg cs), run_underlying h.eq, run_size h1, h2, Instr.fill, Value.cells]
/-- One of an array that is a value. -/
theorem d_ixV {t et : TypeId} {d : TypeDesc} {x ix : Operand} {cs : Array Value} {L i bs : Nat} {v z : Value} [h : TyU P t (.array L et)] [hu : TyU P et d] [hi : TyI P et 1 bs z] (hop : o.op = .index t x ix) (hx : opv e x = some (.agg cs)) (hy : opv e ix = some (.int .i64 (i : Int))) (hlt : i < L) (hd : aggD d = false) (hv : cs[i]? = some v) : Det P e k o v := by
  intro ev w hev hs
  rw [hop] at hev
  obtain ⟨inf, g1, g2, _⟩ := hi.eq
  have e1 := hev x (by simp [Op.operands]) _ hx
  have e2 := hev ix (by simp [Op.operands]) _ hy
  have h3 : (i : Int) < (L : Int) := by omega
  have hp : (part et cs i).run P w = .ok v w := part_plain hu.eq hd hv w
  simp [execOp, hop, e1, e2, Instr.index, asIntOf, run_underlying h.eq, h3, hlt, run_size g1, g2, hp]
end
end Go.Wm

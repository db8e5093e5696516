/-
  The data of this seat's program, as Lean has them: partitions, members. Conditions: none.
-/
import Derived.Test.YtapfmndcjcdcjaaTypes
import Derived.Test.YtapfmndcjcdcjaaMap
import Derived.Test.YtapfmndcjcdcjaaFill
import Derived.Test.YtapfmndcjcdcjaaSht
set_option linter.all false
namespace Go.Wm
open Go.RowKit Go.Proofs

structure Tp where
  topic : ByteArray
  part : Int
  home : Int
  deriving DecidableEq

def Tp.vs (x : Tp) : List Value := [.string x.topic, .int .i64 x.part, .int .i64 x.home]
def tTp : Ty Tp where
  sz := 3
  rep := fun _ cs x => cs = x.vs
  len := fun h => by rw [h]; rfl
  mono := fun _ h => h

structure Mem where
  id : ByteArray
  static : ByteArray
  subs : List ByteArray
  own : List Tp
  joined : Bool
  beat : Int

def memVs (m : Mem) (sa : Option Addr) (sc : Nat) (oa : Option Addr) (oc : Nat) : List Value :=
  [.string m.id, .string m.static, .slice sa m.subs.length sc, .slice oa m.own.length oc, .bool m.joined, .int .i64 m.beat]
def tMem : Ty Mem where
  sz := 6
  rep := fun h cs m => ∃ sa sc oa oc, cs = memVs m sa sc oa oc ∧ Sl tStr h sa sc m.subs ∧ Sl tTp h oa oc m.own ∧ m.id.size ≤ maxLen
  len := fun ⟨_, _, _, _, h, _⟩ => by rw [h]; rfl
  mono := fun hl ⟨sa, sc, oa, oc, h1, h2, h3, h4⟩ => ⟨sa, sc, oa, oc, h1, h2.le hl, h3.le hl, h4⟩

theorem tp_eq (a b : Tp) : (decide (a.topic = b.topic) && (decide (a.part = b.part) && (decide (a.home = b.home) && true))) = decide (a = b) := by
  cases a; cases b; simp [Bool.eq_iff_iff]

theorem sameBits_str (m : Nat) (x : ByteArray) : Instr.sameBits (m + 1) (.string x) (.string x) = true := by simp [Instr.sameBits]
theorem sameBits_int (m : Nat) (x : Int) : Instr.sameBits (m + 1) (.int .i64 x) (.int .i64 x) = true := by simp [Instr.sameBits]

instance : KeyOk Try.prog 37 (fun x : Tp => Value.agg x.vs.toArray) where
  chk := fun em w x => chk_flat (t := 37) rfl em 9998 x.vs rfl w
  eqv := fun w x y => by
    have h1 : Try.prog.underlying 37 = some (.struct (Try.prog.fieldsOf 37)) := by kernel_rfl
    obtain ⟨_, h2, h3, h4, h5⟩ := (inferInstance : Flat Try.prog 37 [(9, .string), (3, .int .i64), (3, .int .i64)]).eq
    have g := run_eqFlat (P := Try.prog) 9998 w x.vs.toArray y.vs.toArray [(9, .string), (3, .int .i64), (3, .int .i64)] (Try.prog.fieldsOf 37).toList 0 x.vs y.vs _ (by rw [h4, List.range_eq_range']) h5 (fun i v hv => by simpa using hv) (fun i v hv => by simpa using hv) rfl
    simp only [Op.equal, Op.maxDepth]
    rw [run_equalIn_struct w 9999 37 _ _ h1 h2, g, tp_eq]
  now := ⟨.struct (Try.prog.fieldsOf 37), by kernel_rfl, .inr fun x y => rfl⟩
  bits := fun x => by
    show ((3 == 3) && ([(Value.string x.topic, Value.string x.topic), (Value.int .i64 x.part, Value.int .i64 x.part), (Value.int .i64 x.home, Value.int .i64 x.home)].all fun p => Instr.sameBits 9999 p.1 p.2)) = true
    simp [sameBits_str 9998, sameBits_int 9998]

instance : KeyOk Try.prog 9 (fun x : ByteArray => Value.string x) where
  chk := fun em w x => by
    exact chk_plain Try.underlying9 rfl em 9999 _ w
  eqv := fun w x y => by
    simp only [Op.equal, Op.maxDepth]
    rw [run_equalIn_string w 9999 9 _ _ Try.underlying9, beq_toList]
  now := ⟨.string, Try.underlying9, .inl fun x y => by
    simp only [Instr.sameNow]
    rw [beq_toListBytes, beq_toList]⟩
  bits := fun x => sameBits_str 9999 x
end Go.Wm

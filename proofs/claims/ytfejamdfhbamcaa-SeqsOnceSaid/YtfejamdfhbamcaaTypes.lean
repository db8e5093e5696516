/-
  The facts on types and functions of this seat's program, written by a program of the prover's own out of the dump. Conditions: none.
-/
import Derived.Test.YtfejamdfhbamcaaCoA
import Derived.Test.YtfejamdfhbamcaaProg
import Derived.KernelRfl
set_option linter.all false
namespace Go.Wm
open Go.Proofs
set_option maxRecDepth 100000
theorem tyi {P : Program} {t : TypeId} {sz bs : Nat} {z : Value} (h : (P.info? t).map (fun i => (i.size, i.bytes, i.zero)) = some (sz, bs, some z)) : TyI P t sz bs z := by
  cases e : P.info? t with
  | none => simp [e] at h
  | some i => simp only [e, Option.map_some, Option.some.injEq, Prod.mk.injEq] at h; exact ⟨i, e, h.1, h.2.1, h.2.2⟩
theorem fnok {P : Program} {f : FuncId} (h : (P.funcs[f]?).map (fun fn => (fn.name == "runtime.NumGoroutine", fn.body.isNone)) = some (false, false)) : FnOk P f := by
  cases e : P.funcs[f]? with
  | none => simp [e] at h
  | some i => simp only [e, Option.map_some, Option.some.injEq, Prod.mk.injEq] at h; exact ⟨i, e, h.1, h.2⟩
theorem fldok {P : Program} {t f off sz : Nat} {ag : Bool} {fs : Array Field} {fd : Field} {i : TypeInfo} {d : TypeDesc} (h1 : P.underlying t = some (.struct fs)) (h2 : fs[f]? = some fd) (h3 : fd.offset = off) (h4 : P.info? fd.type = some i) (h5 : i.size = sz) (h6 : P.underlying fd.type = some d) (h7 : aggD d = ag) : Fld P t f off sz ag := ⟨fs, fd, d, i, h1, h2, h3, h4, h5, h6, h7⟩
instance : Mixed Try.prog := ⟨by kernel_rfl⟩
instance : TyU Try.prog 2 (.int .i64) := ⟨Try.underlying2⟩
instance : TyI Try.prog 2 1 8 (.int .i64 (0)) := tyi (by kernel_rfl)
instance : TyU Try.prog 3 (.int .i64) := ⟨Try.underlying3⟩
instance : TyI Try.prog 3 1 8 (.int .i64 (0)) := tyi (by kernel_rfl)
instance : TyU Try.prog 4 .bool := ⟨Try.underlying4⟩
instance : TyI Try.prog 4 1 1 (.bool false) := tyi (by kernel_rfl)
instance : TyU Try.prog 5 (.int .u8) := ⟨Try.underlying5⟩
instance : TyI Try.prog 5 1 1 (.int .u8 (0)) := tyi (by kernel_rfl)
instance : TyU Try.prog 6 (.int .u8) := ⟨Try.underlying6⟩
instance : TyI Try.prog 6 1 1 (.int .u8 (0)) := tyi (by kernel_rfl)
instance : TyU Try.prog 9 .string := ⟨Try.underlying9⟩
instance : TyI Try.prog 9 1 16 (.string ByteArray.empty) := tyi (by kernel_rfl)
instance : TyU Try.prog 10 .string := ⟨Try.underlying10⟩
instance : TyI Try.prog 10 1 16 (.string ByteArray.empty) := tyi (by kernel_rfl)
instance : TyU Try.prog 11 .string := ⟨Try.underlying11⟩
instance : TyI Try.prog 11 1 16 (.string ByteArray.empty) := tyi (by kernel_rfl)
instance : TyU Try.prog 12 (.int .u64) := ⟨Try.underlying12⟩
instance : TyI Try.prog 12 1 8 (.int .u64 (0)) := tyi (by kernel_rfl)
instance : TyU Try.prog 15 (.pointer 233) := ⟨Try.underlying15⟩
instance : TyI Try.prog 15 1 8 (.pointer none) := tyi (by kernel_rfl)
instance : TyU Try.prog 16 (.pointer 236) := ⟨Try.underlying16⟩
instance : TyI Try.prog 16 1 8 (.pointer none) := tyi (by kernel_rfl)
instance : TyU Try.prog 17 (.pointer 244) := ⟨Try.underlying17⟩
instance : TyI Try.prog 17 1 8 (.pointer none) := tyi (by kernel_rfl)
instance : TyU Try.prog 21 (.int .i32) := ⟨Try.underlying21⟩
instance : TyI Try.prog 21 1 4 (.int .i32 (0)) := tyi (by kernel_rfl)
instance : TyU Try.prog 22 (.slice 51) := ⟨Try.underlying22⟩
instance : TyI Try.prog 22 1 24 (.slice none 0 0) := tyi (by kernel_rfl)
instance : TyU Try.prog 23 (.slice 135) := ⟨Try.underlying23⟩
instance : TyI Try.prog 23 1 24 (.slice none 0 0) := tyi (by kernel_rfl)
instance : TyU Try.prog 24 (.struct (Try.prog.fieldsOf 24)) := ⟨by kernel_rfl⟩
instance : TyI Try.prog 24 10 96 (.agg #[(.int .i64 (0)), (.int .i64 (0)), (.int .i64 (0)), (.int .i64 (0)), (.int .i64 (0)), (.int .i64 (0)), (.int .i64 (0)), (.bool false), (.int .i64 (0)), (.slice none 0 0)]) := tyi (by kernel_rfl)
instance : Fld Try.prog 24 0 0 1 false := fldok Try.underlying24 rfl rfl (by kernel_rfl) (i := ((Try.prog.info? 3).getD default)) (by kernel_rfl) Try.underlying3 rfl
instance : Fld Try.prog 24 1 1 1 false := fldok Try.underlying24 rfl rfl (by kernel_rfl) (i := ((Try.prog.info? 3).getD default)) (by kernel_rfl) Try.underlying3 rfl
instance : Fld Try.prog 24 2 2 1 false := fldok Try.underlying24 rfl rfl (by kernel_rfl) (i := ((Try.prog.info? 3).getD default)) (by kernel_rfl) Try.underlying3 rfl
instance : Fld Try.prog 24 3 3 1 false := fldok Try.underlying24 rfl rfl (by kernel_rfl) (i := ((Try.prog.info? 3).getD default)) (by kernel_rfl) Try.underlying3 rfl
instance : Fld Try.prog 24 4 4 1 false := fldok Try.underlying24 rfl rfl (by kernel_rfl) (i := ((Try.prog.info? 3).getD default)) (by kernel_rfl) Try.underlying3 rfl
instance : Fld Try.prog 24 5 5 1 false := fldok Try.underlying24 rfl rfl (by kernel_rfl) (i := ((Try.prog.info? 3).getD default)) (by kernel_rfl) Try.underlying3 rfl
instance : Fld Try.prog 24 6 6 1 false := fldok Try.underlying24 rfl rfl (by kernel_rfl) (i := ((Try.prog.info? 3).getD default)) (by kernel_rfl) Try.underlying3 rfl
instance : Fld Try.prog 24 7 7 1 false := fldok Try.underlying24 rfl rfl (by kernel_rfl) (i := ((Try.prog.info? 4).getD default)) (by kernel_rfl) Try.underlying4 rfl
instance : Fld Try.prog 24 8 8 1 false := fldok Try.underlying24 rfl rfl (by kernel_rfl) (i := ((Try.prog.info? 3).getD default)) (by kernel_rfl) Try.underlying3 rfl
instance : Fld Try.prog 24 9 9 1 false := fldok Try.underlying24 rfl rfl (by kernel_rfl) (i := ((Try.prog.info? 23).getD default)) (by kernel_rfl) Try.underlying23 rfl
instance : Bld Try.prog 24 [(0, 1), (1, 1), (2, 1), (3, 1), (4, 1), (5, 1), (6, 1), (7, 1), (8, 1), (9, 1)] [(.int .i64 (0)), (.int .i64 (0)), (.int .i64 (0)), (.int .i64 (0)), (.int .i64 (0)), (.int .i64 (0)), (.int .i64 (0)), (.bool false), (.int .i64 (0)), (.slice none 0 0)] := by
  refine ⟨_, ((Try.prog.info? 24).getD default), _, Try.underlying24, by kernel_rfl, (by kernel_rfl : _ = some (.agg #[(.int .i64 (0)), (.int .i64 (0)), (.int .i64 (0)), (.int .i64 (0)), (.int .i64 (0)), (.int .i64 (0)), (.int .i64 (0)), (.bool false), (.int .i64 (0)), (.slice none 0 0)])), rfl, fun w => by kernel_rfl⟩
instance : TyU Try.prog 25 (.struct (Try.prog.fieldsOf 25)) := ⟨by kernel_rfl⟩
instance : TyI Try.prog 25 10 96 (.agg #[(.int .i64 (0)), (.int .i64 (0)), (.int .i64 (0)), (.int .i64 (0)), (.int .i64 (0)), (.int .i64 (0)), (.int .i64 (0)), (.bool false), (.int .i64 (0)), (.slice none 0 0)]) := tyi (by kernel_rfl)
instance : Fld Try.prog 25 0 0 1 false := fldok Try.underlying25 rfl rfl (by kernel_rfl) (i := ((Try.prog.info? 3).getD default)) (by kernel_rfl) Try.underlying3 rfl
instance : Fld Try.prog 25 1 1 1 false := fldok Try.underlying25 rfl rfl (by kernel_rfl) (i := ((Try.prog.info? 3).getD default)) (by kernel_rfl) Try.underlying3 rfl
instance : Fld Try.prog 25 2 2 1 false := fldok Try.underlying25 rfl rfl (by kernel_rfl) (i := ((Try.prog.info? 3).getD default)) (by kernel_rfl) Try.underlying3 rfl
instance : Fld Try.prog 25 3 3 1 false := fldok Try.underlying25 rfl rfl (by kernel_rfl) (i := ((Try.prog.info? 3).getD default)) (by kernel_rfl) Try.underlying3 rfl
instance : Fld Try.prog 25 4 4 1 false := fldok Try.underlying25 rfl rfl (by kernel_rfl) (i := ((Try.prog.info? 3).getD default)) (by kernel_rfl) Try.underlying3 rfl
instance : Fld Try.prog 25 5 5 1 false := fldok Try.underlying25 rfl rfl (by kernel_rfl) (i := ((Try.prog.info? 3).getD default)) (by kernel_rfl) Try.underlying3 rfl
instance : Fld Try.prog 25 6 6 1 false := fldok Try.underlying25 rfl rfl (by kernel_rfl) (i := ((Try.prog.info? 3).getD default)) (by kernel_rfl) Try.underlying3 rfl
instance : Fld Try.prog 25 7 7 1 false := fldok Try.underlying25 rfl rfl (by kernel_rfl) (i := ((Try.prog.info? 4).getD default)) (by kernel_rfl) Try.underlying4 rfl
instance : Fld Try.prog 25 8 8 1 false := fldok Try.underlying25 rfl rfl (by kernel_rfl) (i := ((Try.prog.info? 3).getD default)) (by kernel_rfl) Try.underlying3 rfl
instance : Fld Try.prog 25 9 9 1 false := fldok Try.underlying25 rfl rfl (by kernel_rfl) (i := ((Try.prog.info? 23).getD default)) (by kernel_rfl) Try.underlying23 rfl
instance : Bld Try.prog 25 [(0, 1), (1, 1), (2, 1), (3, 1), (4, 1), (5, 1), (6, 1), (7, 1), (8, 1), (9, 1)] [(.int .i64 (0)), (.int .i64 (0)), (.int .i64 (0)), (.int .i64 (0)), (.int .i64 (0)), (.int .i64 (0)), (.int .i64 (0)), (.bool false), (.int .i64 (0)), (.slice none 0 0)] := by
  refine ⟨_, ((Try.prog.info? 25).getD default), _, Try.underlying25, by kernel_rfl, (by kernel_rfl : _ = some (.agg #[(.int .i64 (0)), (.int .i64 (0)), (.int .i64 (0)), (.int .i64 (0)), (.int .i64 (0)), (.int .i64 (0)), (.int .i64 (0)), (.bool false), (.int .i64 (0)), (.slice none 0 0)])), rfl, fun w => by kernel_rfl⟩
instance : TyU Try.prog 28 (.int .i64) := ⟨Try.underlying28⟩
instance : TyI Try.prog 28 1 8 (.int .i64 (0)) := tyi (by kernel_rfl)
instance : TyU Try.prog 35 (.slice 25) := ⟨Try.underlying35⟩
instance : TyI Try.prog 35 1 24 (.slice none 0 0) := tyi (by kernel_rfl)
instance : TyU Try.prog 39 (.slice 5) := ⟨Try.underlying39⟩
instance : TyI Try.prog 39 1 24 (.slice none 0 0) := tyi (by kernel_rfl)
instance : TyU Try.prog 49 (.slice 101) := ⟨Try.underlying49⟩
instance : TyI Try.prog 49 1 24 (.slice none 0 0) := tyi (by kernel_rfl)
instance : TyU Try.prog 50 (.struct (Try.prog.fieldsOf 50)) := ⟨by kernel_rfl⟩
instance : TyI Try.prog 50 3 40 (.agg #[(.int .i64 (0)), (.int .i64 (0)), (.slice none 0 0)]) := tyi (by kernel_rfl)
instance : Fld Try.prog 50 0 0 1 false := fldok Try.underlying50 rfl rfl (by kernel_rfl) (i := ((Try.prog.info? 3).getD default)) (by kernel_rfl) Try.underlying3 rfl
instance : Fld Try.prog 50 1 1 1 false := fldok Try.underlying50 rfl rfl (by kernel_rfl) (i := ((Try.prog.info? 3).getD default)) (by kernel_rfl) Try.underlying3 rfl
instance : Fld Try.prog 50 2 2 1 false := fldok Try.underlying50 rfl rfl (by kernel_rfl) (i := ((Try.prog.info? 49).getD default)) (by kernel_rfl) Try.underlying49 rfl
instance : Bld Try.prog 50 [(0, 1), (1, 1), (2, 1)] [(.int .i64 (0)), (.int .i64 (0)), (.slice none 0 0)] := by
  refine ⟨_, ((Try.prog.info? 50).getD default), _, Try.underlying50, by kernel_rfl, (by kernel_rfl : _ = some (.agg #[(.int .i64 (0)), (.int .i64 (0)), (.slice none 0 0)])), rfl, fun w => by kernel_rfl⟩
instance : TyU Try.prog 51 (.struct (Try.prog.fieldsOf 51)) := ⟨by kernel_rfl⟩
instance : TyI Try.prog 51 3 40 (.agg #[(.int .i64 (0)), (.int .i64 (0)), (.slice none 0 0)]) := tyi (by kernel_rfl)
instance : Fld Try.prog 51 0 0 1 false := fldok Try.underlying51 rfl rfl (by kernel_rfl) (i := ((Try.prog.info? 3).getD default)) (by kernel_rfl) Try.underlying3 rfl
instance : Fld Try.prog 51 1 1 1 false := fldok Try.underlying51 rfl rfl (by kernel_rfl) (i := ((Try.prog.info? 3).getD default)) (by kernel_rfl) Try.underlying3 rfl
instance : Fld Try.prog 51 2 2 1 false := fldok Try.underlying51 rfl rfl (by kernel_rfl) (i := ((Try.prog.info? 49).getD default)) (by kernel_rfl) Try.underlying49 rfl
instance : Bld Try.prog 51 [(0, 1), (1, 1), (2, 1)] [(.int .i64 (0)), (.int .i64 (0)), (.slice none 0 0)] := by
  refine ⟨_, ((Try.prog.info? 51).getD default), _, Try.underlying51, by kernel_rfl, (by kernel_rfl : _ = some (.agg #[(.int .i64 (0)), (.int .i64 (0)), (.slice none 0 0)])), rfl, fun w => by kernel_rfl⟩
instance : TyU Try.prog 52 (.slice 3) := ⟨Try.underlying52⟩
instance : TyI Try.prog 52 1 24 (.slice none 0 0) := tyi (by kernel_rfl)
instance : TyU Try.prog 56 (.slice 62) := ⟨Try.underlying56⟩
instance : TyI Try.prog 56 1 24 (.slice none 0 0) := tyi (by kernel_rfl)
instance : TyU Try.prog 57 (.struct (Try.prog.fieldsOf 57)) := ⟨by kernel_rfl⟩
instance : TyI Try.prog 57 4 56 (.agg #[(.string ByteArray.empty), (.int .i64 (0)), (.int .i64 (0)), (.slice none 0 0)]) := tyi (by kernel_rfl)
instance : Fld Try.prog 57 0 0 1 false := fldok Try.underlying57 rfl rfl (by kernel_rfl) (i := ((Try.prog.info? 9).getD default)) (by kernel_rfl) Try.underlying9 rfl
instance : Fld Try.prog 57 1 1 1 false := fldok Try.underlying57 rfl rfl (by kernel_rfl) (i := ((Try.prog.info? 3).getD default)) (by kernel_rfl) Try.underlying3 rfl
instance : Fld Try.prog 57 2 2 1 false := fldok Try.underlying57 rfl rfl (by kernel_rfl) (i := ((Try.prog.info? 3).getD default)) (by kernel_rfl) Try.underlying3 rfl
instance : Fld Try.prog 57 3 3 1 false := fldok Try.underlying57 rfl rfl (by kernel_rfl) (i := ((Try.prog.info? 56).getD default)) (by kernel_rfl) Try.underlying56 rfl
instance : Bld Try.prog 57 [(0, 1), (1, 1), (2, 1), (3, 1)] [(.string ByteArray.empty), (.int .i64 (0)), (.int .i64 (0)), (.slice none 0 0)] := by
  refine ⟨_, ((Try.prog.info? 57).getD default), _, Try.underlying57, by kernel_rfl, (by kernel_rfl : _ = some (.agg #[(.string ByteArray.empty), (.int .i64 (0)), (.int .i64 (0)), (.slice none 0 0)])), rfl, fun w => by kernel_rfl⟩
instance : TyU Try.prog 58 (.struct (Try.prog.fieldsOf 58)) := ⟨by kernel_rfl⟩
instance : TyI Try.prog 58 4 56 (.agg #[(.string ByteArray.empty), (.int .i64 (0)), (.int .i64 (0)), (.slice none 0 0)]) := tyi (by kernel_rfl)
instance : Fld Try.prog 58 0 0 1 false := fldok Try.underlying58 rfl rfl (by kernel_rfl) (i := ((Try.prog.info? 9).getD default)) (by kernel_rfl) Try.underlying9 rfl
instance : Fld Try.prog 58 1 1 1 false := fldok Try.underlying58 rfl rfl (by kernel_rfl) (i := ((Try.prog.info? 3).getD default)) (by kernel_rfl) Try.underlying3 rfl
instance : Fld Try.prog 58 2 2 1 false := fldok Try.underlying58 rfl rfl (by kernel_rfl) (i := ((Try.prog.info? 3).getD default)) (by kernel_rfl) Try.underlying3 rfl
instance : Fld Try.prog 58 3 3 1 false := fldok Try.underlying58 rfl rfl (by kernel_rfl) (i := ((Try.prog.info? 56).getD default)) (by kernel_rfl) Try.underlying56 rfl
instance : Bld Try.prog 58 [(0, 1), (1, 1), (2, 1), (3, 1)] [(.string ByteArray.empty), (.int .i64 (0)), (.int .i64 (0)), (.slice none 0 0)] := by
  refine ⟨_, ((Try.prog.info? 58).getD default), _, Try.underlying58, by kernel_rfl, (by kernel_rfl : _ = some (.agg #[(.string ByteArray.empty), (.int .i64 (0)), (.int .i64 (0)), (.slice none 0 0)])), rfl, fun w => by kernel_rfl⟩
instance : TyU Try.prog 59 (.slice 9) := ⟨Try.underlying59⟩
instance : TyI Try.prog 59 1 24 (.slice none 0 0) := tyi (by kernel_rfl)
instance : TyU Try.prog 60 (.slice 95) := ⟨Try.underlying60⟩
instance : TyI Try.prog 60 1 24 (.slice none 0 0) := tyi (by kernel_rfl)
instance : TyU Try.prog 61 (.struct (Try.prog.fieldsOf 61)) := ⟨by kernel_rfl⟩
instance : TyI Try.prog 61 6 96 (.agg #[(.string ByteArray.empty), (.string ByteArray.empty), (.slice none 0 0), (.slice none 0 0), (.bool false), (.int .i64 (0))]) := tyi (by kernel_rfl)
instance : Fld Try.prog 61 0 0 1 false := fldok Try.underlying61 rfl rfl (by kernel_rfl) (i := ((Try.prog.info? 9).getD default)) (by kernel_rfl) Try.underlying9 rfl
instance : Fld Try.prog 61 1 1 1 false := fldok Try.underlying61 rfl rfl (by kernel_rfl) (i := ((Try.prog.info? 9).getD default)) (by kernel_rfl) Try.underlying9 rfl
instance : Fld Try.prog 61 2 2 1 false := fldok Try.underlying61 rfl rfl (by kernel_rfl) (i := ((Try.prog.info? 59).getD default)) (by kernel_rfl) Try.underlying59 rfl
instance : Fld Try.prog 61 3 3 1 false := fldok Try.underlying61 rfl rfl (by kernel_rfl) (i := ((Try.prog.info? 60).getD default)) (by kernel_rfl) Try.underlying60 rfl
instance : Fld Try.prog 61 4 4 1 false := fldok Try.underlying61 rfl rfl (by kernel_rfl) (i := ((Try.prog.info? 4).getD default)) (by kernel_rfl) Try.underlying4 rfl
instance : Fld Try.prog 61 5 5 1 false := fldok Try.underlying61 rfl rfl (by kernel_rfl) (i := ((Try.prog.info? 3).getD default)) (by kernel_rfl) Try.underlying3 rfl
instance : Bld Try.prog 61 [(0, 1), (1, 1), (2, 1), (3, 1), (4, 1), (5, 1)] [(.string ByteArray.empty), (.string ByteArray.empty), (.slice none 0 0), (.slice none 0 0), (.bool false), (.int .i64 (0))] := by
  refine ⟨_, ((Try.prog.info? 61).getD default), _, Try.underlying61, by kernel_rfl, (by kernel_rfl : _ = some (.agg #[(.string ByteArray.empty), (.string ByteArray.empty), (.slice none 0 0), (.slice none 0 0), (.bool false), (.int .i64 (0))])), rfl, fun w => by kernel_rfl⟩
instance : TyU Try.prog 62 (.struct (Try.prog.fieldsOf 62)) := ⟨by kernel_rfl⟩
instance : TyI Try.prog 62 6 96 (.agg #[(.string ByteArray.empty), (.string ByteArray.empty), (.slice none 0 0), (.slice none 0 0), (.bool false), (.int .i64 (0))]) := tyi (by kernel_rfl)
instance : Fld Try.prog 62 0 0 1 false := fldok Try.underlying62 rfl rfl (by kernel_rfl) (i := ((Try.prog.info? 9).getD default)) (by kernel_rfl) Try.underlying9 rfl
instance : Fld Try.prog 62 1 1 1 false := fldok Try.underlying62 rfl rfl (by kernel_rfl) (i := ((Try.prog.info? 9).getD default)) (by kernel_rfl) Try.underlying9 rfl
instance : Fld Try.prog 62 2 2 1 false := fldok Try.underlying62 rfl rfl (by kernel_rfl) (i := ((Try.prog.info? 59).getD default)) (by kernel_rfl) Try.underlying59 rfl
instance : Fld Try.prog 62 3 3 1 false := fldok Try.underlying62 rfl rfl (by kernel_rfl) (i := ((Try.prog.info? 60).getD default)) (by kernel_rfl) Try.underlying60 rfl
instance : Fld Try.prog 62 4 4 1 false := fldok Try.underlying62 rfl rfl (by kernel_rfl) (i := ((Try.prog.info? 4).getD default)) (by kernel_rfl) Try.underlying4 rfl
instance : Fld Try.prog 62 5 5 1 false := fldok Try.underlying62 rfl rfl (by kernel_rfl) (i := ((Try.prog.info? 3).getD default)) (by kernel_rfl) Try.underlying3 rfl
instance : Bld Try.prog 62 [(0, 1), (1, 1), (2, 1), (3, 1), (4, 1), (5, 1)] [(.string ByteArray.empty), (.string ByteArray.empty), (.slice none 0 0), (.slice none 0 0), (.bool false), (.int .i64 (0))] := by
  refine ⟨_, ((Try.prog.info? 62).getD default), _, Try.underlying62, by kernel_rfl, (by kernel_rfl : _ = some (.agg #[(.string ByteArray.empty), (.string ByteArray.empty), (.slice none 0 0), (.slice none 0 0), (.bool false), (.int .i64 (0))])), rfl, fun w => by kernel_rfl⟩
instance : TyU Try.prog 81 (.slice 85) := ⟨Try.underlying81⟩
instance : TyI Try.prog 81 1 24 (.slice none 0 0) := tyi (by kernel_rfl)
instance : TyU Try.prog 84 (.struct (Try.prog.fieldsOf 84)) := ⟨by kernel_rfl⟩
instance : TyI Try.prog 84 10 128 (.agg #[(.int .i64 (0)), (.string ByteArray.empty), (.string ByteArray.empty), (.slice none 0 0), (.slice none 0 0), (.bool false), (.int .i64 (0)), (.int .i64 (0)), (.int .i64 (0)), (.int .i64 (0))]) := tyi (by kernel_rfl)
instance : Fld Try.prog 84 0 0 1 false := fldok Try.underlying84 rfl rfl (by kernel_rfl) (i := ((Try.prog.info? 3).getD default)) (by kernel_rfl) Try.underlying3 rfl
instance : Fld Try.prog 84 1 1 6 true := fldok Try.underlying84 rfl rfl (by kernel_rfl) (i := ((Try.prog.info? 62).getD default)) (by kernel_rfl) Try.underlying62 rfl
instance : Fld Try.prog 84 2 7 1 false := fldok Try.underlying84 rfl rfl (by kernel_rfl) (i := ((Try.prog.info? 3).getD default)) (by kernel_rfl) Try.underlying3 rfl
instance : Fld Try.prog 84 3 8 1 false := fldok Try.underlying84 rfl rfl (by kernel_rfl) (i := ((Try.prog.info? 3).getD default)) (by kernel_rfl) Try.underlying3 rfl
instance : Fld Try.prog 84 4 9 1 false := fldok Try.underlying84 rfl rfl (by kernel_rfl) (i := ((Try.prog.info? 3).getD default)) (by kernel_rfl) Try.underlying3 rfl
instance : Bld Try.prog 84 [(0, 1), (1, 6), (7, 1), (8, 1), (9, 1)] [(.int .i64 (0)), (.string ByteArray.empty), (.string ByteArray.empty), (.slice none 0 0), (.slice none 0 0), (.bool false), (.int .i64 (0)), (.int .i64 (0)), (.int .i64 (0)), (.int .i64 (0))] := by
  refine ⟨_, ((Try.prog.info? 84).getD default), _, Try.underlying84, by kernel_rfl, (by kernel_rfl : _ = some (.agg #[(.int .i64 (0)), (.string ByteArray.empty), (.string ByteArray.empty), (.slice none 0 0), (.slice none 0 0), (.bool false), (.int .i64 (0)), (.int .i64 (0)), (.int .i64 (0)), (.int .i64 (0))])), rfl, fun w => by kernel_rfl⟩
instance : TyU Try.prog 85 (.struct (Try.prog.fieldsOf 85)) := ⟨by kernel_rfl⟩
instance : TyI Try.prog 85 10 128 (.agg #[(.int .i64 (0)), (.string ByteArray.empty), (.string ByteArray.empty), (.slice none 0 0), (.slice none 0 0), (.bool false), (.int .i64 (0)), (.int .i64 (0)), (.int .i64 (0)), (.int .i64 (0))]) := tyi (by kernel_rfl)
instance : Fld Try.prog 85 0 0 1 false := fldok Try.underlying85 rfl rfl (by kernel_rfl) (i := ((Try.prog.info? 3).getD default)) (by kernel_rfl) Try.underlying3 rfl
instance : Fld Try.prog 85 1 1 6 true := fldok Try.underlying85 rfl rfl (by kernel_rfl) (i := ((Try.prog.info? 62).getD default)) (by kernel_rfl) Try.underlying62 rfl
instance : Fld Try.prog 85 2 7 1 false := fldok Try.underlying85 rfl rfl (by kernel_rfl) (i := ((Try.prog.info? 3).getD default)) (by kernel_rfl) Try.underlying3 rfl
instance : Fld Try.prog 85 3 8 1 false := fldok Try.underlying85 rfl rfl (by kernel_rfl) (i := ((Try.prog.info? 3).getD default)) (by kernel_rfl) Try.underlying3 rfl
instance : Fld Try.prog 85 4 9 1 false := fldok Try.underlying85 rfl rfl (by kernel_rfl) (i := ((Try.prog.info? 3).getD default)) (by kernel_rfl) Try.underlying3 rfl
instance : Bld Try.prog 85 [(0, 1), (1, 6), (7, 1), (8, 1), (9, 1)] [(.int .i64 (0)), (.string ByteArray.empty), (.string ByteArray.empty), (.slice none 0 0), (.slice none 0 0), (.bool false), (.int .i64 (0)), (.int .i64 (0)), (.int .i64 (0)), (.int .i64 (0))] := by
  refine ⟨_, ((Try.prog.info? 85).getD default), _, Try.underlying85, by kernel_rfl, (by kernel_rfl : _ = some (.agg #[(.int .i64 (0)), (.string ByteArray.empty), (.string ByteArray.empty), (.slice none 0 0), (.slice none 0 0), (.bool false), (.int .i64 (0)), (.int .i64 (0)), (.int .i64 (0)), (.int .i64 (0))])), rfl, fun w => by kernel_rfl⟩
instance : TyU Try.prog 87 (.slice 60) := ⟨Try.underlying87⟩
instance : TyI Try.prog 87 1 24 (.slice none 0 0) := tyi (by kernel_rfl)
instance : TyU Try.prog 94 (.struct (Try.prog.fieldsOf 94)) := ⟨by kernel_rfl⟩
instance : TyI Try.prog 94 3 32 (.agg #[(.string ByteArray.empty), (.int .i64 (0)), (.int .i64 (0))]) := tyi (by kernel_rfl)
instance : Fld Try.prog 94 0 0 1 false := fldok Try.underlying94 rfl rfl (by kernel_rfl) (i := ((Try.prog.info? 9).getD default)) (by kernel_rfl) Try.underlying9 rfl
instance : Fld Try.prog 94 1 1 1 false := fldok Try.underlying94 rfl rfl (by kernel_rfl) (i := ((Try.prog.info? 3).getD default)) (by kernel_rfl) Try.underlying3 rfl
instance : Fld Try.prog 94 2 2 1 false := fldok Try.underlying94 rfl rfl (by kernel_rfl) (i := ((Try.prog.info? 3).getD default)) (by kernel_rfl) Try.underlying3 rfl
instance : Bld Try.prog 94 [(0, 1), (1, 1), (2, 1)] [(.string ByteArray.empty), (.int .i64 (0)), (.int .i64 (0))] := by
  refine ⟨_, ((Try.prog.info? 94).getD default), _, Try.underlying94, by kernel_rfl, (by kernel_rfl : _ = some (.agg #[(.string ByteArray.empty), (.int .i64 (0)), (.int .i64 (0))])), rfl, fun w => by kernel_rfl⟩
instance : Flat Try.prog 94 [(9, .string), (3, (.int .i64)), (3, (.int .i64))] := by
  refine ⟨by kernel_rfl, by kernel_rfl, by kernel_rfl, by kernel_rfl, ?_⟩
  simp only [List.forall_mem_cons]
  exact ⟨⟨Try.underlying9, rfl⟩, ⟨Try.underlying3, rfl⟩, ⟨Try.underlying3, rfl⟩, fun x hx => by cases hx⟩
instance : TyU Try.prog 95 (.struct (Try.prog.fieldsOf 95)) := ⟨by kernel_rfl⟩
instance : TyI Try.prog 95 3 32 (.agg #[(.string ByteArray.empty), (.int .i64 (0)), (.int .i64 (0))]) := tyi (by kernel_rfl)
instance : Fld Try.prog 95 0 0 1 false := fldok Try.underlying95 rfl rfl (by kernel_rfl) (i := ((Try.prog.info? 9).getD default)) (by kernel_rfl) Try.underlying9 rfl
instance : Fld Try.prog 95 1 1 1 false := fldok Try.underlying95 rfl rfl (by kernel_rfl) (i := ((Try.prog.info? 3).getD default)) (by kernel_rfl) Try.underlying3 rfl
instance : Fld Try.prog 95 2 2 1 false := fldok Try.underlying95 rfl rfl (by kernel_rfl) (i := ((Try.prog.info? 3).getD default)) (by kernel_rfl) Try.underlying3 rfl
instance : Bld Try.prog 95 [(0, 1), (1, 1), (2, 1)] [(.string ByteArray.empty), (.int .i64 (0)), (.int .i64 (0))] := by
  refine ⟨_, ((Try.prog.info? 95).getD default), _, Try.underlying95, by kernel_rfl, (by kernel_rfl : _ = some (.agg #[(.string ByteArray.empty), (.int .i64 (0)), (.int .i64 (0))])), rfl, fun w => by kernel_rfl⟩
instance : Flat Try.prog 95 [(9, .string), (3, (.int .i64)), (3, (.int .i64))] := by
  refine ⟨by kernel_rfl, by kernel_rfl, by kernel_rfl, by kernel_rfl, ?_⟩
  simp only [List.forall_mem_cons]
  exact ⟨⟨Try.underlying9, rfl⟩, ⟨Try.underlying3, rfl⟩, ⟨Try.underlying3, rfl⟩, fun x hx => by cases hx⟩
instance : TyU Try.prog 100 (.struct (Try.prog.fieldsOf 100)) := ⟨by kernel_rfl⟩
instance : TyI Try.prog 100 3 24 (.agg #[(.int .i64 (0)), (.int .i64 (0)), (.int .i64 (0))]) := tyi (by kernel_rfl)
instance : Fld Try.prog 100 0 0 1 false := fldok Try.underlying100 rfl rfl (by kernel_rfl) (i := ((Try.prog.info? 3).getD default)) (by kernel_rfl) Try.underlying3 rfl
instance : Fld Try.prog 100 1 1 1 false := fldok Try.underlying100 rfl rfl (by kernel_rfl) (i := ((Try.prog.info? 3).getD default)) (by kernel_rfl) Try.underlying3 rfl
instance : Fld Try.prog 100 2 2 1 false := fldok Try.underlying100 rfl rfl (by kernel_rfl) (i := ((Try.prog.info? 3).getD default)) (by kernel_rfl) Try.underlying3 rfl
instance : Bld Try.prog 100 [(0, 1), (1, 1), (2, 1)] [(.int .i64 (0)), (.int .i64 (0)), (.int .i64 (0))] := by
  refine ⟨_, ((Try.prog.info? 100).getD default), _, Try.underlying100, by kernel_rfl, (by kernel_rfl : _ = some (.agg #[(.int .i64 (0)), (.int .i64 (0)), (.int .i64 (0))])), rfl, fun w => by kernel_rfl⟩
instance : Flat Try.prog 100 [(3, (.int .i64)), (3, (.int .i64)), (3, (.int .i64))] := by
  refine ⟨by kernel_rfl, by kernel_rfl, by kernel_rfl, by kernel_rfl, ?_⟩
  simp only [List.forall_mem_cons]
  exact ⟨⟨Try.underlying3, rfl⟩, ⟨Try.underlying3, rfl⟩, ⟨Try.underlying3, rfl⟩, fun x hx => by cases hx⟩
instance : TyU Try.prog 101 (.struct (Try.prog.fieldsOf 101)) := ⟨by kernel_rfl⟩
instance : TyI Try.prog 101 3 24 (.agg #[(.int .i64 (0)), (.int .i64 (0)), (.int .i64 (0))]) := tyi (by kernel_rfl)
instance : Fld Try.prog 101 0 0 1 false := fldok Try.underlying101 rfl rfl (by kernel_rfl) (i := ((Try.prog.info? 3).getD default)) (by kernel_rfl) Try.underlying3 rfl
instance : Fld Try.prog 101 1 1 1 false := fldok Try.underlying101 rfl rfl (by kernel_rfl) (i := ((Try.prog.info? 3).getD default)) (by kernel_rfl) Try.underlying3 rfl
instance : Fld Try.prog 101 2 2 1 false := fldok Try.underlying101 rfl rfl (by kernel_rfl) (i := ((Try.prog.info? 3).getD default)) (by kernel_rfl) Try.underlying3 rfl
instance : Bld Try.prog 101 [(0, 1), (1, 1), (2, 1)] [(.int .i64 (0)), (.int .i64 (0)), (.int .i64 (0))] := by
  refine ⟨_, ((Try.prog.info? 101).getD default), _, Try.underlying101, by kernel_rfl, (by kernel_rfl : _ = some (.agg #[(.int .i64 (0)), (.int .i64 (0)), (.int .i64 (0))])), rfl, fun w => by kernel_rfl⟩
instance : Flat Try.prog 101 [(3, (.int .i64)), (3, (.int .i64)), (3, (.int .i64))] := by
  refine ⟨by kernel_rfl, by kernel_rfl, by kernel_rfl, by kernel_rfl, ?_⟩
  simp only [List.forall_mem_cons]
  exact ⟨⟨Try.underlying3, rfl⟩, ⟨Try.underlying3, rfl⟩, ⟨Try.underlying3, rfl⟩, fun x hx => by cases hx⟩
instance : TyU Try.prog 115 (.array 3 3) := ⟨Try.underlying115⟩
instance : TyI Try.prog 115 3 24 (.agg #[(.int .i64 (0)), (.int .i64 (0)), (.int .i64 (0))]) := tyi (by kernel_rfl)
instance : TyU Try.prog 122 (.pointer 124) := ⟨Try.underlying122⟩
instance : TyI Try.prog 122 1 8 (.pointer none) := tyi (by kernel_rfl)
instance : TyU Try.prog 123 (.struct (Try.prog.fieldsOf 123)) := ⟨by kernel_rfl⟩
instance : TyI Try.prog 123 3 40 (.agg #[(.slice none 0 0), (.int .i64 (0)), (.bool false)]) := tyi (by kernel_rfl)
instance : Fld Try.prog 123 0 0 1 false := fldok Try.underlying123 rfl rfl (by kernel_rfl) (i := ((Try.prog.info? 39).getD default)) (by kernel_rfl) Try.underlying39 rfl
instance : Fld Try.prog 123 1 1 1 false := fldok Try.underlying123 rfl rfl (by kernel_rfl) (i := ((Try.prog.info? 3).getD default)) (by kernel_rfl) Try.underlying3 rfl
instance : Fld Try.prog 123 2 2 1 false := fldok Try.underlying123 rfl rfl (by kernel_rfl) (i := ((Try.prog.info? 4).getD default)) (by kernel_rfl) Try.underlying4 rfl
instance : Bld Try.prog 123 [(0, 1), (1, 1), (2, 1)] [(.slice none 0 0), (.int .i64 (0)), (.bool false)] := by
  refine ⟨_, ((Try.prog.info? 123).getD default), _, Try.underlying123, by kernel_rfl, (by kernel_rfl : _ = some (.agg #[(.slice none 0 0), (.int .i64 (0)), (.bool false)])), rfl, fun w => by kernel_rfl⟩
instance : TyU Try.prog 124 (.struct (Try.prog.fieldsOf 124)) := ⟨by kernel_rfl⟩
instance : TyI Try.prog 124 3 40 (.agg #[(.slice none 0 0), (.int .i64 (0)), (.bool false)]) := tyi (by kernel_rfl)
instance : Fld Try.prog 124 0 0 1 false := fldok Try.underlying124 rfl rfl (by kernel_rfl) (i := ((Try.prog.info? 39).getD default)) (by kernel_rfl) Try.underlying39 rfl
instance : Fld Try.prog 124 1 1 1 false := fldok Try.underlying124 rfl rfl (by kernel_rfl) (i := ((Try.prog.info? 3).getD default)) (by kernel_rfl) Try.underlying3 rfl
instance : Fld Try.prog 124 2 2 1 false := fldok Try.underlying124 rfl rfl (by kernel_rfl) (i := ((Try.prog.info? 4).getD default)) (by kernel_rfl) Try.underlying4 rfl
instance : Bld Try.prog 124 [(0, 1), (1, 1), (2, 1)] [(.slice none 0 0), (.int .i64 (0)), (.bool false)] := by
  refine ⟨_, ((Try.prog.info? 124).getD default), _, Try.underlying124, by kernel_rfl, (by kernel_rfl : _ = some (.agg #[(.slice none 0 0), (.int .i64 (0)), (.bool false)])), rfl, fun w => by kernel_rfl⟩
instance : TyU Try.prog 126 (.int .u64) := ⟨Try.underlying126⟩
instance : TyI Try.prog 126 1 8 (.int .u64 (0)) := tyi (by kernel_rfl)
instance : TyU Try.prog 129 (.int .u32) := ⟨Try.underlying129⟩
instance : TyI Try.prog 129 1 4 (.int .u32 (0)) := tyi (by kernel_rfl)
instance : TyU Try.prog 134 (.struct (Try.prog.fieldsOf 134)) := ⟨by kernel_rfl⟩
instance : TyI Try.prog 134 5 56 (.agg #[(.int .i64 (0)), (.string ByteArray.empty), (.string ByteArray.empty), (.bool false), (.int .i64 (0))]) := tyi (by kernel_rfl)
instance : Fld Try.prog 134 0 0 1 false := fldok Try.underlying134 rfl rfl (by kernel_rfl) (i := ((Try.prog.info? 3).getD default)) (by kernel_rfl) Try.underlying3 rfl
instance : Fld Try.prog 134 1 1 1 false := fldok Try.underlying134 rfl rfl (by kernel_rfl) (i := ((Try.prog.info? 9).getD default)) (by kernel_rfl) Try.underlying9 rfl
instance : Fld Try.prog 134 2 2 1 false := fldok Try.underlying134 rfl rfl (by kernel_rfl) (i := ((Try.prog.info? 9).getD default)) (by kernel_rfl) Try.underlying9 rfl
instance : Fld Try.prog 134 3 3 1 false := fldok Try.underlying134 rfl rfl (by kernel_rfl) (i := ((Try.prog.info? 4).getD default)) (by kernel_rfl) Try.underlying4 rfl
instance : Fld Try.prog 134 4 4 1 false := fldok Try.underlying134 rfl rfl (by kernel_rfl) (i := ((Try.prog.info? 3).getD default)) (by kernel_rfl) Try.underlying3 rfl
instance : Bld Try.prog 134 [(0, 1), (1, 1), (2, 1), (3, 1), (4, 1)] [(.int .i64 (0)), (.string ByteArray.empty), (.string ByteArray.empty), (.bool false), (.int .i64 (0))] := by
  refine ⟨_, ((Try.prog.info? 134).getD default), _, Try.underlying134, by kernel_rfl, (by kernel_rfl : _ = some (.agg #[(.int .i64 (0)), (.string ByteArray.empty), (.string ByteArray.empty), (.bool false), (.int .i64 (0))])), rfl, fun w => by kernel_rfl⟩
instance : Flat Try.prog 134 [(3, (.int .i64)), (9, .string), (9, .string), (4, .bool), (3, (.int .i64))] := by
  refine ⟨by kernel_rfl, by kernel_rfl, by kernel_rfl, by kernel_rfl, ?_⟩
  simp only [List.forall_mem_cons]
  exact ⟨⟨Try.underlying3, rfl⟩, ⟨Try.underlying9, rfl⟩, ⟨Try.underlying9, rfl⟩, ⟨Try.underlying4, rfl⟩, ⟨Try.underlying3, rfl⟩, fun x hx => by cases hx⟩
instance : TyU Try.prog 135 (.struct (Try.prog.fieldsOf 135)) := ⟨by kernel_rfl⟩
instance : TyI Try.prog 135 5 56 (.agg #[(.int .i64 (0)), (.string ByteArray.empty), (.string ByteArray.empty), (.bool false), (.int .i64 (0))]) := tyi (by kernel_rfl)
instance : Fld Try.prog 135 0 0 1 false := fldok Try.underlying135 rfl rfl (by kernel_rfl) (i := ((Try.prog.info? 3).getD default)) (by kernel_rfl) Try.underlying3 rfl
instance : Fld Try.prog 135 1 1 1 false := fldok Try.underlying135 rfl rfl (by kernel_rfl) (i := ((Try.prog.info? 9).getD default)) (by kernel_rfl) Try.underlying9 rfl
instance : Fld Try.prog 135 2 2 1 false := fldok Try.underlying135 rfl rfl (by kernel_rfl) (i := ((Try.prog.info? 9).getD default)) (by kernel_rfl) Try.underlying9 rfl
instance : Fld Try.prog 135 3 3 1 false := fldok Try.underlying135 rfl rfl (by kernel_rfl) (i := ((Try.prog.info? 4).getD default)) (by kernel_rfl) Try.underlying4 rfl
instance : Fld Try.prog 135 4 4 1 false := fldok Try.underlying135 rfl rfl (by kernel_rfl) (i := ((Try.prog.info? 3).getD default)) (by kernel_rfl) Try.underlying3 rfl
instance : Bld Try.prog 135 [(0, 1), (1, 1), (2, 1), (3, 1), (4, 1)] [(.int .i64 (0)), (.string ByteArray.empty), (.string ByteArray.empty), (.bool false), (.int .i64 (0))] := by
  refine ⟨_, ((Try.prog.info? 135).getD default), _, Try.underlying135, by kernel_rfl, (by kernel_rfl : _ = some (.agg #[(.int .i64 (0)), (.string ByteArray.empty), (.string ByteArray.empty), (.bool false), (.int .i64 (0))])), rfl, fun w => by kernel_rfl⟩
instance : Flat Try.prog 135 [(3, (.int .i64)), (9, .string), (9, .string), (4, .bool), (3, (.int .i64))] := by
  refine ⟨by kernel_rfl, by kernel_rfl, by kernel_rfl, by kernel_rfl, ?_⟩
  simp only [List.forall_mem_cons]
  exact ⟨⟨Try.underlying3, rfl⟩, ⟨Try.underlying9, rfl⟩, ⟨Try.underlying9, rfl⟩, ⟨Try.underlying4, rfl⟩, ⟨Try.underlying3, rfl⟩, fun x hx => by cases hx⟩
instance : TyU Try.prog 137 (.pointer 141) := ⟨Try.underlying137⟩
instance : TyI Try.prog 137 1 8 (.pointer none) := tyi (by kernel_rfl)
instance : TyU Try.prog 140 (.struct (Try.prog.fieldsOf 140)) := ⟨by kernel_rfl⟩
instance : TyI Try.prog 140 5 64 (.agg #[(.string ByteArray.empty), (.int .i64 (0)), (.int .i64 (0)), (.slice none 0 0), (.int .i64 (0))]) := tyi (by kernel_rfl)
instance : Fld Try.prog 140 0 0 4 true := fldok Try.underlying140 rfl rfl (by kernel_rfl) (i := ((Try.prog.info? 58).getD default)) (by kernel_rfl) Try.underlying58 rfl
instance : Fld Try.prog 140 1 4 1 false := fldok Try.underlying140 rfl rfl (by kernel_rfl) (i := ((Try.prog.info? 28).getD default)) (by kernel_rfl) Try.underlying28 rfl
instance : Bld Try.prog 140 [(0, 4), (4, 1)] [(.string ByteArray.empty), (.int .i64 (0)), (.int .i64 (0)), (.slice none 0 0), (.int .i64 (0))] := by
  refine ⟨_, ((Try.prog.info? 140).getD default), _, Try.underlying140, by kernel_rfl, (by kernel_rfl : _ = some (.agg #[(.string ByteArray.empty), (.int .i64 (0)), (.int .i64 (0)), (.slice none 0 0), (.int .i64 (0))])), rfl, fun w => by kernel_rfl⟩
instance : TyU Try.prog 141 (.struct (Try.prog.fieldsOf 141)) := ⟨by kernel_rfl⟩
instance : TyI Try.prog 141 5 64 (.agg #[(.string ByteArray.empty), (.int .i64 (0)), (.int .i64 (0)), (.slice none 0 0), (.int .i64 (0))]) := tyi (by kernel_rfl)
instance : Fld Try.prog 141 0 0 4 true := fldok Try.underlying141 rfl rfl (by kernel_rfl) (i := ((Try.prog.info? 58).getD default)) (by kernel_rfl) Try.underlying58 rfl
instance : Fld Try.prog 141 1 4 1 false := fldok Try.underlying141 rfl rfl (by kernel_rfl) (i := ((Try.prog.info? 28).getD default)) (by kernel_rfl) Try.underlying28 rfl
instance : Bld Try.prog 141 [(0, 4), (4, 1)] [(.string ByteArray.empty), (.int .i64 (0)), (.int .i64 (0)), (.slice none 0 0), (.int .i64 (0))] := by
  refine ⟨_, ((Try.prog.info? 141).getD default), _, Try.underlying141, by kernel_rfl, (by kernel_rfl : _ = some (.agg #[(.string ByteArray.empty), (.int .i64 (0)), (.int .i64 (0)), (.slice none 0 0), (.int .i64 (0))])), rfl, fun w => by kernel_rfl⟩
instance : TyU Try.prog 164 (.map 9 3) := ⟨Try.underlying164⟩
instance : TyI Try.prog 164 1 8 (.map none) := tyi (by kernel_rfl)
instance : TyU Try.prog 165 (.map 95 3) := ⟨Try.underlying165⟩
instance : TyI Try.prog 165 1 8 (.map none) := tyi (by kernel_rfl)
instance : TyU Try.prog 172 (.pointer 174) := ⟨Try.underlying172⟩
instance : TyI Try.prog 172 1 8 (.pointer none) := tyi (by kernel_rfl)
instance : TyU Try.prog 173 (.struct (Try.prog.fieldsOf 173)) := ⟨by kernel_rfl⟩
instance : TyI Try.prog 173 4 96 (.agg #[(.slice none 0 0), (.slice none 0 0), (.slice none 0 0), (.slice none 0 0)]) := tyi (by kernel_rfl)
instance : Fld Try.prog 173 0 0 1 false := fldok Try.underlying173 rfl rfl (by kernel_rfl) (i := ((Try.prog.info? 56).getD default)) (by kernel_rfl) Try.underlying56 rfl
instance : Fld Try.prog 173 1 1 1 false := fldok Try.underlying173 rfl rfl (by kernel_rfl) (i := ((Try.prog.info? 60).getD default)) (by kernel_rfl) Try.underlying60 rfl
instance : Fld Try.prog 173 2 2 1 false := fldok Try.underlying173 rfl rfl (by kernel_rfl) (i := ((Try.prog.info? 52).getD default)) (by kernel_rfl) Try.underlying52 rfl
instance : Fld Try.prog 173 3 3 1 false := fldok Try.underlying173 rfl rfl (by kernel_rfl) (i := ((Try.prog.info? 52).getD default)) (by kernel_rfl) Try.underlying52 rfl
instance : Bld Try.prog 173 [(0, 1), (1, 1), (2, 1), (3, 1)] [(.slice none 0 0), (.slice none 0 0), (.slice none 0 0), (.slice none 0 0)] := by
  refine ⟨_, ((Try.prog.info? 173).getD default), _, Try.underlying173, by kernel_rfl, (by kernel_rfl : _ = some (.agg #[(.slice none 0 0), (.slice none 0 0), (.slice none 0 0), (.slice none 0 0)])), rfl, fun w => by kernel_rfl⟩
instance : TyU Try.prog 174 (.struct (Try.prog.fieldsOf 174)) := ⟨by kernel_rfl⟩
instance : TyI Try.prog 174 4 96 (.agg #[(.slice none 0 0), (.slice none 0 0), (.slice none 0 0), (.slice none 0 0)]) := tyi (by kernel_rfl)
instance : Fld Try.prog 174 0 0 1 false := fldok Try.underlying174 rfl rfl (by kernel_rfl) (i := ((Try.prog.info? 56).getD default)) (by kernel_rfl) Try.underlying56 rfl
instance : Fld Try.prog 174 1 1 1 false := fldok Try.underlying174 rfl rfl (by kernel_rfl) (i := ((Try.prog.info? 60).getD default)) (by kernel_rfl) Try.underlying60 rfl
instance : Fld Try.prog 174 2 2 1 false := fldok Try.underlying174 rfl rfl (by kernel_rfl) (i := ((Try.prog.info? 52).getD default)) (by kernel_rfl) Try.underlying52 rfl
instance : Fld Try.prog 174 3 3 1 false := fldok Try.underlying174 rfl rfl (by kernel_rfl) (i := ((Try.prog.info? 52).getD default)) (by kernel_rfl) Try.underlying52 rfl
instance : Bld Try.prog 174 [(0, 1), (1, 1), (2, 1), (3, 1)] [(.slice none 0 0), (.slice none 0 0), (.slice none 0 0), (.slice none 0 0)] := by
  refine ⟨_, ((Try.prog.info? 174).getD default), _, Try.underlying174, by kernel_rfl, (by kernel_rfl : _ = some (.agg #[(.slice none 0 0), (.slice none 0 0), (.slice none 0 0), (.slice none 0 0)])), rfl, fun w => by kernel_rfl⟩
instance : TyU Try.prog 184 (.int .u64) := ⟨Try.underlying184⟩
instance : TyI Try.prog 184 1 8 (.int .u64 (0)) := tyi (by kernel_rfl)
instance : TyU Try.prog 187 (.pointer 189) := ⟨Try.underlying187⟩
instance : TyI Try.prog 187 1 8 (.pointer none) := tyi (by kernel_rfl)
instance : TyU Try.prog 188 (.struct (Try.prog.fieldsOf 188)) := ⟨by kernel_rfl⟩
instance : TyI Try.prog 188 2 32 (.agg #[(.slice none 0 0), (.int .i64 (0))]) := tyi (by kernel_rfl)
instance : Fld Try.prog 188 0 0 1 false := fldok Try.underlying188 rfl rfl (by kernel_rfl) (i := ((Try.prog.info? 39).getD default)) (by kernel_rfl) Try.underlying39 rfl
instance : Fld Try.prog 188 1 1 1 false := fldok Try.underlying188 rfl rfl (by kernel_rfl) (i := ((Try.prog.info? 3).getD default)) (by kernel_rfl) Try.underlying3 rfl
instance : Bld Try.prog 188 [(0, 1), (1, 1)] [(.slice none 0 0), (.int .i64 (0))] := by
  refine ⟨_, ((Try.prog.info? 188).getD default), _, Try.underlying188, by kernel_rfl, (by kernel_rfl : _ = some (.agg #[(.slice none 0 0), (.int .i64 (0))])), rfl, fun w => by kernel_rfl⟩
instance : TyU Try.prog 189 (.struct (Try.prog.fieldsOf 189)) := ⟨by kernel_rfl⟩
instance : TyI Try.prog 189 2 32 (.agg #[(.slice none 0 0), (.int .i64 (0))]) := tyi (by kernel_rfl)
instance : Fld Try.prog 189 0 0 1 false := fldok Try.underlying189 rfl rfl (by kernel_rfl) (i := ((Try.prog.info? 39).getD default)) (by kernel_rfl) Try.underlying39 rfl
instance : Fld Try.prog 189 1 1 1 false := fldok Try.underlying189 rfl rfl (by kernel_rfl) (i := ((Try.prog.info? 3).getD default)) (by kernel_rfl) Try.underlying3 rfl
instance : Bld Try.prog 189 [(0, 1), (1, 1)] [(.slice none 0 0), (.int .i64 (0))] := by
  refine ⟨_, ((Try.prog.info? 189).getD default), _, Try.underlying189, by kernel_rfl, (by kernel_rfl : _ = some (.agg #[(.slice none 0 0), (.int .i64 (0))])), rfl, fun w => by kernel_rfl⟩
instance : TyU Try.prog 209 (.map 95 211) := ⟨Try.underlying209⟩
instance : TyI Try.prog 209 1 8 (.map none) := tyi (by kernel_rfl)
instance : TyU Try.prog 211 (.map 3 4) := ⟨Try.underlying211⟩
instance : TyI Try.prog 211 1 8 (.map none) := tyi (by kernel_rfl)
instance : TyU Try.prog 222 (.array 16 129) := ⟨Try.underlying222⟩
instance : TyI Try.prog 222 16 64 (.agg #[(.int .u32 (0)), (.int .u32 (0)), (.int .u32 (0)), (.int .u32 (0)), (.int .u32 (0)), (.int .u32 (0)), (.int .u32 (0)), (.int .u32 (0)), (.int .u32 (0)), (.int .u32 (0)), (.int .u32 (0)), (.int .u32 (0)), (.int .u32 (0)), (.int .u32 (0)), (.int .u32 (0)), (.int .u32 (0))]) := tyi (by kernel_rfl)
instance : TyU Try.prog 224 (.array 7 3) := ⟨Try.underlying224⟩
instance : TyI Try.prog 224 7 56 (.agg #[(.int .i64 (0)), (.int .i64 (0)), (.int .i64 (0)), (.int .i64 (0)), (.int .i64 (0)), (.int .i64 (0)), (.int .i64 (0))]) := tyi (by kernel_rfl)
instance : TyU Try.prog 234 (.array 0 16) := ⟨Try.underlying234⟩
instance : TyI Try.prog 234 0 0 (.agg #[]) := tyi (by kernel_rfl)
instance : TyU Try.prog 237 (.int .u8) := ⟨Try.underlying237⟩
instance : TyI Try.prog 237 1 1 (.int .u8 (0)) := tyi (by kernel_rfl)
instance : TyU Try.prog 238 (.int .u8) := ⟨Try.underlying238⟩
instance : TyI Try.prog 238 1 1 (.int .u8 (0)) := tyi (by kernel_rfl)
instance : TyU Try.prog 240 (.pointer 5) := ⟨Try.underlying240⟩
instance : TyI Try.prog 240 1 8 (.pointer none) := tyi (by kernel_rfl)
instance : TyU Try.prog 241 (.int .i32) := ⟨Try.underlying241⟩
instance : TyI Try.prog 241 1 4 (.int .i32 (0)) := tyi (by kernel_rfl)
instance : TyU Try.prog 242 (.int .i32) := ⟨Try.underlying242⟩
instance : TyI Try.prog 242 1 4 (.int .i32 (0)) := tyi (by kernel_rfl)
instance : TyU Try.prog 243 (.struct (Try.prog.fieldsOf 243)) := ⟨by kernel_rfl⟩
instance : TyI Try.prog 243 11 48 (.agg #[(.int .u64 (0)), (.int .u64 (0)), (.int .u32 (0)), (.int .u8 (0)), (.int .u8 (0)), (.int .u8 (0)), (.int .u8 (0)), .nilFunc, (.pointer none), (.int .i32 (0)), (.int .i32 (0))]) := tyi (by kernel_rfl)
instance : Fld Try.prog 243 0 0 1 false := fldok Try.underlying243 rfl rfl (by kernel_rfl) (i := ((Try.prog.info? 12).getD default)) (by kernel_rfl) Try.underlying12 rfl
instance : Fld Try.prog 243 1 1 1 false := fldok Try.underlying243 rfl rfl (by kernel_rfl) (i := ((Try.prog.info? 12).getD default)) (by kernel_rfl) Try.underlying12 rfl
instance : Fld Try.prog 243 2 2 1 false := fldok Try.underlying243 rfl rfl (by kernel_rfl) (i := ((Try.prog.info? 129).getD default)) (by kernel_rfl) Try.underlying129 rfl
instance : Fld Try.prog 243 3 3 1 false := fldok Try.underlying243 rfl rfl (by kernel_rfl) (i := ((Try.prog.info? 237).getD default)) (by kernel_rfl) Try.underlying237 rfl
instance : Fld Try.prog 243 4 4 1 false := fldok Try.underlying243 rfl rfl (by kernel_rfl) (i := ((Try.prog.info? 5).getD default)) (by kernel_rfl) Try.underlying5 rfl
instance : Fld Try.prog 243 5 5 1 false := fldok Try.underlying243 rfl rfl (by kernel_rfl) (i := ((Try.prog.info? 5).getD default)) (by kernel_rfl) Try.underlying5 rfl
instance : Fld Try.prog 243 6 6 1 false := fldok Try.underlying243 rfl rfl (by kernel_rfl) (i := ((Try.prog.info? 238).getD default)) (by kernel_rfl) Try.underlying238 rfl
instance : Fld Try.prog 243 8 8 1 false := fldok Try.underlying243 rfl rfl (by kernel_rfl) (i := ((Try.prog.info? 240).getD default)) (by kernel_rfl) Try.underlying240 rfl
instance : Fld Try.prog 243 9 9 1 false := fldok Try.underlying243 rfl rfl (by kernel_rfl) (i := ((Try.prog.info? 241).getD default)) (by kernel_rfl) Try.underlying241 rfl
instance : Fld Try.prog 243 10 10 1 false := fldok Try.underlying243 rfl rfl (by kernel_rfl) (i := ((Try.prog.info? 242).getD default)) (by kernel_rfl) Try.underlying242 rfl
instance : TyU Try.prog 244 (.struct (Try.prog.fieldsOf 244)) := ⟨by kernel_rfl⟩
instance : TyI Try.prog 244 11 48 (.agg #[(.int .u64 (0)), (.int .u64 (0)), (.int .u32 (0)), (.int .u8 (0)), (.int .u8 (0)), (.int .u8 (0)), (.int .u8 (0)), .nilFunc, (.pointer none), (.int .i32 (0)), (.int .i32 (0))]) := tyi (by kernel_rfl)
instance : Fld Try.prog 244 0 0 1 false := fldok Try.underlying244 rfl rfl (by kernel_rfl) (i := ((Try.prog.info? 12).getD default)) (by kernel_rfl) Try.underlying12 rfl
instance : Fld Try.prog 244 1 1 1 false := fldok Try.underlying244 rfl rfl (by kernel_rfl) (i := ((Try.prog.info? 12).getD default)) (by kernel_rfl) Try.underlying12 rfl
instance : Fld Try.prog 244 2 2 1 false := fldok Try.underlying244 rfl rfl (by kernel_rfl) (i := ((Try.prog.info? 129).getD default)) (by kernel_rfl) Try.underlying129 rfl
instance : Fld Try.prog 244 3 3 1 false := fldok Try.underlying244 rfl rfl (by kernel_rfl) (i := ((Try.prog.info? 237).getD default)) (by kernel_rfl) Try.underlying237 rfl
instance : Fld Try.prog 244 4 4 1 false := fldok Try.underlying244 rfl rfl (by kernel_rfl) (i := ((Try.prog.info? 5).getD default)) (by kernel_rfl) Try.underlying5 rfl
instance : Fld Try.prog 244 5 5 1 false := fldok Try.underlying244 rfl rfl (by kernel_rfl) (i := ((Try.prog.info? 5).getD default)) (by kernel_rfl) Try.underlying5 rfl
instance : Fld Try.prog 244 6 6 1 false := fldok Try.underlying244 rfl rfl (by kernel_rfl) (i := ((Try.prog.info? 238).getD default)) (by kernel_rfl) Try.underlying238 rfl
instance : Fld Try.prog 244 8 8 1 false := fldok Try.underlying244 rfl rfl (by kernel_rfl) (i := ((Try.prog.info? 240).getD default)) (by kernel_rfl) Try.underlying240 rfl
instance : Fld Try.prog 244 9 9 1 false := fldok Try.underlying244 rfl rfl (by kernel_rfl) (i := ((Try.prog.info? 241).getD default)) (by kernel_rfl) Try.underlying241 rfl
instance : Fld Try.prog 244 10 10 1 false := fldok Try.underlying244 rfl rfl (by kernel_rfl) (i := ((Try.prog.info? 242).getD default)) (by kernel_rfl) Try.underlying242 rfl
instance : FnOk Try.prog 3 := fnok (by kernel_rfl)
instance : FnOk Try.prog 4 := fnok (by kernel_rfl)
instance : FnOk Try.prog 5 := fnok (by kernel_rfl)
instance : FnOk Try.prog 6 := fnok (by kernel_rfl)
instance : FnOk Try.prog 7 := fnok (by kernel_rfl)
instance : FnOk Try.prog 8 := fnok (by kernel_rfl)
instance : FnOk Try.prog 9 := fnok (by kernel_rfl)
instance : FnOk Try.prog 10 := fnok (by kernel_rfl)
instance : FnOk Try.prog 11 := fnok (by kernel_rfl)
instance : FnOk Try.prog 12 := fnok (by kernel_rfl)
instance : FnOk Try.prog 13 := fnok (by kernel_rfl)
instance : FnOk Try.prog 14 := fnok (by kernel_rfl)
instance : FnOk Try.prog 15 := fnok (by kernel_rfl)
instance : FnOk Try.prog 16 := fnok (by kernel_rfl)
instance : FnOk Try.prog 17 := fnok (by kernel_rfl)
instance : FnOk Try.prog 18 := fnok (by kernel_rfl)
instance : FnOk Try.prog 19 := fnok (by kernel_rfl)
instance : FnOk Try.prog 20 := fnok (by kernel_rfl)
instance : FnOk Try.prog 21 := fnok (by kernel_rfl)
instance : FnOk Try.prog 22 := fnok (by kernel_rfl)
instance : FnOk Try.prog 23 := fnok (by kernel_rfl)
instance : FnOk Try.prog 24 := fnok (by kernel_rfl)
instance : FnOk Try.prog 25 := fnok (by kernel_rfl)
instance : FnOk Try.prog 26 := fnok (by kernel_rfl)
instance : FnOk Try.prog 27 := fnok (by kernel_rfl)
instance : FnOk Try.prog 28 := fnok (by kernel_rfl)
instance : FnOk Try.prog 29 := fnok (by kernel_rfl)
instance : FnOk Try.prog 30 := fnok (by kernel_rfl)
instance : FnOk Try.prog 31 := fnok (by kernel_rfl)
instance : FnOk Try.prog 32 := fnok (by kernel_rfl)
instance : FnOk Try.prog 33 := fnok (by kernel_rfl)
instance : FnOk Try.prog 34 := fnok (by kernel_rfl)
instance : FnOk Try.prog 35 := fnok (by kernel_rfl)
instance : FnOk Try.prog 36 := fnok (by kernel_rfl)
instance : FnOk Try.prog 37 := fnok (by kernel_rfl)
instance : FnOk Try.prog 38 := fnok (by kernel_rfl)
instance : FnOk Try.prog 39 := fnok (by kernel_rfl)
instance : FnOk Try.prog 40 := fnok (by kernel_rfl)
instance : FnOk Try.prog 41 := fnok (by kernel_rfl)
instance : FnOk Try.prog 42 := fnok (by kernel_rfl)
instance : FnOk Try.prog 43 := fnok (by kernel_rfl)
instance : FnOk Try.prog 44 := fnok (by kernel_rfl)
instance : FnOk Try.prog 45 := fnok (by kernel_rfl)
instance : FnOk Try.prog 46 := fnok (by kernel_rfl)
instance : FnOk Try.prog 47 := fnok (by kernel_rfl)
instance : FnOk Try.prog 48 := fnok (by kernel_rfl)
instance : FnOk Try.prog 49 := fnok (by kernel_rfl)
instance : FnOk Try.prog 50 := fnok (by kernel_rfl)
instance : FnOk Try.prog 51 := fnok (by kernel_rfl)
instance : FnOk Try.prog 52 := fnok (by kernel_rfl)
instance : FnOk Try.prog 53 := fnok (by kernel_rfl)
instance : FnOk Try.prog 54 := fnok (by kernel_rfl)
instance : FnOk Try.prog 55 := fnok (by kernel_rfl)
instance : FnOk Try.prog 56 := fnok (by kernel_rfl)
instance : FnOk Try.prog 57 := fnok (by kernel_rfl)
instance : FnOk Try.prog 58 := fnok (by kernel_rfl)
instance : FnOk Try.prog 59 := fnok (by kernel_rfl)
instance : FnOk Try.prog 60 := fnok (by kernel_rfl)
instance : FnOk Try.prog 61 := fnok (by kernel_rfl)
instance : FnOk Try.prog 62 := fnok (by kernel_rfl)
instance : FnOk Try.prog 63 := fnok (by kernel_rfl)
instance : FnOk Try.prog 64 := fnok (by kernel_rfl)
instance : FnOk Try.prog 65 := fnok (by kernel_rfl)
instance : FnOk Try.prog 66 := fnok (by kernel_rfl)
instance : FnOk Try.prog 67 := fnok (by kernel_rfl)
instance : FnOk Try.prog 68 := fnok (by kernel_rfl)
instance : FnOk Try.prog 69 := fnok (by kernel_rfl)
instance : FnOk Try.prog 70 := fnok (by kernel_rfl)
instance : FnOk Try.prog 71 := fnok (by kernel_rfl)
instance : FnOk Try.prog 72 := fnok (by kernel_rfl)
instance : FnOk Try.prog 73 := fnok (by kernel_rfl)
instance : FnOk Try.prog 74 := fnok (by kernel_rfl)
instance : FnOk Try.prog 75 := fnok (by kernel_rfl)
instance : FnOk Try.prog 76 := fnok (by kernel_rfl)
instance : FnOk Try.prog 77 := fnok (by kernel_rfl)
instance : FnOk Try.prog 78 := fnok (by kernel_rfl)
instance : FnOk Try.prog 79 := fnok (by kernel_rfl)
instance : FnOk Try.prog 80 := fnok (by kernel_rfl)
instance : FnOk Try.prog 81 := fnok (by kernel_rfl)
instance : FnOk Try.prog 82 := fnok (by kernel_rfl)
instance : FnOk Try.prog 83 := fnok (by kernel_rfl)
instance : FnOk Try.prog 84 := fnok (by kernel_rfl)
instance : FnOk Try.prog 85 := fnok (by kernel_rfl)
instance : FnOk Try.prog 86 := fnok (by kernel_rfl)
instance : FnOk Try.prog 87 := fnok (by kernel_rfl)
instance : FnOk Try.prog 88 := fnok (by kernel_rfl)
instance : FnOk Try.prog 89 := fnok (by kernel_rfl)
instance : FnOk Try.prog 90 := fnok (by kernel_rfl)
instance : FnOk Try.prog 91 := fnok (by kernel_rfl)
instance : FnOk Try.prog 92 := fnok (by kernel_rfl)
instance : FnOk Try.prog 93 := fnok (by kernel_rfl)
instance : FnOk Try.prog 94 := fnok (by kernel_rfl)
instance : FnOk Try.prog 95 := fnok (by kernel_rfl)
instance : FnOk Try.prog 96 := fnok (by kernel_rfl)
instance : FnOk Try.prog 97 := fnok (by kernel_rfl)
instance : FnOk Try.prog 98 := fnok (by kernel_rfl)
instance : FnOk Try.prog 99 := fnok (by kernel_rfl)
instance : FnOk Try.prog 100 := fnok (by kernel_rfl)
instance : FnOk Try.prog 101 := fnok (by kernel_rfl)
instance : FnOk Try.prog 102 := fnok (by kernel_rfl)
instance : FnOk Try.prog 103 := fnok (by kernel_rfl)
instance : FnOk Try.prog 104 := fnok (by kernel_rfl)
instance : FnOk Try.prog 105 := fnok (by kernel_rfl)
instance : FnOk Try.prog 106 := fnok (by kernel_rfl)
instance : FnOk Try.prog 107 := fnok (by kernel_rfl)
instance : FnOk Try.prog 108 := fnok (by kernel_rfl)
instance : FnOk Try.prog 109 := fnok (by kernel_rfl)
instance : FnOk Try.prog 110 := fnok (by kernel_rfl)
instance : FnOk Try.prog 111 := fnok (by kernel_rfl)
instance : FnOk Try.prog 112 := fnok (by kernel_rfl)
instance : FnOk Try.prog 113 := fnok (by kernel_rfl)
instance : FnOk Try.prog 114 := fnok (by kernel_rfl)
instance : FnOk Try.prog 115 := fnok (by kernel_rfl)
instance : FnOk Try.prog 116 := fnok (by kernel_rfl)
instance : FnOk Try.prog 117 := fnok (by kernel_rfl)
instance : FnOk Try.prog 118 := fnok (by kernel_rfl)
instance : FnOk Try.prog 119 := fnok (by kernel_rfl)
instance : FnOk Try.prog 120 := fnok (by kernel_rfl)
instance : FnOk Try.prog 121 := fnok (by kernel_rfl)
instance : FnOk Try.prog 122 := fnok (by kernel_rfl)
instance : FnOk Try.prog 123 := fnok (by kernel_rfl)
instance : FnOk Try.prog 124 := fnok (by kernel_rfl)
instance : FnOk Try.prog 125 := fnok (by kernel_rfl)
instance : FnOk Try.prog 126 := fnok (by kernel_rfl)
instance : FnOk Try.prog 127 := fnok (by kernel_rfl)
instance : FnOk Try.prog 128 := fnok (by kernel_rfl)
instance : FnOk Try.prog 129 := fnok (by kernel_rfl)
instance : FnOk Try.prog 130 := fnok (by kernel_rfl)
instance : FnOk Try.prog 131 := fnok (by kernel_rfl)
instance : FnOk Try.prog 132 := fnok (by kernel_rfl)
instance : FnOk Try.prog 133 := fnok (by kernel_rfl)
instance : FnOk Try.prog 134 := fnok (by kernel_rfl)
instance : FnOk Try.prog 135 := fnok (by kernel_rfl)
instance : FnOk Try.prog 136 := fnok (by kernel_rfl)
instance : FnOk Try.prog 137 := fnok (by kernel_rfl)
instance : FnOk Try.prog 138 := fnok (by kernel_rfl)
instance : FnOk Try.prog 139 := fnok (by kernel_rfl)
instance : FnOk Try.prog 140 := fnok (by kernel_rfl)
instance : FnOk Try.prog 141 := fnok (by kernel_rfl)
instance : FnOk Try.prog 142 := fnok (by kernel_rfl)
instance : FnOk Try.prog 143 := fnok (by kernel_rfl)
instance : FnOk Try.prog 144 := fnok (by kernel_rfl)
instance : FnOk Try.prog 145 := fnok (by kernel_rfl)
instance : FnOk Try.prog 146 := fnok (by kernel_rfl)
instance : FnOk Try.prog 147 := fnok (by kernel_rfl)
instance : FnOk Try.prog 148 := fnok (by kernel_rfl)
instance : FnOk Try.prog 149 := fnok (by kernel_rfl)
instance : FnOk Try.prog 150 := fnok (by kernel_rfl)
instance : FnOk Try.prog 151 := fnok (by kernel_rfl)
instance : FnOk Try.prog 152 := fnok (by kernel_rfl)
instance : FnOk Try.prog 153 := fnok (by kernel_rfl)
instance : FnOk Try.prog 154 := fnok (by kernel_rfl)
instance : FnOk Try.prog 155 := fnok (by kernel_rfl)
instance : FnOk Try.prog 156 := fnok (by kernel_rfl)
instance : FnOk Try.prog 157 := fnok (by kernel_rfl)
instance : FnOk Try.prog 158 := fnok (by kernel_rfl)
instance : FnOk Try.prog 159 := fnok (by kernel_rfl)
instance : FnOk Try.prog 160 := fnok (by kernel_rfl)
instance : FnOk Try.prog 161 := fnok (by kernel_rfl)
instance : FnOk Try.prog 162 := fnok (by kernel_rfl)
instance : FnOk Try.prog 163 := fnok (by kernel_rfl)
instance : FnOk Try.prog 164 := fnok (by kernel_rfl)
instance : FnOk Try.prog 165 := fnok (by kernel_rfl)
instance : FnOk Try.prog 166 := fnok (by kernel_rfl)
instance : FnOk Try.prog 167 := fnok (by kernel_rfl)
instance : FnOk Try.prog 168 := fnok (by kernel_rfl)
instance : FnOk Try.prog 169 := fnok (by kernel_rfl)
instance : FnOk Try.prog 170 := fnok (by kernel_rfl)
instance : FnOk Try.prog 171 := fnok (by kernel_rfl)
instance : FnOk Try.prog 172 := fnok (by kernel_rfl)
instance : FnOk Try.prog 174 := fnok (by kernel_rfl)
instance : FnOk Try.prog 175 := fnok (by kernel_rfl)
instance : FnOk Try.prog 176 := fnok (by kernel_rfl)
instance : FnOk Try.prog 177 := fnok (by kernel_rfl)
instance : FnOk Try.prog 178 := fnok (by kernel_rfl)
instance : FnOk Try.prog 179 := fnok (by kernel_rfl)
instance : FnOk Try.prog 180 := fnok (by kernel_rfl)
instance : FnOk Try.prog 181 := fnok (by kernel_rfl)
instance : FnOk Try.prog 182 := fnok (by kernel_rfl)
instance : FnOk Try.prog 183 := fnok (by kernel_rfl)
instance : FnOk Try.prog 184 := fnok (by kernel_rfl)
instance : FnOk Try.prog 185 := fnok (by kernel_rfl)
instance : FnOk Try.prog 186 := fnok (by kernel_rfl)
instance : FnOk Try.prog 187 := fnok (by kernel_rfl)
instance : FnOk Try.prog 188 := fnok (by kernel_rfl)
instance : FnOk Try.prog 189 := fnok (by kernel_rfl)
instance : FnOk Try.prog 190 := fnok (by kernel_rfl)
instance : FnOk Try.prog 191 := fnok (by kernel_rfl)
instance : FnOk Try.prog 192 := fnok (by kernel_rfl)
instance : FnOk Try.prog 193 := fnok (by kernel_rfl)
instance : FnOk Try.prog 194 := fnok (by kernel_rfl)
instance : FnOk Try.prog 195 := fnok (by kernel_rfl)
instance : FnOk Try.prog 197 := fnok (by kernel_rfl)
instance : FnOk Try.prog 198 := fnok (by kernel_rfl)
instance : FnOk Try.prog 199 := fnok (by kernel_rfl)
instance : FnOk Try.prog 200 := fnok (by kernel_rfl)
instance : FnOk Try.prog 201 := fnok (by kernel_rfl)
instance : FnOk Try.prog 202 := fnok (by kernel_rfl)
instance : FnOk Try.prog 203 := fnok (by kernel_rfl)
instance : FnOk Try.prog 204 := fnok (by kernel_rfl)
instance : FnOk Try.prog 205 := fnok (by kernel_rfl)
instance : FnOk Try.prog 206 := fnok (by kernel_rfl)
instance : FnOk Try.prog 207 := fnok (by kernel_rfl)
instance : FnOk Try.prog 208 := fnok (by kernel_rfl)
instance : FnOk Try.prog 209 := fnok (by kernel_rfl)
instance : FnOk Try.prog 210 := fnok (by kernel_rfl)
instance : FnOk Try.prog 211 := fnok (by kernel_rfl)
instance : FnOk Try.prog 212 := fnok (by kernel_rfl)
instance : FnOk Try.prog 213 := fnok (by kernel_rfl)
instance : FnOk Try.prog 214 := fnok (by kernel_rfl)
instance : FnOk Try.prog 215 := fnok (by kernel_rfl)
instance : FnOk Try.prog 216 := fnok (by kernel_rfl)
instance : FnOk Try.prog 218 := fnok (by kernel_rfl)
instance : FnOk Try.prog 219 := fnok (by kernel_rfl)
instance : FnOk Try.prog 220 := fnok (by kernel_rfl)
end Go.Wm

/-
  The facts on types and functions of this seat's program, written by a program of the prover's own out of the dump. Conditions: none.
-/
import Derived.Test.YtbhgbfhgdccghaaCoA
import Derived.Test.YtbhgbfhgdccghaaProg
import Derived.KernelRfl
set_option linter.all false
namespace Go.Wm
open Go.Proofs
set_option maxRecDepth 100000
theorem tyi {P : Program} {t : TypeId} {sz bs : Nat} {z : Value} (h : (P.info? t).map (fun i => (i.size, i.bytes, i.zero)) = some (sz, bs, some z)) : TyI P t sz bs z := by
  cases e : P.info? t with
  | none => simp [e] at h
  | some i => simp only [e, Option.map_some, Option.some.injEq, Prod.mk.injEq] at h; exact ⟨i, e, h.1, h.2.1, h.2.2⟩
theorem fnok {P : Program} {f : FuncId} (h : (P.funcs[f]?).map (fun fn => (fn.name == "runtime.NumGoroutine", fn.body.isNone)) = some (false, false)) : FnOk P f := by
  cases e : P.funcs[f]? with
  | none => simp [e] at h
  | some i => simp only [e, Option.map_some, Option.some.injEq, Prod.mk.injEq] at h; exact ⟨i, e, h.1, h.2⟩
theorem fldok {P : Program} {t f off sz : Nat} {ag : Bool} {fs : Array Field} {fd : Field} {i : TypeInfo} {d : TypeDesc} (h1 : P.underlying t = some (.struct fs)) (h2 : fs[f]? = some fd) (h3 : fd.offset = off) (h4 : P.info? fd.type = some i) (h5 : i.size = sz) (h6 : P.underlying fd.type = some d) (h7 : aggD d = ag) : Fld P t f off sz ag := ⟨fs, fd, d, i, h1, h2, h3, h4, h5, h6, h7⟩
instance : Mixed Try.prog := ⟨by kernel_rfl⟩
instance : TyU Try.prog 2 (.int .i64) := ⟨Try.underlying2⟩
instance : TyI Try.prog 2 1 8 (.int .i64 (0)) := tyi (by kernel_rfl)
instance : TyU Try.prog 3 (.int .i64) := ⟨Try.underlying3⟩
instance : TyI Try.prog 3 1 8 (.int .i64 (0)) := tyi (by kernel_rfl)
instance : TyU Try.prog 4 .bool := ⟨Try.underlying4⟩
instance : TyI Try.prog 4 1 1 (.bool false) := tyi (by kernel_rfl)
instance : TyU Try.prog 5 (.int .u8) := ⟨Try.underlying5⟩
instance : TyI Try.prog 5 1 1 (.int .u8 (0)) := tyi (by kernel_rfl)
instance : TyU Try.prog 6 (.int .u8) := ⟨Try.underlying6⟩
instance : TyI Try.prog 6 1 1 (.int .u8 (0)) := tyi (by kernel_rfl)
instance : TyU Try.prog 9 .string := ⟨Try.underlying9⟩
instance : TyI Try.prog 9 1 16 (.string ByteArray.empty) := tyi (by kernel_rfl)
instance : TyU Try.prog 10 .string := ⟨Try.underlying10⟩
instance : TyI Try.prog 10 1 16 (.string ByteArray.empty) := tyi (by kernel_rfl)
instance : TyU Try.prog 11 .string := ⟨Try.underlying11⟩
instance : TyI Try.prog 11 1 16 (.string ByteArray.empty) := tyi (by kernel_rfl)
instance : TyU Try.prog 12 (.int .u64) := ⟨Try.underlying12⟩
instance : TyI Try.prog 12 1 8 (.int .u64 (0)) := tyi (by kernel_rfl)
instance : TyU Try.prog 15 (.pointer 118) := ⟨Try.underlying15⟩
instance : TyI Try.prog 15 1 8 (.pointer none) := tyi (by kernel_rfl)
instance : TyU Try.prog 16 (.pointer 121) := ⟨Try.underlying16⟩
instance : TyI Try.prog 16 1 8 (.pointer none) := tyi (by kernel_rfl)
instance : TyU Try.prog 17 (.pointer 131) := ⟨Try.underlying17⟩
instance : TyI Try.prog 17 1 8 (.pointer none) := tyi (by kernel_rfl)
instance : TyU Try.prog 21 (.int .i32) := ⟨Try.underlying21⟩
instance : TyI Try.prog 21 1 4 (.int .i32 (0)) := tyi (by kernel_rfl)
instance : TyU Try.prog 22 (.slice 38) := ⟨Try.underlying22⟩
instance : TyI Try.prog 22 1 24 (.slice none 0 0) := tyi (by kernel_rfl)
instance : TyU Try.prog 23 (.struct (Try.prog.fieldsOf 23)) := ⟨by kernel_rfl⟩
instance : TyI Try.prog 23 4 56 (.agg #[(.string ByteArray.empty), (.int .i64 (0)), (.int .i64 (0)), (.slice none 0 0)]) := tyi (by kernel_rfl)
instance : Fld Try.prog 23 0 0 1 false := fldok Try.underlying23 rfl rfl (by kernel_rfl) (i := ((Try.prog.info? 9).getD default)) (by kernel_rfl) Try.underlying9 rfl
instance : Fld Try.prog 23 1 1 1 false := fldok Try.underlying23 rfl rfl (by kernel_rfl) (i := ((Try.prog.info? 3).getD default)) (by kernel_rfl) Try.underlying3 rfl
instance : Fld Try.prog 23 2 2 1 false := fldok Try.underlying23 rfl rfl (by kernel_rfl) (i := ((Try.prog.info? 3).getD default)) (by kernel_rfl) Try.underlying3 rfl
instance : Fld Try.prog 23 3 3 1 false := fldok Try.underlying23 rfl rfl (by kernel_rfl) (i := ((Try.prog.info? 22).getD default)) (by kernel_rfl) Try.underlying22 rfl
instance : Bld Try.prog 23 [(0, 1), (1, 1), (2, 1), (3, 1)] [(.string ByteArray.empty), (.int .i64 (0)), (.int .i64 (0)), (.slice none 0 0)] := by
  refine ⟨_, ((Try.prog.info? 23).getD default), _, Try.underlying23, by kernel_rfl, (by kernel_rfl : _ = some (.agg #[(.string ByteArray.empty), (.int .i64 (0)), (.int .i64 (0)), (.slice none 0 0)])), rfl, fun w => by kernel_rfl⟩
instance : TyU Try.prog 24 (.struct (Try.prog.fieldsOf 24)) := ⟨by kernel_rfl⟩
instance : TyI Try.prog 24 4 56 (.agg #[(.string ByteArray.empty), (.int .i64 (0)), (.int .i64 (0)), (.slice none 0 0)]) := tyi (by kernel_rfl)
instance : Fld Try.prog 24 0 0 1 false := fldok Try.underlying24 rfl rfl (by kernel_rfl) (i := ((Try.prog.info? 9).getD default)) (by kernel_rfl) Try.underlying9 rfl
instance : Fld Try.prog 24 1 1 1 false := fldok Try.underlying24 rfl rfl (by kernel_rfl) (i := ((Try.prog.info? 3).getD default)) (by kernel_rfl) Try.underlying3 rfl
instance : Fld Try.prog 24 2 2 1 false := fldok Try.underlying24 rfl rfl (by kernel_rfl) (i := ((Try.prog.info? 3).getD default)) (by kernel_rfl) Try.underlying3 rfl
instance : Fld Try.prog 24 3 3 1 false := fldok Try.underlying24 rfl rfl (by kernel_rfl) (i := ((Try.prog.info? 22).getD default)) (by kernel_rfl) Try.underlying22 rfl
instance : Bld Try.prog 24 [(0, 1), (1, 1), (2, 1), (3, 1)] [(.string ByteArray.empty), (.int .i64 (0)), (.int .i64 (0)), (.slice none 0 0)] := by
  refine ⟨_, ((Try.prog.info? 24).getD default), _, Try.underlying24, by kernel_rfl, (by kernel_rfl : _ = some (.agg #[(.string ByteArray.empty), (.int .i64 (0)), (.int .i64 (0)), (.slice none 0 0)])), rfl, fun w => by kernel_rfl⟩
instance : TyU Try.prog 25 (.slice 41) := ⟨Try.underlying25⟩
instance : TyI Try.prog 25 1 24 (.slice none 0 0) := tyi (by kernel_rfl)
instance : TyU Try.prog 28 (.int .i64) := ⟨Try.underlying28⟩
instance : TyI Try.prog 28 1 8 (.int .i64 (0)) := tyi (by kernel_rfl)
instance : TyU Try.prog 30 (.slice 25) := ⟨Try.underlying30⟩
instance : TyI Try.prog 30 1 24 (.slice none 0 0) := tyi (by kernel_rfl)
instance : TyU Try.prog 36 (.slice 9) := ⟨Try.underlying36⟩
instance : TyI Try.prog 36 1 24 (.slice none 0 0) := tyi (by kernel_rfl)
instance : TyU Try.prog 37 (.struct (Try.prog.fieldsOf 37)) := ⟨by kernel_rfl⟩
instance : TyI Try.prog 37 6 96 (.agg #[(.string ByteArray.empty), (.string ByteArray.empty), (.slice none 0 0), (.slice none 0 0), (.bool false), (.int .i64 (0))]) := tyi (by kernel_rfl)
instance : Fld Try.prog 37 0 0 1 false := fldok Try.underlying37 rfl rfl (by kernel_rfl) (i := ((Try.prog.info? 9).getD default)) (by kernel_rfl) Try.underlying9 rfl
instance : Fld Try.prog 37 1 1 1 false := fldok Try.underlying37 rfl rfl (by kernel_rfl) (i := ((Try.prog.info? 9).getD default)) (by kernel_rfl) Try.underlying9 rfl
instance : Fld Try.prog 37 2 2 1 false := fldok Try.underlying37 rfl rfl (by kernel_rfl) (i := ((Try.prog.info? 36).getD default)) (by kernel_rfl) Try.underlying36 rfl
instance : Fld Try.prog 37 3 3 1 false := fldok Try.underlying37 rfl rfl (by kernel_rfl) (i := ((Try.prog.info? 25).getD default)) (by kernel_rfl) Try.underlying25 rfl
instance : Fld Try.prog 37 4 4 1 false := fldok Try.underlying37 rfl rfl (by kernel_rfl) (i := ((Try.prog.info? 4).getD default)) (by kernel_rfl) Try.underlying4 rfl
instance : Fld Try.prog 37 5 5 1 false := fldok Try.underlying37 rfl rfl (by kernel_rfl) (i := ((Try.prog.info? 3).getD default)) (by kernel_rfl) Try.underlying3 rfl
instance : Bld Try.prog 37 [(0, 1), (1, 1), (2, 1), (3, 1), (4, 1), (5, 1)] [(.string ByteArray.empty), (.string ByteArray.empty), (.slice none 0 0), (.slice none 0 0), (.bool false), (.int .i64 (0))] := by
  refine ⟨_, ((Try.prog.info? 37).getD default), _, Try.underlying37, by kernel_rfl, (by kernel_rfl : _ = some (.agg #[(.string ByteArray.empty), (.string ByteArray.empty), (.slice none 0 0), (.slice none 0 0), (.bool false), (.int .i64 (0))])), rfl, fun w => by kernel_rfl⟩
instance : TyU Try.prog 38 (.struct (Try.prog.fieldsOf 38)) := ⟨by kernel_rfl⟩
instance : TyI Try.prog 38 6 96 (.agg #[(.string ByteArray.empty), (.string ByteArray.empty), (.slice none 0 0), (.slice none 0 0), (.bool false), (.int .i64 (0))]) := tyi (by kernel_rfl)
instance : Fld Try.prog 38 0 0 1 false := fldok Try.underlying38 rfl rfl (by kernel_rfl) (i := ((Try.prog.info? 9).getD default)) (by kernel_rfl) Try.underlying9 rfl
instance : Fld Try.prog 38 1 1 1 false := fldok Try.underlying38 rfl rfl (by kernel_rfl) (i := ((Try.prog.info? 9).getD default)) (by kernel_rfl) Try.underlying9 rfl
instance : Fld Try.prog 38 2 2 1 false := fldok Try.underlying38 rfl rfl (by kernel_rfl) (i := ((Try.prog.info? 36).getD default)) (by kernel_rfl) Try.underlying36 rfl
instance : Fld Try.prog 38 3 3 1 false := fldok Try.underlying38 rfl rfl (by kernel_rfl) (i := ((Try.prog.info? 25).getD default)) (by kernel_rfl) Try.underlying25 rfl
instance : Fld Try.prog 38 4 4 1 false := fldok Try.underlying38 rfl rfl (by kernel_rfl) (i := ((Try.prog.info? 4).getD default)) (by kernel_rfl) Try.underlying4 rfl
instance : Fld Try.prog 38 5 5 1 false := fldok Try.underlying38 rfl rfl (by kernel_rfl) (i := ((Try.prog.info? 3).getD default)) (by kernel_rfl) Try.underlying3 rfl
instance : Bld Try.prog 38 [(0, 1), (1, 1), (2, 1), (3, 1), (4, 1), (5, 1)] [(.string ByteArray.empty), (.string ByteArray.empty), (.slice none 0 0), (.slice none 0 0), (.bool false), (.int .i64 (0))] := by
  refine ⟨_, ((Try.prog.info? 38).getD default), _, Try.underlying38, by kernel_rfl, (by kernel_rfl : _ = some (.agg #[(.string ByteArray.empty), (.string ByteArray.empty), (.slice none 0 0), (.slice none 0 0), (.bool false), (.int .i64 (0))])), rfl, fun w => by kernel_rfl⟩
instance : TyU Try.prog 40 (.struct (Try.prog.fieldsOf 40)) := ⟨by kernel_rfl⟩
instance : TyI Try.prog 40 3 32 (.agg #[(.string ByteArray.empty), (.int .i64 (0)), (.int .i64 (0))]) := tyi (by kernel_rfl)
instance : Fld Try.prog 40 0 0 1 false := fldok Try.underlying40 rfl rfl (by kernel_rfl) (i := ((Try.prog.info? 9).getD default)) (by kernel_rfl) Try.underlying9 rfl
instance : Fld Try.prog 40 1 1 1 false := fldok Try.underlying40 rfl rfl (by kernel_rfl) (i := ((Try.prog.info? 3).getD default)) (by kernel_rfl) Try.underlying3 rfl
instance : Fld Try.prog 40 2 2 1 false := fldok Try.underlying40 rfl rfl (by kernel_rfl) (i := ((Try.prog.info? 3).getD default)) (by kernel_rfl) Try.underlying3 rfl
instance : Bld Try.prog 40 [(0, 1), (1, 1), (2, 1)] [(.string ByteArray.empty), (.int .i64 (0)), (.int .i64 (0))] := by
  refine ⟨_, ((Try.prog.info? 40).getD default), _, Try.underlying40, by kernel_rfl, (by kernel_rfl : _ = some (.agg #[(.string ByteArray.empty), (.int .i64 (0)), (.int .i64 (0))])), rfl, fun w => by kernel_rfl⟩
instance : Flat Try.prog 40 [(9, .string), (3, (.int .i64)), (3, (.int .i64))] := by
  refine ⟨by kernel_rfl, by kernel_rfl, by kernel_rfl, by kernel_rfl, ?_⟩
  simp only [List.forall_mem_cons]
  exact ⟨⟨Try.underlying9, rfl⟩, ⟨Try.underlying3, rfl⟩, ⟨Try.underlying3, rfl⟩, fun x hx => by cases hx⟩
instance : TyU Try.prog 41 (.struct (Try.prog.fieldsOf 41)) := ⟨by kernel_rfl⟩
instance : TyI Try.prog 41 3 32 (.agg #[(.string ByteArray.empty), (.int .i64 (0)), (.int .i64 (0))]) := tyi (by kernel_rfl)
instance : Fld Try.prog 41 0 0 1 false := fldok Try.underlying41 rfl rfl (by kernel_rfl) (i := ((Try.prog.info? 9).getD default)) (by kernel_rfl) Try.underlying9 rfl
instance : Fld Try.prog 41 1 1 1 false := fldok Try.underlying41 rfl rfl (by kernel_rfl) (i := ((Try.prog.info? 3).getD default)) (by kernel_rfl) Try.underlying3 rfl
instance : Fld Try.prog 41 2 2 1 false := fldok Try.underlying41 rfl rfl (by kernel_rfl) (i := ((Try.prog.info? 3).getD default)) (by kernel_rfl) Try.underlying3 rfl
instance : Bld Try.prog 41 [(0, 1), (1, 1), (2, 1)] [(.string ByteArray.empty), (.int .i64 (0)), (.int .i64 (0))] := by
  refine ⟨_, ((Try.prog.info? 41).getD default), _, Try.underlying41, by kernel_rfl, (by kernel_rfl : _ = some (.agg #[(.string ByteArray.empty), (.int .i64 (0)), (.int .i64 (0))])), rfl, fun w => by kernel_rfl⟩
instance : Flat Try.prog 41 [(9, .string), (3, (.int .i64)), (3, (.int .i64))] := by
  refine ⟨by kernel_rfl, by kernel_rfl, by kernel_rfl, by kernel_rfl, ?_⟩
  simp only [List.forall_mem_cons]
  exact ⟨⟨Try.underlying9, rfl⟩, ⟨Try.underlying3, rfl⟩, ⟨Try.underlying3, rfl⟩, fun x hx => by cases hx⟩
instance : TyU Try.prog 58 (.map 9 3) := ⟨Try.underlying58⟩
instance : TyI Try.prog 58 1 8 (.map none) := tyi (by kernel_rfl)
instance : TyU Try.prog 59 (.map 41 3) := ⟨Try.underlying59⟩
instance : TyI Try.prog 59 1 8 (.map none) := tyi (by kernel_rfl)
instance : TyU Try.prog 61 (.pointer 64) := ⟨Try.underlying61⟩
instance : TyI Try.prog 61 1 8 (.pointer none) := tyi (by kernel_rfl)
instance : TyU Try.prog 62 (.slice 3) := ⟨Try.underlying62⟩
instance : TyI Try.prog 62 1 24 (.slice none 0 0) := tyi (by kernel_rfl)
instance : TyU Try.prog 63 (.struct (Try.prog.fieldsOf 63)) := ⟨by kernel_rfl⟩
instance : TyI Try.prog 63 4 96 (.agg #[(.slice none 0 0), (.slice none 0 0), (.slice none 0 0), (.slice none 0 0)]) := tyi (by kernel_rfl)
instance : Fld Try.prog 63 0 0 1 false := fldok Try.underlying63 rfl rfl (by kernel_rfl) (i := ((Try.prog.info? 22).getD default)) (by kernel_rfl) Try.underlying22 rfl
instance : Fld Try.prog 63 1 1 1 false := fldok Try.underlying63 rfl rfl (by kernel_rfl) (i := ((Try.prog.info? 25).getD default)) (by kernel_rfl) Try.underlying25 rfl
instance : Fld Try.prog 63 2 2 1 false := fldok Try.underlying63 rfl rfl (by kernel_rfl) (i := ((Try.prog.info? 62).getD default)) (by kernel_rfl) Try.underlying62 rfl
instance : Fld Try.prog 63 3 3 1 false := fldok Try.underlying63 rfl rfl (by kernel_rfl) (i := ((Try.prog.info? 62).getD default)) (by kernel_rfl) Try.underlying62 rfl
instance : Bld Try.prog 63 [(0, 1), (1, 1), (2, 1), (3, 1)] [(.slice none 0 0), (.slice none 0 0), (.slice none 0 0), (.slice none 0 0)] := by
  refine ⟨_, ((Try.prog.info? 63).getD default), _, Try.underlying63, by kernel_rfl, (by kernel_rfl : _ = some (.agg #[(.slice none 0 0), (.slice none 0 0), (.slice none 0 0), (.slice none 0 0)])), rfl, fun w => by kernel_rfl⟩
instance : TyU Try.prog 64 (.struct (Try.prog.fieldsOf 64)) := ⟨by kernel_rfl⟩
instance : TyI Try.prog 64 4 96 (.agg #[(.slice none 0 0), (.slice none 0 0), (.slice none 0 0), (.slice none 0 0)]) := tyi (by kernel_rfl)
instance : Fld Try.prog 64 0 0 1 false := fldok Try.underlying64 rfl rfl (by kernel_rfl) (i := ((Try.prog.info? 22).getD default)) (by kernel_rfl) Try.underlying22 rfl
instance : Fld Try.prog 64 1 1 1 false := fldok Try.underlying64 rfl rfl (by kernel_rfl) (i := ((Try.prog.info? 25).getD default)) (by kernel_rfl) Try.underlying25 rfl
instance : Fld Try.prog 64 2 2 1 false := fldok Try.underlying64 rfl rfl (by kernel_rfl) (i := ((Try.prog.info? 62).getD default)) (by kernel_rfl) Try.underlying62 rfl
instance : Fld Try.prog 64 3 3 1 false := fldok Try.underlying64 rfl rfl (by kernel_rfl) (i := ((Try.prog.info? 62).getD default)) (by kernel_rfl) Try.underlying62 rfl
instance : Bld Try.prog 64 [(0, 1), (1, 1), (2, 1), (3, 1)] [(.slice none 0 0), (.slice none 0 0), (.slice none 0 0), (.slice none 0 0)] := by
  refine ⟨_, ((Try.prog.info? 64).getD default), _, Try.underlying64, by kernel_rfl, (by kernel_rfl : _ = some (.agg #[(.slice none 0 0), (.slice none 0 0), (.slice none 0 0), (.slice none 0 0)])), rfl, fun w => by kernel_rfl⟩
instance : TyU Try.prog 73 (.pointer 77) := ⟨Try.underlying73⟩
instance : TyI Try.prog 73 1 8 (.pointer none) := tyi (by kernel_rfl)
instance : TyU Try.prog 76 (.struct (Try.prog.fieldsOf 76)) := ⟨by kernel_rfl⟩
instance : TyI Try.prog 76 5 64 (.agg #[(.string ByteArray.empty), (.int .i64 (0)), (.int .i64 (0)), (.slice none 0 0), (.int .i64 (0))]) := tyi (by kernel_rfl)
instance : Fld Try.prog 76 0 0 4 true := fldok Try.underlying76 rfl rfl (by kernel_rfl) (i := ((Try.prog.info? 24).getD default)) (by kernel_rfl) Try.underlying24 rfl
instance : Fld Try.prog 76 1 4 1 false := fldok Try.underlying76 rfl rfl (by kernel_rfl) (i := ((Try.prog.info? 28).getD default)) (by kernel_rfl) Try.underlying28 rfl
instance : Bld Try.prog 76 [(0, 4), (4, 1)] [(.string ByteArray.empty), (.int .i64 (0)), (.int .i64 (0)), (.slice none 0 0), (.int .i64 (0))] := by
  refine ⟨_, ((Try.prog.info? 76).getD default), _, Try.underlying76, by kernel_rfl, (by kernel_rfl : _ = some (.agg #[(.string ByteArray.empty), (.int .i64 (0)), (.int .i64 (0)), (.slice none 0 0), (.int .i64 (0))])), rfl, fun w => by kernel_rfl⟩
instance : TyU Try.prog 77 (.struct (Try.prog.fieldsOf 77)) := ⟨by kernel_rfl⟩
instance : TyI Try.prog 77 5 64 (.agg #[(.string ByteArray.empty), (.int .i64 (0)), (.int .i64 (0)), (.slice none 0 0), (.int .i64 (0))]) := tyi (by kernel_rfl)
instance : Fld Try.prog 77 0 0 4 true := fldok Try.underlying77 rfl rfl (by kernel_rfl) (i := ((Try.prog.info? 24).getD default)) (by kernel_rfl) Try.underlying24 rfl
instance : Fld Try.prog 77 1 4 1 false := fldok Try.underlying77 rfl rfl (by kernel_rfl) (i := ((Try.prog.info? 28).getD default)) (by kernel_rfl) Try.underlying28 rfl
instance : Bld Try.prog 77 [(0, 4), (4, 1)] [(.string ByteArray.empty), (.int .i64 (0)), (.int .i64 (0)), (.slice none 0 0), (.int .i64 (0))] := by
  refine ⟨_, ((Try.prog.info? 77).getD default), _, Try.underlying77, by kernel_rfl, (by kernel_rfl : _ = some (.agg #[(.string ByteArray.empty), (.int .i64 (0)), (.int .i64 (0)), (.slice none 0 0), (.int .i64 (0))])), rfl, fun w => by kernel_rfl⟩
instance : TyU Try.prog 108 (.map 41 110) := ⟨Try.underlying108⟩
instance : TyI Try.prog 108 1 8 (.map none) := tyi (by kernel_rfl)
instance : TyU Try.prog 110 (.map 3 4) := ⟨Try.underlying110⟩
instance : TyI Try.prog 110 1 8 (.map none) := tyi (by kernel_rfl)
instance : TyU Try.prog 113 (.int .u64) := ⟨Try.underlying113⟩
instance : TyI Try.prog 113 1 8 (.int .u64 (0)) := tyi (by kernel_rfl)
instance : TyU Try.prog 119 (.array 0 16) := ⟨Try.underlying119⟩
instance : TyI Try.prog 119 0 0 (.agg #[]) := tyi (by kernel_rfl)
instance : TyU Try.prog 123 (.int .u32) := ⟨Try.underlying123⟩
instance : TyI Try.prog 123 1 4 (.int .u32 (0)) := tyi (by kernel_rfl)
instance : TyU Try.prog 124 (.int .u8) := ⟨Try.underlying124⟩
instance : TyI Try.prog 124 1 1 (.int .u8 (0)) := tyi (by kernel_rfl)
instance : TyU Try.prog 125 (.int .u8) := ⟨Try.underlying125⟩
instance : TyI Try.prog 125 1 1 (.int .u8 (0)) := tyi (by kernel_rfl)
instance : TyU Try.prog 127 (.pointer 5) := ⟨Try.underlying127⟩
instance : TyI Try.prog 127 1 8 (.pointer none) := tyi (by kernel_rfl)
instance : TyU Try.prog 128 (.int .i32) := ⟨Try.underlying128⟩
instance : TyI Try.prog 128 1 4 (.int .i32 (0)) := tyi (by kernel_rfl)
instance : TyU Try.prog 129 (.int .i32) := ⟨Try.underlying129⟩
instance : TyI Try.prog 129 1 4 (.int .i32 (0)) := tyi (by kernel_rfl)
instance : TyU Try.prog 130 (.struct (Try.prog.fieldsOf 130)) := ⟨by kernel_rfl⟩
instance : TyI Try.prog 130 11 48 (.agg #[(.int .u64 (0)), (.int .u64 (0)), (.int .u32 (0)), (.int .u8 (0)), (.int .u8 (0)), (.int .u8 (0)), (.int .u8 (0)), .nilFunc, (.pointer none), (.int .i32 (0)), (.int .i32 (0))]) := tyi (by kernel_rfl)
instance : Fld Try.prog 130 0 0 1 false := fldok Try.underlying130 rfl rfl (by kernel_rfl) (i := ((Try.prog.info? 12).getD default)) (by kernel_rfl) Try.underlying12 rfl
instance : Fld Try.prog 130 1 1 1 false := fldok Try.underlying130 rfl rfl (by kernel_rfl) (i := ((Try.prog.info? 12).getD default)) (by kernel_rfl) Try.underlying12 rfl
instance : Fld Try.prog 130 2 2 1 false := fldok Try.underlying130 rfl rfl (by kernel_rfl) (i := ((Try.prog.info? 123).getD default)) (by kernel_rfl) Try.underlying123 rfl
instance : Fld Try.prog 130 3 3 1 false := fldok Try.underlying130 rfl rfl (by kernel_rfl) (i := ((Try.prog.info? 124).getD default)) (by kernel_rfl) Try.underlying124 rfl
instance : Fld Try.prog 130 4 4 1 false := fldok Try.underlying130 rfl rfl (by kernel_rfl) (i := ((Try.prog.info? 5).getD default)) (by kernel_rfl) Try.underlying5 rfl
instance : Fld Try.prog 130 5 5 1 false := fldok Try.underlying130 rfl rfl (by kernel_rfl) (i := ((Try.prog.info? 5).getD default)) (by kernel_rfl) Try.underlying5 rfl
instance : Fld Try.prog 130 6 6 1 false := fldok Try.underlying130 rfl rfl (by kernel_rfl) (i := ((Try.prog.info? 125).getD default)) (by kernel_rfl) Try.underlying125 rfl
instance : Fld Try.prog 130 8 8 1 false := fldok Try.underlying130 rfl rfl (by kernel_rfl) (i := ((Try.prog.info? 127).getD default)) (by kernel_rfl) Try.underlying127 rfl
instance : Fld Try.prog 130 9 9 1 false := fldok Try.underlying130 rfl rfl (by kernel_rfl) (i := ((Try.prog.info? 128).getD default)) (by kernel_rfl) Try.underlying128 rfl
instance : Fld Try.prog 130 10 10 1 false := fldok Try.underlying130 rfl rfl (by kernel_rfl) (i := ((Try.prog.info? 129).getD default)) (by kernel_rfl) Try.underlying129 rfl
instance : TyU Try.prog 131 (.struct (Try.prog.fieldsOf 131)) := ⟨by kernel_rfl⟩
instance : TyI Try.prog 131 11 48 (.agg #[(.int .u64 (0)), (.int .u64 (0)), (.int .u32 (0)), (.int .u8 (0)), (.int .u8 (0)), (.int .u8 (0)), (.int .u8 (0)), .nilFunc, (.pointer none), (.int .i32 (0)), (.int .i32 (0))]) := tyi (by kernel_rfl)
instance : Fld Try.prog 131 0 0 1 false := fldok Try.underlying131 rfl rfl (by kernel_rfl) (i := ((Try.prog.info? 12).getD default)) (by kernel_rfl) Try.underlying12 rfl
instance : Fld Try.prog 131 1 1 1 false := fldok Try.underlying131 rfl rfl (by kernel_rfl) (i := ((Try.prog.info? 12).getD default)) (by kernel_rfl) Try.underlying12 rfl
instance : Fld Try.prog 131 2 2 1 false := fldok Try.underlying131 rfl rfl (by kernel_rfl) (i := ((Try.prog.info? 123).getD default)) (by kernel_rfl) Try.underlying123 rfl
instance : Fld Try.prog 131 3 3 1 false := fldok Try.underlying131 rfl rfl (by kernel_rfl) (i := ((Try.prog.info? 124).getD default)) (by kernel_rfl) Try.underlying124 rfl
instance : Fld Try.prog 131 4 4 1 false := fldok Try.underlying131 rfl rfl (by kernel_rfl) (i := ((Try.prog.info? 5).getD default)) (by kernel_rfl) Try.underlying5 rfl
instance : Fld Try.prog 131 5 5 1 false := fldok Try.underlying131 rfl rfl (by kernel_rfl) (i := ((Try.prog.info? 5).getD default)) (by kernel_rfl) Try.underlying5 rfl
instance : Fld Try.prog 131 6 6 1 false := fldok Try.underlying131 rfl rfl (by kernel_rfl) (i := ((Try.prog.info? 125).getD default)) (by kernel_rfl) Try.underlying125 rfl
instance : Fld Try.prog 131 8 8 1 false := fldok Try.underlying131 rfl rfl (by kernel_rfl) (i := ((Try.prog.info? 127).getD default)) (by kernel_rfl) Try.underlying127 rfl
instance : Fld Try.prog 131 9 9 1 false := fldok Try.underlying131 rfl rfl (by kernel_rfl) (i := ((Try.prog.info? 128).getD default)) (by kernel_rfl) Try.underlying128 rfl
instance : Fld Try.prog 131 10 10 1 false := fldok Try.underlying131 rfl rfl (by kernel_rfl) (i := ((Try.prog.info? 129).getD default)) (by kernel_rfl) Try.underlying129 rfl
instance : FnOk Try.prog 3 := fnok (by kernel_rfl)
instance : FnOk Try.prog 4 := fnok (by kernel_rfl)
instance : FnOk Try.prog 5 := fnok (by kernel_rfl)
instance : FnOk Try.prog 6 := fnok (by kernel_rfl)
instance : FnOk Try.prog 7 := fnok (by kernel_rfl)
instance : FnOk Try.prog 8 := fnok (by kernel_rfl)
instance : FnOk Try.prog 9 := fnok (by kernel_rfl)
instance : FnOk Try.prog 10 := fnok (by kernel_rfl)
instance : FnOk Try.prog 11 := fnok (by kernel_rfl)
instance : FnOk Try.prog 12 := fnok (by kernel_rfl)
instance : FnOk Try.prog 13 := fnok (by kernel_rfl)
instance : FnOk Try.prog 14 := fnok (by kernel_rfl)
instance : FnOk Try.prog 15 := fnok (by kernel_rfl)
instance : FnOk Try.prog 16 := fnok (by kernel_rfl)
instance : FnOk Try.prog 17 := fnok (by kernel_rfl)
instance : FnOk Try.prog 18 := fnok (by kernel_rfl)
instance : FnOk Try.prog 19 := fnok (by kernel_rfl)
instance : FnOk Try.prog 20 := fnok (by kernel_rfl)
instance : FnOk Try.prog 21 := fnok (by kernel_rfl)
instance : FnOk Try.prog 22 := fnok (by kernel_rfl)
instance : FnOk Try.prog 23 := fnok (by kernel_rfl)
instance : FnOk Try.prog 24 := fnok (by kernel_rfl)
instance : FnOk Try.prog 25 := fnok (by kernel_rfl)
instance : FnOk Try.prog 26 := fnok (by kernel_rfl)
instance : FnOk Try.prog 27 := fnok (by kernel_rfl)
instance : FnOk Try.prog 28 := fnok (by kernel_rfl)
instance : FnOk Try.prog 29 := fnok (by kernel_rfl)
instance : FnOk Try.prog 30 := fnok (by kernel_rfl)
instance : FnOk Try.prog 31 := fnok (by kernel_rfl)
instance : FnOk Try.prog 32 := fnok (by kernel_rfl)
instance : FnOk Try.prog 33 := fnok (by kernel_rfl)
instance : FnOk Try.prog 34 := fnok (by kernel_rfl)
instance : FnOk Try.prog 35 := fnok (by kernel_rfl)
instance : FnOk Try.prog 36 := fnok (by kernel_rfl)
instance : FnOk Try.prog 37 := fnok (by kernel_rfl)
instance : FnOk Try.prog 38 := fnok (by kernel_rfl)
instance : FnOk Try.prog 39 := fnok (by kernel_rfl)
instance : FnOk Try.prog 40 := fnok (by kernel_rfl)
instance : FnOk Try.prog 41 := fnok (by kernel_rfl)
instance : FnOk Try.prog 42 := fnok (by kernel_rfl)
instance : FnOk Try.prog 43 := fnok (by kernel_rfl)
instance : FnOk Try.prog 44 := fnok (by kernel_rfl)
instance : FnOk Try.prog 45 := fnok (by kernel_rfl)
instance : FnOk Try.prog 46 := fnok (by kernel_rfl)
instance : FnOk Try.prog 47 := fnok (by kernel_rfl)
instance : FnOk Try.prog 48 := fnok (by kernel_rfl)
instance : FnOk Try.prog 49 := fnok (by kernel_rfl)
instance : FnOk Try.prog 50 := fnok (by kernel_rfl)
instance : FnOk Try.prog 51 := fnok (by kernel_rfl)
instance : FnOk Try.prog 52 := fnok (by kernel_rfl)
instance : FnOk Try.prog 53 := fnok (by kernel_rfl)
instance : FnOk Try.prog 54 := fnok (by kernel_rfl)
instance : FnOk Try.prog 55 := fnok (by kernel_rfl)
instance : FnOk Try.prog 56 := fnok (by kernel_rfl)
instance : FnOk Try.prog 57 := fnok (by kernel_rfl)
instance : FnOk Try.prog 58 := fnok (by kernel_rfl)
instance : FnOk Try.prog 59 := fnok (by kernel_rfl)
instance : FnOk Try.prog 60 := fnok (by kernel_rfl)
instance : FnOk Try.prog 61 := fnok (by kernel_rfl)
instance : FnOk Try.prog 62 := fnok (by kernel_rfl)
instance : FnOk Try.prog 63 := fnok (by kernel_rfl)
instance : FnOk Try.prog 64 := fnok (by kernel_rfl)
instance : FnOk Try.prog 65 := fnok (by kernel_rfl)
instance : FnOk Try.prog 66 := fnok (by kernel_rfl)
instance : FnOk Try.prog 67 := fnok (by kernel_rfl)
instance : FnOk Try.prog 68 := fnok (by kernel_rfl)
instance : FnOk Try.prog 69 := fnok (by kernel_rfl)
instance : FnOk Try.prog 70 := fnok (by kernel_rfl)
instance : FnOk Try.prog 71 := fnok (by kernel_rfl)
instance : FnOk Try.prog 72 := fnok (by kernel_rfl)
instance : FnOk Try.prog 73 := fnok (by kernel_rfl)
instance : FnOk Try.prog 74 := fnok (by kernel_rfl)
instance : FnOk Try.prog 75 := fnok (by kernel_rfl)
instance : FnOk Try.prog 77 := fnok (by kernel_rfl)
instance : FnOk Try.prog 78 := fnok (by kernel_rfl)
instance : FnOk Try.prog 79 := fnok (by kernel_rfl)
instance : FnOk Try.prog 80 := fnok (by kernel_rfl)
instance : FnOk Try.prog 81 := fnok (by kernel_rfl)
instance : FnOk Try.prog 82 := fnok (by kernel_rfl)
instance : FnOk Try.prog 83 := fnok (by kernel_rfl)
instance : FnOk Try.prog 84 := fnok (by kernel_rfl)
instance : FnOk Try.prog 85 := fnok (by kernel_rfl)
instance : FnOk Try.prog 87 := fnok (by kernel_rfl)
end Go.Wm

/-
  The facts on types and functions of this seat's program, written by a program of the prover's own out of the dump. Conditions: none.
-/
import Derived.Test.YteimghjhiiffjaaCoA
import Derived.Test.YteimghjhiiffjaaProg
import Derived.KernelRfl
set_option linter.all false
namespace Go.Wm
open Go.Proofs
set_option maxRecDepth 100000
theorem tyi {P : Program} {t : TypeId} {sz bs : Nat} {z : Value} (h : (P.info? t).map (fun i => (i.size, i.bytes, i.zero)) = some (sz, bs, some z)) : TyI P t sz bs z := by
  cases e : P.info? t with
  | none => simp [e] at h
  | some i => simp only [e, Option.map_some, Option.some.injEq, Prod.mk.injEq] at h; exact ⟨i, e, h.1, h.2.1, h.2.2⟩
theorem fnok {P : Program} {f : FuncId} (h : (P.funcs[f]?).map (fun fn => (fn.name == "runtime.NumGoroutine", fn.body.isNone)) = some (false, false)) : FnOk P f := by
  cases e : P.funcs[f]? with
  | none => simp [e] at h
  | some i => simp only [e, Option.map_some, Option.some.injEq, Prod.mk.injEq] at h; exact ⟨i, e, h.1, h.2⟩
theorem fldok {P : Program} {t f off sz : Nat} {ag : Bool} {fs : Array Field} {fd : Field} {i : TypeInfo} {d : TypeDesc} (h1 : P.underlying t = some (.struct fs)) (h2 : fs[f]? = some fd) (h3 : fd.offset = off) (h4 : P.info? fd.type = some i) (h5 : i.size = sz) (h6 : P.underlying fd.type = some d) (h7 : aggD d = ag) : Fld P t f off sz ag := ⟨fs, fd, d, i, h1, h2, h3, h4, h5, h6, h7⟩
instance : Mixed Try.prog := ⟨by kernel_rfl⟩
instance : TyU Try.prog 2 (.int .i64) := ⟨Try.underlying2⟩
instance : TyI Try.prog 2 1 8 (.int .i64 (0)) := tyi (by kernel_rfl)
instance : TyU Try.prog 3 (.int .i64) := ⟨Try.underlying3⟩
instance : TyI Try.prog 3 1 8 (.int .i64 (0)) := tyi (by kernel_rfl)
instance : TyU Try.prog 4 .bool := ⟨Try.underlying4⟩
instance : TyI Try.prog 4 1 1 (.bool false) := tyi (by kernel_rfl)
instance : TyU Try.prog 5 (.int .u8) := ⟨Try.underlying5⟩
instance : TyI Try.prog 5 1 1 (.int .u8 (0)) := tyi (by kernel_rfl)
instance : TyU Try.prog 6 (.int .u8) := ⟨Try.underlying6⟩
instance : TyI Try.prog 6 1 1 (.int .u8 (0)) := tyi (by kernel_rfl)
instance : TyU Try.prog 9 .string := ⟨Try.underlying9⟩
instance : TyI Try.prog 9 1 16 (.string ByteArray.empty) := tyi (by kernel_rfl)
instance : TyU Try.prog 10 .string := ⟨Try.underlying10⟩
instance : TyI Try.prog 10 1 16 (.string ByteArray.empty) := tyi (by kernel_rfl)
instance : TyU Try.prog 11 .string := ⟨Try.underlying11⟩
instance : TyI Try.prog 11 1 16 (.string ByteArray.empty) := tyi (by kernel_rfl)
instance : TyU Try.prog 12 (.int .u64) := ⟨Try.underlying12⟩
instance : TyI Try.prog 12 1 8 (.int .u64 (0)) := tyi (by kernel_rfl)
instance : TyU Try.prog 15 (.pointer 138) := ⟨Try.underlying15⟩
instance : TyI Try.prog 15 1 8 (.pointer none) := tyi (by kernel_rfl)
instance : TyU Try.prog 16 (.pointer 141) := ⟨Try.underlying16⟩
instance : TyI Try.prog 16 1 8 (.pointer none) := tyi (by kernel_rfl)
instance : TyU Try.prog 17 (.pointer 151) := ⟨Try.underlying17⟩
instance : TyI Try.prog 17 1 8 (.pointer none) := tyi (by kernel_rfl)
instance : TyU Try.prog 21 (.int .i32) := ⟨Try.underlying21⟩
instance : TyI Try.prog 21 1 4 (.int .i32 (0)) := tyi (by kernel_rfl)
instance : TyU Try.prog 22 (.slice 46) := ⟨Try.underlying22⟩
instance : TyI Try.prog 22 1 24 (.slice none 0 0) := tyi (by kernel_rfl)
instance : TyU Try.prog 23 (.slice 53) := ⟨Try.underlying23⟩
instance : TyI Try.prog 23 1 24 (.slice none 0 0) := tyi (by kernel_rfl)
instance : TyU Try.prog 24 (.slice 59) := ⟨Try.underlying24⟩
instance : TyI Try.prog 24 1 24 (.slice none 0 0) := tyi (by kernel_rfl)
instance : TyU Try.prog 25 (.slice 51) := ⟨Try.underlying25⟩
instance : TyI Try.prog 25 1 24 (.slice none 0 0) := tyi (by kernel_rfl)
instance : TyU Try.prog 26 (.struct (Try.prog.fieldsOf 26)) := ⟨by kernel_rfl⟩
instance : TyI Try.prog 26 5 104 (.agg #[(.int .i64 (0)), (.slice none 0 0), (.slice none 0 0), (.slice none 0 0), (.slice none 0 0)]) := tyi (by kernel_rfl)
instance : Fld Try.prog 26 0 0 1 false := fldok Try.underlying26 rfl rfl (by kernel_rfl) (i := ((Try.prog.info? 3).getD default)) (by kernel_rfl) Try.underlying3 rfl
instance : Fld Try.prog 26 1 1 1 false := fldok Try.underlying26 rfl rfl (by kernel_rfl) (i := ((Try.prog.info? 22).getD default)) (by kernel_rfl) Try.underlying22 rfl
instance : Fld Try.prog 26 2 2 1 false := fldok Try.underlying26 rfl rfl (by kernel_rfl) (i := ((Try.prog.info? 23).getD default)) (by kernel_rfl) Try.underlying23 rfl
instance : Fld Try.prog 26 3 3 1 false := fldok Try.underlying26 rfl rfl (by kernel_rfl) (i := ((Try.prog.info? 24).getD default)) (by kernel_rfl) Try.underlying24 rfl
instance : Fld Try.prog 26 4 4 1 false := fldok Try.underlying26 rfl rfl (by kernel_rfl) (i := ((Try.prog.info? 25).getD default)) (by kernel_rfl) Try.underlying25 rfl
instance : Bld Try.prog 26 [(0, 1), (1, 1), (2, 1), (3, 1), (4, 1)] [(.int .i64 (0)), (.slice none 0 0), (.slice none 0 0), (.slice none 0 0), (.slice none 0 0)] := by
  refine ⟨_, ((Try.prog.info? 26).getD default), _, Try.underlying26, by kernel_rfl, (by kernel_rfl : _ = some (.agg #[(.int .i64 (0)), (.slice none 0 0), (.slice none 0 0), (.slice none 0 0), (.slice none 0 0)])), rfl, fun w => by kernel_rfl⟩
instance : TyU Try.prog 27 (.struct (Try.prog.fieldsOf 27)) := ⟨by kernel_rfl⟩
instance : TyI Try.prog 27 5 104 (.agg #[(.int .i64 (0)), (.slice none 0 0), (.slice none 0 0), (.slice none 0 0), (.slice none 0 0)]) := tyi (by kernel_rfl)
instance : Fld Try.prog 27 0 0 1 false := fldok Try.underlying27 rfl rfl (by kernel_rfl) (i := ((Try.prog.info? 3).getD default)) (by kernel_rfl) Try.underlying3 rfl
instance : Fld Try.prog 27 1 1 1 false := fldok Try.underlying27 rfl rfl (by kernel_rfl) (i := ((Try.prog.info? 22).getD default)) (by kernel_rfl) Try.underlying22 rfl
instance : Fld Try.prog 27 2 2 1 false := fldok Try.underlying27 rfl rfl (by kernel_rfl) (i := ((Try.prog.info? 23).getD default)) (by kernel_rfl) Try.underlying23 rfl
instance : Fld Try.prog 27 3 3 1 false := fldok Try.underlying27 rfl rfl (by kernel_rfl) (i := ((Try.prog.info? 24).getD default)) (by kernel_rfl) Try.underlying24 rfl
instance : Fld Try.prog 27 4 4 1 false := fldok Try.underlying27 rfl rfl (by kernel_rfl) (i := ((Try.prog.info? 25).getD default)) (by kernel_rfl) Try.underlying25 rfl
instance : Bld Try.prog 27 [(0, 1), (1, 1), (2, 1), (3, 1), (4, 1)] [(.int .i64 (0)), (.slice none 0 0), (.slice none 0 0), (.slice none 0 0), (.slice none 0 0)] := by
  refine ⟨_, ((Try.prog.info? 27).getD default), _, Try.underlying27, by kernel_rfl, (by kernel_rfl : _ = some (.agg #[(.int .i64 (0)), (.slice none 0 0), (.slice none 0 0), (.slice none 0 0), (.slice none 0 0)])), rfl, fun w => by kernel_rfl⟩
instance : TyU Try.prog 28 (.slice 37) := ⟨Try.underlying28⟩
instance : TyI Try.prog 28 1 24 (.slice none 0 0) := tyi (by kernel_rfl)
instance : TyU Try.prog 31 (.int .i64) := ⟨Try.underlying31⟩
instance : TyI Try.prog 31 1 8 (.int .i64 (0)) := tyi (by kernel_rfl)
instance : TyU Try.prog 36 (.struct (Try.prog.fieldsOf 36)) := ⟨by kernel_rfl⟩
instance : TyI Try.prog 36 6 64 (.agg #[(.int .i64 (0)), (.string ByteArray.empty), (.string ByteArray.empty), (.int .i64 (0)), (.int .i64 (0)), (.int .i64 (0))]) := tyi (by kernel_rfl)
instance : Fld Try.prog 36 0 0 1 false := fldok Try.underlying36 rfl rfl (by kernel_rfl) (i := ((Try.prog.info? 3).getD default)) (by kernel_rfl) Try.underlying3 rfl
instance : Fld Try.prog 36 1 1 1 false := fldok Try.underlying36 rfl rfl (by kernel_rfl) (i := ((Try.prog.info? 9).getD default)) (by kernel_rfl) Try.underlying9 rfl
instance : Fld Try.prog 36 2 2 1 false := fldok Try.underlying36 rfl rfl (by kernel_rfl) (i := ((Try.prog.info? 9).getD default)) (by kernel_rfl) Try.underlying9 rfl
instance : Fld Try.prog 36 3 3 1 false := fldok Try.underlying36 rfl rfl (by kernel_rfl) (i := ((Try.prog.info? 3).getD default)) (by kernel_rfl) Try.underlying3 rfl
instance : Fld Try.prog 36 4 4 1 false := fldok Try.underlying36 rfl rfl (by kernel_rfl) (i := ((Try.prog.info? 3).getD default)) (by kernel_rfl) Try.underlying3 rfl
instance : Fld Try.prog 36 5 5 1 false := fldok Try.underlying36 rfl rfl (by kernel_rfl) (i := ((Try.prog.info? 3).getD default)) (by kernel_rfl) Try.underlying3 rfl
instance : Bld Try.prog 36 [(0, 1), (1, 1), (2, 1), (3, 1), (4, 1), (5, 1)] [(.int .i64 (0)), (.string ByteArray.empty), (.string ByteArray.empty), (.int .i64 (0)), (.int .i64 (0)), (.int .i64 (0))] := by
  refine ⟨_, ((Try.prog.info? 36).getD default), _, Try.underlying36, by kernel_rfl, (by kernel_rfl : _ = some (.agg #[(.int .i64 (0)), (.string ByteArray.empty), (.string ByteArray.empty), (.int .i64 (0)), (.int .i64 (0)), (.int .i64 (0))])), rfl, fun w => by kernel_rfl⟩
instance : Flat Try.prog 36 [(3, (.int .i64)), (9, .string), (9, .string), (3, (.int .i64)), (3, (.int .i64)), (3, (.int .i64))] := by
  refine ⟨by kernel_rfl, by kernel_rfl, by kernel_rfl, by kernel_rfl, ?_⟩
  simp only [List.forall_mem_cons]
  exact ⟨⟨Try.underlying3, rfl⟩, ⟨Try.underlying9, rfl⟩, ⟨Try.underlying9, rfl⟩, ⟨Try.underlying3, rfl⟩, ⟨Try.underlying3, rfl⟩, ⟨Try.underlying3, rfl⟩, fun x hx => by cases hx⟩
instance : TyU Try.prog 37 (.struct (Try.prog.fieldsOf 37)) := ⟨by kernel_rfl⟩
instance : TyI Try.prog 37 6 64 (.agg #[(.int .i64 (0)), (.string ByteArray.empty), (.string ByteArray.empty), (.int .i64 (0)), (.int .i64 (0)), (.int .i64 (0))]) := tyi (by kernel_rfl)
instance : Fld Try.prog 37 0 0 1 false := fldok Try.underlying37 rfl rfl (by kernel_rfl) (i := ((Try.prog.info? 3).getD default)) (by kernel_rfl) Try.underlying3 rfl
instance : Fld Try.prog 37 1 1 1 false := fldok Try.underlying37 rfl rfl (by kernel_rfl) (i := ((Try.prog.info? 9).getD default)) (by kernel_rfl) Try.underlying9 rfl
instance : Fld Try.prog 37 2 2 1 false := fldok Try.underlying37 rfl rfl (by kernel_rfl) (i := ((Try.prog.info? 9).getD default)) (by kernel_rfl) Try.underlying9 rfl
instance : Fld Try.prog 37 3 3 1 false := fldok Try.underlying37 rfl rfl (by kernel_rfl) (i := ((Try.prog.info? 3).getD default)) (by kernel_rfl) Try.underlying3 rfl
instance : Fld Try.prog 37 4 4 1 false := fldok Try.underlying37 rfl rfl (by kernel_rfl) (i := ((Try.prog.info? 3).getD default)) (by kernel_rfl) Try.underlying3 rfl
instance : Fld Try.prog 37 5 5 1 false := fldok Try.underlying37 rfl rfl (by kernel_rfl) (i := ((Try.prog.info? 3).getD default)) (by kernel_rfl) Try.underlying3 rfl
instance : Bld Try.prog 37 [(0, 1), (1, 1), (2, 1), (3, 1), (4, 1), (5, 1)] [(.int .i64 (0)), (.string ByteArray.empty), (.string ByteArray.empty), (.int .i64 (0)), (.int .i64 (0)), (.int .i64 (0))] := by
  refine ⟨_, ((Try.prog.info? 37).getD default), _, Try.underlying37, by kernel_rfl, (by kernel_rfl : _ = some (.agg #[(.int .i64 (0)), (.string ByteArray.empty), (.string ByteArray.empty), (.int .i64 (0)), (.int .i64 (0)), (.int .i64 (0))])), rfl, fun w => by kernel_rfl⟩
instance : Flat Try.prog 37 [(3, (.int .i64)), (9, .string), (9, .string), (3, (.int .i64)), (3, (.int .i64)), (3, (.int .i64))] := by
  refine ⟨by kernel_rfl, by kernel_rfl, by kernel_rfl, by kernel_rfl, ?_⟩
  simp only [List.forall_mem_cons]
  exact ⟨⟨Try.underlying3, rfl⟩, ⟨Try.underlying9, rfl⟩, ⟨Try.underlying9, rfl⟩, ⟨Try.underlying3, rfl⟩, ⟨Try.underlying3, rfl⟩, ⟨Try.underlying3, rfl⟩, fun x hx => by cases hx⟩
instance : TyU Try.prog 42 (.slice 3) := ⟨Try.underlying42⟩
instance : TyI Try.prog 42 1 24 (.slice none 0 0) := tyi (by kernel_rfl)
instance : TyU Try.prog 45 (.struct (Try.prog.fieldsOf 45)) := ⟨by kernel_rfl⟩
instance : TyI Try.prog 45 4 40 (.agg #[(.string ByteArray.empty), (.int .i64 (0)), (.bool false), (.int .i64 (0))]) := tyi (by kernel_rfl)
instance : Fld Try.prog 45 0 0 1 false := fldok Try.underlying45 rfl rfl (by kernel_rfl) (i := ((Try.prog.info? 9).getD default)) (by kernel_rfl) Try.underlying9 rfl
instance : Fld Try.prog 45 1 1 1 false := fldok Try.underlying45 rfl rfl (by kernel_rfl) (i := ((Try.prog.info? 3).getD default)) (by kernel_rfl) Try.underlying3 rfl
instance : Fld Try.prog 45 2 2 1 false := fldok Try.underlying45 rfl rfl (by kernel_rfl) (i := ((Try.prog.info? 4).getD default)) (by kernel_rfl) Try.underlying4 rfl
instance : Fld Try.prog 45 3 3 1 false := fldok Try.underlying45 rfl rfl (by kernel_rfl) (i := ((Try.prog.info? 3).getD default)) (by kernel_rfl) Try.underlying3 rfl
instance : Bld Try.prog 45 [(0, 1), (1, 1), (2, 1), (3, 1)] [(.string ByteArray.empty), (.int .i64 (0)), (.bool false), (.int .i64 (0))] := by
  refine ⟨_, ((Try.prog.info? 45).getD default), _, Try.underlying45, by kernel_rfl, (by kernel_rfl : _ = some (.agg #[(.string ByteArray.empty), (.int .i64 (0)), (.bool false), (.int .i64 (0))])), rfl, fun w => by kernel_rfl⟩
instance : Flat Try.prog 45 [(9, .string), (3, (.int .i64)), (4, .bool), (3, (.int .i64))] := by
  refine ⟨by kernel_rfl, by kernel_rfl, by kernel_rfl, by kernel_rfl, ?_⟩
  simp only [List.forall_mem_cons]
  exact ⟨⟨Try.underlying9, rfl⟩, ⟨Try.underlying3, rfl⟩, ⟨Try.underlying4, rfl⟩, ⟨Try.underlying3, rfl⟩, fun x hx => by cases hx⟩
instance : TyU Try.prog 46 (.struct (Try.prog.fieldsOf 46)) := ⟨by kernel_rfl⟩
instance : TyI Try.prog 46 4 40 (.agg #[(.string ByteArray.empty), (.int .i64 (0)), (.bool false), (.int .i64 (0))]) := tyi (by kernel_rfl)
instance : Fld Try.prog 46 0 0 1 false := fldok Try.underlying46 rfl rfl (by kernel_rfl) (i := ((Try.prog.info? 9).getD default)) (by kernel_rfl) Try.underlying9 rfl
instance : Fld Try.prog 46 1 1 1 false := fldok Try.underlying46 rfl rfl (by kernel_rfl) (i := ((Try.prog.info? 3).getD default)) (by kernel_rfl) Try.underlying3 rfl
instance : Fld Try.prog 46 2 2 1 false := fldok Try.underlying46 rfl rfl (by kernel_rfl) (i := ((Try.prog.info? 4).getD default)) (by kernel_rfl) Try.underlying4 rfl
instance : Fld Try.prog 46 3 3 1 false := fldok Try.underlying46 rfl rfl (by kernel_rfl) (i := ((Try.prog.info? 3).getD default)) (by kernel_rfl) Try.underlying3 rfl
instance : Bld Try.prog 46 [(0, 1), (1, 1), (2, 1), (3, 1)] [(.string ByteArray.empty), (.int .i64 (0)), (.bool false), (.int .i64 (0))] := by
  refine ⟨_, ((Try.prog.info? 46).getD default), _, Try.underlying46, by kernel_rfl, (by kernel_rfl : _ = some (.agg #[(.string ByteArray.empty), (.int .i64 (0)), (.bool false), (.int .i64 (0))])), rfl, fun w => by kernel_rfl⟩
instance : Flat Try.prog 46 [(9, .string), (3, (.int .i64)), (4, .bool), (3, (.int .i64))] := by
  refine ⟨by kernel_rfl, by kernel_rfl, by kernel_rfl, by kernel_rfl, ?_⟩
  simp only [List.forall_mem_cons]
  exact ⟨⟨Try.underlying9, rfl⟩, ⟨Try.underlying3, rfl⟩, ⟨Try.underlying4, rfl⟩, ⟨Try.underlying3, rfl⟩, fun x hx => by cases hx⟩
instance : TyU Try.prog 50 (.struct (Try.prog.fieldsOf 50)) := ⟨by kernel_rfl⟩
instance : TyI Try.prog 50 3 32 (.agg #[(.int .i64 (0)), (.int .i64 (0)), (.string ByteArray.empty)]) := tyi (by kernel_rfl)
instance : Fld Try.prog 50 0 0 1 false := fldok Try.underlying50 rfl rfl (by kernel_rfl) (i := ((Try.prog.info? 3).getD default)) (by kernel_rfl) Try.underlying3 rfl
instance : Fld Try.prog 50 1 1 1 false := fldok Try.underlying50 rfl rfl (by kernel_rfl) (i := ((Try.prog.info? 3).getD default)) (by kernel_rfl) Try.underlying3 rfl
instance : Fld Try.prog 50 2 2 1 false := fldok Try.underlying50 rfl rfl (by kernel_rfl) (i := ((Try.prog.info? 9).getD default)) (by kernel_rfl) Try.underlying9 rfl
instance : Bld Try.prog 50 [(0, 1), (1, 1), (2, 1)] [(.int .i64 (0)), (.int .i64 (0)), (.string ByteArray.empty)] := by
  refine ⟨_, ((Try.prog.info? 50).getD default), _, Try.underlying50, by kernel_rfl, (by kernel_rfl : _ = some (.agg #[(.int .i64 (0)), (.int .i64 (0)), (.string ByteArray.empty)])), rfl, fun w => by kernel_rfl⟩
instance : Flat Try.prog 50 [(3, (.int .i64)), (3, (.int .i64)), (9, .string)] := by
  refine ⟨by kernel_rfl, by kernel_rfl, by kernel_rfl, by kernel_rfl, ?_⟩
  simp only [List.forall_mem_cons]
  exact ⟨⟨Try.underlying3, rfl⟩, ⟨Try.underlying3, rfl⟩, ⟨Try.underlying9, rfl⟩, fun x hx => by cases hx⟩
instance : TyU Try.prog 51 (.struct (Try.prog.fieldsOf 51)) := ⟨by kernel_rfl⟩
instance : TyI Try.prog 51 3 32 (.agg #[(.int .i64 (0)), (.int .i64 (0)), (.string ByteArray.empty)]) := tyi (by kernel_rfl)
instance : Fld Try.prog 51 0 0 1 false := fldok Try.underlying51 rfl rfl (by kernel_rfl) (i := ((Try.prog.info? 3).getD default)) (by kernel_rfl) Try.underlying3 rfl
instance : Fld Try.prog 51 1 1 1 false := fldok Try.underlying51 rfl rfl (by kernel_rfl) (i := ((Try.prog.info? 3).getD default)) (by kernel_rfl) Try.underlying3 rfl
instance : Fld Try.prog 51 2 2 1 false := fldok Try.underlying51 rfl rfl (by kernel_rfl) (i := ((Try.prog.info? 9).getD default)) (by kernel_rfl) Try.underlying9 rfl
instance : Bld Try.prog 51 [(0, 1), (1, 1), (2, 1)] [(.int .i64 (0)), (.int .i64 (0)), (.string ByteArray.empty)] := by
  refine ⟨_, ((Try.prog.info? 51).getD default), _, Try.underlying51, by kernel_rfl, (by kernel_rfl : _ = some (.agg #[(.int .i64 (0)), (.int .i64 (0)), (.string ByteArray.empty)])), rfl, fun w => by kernel_rfl⟩
instance : Flat Try.prog 51 [(3, (.int .i64)), (3, (.int .i64)), (9, .string)] := by
  refine ⟨by kernel_rfl, by kernel_rfl, by kernel_rfl, by kernel_rfl, ?_⟩
  simp only [List.forall_mem_cons]
  exact ⟨⟨Try.underlying3, rfl⟩, ⟨Try.underlying3, rfl⟩, ⟨Try.underlying9, rfl⟩, fun x hx => by cases hx⟩
instance : TyU Try.prog 52 (.struct (Try.prog.fieldsOf 52)) := ⟨by kernel_rfl⟩
instance : TyI Try.prog 52 3 40 (.agg #[(.string ByteArray.empty), (.string ByteArray.empty), (.int .i64 (0))]) := tyi (by kernel_rfl)
instance : Fld Try.prog 52 0 0 1 false := fldok Try.underlying52 rfl rfl (by kernel_rfl) (i := ((Try.prog.info? 9).getD default)) (by kernel_rfl) Try.underlying9 rfl
instance : Fld Try.prog 52 1 1 1 false := fldok Try.underlying52 rfl rfl (by kernel_rfl) (i := ((Try.prog.info? 9).getD default)) (by kernel_rfl) Try.underlying9 rfl
instance : Fld Try.prog 52 2 2 1 false := fldok Try.underlying52 rfl rfl (by kernel_rfl) (i := ((Try.prog.info? 3).getD default)) (by kernel_rfl) Try.underlying3 rfl
instance : Bld Try.prog 52 [(0, 1), (1, 1), (2, 1)] [(.string ByteArray.empty), (.string ByteArray.empty), (.int .i64 (0))] := by
  refine ⟨_, ((Try.prog.info? 52).getD default), _, Try.underlying52, by kernel_rfl, (by kernel_rfl : _ = some (.agg #[(.string ByteArray.empty), (.string ByteArray.empty), (.int .i64 (0))])), rfl, fun w => by kernel_rfl⟩
instance : Flat Try.prog 52 [(9, .string), (9, .string), (3, (.int .i64))] := by
  refine ⟨by kernel_rfl, by kernel_rfl, by kernel_rfl, by kernel_rfl, ?_⟩
  simp only [List.forall_mem_cons]
  exact ⟨⟨Try.underlying9, rfl⟩, ⟨Try.underlying9, rfl⟩, ⟨Try.underlying3, rfl⟩, fun x hx => by cases hx⟩
instance : TyU Try.prog 53 (.struct (Try.prog.fieldsOf 53)) := ⟨by kernel_rfl⟩
instance : TyI Try.prog 53 3 40 (.agg #[(.string ByteArray.empty), (.string ByteArray.empty), (.int .i64 (0))]) := tyi (by kernel_rfl)
instance : Fld Try.prog 53 0 0 1 false := fldok Try.underlying53 rfl rfl (by kernel_rfl) (i := ((Try.prog.info? 9).getD default)) (by kernel_rfl) Try.underlying9 rfl
instance : Fld Try.prog 53 1 1 1 false := fldok Try.underlying53 rfl rfl (by kernel_rfl) (i := ((Try.prog.info? 9).getD default)) (by kernel_rfl) Try.underlying9 rfl
instance : Fld Try.prog 53 2 2 1 false := fldok Try.underlying53 rfl rfl (by kernel_rfl) (i := ((Try.prog.info? 3).getD default)) (by kernel_rfl) Try.underlying3 rfl
instance : Bld Try.prog 53 [(0, 1), (1, 1), (2, 1)] [(.string ByteArray.empty), (.string ByteArray.empty), (.int .i64 (0))] := by
  refine ⟨_, ((Try.prog.info? 53).getD default), _, Try.underlying53, by kernel_rfl, (by kernel_rfl : _ = some (.agg #[(.string ByteArray.empty), (.string ByteArray.empty), (.int .i64 (0))])), rfl, fun w => by kernel_rfl⟩
instance : Flat Try.prog 53 [(9, .string), (9, .string), (3, (.int .i64))] := by
  refine ⟨by kernel_rfl, by kernel_rfl, by kernel_rfl, by kernel_rfl, ?_⟩
  simp only [List.forall_mem_cons]
  exact ⟨⟨Try.underlying9, rfl⟩, ⟨Try.underlying9, rfl⟩, ⟨Try.underlying3, rfl⟩, fun x hx => by cases hx⟩
instance : TyU Try.prog 58 (.struct (Try.prog.fieldsOf 58)) := ⟨by kernel_rfl⟩
instance : TyI Try.prog 58 3 32 (.agg #[(.string ByteArray.empty), (.int .i64 (0)), (.int .i64 (0))]) := tyi (by kernel_rfl)
instance : Fld Try.prog 58 0 0 1 false := fldok Try.underlying58 rfl rfl (by kernel_rfl) (i := ((Try.prog.info? 9).getD default)) (by kernel_rfl) Try.underlying9 rfl
instance : Fld Try.prog 58 1 1 1 false := fldok Try.underlying58 rfl rfl (by kernel_rfl) (i := ((Try.prog.info? 3).getD default)) (by kernel_rfl) Try.underlying3 rfl
instance : Fld Try.prog 58 2 2 1 false := fldok Try.underlying58 rfl rfl (by kernel_rfl) (i := ((Try.prog.info? 3).getD default)) (by kernel_rfl) Try.underlying3 rfl
instance : Bld Try.prog 58 [(0, 1), (1, 1), (2, 1)] [(.string ByteArray.empty), (.int .i64 (0)), (.int .i64 (0))] := by
  refine ⟨_, ((Try.prog.info? 58).getD default), _, Try.underlying58, by kernel_rfl, (by kernel_rfl : _ = some (.agg #[(.string ByteArray.empty), (.int .i64 (0)), (.int .i64 (0))])), rfl, fun w => by kernel_rfl⟩
instance : Flat Try.prog 58 [(9, .string), (3, (.int .i64)), (3, (.int .i64))] := by
  refine ⟨by kernel_rfl, by kernel_rfl, by kernel_rfl, by kernel_rfl, ?_⟩
  simp only [List.forall_mem_cons]
  exact ⟨⟨Try.underlying9, rfl⟩, ⟨Try.underlying3, rfl⟩, ⟨Try.underlying3, rfl⟩, fun x hx => by cases hx⟩
instance : TyU Try.prog 59 (.struct (Try.prog.fieldsOf 59)) := ⟨by kernel_rfl⟩
instance : TyI Try.prog 59 3 32 (.agg #[(.string ByteArray.empty), (.int .i64 (0)), (.int .i64 (0))]) := tyi (by kernel_rfl)
instance : Fld Try.prog 59 0 0 1 false := fldok Try.underlying59 rfl rfl (by kernel_rfl) (i := ((Try.prog.info? 9).getD default)) (by kernel_rfl) Try.underlying9 rfl
instance : Fld Try.prog 59 1 1 1 false := fldok Try.underlying59 rfl rfl (by kernel_rfl) (i := ((Try.prog.info? 3).getD default)) (by kernel_rfl) Try.underlying3 rfl
instance : Fld Try.prog 59 2 2 1 false := fldok Try.underlying59 rfl rfl (by kernel_rfl) (i := ((Try.prog.info? 3).getD default)) (by kernel_rfl) Try.underlying3 rfl
instance : Bld Try.prog 59 [(0, 1), (1, 1), (2, 1)] [(.string ByteArray.empty), (.int .i64 (0)), (.int .i64 (0))] := by
  refine ⟨_, ((Try.prog.info? 59).getD default), _, Try.underlying59, by kernel_rfl, (by kernel_rfl : _ = some (.agg #[(.string ByteArray.empty), (.int .i64 (0)), (.int .i64 (0))])), rfl, fun w => by kernel_rfl⟩
instance : Flat Try.prog 59 [(9, .string), (3, (.int .i64)), (3, (.int .i64))] := by
  refine ⟨by kernel_rfl, by kernel_rfl, by kernel_rfl, by kernel_rfl, ?_⟩
  simp only [List.forall_mem_cons]
  exact ⟨⟨Try.underlying9, rfl⟩, ⟨Try.underlying3, rfl⟩, ⟨Try.underlying3, rfl⟩, fun x hx => by cases hx⟩
instance : TyU Try.prog 78 (.map 3 77) := ⟨Try.underlying78⟩
instance : TyI Try.prog 78 1 8 (.map none) := tyi (by kernel_rfl)
instance : TyU Try.prog 80 (.pointer 27) := ⟨Try.underlying80⟩
instance : TyI Try.prog 80 1 8 (.pointer none) := tyi (by kernel_rfl)
instance : TyU Try.prog 90 (.struct (Try.prog.fieldsOf 90)) := ⟨by kernel_rfl⟩
instance : TyI Try.prog 90 5 5 (.agg #[(.bool false), (.bool false), (.bool false), (.bool false), (.bool false)]) := tyi (by kernel_rfl)
instance : Fld Try.prog 90 0 0 1 false := fldok Try.underlying90 rfl rfl (by kernel_rfl) (i := ((Try.prog.info? 4).getD default)) (by kernel_rfl) Try.underlying4 rfl
instance : Fld Try.prog 90 1 1 1 false := fldok Try.underlying90 rfl rfl (by kernel_rfl) (i := ((Try.prog.info? 4).getD default)) (by kernel_rfl) Try.underlying4 rfl
instance : Fld Try.prog 90 2 2 1 false := fldok Try.underlying90 rfl rfl (by kernel_rfl) (i := ((Try.prog.info? 4).getD default)) (by kernel_rfl) Try.underlying4 rfl
instance : Fld Try.prog 90 3 3 1 false := fldok Try.underlying90 rfl rfl (by kernel_rfl) (i := ((Try.prog.info? 4).getD default)) (by kernel_rfl) Try.underlying4 rfl
instance : Fld Try.prog 90 4 4 1 false := fldok Try.underlying90 rfl rfl (by kernel_rfl) (i := ((Try.prog.info? 4).getD default)) (by kernel_rfl) Try.underlying4 rfl
instance : Bld Try.prog 90 [(0, 1), (1, 1), (2, 1), (3, 1), (4, 1)] [(.bool false), (.bool false), (.bool false), (.bool false), (.bool false)] := by
  refine ⟨_, ((Try.prog.info? 90).getD default), _, Try.underlying90, by kernel_rfl, (by kernel_rfl : _ = some (.agg #[(.bool false), (.bool false), (.bool false), (.bool false), (.bool false)])), rfl, fun w => by kernel_rfl⟩
instance : Flat Try.prog 90 [(4, .bool), (4, .bool), (4, .bool), (4, .bool), (4, .bool)] := by
  refine ⟨by kernel_rfl, by kernel_rfl, by kernel_rfl, by kernel_rfl, ?_⟩
  simp only [List.forall_mem_cons]
  exact ⟨⟨Try.underlying4, rfl⟩, ⟨Try.underlying4, rfl⟩, ⟨Try.underlying4, rfl⟩, ⟨Try.underlying4, rfl⟩, ⟨Try.underlying4, rfl⟩, fun x hx => by cases hx⟩
instance : TyU Try.prog 91 (.struct (Try.prog.fieldsOf 91)) := ⟨by kernel_rfl⟩
instance : TyI Try.prog 91 5 5 (.agg #[(.bool false), (.bool false), (.bool false), (.bool false), (.bool false)]) := tyi (by kernel_rfl)
instance : Fld Try.prog 91 0 0 1 false := fldok Try.underlying91 rfl rfl (by kernel_rfl) (i := ((Try.prog.info? 4).getD default)) (by kernel_rfl) Try.underlying4 rfl
instance : Fld Try.prog 91 1 1 1 false := fldok Try.underlying91 rfl rfl (by kernel_rfl) (i := ((Try.prog.info? 4).getD default)) (by kernel_rfl) Try.underlying4 rfl
instance : Fld Try.prog 91 2 2 1 false := fldok Try.underlying91 rfl rfl (by kernel_rfl) (i := ((Try.prog.info? 4).getD default)) (by kernel_rfl) Try.underlying4 rfl
instance : Fld Try.prog 91 3 3 1 false := fldok Try.underlying91 rfl rfl (by kernel_rfl) (i := ((Try.prog.info? 4).getD default)) (by kernel_rfl) Try.underlying4 rfl
instance : Fld Try.prog 91 4 4 1 false := fldok Try.underlying91 rfl rfl (by kernel_rfl) (i := ((Try.prog.info? 4).getD default)) (by kernel_rfl) Try.underlying4 rfl
instance : Bld Try.prog 91 [(0, 1), (1, 1), (2, 1), (3, 1), (4, 1)] [(.bool false), (.bool false), (.bool false), (.bool false), (.bool false)] := by
  refine ⟨_, ((Try.prog.info? 91).getD default), _, Try.underlying91, by kernel_rfl, (by kernel_rfl : _ = some (.agg #[(.bool false), (.bool false), (.bool false), (.bool false), (.bool false)])), rfl, fun w => by kernel_rfl⟩
instance : Flat Try.prog 91 [(4, .bool), (4, .bool), (4, .bool), (4, .bool), (4, .bool)] := by
  refine ⟨by kernel_rfl, by kernel_rfl, by kernel_rfl, by kernel_rfl, ?_⟩
  simp only [List.forall_mem_cons]
  exact ⟨⟨Try.underlying4, rfl⟩, ⟨Try.underlying4, rfl⟩, ⟨Try.underlying4, rfl⟩, ⟨Try.underlying4, rfl⟩, ⟨Try.underlying4, rfl⟩, fun x hx => by cases hx⟩
instance : TyU Try.prog 122 (.int .u64) := ⟨Try.underlying122⟩
instance : TyI Try.prog 122 1 8 (.int .u64 (0)) := tyi (by kernel_rfl)
instance : TyU Try.prog 139 (.array 0 16) := ⟨Try.underlying139⟩
instance : TyI Try.prog 139 0 0 (.agg #[]) := tyi (by kernel_rfl)
instance : TyU Try.prog 143 (.int .u32) := ⟨Try.underlying143⟩
instance : TyI Try.prog 143 1 4 (.int .u32 (0)) := tyi (by kernel_rfl)
instance : TyU Try.prog 144 (.int .u8) := ⟨Try.underlying144⟩
instance : TyI Try.prog 144 1 1 (.int .u8 (0)) := tyi (by kernel_rfl)
instance : TyU Try.prog 145 (.int .u8) := ⟨Try.underlying145⟩
instance : TyI Try.prog 145 1 1 (.int .u8 (0)) := tyi (by kernel_rfl)
instance : TyU Try.prog 147 (.pointer 5) := ⟨Try.underlying147⟩
instance : TyI Try.prog 147 1 8 (.pointer none) := tyi (by kernel_rfl)
instance : TyU Try.prog 148 (.int .i32) := ⟨Try.underlying148⟩
instance : TyI Try.prog 148 1 4 (.int .i32 (0)) := tyi (by kernel_rfl)
instance : TyU Try.prog 149 (.int .i32) := ⟨Try.underlying149⟩
instance : TyI Try.prog 149 1 4 (.int .i32 (0)) := tyi (by kernel_rfl)
instance : TyU Try.prog 150 (.struct (Try.prog.fieldsOf 150)) := ⟨by kernel_rfl⟩
instance : TyI Try.prog 150 11 48 (.agg #[(.int .u64 (0)), (.int .u64 (0)), (.int .u32 (0)), (.int .u8 (0)), (.int .u8 (0)), (.int .u8 (0)), (.int .u8 (0)), .nilFunc, (.pointer none), (.int .i32 (0)), (.int .i32 (0))]) := tyi (by kernel_rfl)
instance : Fld Try.prog 150 0 0 1 false := fldok Try.underlying150 rfl rfl (by kernel_rfl) (i := ((Try.prog.info? 12).getD default)) (by kernel_rfl) Try.underlying12 rfl
instance : Fld Try.prog 150 1 1 1 false := fldok Try.underlying150 rfl rfl (by kernel_rfl) (i := ((Try.prog.info? 12).getD default)) (by kernel_rfl) Try.underlying12 rfl
instance : Fld Try.prog 150 2 2 1 false := fldok Try.underlying150 rfl rfl (by kernel_rfl) (i := ((Try.prog.info? 143).getD default)) (by kernel_rfl) Try.underlying143 rfl
instance : Fld Try.prog 150 3 3 1 false := fldok Try.underlying150 rfl rfl (by kernel_rfl) (i := ((Try.prog.info? 144).getD default)) (by kernel_rfl) Try.underlying144 rfl
instance : Fld Try.prog 150 4 4 1 false := fldok Try.underlying150 rfl rfl (by kernel_rfl) (i := ((Try.prog.info? 5).getD default)) (by kernel_rfl) Try.underlying5 rfl
instance : Fld Try.prog 150 5 5 1 false := fldok Try.underlying150 rfl rfl (by kernel_rfl) (i := ((Try.prog.info? 5).getD default)) (by kernel_rfl) Try.underlying5 rfl
instance : Fld Try.prog 150 6 6 1 false := fldok Try.underlying150 rfl rfl (by kernel_rfl) (i := ((Try.prog.info? 145).getD default)) (by kernel_rfl) Try.underlying145 rfl
instance : Fld Try.prog 150 8 8 1 false := fldok Try.underlying150 rfl rfl (by kernel_rfl) (i := ((Try.prog.info? 147).getD default)) (by kernel_rfl) Try.underlying147 rfl
instance : Fld Try.prog 150 9 9 1 false := fldok Try.underlying150 rfl rfl (by kernel_rfl) (i := ((Try.prog.info? 148).getD default)) (by kernel_rfl) Try.underlying148 rfl
instance : Fld Try.prog 150 10 10 1 false := fldok Try.underlying150 rfl rfl (by kernel_rfl) (i := ((Try.prog.info? 149).getD default)) (by kernel_rfl) Try.underlying149 rfl
instance : TyU Try.prog 151 (.struct (Try.prog.fieldsOf 151)) := ⟨by kernel_rfl⟩
instance : TyI Try.prog 151 11 48 (.agg #[(.int .u64 (0)), (.int .u64 (0)), (.int .u32 (0)), (.int .u8 (0)), (.int .u8 (0)), (.int .u8 (0)), (.int .u8 (0)), .nilFunc, (.pointer none), (.int .i32 (0)), (.int .i32 (0))]) := tyi (by kernel_rfl)
instance : Fld Try.prog 151 0 0 1 false := fldok Try.underlying151 rfl rfl (by kernel_rfl) (i := ((Try.prog.info? 12).getD default)) (by kernel_rfl) Try.underlying12 rfl
instance : Fld Try.prog 151 1 1 1 false := fldok Try.underlying151 rfl rfl (by kernel_rfl) (i := ((Try.prog.info? 12).getD default)) (by kernel_rfl) Try.underlying12 rfl
instance : Fld Try.prog 151 2 2 1 false := fldok Try.underlying151 rfl rfl (by kernel_rfl) (i := ((Try.prog.info? 143).getD default)) (by kernel_rfl) Try.underlying143 rfl
instance : Fld Try.prog 151 3 3 1 false := fldok Try.underlying151 rfl rfl (by kernel_rfl) (i := ((Try.prog.info? 144).getD default)) (by kernel_rfl) Try.underlying144 rfl
instance : Fld Try.prog 151 4 4 1 false := fldok Try.underlying151 rfl rfl (by kernel_rfl) (i := ((Try.prog.info? 5).getD default)) (by kernel_rfl) Try.underlying5 rfl
instance : Fld Try.prog 151 5 5 1 false := fldok Try.underlying151 rfl rfl (by kernel_rfl) (i := ((Try.prog.info? 5).getD default)) (by kernel_rfl) Try.underlying5 rfl
instance : Fld Try.prog 151 6 6 1 false := fldok Try.underlying151 rfl rfl (by kernel_rfl) (i := ((Try.prog.info? 145).getD default)) (by kernel_rfl) Try.underlying145 rfl
instance : Fld Try.prog 151 8 8 1 false := fldok Try.underlying151 rfl rfl (by kernel_rfl) (i := ((Try.prog.info? 147).getD default)) (by kernel_rfl) Try.underlying147 rfl
instance : Fld Try.prog 151 9 9 1 false := fldok Try.underlying151 rfl rfl (by kernel_rfl) (i := ((Try.prog.info? 148).getD default)) (by kernel_rfl) Try.underlying148 rfl
instance : Fld Try.prog 151 10 10 1 false := fldok Try.underlying151 rfl rfl (by kernel_rfl) (i := ((Try.prog.info? 149).getD default)) (by kernel_rfl) Try.underlying149 rfl
instance : FnOk Try.prog 3 := fnok (by kernel_rfl)
instance : FnOk Try.prog 4 := fnok (by kernel_rfl)
instance : FnOk Try.prog 5 := fnok (by kernel_rfl)
instance : FnOk Try.prog 6 := fnok (by kernel_rfl)
instance : FnOk Try.prog 7 := fnok (by kernel_rfl)
instance : FnOk Try.prog 8 := fnok (by kernel_rfl)
instance : FnOk Try.prog 9 := fnok (by kernel_rfl)
instance : FnOk Try.prog 10 := fnok (by kernel_rfl)
instance : FnOk Try.prog 11 := fnok (by kernel_rfl)
instance : FnOk Try.prog 12 := fnok (by kernel_rfl)
instance : FnOk Try.prog 13 := fnok (by kernel_rfl)
instance : FnOk Try.prog 14 := fnok (by kernel_rfl)
instance : FnOk Try.prog 15 := fnok (by kernel_rfl)
instance : FnOk Try.prog 16 := fnok (by kernel_rfl)
instance : FnOk Try.prog 17 := fnok (by kernel_rfl)
instance : FnOk Try.prog 18 := fnok (by kernel_rfl)
instance : FnOk Try.prog 19 := fnok (by kernel_rfl)
instance : FnOk Try.prog 20 := fnok (by kernel_rfl)
instance : FnOk Try.prog 21 := fnok (by kernel_rfl)
instance : FnOk Try.prog 22 := fnok (by kernel_rfl)
instance : FnOk Try.prog 23 := fnok (by kernel_rfl)
instance : FnOk Try.prog 24 := fnok (by kernel_rfl)
instance : FnOk Try.prog 25 := fnok (by kernel_rfl)
instance : FnOk Try.prog 26 := fnok (by kernel_rfl)
instance : FnOk Try.prog 27 := fnok (by kernel_rfl)
instance : FnOk Try.prog 28 := fnok (by kernel_rfl)
instance : FnOk Try.prog 29 := fnok (by kernel_rfl)
instance : FnOk Try.prog 30 := fnok (by kernel_rfl)
instance : FnOk Try.prog 31 := fnok (by kernel_rfl)
instance : FnOk Try.prog 32 := fnok (by kernel_rfl)
instance : FnOk Try.prog 33 := fnok (by kernel_rfl)
instance : FnOk Try.prog 34 := fnok (by kernel_rfl)
instance : FnOk Try.prog 35 := fnok (by kernel_rfl)
instance : FnOk Try.prog 36 := fnok (by kernel_rfl)
instance : FnOk Try.prog 37 := fnok (by kernel_rfl)
instance : FnOk Try.prog 38 := fnok (by kernel_rfl)
instance : FnOk Try.prog 39 := fnok (by kernel_rfl)
instance : FnOk Try.prog 40 := fnok (by kernel_rfl)
instance : FnOk Try.prog 41 := fnok (by kernel_rfl)
instance : FnOk Try.prog 42 := fnok (by kernel_rfl)
instance : FnOk Try.prog 43 := fnok (by kernel_rfl)
instance : FnOk Try.prog 44 := fnok (by kernel_rfl)
instance : FnOk Try.prog 45 := fnok (by kernel_rfl)
instance : FnOk Try.prog 46 := fnok (by kernel_rfl)
instance : FnOk Try.prog 47 := fnok (by kernel_rfl)
instance : FnOk Try.prog 48 := fnok (by kernel_rfl)
instance : FnOk Try.prog 49 := fnok (by kernel_rfl)
instance : FnOk Try.prog 50 := fnok (by kernel_rfl)
instance : FnOk Try.prog 51 := fnok (by kernel_rfl)
instance : FnOk Try.prog 52 := fnok (by kernel_rfl)
instance : FnOk Try.prog 53 := fnok (by kernel_rfl)
instance : FnOk Try.prog 54 := fnok (by kernel_rfl)
instance : FnOk Try.prog 55 := fnok (by kernel_rfl)
instance : FnOk Try.prog 56 := fnok (by kernel_rfl)
instance : FnOk Try.prog 57 := fnok (by kernel_rfl)
instance : FnOk Try.prog 58 := fnok (by kernel_rfl)
instance : FnOk Try.prog 59 := fnok (by kernel_rfl)
instance : FnOk Try.prog 60 := fnok (by kernel_rfl)
instance : FnOk Try.prog 61 := fnok (by kernel_rfl)
instance : FnOk Try.prog 62 := fnok (by kernel_rfl)
instance : FnOk Try.prog 63 := fnok (by kernel_rfl)
instance : FnOk Try.prog 64 := fnok (by kernel_rfl)
instance : FnOk Try.prog 65 := fnok (by kernel_rfl)
instance : FnOk Try.prog 66 := fnok (by kernel_rfl)
instance : FnOk Try.prog 67 := fnok (by kernel_rfl)
instance : FnOk Try.prog 68 := fnok (by kernel_rfl)
instance : FnOk Try.prog 69 := fnok (by kernel_rfl)
instance : FnOk Try.prog 70 := fnok (by kernel_rfl)
instance : FnOk Try.prog 71 := fnok (by kernel_rfl)
instance : FnOk Try.prog 72 := fnok (by kernel_rfl)
instance : FnOk Try.prog 73 := fnok (by kernel_rfl)
instance : FnOk Try.prog 74 := fnok (by kernel_rfl)
instance : FnOk Try.prog 75 := fnok (by kernel_rfl)
instance : FnOk Try.prog 76 := fnok (by kernel_rfl)
instance : FnOk Try.prog 77 := fnok (by kernel_rfl)
instance : FnOk Try.prog 78 := fnok (by kernel_rfl)
instance : FnOk Try.prog 79 := fnok (by kernel_rfl)
instance : FnOk Try.prog 80 := fnok (by kernel_rfl)
instance : FnOk Try.prog 81 := fnok (by kernel_rfl)
instance : FnOk Try.prog 82 := fnok (by kernel_rfl)
instance : FnOk Try.prog 83 := fnok (by kernel_rfl)
instance : FnOk Try.prog 84 := fnok (by kernel_rfl)
instance : FnOk Try.prog 85 := fnok (by kernel_rfl)
instance : FnOk Try.prog 87 := fnok (by kernel_rfl)
instance : FnOk Try.prog 89 := fnok (by kernel_rfl)
instance : FnOk Try.prog 91 := fnok (by kernel_rfl)
instance : FnOk Try.prog 93 := fnok (by kernel_rfl)
instance : FnOk Try.prog 94 := fnok (by kernel_rfl)
instance : FnOk Try.prog 95 := fnok (by kernel_rfl)
instance : FnOk Try.prog 96 := fnok (by kernel_rfl)
instance : FnOk Try.prog 97 := fnok (by kernel_rfl)
instance : FnOk Try.prog 98 := fnok (by kernel_rfl)
instance : FnOk Try.prog 99 := fnok (by kernel_rfl)
instance : FnOk Try.prog 100 := fnok (by kernel_rfl)
instance : FnOk Try.prog 101 := fnok (by kernel_rfl)
end Go.Wm

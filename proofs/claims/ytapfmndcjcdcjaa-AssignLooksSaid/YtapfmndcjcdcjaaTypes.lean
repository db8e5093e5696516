/-
  The facts on types and functions of this seat's program, written by a program of the prover's own out of the dump. Conditions: none.
-/
import Derived.Test.YtapfmndcjcdcjaaCtl
import Derived.Test.YtapfmndcjcdcjaaProg
import Derived.KernelRfl
namespace Go.Wm
open Go.Proofs
set_option linter.all false
set_option maxRecDepth 100000
theorem tyi {P : Program} {t : TypeId} {sz bs : Nat} {z : Value} (h : (P.info? t).map (fun i => (i.size, i.bytes, i.zero)) = some (sz, bs, some z)) : TyI P t sz bs z := by
  cases e : P.info? t with
  | none => simp [e] at h
  | some i => simp only [e, Option.map_some, Option.some.injEq, Prod.mk.injEq] at h; exact ⟨i, e, h.1, h.2.1, h.2.2⟩
theorem fnok {P : Program} {f : FuncId} (h : (P.funcs[f]?).map (fun fn => (fn.name == "runtime.NumGoroutine", fn.body.isNone)) = some (false, false)) : FnOk P f := by
  cases e : P.funcs[f]? with
  | none => simp [e] at h
  | some i => simp only [e, Option.map_some, Option.some.injEq, Prod.mk.injEq] at h; exact ⟨i, e, h.1, h.2⟩
theorem fldok {P : Program} {t f off sz : Nat} {ag : Bool} {fs : Array Field} {fd : Field} {i : TypeInfo} {d : TypeDesc} (h1 : P.underlying t = some (.struct fs)) (h2 : fs[f]? = some fd) (h3 : fd.offset = off) (h4 : P.info? fd.type = some i) (h5 : i.size = sz) (h6 : P.underlying fd.type = some d) (h7 : aggD d = ag) : Fld P t f off sz ag := ⟨fs, fd, d, i, h1, h2, h3, h4, h5, h6, h7⟩
instance : Mixed Try.prog := ⟨by kernel_rfl⟩
instance : TyU Try.prog 2 (.int .i64) := ⟨Try.underlying2⟩
instance : TyI Try.prog 2 1 8 (.int .i64 (0)) := tyi (by kernel_rfl)
instance : TyU Try.prog 3 (.int .i64) := ⟨Try.underlying3⟩
instance : TyI Try.prog 3 1 8 (.int .i64 (0)) := tyi (by kernel_rfl)
instance : TyU Try.prog 4 .bool := ⟨Try.underlying4⟩
instance : TyI Try.prog 4 1 1 (.bool false) := tyi (by kernel_rfl)
instance : TyU Try.prog 5 (.int .u8) := ⟨Try.underlying5⟩
instance : TyI Try.prog 5 1 1 (.int .u8 (0)) := tyi (by kernel_rfl)
instance : TyU Try.prog 6 (.int .u8) := ⟨Try.underlying6⟩
instance : TyI Try.prog 6 1 1 (.int .u8 (0)) := tyi (by kernel_rfl)
instance : TyU Try.prog 9 .string := ⟨Try.underlying9⟩
instance : TyI Try.prog 9 1 16 (.string ByteArray.empty) := tyi (by kernel_rfl)
instance : TyU Try.prog 10 .string := ⟨Try.underlying10⟩
instance : TyI Try.prog 10 1 16 (.string ByteArray.empty) := tyi (by kernel_rfl)
instance : TyU Try.prog 11 .string := ⟨Try.underlying11⟩
instance : TyI Try.prog 11 1 16 (.string ByteArray.empty) := tyi (by kernel_rfl)
instance : TyU Try.prog 12 (.int .u64) := ⟨Try.underlying12⟩
instance : TyI Try.prog 12 1 8 (.int .u64 (0)) := tyi (by kernel_rfl)
instance : TyU Try.prog 15 (.pointer 79) := ⟨Try.underlying15⟩
instance : TyI Try.prog 15 1 8 (.pointer none) := tyi (by kernel_rfl)
instance : TyU Try.prog 16 (.pointer 82) := ⟨Try.underlying16⟩
instance : TyI Try.prog 16 1 8 (.pointer none) := tyi (by kernel_rfl)
instance : TyU Try.prog 17 (.pointer 92) := ⟨Try.underlying17⟩
instance : TyI Try.prog 17 1 8 (.pointer none) := tyi (by kernel_rfl)
instance : TyU Try.prog 21 (.int .i32) := ⟨Try.underlying21⟩
instance : TyI Try.prog 21 1 4 (.int .i32 (0)) := tyi (by kernel_rfl)
instance : TyU Try.prog 22 (.slice 34) := ⟨Try.underlying22⟩
instance : TyI Try.prog 22 1 24 (.slice none 0 0) := tyi (by kernel_rfl)
instance : TyU Try.prog 23 (.slice 37) := ⟨Try.underlying23⟩
instance : TyI Try.prog 23 1 24 (.slice none 0 0) := tyi (by kernel_rfl)
instance : TyU Try.prog 26 (.slice 23) := ⟨Try.underlying26⟩
instance : TyI Try.prog 26 1 24 (.slice none 0 0) := tyi (by kernel_rfl)
instance : TyU Try.prog 27 (.int .i64) := ⟨Try.underlying27⟩
instance : TyI Try.prog 27 1 8 (.int .i64 (0)) := tyi (by kernel_rfl)
instance : TyU Try.prog 32 (.slice 9) := ⟨Try.underlying32⟩
instance : TyI Try.prog 32 1 24 (.slice none 0 0) := tyi (by kernel_rfl)
instance : TyU Try.prog 33 (.struct (Try.prog.fieldsOf 33)) := ⟨by kernel_rfl⟩
instance : TyI Try.prog 33 6 96 (.agg #[(.string ByteArray.empty), (.string ByteArray.empty), (.slice none 0 0), (.slice none 0 0), (.bool false), (.int .i64 (0))]) := tyi (by kernel_rfl)
instance : Fld Try.prog 33 0 0 1 false := fldok Try.underlying33 rfl rfl (by kernel_rfl) (i := ((Try.prog.info? 9).getD default)) (by kernel_rfl) Try.underlying9 rfl
instance : Fld Try.prog 33 1 1 1 false := fldok Try.underlying33 rfl rfl (by kernel_rfl) (i := ((Try.prog.info? 9).getD default)) (by kernel_rfl) Try.underlying9 rfl
instance : Fld Try.prog 33 2 2 1 false := fldok Try.underlying33 rfl rfl (by kernel_rfl) (i := ((Try.prog.info? 32).getD default)) (by kernel_rfl) Try.underlying32 rfl
instance : Fld Try.prog 33 3 3 1 false := fldok Try.underlying33 rfl rfl (by kernel_rfl) (i := ((Try.prog.info? 23).getD default)) (by kernel_rfl) Try.underlying23 rfl
instance : Fld Try.prog 33 4 4 1 false := fldok Try.underlying33 rfl rfl (by kernel_rfl) (i := ((Try.prog.info? 4).getD default)) (by kernel_rfl) Try.underlying4 rfl
instance : Fld Try.prog 33 5 5 1 false := fldok Try.underlying33 rfl rfl (by kernel_rfl) (i := ((Try.prog.info? 3).getD default)) (by kernel_rfl) Try.underlying3 rfl
instance : Bld Try.prog 33 [(0, 1), (1, 1), (2, 1), (3, 1), (4, 1), (5, 1)] [(.string ByteArray.empty), (.string ByteArray.empty), (.slice none 0 0), (.slice none 0 0), (.bool false), (.int .i64 (0))] := by
  refine ⟨_, ((Try.prog.info? 33).getD default), _, Try.underlying33, by kernel_rfl, (by kernel_rfl : _ = some (.agg #[(.string ByteArray.empty), (.string ByteArray.empty), (.slice none 0 0), (.slice none 0 0), (.bool false), (.int .i64 (0))])), rfl, fun w => by kernel_rfl⟩
instance : TyU Try.prog 34 (.struct (Try.prog.fieldsOf 34)) := ⟨by kernel_rfl⟩
instance : TyI Try.prog 34 6 96 (.agg #[(.string ByteArray.empty), (.string ByteArray.empty), (.slice none 0 0), (.slice none 0 0), (.bool false), (.int .i64 (0))]) := tyi (by kernel_rfl)
instance : Fld Try.prog 34 0 0 1 false := fldok Try.underlying34 rfl rfl (by kernel_rfl) (i := ((Try.prog.info? 9).getD default)) (by kernel_rfl) Try.underlying9 rfl
instance : Fld Try.prog 34 1 1 1 false := fldok Try.underlying34 rfl rfl (by kernel_rfl) (i := ((Try.prog.info? 9).getD default)) (by kernel_rfl) Try.underlying9 rfl
instance : Fld Try.prog 34 2 2 1 false := fldok Try.underlying34 rfl rfl (by kernel_rfl) (i := ((Try.prog.info? 32).getD default)) (by kernel_rfl) Try.underlying32 rfl
instance : Fld Try.prog 34 3 3 1 false := fldok Try.underlying34 rfl rfl (by kernel_rfl) (i := ((Try.prog.info? 23).getD default)) (by kernel_rfl) Try.underlying23 rfl
instance : Fld Try.prog 34 4 4 1 false := fldok Try.underlying34 rfl rfl (by kernel_rfl) (i := ((Try.prog.info? 4).getD default)) (by kernel_rfl) Try.underlying4 rfl
instance : Fld Try.prog 34 5 5 1 false := fldok Try.underlying34 rfl rfl (by kernel_rfl) (i := ((Try.prog.info? 3).getD default)) (by kernel_rfl) Try.underlying3 rfl
instance : Bld Try.prog 34 [(0, 1), (1, 1), (2, 1), (3, 1), (4, 1), (5, 1)] [(.string ByteArray.empty), (.string ByteArray.empty), (.slice none 0 0), (.slice none 0 0), (.bool false), (.int .i64 (0))] := by
  refine ⟨_, ((Try.prog.info? 34).getD default), _, Try.underlying34, by kernel_rfl, (by kernel_rfl : _ = some (.agg #[(.string ByteArray.empty), (.string ByteArray.empty), (.slice none 0 0), (.slice none 0 0), (.bool false), (.int .i64 (0))])), rfl, fun w => by kernel_rfl⟩
instance : TyU Try.prog 36 (.struct (Try.prog.fieldsOf 36)) := ⟨by kernel_rfl⟩
instance : TyI Try.prog 36 3 32 (.agg #[(.string ByteArray.empty), (.int .i64 (0)), (.int .i64 (0))]) := tyi (by kernel_rfl)
instance : Fld Try.prog 36 0 0 1 false := fldok Try.underlying36 rfl rfl (by kernel_rfl) (i := ((Try.prog.info? 9).getD default)) (by kernel_rfl) Try.underlying9 rfl
instance : Fld Try.prog 36 1 1 1 false := fldok Try.underlying36 rfl rfl (by kernel_rfl) (i := ((Try.prog.info? 3).getD default)) (by kernel_rfl) Try.underlying3 rfl
instance : Fld Try.prog 36 2 2 1 false := fldok Try.underlying36 rfl rfl (by kernel_rfl) (i := ((Try.prog.info? 3).getD default)) (by kernel_rfl) Try.underlying3 rfl
instance : Bld Try.prog 36 [(0, 1), (1, 1), (2, 1)] [(.string ByteArray.empty), (.int .i64 (0)), (.int .i64 (0))] := by
  refine ⟨_, ((Try.prog.info? 36).getD default), _, Try.underlying36, by kernel_rfl, (by kernel_rfl : _ = some (.agg #[(.string ByteArray.empty), (.int .i64 (0)), (.int .i64 (0))])), rfl, fun w => by kernel_rfl⟩
instance : Flat Try.prog 36 [(9, .string), (3, (.int .i64)), (3, (.int .i64))] := by
  refine ⟨by kernel_rfl, by kernel_rfl, by kernel_rfl, by kernel_rfl, ?_⟩
  simp only [List.forall_mem_cons]
  exact ⟨⟨Try.underlying9, rfl⟩, ⟨Try.underlying3, rfl⟩, ⟨Try.underlying3, rfl⟩, fun x hx => by cases hx⟩
instance : TyU Try.prog 37 (.struct (Try.prog.fieldsOf 37)) := ⟨by kernel_rfl⟩
instance : TyI Try.prog 37 3 32 (.agg #[(.string ByteArray.empty), (.int .i64 (0)), (.int .i64 (0))]) := tyi (by kernel_rfl)
instance : Fld Try.prog 37 0 0 1 false := fldok Try.underlying37 rfl rfl (by kernel_rfl) (i := ((Try.prog.info? 9).getD default)) (by kernel_rfl) Try.underlying9 rfl
instance : Fld Try.prog 37 1 1 1 false := fldok Try.underlying37 rfl rfl (by kernel_rfl) (i := ((Try.prog.info? 3).getD default)) (by kernel_rfl) Try.underlying3 rfl
instance : Fld Try.prog 37 2 2 1 false := fldok Try.underlying37 rfl rfl (by kernel_rfl) (i := ((Try.prog.info? 3).getD default)) (by kernel_rfl) Try.underlying3 rfl
instance : Bld Try.prog 37 [(0, 1), (1, 1), (2, 1)] [(.string ByteArray.empty), (.int .i64 (0)), (.int .i64 (0))] := by
  refine ⟨_, ((Try.prog.info? 37).getD default), _, Try.underlying37, by kernel_rfl, (by kernel_rfl : _ = some (.agg #[(.string ByteArray.empty), (.int .i64 (0)), (.int .i64 (0))])), rfl, fun w => by kernel_rfl⟩
instance : Flat Try.prog 37 [(9, .string), (3, (.int .i64)), (3, (.int .i64))] := by
  refine ⟨by kernel_rfl, by kernel_rfl, by kernel_rfl, by kernel_rfl, ?_⟩
  simp only [List.forall_mem_cons]
  exact ⟨⟨Try.underlying9, rfl⟩, ⟨Try.underlying3, rfl⟩, ⟨Try.underlying3, rfl⟩, fun x hx => by cases hx⟩
instance : TyU Try.prog 46 (.pointer 49) := ⟨Try.underlying46⟩
instance : TyI Try.prog 46 1 8 (.pointer none) := tyi (by kernel_rfl)
instance : TyU Try.prog 47 (.slice 3) := ⟨Try.underlying47⟩
instance : TyI Try.prog 47 1 24 (.slice none 0 0) := tyi (by kernel_rfl)
instance : TyU Try.prog 48 (.struct (Try.prog.fieldsOf 48)) := ⟨by kernel_rfl⟩
instance : TyI Try.prog 48 4 96 (.agg #[(.slice none 0 0), (.slice none 0 0), (.slice none 0 0), (.slice none 0 0)]) := tyi (by kernel_rfl)
instance : Fld Try.prog 48 0 0 1 false := fldok Try.underlying48 rfl rfl (by kernel_rfl) (i := ((Try.prog.info? 22).getD default)) (by kernel_rfl) Try.underlying22 rfl
instance : Fld Try.prog 48 1 1 1 false := fldok Try.underlying48 rfl rfl (by kernel_rfl) (i := ((Try.prog.info? 23).getD default)) (by kernel_rfl) Try.underlying23 rfl
instance : Fld Try.prog 48 2 2 1 false := fldok Try.underlying48 rfl rfl (by kernel_rfl) (i := ((Try.prog.info? 47).getD default)) (by kernel_rfl) Try.underlying47 rfl
instance : Fld Try.prog 48 3 3 1 false := fldok Try.underlying48 rfl rfl (by kernel_rfl) (i := ((Try.prog.info? 47).getD default)) (by kernel_rfl) Try.underlying47 rfl
instance : Bld Try.prog 48 [(0, 1), (1, 1), (2, 1), (3, 1)] [(.slice none 0 0), (.slice none 0 0), (.slice none 0 0), (.slice none 0 0)] := by
  refine ⟨_, ((Try.prog.info? 48).getD default), _, Try.underlying48, by kernel_rfl, (by kernel_rfl : _ = some (.agg #[(.slice none 0 0), (.slice none 0 0), (.slice none 0 0), (.slice none 0 0)])), rfl, fun w => by kernel_rfl⟩
instance : TyU Try.prog 49 (.struct (Try.prog.fieldsOf 49)) := ⟨by kernel_rfl⟩
instance : TyI Try.prog 49 4 96 (.agg #[(.slice none 0 0), (.slice none 0 0), (.slice none 0 0), (.slice none 0 0)]) := tyi (by kernel_rfl)
instance : Fld Try.prog 49 0 0 1 false := fldok Try.underlying49 rfl rfl (by kernel_rfl) (i := ((Try.prog.info? 22).getD default)) (by kernel_rfl) Try.underlying22 rfl
instance : Fld Try.prog 49 1 1 1 false := fldok Try.underlying49 rfl rfl (by kernel_rfl) (i := ((Try.prog.info? 23).getD default)) (by kernel_rfl) Try.underlying23 rfl
instance : Fld Try.prog 49 2 2 1 false := fldok Try.underlying49 rfl rfl (by kernel_rfl) (i := ((Try.prog.info? 47).getD default)) (by kernel_rfl) Try.underlying47 rfl
instance : Fld Try.prog 49 3 3 1 false := fldok Try.underlying49 rfl rfl (by kernel_rfl) (i := ((Try.prog.info? 47).getD default)) (by kernel_rfl) Try.underlying47 rfl
instance : Bld Try.prog 49 [(0, 1), (1, 1), (2, 1), (3, 1)] [(.slice none 0 0), (.slice none 0 0), (.slice none 0 0), (.slice none 0 0)] := by
  refine ⟨_, ((Try.prog.info? 49).getD default), _, Try.underlying49, by kernel_rfl, (by kernel_rfl : _ = some (.agg #[(.slice none 0 0), (.slice none 0 0), (.slice none 0 0), (.slice none 0 0)])), rfl, fun w => by kernel_rfl⟩
instance : TyU Try.prog 58 (.map 37 60) := ⟨Try.underlying58⟩
instance : TyI Try.prog 58 1 8 (.map none) := tyi (by kernel_rfl)
instance : TyU Try.prog 60 (.map 3 4) := ⟨Try.underlying60⟩
instance : TyI Try.prog 60 1 8 (.map none) := tyi (by kernel_rfl)
instance : TyU Try.prog 66 (.map 37 3) := ⟨Try.underlying66⟩
instance : TyI Try.prog 66 1 8 (.map none) := tyi (by kernel_rfl)
instance : TyU Try.prog 73 (.map 9 3) := ⟨Try.underlying73⟩
instance : TyI Try.prog 73 1 8 (.map none) := tyi (by kernel_rfl)
instance : TyU Try.prog 80 (.array 0 16) := ⟨Try.underlying80⟩
instance : TyI Try.prog 80 0 0 (.agg #[]) := tyi (by kernel_rfl)
instance : TyU Try.prog 84 (.int .u32) := ⟨Try.underlying84⟩
instance : TyI Try.prog 84 1 4 (.int .u32 (0)) := tyi (by kernel_rfl)
instance : TyU Try.prog 85 (.int .u8) := ⟨Try.underlying85⟩
instance : TyI Try.prog 85 1 1 (.int .u8 (0)) := tyi (by kernel_rfl)
instance : TyU Try.prog 86 (.int .u8) := ⟨Try.underlying86⟩
instance : TyI Try.prog 86 1 1 (.int .u8 (0)) := tyi (by kernel_rfl)
instance : TyU Try.prog 88 (.pointer 5) := ⟨Try.underlying88⟩
instance : TyI Try.prog 88 1 8 (.pointer none) := tyi (by kernel_rfl)
instance : TyU Try.prog 89 (.int .i32) := ⟨Try.underlying89⟩
instance : TyI Try.prog 89 1 4 (.int .i32 (0)) := tyi (by kernel_rfl)
instance : TyU Try.prog 90 (.int .i32) := ⟨Try.underlying90⟩
instance : TyI Try.prog 90 1 4 (.int .i32 (0)) := tyi (by kernel_rfl)
instance : TyU Try.prog 91 (.struct (Try.prog.fieldsOf 91)) := ⟨by kernel_rfl⟩
instance : TyI Try.prog 91 11 48 (.agg #[(.int .u64 (0)), (.int .u64 (0)), (.int .u32 (0)), (.int .u8 (0)), (.int .u8 (0)), (.int .u8 (0)), (.int .u8 (0)), .nilFunc, (.pointer none), (.int .i32 (0)), (.int .i32 (0))]) := tyi (by kernel_rfl)
instance : Fld Try.prog 91 0 0 1 false := fldok Try.underlying91 rfl rfl (by kernel_rfl) (i := ((Try.prog.info? 12).getD default)) (by kernel_rfl) Try.underlying12 rfl
instance : Fld Try.prog 91 1 1 1 false := fldok Try.underlying91 rfl rfl (by kernel_rfl) (i := ((Try.prog.info? 12).getD default)) (by kernel_rfl) Try.underlying12 rfl
instance : Fld Try.prog 91 2 2 1 false := fldok Try.underlying91 rfl rfl (by kernel_rfl) (i := ((Try.prog.info? 84).getD default)) (by kernel_rfl) Try.underlying84 rfl
instance : Fld Try.prog 91 3 3 1 false := fldok Try.underlying91 rfl rfl (by kernel_rfl) (i := ((Try.prog.info? 85).getD default)) (by kernel_rfl) Try.underlying85 rfl
instance : Fld Try.prog 91 4 4 1 false := fldok Try.underlying91 rfl rfl (by kernel_rfl) (i := ((Try.prog.info? 5).getD default)) (by kernel_rfl) Try.underlying5 rfl
instance : Fld Try.prog 91 5 5 1 false := fldok Try.underlying91 rfl rfl (by kernel_rfl) (i := ((Try.prog.info? 5).getD default)) (by kernel_rfl) Try.underlying5 rfl
instance : Fld Try.prog 91 6 6 1 false := fldok Try.underlying91 rfl rfl (by kernel_rfl) (i := ((Try.prog.info? 86).getD default)) (by kernel_rfl) Try.underlying86 rfl
instance : Fld Try.prog 91 8 8 1 false := fldok Try.underlying91 rfl rfl (by kernel_rfl) (i := ((Try.prog.info? 88).getD default)) (by kernel_rfl) Try.underlying88 rfl
instance : Fld Try.prog 91 9 9 1 false := fldok Try.underlying91 rfl rfl (by kernel_rfl) (i := ((Try.prog.info? 89).getD default)) (by kernel_rfl) Try.underlying89 rfl
instance : Fld Try.prog 91 10 10 1 false := fldok Try.underlying91 rfl rfl (by kernel_rfl) (i := ((Try.prog.info? 90).getD default)) (by kernel_rfl) Try.underlying90 rfl
instance : TyU Try.prog 92 (.struct (Try.prog.fieldsOf 92)) := ⟨by kernel_rfl⟩
instance : TyI Try.prog 92 11 48 (.agg #[(.int .u64 (0)), (.int .u64 (0)), (.int .u32 (0)), (.int .u8 (0)), (.int .u8 (0)), (.int .u8 (0)), (.int .u8 (0)), .nilFunc, (.pointer none), (.int .i32 (0)), (.int .i32 (0))]) := tyi (by kernel_rfl)
instance : Fld Try.prog 92 0 0 1 false := fldok Try.underlying92 rfl rfl (by kernel_rfl) (i := ((Try.prog.info? 12).getD default)) (by kernel_rfl) Try.underlying12 rfl
instance : Fld Try.prog 92 1 1 1 false := fldok Try.underlying92 rfl rfl (by kernel_rfl) (i := ((Try.prog.info? 12).getD default)) (by kernel_rfl) Try.underlying12 rfl
instance : Fld Try.prog 92 2 2 1 false := fldok Try.underlying92 rfl rfl (by kernel_rfl) (i := ((Try.prog.info? 84).getD default)) (by kernel_rfl) Try.underlying84 rfl
instance : Fld Try.prog 92 3 3 1 false := fldok Try.underlying92 rfl rfl (by kernel_rfl) (i := ((Try.prog.info? 85).getD default)) (by kernel_rfl) Try.underlying85 rfl
instance : Fld Try.prog 92 4 4 1 false := fldok Try.underlying92 rfl rfl (by kernel_rfl) (i := ((Try.prog.info? 5).getD default)) (by kernel_rfl) Try.underlying5 rfl
instance : Fld Try.prog 92 5 5 1 false := fldok Try.underlying92 rfl rfl (by kernel_rfl) (i := ((Try.prog.info? 5).getD default)) (by kernel_rfl) Try.underlying5 rfl
instance : Fld Try.prog 92 6 6 1 false := fldok Try.underlying92 rfl rfl (by kernel_rfl) (i := ((Try.prog.info? 86).getD default)) (by kernel_rfl) Try.underlying86 rfl
instance : Fld Try.prog 92 8 8 1 false := fldok Try.underlying92 rfl rfl (by kernel_rfl) (i := ((Try.prog.info? 88).getD default)) (by kernel_rfl) Try.underlying88 rfl
instance : Fld Try.prog 92 9 9 1 false := fldok Try.underlying92 rfl rfl (by kernel_rfl) (i := ((Try.prog.info? 89).getD default)) (by kernel_rfl) Try.underlying89 rfl
instance : Fld Try.prog 92 10 10 1 false := fldok Try.underlying92 rfl rfl (by kernel_rfl) (i := ((Try.prog.info? 90).getD default)) (by kernel_rfl) Try.underlying90 rfl
instance : FnOk Try.prog 3 := fnok (by kernel_rfl)
instance : FnOk Try.prog 4 := fnok (by kernel_rfl)
instance : FnOk Try.prog 5 := fnok (by kernel_rfl)
instance : FnOk Try.prog 6 := fnok (by kernel_rfl)
instance : FnOk Try.prog 7 := fnok (by kernel_rfl)
instance : FnOk Try.prog 8 := fnok (by kernel_rfl)
instance : FnOk Try.prog 9 := fnok (by kernel_rfl)
instance : FnOk Try.prog 10 := fnok (by kernel_rfl)
instance : FnOk Try.prog 11 := fnok (by kernel_rfl)
instance : FnOk Try.prog 12 := fnok (by kernel_rfl)
instance : FnOk Try.prog 13 := fnok (by kernel_rfl)
instance : FnOk Try.prog 14 := fnok (by kernel_rfl)
instance : FnOk Try.prog 15 := fnok (by kernel_rfl)
instance : FnOk Try.prog 16 := fnok (by kernel_rfl)
instance : FnOk Try.prog 17 := fnok (by kernel_rfl)
instance : FnOk Try.prog 18 := fnok (by kernel_rfl)
instance : FnOk Try.prog 19 := fnok (by kernel_rfl)
instance : FnOk Try.prog 20 := fnok (by kernel_rfl)
instance : FnOk Try.prog 21 := fnok (by kernel_rfl)
instance : FnOk Try.prog 22 := fnok (by kernel_rfl)
instance : FnOk Try.prog 23 := fnok (by kernel_rfl)
instance : FnOk Try.prog 24 := fnok (by kernel_rfl)
instance : FnOk Try.prog 25 := fnok (by kernel_rfl)
instance : FnOk Try.prog 26 := fnok (by kernel_rfl)
instance : FnOk Try.prog 27 := fnok (by kernel_rfl)
instance : FnOk Try.prog 28 := fnok (by kernel_rfl)
instance : FnOk Try.prog 29 := fnok (by kernel_rfl)
instance : FnOk Try.prog 30 := fnok (by kernel_rfl)
instance : FnOk Try.prog 31 := fnok (by kernel_rfl)
instance : FnOk Try.prog 32 := fnok (by kernel_rfl)
instance : FnOk Try.prog 33 := fnok (by kernel_rfl)
instance : FnOk Try.prog 34 := fnok (by kernel_rfl)
instance : FnOk Try.prog 35 := fnok (by kernel_rfl)
instance : FnOk Try.prog 36 := fnok (by kernel_rfl)
instance : FnOk Try.prog 37 := fnok (by kernel_rfl)
instance : FnOk Try.prog 38 := fnok (by kernel_rfl)
instance : FnOk Try.prog 39 := fnok (by kernel_rfl)
instance : FnOk Try.prog 40 := fnok (by kernel_rfl)
instance : FnOk Try.prog 41 := fnok (by kernel_rfl)
instance : FnOk Try.prog 42 := fnok (by kernel_rfl)
instance : FnOk Try.prog 43 := fnok (by kernel_rfl)
instance : FnOk Try.prog 44 := fnok (by kernel_rfl)
instance : FnOk Try.prog 45 := fnok (by kernel_rfl)
instance : FnOk Try.prog 46 := fnok (by kernel_rfl)
instance : FnOk Try.prog 47 := fnok (by kernel_rfl)
instance : FnOk Try.prog 48 := fnok (by kernel_rfl)
instance : FnOk Try.prog 49 := fnok (by kernel_rfl)
instance : FnOk Try.prog 50 := fnok (by kernel_rfl)
instance : FnOk Try.prog 51 := fnok (by kernel_rfl)
instance : FnOk Try.prog 52 := fnok (by kernel_rfl)
instance : FnOk Try.prog 53 := fnok (by kernel_rfl)
instance : FnOk Try.prog 54 := fnok (by kernel_rfl)
instance : FnOk Try.prog 55 := fnok (by kernel_rfl)
end Go.Wm

/-
  The facts on types and functions of this seat's program, written by a program of the prover's own out of the dump. Conditions: none.
-/
import Derived.Test.YteimghjhiiffjaaGreatCoA
import Derived.Test.YteimghjhiiffjaaGreatProg
import Derived.KernelRfl
set_option linter.all false
namespace Go.Wm
open Go.Proofs
set_option maxRecDepth 100000
theorem tyi {P : Program} {t : TypeId} {sz bs : Nat} {z : Value} (h : (P.info? t).map (fun i => (i.size, i.bytes, i.zero)) = some (sz, bs, some z)) : TyI P t sz bs z := by
  cases e : P.info? t with
  | none => simp [e] at h
  | some i => simp only [e, Option.map_some, Option.some.injEq, Prod.mk.injEq] at h; exact ⟨i, e, h.1, h.2.1, h.2.2⟩
theorem fnok {P : Program} {f : FuncId} (h : (P.funcs[f]?).map (fun fn => (fn.name == "runtime.NumGoroutine", fn.body.isNone)) = some (false, false)) : FnOk P f := by
  cases e : P.funcs[f]? with
  | none => simp [e] at h
  | some i => simp only [e, Option.map_some, Option.some.injEq, Prod.mk.injEq] at h; exact ⟨i, e, h.1, h.2⟩
theorem fldok {P : Program} {t f off sz : Nat} {ag : Bool} {fs : Array Field} {fd : Field} {i : TypeInfo} {d : TypeDesc} (h1 : P.underlying t = some (.struct fs)) (h2 : fs[f]? = some fd) (h3 : fd.offset = off) (h4 : P.info? fd.type = some i) (h5 : i.size = sz) (h6 : P.underlying fd.type = some d) (h7 : aggD d = ag) : Fld P t f off sz ag := ⟨fs, fd, d, i, h1, h2, h3, h4, h5, h6, h7⟩
instance : Mixed Tryz.prog := ⟨by kernel_rfl⟩
instance : TyU Tryz.prog 2 (.int .i64) := ⟨Tryz.underlying2⟩
instance : TyI Tryz.prog 2 1 8 (.int .i64 (0)) := tyi (by kernel_rfl)
instance : TyU Tryz.prog 3 (.int .i64) := ⟨Tryz.underlying3⟩
instance : TyI Tryz.prog 3 1 8 (.int .i64 (0)) := tyi (by kernel_rfl)
instance : TyU Tryz.prog 4 .bool := ⟨Tryz.underlying4⟩
instance : TyI Tryz.prog 4 1 1 (.bool false) := tyi (by kernel_rfl)
instance : TyU Tryz.prog 5 (.int .u8) := ⟨Tryz.underlying5⟩
instance : TyI Tryz.prog 5 1 1 (.int .u8 (0)) := tyi (by kernel_rfl)
instance : TyU Tryz.prog 6 (.int .u8) := ⟨Tryz.underlying6⟩
instance : TyI Tryz.prog 6 1 1 (.int .u8 (0)) := tyi (by kernel_rfl)
instance : TyU Tryz.prog 9 .string := ⟨Tryz.underlying9⟩
instance : TyI Tryz.prog 9 1 16 (.string ByteArray.empty) := tyi (by kernel_rfl)
instance : TyU Tryz.prog 10 .string := ⟨Tryz.underlying10⟩
instance : TyI Tryz.prog 10 1 16 (.string ByteArray.empty) := tyi (by kernel_rfl)
instance : TyU Tryz.prog 11 .string := ⟨Tryz.underlying11⟩
instance : TyI Tryz.prog 11 1 16 (.string ByteArray.empty) := tyi (by kernel_rfl)
instance : TyU Tryz.prog 12 (.int .u64) := ⟨Tryz.underlying12⟩
instance : TyI Tryz.prog 12 1 8 (.int .u64 (0)) := tyi (by kernel_rfl)
instance : TyU Tryz.prog 15 (.pointer 190) := ⟨Tryz.underlying15⟩
instance : TyI Tryz.prog 15 1 8 (.pointer none) := tyi (by kernel_rfl)
instance : TyU Tryz.prog 16 (.pointer 193) := ⟨Tryz.underlying16⟩
instance : TyI Tryz.prog 16 1 8 (.pointer none) := tyi (by kernel_rfl)
instance : TyU Tryz.prog 17 (.pointer 202) := ⟨Tryz.underlying17⟩
instance : TyI Tryz.prog 17 1 8 (.pointer none) := tyi (by kernel_rfl)
instance : TyU Tryz.prog 21 (.int .i32) := ⟨Tryz.underlying21⟩
instance : TyI Tryz.prog 21 1 4 (.int .i32 (0)) := tyi (by kernel_rfl)
instance : TyU Tryz.prog 22 (.slice 39) := ⟨Tryz.underlying22⟩
instance : TyI Tryz.prog 22 1 24 (.slice none 0 0) := tyi (by kernel_rfl)
instance : TyU Tryz.prog 23 (.slice 41) := ⟨Tryz.underlying23⟩
instance : TyI Tryz.prog 23 1 24 (.slice none 0 0) := tyi (by kernel_rfl)
instance : TyU Tryz.prog 24 (.slice 50) := ⟨Tryz.underlying24⟩
instance : TyI Tryz.prog 24 1 24 (.slice none 0 0) := tyi (by kernel_rfl)
instance : TyU Tryz.prog 25 (.slice 77) := ⟨Tryz.underlying25⟩
instance : TyI Tryz.prog 25 1 24 (.slice none 0 0) := tyi (by kernel_rfl)
instance : TyU Tryz.prog 26 (.struct (Tryz.prog.fieldsOf 26)) := ⟨by kernel_rfl⟩
instance : TyI Tryz.prog 26 5 104 (.agg #[(.int .i64 (0)), (.slice none 0 0), (.slice none 0 0), (.slice none 0 0), (.slice none 0 0)]) := tyi (by kernel_rfl)
instance : Fld Tryz.prog 26 0 0 1 false := fldok Tryz.underlying26 rfl rfl (by kernel_rfl) (i := ((Tryz.prog.info? 3).getD default)) (by kernel_rfl) Tryz.underlying3 rfl
instance : Fld Tryz.prog 26 1 1 1 false := fldok Tryz.underlying26 rfl rfl (by kernel_rfl) (i := ((Tryz.prog.info? 22).getD default)) (by kernel_rfl) Tryz.underlying22 rfl
instance : Fld Tryz.prog 26 2 2 1 false := fldok Tryz.underlying26 rfl rfl (by kernel_rfl) (i := ((Tryz.prog.info? 23).getD default)) (by kernel_rfl) Tryz.underlying23 rfl
instance : Fld Tryz.prog 26 3 3 1 false := fldok Tryz.underlying26 rfl rfl (by kernel_rfl) (i := ((Tryz.prog.info? 24).getD default)) (by kernel_rfl) Tryz.underlying24 rfl
instance : Fld Tryz.prog 26 4 4 1 false := fldok Tryz.underlying26 rfl rfl (by kernel_rfl) (i := ((Tryz.prog.info? 25).getD default)) (by kernel_rfl) Tryz.underlying25 rfl
instance : Bld Tryz.prog 26 [(0, 1), (1, 1), (2, 1), (3, 1), (4, 1)] [(.int .i64 (0)), (.slice none 0 0), (.slice none 0 0), (.slice none 0 0), (.slice none 0 0)] := by
  refine ⟨_, ((Tryz.prog.info? 26).getD default), _, Tryz.underlying26, by kernel_rfl, (by kernel_rfl : _ = some (.agg #[(.int .i64 (0)), (.slice none 0 0), (.slice none 0 0), (.slice none 0 0), (.slice none 0 0)])), rfl, fun w => by kernel_rfl⟩
instance : TyU Tryz.prog 27 (.struct (Tryz.prog.fieldsOf 27)) := ⟨by kernel_rfl⟩
instance : TyI Tryz.prog 27 5 104 (.agg #[(.int .i64 (0)), (.slice none 0 0), (.slice none 0 0), (.slice none 0 0), (.slice none 0 0)]) := tyi (by kernel_rfl)
instance : Fld Tryz.prog 27 0 0 1 false := fldok Tryz.underlying27 rfl rfl (by kernel_rfl) (i := ((Tryz.prog.info? 3).getD default)) (by kernel_rfl) Tryz.underlying3 rfl
instance : Fld Tryz.prog 27 1 1 1 false := fldok Tryz.underlying27 rfl rfl (by kernel_rfl) (i := ((Tryz.prog.info? 22).getD default)) (by kernel_rfl) Tryz.underlying22 rfl
instance : Fld Tryz.prog 27 2 2 1 false := fldok Tryz.underlying27 rfl rfl (by kernel_rfl) (i := ((Tryz.prog.info? 23).getD default)) (by kernel_rfl) Tryz.underlying23 rfl
instance : Fld Tryz.prog 27 3 3 1 false := fldok Tryz.underlying27 rfl rfl (by kernel_rfl) (i := ((Tryz.prog.info? 24).getD default)) (by kernel_rfl) Tryz.underlying24 rfl
instance : Fld Tryz.prog 27 4 4 1 false := fldok Tryz.underlying27 rfl rfl (by kernel_rfl) (i := ((Tryz.prog.info? 25).getD default)) (by kernel_rfl) Tryz.underlying25 rfl
instance : Bld Tryz.prog 27 [(0, 1), (1, 1), (2, 1), (3, 1), (4, 1)] [(.int .i64 (0)), (.slice none 0 0), (.slice none 0 0), (.slice none 0 0), (.slice none 0 0)] := by
  refine ⟨_, ((Tryz.prog.info? 27).getD default), _, Tryz.underlying27, by kernel_rfl, (by kernel_rfl : _ = some (.agg #[(.int .i64 (0)), (.slice none 0 0), (.slice none 0 0), (.slice none 0 0), (.slice none 0 0)])), rfl, fun w => by kernel_rfl⟩
instance : TyU Tryz.prog 28 (.struct (Tryz.prog.fieldsOf 28)) := ⟨by kernel_rfl⟩
instance : TyI Tryz.prog 28 6 64 (.agg #[(.int .i64 (0)), (.string ByteArray.empty), (.string ByteArray.empty), (.int .i64 (0)), (.int .i64 (0)), (.int .i64 (0))]) := tyi (by kernel_rfl)
instance : Fld Tryz.prog 28 0 0 1 false := fldok Tryz.underlying28 rfl rfl (by kernel_rfl) (i := ((Tryz.prog.info? 3).getD default)) (by kernel_rfl) Tryz.underlying3 rfl
instance : Fld Tryz.prog 28 1 1 1 false := fldok Tryz.underlying28 rfl rfl (by kernel_rfl) (i := ((Tryz.prog.info? 9).getD default)) (by kernel_rfl) Tryz.underlying9 rfl
instance : Fld Tryz.prog 28 2 2 1 false := fldok Tryz.underlying28 rfl rfl (by kernel_rfl) (i := ((Tryz.prog.info? 9).getD default)) (by kernel_rfl) Tryz.underlying9 rfl
instance : Fld Tryz.prog 28 3 3 1 false := fldok Tryz.underlying28 rfl rfl (by kernel_rfl) (i := ((Tryz.prog.info? 3).getD default)) (by kernel_rfl) Tryz.underlying3 rfl
instance : Fld Tryz.prog 28 4 4 1 false := fldok Tryz.underlying28 rfl rfl (by kernel_rfl) (i := ((Tryz.prog.info? 3).getD default)) (by kernel_rfl) Tryz.underlying3 rfl
instance : Fld Tryz.prog 28 5 5 1 false := fldok Tryz.underlying28 rfl rfl (by kernel_rfl) (i := ((Tryz.prog.info? 3).getD default)) (by kernel_rfl) Tryz.underlying3 rfl
instance : Bld Tryz.prog 28 [(0, 1), (1, 1), (2, 1), (3, 1), (4, 1), (5, 1)] [(.int .i64 (0)), (.string ByteArray.empty), (.string ByteArray.empty), (.int .i64 (0)), (.int .i64 (0)), (.int .i64 (0))] := by
  refine ⟨_, ((Tryz.prog.info? 28).getD default), _, Tryz.underlying28, by kernel_rfl, (by kernel_rfl : _ = some (.agg #[(.int .i64 (0)), (.string ByteArray.empty), (.string ByteArray.empty), (.int .i64 (0)), (.int .i64 (0)), (.int .i64 (0))])), rfl, fun w => by kernel_rfl⟩
instance : Flat Tryz.prog 28 [(3, (.int .i64)), (9, .string), (9, .string), (3, (.int .i64)), (3, (.int .i64)), (3, (.int .i64))] := by
  refine ⟨by kernel_rfl, by kernel_rfl, by kernel_rfl, by kernel_rfl, ?_⟩
  simp only [List.forall_mem_cons]
  exact ⟨⟨Tryz.underlying3, rfl⟩, ⟨Tryz.underlying9, rfl⟩, ⟨Tryz.underlying9, rfl⟩, ⟨Tryz.underlying3, rfl⟩, ⟨Tryz.underlying3, rfl⟩, ⟨Tryz.underlying3, rfl⟩, fun x hx => by cases hx⟩
instance : TyU Tryz.prog 29 (.struct (Tryz.prog.fieldsOf 29)) := ⟨by kernel_rfl⟩
instance : TyI Tryz.prog 29 6 64 (.agg #[(.int .i64 (0)), (.string ByteArray.empty), (.string ByteArray.empty), (.int .i64 (0)), (.int .i64 (0)), (.int .i64 (0))]) := tyi (by kernel_rfl)
instance : Fld Tryz.prog 29 0 0 1 false := fldok Tryz.underlying29 rfl rfl (by kernel_rfl) (i := ((Tryz.prog.info? 3).getD default)) (by kernel_rfl) Tryz.underlying3 rfl
instance : Fld Tryz.prog 29 1 1 1 false := fldok Tryz.underlying29 rfl rfl (by kernel_rfl) (i := ((Tryz.prog.info? 9).getD default)) (by kernel_rfl) Tryz.underlying9 rfl
instance : Fld Tryz.prog 29 2 2 1 false := fldok Tryz.underlying29 rfl rfl (by kernel_rfl) (i := ((Tryz.prog.info? 9).getD default)) (by kernel_rfl) Tryz.underlying9 rfl
instance : Fld Tryz.prog 29 3 3 1 false := fldok Tryz.underlying29 rfl rfl (by kernel_rfl) (i := ((Tryz.prog.info? 3).getD default)) (by kernel_rfl) Tryz.underlying3 rfl
instance : Fld Tryz.prog 29 4 4 1 false := fldok Tryz.underlying29 rfl rfl (by kernel_rfl) (i := ((Tryz.prog.info? 3).getD default)) (by kernel_rfl) Tryz.underlying3 rfl
instance : Fld Tryz.prog 29 5 5 1 false := fldok Tryz.underlying29 rfl rfl (by kernel_rfl) (i := ((Tryz.prog.info? 3).getD default)) (by kernel_rfl) Tryz.underlying3 rfl
instance : Bld Tryz.prog 29 [(0, 1), (1, 1), (2, 1), (3, 1), (4, 1), (5, 1)] [(.int .i64 (0)), (.string ByteArray.empty), (.string ByteArray.empty), (.int .i64 (0)), (.int .i64 (0)), (.int .i64 (0))] := by
  refine ⟨_, ((Tryz.prog.info? 29).getD default), _, Tryz.underlying29, by kernel_rfl, (by kernel_rfl : _ = some (.agg #[(.int .i64 (0)), (.string ByteArray.empty), (.string ByteArray.empty), (.int .i64 (0)), (.int .i64 (0)), (.int .i64 (0))])), rfl, fun w => by kernel_rfl⟩
instance : Flat Tryz.prog 29 [(3, (.int .i64)), (9, .string), (9, .string), (3, (.int .i64)), (3, (.int .i64)), (3, (.int .i64))] := by
  refine ⟨by kernel_rfl, by kernel_rfl, by kernel_rfl, by kernel_rfl, ?_⟩
  simp only [List.forall_mem_cons]
  exact ⟨⟨Tryz.underlying3, rfl⟩, ⟨Tryz.underlying9, rfl⟩, ⟨Tryz.underlying9, rfl⟩, ⟨Tryz.underlying3, rfl⟩, ⟨Tryz.underlying3, rfl⟩, ⟨Tryz.underlying3, rfl⟩, fun x hx => by cases hx⟩
instance : TyU Tryz.prog 33 (.int .i64) := ⟨Tryz.underlying33⟩
instance : TyI Tryz.prog 33 1 8 (.int .i64 (0)) := tyi (by kernel_rfl)
instance : TyU Tryz.prog 38 (.struct (Tryz.prog.fieldsOf 38)) := ⟨by kernel_rfl⟩
instance : TyI Tryz.prog 38 4 40 (.agg #[(.string ByteArray.empty), (.int .i64 (0)), (.bool false), (.int .i64 (0))]) := tyi (by kernel_rfl)
instance : Fld Tryz.prog 38 0 0 1 false := fldok Tryz.underlying38 rfl rfl (by kernel_rfl) (i := ((Tryz.prog.info? 9).getD default)) (by kernel_rfl) Tryz.underlying9 rfl
instance : Fld Tryz.prog 38 1 1 1 false := fldok Tryz.underlying38 rfl rfl (by kernel_rfl) (i := ((Tryz.prog.info? 3).getD default)) (by kernel_rfl) Tryz.underlying3 rfl
instance : Fld Tryz.prog 38 2 2 1 false := fldok Tryz.underlying38 rfl rfl (by kernel_rfl) (i := ((Tryz.prog.info? 4).getD default)) (by kernel_rfl) Tryz.underlying4 rfl
instance : Fld Tryz.prog 38 3 3 1 false := fldok Tryz.underlying38 rfl rfl (by kernel_rfl) (i := ((Tryz.prog.info? 3).getD default)) (by kernel_rfl) Tryz.underlying3 rfl
instance : Bld Tryz.prog 38 [(0, 1), (1, 1), (2, 1), (3, 1)] [(.string ByteArray.empty), (.int .i64 (0)), (.bool false), (.int .i64 (0))] := by
  refine ⟨_, ((Tryz.prog.info? 38).getD default), _, Tryz.underlying38, by kernel_rfl, (by kernel_rfl : _ = some (.agg #[(.string ByteArray.empty), (.int .i64 (0)), (.bool false), (.int .i64 (0))])), rfl, fun w => by kernel_rfl⟩
instance : Flat Tryz.prog 38 [(9, .string), (3, (.int .i64)), (4, .bool), (3, (.int .i64))] := by
  refine ⟨by kernel_rfl, by kernel_rfl, by kernel_rfl, by kernel_rfl, ?_⟩
  simp only [List.forall_mem_cons]
  exact ⟨⟨Tryz.underlying9, rfl⟩, ⟨Tryz.underlying3, rfl⟩, ⟨Tryz.underlying4, rfl⟩, ⟨Tryz.underlying3, rfl⟩, fun x hx => by cases hx⟩
instance : TyU Tryz.prog 39 (.struct (Tryz.prog.fieldsOf 39)) := ⟨by kernel_rfl⟩
instance : TyI Tryz.prog 39 4 40 (.agg #[(.string ByteArray.empty), (.int .i64 (0)), (.bool false), (.int .i64 (0))]) := tyi (by kernel_rfl)
instance : Fld Tryz.prog 39 0 0 1 false := fldok Tryz.underlying39 rfl rfl (by kernel_rfl) (i := ((Tryz.prog.info? 9).getD default)) (by kernel_rfl) Tryz.underlying9 rfl
instance : Fld Tryz.prog 39 1 1 1 false := fldok Tryz.underlying39 rfl rfl (by kernel_rfl) (i := ((Tryz.prog.info? 3).getD default)) (by kernel_rfl) Tryz.underlying3 rfl
instance : Fld Tryz.prog 39 2 2 1 false := fldok Tryz.underlying39 rfl rfl (by kernel_rfl) (i := ((Tryz.prog.info? 4).getD default)) (by kernel_rfl) Tryz.underlying4 rfl
instance : Fld Tryz.prog 39 3 3 1 false := fldok Tryz.underlying39 rfl rfl (by kernel_rfl) (i := ((Tryz.prog.info? 3).getD default)) (by kernel_rfl) Tryz.underlying3 rfl
instance : Bld Tryz.prog 39 [(0, 1), (1, 1), (2, 1), (3, 1)] [(.string ByteArray.empty), (.int .i64 (0)), (.bool false), (.int .i64 (0))] := by
  refine ⟨_, ((Tryz.prog.info? 39).getD default), _, Tryz.underlying39, by kernel_rfl, (by kernel_rfl : _ = some (.agg #[(.string ByteArray.empty), (.int .i64 (0)), (.bool false), (.int .i64 (0))])), rfl, fun w => by kernel_rfl⟩
instance : Flat Tryz.prog 39 [(9, .string), (3, (.int .i64)), (4, .bool), (3, (.int .i64))] := by
  refine ⟨by kernel_rfl, by kernel_rfl, by kernel_rfl, by kernel_rfl, ?_⟩
  simp only [List.forall_mem_cons]
  exact ⟨⟨Tryz.underlying9, rfl⟩, ⟨Tryz.underlying3, rfl⟩, ⟨Tryz.underlying4, rfl⟩, ⟨Tryz.underlying3, rfl⟩, fun x hx => by cases hx⟩
instance : TyU Tryz.prog 40 (.struct (Tryz.prog.fieldsOf 40)) := ⟨by kernel_rfl⟩
instance : TyI Tryz.prog 40 3 40 (.agg #[(.string ByteArray.empty), (.string ByteArray.empty), (.int .i64 (0))]) := tyi (by kernel_rfl)
instance : Fld Tryz.prog 40 0 0 1 false := fldok Tryz.underlying40 rfl rfl (by kernel_rfl) (i := ((Tryz.prog.info? 9).getD default)) (by kernel_rfl) Tryz.underlying9 rfl
instance : Fld Tryz.prog 40 1 1 1 false := fldok Tryz.underlying40 rfl rfl (by kernel_rfl) (i := ((Tryz.prog.info? 9).getD default)) (by kernel_rfl) Tryz.underlying9 rfl
instance : Fld Tryz.prog 40 2 2 1 false := fldok Tryz.underlying40 rfl rfl (by kernel_rfl) (i := ((Tryz.prog.info? 3).getD default)) (by kernel_rfl) Tryz.underlying3 rfl
instance : Bld Tryz.prog 40 [(0, 1), (1, 1), (2, 1)] [(.string ByteArray.empty), (.string ByteArray.empty), (.int .i64 (0))] := by
  refine ⟨_, ((Tryz.prog.info? 40).getD default), _, Tryz.underlying40, by kernel_rfl, (by kernel_rfl : _ = some (.agg #[(.string ByteArray.empty), (.string ByteArray.empty), (.int .i64 (0))])), rfl, fun w => by kernel_rfl⟩
instance : Flat Tryz.prog 40 [(9, .string), (9, .string), (3, (.int .i64))] := by
  refine ⟨by kernel_rfl, by kernel_rfl, by kernel_rfl, by kernel_rfl, ?_⟩
  simp only [List.forall_mem_cons]
  exact ⟨⟨Tryz.underlying9, rfl⟩, ⟨Tryz.underlying9, rfl⟩, ⟨Tryz.underlying3, rfl⟩, fun x hx => by cases hx⟩
instance : TyU Tryz.prog 41 (.struct (Tryz.prog.fieldsOf 41)) := ⟨by kernel_rfl⟩
instance : TyI Tryz.prog 41 3 40 (.agg #[(.string ByteArray.empty), (.string ByteArray.empty), (.int .i64 (0))]) := tyi (by kernel_rfl)
instance : Fld Tryz.prog 41 0 0 1 false := fldok Tryz.underlying41 rfl rfl (by kernel_rfl) (i := ((Tryz.prog.info? 9).getD default)) (by kernel_rfl) Tryz.underlying9 rfl
instance : Fld Tryz.prog 41 1 1 1 false := fldok Tryz.underlying41 rfl rfl (by kernel_rfl) (i := ((Tryz.prog.info? 9).getD default)) (by kernel_rfl) Tryz.underlying9 rfl
instance : Fld Tryz.prog 41 2 2 1 false := fldok Tryz.underlying41 rfl rfl (by kernel_rfl) (i := ((Tryz.prog.info? 3).getD default)) (by kernel_rfl) Tryz.underlying3 rfl
instance : Bld Tryz.prog 41 [(0, 1), (1, 1), (2, 1)] [(.string ByteArray.empty), (.string ByteArray.empty), (.int .i64 (0))] := by
  refine ⟨_, ((Tryz.prog.info? 41).getD default), _, Tryz.underlying41, by kernel_rfl, (by kernel_rfl : _ = some (.agg #[(.string ByteArray.empty), (.string ByteArray.empty), (.int .i64 (0))])), rfl, fun w => by kernel_rfl⟩
instance : Flat Tryz.prog 41 [(9, .string), (9, .string), (3, (.int .i64))] := by
  refine ⟨by kernel_rfl, by kernel_rfl, by kernel_rfl, by kernel_rfl, ?_⟩
  simp only [List.forall_mem_cons]
  exact ⟨⟨Tryz.underlying9, rfl⟩, ⟨Tryz.underlying9, rfl⟩, ⟨Tryz.underlying3, rfl⟩, fun x hx => by cases hx⟩
instance : TyU Tryz.prog 43 (.slice 29) := ⟨Tryz.underlying43⟩
instance : TyI Tryz.prog 43 1 24 (.slice none 0 0) := tyi (by kernel_rfl)
instance : TyU Tryz.prog 49 (.struct (Tryz.prog.fieldsOf 49)) := ⟨by kernel_rfl⟩
instance : TyI Tryz.prog 49 3 32 (.agg #[(.string ByteArray.empty), (.int .i64 (0)), (.int .i64 (0))]) := tyi (by kernel_rfl)
instance : Fld Tryz.prog 49 0 0 1 false := fldok Tryz.underlying49 rfl rfl (by kernel_rfl) (i := ((Tryz.prog.info? 9).getD default)) (by kernel_rfl) Tryz.underlying9 rfl
instance : Fld Tryz.prog 49 1 1 1 false := fldok Tryz.underlying49 rfl rfl (by kernel_rfl) (i := ((Tryz.prog.info? 3).getD default)) (by kernel_rfl) Tryz.underlying3 rfl
instance : Fld Tryz.prog 49 2 2 1 false := fldok Tryz.underlying49 rfl rfl (by kernel_rfl) (i := ((Tryz.prog.info? 3).getD default)) (by kernel_rfl) Tryz.underlying3 rfl
instance : Bld Tryz.prog 49 [(0, 1), (1, 1), (2, 1)] [(.string ByteArray.empty), (.int .i64 (0)), (.int .i64 (0))] := by
  refine ⟨_, ((Tryz.prog.info? 49).getD default), _, Tryz.underlying49, by kernel_rfl, (by kernel_rfl : _ = some (.agg #[(.string ByteArray.empty), (.int .i64 (0)), (.int .i64 (0))])), rfl, fun w => by kernel_rfl⟩
instance : Flat Tryz.prog 49 [(9, .string), (3, (.int .i64)), (3, (.int .i64))] := by
  refine ⟨by kernel_rfl, by kernel_rfl, by kernel_rfl, by kernel_rfl, ?_⟩
  simp only [List.forall_mem_cons]
  exact ⟨⟨Tryz.underlying9, rfl⟩, ⟨Tryz.underlying3, rfl⟩, ⟨Tryz.underlying3, rfl⟩, fun x hx => by cases hx⟩
instance : TyU Tryz.prog 50 (.struct (Tryz.prog.fieldsOf 50)) := ⟨by kernel_rfl⟩
instance : TyI Tryz.prog 50 3 32 (.agg #[(.string ByteArray.empty), (.int .i64 (0)), (.int .i64 (0))]) := tyi (by kernel_rfl)
instance : Fld Tryz.prog 50 0 0 1 false := fldok Tryz.underlying50 rfl rfl (by kernel_rfl) (i := ((Tryz.prog.info? 9).getD default)) (by kernel_rfl) Tryz.underlying9 rfl
instance : Fld Tryz.prog 50 1 1 1 false := fldok Tryz.underlying50 rfl rfl (by kernel_rfl) (i := ((Tryz.prog.info? 3).getD default)) (by kernel_rfl) Tryz.underlying3 rfl
instance : Fld Tryz.prog 50 2 2 1 false := fldok Tryz.underlying50 rfl rfl (by kernel_rfl) (i := ((Tryz.prog.info? 3).getD default)) (by kernel_rfl) Tryz.underlying3 rfl
instance : Bld Tryz.prog 50 [(0, 1), (1, 1), (2, 1)] [(.string ByteArray.empty), (.int .i64 (0)), (.int .i64 (0))] := by
  refine ⟨_, ((Tryz.prog.info? 50).getD default), _, Tryz.underlying50, by kernel_rfl, (by kernel_rfl : _ = some (.agg #[(.string ByteArray.empty), (.int .i64 (0)), (.int .i64 (0))])), rfl, fun w => by kernel_rfl⟩
instance : Flat Tryz.prog 50 [(9, .string), (3, (.int .i64)), (3, (.int .i64))] := by
  refine ⟨by kernel_rfl, by kernel_rfl, by kernel_rfl, by kernel_rfl, ?_⟩
  simp only [List.forall_mem_cons]
  exact ⟨⟨Tryz.underlying9, rfl⟩, ⟨Tryz.underlying3, rfl⟩, ⟨Tryz.underlying3, rfl⟩, fun x hx => by cases hx⟩
instance : TyU Tryz.prog 56 (.slice 5) := ⟨Tryz.underlying56⟩
instance : TyI Tryz.prog 56 1 24 (.slice none 0 0) := tyi (by kernel_rfl)
instance : TyU Tryz.prog 68 (.slice 3) := ⟨Tryz.underlying68⟩
instance : TyI Tryz.prog 68 1 24 (.slice none 0 0) := tyi (by kernel_rfl)
instance : TyU Tryz.prog 69 (.slice 27) := ⟨Tryz.underlying69⟩
instance : TyI Tryz.prog 69 1 24 (.slice none 0 0) := tyi (by kernel_rfl)
instance : TyU Tryz.prog 76 (.struct (Tryz.prog.fieldsOf 76)) := ⟨by kernel_rfl⟩
instance : TyI Tryz.prog 76 3 32 (.agg #[(.int .i64 (0)), (.int .i64 (0)), (.string ByteArray.empty)]) := tyi (by kernel_rfl)
instance : Fld Tryz.prog 76 0 0 1 false := fldok Tryz.underlying76 rfl rfl (by kernel_rfl) (i := ((Tryz.prog.info? 3).getD default)) (by kernel_rfl) Tryz.underlying3 rfl
instance : Fld Tryz.prog 76 1 1 1 false := fldok Tryz.underlying76 rfl rfl (by kernel_rfl) (i := ((Tryz.prog.info? 3).getD default)) (by kernel_rfl) Tryz.underlying3 rfl
instance : Fld Tryz.prog 76 2 2 1 false := fldok Tryz.underlying76 rfl rfl (by kernel_rfl) (i := ((Tryz.prog.info? 9).getD default)) (by kernel_rfl) Tryz.underlying9 rfl
instance : Bld Tryz.prog 76 [(0, 1), (1, 1), (2, 1)] [(.int .i64 (0)), (.int .i64 (0)), (.string ByteArray.empty)] := by
  refine ⟨_, ((Tryz.prog.info? 76).getD default), _, Tryz.underlying76, by kernel_rfl, (by kernel_rfl : _ = some (.agg #[(.int .i64 (0)), (.int .i64 (0)), (.string ByteArray.empty)])), rfl, fun w => by kernel_rfl⟩
instance : Flat Tryz.prog 76 [(3, (.int .i64)), (3, (.int .i64)), (9, .string)] := by
  refine ⟨by kernel_rfl, by kernel_rfl, by kernel_rfl, by kernel_rfl, ?_⟩
  simp only [List.forall_mem_cons]
  exact ⟨⟨Tryz.underlying3, rfl⟩, ⟨Tryz.underlying3, rfl⟩, ⟨Tryz.underlying9, rfl⟩, fun x hx => by cases hx⟩
instance : TyU Tryz.prog 77 (.struct (Tryz.prog.fieldsOf 77)) := ⟨by kernel_rfl⟩
instance : TyI Tryz.prog 77 3 32 (.agg #[(.int .i64 (0)), (.int .i64 (0)), (.string ByteArray.empty)]) := tyi (by kernel_rfl)
instance : Fld Tryz.prog 77 0 0 1 false := fldok Tryz.underlying77 rfl rfl (by kernel_rfl) (i := ((Tryz.prog.info? 3).getD default)) (by kernel_rfl) Tryz.underlying3 rfl
instance : Fld Tryz.prog 77 1 1 1 false := fldok Tryz.underlying77 rfl rfl (by kernel_rfl) (i := ((Tryz.prog.info? 3).getD default)) (by kernel_rfl) Tryz.underlying3 rfl
instance : Fld Tryz.prog 77 2 2 1 false := fldok Tryz.underlying77 rfl rfl (by kernel_rfl) (i := ((Tryz.prog.info? 9).getD default)) (by kernel_rfl) Tryz.underlying9 rfl
instance : Bld Tryz.prog 77 [(0, 1), (1, 1), (2, 1)] [(.int .i64 (0)), (.int .i64 (0)), (.string ByteArray.empty)] := by
  refine ⟨_, ((Tryz.prog.info? 77).getD default), _, Tryz.underlying77, by kernel_rfl, (by kernel_rfl : _ = some (.agg #[(.int .i64 (0)), (.int .i64 (0)), (.string ByteArray.empty)])), rfl, fun w => by kernel_rfl⟩
instance : Flat Tryz.prog 77 [(3, (.int .i64)), (3, (.int .i64)), (9, .string)] := by
  refine ⟨by kernel_rfl, by kernel_rfl, by kernel_rfl, by kernel_rfl, ?_⟩
  simp only [List.forall_mem_cons]
  exact ⟨⟨Tryz.underlying3, rfl⟩, ⟨Tryz.underlying3, rfl⟩, ⟨Tryz.underlying9, rfl⟩, fun x hx => by cases hx⟩
instance : TyU Tryz.prog 79 (.map 3 78) := ⟨Tryz.underlying79⟩
instance : TyI Tryz.prog 79 1 8 (.map none) := tyi (by kernel_rfl)
instance : TyU Tryz.prog 81 (.pointer 27) := ⟨Tryz.underlying81⟩
instance : TyI Tryz.prog 81 1 8 (.pointer none) := tyi (by kernel_rfl)
instance : TyU Tryz.prog 102 (.array 2 9) := ⟨Tryz.underlying102⟩
instance : TyI Tryz.prog 102 2 32 (.agg #[(.string ByteArray.empty), (.string ByteArray.empty)]) := tyi (by kernel_rfl)
instance : TyU Tryz.prog 104 (.slice 9) := ⟨Tryz.underlying104⟩
instance : TyI Tryz.prog 104 1 24 (.slice none 0 0) := tyi (by kernel_rfl)
instance : TyU Tryz.prog 105 (.array 3 4) := ⟨Tryz.underlying105⟩
instance : TyI Tryz.prog 105 3 3 (.agg #[(.bool false), (.bool false), (.bool false)]) := tyi (by kernel_rfl)
instance : TyU Tryz.prog 109 (.int .u64) := ⟨Tryz.underlying109⟩
instance : TyI Tryz.prog 109 1 8 (.int .u64 (0)) := tyi (by kernel_rfl)
instance : TyU Tryz.prog 111 (.array 3 3) := ⟨Tryz.underlying111⟩
instance : TyI Tryz.prog 111 3 24 (.agg #[(.int .i64 (0)), (.int .i64 (0)), (.int .i64 (0))]) := tyi (by kernel_rfl)
instance : TyU Tryz.prog 119 (.struct (Tryz.prog.fieldsOf 119)) := ⟨by kernel_rfl⟩
instance : TyI Tryz.prog 119 5 5 (.agg #[(.bool false), (.bool false), (.bool false), (.bool false), (.bool false)]) := tyi (by kernel_rfl)
instance : Fld Tryz.prog 119 0 0 1 false := fldok Tryz.underlying119 rfl rfl (by kernel_rfl) (i := ((Tryz.prog.info? 4).getD default)) (by kernel_rfl) Tryz.underlying4 rfl
instance : Fld Tryz.prog 119 1 1 1 false := fldok Tryz.underlying119 rfl rfl (by kernel_rfl) (i := ((Tryz.prog.info? 4).getD default)) (by kernel_rfl) Tryz.underlying4 rfl
instance : Fld Tryz.prog 119 2 2 1 false := fldok Tryz.underlying119 rfl rfl (by kernel_rfl) (i := ((Tryz.prog.info? 4).getD default)) (by kernel_rfl) Tryz.underlying4 rfl
instance : Fld Tryz.prog 119 3 3 1 false := fldok Tryz.underlying119 rfl rfl (by kernel_rfl) (i := ((Tryz.prog.info? 4).getD default)) (by kernel_rfl) Tryz.underlying4 rfl
instance : Fld Tryz.prog 119 4 4 1 false := fldok Tryz.underlying119 rfl rfl (by kernel_rfl) (i := ((Tryz.prog.info? 4).getD default)) (by kernel_rfl) Tryz.underlying4 rfl
instance : Bld Tryz.prog 119 [(0, 1), (1, 1), (2, 1), (3, 1), (4, 1)] [(.bool false), (.bool false), (.bool false), (.bool false), (.bool false)] := by
  refine ⟨_, ((Tryz.prog.info? 119).getD default), _, Tryz.underlying119, by kernel_rfl, (by kernel_rfl : _ = some (.agg #[(.bool false), (.bool false), (.bool false), (.bool false), (.bool false)])), rfl, fun w => by kernel_rfl⟩
instance : Flat Tryz.prog 119 [(4, .bool), (4, .bool), (4, .bool), (4, .bool), (4, .bool)] := by
  refine ⟨by kernel_rfl, by kernel_rfl, by kernel_rfl, by kernel_rfl, ?_⟩
  simp only [List.forall_mem_cons]
  exact ⟨⟨Tryz.underlying4, rfl⟩, ⟨Tryz.underlying4, rfl⟩, ⟨Tryz.underlying4, rfl⟩, ⟨Tryz.underlying4, rfl⟩, ⟨Tryz.underlying4, rfl⟩, fun x hx => by cases hx⟩
instance : TyU Tryz.prog 120 (.struct (Tryz.prog.fieldsOf 120)) := ⟨by kernel_rfl⟩
instance : TyI Tryz.prog 120 5 5 (.agg #[(.bool false), (.bool false), (.bool false), (.bool false), (.bool false)]) := tyi (by kernel_rfl)
instance : Fld Tryz.prog 120 0 0 1 false := fldok Tryz.underlying120 rfl rfl (by kernel_rfl) (i := ((Tryz.prog.info? 4).getD default)) (by kernel_rfl) Tryz.underlying4 rfl
instance : Fld Tryz.prog 120 1 1 1 false := fldok Tryz.underlying120 rfl rfl (by kernel_rfl) (i := ((Tryz.prog.info? 4).getD default)) (by kernel_rfl) Tryz.underlying4 rfl
instance : Fld Tryz.prog 120 2 2 1 false := fldok Tryz.underlying120 rfl rfl (by kernel_rfl) (i := ((Tryz.prog.info? 4).getD default)) (by kernel_rfl) Tryz.underlying4 rfl
instance : Fld Tryz.prog 120 3 3 1 false := fldok Tryz.underlying120 rfl rfl (by kernel_rfl) (i := ((Tryz.prog.info? 4).getD default)) (by kernel_rfl) Tryz.underlying4 rfl
instance : Fld Tryz.prog 120 4 4 1 false := fldok Tryz.underlying120 rfl rfl (by kernel_rfl) (i := ((Tryz.prog.info? 4).getD default)) (by kernel_rfl) Tryz.underlying4 rfl
instance : Bld Tryz.prog 120 [(0, 1), (1, 1), (2, 1), (3, 1), (4, 1)] [(.bool false), (.bool false), (.bool false), (.bool false), (.bool false)] := by
  refine ⟨_, ((Tryz.prog.info? 120).getD default), _, Tryz.underlying120, by kernel_rfl, (by kernel_rfl : _ = some (.agg #[(.bool false), (.bool false), (.bool false), (.bool false), (.bool false)])), rfl, fun w => by kernel_rfl⟩
instance : Flat Tryz.prog 120 [(4, .bool), (4, .bool), (4, .bool), (4, .bool), (4, .bool)] := by
  refine ⟨by kernel_rfl, by kernel_rfl, by kernel_rfl, by kernel_rfl, ?_⟩
  simp only [List.forall_mem_cons]
  exact ⟨⟨Tryz.underlying4, rfl⟩, ⟨Tryz.underlying4, rfl⟩, ⟨Tryz.underlying4, rfl⟩, ⟨Tryz.underlying4, rfl⟩, ⟨Tryz.underlying4, rfl⟩, fun x hx => by cases hx⟩
instance : TyU Tryz.prog 142 (.int .u64) := ⟨Tryz.underlying142⟩
instance : TyI Tryz.prog 142 1 8 (.int .u64 (0)) := tyi (by kernel_rfl)
instance : TyU Tryz.prog 144 (.int .u32) := ⟨Tryz.underlying144⟩
instance : TyI Tryz.prog 144 1 4 (.int .u32 (0)) := tyi (by kernel_rfl)
instance : TyU Tryz.prog 146 (.slice 56) := ⟨Tryz.underlying146⟩
instance : TyI Tryz.prog 146 1 24 (.slice none 0 0) := tyi (by kernel_rfl)
instance : TyU Tryz.prog 148 (.pointer 9) := ⟨Tryz.underlying148⟩
instance : TyI Tryz.prog 148 1 8 (.pointer none) := tyi (by kernel_rfl)
instance : TyU Tryz.prog 149 (.array 2 148) := ⟨Tryz.underlying149⟩
instance : TyI Tryz.prog 149 2 16 (.agg #[(.pointer none), (.pointer none)]) := tyi (by kernel_rfl)
instance : TyU Tryz.prog 152 (.pointer 3) := ⟨Tryz.underlying152⟩
instance : TyI Tryz.prog 152 1 8 (.pointer none) := tyi (by kernel_rfl)
instance : TyU Tryz.prog 153 (.array 3 152) := ⟨Tryz.underlying153⟩
instance : TyI Tryz.prog 153 3 24 (.agg #[(.pointer none), (.pointer none), (.pointer none)]) := tyi (by kernel_rfl)
instance : TyU Tryz.prog 182 (.array 16 144) := ⟨Tryz.underlying182⟩
instance : TyI Tryz.prog 182 16 64 (.agg #[(.int .u32 (0)), (.int .u32 (0)), (.int .u32 (0)), (.int .u32 (0)), (.int .u32 (0)), (.int .u32 (0)), (.int .u32 (0)), (.int .u32 (0)), (.int .u32 (0)), (.int .u32 (0)), (.int .u32 (0)), (.int .u32 (0)), (.int .u32 (0)), (.int .u32 (0)), (.int .u32 (0)), (.int .u32 (0))]) := tyi (by kernel_rfl)
instance : TyU Tryz.prog 191 (.array 0 16) := ⟨Tryz.underlying191⟩
instance : TyI Tryz.prog 191 0 0 (.agg #[]) := tyi (by kernel_rfl)
instance : TyU Tryz.prog 195 (.int .u8) := ⟨Tryz.underlying195⟩
instance : TyI Tryz.prog 195 1 1 (.int .u8 (0)) := tyi (by kernel_rfl)
instance : TyU Tryz.prog 196 (.int .u8) := ⟨Tryz.underlying196⟩
instance : TyI Tryz.prog 196 1 1 (.int .u8 (0)) := tyi (by kernel_rfl)
instance : TyU Tryz.prog 198 (.pointer 5) := ⟨Tryz.underlying198⟩
instance : TyI Tryz.prog 198 1 8 (.pointer none) := tyi (by kernel_rfl)
instance : TyU Tryz.prog 199 (.int .i32) := ⟨Tryz.underlying199⟩
instance : TyI Tryz.prog 199 1 4 (.int .i32 (0)) := tyi (by kernel_rfl)
instance : TyU Tryz.prog 200 (.int .i32) := ⟨Tryz.underlying200⟩
instance : TyI Tryz.prog 200 1 4 (.int .i32 (0)) := tyi (by kernel_rfl)
instance : TyU Tryz.prog 201 (.struct (Tryz.prog.fieldsOf 201)) := ⟨by kernel_rfl⟩
instance : TyI Tryz.prog 201 11 48 (.agg #[(.int .u64 (0)), (.int .u64 (0)), (.int .u32 (0)), (.int .u8 (0)), (.int .u8 (0)), (.int .u8 (0)), (.int .u8 (0)), .nilFunc, (.pointer none), (.int .i32 (0)), (.int .i32 (0))]) := tyi (by kernel_rfl)
instance : Fld Tryz.prog 201 0 0 1 false := fldok Tryz.underlying201 rfl rfl (by kernel_rfl) (i := ((Tryz.prog.info? 12).getD default)) (by kernel_rfl) Tryz.underlying12 rfl
instance : Fld Tryz.prog 201 1 1 1 false := fldok Tryz.underlying201 rfl rfl (by kernel_rfl) (i := ((Tryz.prog.info? 12).getD default)) (by kernel_rfl) Tryz.underlying12 rfl
instance : Fld Tryz.prog 201 2 2 1 false := fldok Tryz.underlying201 rfl rfl (by kernel_rfl) (i := ((Tryz.prog.info? 144).getD default)) (by kernel_rfl) Tryz.underlying144 rfl
instance : Fld Tryz.prog 201 3 3 1 false := fldok Tryz.underlying201 rfl rfl (by kernel_rfl) (i := ((Tryz.prog.info? 195).getD default)) (by kernel_rfl) Tryz.underlying195 rfl
instance : Fld Tryz.prog 201 4 4 1 false := fldok Tryz.underlying201 rfl rfl (by kernel_rfl) (i := ((Tryz.prog.info? 5).getD default)) (by kernel_rfl) Tryz.underlying5 rfl
instance : Fld Tryz.prog 201 5 5 1 false := fldok Tryz.underlying201 rfl rfl (by kernel_rfl) (i := ((Tryz.prog.info? 5).getD default)) (by kernel_rfl) Tryz.underlying5 rfl
instance : Fld Tryz.prog 201 6 6 1 false := fldok Tryz.underlying201 rfl rfl (by kernel_rfl) (i := ((Tryz.prog.info? 196).getD default)) (by kernel_rfl) Tryz.underlying196 rfl
instance : Fld Tryz.prog 201 8 8 1 false := fldok Tryz.underlying201 rfl rfl (by kernel_rfl) (i := ((Tryz.prog.info? 198).getD default)) (by kernel_rfl) Tryz.underlying198 rfl
instance : Fld Tryz.prog 201 9 9 1 false := fldok Tryz.underlying201 rfl rfl (by kernel_rfl) (i := ((Tryz.prog.info? 199).getD default)) (by kernel_rfl) Tryz.underlying199 rfl
instance : Fld Tryz.prog 201 10 10 1 false := fldok Tryz.underlying201 rfl rfl (by kernel_rfl) (i := ((Tryz.prog.info? 200).getD default)) (by kernel_rfl) Tryz.underlying200 rfl
instance : TyU Tryz.prog 202 (.struct (Tryz.prog.fieldsOf 202)) := ⟨by kernel_rfl⟩
instance : TyI Tryz.prog 202 11 48 (.agg #[(.int .u64 (0)), (.int .u64 (0)), (.int .u32 (0)), (.int .u8 (0)), (.int .u8 (0)), (.int .u8 (0)), (.int .u8 (0)), .nilFunc, (.pointer none), (.int .i32 (0)), (.int .i32 (0))]) := tyi (by kernel_rfl)
instance : Fld Tryz.prog 202 0 0 1 false := fldok Tryz.underlying202 rfl rfl (by kernel_rfl) (i := ((Tryz.prog.info? 12).getD default)) (by kernel_rfl) Tryz.underlying12 rfl
instance : Fld Tryz.prog 202 1 1 1 false := fldok Tryz.underlying202 rfl rfl (by kernel_rfl) (i := ((Tryz.prog.info? 12).getD default)) (by kernel_rfl) Tryz.underlying12 rfl
instance : Fld Tryz.prog 202 2 2 1 false := fldok Tryz.underlying202 rfl rfl (by kernel_rfl) (i := ((Tryz.prog.info? 144).getD default)) (by kernel_rfl) Tryz.underlying144 rfl
instance : Fld Tryz.prog 202 3 3 1 false := fldok Tryz.underlying202 rfl rfl (by kernel_rfl) (i := ((Tryz.prog.info? 195).getD default)) (by kernel_rfl) Tryz.underlying195 rfl
instance : Fld Tryz.prog 202 4 4 1 false := fldok Tryz.underlying202 rfl rfl (by kernel_rfl) (i := ((Tryz.prog.info? 5).getD default)) (by kernel_rfl) Tryz.underlying5 rfl
instance : Fld Tryz.prog 202 5 5 1 false := fldok Tryz.underlying202 rfl rfl (by kernel_rfl) (i := ((Tryz.prog.info? 5).getD default)) (by kernel_rfl) Tryz.underlying5 rfl
instance : Fld Tryz.prog 202 6 6 1 false := fldok Tryz.underlying202 rfl rfl (by kernel_rfl) (i := ((Tryz.prog.info? 196).getD default)) (by kernel_rfl) Tryz.underlying196 rfl
instance : Fld Tryz.prog 202 8 8 1 false := fldok Tryz.underlying202 rfl rfl (by kernel_rfl) (i := ((Tryz.prog.info? 198).getD default)) (by kernel_rfl) Tryz.underlying198 rfl
instance : Fld Tryz.prog 202 9 9 1 false := fldok Tryz.underlying202 rfl rfl (by kernel_rfl) (i := ((Tryz.prog.info? 199).getD default)) (by kernel_rfl) Tryz.underlying199 rfl
instance : Fld Tryz.prog 202 10 10 1 false := fldok Tryz.underlying202 rfl rfl (by kernel_rfl) (i := ((Tryz.prog.info? 200).getD default)) (by kernel_rfl) Tryz.underlying200 rfl
instance : FnOk Tryz.prog 3 := fnok (by kernel_rfl)
instance : FnOk Tryz.prog 4 := fnok (by kernel_rfl)
instance : FnOk Tryz.prog 5 := fnok (by kernel_rfl)
instance : FnOk Tryz.prog 6 := fnok (by kernel_rfl)
instance : FnOk Tryz.prog 7 := fnok (by kernel_rfl)
instance : FnOk Tryz.prog 8 := fnok (by kernel_rfl)
instance : FnOk Tryz.prog 9 := fnok (by kernel_rfl)
instance : FnOk Tryz.prog 10 := fnok (by kernel_rfl)
instance : FnOk Tryz.prog 11 := fnok (by kernel_rfl)
instance : FnOk Tryz.prog 12 := fnok (by kernel_rfl)
instance : FnOk Tryz.prog 13 := fnok (by kernel_rfl)
instance : FnOk Tryz.prog 14 := fnok (by kernel_rfl)
instance : FnOk Tryz.prog 15 := fnok (by kernel_rfl)
instance : FnOk Tryz.prog 16 := fnok (by kernel_rfl)
instance : FnOk Tryz.prog 17 := fnok (by kernel_rfl)
instance : FnOk Tryz.prog 18 := fnok (by kernel_rfl)
instance : FnOk Tryz.prog 19 := fnok (by kernel_rfl)
instance : FnOk Tryz.prog 20 := fnok (by kernel_rfl)
instance : FnOk Tryz.prog 21 := fnok (by kernel_rfl)
instance : FnOk Tryz.prog 22 := fnok (by kernel_rfl)
instance : FnOk Tryz.prog 23 := fnok (by kernel_rfl)
instance : FnOk Tryz.prog 24 := fnok (by kernel_rfl)
instance : FnOk Tryz.prog 25 := fnok (by kernel_rfl)
instance : FnOk Tryz.prog 26 := fnok (by kernel_rfl)
instance : FnOk Tryz.prog 27 := fnok (by kernel_rfl)
instance : FnOk Tryz.prog 28 := fnok (by kernel_rfl)
instance : FnOk Tryz.prog 29 := fnok (by kernel_rfl)
instance : FnOk Tryz.prog 30 := fnok (by kernel_rfl)
instance : FnOk Tryz.prog 31 := fnok (by kernel_rfl)
instance : FnOk Tryz.prog 32 := fnok (by kernel_rfl)
instance : FnOk Tryz.prog 33 := fnok (by kernel_rfl)
instance : FnOk Tryz.prog 34 := fnok (by kernel_rfl)
instance : FnOk Tryz.prog 35 := fnok (by kernel_rfl)
instance : FnOk Tryz.prog 36 := fnok (by kernel_rfl)
instance : FnOk Tryz.prog 37 := fnok (by kernel_rfl)
instance : FnOk Tryz.prog 38 := fnok (by kernel_rfl)
instance : FnOk Tryz.prog 39 := fnok (by kernel_rfl)
instance : FnOk Tryz.prog 40 := fnok (by kernel_rfl)
instance : FnOk Tryz.prog 41 := fnok (by kernel_rfl)
instance : FnOk Tryz.prog 42 := fnok (by kernel_rfl)
instance : FnOk Tryz.prog 43 := fnok (by kernel_rfl)
instance : FnOk Tryz.prog 44 := fnok (by kernel_rfl)
instance : FnOk Tryz.prog 45 := fnok (by kernel_rfl)
instance : FnOk Tryz.prog 46 := fnok (by kernel_rfl)
instance : FnOk Tryz.prog 47 := fnok (by kernel_rfl)
instance : FnOk Tryz.prog 48 := fnok (by kernel_rfl)
instance : FnOk Tryz.prog 49 := fnok (by kernel_rfl)
instance : FnOk Tryz.prog 50 := fnok (by kernel_rfl)
instance : FnOk Tryz.prog 51 := fnok (by kernel_rfl)
instance : FnOk Tryz.prog 52 := fnok (by kernel_rfl)
instance : FnOk Tryz.prog 53 := fnok (by kernel_rfl)
instance : FnOk Tryz.prog 54 := fnok (by kernel_rfl)
instance : FnOk Tryz.prog 55 := fnok (by kernel_rfl)
instance : FnOk Tryz.prog 56 := fnok (by kernel_rfl)
instance : FnOk Tryz.prog 57 := fnok (by kernel_rfl)
instance : FnOk Tryz.prog 58 := fnok (by kernel_rfl)
instance : FnOk Tryz.prog 59 := fnok (by kernel_rfl)
instance : FnOk Tryz.prog 60 := fnok (by kernel_rfl)
instance : FnOk Tryz.prog 61 := fnok (by kernel_rfl)
instance : FnOk Tryz.prog 62 := fnok (by kernel_rfl)
instance : FnOk Tryz.prog 63 := fnok (by kernel_rfl)
instance : FnOk Tryz.prog 64 := fnok (by kernel_rfl)
instance : FnOk Tryz.prog 65 := fnok (by kernel_rfl)
instance : FnOk Tryz.prog 66 := fnok (by kernel_rfl)
instance : FnOk Tryz.prog 67 := fnok (by kernel_rfl)
instance : FnOk Tryz.prog 68 := fnok (by kernel_rfl)
instance : FnOk Tryz.prog 69 := fnok (by kernel_rfl)
instance : FnOk Tryz.prog 70 := fnok (by kernel_rfl)
instance : FnOk Tryz.prog 71 := fnok (by kernel_rfl)
instance : FnOk Tryz.prog 72 := fnok (by kernel_rfl)
instance : FnOk Tryz.prog 73 := fnok (by kernel_rfl)
instance : FnOk Tryz.prog 74 := fnok (by kernel_rfl)
instance : FnOk Tryz.prog 75 := fnok (by kernel_rfl)
instance : FnOk Tryz.prog 76 := fnok (by kernel_rfl)
instance : FnOk Tryz.prog 77 := fnok (by kernel_rfl)
instance : FnOk Tryz.prog 78 := fnok (by kernel_rfl)
instance : FnOk Tryz.prog 79 := fnok (by kernel_rfl)
instance : FnOk Tryz.prog 80 := fnok (by kernel_rfl)
instance : FnOk Tryz.prog 81 := fnok (by kernel_rfl)
instance : FnOk Tryz.prog 82 := fnok (by kernel_rfl)
instance : FnOk Tryz.prog 83 := fnok (by kernel_rfl)
instance : FnOk Tryz.prog 84 := fnok (by kernel_rfl)
instance : FnOk Tryz.prog 85 := fnok (by kernel_rfl)
instance : FnOk Tryz.prog 86 := fnok (by kernel_rfl)
instance : FnOk Tryz.prog 87 := fnok (by kernel_rfl)
instance : FnOk Tryz.prog 88 := fnok (by kernel_rfl)
instance : FnOk Tryz.prog 89 := fnok (by kernel_rfl)
instance : FnOk Tryz.prog 90 := fnok (by kernel_rfl)
instance : FnOk Tryz.prog 91 := fnok (by kernel_rfl)
instance : FnOk Tryz.prog 92 := fnok (by kernel_rfl)
instance : FnOk Tryz.prog 93 := fnok (by kernel_rfl)
instance : FnOk Tryz.prog 94 := fnok (by kernel_rfl)
instance : FnOk Tryz.prog 95 := fnok (by kernel_rfl)
instance : FnOk Tryz.prog 96 := fnok (by kernel_rfl)
instance : FnOk Tryz.prog 97 := fnok (by kernel_rfl)
instance : FnOk Tryz.prog 98 := fnok (by kernel_rfl)
instance : FnOk Tryz.prog 99 := fnok (by kernel_rfl)
instance : FnOk Tryz.prog 100 := fnok (by kernel_rfl)
instance : FnOk Tryz.prog 101 := fnok (by kernel_rfl)
instance : FnOk Tryz.prog 102 := fnok (by kernel_rfl)
instance : FnOk Tryz.prog 103 := fnok (by kernel_rfl)
instance : FnOk Tryz.prog 104 := fnok (by kernel_rfl)
instance : FnOk Tryz.prog 105 := fnok (by kernel_rfl)
instance : FnOk Tryz.prog 106 := fnok (by kernel_rfl)
instance : FnOk Tryz.prog 107 := fnok (by kernel_rfl)
instance : FnOk Tryz.prog 108 := fnok (by kernel_rfl)
instance : FnOk Tryz.prog 109 := fnok (by kernel_rfl)
instance : FnOk Tryz.prog 110 := fnok (by kernel_rfl)
instance : FnOk Tryz.prog 111 := fnok (by kernel_rfl)
instance : FnOk Tryz.prog 112 := fnok (by kernel_rfl)
instance : FnOk Tryz.prog 113 := fnok (by kernel_rfl)
instance : FnOk Tryz.prog 114 := fnok (by kernel_rfl)
instance : FnOk Tryz.prog 115 := fnok (by kernel_rfl)
instance : FnOk Tryz.prog 116 := fnok (by kernel_rfl)
instance : FnOk Tryz.prog 117 := fnok (by kernel_rfl)
instance : FnOk Tryz.prog 118 := fnok (by kernel_rfl)
instance : FnOk Tryz.prog 119 := fnok (by kernel_rfl)
instance : FnOk Tryz.prog 120 := fnok (by kernel_rfl)
instance : FnOk Tryz.prog 121 := fnok (by kernel_rfl)
instance : FnOk Tryz.prog 122 := fnok (by kernel_rfl)
instance : FnOk Tryz.prog 123 := fnok (by kernel_rfl)
instance : FnOk Tryz.prog 124 := fnok (by kernel_rfl)
instance : FnOk Tryz.prog 125 := fnok (by kernel_rfl)
instance : FnOk Tryz.prog 126 := fnok (by kernel_rfl)
instance : FnOk Tryz.prog 127 := fnok (by kernel_rfl)
instance : FnOk Tryz.prog 128 := fnok (by kernel_rfl)
instance : FnOk Tryz.prog 129 := fnok (by kernel_rfl)
instance : FnOk Tryz.prog 130 := fnok (by kernel_rfl)
instance : FnOk Tryz.prog 131 := fnok (by kernel_rfl)
instance : FnOk Tryz.prog 132 := fnok (by kernel_rfl)
instance : FnOk Tryz.prog 133 := fnok (by kernel_rfl)
instance : FnOk Tryz.prog 134 := fnok (by kernel_rfl)
instance : FnOk Tryz.prog 135 := fnok (by kernel_rfl)
instance : FnOk Tryz.prog 136 := fnok (by kernel_rfl)
instance : FnOk Tryz.prog 137 := fnok (by kernel_rfl)
instance : FnOk Tryz.prog 138 := fnok (by kernel_rfl)
instance : FnOk Tryz.prog 139 := fnok (by kernel_rfl)
instance : FnOk Tryz.prog 140 := fnok (by kernel_rfl)
instance : FnOk Tryz.prog 141 := fnok (by kernel_rfl)
instance : FnOk Tryz.prog 142 := fnok (by kernel_rfl)
instance : FnOk Tryz.prog 143 := fnok (by kernel_rfl)
instance : FnOk Tryz.prog 145 := fnok (by kernel_rfl)
instance : FnOk Tryz.prog 147 := fnok (by kernel_rfl)
instance : FnOk Tryz.prog 149 := fnok (by kernel_rfl)
instance : FnOk Tryz.prog 151 := fnok (by kernel_rfl)
instance : FnOk Tryz.prog 152 := fnok (by kernel_rfl)
instance : FnOk Tryz.prog 153 := fnok (by kernel_rfl)
instance : FnOk Tryz.prog 154 := fnok (by kernel_rfl)
instance : FnOk Tryz.prog 155 := fnok (by kernel_rfl)
instance : FnOk Tryz.prog 156 := fnok (by kernel_rfl)
instance : FnOk Tryz.prog 157 := fnok (by kernel_rfl)
instance : FnOk Tryz.prog 158 := fnok (by kernel_rfl)
instance : FnOk Tryz.prog 159 := fnok (by kernel_rfl)
instance : FnOk Tryz.prog 160 := fnok (by kernel_rfl)
instance : FnOk Tryz.prog 161 := fnok (by kernel_rfl)
instance : FnOk Tryz.prog 162 := fnok (by kernel_rfl)
instance : FnOk Tryz.prog 163 := fnok (by kernel_rfl)
end Go.Wm

/-
  The facts on types and functions of this seat's program, written by a program of the prover's own out of the dump. Conditions: none.
-/
import Derived.Test.YtgalkgidjpbiaaaGreatCoA
import Derived.Test.YtgalkgidjpbiaaaGreatProg
import Derived.KernelRfl
set_option linter.all false
namespace Go.Wm
open Go.Proofs
set_option maxRecDepth 100000
theorem tyi {P : Program} {t : TypeId} {sz bs : Nat} {z : Value} (h : (P.info? t).map (fun i => (i.size, i.bytes, i.zero)) = some (sz, bs, some z)) : TyI P t sz bs z := by
  cases e : P.info? t with
  | none => simp [e] at h
  | some i => simp only [e, Option.map_some, Option.some.injEq, Prod.mk.injEq] at h; exact ⟨i, e, h.1, h.2.1, h.2.2⟩
theorem fnok {P : Program} {f : FuncId} (h : (P.funcs[f]?).map (fun fn => (fn.name == "runtime.NumGoroutine", fn.body.isNone)) = some (false, false)) : FnOk P f := by
  cases e : P.funcs[f]? with
  | none => simp [e] at h
  | some i => simp only [e, Option.map_some, Option.some.injEq, Prod.mk.injEq] at h; exact ⟨i, e, h.1, h.2⟩
theorem fldok {P : Program} {t f off sz : Nat} {ag : Bool} {fs : Array Field} {fd : Field} {i : TypeInfo} {d : TypeDesc} (h1 : P.underlying t = some (.struct fs)) (h2 : fs[f]? = some fd) (h3 : fd.offset = off) (h4 : P.info? fd.type = some i) (h5 : i.size = sz) (h6 : P.underlying fd.type = some d) (h7 : aggD d = ag) : Fld P t f off sz ag := ⟨fs, fd, d, i, h1, h2, h3, h4, h5, h6, h7⟩
instance : Mixed Tryz.prog := ⟨by kernel_rfl⟩
instance : TyU Tryz.prog 2 (.int .i64) := ⟨Tryz.underlying2⟩
instance : TyI Tryz.prog 2 1 8 (.int .i64 (0)) := tyi (by kernel_rfl)
instance : TyU Tryz.prog 3 (.int .i64) := ⟨Tryz.underlying3⟩
instance : TyI Tryz.prog 3 1 8 (.int .i64 (0)) := tyi (by kernel_rfl)
instance : TyU Tryz.prog 4 .bool := ⟨Tryz.underlying4⟩
instance : TyI Tryz.prog 4 1 1 (.bool false) := tyi (by kernel_rfl)
instance : TyU Tryz.prog 5 (.int .u8) := ⟨Tryz.underlying5⟩
instance : TyI Tryz.prog 5 1 1 (.int .u8 (0)) := tyi (by kernel_rfl)
instance : TyU Tryz.prog 6 (.int .u8) := ⟨Tryz.underlying6⟩
instance : TyI Tryz.prog 6 1 1 (.int .u8 (0)) := tyi (by kernel_rfl)
instance : TyU Tryz.prog 9 .string := ⟨Tryz.underlying9⟩
instance : TyI Tryz.prog 9 1 16 (.string ByteArray.empty) := tyi (by kernel_rfl)
instance : TyU Tryz.prog 10 .string := ⟨Tryz.underlying10⟩
instance : TyI Tryz.prog 10 1 16 (.string ByteArray.empty) := tyi (by kernel_rfl)
instance : TyU Tryz.prog 11 .string := ⟨Tryz.underlying11⟩
instance : TyI Tryz.prog 11 1 16 (.string ByteArray.empty) := tyi (by kernel_rfl)
instance : TyU Tryz.prog 12 (.int .u64) := ⟨Tryz.underlying12⟩
instance : TyI Tryz.prog 12 1 8 (.int .u64 (0)) := tyi (by kernel_rfl)
instance : TyU Tryz.prog 15 (.pointer 271) := ⟨Tryz.underlying15⟩
instance : TyI Tryz.prog 15 1 8 (.pointer none) := tyi (by kernel_rfl)
instance : TyU Tryz.prog 16 (.pointer 274) := ⟨Tryz.underlying16⟩
instance : TyI Tryz.prog 16 1 8 (.pointer none) := tyi (by kernel_rfl)
instance : TyU Tryz.prog 17 (.pointer 283) := ⟨Tryz.underlying17⟩
instance : TyI Tryz.prog 17 1 8 (.pointer none) := tyi (by kernel_rfl)
instance : TyU Tryz.prog 21 (.int .i32) := ⟨Tryz.underlying21⟩
instance : TyI Tryz.prog 21 1 4 (.int .i32 (0)) := tyi (by kernel_rfl)
instance : TyU Tryz.prog 22 (.slice 5) := ⟨Tryz.underlying22⟩
instance : TyI Tryz.prog 22 1 24 (.slice none 0 0) := tyi (by kernel_rfl)
instance : TyU Tryz.prog 24 (.slice 72) := ⟨Tryz.underlying24⟩
instance : TyI Tryz.prog 24 1 24 (.slice none 0 0) := tyi (by kernel_rfl)
instance : TyU Tryz.prog 25 (.slice 74) := ⟨Tryz.underlying25⟩
instance : TyI Tryz.prog 25 1 24 (.slice none 0 0) := tyi (by kernel_rfl)
instance : TyU Tryz.prog 26 (.slice 76) := ⟨Tryz.underlying26⟩
instance : TyI Tryz.prog 26 1 24 (.slice none 0 0) := tyi (by kernel_rfl)
instance : TyU Tryz.prog 27 (.slice 78) := ⟨Tryz.underlying27⟩
instance : TyI Tryz.prog 27 1 24 (.slice none 0 0) := tyi (by kernel_rfl)
instance : TyU Tryz.prog 28 (.struct (Tryz.prog.fieldsOf 28)) := ⟨by kernel_rfl⟩
instance : TyI Tryz.prog 28 5 104 (.agg #[(.int .i64 (0)), (.slice none 0 0), (.slice none 0 0), (.slice none 0 0), (.slice none 0 0)]) := tyi (by kernel_rfl)
instance : Fld Tryz.prog 28 0 0 1 false := fldok Tryz.underlying28 rfl rfl (by kernel_rfl) (i := ((Tryz.prog.info? 3).getD default)) (by kernel_rfl) Tryz.underlying3 rfl
instance : Fld Tryz.prog 28 1 1 1 false := fldok Tryz.underlying28 rfl rfl (by kernel_rfl) (i := ((Tryz.prog.info? 24).getD default)) (by kernel_rfl) Tryz.underlying24 rfl
instance : Fld Tryz.prog 28 2 2 1 false := fldok Tryz.underlying28 rfl rfl (by kernel_rfl) (i := ((Tryz.prog.info? 25).getD default)) (by kernel_rfl) Tryz.underlying25 rfl
instance : Fld Tryz.prog 28 3 3 1 false := fldok Tryz.underlying28 rfl rfl (by kernel_rfl) (i := ((Tryz.prog.info? 26).getD default)) (by kernel_rfl) Tryz.underlying26 rfl
instance : Fld Tryz.prog 28 4 4 1 false := fldok Tryz.underlying28 rfl rfl (by kernel_rfl) (i := ((Tryz.prog.info? 27).getD default)) (by kernel_rfl) Tryz.underlying27 rfl
instance : Bld Tryz.prog 28 [(0, 1), (1, 1), (2, 1), (3, 1), (4, 1)] [(.int .i64 (0)), (.slice none 0 0), (.slice none 0 0), (.slice none 0 0), (.slice none 0 0)] := by
  refine ⟨_, ((Tryz.prog.info? 28).getD default), _, Tryz.underlying28, by kernel_rfl, (by kernel_rfl : _ = some (.agg #[(.int .i64 (0)), (.slice none 0 0), (.slice none 0 0), (.slice none 0 0), (.slice none 0 0)])), rfl, fun w => by kernel_rfl⟩
instance : TyU Tryz.prog 29 (.struct (Tryz.prog.fieldsOf 29)) := ⟨by kernel_rfl⟩
instance : TyI Tryz.prog 29 5 104 (.agg #[(.int .i64 (0)), (.slice none 0 0), (.slice none 0 0), (.slice none 0 0), (.slice none 0 0)]) := tyi (by kernel_rfl)
instance : Fld Tryz.prog 29 0 0 1 false := fldok Tryz.underlying29 rfl rfl (by kernel_rfl) (i := ((Tryz.prog.info? 3).getD default)) (by kernel_rfl) Tryz.underlying3 rfl
instance : Fld Tryz.prog 29 1 1 1 false := fldok Tryz.underlying29 rfl rfl (by kernel_rfl) (i := ((Tryz.prog.info? 24).getD default)) (by kernel_rfl) Tryz.underlying24 rfl
instance : Fld Tryz.prog 29 2 2 1 false := fldok Tryz.underlying29 rfl rfl (by kernel_rfl) (i := ((Tryz.prog.info? 25).getD default)) (by kernel_rfl) Tryz.underlying25 rfl
instance : Fld Tryz.prog 29 3 3 1 false := fldok Tryz.underlying29 rfl rfl (by kernel_rfl) (i := ((Tryz.prog.info? 26).getD default)) (by kernel_rfl) Tryz.underlying26 rfl
instance : Fld Tryz.prog 29 4 4 1 false := fldok Tryz.underlying29 rfl rfl (by kernel_rfl) (i := ((Tryz.prog.info? 27).getD default)) (by kernel_rfl) Tryz.underlying27 rfl
instance : Bld Tryz.prog 29 [(0, 1), (1, 1), (2, 1), (3, 1), (4, 1)] [(.int .i64 (0)), (.slice none 0 0), (.slice none 0 0), (.slice none 0 0), (.slice none 0 0)] := by
  refine ⟨_, ((Tryz.prog.info? 29).getD default), _, Tryz.underlying29, by kernel_rfl, (by kernel_rfl : _ = some (.agg #[(.int .i64 (0)), (.slice none 0 0), (.slice none 0 0), (.slice none 0 0), (.slice none 0 0)])), rfl, fun w => by kernel_rfl⟩
instance : TyU Tryz.prog 34 (.struct (Tryz.prog.fieldsOf 34)) := ⟨by kernel_rfl⟩
instance : TyI Tryz.prog 34 6 64 (.agg #[(.int .i64 (0)), (.string ByteArray.empty), (.string ByteArray.empty), (.int .i64 (0)), (.int .i64 (0)), (.int .i64 (0))]) := tyi (by kernel_rfl)
instance : Fld Tryz.prog 34 0 0 1 false := fldok Tryz.underlying34 rfl rfl (by kernel_rfl) (i := ((Tryz.prog.info? 3).getD default)) (by kernel_rfl) Tryz.underlying3 rfl
instance : Fld Tryz.prog 34 1 1 1 false := fldok Tryz.underlying34 rfl rfl (by kernel_rfl) (i := ((Tryz.prog.info? 9).getD default)) (by kernel_rfl) Tryz.underlying9 rfl
instance : Fld Tryz.prog 34 2 2 1 false := fldok Tryz.underlying34 rfl rfl (by kernel_rfl) (i := ((Tryz.prog.info? 9).getD default)) (by kernel_rfl) Tryz.underlying9 rfl
instance : Fld Tryz.prog 34 3 3 1 false := fldok Tryz.underlying34 rfl rfl (by kernel_rfl) (i := ((Tryz.prog.info? 3).getD default)) (by kernel_rfl) Tryz.underlying3 rfl
instance : Fld Tryz.prog 34 4 4 1 false := fldok Tryz.underlying34 rfl rfl (by kernel_rfl) (i := ((Tryz.prog.info? 3).getD default)) (by kernel_rfl) Tryz.underlying3 rfl
instance : Fld Tryz.prog 34 5 5 1 false := fldok Tryz.underlying34 rfl rfl (by kernel_rfl) (i := ((Tryz.prog.info? 3).getD default)) (by kernel_rfl) Tryz.underlying3 rfl
instance : Bld Tryz.prog 34 [(0, 1), (1, 1), (2, 1), (3, 1), (4, 1), (5, 1)] [(.int .i64 (0)), (.string ByteArray.empty), (.string ByteArray.empty), (.int .i64 (0)), (.int .i64 (0)), (.int .i64 (0))] := by
  refine ⟨_, ((Tryz.prog.info? 34).getD default), _, Tryz.underlying34, by kernel_rfl, (by kernel_rfl : _ = some (.agg #[(.int .i64 (0)), (.string ByteArray.empty), (.string ByteArray.empty), (.int .i64 (0)), (.int .i64 (0)), (.int .i64 (0))])), rfl, fun w => by kernel_rfl⟩
instance : Flat Tryz.prog 34 [(3, (.int .i64)), (9, .string), (9, .string), (3, (.int .i64)), (3, (.int .i64)), (3, (.int .i64))] := by
  refine ⟨by kernel_rfl, by kernel_rfl, by kernel_rfl, by kernel_rfl, ?_⟩
  simp only [List.forall_mem_cons]
  exact ⟨⟨Tryz.underlying3, rfl⟩, ⟨Tryz.underlying9, rfl⟩, ⟨Tryz.underlying9, rfl⟩, ⟨Tryz.underlying3, rfl⟩, ⟨Tryz.underlying3, rfl⟩, ⟨Tryz.underlying3, rfl⟩, fun x hx => by cases hx⟩
instance : TyU Tryz.prog 35 (.struct (Tryz.prog.fieldsOf 35)) := ⟨by kernel_rfl⟩
instance : TyI Tryz.prog 35 6 64 (.agg #[(.int .i64 (0)), (.string ByteArray.empty), (.string ByteArray.empty), (.int .i64 (0)), (.int .i64 (0)), (.int .i64 (0))]) := tyi (by kernel_rfl)
instance : Fld Tryz.prog 35 0 0 1 false := fldok Tryz.underlying35 rfl rfl (by kernel_rfl) (i := ((Tryz.prog.info? 3).getD default)) (by kernel_rfl) Tryz.underlying3 rfl
instance : Fld Tryz.prog 35 1 1 1 false := fldok Tryz.underlying35 rfl rfl (by kernel_rfl) (i := ((Tryz.prog.info? 9).getD default)) (by kernel_rfl) Tryz.underlying9 rfl
instance : Fld Tryz.prog 35 2 2 1 false := fldok Tryz.underlying35 rfl rfl (by kernel_rfl) (i := ((Tryz.prog.info? 9).getD default)) (by kernel_rfl) Tryz.underlying9 rfl
instance : Fld Tryz.prog 35 3 3 1 false := fldok Tryz.underlying35 rfl rfl (by kernel_rfl) (i := ((Tryz.prog.info? 3).getD default)) (by kernel_rfl) Tryz.underlying3 rfl
instance : Fld Tryz.prog 35 4 4 1 false := fldok Tryz.underlying35 rfl rfl (by kernel_rfl) (i := ((Tryz.prog.info? 3).getD default)) (by kernel_rfl) Tryz.underlying3 rfl
instance : Fld Tryz.prog 35 5 5 1 false := fldok Tryz.underlying35 rfl rfl (by kernel_rfl) (i := ((Tryz.prog.info? 3).getD default)) (by kernel_rfl) Tryz.underlying3 rfl
instance : Bld Tryz.prog 35 [(0, 1), (1, 1), (2, 1), (3, 1), (4, 1), (5, 1)] [(.int .i64 (0)), (.string ByteArray.empty), (.string ByteArray.empty), (.int .i64 (0)), (.int .i64 (0)), (.int .i64 (0))] := by
  refine ⟨_, ((Tryz.prog.info? 35).getD default), _, Tryz.underlying35, by kernel_rfl, (by kernel_rfl : _ = some (.agg #[(.int .i64 (0)), (.string ByteArray.empty), (.string ByteArray.empty), (.int .i64 (0)), (.int .i64 (0)), (.int .i64 (0))])), rfl, fun w => by kernel_rfl⟩
instance : Flat Tryz.prog 35 [(3, (.int .i64)), (9, .string), (9, .string), (3, (.int .i64)), (3, (.int .i64)), (3, (.int .i64))] := by
  refine ⟨by kernel_rfl, by kernel_rfl, by kernel_rfl, by kernel_rfl, ?_⟩
  simp only [List.forall_mem_cons]
  exact ⟨⟨Tryz.underlying3, rfl⟩, ⟨Tryz.underlying9, rfl⟩, ⟨Tryz.underlying9, rfl⟩, ⟨Tryz.underlying3, rfl⟩, ⟨Tryz.underlying3, rfl⟩, ⟨Tryz.underlying3, rfl⟩, fun x hx => by cases hx⟩
instance : TyU Tryz.prog 36 (.int .i64) := ⟨Tryz.underlying36⟩
instance : TyI Tryz.prog 36 1 8 (.int .i64 (0)) := tyi (by kernel_rfl)
instance : TyU Tryz.prog 43 (.slice 35) := ⟨Tryz.underlying43⟩
instance : TyI Tryz.prog 43 1 24 (.slice none 0 0) := tyi (by kernel_rfl)
instance : TyU Tryz.prog 48 (.slice 3) := ⟨Tryz.underlying48⟩
instance : TyI Tryz.prog 48 1 24 (.slice none 0 0) := tyi (by kernel_rfl)
instance : TyU Tryz.prog 49 (.slice 29) := ⟨Tryz.underlying49⟩
instance : TyI Tryz.prog 49 1 24 (.slice none 0 0) := tyi (by kernel_rfl)
instance : TyU Tryz.prog 51 (.slice 105) := ⟨Tryz.underlying51⟩
instance : TyI Tryz.prog 51 1 24 (.slice none 0 0) := tyi (by kernel_rfl)
instance : TyU Tryz.prog 52 (.struct (Tryz.prog.fieldsOf 52)) := ⟨by kernel_rfl⟩
instance : TyI Tryz.prog 52 4 56 (.agg #[(.string ByteArray.empty), (.int .i64 (0)), (.int .i64 (0)), (.slice none 0 0)]) := tyi (by kernel_rfl)
instance : Fld Tryz.prog 52 0 0 1 false := fldok Tryz.underlying52 rfl rfl (by kernel_rfl) (i := ((Tryz.prog.info? 9).getD default)) (by kernel_rfl) Tryz.underlying9 rfl
instance : Fld Tryz.prog 52 1 1 1 false := fldok Tryz.underlying52 rfl rfl (by kernel_rfl) (i := ((Tryz.prog.info? 3).getD default)) (by kernel_rfl) Tryz.underlying3 rfl
instance : Fld Tryz.prog 52 2 2 1 false := fldok Tryz.underlying52 rfl rfl (by kernel_rfl) (i := ((Tryz.prog.info? 3).getD default)) (by kernel_rfl) Tryz.underlying3 rfl
instance : Fld Tryz.prog 52 3 3 1 false := fldok Tryz.underlying52 rfl rfl (by kernel_rfl) (i := ((Tryz.prog.info? 51).getD default)) (by kernel_rfl) Tryz.underlying51 rfl
instance : Bld Tryz.prog 52 [(0, 1), (1, 1), (2, 1), (3, 1)] [(.string ByteArray.empty), (.int .i64 (0)), (.int .i64 (0)), (.slice none 0 0)] := by
  refine ⟨_, ((Tryz.prog.info? 52).getD default), _, Tryz.underlying52, by kernel_rfl, (by kernel_rfl : _ = some (.agg #[(.string ByteArray.empty), (.int .i64 (0)), (.int .i64 (0)), (.slice none 0 0)])), rfl, fun w => by kernel_rfl⟩
instance : TyU Tryz.prog 53 (.struct (Tryz.prog.fieldsOf 53)) := ⟨by kernel_rfl⟩
instance : TyI Tryz.prog 53 4 56 (.agg #[(.string ByteArray.empty), (.int .i64 (0)), (.int .i64 (0)), (.slice none 0 0)]) := tyi (by kernel_rfl)
instance : Fld Tryz.prog 53 0 0 1 false := fldok Tryz.underlying53 rfl rfl (by kernel_rfl) (i := ((Tryz.prog.info? 9).getD default)) (by kernel_rfl) Tryz.underlying9 rfl
instance : Fld Tryz.prog 53 1 1 1 false := fldok Tryz.underlying53 rfl rfl (by kernel_rfl) (i := ((Tryz.prog.info? 3).getD default)) (by kernel_rfl) Tryz.underlying3 rfl
instance : Fld Tryz.prog 53 2 2 1 false := fldok Tryz.underlying53 rfl rfl (by kernel_rfl) (i := ((Tryz.prog.info? 3).getD default)) (by kernel_rfl) Tryz.underlying3 rfl
instance : Fld Tryz.prog 53 3 3 1 false := fldok Tryz.underlying53 rfl rfl (by kernel_rfl) (i := ((Tryz.prog.info? 51).getD default)) (by kernel_rfl) Tryz.underlying51 rfl
instance : Bld Tryz.prog 53 [(0, 1), (1, 1), (2, 1), (3, 1)] [(.string ByteArray.empty), (.int .i64 (0)), (.int .i64 (0)), (.slice none 0 0)] := by
  refine ⟨_, ((Tryz.prog.info? 53).getD default), _, Tryz.underlying53, by kernel_rfl, (by kernel_rfl : _ = some (.agg #[(.string ByteArray.empty), (.int .i64 (0)), (.int .i64 (0)), (.slice none 0 0)])), rfl, fun w => by kernel_rfl⟩
instance : TyU Tryz.prog 54 (.slice 114) := ⟨Tryz.underlying54⟩
instance : TyI Tryz.prog 54 1 24 (.slice none 0 0) := tyi (by kernel_rfl)
instance : TyU Tryz.prog 71 (.struct (Tryz.prog.fieldsOf 71)) := ⟨by kernel_rfl⟩
instance : TyI Tryz.prog 71 4 40 (.agg #[(.string ByteArray.empty), (.int .i64 (0)), (.bool false), (.int .i64 (0))]) := tyi (by kernel_rfl)
instance : Fld Tryz.prog 71 0 0 1 false := fldok Tryz.underlying71 rfl rfl (by kernel_rfl) (i := ((Tryz.prog.info? 9).getD default)) (by kernel_rfl) Tryz.underlying9 rfl
instance : Fld Tryz.prog 71 1 1 1 false := fldok Tryz.underlying71 rfl rfl (by kernel_rfl) (i := ((Tryz.prog.info? 3).getD default)) (by kernel_rfl) Tryz.underlying3 rfl
instance : Fld Tryz.prog 71 2 2 1 false := fldok Tryz.underlying71 rfl rfl (by kernel_rfl) (i := ((Tryz.prog.info? 4).getD default)) (by kernel_rfl) Tryz.underlying4 rfl
instance : Fld Tryz.prog 71 3 3 1 false := fldok Tryz.underlying71 rfl rfl (by kernel_rfl) (i := ((Tryz.prog.info? 3).getD default)) (by kernel_rfl) Tryz.underlying3 rfl
instance : Bld Tryz.prog 71 [(0, 1), (1, 1), (2, 1), (3, 1)] [(.string ByteArray.empty), (.int .i64 (0)), (.bool false), (.int .i64 (0))] := by
  refine ⟨_, ((Tryz.prog.info? 71).getD default), _, Tryz.underlying71, by kernel_rfl, (by kernel_rfl : _ = some (.agg #[(.string ByteArray.empty), (.int .i64 (0)), (.bool false), (.int .i64 (0))])), rfl, fun w => by kernel_rfl⟩
instance : Flat Tryz.prog 71 [(9, .string), (3, (.int .i64)), (4, .bool), (3, (.int .i64))] := by
  refine ⟨by kernel_rfl, by kernel_rfl, by kernel_rfl, by kernel_rfl, ?_⟩
  simp only [List.forall_mem_cons]
  exact ⟨⟨Tryz.underlying9, rfl⟩, ⟨Tryz.underlying3, rfl⟩, ⟨Tryz.underlying4, rfl⟩, ⟨Tryz.underlying3, rfl⟩, fun x hx => by cases hx⟩
instance : TyU Tryz.prog 72 (.struct (Tryz.prog.fieldsOf 72)) := ⟨by kernel_rfl⟩
instance : TyI Tryz.prog 72 4 40 (.agg #[(.string ByteArray.empty), (.int .i64 (0)), (.bool false), (.int .i64 (0))]) := tyi (by kernel_rfl)
instance : Fld Tryz.prog 72 0 0 1 false := fldok Tryz.underlying72 rfl rfl (by kernel_rfl) (i := ((Tryz.prog.info? 9).getD default)) (by kernel_rfl) Tryz.underlying9 rfl
instance : Fld Tryz.prog 72 1 1 1 false := fldok Tryz.underlying72 rfl rfl (by kernel_rfl) (i := ((Tryz.prog.info? 3).getD default)) (by kernel_rfl) Tryz.underlying3 rfl
instance : Fld Tryz.prog 72 2 2 1 false := fldok Tryz.underlying72 rfl rfl (by kernel_rfl) (i := ((Tryz.prog.info? 4).getD default)) (by kernel_rfl) Tryz.underlying4 rfl
instance : Fld Tryz.prog 72 3 3 1 false := fldok Tryz.underlying72 rfl rfl (by kernel_rfl) (i := ((Tryz.prog.info? 3).getD default)) (by kernel_rfl) Tryz.underlying3 rfl
instance : Bld Tryz.prog 72 [(0, 1), (1, 1), (2, 1), (3, 1)] [(.string ByteArray.empty), (.int .i64 (0)), (.bool false), (.int .i64 (0))] := by
  refine ⟨_, ((Tryz.prog.info? 72).getD default), _, Tryz.underlying72, by kernel_rfl, (by kernel_rfl : _ = some (.agg #[(.string ByteArray.empty), (.int .i64 (0)), (.bool false), (.int .i64 (0))])), rfl, fun w => by kernel_rfl⟩
instance : Flat Tryz.prog 72 [(9, .string), (3, (.int .i64)), (4, .bool), (3, (.int .i64))] := by
  refine ⟨by kernel_rfl, by kernel_rfl, by kernel_rfl, by kernel_rfl, ?_⟩
  simp only [List.forall_mem_cons]
  exact ⟨⟨Tryz.underlying9, rfl⟩, ⟨Tryz.underlying3, rfl⟩, ⟨Tryz.underlying4, rfl⟩, ⟨Tryz.underlying3, rfl⟩, fun x hx => by cases hx⟩
instance : TyU Tryz.prog 73 (.struct (Tryz.prog.fieldsOf 73)) := ⟨by kernel_rfl⟩
instance : TyI Tryz.prog 73 3 40 (.agg #[(.string ByteArray.empty), (.string ByteArray.empty), (.int .i64 (0))]) := tyi (by kernel_rfl)
instance : Fld Tryz.prog 73 0 0 1 false := fldok Tryz.underlying73 rfl rfl (by kernel_rfl) (i := ((Tryz.prog.info? 9).getD default)) (by kernel_rfl) Tryz.underlying9 rfl
instance : Fld Tryz.prog 73 1 1 1 false := fldok Tryz.underlying73 rfl rfl (by kernel_rfl) (i := ((Tryz.prog.info? 9).getD default)) (by kernel_rfl) Tryz.underlying9 rfl
instance : Fld Tryz.prog 73 2 2 1 false := fldok Tryz.underlying73 rfl rfl (by kernel_rfl) (i := ((Tryz.prog.info? 3).getD default)) (by kernel_rfl) Tryz.underlying3 rfl
instance : Bld Tryz.prog 73 [(0, 1), (1, 1), (2, 1)] [(.string ByteArray.empty), (.string ByteArray.empty), (.int .i64 (0))] := by
  refine ⟨_, ((Tryz.prog.info? 73).getD default), _, Tryz.underlying73, by kernel_rfl, (by kernel_rfl : _ = some (.agg #[(.string ByteArray.empty), (.string ByteArray.empty), (.int .i64 (0))])), rfl, fun w => by kernel_rfl⟩
instance : Flat Tryz.prog 73 [(9, .string), (9, .string), (3, (.int .i64))] := by
  refine ⟨by kernel_rfl, by kernel_rfl, by kernel_rfl, by kernel_rfl, ?_⟩
  simp only [List.forall_mem_cons]
  exact ⟨⟨Tryz.underlying9, rfl⟩, ⟨Tryz.underlying9, rfl⟩, ⟨Tryz.underlying3, rfl⟩, fun x hx => by cases hx⟩
instance : TyU Tryz.prog 74 (.struct (Tryz.prog.fieldsOf 74)) := ⟨by kernel_rfl⟩
instance : TyI Tryz.prog 74 3 40 (.agg #[(.string ByteArray.empty), (.string ByteArray.empty), (.int .i64 (0))]) := tyi (by kernel_rfl)
instance : Fld Tryz.prog 74 0 0 1 false := fldok Tryz.underlying74 rfl rfl (by kernel_rfl) (i := ((Tryz.prog.info? 9).getD default)) (by kernel_rfl) Tryz.underlying9 rfl
instance : Fld Tryz.prog 74 1 1 1 false := fldok Tryz.underlying74 rfl rfl (by kernel_rfl) (i := ((Tryz.prog.info? 9).getD default)) (by kernel_rfl) Tryz.underlying9 rfl
instance : Fld Tryz.prog 74 2 2 1 false := fldok Tryz.underlying74 rfl rfl (by kernel_rfl) (i := ((Tryz.prog.info? 3).getD default)) (by kernel_rfl) Tryz.underlying3 rfl
instance : Bld Tryz.prog 74 [(0, 1), (1, 1), (2, 1)] [(.string ByteArray.empty), (.string ByteArray.empty), (.int .i64 (0))] := by
  refine ⟨_, ((Tryz.prog.info? 74).getD default), _, Tryz.underlying74, by kernel_rfl, (by kernel_rfl : _ = some (.agg #[(.string ByteArray.empty), (.string ByteArray.empty), (.int .i64 (0))])), rfl, fun w => by kernel_rfl⟩
instance : Flat Tryz.prog 74 [(9, .string), (9, .string), (3, (.int .i64))] := by
  refine ⟨by kernel_rfl, by kernel_rfl, by kernel_rfl, by kernel_rfl, ?_⟩
  simp only [List.forall_mem_cons]
  exact ⟨⟨Tryz.underlying9, rfl⟩, ⟨Tryz.underlying9, rfl⟩, ⟨Tryz.underlying3, rfl⟩, fun x hx => by cases hx⟩
instance : TyU Tryz.prog 75 (.struct (Tryz.prog.fieldsOf 75)) := ⟨by kernel_rfl⟩
instance : TyI Tryz.prog 75 3 32 (.agg #[(.string ByteArray.empty), (.int .i64 (0)), (.int .i64 (0))]) := tyi (by kernel_rfl)
instance : Fld Tryz.prog 75 0 0 1 false := fldok Tryz.underlying75 rfl rfl (by kernel_rfl) (i := ((Tryz.prog.info? 9).getD default)) (by kernel_rfl) Tryz.underlying9 rfl
instance : Fld Tryz.prog 75 1 1 1 false := fldok Tryz.underlying75 rfl rfl (by kernel_rfl) (i := ((Tryz.prog.info? 3).getD default)) (by kernel_rfl) Tryz.underlying3 rfl
instance : Fld Tryz.prog 75 2 2 1 false := fldok Tryz.underlying75 rfl rfl (by kernel_rfl) (i := ((Tryz.prog.info? 3).getD default)) (by kernel_rfl) Tryz.underlying3 rfl
instance : Bld Tryz.prog 75 [(0, 1), (1, 1), (2, 1)] [(.string ByteArray.empty), (.int .i64 (0)), (.int .i64 (0))] := by
  refine ⟨_, ((Tryz.prog.info? 75).getD default), _, Tryz.underlying75, by kernel_rfl, (by kernel_rfl : _ = some (.agg #[(.string ByteArray.empty), (.int .i64 (0)), (.int .i64 (0))])), rfl, fun w => by kernel_rfl⟩
instance : Flat Tryz.prog 75 [(9, .string), (3, (.int .i64)), (3, (.int .i64))] := by
  refine ⟨by kernel_rfl, by kernel_rfl, by kernel_rfl, by kernel_rfl, ?_⟩
  simp only [List.forall_mem_cons]
  exact ⟨⟨Tryz.underlying9, rfl⟩, ⟨Tryz.underlying3, rfl⟩, ⟨Tryz.underlying3, rfl⟩, fun x hx => by cases hx⟩
instance : TyU Tryz.prog 76 (.struct (Tryz.prog.fieldsOf 76)) := ⟨by kernel_rfl⟩
instance : TyI Tryz.prog 76 3 32 (.agg #[(.string ByteArray.empty), (.int .i64 (0)), (.int .i64 (0))]) := tyi (by kernel_rfl)
instance : Fld Tryz.prog 76 0 0 1 false := fldok Tryz.underlying76 rfl rfl (by kernel_rfl) (i := ((Tryz.prog.info? 9).getD default)) (by kernel_rfl) Tryz.underlying9 rfl
instance : Fld Tryz.prog 76 1 1 1 false := fldok Tryz.underlying76 rfl rfl (by kernel_rfl) (i := ((Tryz.prog.info? 3).getD default)) (by kernel_rfl) Tryz.underlying3 rfl
instance : Fld Tryz.prog 76 2 2 1 false := fldok Tryz.underlying76 rfl rfl (by kernel_rfl) (i := ((Tryz.prog.info? 3).getD default)) (by kernel_rfl) Tryz.underlying3 rfl
instance : Bld Tryz.prog 76 [(0, 1), (1, 1), (2, 1)] [(.string ByteArray.empty), (.int .i64 (0)), (.int .i64 (0))] := by
  refine ⟨_, ((Tryz.prog.info? 76).getD default), _, Tryz.underlying76, by kernel_rfl, (by kernel_rfl : _ = some (.agg #[(.string ByteArray.empty), (.int .i64 (0)), (.int .i64 (0))])), rfl, fun w => by kernel_rfl⟩
instance : Flat Tryz.prog 76 [(9, .string), (3, (.int .i64)), (3, (.int .i64))] := by
  refine ⟨by kernel_rfl, by kernel_rfl, by kernel_rfl, by kernel_rfl, ?_⟩
  simp only [List.forall_mem_cons]
  exact ⟨⟨Tryz.underlying9, rfl⟩, ⟨Tryz.underlying3, rfl⟩, ⟨Tryz.underlying3, rfl⟩, fun x hx => by cases hx⟩
instance : TyU Tryz.prog 77 (.struct (Tryz.prog.fieldsOf 77)) := ⟨by kernel_rfl⟩
instance : TyI Tryz.prog 77 3 32 (.agg #[(.int .i64 (0)), (.int .i64 (0)), (.string ByteArray.empty)]) := tyi (by kernel_rfl)
instance : Fld Tryz.prog 77 0 0 1 false := fldok Tryz.underlying77 rfl rfl (by kernel_rfl) (i := ((Tryz.prog.info? 3).getD default)) (by kernel_rfl) Tryz.underlying3 rfl
instance : Fld Tryz.prog 77 1 1 1 false := fldok Tryz.underlying77 rfl rfl (by kernel_rfl) (i := ((Tryz.prog.info? 3).getD default)) (by kernel_rfl) Tryz.underlying3 rfl
instance : Fld Tryz.prog 77 2 2 1 false := fldok Tryz.underlying77 rfl rfl (by kernel_rfl) (i := ((Tryz.prog.info? 9).getD default)) (by kernel_rfl) Tryz.underlying9 rfl
instance : Bld Tryz.prog 77 [(0, 1), (1, 1), (2, 1)] [(.int .i64 (0)), (.int .i64 (0)), (.string ByteArray.empty)] := by
  refine ⟨_, ((Tryz.prog.info? 77).getD default), _, Tryz.underlying77, by kernel_rfl, (by kernel_rfl : _ = some (.agg #[(.int .i64 (0)), (.int .i64 (0)), (.string ByteArray.empty)])), rfl, fun w => by kernel_rfl⟩
instance : Flat Tryz.prog 77 [(3, (.int .i64)), (3, (.int .i64)), (9, .string)] := by
  refine ⟨by kernel_rfl, by kernel_rfl, by kernel_rfl, by kernel_rfl, ?_⟩
  simp only [List.forall_mem_cons]
  exact ⟨⟨Tryz.underlying3, rfl⟩, ⟨Tryz.underlying3, rfl⟩, ⟨Tryz.underlying9, rfl⟩, fun x hx => by cases hx⟩
instance : TyU Tryz.prog 78 (.struct (Tryz.prog.fieldsOf 78)) := ⟨by kernel_rfl⟩
instance : TyI Tryz.prog 78 3 32 (.agg #[(.int .i64 (0)), (.int .i64 (0)), (.string ByteArray.empty)]) := tyi (by kernel_rfl)
instance : Fld Tryz.prog 78 0 0 1 false := fldok Tryz.underlying78 rfl rfl (by kernel_rfl) (i := ((Tryz.prog.info? 3).getD default)) (by kernel_rfl) Tryz.underlying3 rfl
instance : Fld Tryz.prog 78 1 1 1 false := fldok Tryz.underlying78 rfl rfl (by kernel_rfl) (i := ((Tryz.prog.info? 3).getD default)) (by kernel_rfl) Tryz.underlying3 rfl
instance : Fld Tryz.prog 78 2 2 1 false := fldok Tryz.underlying78 rfl rfl (by kernel_rfl) (i := ((Tryz.prog.info? 9).getD default)) (by kernel_rfl) Tryz.underlying9 rfl
instance : Bld Tryz.prog 78 [(0, 1), (1, 1), (2, 1)] [(.int .i64 (0)), (.int .i64 (0)), (.string ByteArray.empty)] := by
  refine ⟨_, ((Tryz.prog.info? 78).getD default), _, Tryz.underlying78, by kernel_rfl, (by kernel_rfl : _ = some (.agg #[(.int .i64 (0)), (.int .i64 (0)), (.string ByteArray.empty)])), rfl, fun w => by kernel_rfl⟩
instance : Flat Tryz.prog 78 [(3, (.int .i64)), (3, (.int .i64)), (9, .string)] := by
  refine ⟨by kernel_rfl, by kernel_rfl, by kernel_rfl, by kernel_rfl, ?_⟩
  simp only [List.forall_mem_cons]
  exact ⟨⟨Tryz.underlying3, rfl⟩, ⟨Tryz.underlying3, rfl⟩, ⟨Tryz.underlying9, rfl⟩, fun x hx => by cases hx⟩
instance : TyU Tryz.prog 81 (.int .u64) := ⟨Tryz.underlying81⟩
instance : TyI Tryz.prog 81 1 8 (.int .u64 (0)) := tyi (by kernel_rfl)
instance : TyU Tryz.prog 82 (.array 2 9) := ⟨Tryz.underlying82⟩
instance : TyI Tryz.prog 82 2 32 (.agg #[(.string ByteArray.empty), (.string ByteArray.empty)]) := tyi (by kernel_rfl)
instance : TyU Tryz.prog 84 (.array 3 3) := ⟨Tryz.underlying84⟩
instance : TyI Tryz.prog 84 3 24 (.agg #[(.int .i64 (0)), (.int .i64 (0)), (.int .i64 (0))]) := tyi (by kernel_rfl)
instance : TyU Tryz.prog 98 (.map 3 97) := ⟨Tryz.underlying98⟩
instance : TyI Tryz.prog 98 1 8 (.map none) := tyi (by kernel_rfl)
instance : TyU Tryz.prog 100 (.pointer 29) := ⟨Tryz.underlying100⟩
instance : TyI Tryz.prog 100 1 8 (.pointer none) := tyi (by kernel_rfl)
instance : TyU Tryz.prog 103 (.slice 9) := ⟨Tryz.underlying103⟩
instance : TyI Tryz.prog 103 1 24 (.slice none 0 0) := tyi (by kernel_rfl)
instance : TyU Tryz.prog 104 (.struct (Tryz.prog.fieldsOf 104)) := ⟨by kernel_rfl⟩
instance : TyI Tryz.prog 104 6 96 (.agg #[(.string ByteArray.empty), (.string ByteArray.empty), (.slice none 0 0), (.slice none 0 0), (.bool false), (.int .i64 (0))]) := tyi (by kernel_rfl)
instance : Fld Tryz.prog 104 0 0 1 false := fldok Tryz.underlying104 rfl rfl (by kernel_rfl) (i := ((Tryz.prog.info? 9).getD default)) (by kernel_rfl) Tryz.underlying9 rfl
instance : Fld Tryz.prog 104 1 1 1 false := fldok Tryz.underlying104 rfl rfl (by kernel_rfl) (i := ((Tryz.prog.info? 9).getD default)) (by kernel_rfl) Tryz.underlying9 rfl
instance : Fld Tryz.prog 104 2 2 1 false := fldok Tryz.underlying104 rfl rfl (by kernel_rfl) (i := ((Tryz.prog.info? 103).getD default)) (by kernel_rfl) Tryz.underlying103 rfl
instance : Fld Tryz.prog 104 3 3 1 false := fldok Tryz.underlying104 rfl rfl (by kernel_rfl) (i := ((Tryz.prog.info? 54).getD default)) (by kernel_rfl) Tryz.underlying54 rfl
instance : Fld Tryz.prog 104 4 4 1 false := fldok Tryz.underlying104 rfl rfl (by kernel_rfl) (i := ((Tryz.prog.info? 4).getD default)) (by kernel_rfl) Tryz.underlying4 rfl
instance : Fld Tryz.prog 104 5 5 1 false := fldok Tryz.underlying104 rfl rfl (by kernel_rfl) (i := ((Tryz.prog.info? 3).getD default)) (by kernel_rfl) Tryz.underlying3 rfl
instance : Bld Tryz.prog 104 [(0, 1), (1, 1), (2, 1), (3, 1), (4, 1), (5, 1)] [(.string ByteArray.empty), (.string ByteArray.empty), (.slice none 0 0), (.slice none 0 0), (.bool false), (.int .i64 (0))] := by
  refine ⟨_, ((Tryz.prog.info? 104).getD default), _, Tryz.underlying104, by kernel_rfl, (by kernel_rfl : _ = some (.agg #[(.string ByteArray.empty), (.string ByteArray.empty), (.slice none 0 0), (.slice none 0 0), (.bool false), (.int .i64 (0))])), rfl, fun w => by kernel_rfl⟩
instance : TyU Tryz.prog 105 (.struct (Tryz.prog.fieldsOf 105)) := ⟨by kernel_rfl⟩
instance : TyI Tryz.prog 105 6 96 (.agg #[(.string ByteArray.empty), (.string ByteArray.empty), (.slice none 0 0), (.slice none 0 0), (.bool false), (.int .i64 (0))]) := tyi (by kernel_rfl)
instance : Fld Tryz.prog 105 0 0 1 false := fldok Tryz.underlying105 rfl rfl (by kernel_rfl) (i := ((Tryz.prog.info? 9).getD default)) (by kernel_rfl) Tryz.underlying9 rfl
instance : Fld Tryz.prog 105 1 1 1 false := fldok Tryz.underlying105 rfl rfl (by kernel_rfl) (i := ((Tryz.prog.info? 9).getD default)) (by kernel_rfl) Tryz.underlying9 rfl
instance : Fld Tryz.prog 105 2 2 1 false := fldok Tryz.underlying105 rfl rfl (by kernel_rfl) (i := ((Tryz.prog.info? 103).getD default)) (by kernel_rfl) Tryz.underlying103 rfl
instance : Fld Tryz.prog 105 3 3 1 false := fldok Tryz.underlying105 rfl rfl (by kernel_rfl) (i := ((Tryz.prog.info? 54).getD default)) (by kernel_rfl) Tryz.underlying54 rfl
instance : Fld Tryz.prog 105 4 4 1 false := fldok Tryz.underlying105 rfl rfl (by kernel_rfl) (i := ((Tryz.prog.info? 4).getD default)) (by kernel_rfl) Tryz.underlying4 rfl
instance : Fld Tryz.prog 105 5 5 1 false := fldok Tryz.underlying105 rfl rfl (by kernel_rfl) (i := ((Tryz.prog.info? 3).getD default)) (by kernel_rfl) Tryz.underlying3 rfl
instance : Bld Tryz.prog 105 [(0, 1), (1, 1), (2, 1), (3, 1), (4, 1), (5, 1)] [(.string ByteArray.empty), (.string ByteArray.empty), (.slice none 0 0), (.slice none 0 0), (.bool false), (.int .i64 (0))] := by
  refine ⟨_, ((Tryz.prog.info? 105).getD default), _, Tryz.underlying105, by kernel_rfl, (by kernel_rfl : _ = some (.agg #[(.string ByteArray.empty), (.string ByteArray.empty), (.slice none 0 0), (.slice none 0 0), (.bool false), (.int .i64 (0))])), rfl, fun w => by kernel_rfl⟩
instance : TyU Tryz.prog 108 (.pointer 120) := ⟨Tryz.underlying108⟩
instance : TyI Tryz.prog 108 1 8 (.pointer none) := tyi (by kernel_rfl)
instance : TyU Tryz.prog 113 (.struct (Tryz.prog.fieldsOf 113)) := ⟨by kernel_rfl⟩
instance : TyI Tryz.prog 113 3 32 (.agg #[(.string ByteArray.empty), (.int .i64 (0)), (.int .i64 (0))]) := tyi (by kernel_rfl)
instance : Fld Tryz.prog 113 0 0 1 false := fldok Tryz.underlying113 rfl rfl (by kernel_rfl) (i := ((Tryz.prog.info? 9).getD default)) (by kernel_rfl) Tryz.underlying9 rfl
instance : Fld Tryz.prog 113 1 1 1 false := fldok Tryz.underlying113 rfl rfl (by kernel_rfl) (i := ((Tryz.prog.info? 3).getD default)) (by kernel_rfl) Tryz.underlying3 rfl
instance : Fld Tryz.prog 113 2 2 1 false := fldok Tryz.underlying113 rfl rfl (by kernel_rfl) (i := ((Tryz.prog.info? 3).getD default)) (by kernel_rfl) Tryz.underlying3 rfl
instance : Bld Tryz.prog 113 [(0, 1), (1, 1), (2, 1)] [(.string ByteArray.empty), (.int .i64 (0)), (.int .i64 (0))] := by
  refine ⟨_, ((Tryz.prog.info? 113).getD default), _, Tryz.underlying113, by kernel_rfl, (by kernel_rfl : _ = some (.agg #[(.string ByteArray.empty), (.int .i64 (0)), (.int .i64 (0))])), rfl, fun w => by kernel_rfl⟩
instance : Flat Tryz.prog 113 [(9, .string), (3, (.int .i64)), (3, (.int .i64))] := by
  refine ⟨by kernel_rfl, by kernel_rfl, by kernel_rfl, by kernel_rfl, ?_⟩
  simp only [List.forall_mem_cons]
  exact ⟨⟨Tryz.underlying9, rfl⟩, ⟨Tryz.underlying3, rfl⟩, ⟨Tryz.underlying3, rfl⟩, fun x hx => by cases hx⟩
instance : TyU Tryz.prog 114 (.struct (Tryz.prog.fieldsOf 114)) := ⟨by kernel_rfl⟩
instance : TyI Tryz.prog 114 3 32 (.agg #[(.string ByteArray.empty), (.int .i64 (0)), (.int .i64 (0))]) := tyi (by kernel_rfl)
instance : Fld Tryz.prog 114 0 0 1 false := fldok Tryz.underlying114 rfl rfl (by kernel_rfl) (i := ((Tryz.prog.info? 9).getD default)) (by kernel_rfl) Tryz.underlying9 rfl
instance : Fld Tryz.prog 114 1 1 1 false := fldok Tryz.underlying114 rfl rfl (by kernel_rfl) (i := ((Tryz.prog.info? 3).getD default)) (by kernel_rfl) Tryz.underlying3 rfl
instance : Fld Tryz.prog 114 2 2 1 false := fldok Tryz.underlying114 rfl rfl (by kernel_rfl) (i := ((Tryz.prog.info? 3).getD default)) (by kernel_rfl) Tryz.underlying3 rfl
instance : Bld Tryz.prog 114 [(0, 1), (1, 1), (2, 1)] [(.string ByteArray.empty), (.int .i64 (0)), (.int .i64 (0))] := by
  refine ⟨_, ((Tryz.prog.info? 114).getD default), _, Tryz.underlying114, by kernel_rfl, (by kernel_rfl : _ = some (.agg #[(.string ByteArray.empty), (.int .i64 (0)), (.int .i64 (0))])), rfl, fun w => by kernel_rfl⟩
instance : Flat Tryz.prog 114 [(9, .string), (3, (.int .i64)), (3, (.int .i64))] := by
  refine ⟨by kernel_rfl, by kernel_rfl, by kernel_rfl, by kernel_rfl, ?_⟩
  simp only [List.forall_mem_cons]
  exact ⟨⟨Tryz.underlying9, rfl⟩, ⟨Tryz.underlying3, rfl⟩, ⟨Tryz.underlying3, rfl⟩, fun x hx => by cases hx⟩
instance : TyU Tryz.prog 119 (.struct (Tryz.prog.fieldsOf 119)) := ⟨by kernel_rfl⟩
instance : TyI Tryz.prog 119 5 64 (.agg #[(.string ByteArray.empty), (.int .i64 (0)), (.int .i64 (0)), (.slice none 0 0), (.int .i64 (0))]) := tyi (by kernel_rfl)
instance : Fld Tryz.prog 119 0 0 4 true := fldok Tryz.underlying119 rfl rfl (by kernel_rfl) (i := ((Tryz.prog.info? 53).getD default)) (by kernel_rfl) Tryz.underlying53 rfl
instance : Fld Tryz.prog 119 1 4 1 false := fldok Tryz.underlying119 rfl rfl (by kernel_rfl) (i := ((Tryz.prog.info? 36).getD default)) (by kernel_rfl) Tryz.underlying36 rfl
instance : Bld Tryz.prog 119 [(0, 4), (4, 1)] [(.string ByteArray.empty), (.int .i64 (0)), (.int .i64 (0)), (.slice none 0 0), (.int .i64 (0))] := by
  refine ⟨_, ((Tryz.prog.info? 119).getD default), _, Tryz.underlying119, by kernel_rfl, (by kernel_rfl : _ = some (.agg #[(.string ByteArray.empty), (.int .i64 (0)), (.int .i64 (0)), (.slice none 0 0), (.int .i64 (0))])), rfl, fun w => by kernel_rfl⟩
instance : TyU Tryz.prog 120 (.struct (Tryz.prog.fieldsOf 120)) := ⟨by kernel_rfl⟩
instance : TyI Tryz.prog 120 5 64 (.agg #[(.string ByteArray.empty), (.int .i64 (0)), (.int .i64 (0)), (.slice none 0 0), (.int .i64 (0))]) := tyi (by kernel_rfl)
instance : Fld Tryz.prog 120 0 0 4 true := fldok Tryz.underlying120 rfl rfl (by kernel_rfl) (i := ((Tryz.prog.info? 53).getD default)) (by kernel_rfl) Tryz.underlying53 rfl
instance : Fld Tryz.prog 120 1 4 1 false := fldok Tryz.underlying120 rfl rfl (by kernel_rfl) (i := ((Tryz.prog.info? 36).getD default)) (by kernel_rfl) Tryz.underlying36 rfl
instance : Bld Tryz.prog 120 [(0, 4), (4, 1)] [(.string ByteArray.empty), (.int .i64 (0)), (.int .i64 (0)), (.slice none 0 0), (.int .i64 (0))] := by
  refine ⟨_, ((Tryz.prog.info? 120).getD default), _, Tryz.underlying120, by kernel_rfl, (by kernel_rfl : _ = some (.agg #[(.string ByteArray.empty), (.int .i64 (0)), (.int .i64 (0)), (.slice none 0 0), (.int .i64 (0))])), rfl, fun w => by kernel_rfl⟩
instance : TyU Tryz.prog 121 (.slice 54) := ⟨Tryz.underlying121⟩
instance : TyI Tryz.prog 121 1 24 (.slice none 0 0) := tyi (by kernel_rfl)
instance : TyU Tryz.prog 138 (.struct (Tryz.prog.fieldsOf 138)) := ⟨by kernel_rfl⟩
instance : TyI Tryz.prog 138 5 5 (.agg #[(.bool false), (.bool false), (.bool false), (.bool false), (.bool false)]) := tyi (by kernel_rfl)
instance : Fld Tryz.prog 138 0 0 1 false := fldok Tryz.underlying138 rfl rfl (by kernel_rfl) (i := ((Tryz.prog.info? 4).getD default)) (by kernel_rfl) Tryz.underlying4 rfl
instance : Fld Tryz.prog 138 1 1 1 false := fldok Tryz.underlying138 rfl rfl (by kernel_rfl) (i := ((Tryz.prog.info? 4).getD default)) (by kernel_rfl) Tryz.underlying4 rfl
instance : Fld Tryz.prog 138 2 2 1 false := fldok Tryz.underlying138 rfl rfl (by kernel_rfl) (i := ((Tryz.prog.info? 4).getD default)) (by kernel_rfl) Tryz.underlying4 rfl
instance : Fld Tryz.prog 138 3 3 1 false := fldok Tryz.underlying138 rfl rfl (by kernel_rfl) (i := ((Tryz.prog.info? 4).getD default)) (by kernel_rfl) Tryz.underlying4 rfl
instance : Fld Tryz.prog 138 4 4 1 false := fldok Tryz.underlying138 rfl rfl (by kernel_rfl) (i := ((Tryz.prog.info? 4).getD default)) (by kernel_rfl) Tryz.underlying4 rfl
instance : Bld Tryz.prog 138 [(0, 1), (1, 1), (2, 1), (3, 1), (4, 1)] [(.bool false), (.bool false), (.bool false), (.bool false), (.bool false)] := by
  refine ⟨_, ((Tryz.prog.info? 138).getD default), _, Tryz.underlying138, by kernel_rfl, (by kernel_rfl : _ = some (.agg #[(.bool false), (.bool false), (.bool false), (.bool false), (.bool false)])), rfl, fun w => by kernel_rfl⟩
instance : Flat Tryz.prog 138 [(4, .bool), (4, .bool), (4, .bool), (4, .bool), (4, .bool)] := by
  refine ⟨by kernel_rfl, by kernel_rfl, by kernel_rfl, by kernel_rfl, ?_⟩
  simp only [List.forall_mem_cons]
  exact ⟨⟨Tryz.underlying4, rfl⟩, ⟨Tryz.underlying4, rfl⟩, ⟨Tryz.underlying4, rfl⟩, ⟨Tryz.underlying4, rfl⟩, ⟨Tryz.underlying4, rfl⟩, fun x hx => by cases hx⟩
instance : TyU Tryz.prog 139 (.struct (Tryz.prog.fieldsOf 139)) := ⟨by kernel_rfl⟩
instance : TyI Tryz.prog 139 5 5 (.agg #[(.bool false), (.bool false), (.bool false), (.bool false), (.bool false)]) := tyi (by kernel_rfl)
instance : Fld Tryz.prog 139 0 0 1 false := fldok Tryz.underlying139 rfl rfl (by kernel_rfl) (i := ((Tryz.prog.info? 4).getD default)) (by kernel_rfl) Tryz.underlying4 rfl
instance : Fld Tryz.prog 139 1 1 1 false := fldok Tryz.underlying139 rfl rfl (by kernel_rfl) (i := ((Tryz.prog.info? 4).getD default)) (by kernel_rfl) Tryz.underlying4 rfl
instance : Fld Tryz.prog 139 2 2 1 false := fldok Tryz.underlying139 rfl rfl (by kernel_rfl) (i := ((Tryz.prog.info? 4).getD default)) (by kernel_rfl) Tryz.underlying4 rfl
instance : Fld Tryz.prog 139 3 3 1 false := fldok Tryz.underlying139 rfl rfl (by kernel_rfl) (i := ((Tryz.prog.info? 4).getD default)) (by kernel_rfl) Tryz.underlying4 rfl
instance : Fld Tryz.prog 139 4 4 1 false := fldok Tryz.underlying139 rfl rfl (by kernel_rfl) (i := ((Tryz.prog.info? 4).getD default)) (by kernel_rfl) Tryz.underlying4 rfl
instance : Bld Tryz.prog 139 [(0, 1), (1, 1), (2, 1), (3, 1), (4, 1)] [(.bool false), (.bool false), (.bool false), (.bool false), (.bool false)] := by
  refine ⟨_, ((Tryz.prog.info? 139).getD default), _, Tryz.underlying139, by kernel_rfl, (by kernel_rfl : _ = some (.agg #[(.bool false), (.bool false), (.bool false), (.bool false), (.bool false)])), rfl, fun w => by kernel_rfl⟩
instance : Flat Tryz.prog 139 [(4, .bool), (4, .bool), (4, .bool), (4, .bool), (4, .bool)] := by
  refine ⟨by kernel_rfl, by kernel_rfl, by kernel_rfl, by kernel_rfl, ?_⟩
  simp only [List.forall_mem_cons]
  exact ⟨⟨Tryz.underlying4, rfl⟩, ⟨Tryz.underlying4, rfl⟩, ⟨Tryz.underlying4, rfl⟩, ⟨Tryz.underlying4, rfl⟩, ⟨Tryz.underlying4, rfl⟩, fun x hx => by cases hx⟩
instance : TyU Tryz.prog 145 (.int .u64) := ⟨Tryz.underlying145⟩
instance : TyI Tryz.prog 145 1 8 (.int .u64 (0)) := tyi (by kernel_rfl)
instance : TyU Tryz.prog 146 (.int .u32) := ⟨Tryz.underlying146⟩
instance : TyI Tryz.prog 146 1 4 (.int .u32 (0)) := tyi (by kernel_rfl)
instance : TyU Tryz.prog 148 (.slice 22) := ⟨Tryz.underlying148⟩
instance : TyI Tryz.prog 148 1 24 (.slice none 0 0) := tyi (by kernel_rfl)
instance : TyU Tryz.prog 150 (.pointer 9) := ⟨Tryz.underlying150⟩
instance : TyI Tryz.prog 150 1 8 (.pointer none) := tyi (by kernel_rfl)
instance : TyU Tryz.prog 151 (.array 2 150) := ⟨Tryz.underlying151⟩
instance : TyI Tryz.prog 151 2 16 (.agg #[(.pointer none), (.pointer none)]) := tyi (by kernel_rfl)
instance : TyU Tryz.prog 154 (.pointer 3) := ⟨Tryz.underlying154⟩
instance : TyI Tryz.prog 154 1 8 (.pointer none) := tyi (by kernel_rfl)
instance : TyU Tryz.prog 155 (.array 3 154) := ⟨Tryz.underlying155⟩
instance : TyI Tryz.prog 155 3 24 (.agg #[(.pointer none), (.pointer none), (.pointer none)]) := tyi (by kernel_rfl)
instance : TyU Tryz.prog 191 (.map 9 3) := ⟨Tryz.underlying191⟩
instance : TyI Tryz.prog 191 1 8 (.map none) := tyi (by kernel_rfl)
instance : TyU Tryz.prog 192 (.map 114 3) := ⟨Tryz.underlying192⟩
instance : TyI Tryz.prog 192 1 8 (.map none) := tyi (by kernel_rfl)
instance : TyU Tryz.prog 199 (.pointer 201) := ⟨Tryz.underlying199⟩
instance : TyI Tryz.prog 199 1 8 (.pointer none) := tyi (by kernel_rfl)
instance : TyU Tryz.prog 200 (.struct (Tryz.prog.fieldsOf 200)) := ⟨by kernel_rfl⟩
instance : TyI Tryz.prog 200 4 96 (.agg #[(.slice none 0 0), (.slice none 0 0), (.slice none 0 0), (.slice none 0 0)]) := tyi (by kernel_rfl)
instance : Fld Tryz.prog 200 0 0 1 false := fldok Tryz.underlying200 rfl rfl (by kernel_rfl) (i := ((Tryz.prog.info? 51).getD default)) (by kernel_rfl) Tryz.underlying51 rfl
instance : Fld Tryz.prog 200 1 1 1 false := fldok Tryz.underlying200 rfl rfl (by kernel_rfl) (i := ((Tryz.prog.info? 54).getD default)) (by kernel_rfl) Tryz.underlying54 rfl
instance : Fld Tryz.prog 200 2 2 1 false := fldok Tryz.underlying200 rfl rfl (by kernel_rfl) (i := ((Tryz.prog.info? 48).getD default)) (by kernel_rfl) Tryz.underlying48 rfl
instance : Fld Tryz.prog 200 3 3 1 false := fldok Tryz.underlying200 rfl rfl (by kernel_rfl) (i := ((Tryz.prog.info? 48).getD default)) (by kernel_rfl) Tryz.underlying48 rfl
instance : Bld Tryz.prog 200 [(0, 1), (1, 1), (2, 1), (3, 1)] [(.slice none 0 0), (.slice none 0 0), (.slice none 0 0), (.slice none 0 0)] := by
  refine ⟨_, ((Tryz.prog.info? 200).getD default), _, Tryz.underlying200, by kernel_rfl, (by kernel_rfl : _ = some (.agg #[(.slice none 0 0), (.slice none 0 0), (.slice none 0 0), (.slice none 0 0)])), rfl, fun w => by kernel_rfl⟩
instance : TyU Tryz.prog 201 (.struct (Tryz.prog.fieldsOf 201)) := ⟨by kernel_rfl⟩
instance : TyI Tryz.prog 201 4 96 (.agg #[(.slice none 0 0), (.slice none 0 0), (.slice none 0 0), (.slice none 0 0)]) := tyi (by kernel_rfl)
instance : Fld Tryz.prog 201 0 0 1 false := fldok Tryz.underlying201 rfl rfl (by kernel_rfl) (i := ((Tryz.prog.info? 51).getD default)) (by kernel_rfl) Tryz.underlying51 rfl
instance : Fld Tryz.prog 201 1 1 1 false := fldok Tryz.underlying201 rfl rfl (by kernel_rfl) (i := ((Tryz.prog.info? 54).getD default)) (by kernel_rfl) Tryz.underlying54 rfl
instance : Fld Tryz.prog 201 2 2 1 false := fldok Tryz.underlying201 rfl rfl (by kernel_rfl) (i := ((Tryz.prog.info? 48).getD default)) (by kernel_rfl) Tryz.underlying48 rfl
instance : Fld Tryz.prog 201 3 3 1 false := fldok Tryz.underlying201 rfl rfl (by kernel_rfl) (i := ((Tryz.prog.info? 48).getD default)) (by kernel_rfl) Tryz.underlying48 rfl
instance : Bld Tryz.prog 201 [(0, 1), (1, 1), (2, 1), (3, 1)] [(.slice none 0 0), (.slice none 0 0), (.slice none 0 0), (.slice none 0 0)] := by
  refine ⟨_, ((Tryz.prog.info? 201).getD default), _, Tryz.underlying201, by kernel_rfl, (by kernel_rfl : _ = some (.agg #[(.slice none 0 0), (.slice none 0 0), (.slice none 0 0), (.slice none 0 0)])), rfl, fun w => by kernel_rfl⟩
instance : TyU Tryz.prog 206 (.map 114 208) := ⟨Tryz.underlying206⟩
instance : TyI Tryz.prog 206 1 8 (.map none) := tyi (by kernel_rfl)
instance : TyU Tryz.prog 208 (.map 3 4) := ⟨Tryz.underlying208⟩
instance : TyI Tryz.prog 208 1 8 (.map none) := tyi (by kernel_rfl)
instance : TyU Tryz.prog 251 (.array 16 146) := ⟨Tryz.underlying251⟩
instance : TyI Tryz.prog 251 16 64 (.agg #[(.int .u32 (0)), (.int .u32 (0)), (.int .u32 (0)), (.int .u32 (0)), (.int .u32 (0)), (.int .u32 (0)), (.int .u32 (0)), (.int .u32 (0)), (.int .u32 (0)), (.int .u32 (0)), (.int .u32 (0)), (.int .u32 (0)), (.int .u32 (0)), (.int .u32 (0)), (.int .u32 (0)), (.int .u32 (0))]) := tyi (by kernel_rfl)
instance : TyU Tryz.prog 272 (.array 0 16) := ⟨Tryz.underlying272⟩
instance : TyI Tryz.prog 272 0 0 (.agg #[]) := tyi (by kernel_rfl)
instance : TyU Tryz.prog 276 (.int .u8) := ⟨Tryz.underlying276⟩
instance : TyI Tryz.prog 276 1 1 (.int .u8 (0)) := tyi (by kernel_rfl)
instance : TyU Tryz.prog 277 (.int .u8) := ⟨Tryz.underlying277⟩
instance : TyI Tryz.prog 277 1 1 (.int .u8 (0)) := tyi (by kernel_rfl)
instance : TyU Tryz.prog 279 (.pointer 5) := ⟨Tryz.underlying279⟩
instance : TyI Tryz.prog 279 1 8 (.pointer none) := tyi (by kernel_rfl)
instance : TyU Tryz.prog 280 (.int .i32) := ⟨Tryz.underlying280⟩
instance : TyI Tryz.prog 280 1 4 (.int .i32 (0)) := tyi (by kernel_rfl)
instance : TyU Tryz.prog 281 (.int .i32) := ⟨Tryz.underlying281⟩
instance : TyI Tryz.prog 281 1 4 (.int .i32 (0)) := tyi (by kernel_rfl)
instance : TyU Tryz.prog 282 (.struct (Tryz.prog.fieldsOf 282)) := ⟨by kernel_rfl⟩
instance : TyI Tryz.prog 282 11 48 (.agg #[(.int .u64 (0)), (.int .u64 (0)), (.int .u32 (0)), (.int .u8 (0)), (.int .u8 (0)), (.int .u8 (0)), (.int .u8 (0)), .nilFunc, (.pointer none), (.int .i32 (0)), (.int .i32 (0))]) := tyi (by kernel_rfl)
instance : Fld Tryz.prog 282 0 0 1 false := fldok Tryz.underlying282 rfl rfl (by kernel_rfl) (i := ((Tryz.prog.info? 12).getD default)) (by kernel_rfl) Tryz.underlying12 rfl
instance : Fld Tryz.prog 282 1 1 1 false := fldok Tryz.underlying282 rfl rfl (by kernel_rfl) (i := ((Tryz.prog.info? 12).getD default)) (by kernel_rfl) Tryz.underlying12 rfl
instance : Fld Tryz.prog 282 2 2 1 false := fldok Tryz.underlying282 rfl rfl (by kernel_rfl) (i := ((Tryz.prog.info? 146).getD default)) (by kernel_rfl) Tryz.underlying146 rfl
instance : Fld Tryz.prog 282 3 3 1 false := fldok Tryz.underlying282 rfl rfl (by kernel_rfl) (i := ((Tryz.prog.info? 276).getD default)) (by kernel_rfl) Tryz.underlying276 rfl
instance : Fld Tryz.prog 282 4 4 1 false := fldok Tryz.underlying282 rfl rfl (by kernel_rfl) (i := ((Tryz.prog.info? 5).getD default)) (by kernel_rfl) Tryz.underlying5 rfl
instance : Fld Tryz.prog 282 5 5 1 false := fldok Tryz.underlying282 rfl rfl (by kernel_rfl) (i := ((Tryz.prog.info? 5).getD default)) (by kernel_rfl) Tryz.underlying5 rfl
instance : Fld Tryz.prog 282 6 6 1 false := fldok Tryz.underlying282 rfl rfl (by kernel_rfl) (i := ((Tryz.prog.info? 277).getD default)) (by kernel_rfl) Tryz.underlying277 rfl
instance : Fld Tryz.prog 282 8 8 1 false := fldok Tryz.underlying282 rfl rfl (by kernel_rfl) (i := ((Tryz.prog.info? 279).getD default)) (by kernel_rfl) Tryz.underlying279 rfl
instance : Fld Tryz.prog 282 9 9 1 false := fldok Tryz.underlying282 rfl rfl (by kernel_rfl) (i := ((Tryz.prog.info? 280).getD default)) (by kernel_rfl) Tryz.underlying280 rfl
instance : Fld Tryz.prog 282 10 10 1 false := fldok Tryz.underlying282 rfl rfl (by kernel_rfl) (i := ((Tryz.prog.info? 281).getD default)) (by kernel_rfl) Tryz.underlying281 rfl
instance : TyU Tryz.prog 283 (.struct (Tryz.prog.fieldsOf 283)) := ⟨by kernel_rfl⟩
instance : TyI Tryz.prog 283 11 48 (.agg #[(.int .u64 (0)), (.int .u64 (0)), (.int .u32 (0)), (.int .u8 (0)), (.int .u8 (0)), (.int .u8 (0)), (.int .u8 (0)), .nilFunc, (.pointer none), (.int .i32 (0)), (.int .i32 (0))]) := tyi (by kernel_rfl)
instance : Fld Tryz.prog 283 0 0 1 false := fldok Tryz.underlying283 rfl rfl (by kernel_rfl) (i := ((Tryz.prog.info? 12).getD default)) (by kernel_rfl) Tryz.underlying12 rfl
instance : Fld Tryz.prog 283 1 1 1 false := fldok Tryz.underlying283 rfl rfl (by kernel_rfl) (i := ((Tryz.prog.info? 12).getD default)) (by kernel_rfl) Tryz.underlying12 rfl
instance : Fld Tryz.prog 283 2 2 1 false := fldok Tryz.underlying283 rfl rfl (by kernel_rfl) (i := ((Tryz.prog.info? 146).getD default)) (by kernel_rfl) Tryz.underlying146 rfl
instance : Fld Tryz.prog 283 3 3 1 false := fldok Tryz.underlying283 rfl rfl (by kernel_rfl) (i := ((Tryz.prog.info? 276).getD default)) (by kernel_rfl) Tryz.underlying276 rfl
instance : Fld Tryz.prog 283 4 4 1 false := fldok Tryz.underlying283 rfl rfl (by kernel_rfl) (i := ((Tryz.prog.info? 5).getD default)) (by kernel_rfl) Tryz.underlying5 rfl
instance : Fld Tryz.prog 283 5 5 1 false := fldok Tryz.underlying283 rfl rfl (by kernel_rfl) (i := ((Tryz.prog.info? 5).getD default)) (by kernel_rfl) Tryz.underlying5 rfl
instance : Fld Tryz.prog 283 6 6 1 false := fldok Tryz.underlying283 rfl rfl (by kernel_rfl) (i := ((Tryz.prog.info? 277).getD default)) (by kernel_rfl) Tryz.underlying277 rfl
instance : Fld Tryz.prog 283 8 8 1 false := fldok Tryz.underlying283 rfl rfl (by kernel_rfl) (i := ((Tryz.prog.info? 279).getD default)) (by kernel_rfl) Tryz.underlying279 rfl
instance : Fld Tryz.prog 283 9 9 1 false := fldok Tryz.underlying283 rfl rfl (by kernel_rfl) (i := ((Tryz.prog.info? 280).getD default)) (by kernel_rfl) Tryz.underlying280 rfl
instance : Fld Tryz.prog 283 10 10 1 false := fldok Tryz.underlying283 rfl rfl (by kernel_rfl) (i := ((Tryz.prog.info? 281).getD default)) (by kernel_rfl) Tryz.underlying281 rfl
instance : FnOk Tryz.prog 3 := fnok (by kernel_rfl)
instance : FnOk Tryz.prog 4 := fnok (by kernel_rfl)
instance : FnOk Tryz.prog 5 := fnok (by kernel_rfl)
instance : FnOk Tryz.prog 6 := fnok (by kernel_rfl)
instance : FnOk Tryz.prog 7 := fnok (by kernel_rfl)
instance : FnOk Tryz.prog 8 := fnok (by kernel_rfl)
instance : FnOk Tryz.prog 9 := fnok (by kernel_rfl)
instance : FnOk Tryz.prog 10 := fnok (by kernel_rfl)
instance : FnOk Tryz.prog 11 := fnok (by kernel_rfl)
instance : FnOk Tryz.prog 12 := fnok (by kernel_rfl)
instance : FnOk Tryz.prog 13 := fnok (by kernel_rfl)
instance : FnOk Tryz.prog 14 := fnok (by kernel_rfl)
instance : FnOk Tryz.prog 15 := fnok (by kernel_rfl)
instance : FnOk Tryz.prog 16 := fnok (by kernel_rfl)
instance : FnOk Tryz.prog 17 := fnok (by kernel_rfl)
instance : FnOk Tryz.prog 18 := fnok (by kernel_rfl)
instance : FnOk Tryz.prog 19 := fnok (by kernel_rfl)
instance : FnOk Tryz.prog 20 := fnok (by kernel_rfl)
instance : FnOk Tryz.prog 21 := fnok (by kernel_rfl)
instance : FnOk Tryz.prog 22 := fnok (by kernel_rfl)
instance : FnOk Tryz.prog 23 := fnok (by kernel_rfl)
instance : FnOk Tryz.prog 24 := fnok (by kernel_rfl)
instance : FnOk Tryz.prog 25 := fnok (by kernel_rfl)
instance : FnOk Tryz.prog 26 := fnok (by kernel_rfl)
instance : FnOk Tryz.prog 27 := fnok (by kernel_rfl)
instance : FnOk Tryz.prog 28 := fnok (by kernel_rfl)
instance : FnOk Tryz.prog 29 := fnok (by kernel_rfl)
instance : FnOk Tryz.prog 30 := fnok (by kernel_rfl)
instance : FnOk Tryz.prog 31 := fnok (by kernel_rfl)
instance : FnOk Tryz.prog 32 := fnok (by kernel_rfl)
instance : FnOk Tryz.prog 33 := fnok (by kernel_rfl)
instance : FnOk Tryz.prog 34 := fnok (by kernel_rfl)
instance : FnOk Tryz.prog 35 := fnok (by kernel_rfl)
instance : FnOk Tryz.prog 36 := fnok (by kernel_rfl)
instance : FnOk Tryz.prog 37 := fnok (by kernel_rfl)
instance : FnOk Tryz.prog 38 := fnok (by kernel_rfl)
instance : FnOk Tryz.prog 39 := fnok (by kernel_rfl)
instance : FnOk Tryz.prog 40 := fnok (by kernel_rfl)
instance : FnOk Tryz.prog 41 := fnok (by kernel_rfl)
instance : FnOk Tryz.prog 42 := fnok (by kernel_rfl)
instance : FnOk Tryz.prog 43 := fnok (by kernel_rfl)
instance : FnOk Tryz.prog 44 := fnok (by kernel_rfl)
instance : FnOk Tryz.prog 45 := fnok (by kernel_rfl)
instance : FnOk Tryz.prog 46 := fnok (by kernel_rfl)
instance : FnOk Tryz.prog 47 := fnok (by kernel_rfl)
instance : FnOk Tryz.prog 48 := fnok (by kernel_rfl)
instance : FnOk Tryz.prog 49 := fnok (by kernel_rfl)
instance : FnOk Tryz.prog 50 := fnok (by kernel_rfl)
instance : FnOk Tryz.prog 51 := fnok (by kernel_rfl)
instance : FnOk Tryz.prog 52 := fnok (by kernel_rfl)
instance : FnOk Tryz.prog 53 := fnok (by kernel_rfl)
instance : FnOk Tryz.prog 54 := fnok (by kernel_rfl)
instance : FnOk Tryz.prog 55 := fnok (by kernel_rfl)
instance : FnOk Tryz.prog 56 := fnok (by kernel_rfl)
instance : FnOk Tryz.prog 57 := fnok (by kernel_rfl)
instance : FnOk Tryz.prog 58 := fnok (by kernel_rfl)
instance : FnOk Tryz.prog 59 := fnok (by kernel_rfl)
instance : FnOk Tryz.prog 60 := fnok (by kernel_rfl)
instance : FnOk Tryz.prog 61 := fnok (by kernel_rfl)
instance : FnOk Tryz.prog 62 := fnok (by kernel_rfl)
instance : FnOk Tryz.prog 63 := fnok (by kernel_rfl)
instance : FnOk Tryz.prog 64 := fnok (by kernel_rfl)
instance : FnOk Tryz.prog 65 := fnok (by kernel_rfl)
instance : FnOk Tryz.prog 66 := fnok (by kernel_rfl)
instance : FnOk Tryz.prog 67 := fnok (by kernel_rfl)
instance : FnOk Tryz.prog 68 := fnok (by kernel_rfl)
instance : FnOk Tryz.prog 69 := fnok (by kernel_rfl)
instance : FnOk Tryz.prog 70 := fnok (by kernel_rfl)
instance : FnOk Tryz.prog 71 := fnok (by kernel_rfl)
instance : FnOk Tryz.prog 72 := fnok (by kernel_rfl)
instance : FnOk Tryz.prog 73 := fnok (by kernel_rfl)
instance : FnOk Tryz.prog 74 := fnok (by kernel_rfl)
instance : FnOk Tryz.prog 75 := fnok (by kernel_rfl)
instance : FnOk Tryz.prog 76 := fnok (by kernel_rfl)
instance : FnOk Tryz.prog 77 := fnok (by kernel_rfl)
instance : FnOk Tryz.prog 78 := fnok (by kernel_rfl)
instance : FnOk Tryz.prog 79 := fnok (by kernel_rfl)
instance : FnOk Tryz.prog 80 := fnok (by kernel_rfl)
instance : FnOk Tryz.prog 81 := fnok (by kernel_rfl)
instance : FnOk Tryz.prog 82 := fnok (by kernel_rfl)
instance : FnOk Tryz.prog 83 := fnok (by kernel_rfl)
instance : FnOk Tryz.prog 84 := fnok (by kernel_rfl)
instance : FnOk Tryz.prog 85 := fnok (by kernel_rfl)
instance : FnOk Tryz.prog 86 := fnok (by kernel_rfl)
instance : FnOk Tryz.prog 87 := fnok (by kernel_rfl)
instance : FnOk Tryz.prog 88 := fnok (by kernel_rfl)
instance : FnOk Tryz.prog 89 := fnok (by kernel_rfl)
instance : FnOk Tryz.prog 90 := fnok (by kernel_rfl)
instance : FnOk Tryz.prog 91 := fnok (by kernel_rfl)
instance : FnOk Tryz.prog 92 := fnok (by kernel_rfl)
instance : FnOk Tryz.prog 93 := fnok (by kernel_rfl)
instance : FnOk Tryz.prog 94 := fnok (by kernel_rfl)
instance : FnOk Tryz.prog 95 := fnok (by kernel_rfl)
instance : FnOk Tryz.prog 96 := fnok (by kernel_rfl)
instance : FnOk Tryz.prog 97 := fnok (by kernel_rfl)
instance : FnOk Tryz.prog 98 := fnok (by kernel_rfl)
instance : FnOk Tryz.prog 99 := fnok (by kernel_rfl)
instance : FnOk Tryz.prog 100 := fnok (by kernel_rfl)
instance : FnOk Tryz.prog 101 := fnok (by kernel_rfl)
instance : FnOk Tryz.prog 102 := fnok (by kernel_rfl)
instance : FnOk Tryz.prog 103 := fnok (by kernel_rfl)
instance : FnOk Tryz.prog 104 := fnok (by kernel_rfl)
instance : FnOk Tryz.prog 105 := fnok (by kernel_rfl)
instance : FnOk Tryz.prog 106 := fnok (by kernel_rfl)
instance : FnOk Tryz.prog 107 := fnok (by kernel_rfl)
instance : FnOk Tryz.prog 108 := fnok (by kernel_rfl)
instance : FnOk Tryz.prog 109 := fnok (by kernel_rfl)
instance : FnOk Tryz.prog 110 := fnok (by kernel_rfl)
instance : FnOk Tryz.prog 111 := fnok (by kernel_rfl)
instance : FnOk Tryz.prog 112 := fnok (by kernel_rfl)
instance : FnOk Tryz.prog 113 := fnok (by kernel_rfl)
instance : FnOk Tryz.prog 114 := fnok (by kernel_rfl)
instance : FnOk Tryz.prog 115 := fnok (by kernel_rfl)
instance : FnOk Tryz.prog 116 := fnok (by kernel_rfl)
instance : FnOk Tryz.prog 117 := fnok (by kernel_rfl)
instance : FnOk Tryz.prog 118 := fnok (by kernel_rfl)
instance : FnOk Tryz.prog 119 := fnok (by kernel_rfl)
instance : FnOk Tryz.prog 120 := fnok (by kernel_rfl)
instance : FnOk Tryz.prog 121 := fnok (by kernel_rfl)
instance : FnOk Tryz.prog 122 := fnok (by kernel_rfl)
instance : FnOk Tryz.prog 123 := fnok (by kernel_rfl)
instance : FnOk Tryz.prog 124 := fnok (by kernel_rfl)
instance : FnOk Tryz.prog 125 := fnok (by kernel_rfl)
instance : FnOk Tryz.prog 126 := fnok (by kernel_rfl)
instance : FnOk Tryz.prog 127 := fnok (by kernel_rfl)
instance : FnOk Tryz.prog 128 := fnok (by kernel_rfl)
instance : FnOk Tryz.prog 129 := fnok (by kernel_rfl)
instance : FnOk Tryz.prog 130 := fnok (by kernel_rfl)
instance : FnOk Tryz.prog 131 := fnok (by kernel_rfl)
instance : FnOk Tryz.prog 132 := fnok (by kernel_rfl)
instance : FnOk Tryz.prog 133 := fnok (by kernel_rfl)
instance : FnOk Tryz.prog 134 := fnok (by kernel_rfl)
instance : FnOk Tryz.prog 135 := fnok (by kernel_rfl)
instance : FnOk Tryz.prog 136 := fnok (by kernel_rfl)
instance : FnOk Tryz.prog 137 := fnok (by kernel_rfl)
instance : FnOk Tryz.prog 138 := fnok (by kernel_rfl)
instance : FnOk Tryz.prog 139 := fnok (by kernel_rfl)
instance : FnOk Tryz.prog 140 := fnok (by kernel_rfl)
instance : FnOk Tryz.prog 141 := fnok (by kernel_rfl)
instance : FnOk Tryz.prog 142 := fnok (by kernel_rfl)
instance : FnOk Tryz.prog 143 := fnok (by kernel_rfl)
instance : FnOk Tryz.prog 144 := fnok (by kernel_rfl)
instance : FnOk Tryz.prog 145 := fnok (by kernel_rfl)
instance : FnOk Tryz.prog 146 := fnok (by kernel_rfl)
instance : FnOk Tryz.prog 147 := fnok (by kernel_rfl)
instance : FnOk Tryz.prog 148 := fnok (by kernel_rfl)
instance : FnOk Tryz.prog 149 := fnok (by kernel_rfl)
instance : FnOk Tryz.prog 150 := fnok (by kernel_rfl)
instance : FnOk Tryz.prog 151 := fnok (by kernel_rfl)
instance : FnOk Tryz.prog 152 := fnok (by kernel_rfl)
instance : FnOk Tryz.prog 153 := fnok (by kernel_rfl)
instance : FnOk Tryz.prog 154 := fnok (by kernel_rfl)
instance : FnOk Tryz.prog 155 := fnok (by kernel_rfl)
instance : FnOk Tryz.prog 156 := fnok (by kernel_rfl)
instance : FnOk Tryz.prog 157 := fnok (by kernel_rfl)
instance : FnOk Tryz.prog 158 := fnok (by kernel_rfl)
instance : FnOk Tryz.prog 159 := fnok (by kernel_rfl)
instance : FnOk Tryz.prog 160 := fnok (by kernel_rfl)
instance : FnOk Tryz.prog 161 := fnok (by kernel_rfl)
instance : FnOk Tryz.prog 162 := fnok (by kernel_rfl)
instance : FnOk Tryz.prog 163 := fnok (by kernel_rfl)
instance : FnOk Tryz.prog 164 := fnok (by kernel_rfl)
instance : FnOk Tryz.prog 165 := fnok (by kernel_rfl)
instance : FnOk Tryz.prog 166 := fnok (by kernel_rfl)
instance : FnOk Tryz.prog 167 := fnok (by kernel_rfl)
instance : FnOk Tryz.prog 168 := fnok (by kernel_rfl)
instance : FnOk Tryz.prog 169 := fnok (by kernel_rfl)
instance : FnOk Tryz.prog 170 := fnok (by kernel_rfl)
instance : FnOk Tryz.prog 171 := fnok (by kernel_rfl)
instance : FnOk Tryz.prog 172 := fnok (by kernel_rfl)
instance : FnOk Tryz.prog 173 := fnok (by kernel_rfl)
instance : FnOk Tryz.prog 174 := fnok (by kernel_rfl)
instance : FnOk Tryz.prog 175 := fnok (by kernel_rfl)
instance : FnOk Tryz.prog 176 := fnok (by kernel_rfl)
instance : FnOk Tryz.prog 177 := fnok (by kernel_rfl)
instance : FnOk Tryz.prog 178 := fnok (by kernel_rfl)
instance : FnOk Tryz.prog 179 := fnok (by kernel_rfl)
instance : FnOk Tryz.prog 180 := fnok (by kernel_rfl)
instance : FnOk Tryz.prog 181 := fnok (by kernel_rfl)
instance : FnOk Tryz.prog 182 := fnok (by kernel_rfl)
instance : FnOk Tryz.prog 183 := fnok (by kernel_rfl)
instance : FnOk Tryz.prog 184 := fnok (by kernel_rfl)
instance : FnOk Tryz.prog 185 := fnok (by kernel_rfl)
instance : FnOk Tryz.prog 186 := fnok (by kernel_rfl)
instance : FnOk Tryz.prog 187 := fnok (by kernel_rfl)
instance : FnOk Tryz.prog 188 := fnok (by kernel_rfl)
instance : FnOk Tryz.prog 189 := fnok (by kernel_rfl)
instance : FnOk Tryz.prog 190 := fnok (by kernel_rfl)
instance : FnOk Tryz.prog 191 := fnok (by kernel_rfl)
instance : FnOk Tryz.prog 192 := fnok (by kernel_rfl)
instance : FnOk Tryz.prog 193 := fnok (by kernel_rfl)
instance : FnOk Tryz.prog 194 := fnok (by kernel_rfl)
instance : FnOk Tryz.prog 195 := fnok (by kernel_rfl)
instance : FnOk Tryz.prog 196 := fnok (by kernel_rfl)
instance : FnOk Tryz.prog 197 := fnok (by kernel_rfl)
instance : FnOk Tryz.prog 198 := fnok (by kernel_rfl)
instance : FnOk Tryz.prog 199 := fnok (by kernel_rfl)
instance : FnOk Tryz.prog 200 := fnok (by kernel_rfl)
instance : FnOk Tryz.prog 201 := fnok (by kernel_rfl)
instance : FnOk Tryz.prog 202 := fnok (by kernel_rfl)
instance : FnOk Tryz.prog 203 := fnok (by kernel_rfl)
instance : FnOk Tryz.prog 204 := fnok (by kernel_rfl)
instance : FnOk Tryz.prog 205 := fnok (by kernel_rfl)
instance : FnOk Tryz.prog 206 := fnok (by kernel_rfl)
instance : FnOk Tryz.prog 207 := fnok (by kernel_rfl)
instance : FnOk Tryz.prog 208 := fnok (by kernel_rfl)
instance : FnOk Tryz.prog 209 := fnok (by kernel_rfl)
instance : FnOk Tryz.prog 210 := fnok (by kernel_rfl)
instance : FnOk Tryz.prog 211 := fnok (by kernel_rfl)
instance : FnOk Tryz.prog 212 := fnok (by kernel_rfl)
instance : FnOk Tryz.prog 213 := fnok (by kernel_rfl)
instance : FnOk Tryz.prog 214 := fnok (by kernel_rfl)
instance : FnOk Tryz.prog 215 := fnok (by kernel_rfl)
instance : FnOk Tryz.prog 216 := fnok (by kernel_rfl)
instance : FnOk Tryz.prog 217 := fnok (by kernel_rfl)
instance : FnOk Tryz.prog 218 := fnok (by kernel_rfl)
instance : FnOk Tryz.prog 219 := fnok (by kernel_rfl)
instance : FnOk Tryz.prog 221 := fnok (by kernel_rfl)
instance : FnOk Tryz.prog 222 := fnok (by kernel_rfl)
instance : FnOk Tryz.prog 223 := fnok (by kernel_rfl)
instance : FnOk Tryz.prog 224 := fnok (by kernel_rfl)
instance : FnOk Tryz.prog 225 := fnok (by kernel_rfl)
instance : FnOk Tryz.prog 226 := fnok (by kernel_rfl)
instance : FnOk Tryz.prog 227 := fnok (by kernel_rfl)
instance : FnOk Tryz.prog 228 := fnok (by kernel_rfl)
instance : FnOk Tryz.prog 229 := fnok (by kernel_rfl)
instance : FnOk Tryz.prog 230 := fnok (by kernel_rfl)
instance : FnOk Tryz.prog 231 := fnok (by kernel_rfl)
instance : FnOk Tryz.prog 232 := fnok (by kernel_rfl)
instance : FnOk Tryz.prog 233 := fnok (by kernel_rfl)
instance : FnOk Tryz.prog 234 := fnok (by kernel_rfl)
instance : FnOk Tryz.prog 235 := fnok (by kernel_rfl)
instance : FnOk Tryz.prog 236 := fnok (by kernel_rfl)
instance : FnOk Tryz.prog 237 := fnok (by kernel_rfl)
instance : FnOk Tryz.prog 238 := fnok (by kernel_rfl)
instance : FnOk Tryz.prog 239 := fnok (by kernel_rfl)
instance : FnOk Tryz.prog 241 := fnok (by kernel_rfl)
instance : FnOk Tryz.prog 243 := fnok (by kernel_rfl)
instance : FnOk Tryz.prog 245 := fnok (by kernel_rfl)
instance : FnOk Tryz.prog 247 := fnok (by kernel_rfl)
instance : FnOk Tryz.prog 248 := fnok (by kernel_rfl)
instance : FnOk Tryz.prog 250 := fnok (by kernel_rfl)
instance : FnOk Tryz.prog 251 := fnok (by kernel_rfl)
instance : FnOk Tryz.prog 252 := fnok (by kernel_rfl)
instance : FnOk Tryz.prog 253 := fnok (by kernel_rfl)
instance : FnOk Tryz.prog 254 := fnok (by kernel_rfl)
instance : FnOk Tryz.prog 255 := fnok (by kernel_rfl)
instance : FnOk Tryz.prog 256 := fnok (by kernel_rfl)
instance : FnOk Tryz.prog 257 := fnok (by kernel_rfl)
instance : FnOk Tryz.prog 258 := fnok (by kernel_rfl)
instance : FnOk Tryz.prog 259 := fnok (by kernel_rfl)
instance : FnOk Tryz.prog 260 := fnok (by kernel_rfl)
end Go.Wm

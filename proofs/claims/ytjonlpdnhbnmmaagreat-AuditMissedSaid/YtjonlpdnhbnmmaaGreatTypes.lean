/-
  The facts on types and functions of this seat's program, written by a program of the prover's own out of the dump. Conditions: none.
-/
import Derived.Test.YtjonlpdnhbnmmaaGreatCoA
import Derived.Test.YtjonlpdnhbnmmaaGreatProg
import Derived.KernelRfl
set_option linter.all false
namespace Go.Wm
open Go.Proofs
set_option maxRecDepth 100000
theorem tyi {P : Program} {t : TypeId} {sz bs : Nat} {z : Value} (h : (P.info? t).map (fun i => (i.size, i.bytes, i.zero)) = some (sz, bs, some z)) : TyI P t sz bs z := by
  cases e : P.info? t with
  | none => simp [e] at h
  | some i => simp only [e, Option.map_some, Option.some.injEq, Prod.mk.injEq] at h; exact ⟨i, e, h.1, h.2.1, h.2.2⟩
theorem fnok {P : Program} {f : FuncId} (h : (P.funcs[f]?).map (fun fn => (fn.name == "runtime.NumGoroutine", fn.body.isNone)) = some (false, false)) : FnOk P f := by
  cases e : P.funcs[f]? with
  | none => simp [e] at h
  | some i => simp only [e, Option.map_some, Option.some.injEq, Prod.mk.injEq] at h; exact ⟨i, e, h.1, h.2⟩
theorem fldok {P : Program} {t f off sz : Nat} {ag : Bool} {fs : Array Field} {fd : Field} {i : TypeInfo} {d : TypeDesc} (h1 : P.underlying t = some (.struct fs)) (h2 : fs[f]? = some fd) (h3 : fd.offset = off) (h4 : P.info? fd.type = some i) (h5 : i.size = sz) (h6 : P.underlying fd.type = some d) (h7 : aggD d = ag) : Fld P t f off sz ag := ⟨fs, fd, d, i, h1, h2, h3, h4, h5, h6, h7⟩
instance : Mixed Tryz.prog := ⟨by kernel_rfl⟩
instance : TyU Tryz.prog 2 (.int .i64) := ⟨Tryz.underlying2⟩
instance : TyI Tryz.prog 2 1 8 (.int .i64 (0)) := tyi (by kernel_rfl)
instance : TyU Tryz.prog 3 (.int .i64) := ⟨Tryz.underlying3⟩
instance : TyI Tryz.prog 3 1 8 (.int .i64 (0)) := tyi (by kernel_rfl)
instance : TyU Tryz.prog 4 .bool := ⟨Tryz.underlying4⟩
instance : TyI Tryz.prog 4 1 1 (.bool false) := tyi (by kernel_rfl)
instance : TyU Tryz.prog 5 (.int .u8) := ⟨Tryz.underlying5⟩
instance : TyI Tryz.prog 5 1 1 (.int .u8 (0)) := tyi (by kernel_rfl)
instance : TyU Tryz.prog 6 (.int .u8) := ⟨Tryz.underlying6⟩
instance : TyI Tryz.prog 6 1 1 (.int .u8 (0)) := tyi (by kernel_rfl)
instance : TyU Tryz.prog 9 .string := ⟨Tryz.underlying9⟩
instance : TyI Tryz.prog 9 1 16 (.string ByteArray.empty) := tyi (by kernel_rfl)
instance : TyU Tryz.prog 10 .string := ⟨Tryz.underlying10⟩
instance : TyI Tryz.prog 10 1 16 (.string ByteArray.empty) := tyi (by kernel_rfl)
instance : TyU Tryz.prog 11 .string := ⟨Tryz.underlying11⟩
instance : TyI Tryz.prog 11 1 16 (.string ByteArray.empty) := tyi (by kernel_rfl)
instance : TyU Tryz.prog 12 (.int .u64) := ⟨Tryz.underlying12⟩
instance : TyI Tryz.prog 12 1 8 (.int .u64 (0)) := tyi (by kernel_rfl)
instance : TyU Tryz.prog 15 (.pointer 183) := ⟨Tryz.underlying15⟩
instance : TyI Tryz.prog 15 1 8 (.pointer none) := tyi (by kernel_rfl)
instance : TyU Tryz.prog 16 (.pointer 186) := ⟨Tryz.underlying16⟩
instance : TyI Tryz.prog 16 1 8 (.pointer none) := tyi (by kernel_rfl)
instance : TyU Tryz.prog 17 (.pointer 195) := ⟨Tryz.underlying17⟩
instance : TyI Tryz.prog 17 1 8 (.pointer none) := tyi (by kernel_rfl)
instance : TyU Tryz.prog 21 (.int .i32) := ⟨Tryz.underlying21⟩
instance : TyI Tryz.prog 21 1 4 (.int .i32 (0)) := tyi (by kernel_rfl)
instance : TyU Tryz.prog 22 (.slice 72) := ⟨Tryz.underlying22⟩
instance : TyI Tryz.prog 22 1 24 (.slice none 0 0) := tyi (by kernel_rfl)
instance : TyU Tryz.prog 23 (.slice 74) := ⟨Tryz.underlying23⟩
instance : TyI Tryz.prog 23 1 24 (.slice none 0 0) := tyi (by kernel_rfl)
instance : TyU Tryz.prog 24 (.struct (Tryz.prog.fieldsOf 24)) := ⟨by kernel_rfl⟩
instance : TyI Tryz.prog 24 3 72 (.agg #[(.slice none 0 0), (.slice none 0 0), (.slice none 0 0)]) := tyi (by kernel_rfl)
instance : Fld Tryz.prog 24 0 0 1 false := fldok Tryz.underlying24 rfl rfl (by kernel_rfl) (i := ((Tryz.prog.info? 22).getD default)) (by kernel_rfl) Tryz.underlying22 rfl
instance : Fld Tryz.prog 24 1 1 1 false := fldok Tryz.underlying24 rfl rfl (by kernel_rfl) (i := ((Tryz.prog.info? 23).getD default)) (by kernel_rfl) Tryz.underlying23 rfl
instance : Fld Tryz.prog 24 2 2 1 false := fldok Tryz.underlying24 rfl rfl (by kernel_rfl) (i := ((Tryz.prog.info? 23).getD default)) (by kernel_rfl) Tryz.underlying23 rfl
instance : Bld Tryz.prog 24 [(0, 1), (1, 1), (2, 1)] [(.slice none 0 0), (.slice none 0 0), (.slice none 0 0)] := by
  refine ⟨_, ((Tryz.prog.info? 24).getD default), _, Tryz.underlying24, by kernel_rfl, (by kernel_rfl : _ = some (.agg #[(.slice none 0 0), (.slice none 0 0), (.slice none 0 0)])), rfl, fun w => by kernel_rfl⟩
instance : TyU Tryz.prog 25 (.struct (Tryz.prog.fieldsOf 25)) := ⟨by kernel_rfl⟩
instance : TyI Tryz.prog 25 3 72 (.agg #[(.slice none 0 0), (.slice none 0 0), (.slice none 0 0)]) := tyi (by kernel_rfl)
instance : Fld Tryz.prog 25 0 0 1 false := fldok Tryz.underlying25 rfl rfl (by kernel_rfl) (i := ((Tryz.prog.info? 22).getD default)) (by kernel_rfl) Tryz.underlying22 rfl
instance : Fld Tryz.prog 25 1 1 1 false := fldok Tryz.underlying25 rfl rfl (by kernel_rfl) (i := ((Tryz.prog.info? 23).getD default)) (by kernel_rfl) Tryz.underlying23 rfl
instance : Fld Tryz.prog 25 2 2 1 false := fldok Tryz.underlying25 rfl rfl (by kernel_rfl) (i := ((Tryz.prog.info? 23).getD default)) (by kernel_rfl) Tryz.underlying23 rfl
instance : Bld Tryz.prog 25 [(0, 1), (1, 1), (2, 1)] [(.slice none 0 0), (.slice none 0 0), (.slice none 0 0)] := by
  refine ⟨_, ((Tryz.prog.info? 25).getD default), _, Tryz.underlying25, by kernel_rfl, (by kernel_rfl : _ = some (.agg #[(.slice none 0 0), (.slice none 0 0), (.slice none 0 0)])), rfl, fun w => by kernel_rfl⟩
instance : TyU Tryz.prog 26 (.slice 45) := ⟨Tryz.underlying26⟩
instance : TyI Tryz.prog 26 1 24 (.slice none 0 0) := tyi (by kernel_rfl)
instance : TyU Tryz.prog 39 (.struct (Tryz.prog.fieldsOf 39)) := ⟨by kernel_rfl⟩
instance : TyI Tryz.prog 39 3 32 (.agg #[(.string ByteArray.empty), (.int .i64 (0)), (.int .i64 (0))]) := tyi (by kernel_rfl)
instance : Fld Tryz.prog 39 0 0 1 false := fldok Tryz.underlying39 rfl rfl (by kernel_rfl) (i := ((Tryz.prog.info? 9).getD default)) (by kernel_rfl) Tryz.underlying9 rfl
instance : Fld Tryz.prog 39 1 1 1 false := fldok Tryz.underlying39 rfl rfl (by kernel_rfl) (i := ((Tryz.prog.info? 3).getD default)) (by kernel_rfl) Tryz.underlying3 rfl
instance : Fld Tryz.prog 39 2 2 1 false := fldok Tryz.underlying39 rfl rfl (by kernel_rfl) (i := ((Tryz.prog.info? 3).getD default)) (by kernel_rfl) Tryz.underlying3 rfl
instance : Bld Tryz.prog 39 [(0, 1), (1, 1), (2, 1)] [(.string ByteArray.empty), (.int .i64 (0)), (.int .i64 (0))] := by
  refine ⟨_, ((Tryz.prog.info? 39).getD default), _, Tryz.underlying39, by kernel_rfl, (by kernel_rfl : _ = some (.agg #[(.string ByteArray.empty), (.int .i64 (0)), (.int .i64 (0))])), rfl, fun w => by kernel_rfl⟩
instance : Flat Tryz.prog 39 [(9, .string), (3, (.int .i64)), (3, (.int .i64))] := by
  refine ⟨by kernel_rfl, by kernel_rfl, by kernel_rfl, by kernel_rfl, ?_⟩
  simp only [List.forall_mem_cons]
  exact ⟨⟨Tryz.underlying9, rfl⟩, ⟨Tryz.underlying3, rfl⟩, ⟨Tryz.underlying3, rfl⟩, fun x hx => by cases hx⟩
instance : TyU Tryz.prog 40 (.struct (Tryz.prog.fieldsOf 40)) := ⟨by kernel_rfl⟩
instance : TyI Tryz.prog 40 3 32 (.agg #[(.string ByteArray.empty), (.int .i64 (0)), (.int .i64 (0))]) := tyi (by kernel_rfl)
instance : Fld Tryz.prog 40 0 0 1 false := fldok Tryz.underlying40 rfl rfl (by kernel_rfl) (i := ((Tryz.prog.info? 9).getD default)) (by kernel_rfl) Tryz.underlying9 rfl
instance : Fld Tryz.prog 40 1 1 1 false := fldok Tryz.underlying40 rfl rfl (by kernel_rfl) (i := ((Tryz.prog.info? 3).getD default)) (by kernel_rfl) Tryz.underlying3 rfl
instance : Fld Tryz.prog 40 2 2 1 false := fldok Tryz.underlying40 rfl rfl (by kernel_rfl) (i := ((Tryz.prog.info? 3).getD default)) (by kernel_rfl) Tryz.underlying3 rfl
instance : Bld Tryz.prog 40 [(0, 1), (1, 1), (2, 1)] [(.string ByteArray.empty), (.int .i64 (0)), (.int .i64 (0))] := by
  refine ⟨_, ((Tryz.prog.info? 40).getD default), _, Tryz.underlying40, by kernel_rfl, (by kernel_rfl : _ = some (.agg #[(.string ByteArray.empty), (.int .i64 (0)), (.int .i64 (0))])), rfl, fun w => by kernel_rfl⟩
instance : Flat Tryz.prog 40 [(9, .string), (3, (.int .i64)), (3, (.int .i64))] := by
  refine ⟨by kernel_rfl, by kernel_rfl, by kernel_rfl, by kernel_rfl, ?_⟩
  simp only [List.forall_mem_cons]
  exact ⟨⟨Tryz.underlying9, rfl⟩, ⟨Tryz.underlying3, rfl⟩, ⟨Tryz.underlying3, rfl⟩, fun x hx => by cases hx⟩
instance : TyU Tryz.prog 43 (.slice 61) := ⟨Tryz.underlying43⟩
instance : TyI Tryz.prog 43 1 24 (.slice none 0 0) := tyi (by kernel_rfl)
instance : TyU Tryz.prog 44 (.struct (Tryz.prog.fieldsOf 44)) := ⟨by kernel_rfl⟩
instance : TyI Tryz.prog 44 10 96 (.agg #[(.int .i64 (0)), (.int .i64 (0)), (.int .i64 (0)), (.int .i64 (0)), (.int .i64 (0)), (.int .i64 (0)), (.int .i64 (0)), (.bool false), (.int .i64 (0)), (.slice none 0 0)]) := tyi (by kernel_rfl)
instance : Fld Tryz.prog 44 0 0 1 false := fldok Tryz.underlying44 rfl rfl (by kernel_rfl) (i := ((Tryz.prog.info? 3).getD default)) (by kernel_rfl) Tryz.underlying3 rfl
instance : Fld Tryz.prog 44 1 1 1 false := fldok Tryz.underlying44 rfl rfl (by kernel_rfl) (i := ((Tryz.prog.info? 3).getD default)) (by kernel_rfl) Tryz.underlying3 rfl
instance : Fld Tryz.prog 44 2 2 1 false := fldok Tryz.underlying44 rfl rfl (by kernel_rfl) (i := ((Tryz.prog.info? 3).getD default)) (by kernel_rfl) Tryz.underlying3 rfl
instance : Fld Tryz.prog 44 3 3 1 false := fldok Tryz.underlying44 rfl rfl (by kernel_rfl) (i := ((Tryz.prog.info? 3).getD default)) (by kernel_rfl) Tryz.underlying3 rfl
instance : Fld Tryz.prog 44 4 4 1 false := fldok Tryz.underlying44 rfl rfl (by kernel_rfl) (i := ((Tryz.prog.info? 3).getD default)) (by kernel_rfl) Tryz.underlying3 rfl
instance : Fld Tryz.prog 44 5 5 1 false := fldok Tryz.underlying44 rfl rfl (by kernel_rfl) (i := ((Tryz.prog.info? 3).getD default)) (by kernel_rfl) Tryz.underlying3 rfl
instance : Fld Tryz.prog 44 6 6 1 false := fldok Tryz.underlying44 rfl rfl (by kernel_rfl) (i := ((Tryz.prog.info? 3).getD default)) (by kernel_rfl) Tryz.underlying3 rfl
instance : Fld Tryz.prog 44 7 7 1 false := fldok Tryz.underlying44 rfl rfl (by kernel_rfl) (i := ((Tryz.prog.info? 4).getD default)) (by kernel_rfl) Tryz.underlying4 rfl
instance : Fld Tryz.prog 44 8 8 1 false := fldok Tryz.underlying44 rfl rfl (by kernel_rfl) (i := ((Tryz.prog.info? 3).getD default)) (by kernel_rfl) Tryz.underlying3 rfl
instance : Fld Tryz.prog 44 9 9 1 false := fldok Tryz.underlying44 rfl rfl (by kernel_rfl) (i := ((Tryz.prog.info? 43).getD default)) (by kernel_rfl) Tryz.underlying43 rfl
instance : Bld Tryz.prog 44 [(0, 1), (1, 1), (2, 1), (3, 1), (4, 1), (5, 1), (6, 1), (7, 1), (8, 1), (9, 1)] [(.int .i64 (0)), (.int .i64 (0)), (.int .i64 (0)), (.int .i64 (0)), (.int .i64 (0)), (.int .i64 (0)), (.int .i64 (0)), (.bool false), (.int .i64 (0)), (.slice none 0 0)] := by
  refine ⟨_, ((Tryz.prog.info? 44).getD default), _, Tryz.underlying44, by kernel_rfl, (by kernel_rfl : _ = some (.agg #[(.int .i64 (0)), (.int .i64 (0)), (.int .i64 (0)), (.int .i64 (0)), (.int .i64 (0)), (.int .i64 (0)), (.int .i64 (0)), (.bool false), (.int .i64 (0)), (.slice none 0 0)])), rfl, fun w => by kernel_rfl⟩
instance : TyU Tryz.prog 45 (.struct (Tryz.prog.fieldsOf 45)) := ⟨by kernel_rfl⟩
instance : TyI Tryz.prog 45 10 96 (.agg #[(.int .i64 (0)), (.int .i64 (0)), (.int .i64 (0)), (.int .i64 (0)), (.int .i64 (0)), (.int .i64 (0)), (.int .i64 (0)), (.bool false), (.int .i64 (0)), (.slice none 0 0)]) := tyi (by kernel_rfl)
instance : Fld Tryz.prog 45 0 0 1 false := fldok Tryz.underlying45 rfl rfl (by kernel_rfl) (i := ((Tryz.prog.info? 3).getD default)) (by kernel_rfl) Tryz.underlying3 rfl
instance : Fld Tryz.prog 45 1 1 1 false := fldok Tryz.underlying45 rfl rfl (by kernel_rfl) (i := ((Tryz.prog.info? 3).getD default)) (by kernel_rfl) Tryz.underlying3 rfl
instance : Fld Tryz.prog 45 2 2 1 false := fldok Tryz.underlying45 rfl rfl (by kernel_rfl) (i := ((Tryz.prog.info? 3).getD default)) (by kernel_rfl) Tryz.underlying3 rfl
instance : Fld Tryz.prog 45 3 3 1 false := fldok Tryz.underlying45 rfl rfl (by kernel_rfl) (i := ((Tryz.prog.info? 3).getD default)) (by kernel_rfl) Tryz.underlying3 rfl
instance : Fld Tryz.prog 45 4 4 1 false := fldok Tryz.underlying45 rfl rfl (by kernel_rfl) (i := ((Tryz.prog.info? 3).getD default)) (by kernel_rfl) Tryz.underlying3 rfl
instance : Fld Tryz.prog 45 5 5 1 false := fldok Tryz.underlying45 rfl rfl (by kernel_rfl) (i := ((Tryz.prog.info? 3).getD default)) (by kernel_rfl) Tryz.underlying3 rfl
instance : Fld Tryz.prog 45 6 6 1 false := fldok Tryz.underlying45 rfl rfl (by kernel_rfl) (i := ((Tryz.prog.info? 3).getD default)) (by kernel_rfl) Tryz.underlying3 rfl
instance : Fld Tryz.prog 45 7 7 1 false := fldok Tryz.underlying45 rfl rfl (by kernel_rfl) (i := ((Tryz.prog.info? 4).getD default)) (by kernel_rfl) Tryz.underlying4 rfl
instance : Fld Tryz.prog 45 8 8 1 false := fldok Tryz.underlying45 rfl rfl (by kernel_rfl) (i := ((Tryz.prog.info? 3).getD default)) (by kernel_rfl) Tryz.underlying3 rfl
instance : Fld Tryz.prog 45 9 9 1 false := fldok Tryz.underlying45 rfl rfl (by kernel_rfl) (i := ((Tryz.prog.info? 43).getD default)) (by kernel_rfl) Tryz.underlying43 rfl
instance : Bld Tryz.prog 45 [(0, 1), (1, 1), (2, 1), (3, 1), (4, 1), (5, 1), (6, 1), (7, 1), (8, 1), (9, 1)] [(.int .i64 (0)), (.int .i64 (0)), (.int .i64 (0)), (.int .i64 (0)), (.int .i64 (0)), (.int .i64 (0)), (.int .i64 (0)), (.bool false), (.int .i64 (0)), (.slice none 0 0)] := by
  refine ⟨_, ((Tryz.prog.info? 45).getD default), _, Tryz.underlying45, by kernel_rfl, (by kernel_rfl : _ = some (.agg #[(.int .i64 (0)), (.int .i64 (0)), (.int .i64 (0)), (.int .i64 (0)), (.int .i64 (0)), (.int .i64 (0)), (.int .i64 (0)), (.bool false), (.int .i64 (0)), (.slice none 0 0)])), rfl, fun w => by kernel_rfl⟩
instance : TyU Tryz.prog 46 (.slice 63) := ⟨Tryz.underlying46⟩
instance : TyI Tryz.prog 46 1 24 (.slice none 0 0) := tyi (by kernel_rfl)
instance : TyU Tryz.prog 48 (.int .i64) := ⟨Tryz.underlying48⟩
instance : TyI Tryz.prog 48 1 8 (.int .i64 (0)) := tyi (by kernel_rfl)
instance : TyU Tryz.prog 51 (.struct (Tryz.prog.fieldsOf 51)) := ⟨by kernel_rfl⟩
instance : TyI Tryz.prog 51 4 40 (.agg #[(.string ByteArray.empty), (.int .i64 (0)), (.int .i64 (0)), (.int .i64 (0))]) := tyi (by kernel_rfl)
instance : Fld Tryz.prog 51 0 0 3 true := fldok Tryz.underlying51 rfl rfl (by kernel_rfl) (i := ((Tryz.prog.info? 40).getD default)) (by kernel_rfl) Tryz.underlying40 rfl
instance : Fld Tryz.prog 51 1 3 1 false := fldok Tryz.underlying51 rfl rfl (by kernel_rfl) (i := ((Tryz.prog.info? 3).getD default)) (by kernel_rfl) Tryz.underlying3 rfl
instance : Bld Tryz.prog 51 [(0, 3), (3, 1)] [(.string ByteArray.empty), (.int .i64 (0)), (.int .i64 (0)), (.int .i64 (0))] := by
  refine ⟨_, ((Tryz.prog.info? 51).getD default), _, Tryz.underlying51, by kernel_rfl, (by kernel_rfl : _ = some (.agg #[(.string ByteArray.empty), (.int .i64 (0)), (.int .i64 (0)), (.int .i64 (0))])), rfl, fun w => by kernel_rfl⟩
instance : TyU Tryz.prog 52 (.struct (Tryz.prog.fieldsOf 52)) := ⟨by kernel_rfl⟩
instance : TyI Tryz.prog 52 4 40 (.agg #[(.string ByteArray.empty), (.int .i64 (0)), (.int .i64 (0)), (.int .i64 (0))]) := tyi (by kernel_rfl)
instance : Fld Tryz.prog 52 0 0 3 true := fldok Tryz.underlying52 rfl rfl (by kernel_rfl) (i := ((Tryz.prog.info? 40).getD default)) (by kernel_rfl) Tryz.underlying40 rfl
instance : Fld Tryz.prog 52 1 3 1 false := fldok Tryz.underlying52 rfl rfl (by kernel_rfl) (i := ((Tryz.prog.info? 3).getD default)) (by kernel_rfl) Tryz.underlying3 rfl
instance : Bld Tryz.prog 52 [(0, 3), (3, 1)] [(.string ByteArray.empty), (.int .i64 (0)), (.int .i64 (0)), (.int .i64 (0))] := by
  refine ⟨_, ((Tryz.prog.info? 52).getD default), _, Tryz.underlying52, by kernel_rfl, (by kernel_rfl : _ = some (.agg #[(.string ByteArray.empty), (.int .i64 (0)), (.int .i64 (0)), (.int .i64 (0))])), rfl, fun w => by kernel_rfl⟩
instance : TyU Tryz.prog 53 (.slice 52) := ⟨Tryz.underlying53⟩
instance : TyI Tryz.prog 53 1 24 (.slice none 0 0) := tyi (by kernel_rfl)
instance : TyU Tryz.prog 56 (.slice 65) := ⟨Tryz.underlying56⟩
instance : TyI Tryz.prog 56 1 24 (.slice none 0 0) := tyi (by kernel_rfl)
instance : TyU Tryz.prog 60 (.struct (Tryz.prog.fieldsOf 60)) := ⟨by kernel_rfl⟩
instance : TyI Tryz.prog 60 5 56 (.agg #[(.int .i64 (0)), (.string ByteArray.empty), (.string ByteArray.empty), (.bool false), (.int .i64 (0))]) := tyi (by kernel_rfl)
instance : Fld Tryz.prog 60 0 0 1 false := fldok Tryz.underlying60 rfl rfl (by kernel_rfl) (i := ((Tryz.prog.info? 3).getD default)) (by kernel_rfl) Tryz.underlying3 rfl
instance : Fld Tryz.prog 60 1 1 1 false := fldok Tryz.underlying60 rfl rfl (by kernel_rfl) (i := ((Tryz.prog.info? 9).getD default)) (by kernel_rfl) Tryz.underlying9 rfl
instance : Fld Tryz.prog 60 2 2 1 false := fldok Tryz.underlying60 rfl rfl (by kernel_rfl) (i := ((Tryz.prog.info? 9).getD default)) (by kernel_rfl) Tryz.underlying9 rfl
instance : Fld Tryz.prog 60 3 3 1 false := fldok Tryz.underlying60 rfl rfl (by kernel_rfl) (i := ((Tryz.prog.info? 4).getD default)) (by kernel_rfl) Tryz.underlying4 rfl
instance : Fld Tryz.prog 60 4 4 1 false := fldok Tryz.underlying60 rfl rfl (by kernel_rfl) (i := ((Tryz.prog.info? 3).getD default)) (by kernel_rfl) Tryz.underlying3 rfl
instance : Bld Tryz.prog 60 [(0, 1), (1, 1), (2, 1), (3, 1), (4, 1)] [(.int .i64 (0)), (.string ByteArray.empty), (.string ByteArray.empty), (.bool false), (.int .i64 (0))] := by
  refine ⟨_, ((Tryz.prog.info? 60).getD default), _, Tryz.underlying60, by kernel_rfl, (by kernel_rfl : _ = some (.agg #[(.int .i64 (0)), (.string ByteArray.empty), (.string ByteArray.empty), (.bool false), (.int .i64 (0))])), rfl, fun w => by kernel_rfl⟩
instance : Flat Tryz.prog 60 [(3, (.int .i64)), (9, .string), (9, .string), (4, .bool), (3, (.int .i64))] := by
  refine ⟨by kernel_rfl, by kernel_rfl, by kernel_rfl, by kernel_rfl, ?_⟩
  simp only [List.forall_mem_cons]
  exact ⟨⟨Tryz.underlying3, rfl⟩, ⟨Tryz.underlying9, rfl⟩, ⟨Tryz.underlying9, rfl⟩, ⟨Tryz.underlying4, rfl⟩, ⟨Tryz.underlying3, rfl⟩, fun x hx => by cases hx⟩
instance : TyU Tryz.prog 61 (.struct (Tryz.prog.fieldsOf 61)) := ⟨by kernel_rfl⟩
instance : TyI Tryz.prog 61 5 56 (.agg #[(.int .i64 (0)), (.string ByteArray.empty), (.string ByteArray.empty), (.bool false), (.int .i64 (0))]) := tyi (by kernel_rfl)
instance : Fld Tryz.prog 61 0 0 1 false := fldok Tryz.underlying61 rfl rfl (by kernel_rfl) (i := ((Tryz.prog.info? 3).getD default)) (by kernel_rfl) Tryz.underlying3 rfl
instance : Fld Tryz.prog 61 1 1 1 false := fldok Tryz.underlying61 rfl rfl (by kernel_rfl) (i := ((Tryz.prog.info? 9).getD default)) (by kernel_rfl) Tryz.underlying9 rfl
instance : Fld Tryz.prog 61 2 2 1 false := fldok Tryz.underlying61 rfl rfl (by kernel_rfl) (i := ((Tryz.prog.info? 9).getD default)) (by kernel_rfl) Tryz.underlying9 rfl
instance : Fld Tryz.prog 61 3 3 1 false := fldok Tryz.underlying61 rfl rfl (by kernel_rfl) (i := ((Tryz.prog.info? 4).getD default)) (by kernel_rfl) Tryz.underlying4 rfl
instance : Fld Tryz.prog 61 4 4 1 false := fldok Tryz.underlying61 rfl rfl (by kernel_rfl) (i := ((Tryz.prog.info? 3).getD default)) (by kernel_rfl) Tryz.underlying3 rfl
instance : Bld Tryz.prog 61 [(0, 1), (1, 1), (2, 1), (3, 1), (4, 1)] [(.int .i64 (0)), (.string ByteArray.empty), (.string ByteArray.empty), (.bool false), (.int .i64 (0))] := by
  refine ⟨_, ((Tryz.prog.info? 61).getD default), _, Tryz.underlying61, by kernel_rfl, (by kernel_rfl : _ = some (.agg #[(.int .i64 (0)), (.string ByteArray.empty), (.string ByteArray.empty), (.bool false), (.int .i64 (0))])), rfl, fun w => by kernel_rfl⟩
instance : Flat Tryz.prog 61 [(3, (.int .i64)), (9, .string), (9, .string), (4, .bool), (3, (.int .i64))] := by
  refine ⟨by kernel_rfl, by kernel_rfl, by kernel_rfl, by kernel_rfl, ?_⟩
  simp only [List.forall_mem_cons]
  exact ⟨⟨Tryz.underlying3, rfl⟩, ⟨Tryz.underlying9, rfl⟩, ⟨Tryz.underlying9, rfl⟩, ⟨Tryz.underlying4, rfl⟩, ⟨Tryz.underlying3, rfl⟩, fun x hx => by cases hx⟩
instance : TyU Tryz.prog 62 (.struct (Tryz.prog.fieldsOf 62)) := ⟨by kernel_rfl⟩
instance : TyI Tryz.prog 62 10 104 (.agg #[(.string ByteArray.empty), (.int .i64 (0)), (.int .i64 (0)), (.int .i64 (0)), (.int .i64 (0)), (.int .i64 (0)), (.string ByteArray.empty), (.string ByteArray.empty), (.bool false), (.int .i64 (0))]) := tyi (by kernel_rfl)
instance : Fld Tryz.prog 62 0 0 3 true := fldok Tryz.underlying62 rfl rfl (by kernel_rfl) (i := ((Tryz.prog.info? 40).getD default)) (by kernel_rfl) Tryz.underlying40 rfl
instance : Fld Tryz.prog 62 1 3 1 false := fldok Tryz.underlying62 rfl rfl (by kernel_rfl) (i := ((Tryz.prog.info? 3).getD default)) (by kernel_rfl) Tryz.underlying3 rfl
instance : Fld Tryz.prog 62 2 4 1 false := fldok Tryz.underlying62 rfl rfl (by kernel_rfl) (i := ((Tryz.prog.info? 3).getD default)) (by kernel_rfl) Tryz.underlying3 rfl
instance : Fld Tryz.prog 62 3 5 5 true := fldok Tryz.underlying62 rfl rfl (by kernel_rfl) (i := ((Tryz.prog.info? 61).getD default)) (by kernel_rfl) Tryz.underlying61 rfl
instance : Bld Tryz.prog 62 [(0, 3), (3, 1), (4, 1), (5, 5)] [(.string ByteArray.empty), (.int .i64 (0)), (.int .i64 (0)), (.int .i64 (0)), (.int .i64 (0)), (.int .i64 (0)), (.string ByteArray.empty), (.string ByteArray.empty), (.bool false), (.int .i64 (0))] := by
  refine ⟨_, ((Tryz.prog.info? 62).getD default), _, Tryz.underlying62, by kernel_rfl, (by kernel_rfl : _ = some (.agg #[(.string ByteArray.empty), (.int .i64 (0)), (.int .i64 (0)), (.int .i64 (0)), (.int .i64 (0)), (.int .i64 (0)), (.string ByteArray.empty), (.string ByteArray.empty), (.bool false), (.int .i64 (0))])), rfl, fun w => by kernel_rfl⟩
instance : TyU Tryz.prog 63 (.struct (Tryz.prog.fieldsOf 63)) := ⟨by kernel_rfl⟩
instance : TyI Tryz.prog 63 10 104 (.agg #[(.string ByteArray.empty), (.int .i64 (0)), (.int .i64 (0)), (.int .i64 (0)), (.int .i64 (0)), (.int .i64 (0)), (.string ByteArray.empty), (.string ByteArray.empty), (.bool false), (.int .i64 (0))]) := tyi (by kernel_rfl)
instance : Fld Tryz.prog 63 0 0 3 true := fldok Tryz.underlying63 rfl rfl (by kernel_rfl) (i := ((Tryz.prog.info? 40).getD default)) (by kernel_rfl) Tryz.underlying40 rfl
instance : Fld Tryz.prog 63 1 3 1 false := fldok Tryz.underlying63 rfl rfl (by kernel_rfl) (i := ((Tryz.prog.info? 3).getD default)) (by kernel_rfl) Tryz.underlying3 rfl
instance : Fld Tryz.prog 63 2 4 1 false := fldok Tryz.underlying63 rfl rfl (by kernel_rfl) (i := ((Tryz.prog.info? 3).getD default)) (by kernel_rfl) Tryz.underlying3 rfl
instance : Fld Tryz.prog 63 3 5 5 true := fldok Tryz.underlying63 rfl rfl (by kernel_rfl) (i := ((Tryz.prog.info? 61).getD default)) (by kernel_rfl) Tryz.underlying61 rfl
instance : Bld Tryz.prog 63 [(0, 3), (3, 1), (4, 1), (5, 5)] [(.string ByteArray.empty), (.int .i64 (0)), (.int .i64 (0)), (.int .i64 (0)), (.int .i64 (0)), (.int .i64 (0)), (.string ByteArray.empty), (.string ByteArray.empty), (.bool false), (.int .i64 (0))] := by
  refine ⟨_, ((Tryz.prog.info? 63).getD default), _, Tryz.underlying63, by kernel_rfl, (by kernel_rfl : _ = some (.agg #[(.string ByteArray.empty), (.int .i64 (0)), (.int .i64 (0)), (.int .i64 (0)), (.int .i64 (0)), (.int .i64 (0)), (.string ByteArray.empty), (.string ByteArray.empty), (.bool false), (.int .i64 (0))])), rfl, fun w => by kernel_rfl⟩
instance : TyU Tryz.prog 64 (.struct (Tryz.prog.fieldsOf 64)) := ⟨by kernel_rfl⟩
instance : TyI Tryz.prog 64 12 120 (.agg #[(.string ByteArray.empty), (.int .i64 (0)), (.int .i64 (0)), (.int .i64 (0)), (.int .i64 (0)), (.string ByteArray.empty), (.string ByteArray.empty), (.bool false), (.int .i64 (0)), (.int .i64 (0)), (.int .i64 (0)), (.bool false)]) := tyi (by kernel_rfl)
instance : Fld Tryz.prog 64 0 0 3 true := fldok Tryz.underlying64 rfl rfl (by kernel_rfl) (i := ((Tryz.prog.info? 40).getD default)) (by kernel_rfl) Tryz.underlying40 rfl
instance : Fld Tryz.prog 64 1 3 1 false := fldok Tryz.underlying64 rfl rfl (by kernel_rfl) (i := ((Tryz.prog.info? 3).getD default)) (by kernel_rfl) Tryz.underlying3 rfl
instance : Fld Tryz.prog 64 2 4 5 true := fldok Tryz.underlying64 rfl rfl (by kernel_rfl) (i := ((Tryz.prog.info? 61).getD default)) (by kernel_rfl) Tryz.underlying61 rfl
instance : Fld Tryz.prog 64 3 9 1 false := fldok Tryz.underlying64 rfl rfl (by kernel_rfl) (i := ((Tryz.prog.info? 3).getD default)) (by kernel_rfl) Tryz.underlying3 rfl
instance : Fld Tryz.prog 64 4 10 1 false := fldok Tryz.underlying64 rfl rfl (by kernel_rfl) (i := ((Tryz.prog.info? 3).getD default)) (by kernel_rfl) Tryz.underlying3 rfl
instance : Fld Tryz.prog 64 5 11 1 false := fldok Tryz.underlying64 rfl rfl (by kernel_rfl) (i := ((Tryz.prog.info? 4).getD default)) (by kernel_rfl) Tryz.underlying4 rfl
instance : Bld Tryz.prog 64 [(0, 3), (3, 1), (4, 5), (9, 1), (10, 1), (11, 1)] [(.string ByteArray.empty), (.int .i64 (0)), (.int .i64 (0)), (.int .i64 (0)), (.int .i64 (0)), (.string ByteArray.empty), (.string ByteArray.empty), (.bool false), (.int .i64 (0)), (.int .i64 (0)), (.int .i64 (0)), (.bool false)] := by
  refine ⟨_, ((Tryz.prog.info? 64).getD default), _, Tryz.underlying64, by kernel_rfl, (by kernel_rfl : _ = some (.agg #[(.string ByteArray.empty), (.int .i64 (0)), (.int .i64 (0)), (.int .i64 (0)), (.int .i64 (0)), (.string ByteArray.empty), (.string ByteArray.empty), (.bool false), (.int .i64 (0)), (.int .i64 (0)), (.int .i64 (0)), (.bool false)])), rfl, fun w => by kernel_rfl⟩
instance : TyU Tryz.prog 65 (.struct (Tryz.prog.fieldsOf 65)) := ⟨by kernel_rfl⟩
instance : TyI Tryz.prog 65 12 120 (.agg #[(.string ByteArray.empty), (.int .i64 (0)), (.int .i64 (0)), (.int .i64 (0)), (.int .i64 (0)), (.string ByteArray.empty), (.string ByteArray.empty), (.bool false), (.int .i64 (0)), (.int .i64 (0)), (.int .i64 (0)), (.bool false)]) := tyi (by kernel_rfl)
instance : Fld Tryz.prog 65 0 0 3 true := fldok Tryz.underlying65 rfl rfl (by kernel_rfl) (i := ((Tryz.prog.info? 40).getD default)) (by kernel_rfl) Tryz.underlying40 rfl
instance : Fld Tryz.prog 65 1 3 1 false := fldok Tryz.underlying65 rfl rfl (by kernel_rfl) (i := ((Tryz.prog.info? 3).getD default)) (by kernel_rfl) Tryz.underlying3 rfl
instance : Fld Tryz.prog 65 2 4 5 true := fldok Tryz.underlying65 rfl rfl (by kernel_rfl) (i := ((Tryz.prog.info? 61).getD default)) (by kernel_rfl) Tryz.underlying61 rfl
instance : Fld Tryz.prog 65 3 9 1 false := fldok Tryz.underlying65 rfl rfl (by kernel_rfl) (i := ((Tryz.prog.info? 3).getD default)) (by kernel_rfl) Tryz.underlying3 rfl
instance : Fld Tryz.prog 65 4 10 1 false := fldok Tryz.underlying65 rfl rfl (by kernel_rfl) (i := ((Tryz.prog.info? 3).getD default)) (by kernel_rfl) Tryz.underlying3 rfl
instance : Fld Tryz.prog 65 5 11 1 false := fldok Tryz.underlying65 rfl rfl (by kernel_rfl) (i := ((Tryz.prog.info? 4).getD default)) (by kernel_rfl) Tryz.underlying4 rfl
instance : Bld Tryz.prog 65 [(0, 3), (3, 1), (4, 5), (9, 1), (10, 1), (11, 1)] [(.string ByteArray.empty), (.int .i64 (0)), (.int .i64 (0)), (.int .i64 (0)), (.int .i64 (0)), (.string ByteArray.empty), (.string ByteArray.empty), (.bool false), (.int .i64 (0)), (.int .i64 (0)), (.int .i64 (0)), (.bool false)] := by
  refine ⟨_, ((Tryz.prog.info? 65).getD default), _, Tryz.underlying65, by kernel_rfl, (by kernel_rfl : _ = some (.agg #[(.string ByteArray.empty), (.int .i64 (0)), (.int .i64 (0)), (.int .i64 (0)), (.int .i64 (0)), (.string ByteArray.empty), (.string ByteArray.empty), (.bool false), (.int .i64 (0)), (.int .i64 (0)), (.int .i64 (0)), (.bool false)])), rfl, fun w => by kernel_rfl⟩
instance : TyU Tryz.prog 71 (.struct (Tryz.prog.fieldsOf 71)) := ⟨by kernel_rfl⟩
instance : TyI Tryz.prog 71 2 16 (.agg #[(.int .i64 (0)), (.int .i64 (0))]) := tyi (by kernel_rfl)
instance : Fld Tryz.prog 71 0 0 1 false := fldok Tryz.underlying71 rfl rfl (by kernel_rfl) (i := ((Tryz.prog.info? 3).getD default)) (by kernel_rfl) Tryz.underlying3 rfl
instance : Fld Tryz.prog 71 1 1 1 false := fldok Tryz.underlying71 rfl rfl (by kernel_rfl) (i := ((Tryz.prog.info? 3).getD default)) (by kernel_rfl) Tryz.underlying3 rfl
instance : Bld Tryz.prog 71 [(0, 1), (1, 1)] [(.int .i64 (0)), (.int .i64 (0))] := by
  refine ⟨_, ((Tryz.prog.info? 71).getD default), _, Tryz.underlying71, by kernel_rfl, (by kernel_rfl : _ = some (.agg #[(.int .i64 (0)), (.int .i64 (0))])), rfl, fun w => by kernel_rfl⟩
instance : Flat Tryz.prog 71 [(3, (.int .i64)), (3, (.int .i64))] := by
  refine ⟨by kernel_rfl, by kernel_rfl, by kernel_rfl, by kernel_rfl, ?_⟩
  simp only [List.forall_mem_cons]
  exact ⟨⟨Tryz.underlying3, rfl⟩, ⟨Tryz.underlying3, rfl⟩, fun x hx => by cases hx⟩
instance : TyU Tryz.prog 72 (.struct (Tryz.prog.fieldsOf 72)) := ⟨by kernel_rfl⟩
instance : TyI Tryz.prog 72 2 16 (.agg #[(.int .i64 (0)), (.int .i64 (0))]) := tyi (by kernel_rfl)
instance : Fld Tryz.prog 72 0 0 1 false := fldok Tryz.underlying72 rfl rfl (by kernel_rfl) (i := ((Tryz.prog.info? 3).getD default)) (by kernel_rfl) Tryz.underlying3 rfl
instance : Fld Tryz.prog 72 1 1 1 false := fldok Tryz.underlying72 rfl rfl (by kernel_rfl) (i := ((Tryz.prog.info? 3).getD default)) (by kernel_rfl) Tryz.underlying3 rfl
instance : Bld Tryz.prog 72 [(0, 1), (1, 1)] [(.int .i64 (0)), (.int .i64 (0))] := by
  refine ⟨_, ((Tryz.prog.info? 72).getD default), _, Tryz.underlying72, by kernel_rfl, (by kernel_rfl : _ = some (.agg #[(.int .i64 (0)), (.int .i64 (0))])), rfl, fun w => by kernel_rfl⟩
instance : Flat Tryz.prog 72 [(3, (.int .i64)), (3, (.int .i64))] := by
  refine ⟨by kernel_rfl, by kernel_rfl, by kernel_rfl, by kernel_rfl, ?_⟩
  simp only [List.forall_mem_cons]
  exact ⟨⟨Tryz.underlying3, rfl⟩, ⟨Tryz.underlying3, rfl⟩, fun x hx => by cases hx⟩
instance : TyU Tryz.prog 73 (.struct (Tryz.prog.fieldsOf 73)) := ⟨by kernel_rfl⟩
instance : TyI Tryz.prog 73 4 32 (.agg #[(.int .i64 (0)), (.int .i64 (0)), (.int .i64 (0)), (.int .i64 (0))]) := tyi (by kernel_rfl)
instance : Fld Tryz.prog 73 0 0 1 false := fldok Tryz.underlying73 rfl rfl (by kernel_rfl) (i := ((Tryz.prog.info? 3).getD default)) (by kernel_rfl) Tryz.underlying3 rfl
instance : Fld Tryz.prog 73 1 1 1 false := fldok Tryz.underlying73 rfl rfl (by kernel_rfl) (i := ((Tryz.prog.info? 3).getD default)) (by kernel_rfl) Tryz.underlying3 rfl
instance : Fld Tryz.prog 73 2 2 1 false := fldok Tryz.underlying73 rfl rfl (by kernel_rfl) (i := ((Tryz.prog.info? 3).getD default)) (by kernel_rfl) Tryz.underlying3 rfl
instance : Fld Tryz.prog 73 3 3 1 false := fldok Tryz.underlying73 rfl rfl (by kernel_rfl) (i := ((Tryz.prog.info? 3).getD default)) (by kernel_rfl) Tryz.underlying3 rfl
instance : Bld Tryz.prog 73 [(0, 1), (1, 1), (2, 1), (3, 1)] [(.int .i64 (0)), (.int .i64 (0)), (.int .i64 (0)), (.int .i64 (0))] := by
  refine ⟨_, ((Tryz.prog.info? 73).getD default), _, Tryz.underlying73, by kernel_rfl, (by kernel_rfl : _ = some (.agg #[(.int .i64 (0)), (.int .i64 (0)), (.int .i64 (0)), (.int .i64 (0))])), rfl, fun w => by kernel_rfl⟩
instance : Flat Tryz.prog 73 [(3, (.int .i64)), (3, (.int .i64)), (3, (.int .i64)), (3, (.int .i64))] := by
  refine ⟨by kernel_rfl, by kernel_rfl, by kernel_rfl, by kernel_rfl, ?_⟩
  simp only [List.forall_mem_cons]
  exact ⟨⟨Tryz.underlying3, rfl⟩, ⟨Tryz.underlying3, rfl⟩, ⟨Tryz.underlying3, rfl⟩, ⟨Tryz.underlying3, rfl⟩, fun x hx => by cases hx⟩
instance : TyU Tryz.prog 74 (.struct (Tryz.prog.fieldsOf 74)) := ⟨by kernel_rfl⟩
instance : TyI Tryz.prog 74 4 32 (.agg #[(.int .i64 (0)), (.int .i64 (0)), (.int .i64 (0)), (.int .i64 (0))]) := tyi (by kernel_rfl)
instance : Fld Tryz.prog 74 0 0 1 false := fldok Tryz.underlying74 rfl rfl (by kernel_rfl) (i := ((Tryz.prog.info? 3).getD default)) (by kernel_rfl) Tryz.underlying3 rfl
instance : Fld Tryz.prog 74 1 1 1 false := fldok Tryz.underlying74 rfl rfl (by kernel_rfl) (i := ((Tryz.prog.info? 3).getD default)) (by kernel_rfl) Tryz.underlying3 rfl
instance : Fld Tryz.prog 74 2 2 1 false := fldok Tryz.underlying74 rfl rfl (by kernel_rfl) (i := ((Tryz.prog.info? 3).getD default)) (by kernel_rfl) Tryz.underlying3 rfl
instance : Fld Tryz.prog 74 3 3 1 false := fldok Tryz.underlying74 rfl rfl (by kernel_rfl) (i := ((Tryz.prog.info? 3).getD default)) (by kernel_rfl) Tryz.underlying3 rfl
instance : Bld Tryz.prog 74 [(0, 1), (1, 1), (2, 1), (3, 1)] [(.int .i64 (0)), (.int .i64 (0)), (.int .i64 (0)), (.int .i64 (0))] := by
  refine ⟨_, ((Tryz.prog.info? 74).getD default), _, Tryz.underlying74, by kernel_rfl, (by kernel_rfl : _ = some (.agg #[(.int .i64 (0)), (.int .i64 (0)), (.int .i64 (0)), (.int .i64 (0))])), rfl, fun w => by kernel_rfl⟩
instance : Flat Tryz.prog 74 [(3, (.int .i64)), (3, (.int .i64)), (3, (.int .i64)), (3, (.int .i64))] := by
  refine ⟨by kernel_rfl, by kernel_rfl, by kernel_rfl, by kernel_rfl, ?_⟩
  simp only [List.forall_mem_cons]
  exact ⟨⟨Tryz.underlying3, rfl⟩, ⟨Tryz.underlying3, rfl⟩, ⟨Tryz.underlying3, rfl⟩, ⟨Tryz.underlying3, rfl⟩, fun x hx => by cases hx⟩
instance : TyU Tryz.prog 95 (.struct (Tryz.prog.fieldsOf 95)) := ⟨by kernel_rfl⟩
instance : TyI Tryz.prog 95 7 112 (.agg #[(.string ByteArray.empty), (.int .i64 (0)), (.int .i64 (0)), (.slice none 0 0), (.slice none 0 0), (.slice none 0 0), (.int .i64 (0))]) := tyi (by kernel_rfl)
instance : Fld Tryz.prog 95 0 0 3 true := fldok Tryz.underlying95 rfl rfl (by kernel_rfl) (i := ((Tryz.prog.info? 40).getD default)) (by kernel_rfl) Tryz.underlying40 rfl
instance : Fld Tryz.prog 95 1 3 3 true := fldok Tryz.underlying95 rfl rfl (by kernel_rfl) (i := ((Tryz.prog.info? 25).getD default)) (by kernel_rfl) Tryz.underlying25 rfl
instance : Fld Tryz.prog 95 2 6 1 false := fldok Tryz.underlying95 rfl rfl (by kernel_rfl) (i := ((Tryz.prog.info? 3).getD default)) (by kernel_rfl) Tryz.underlying3 rfl
instance : Bld Tryz.prog 95 [(0, 3), (3, 3), (6, 1)] [(.string ByteArray.empty), (.int .i64 (0)), (.int .i64 (0)), (.slice none 0 0), (.slice none 0 0), (.slice none 0 0), (.int .i64 (0))] := by
  refine ⟨_, ((Tryz.prog.info? 95).getD default), _, Tryz.underlying95, by kernel_rfl, (by kernel_rfl : _ = some (.agg #[(.string ByteArray.empty), (.int .i64 (0)), (.int .i64 (0)), (.slice none 0 0), (.slice none 0 0), (.slice none 0 0), (.int .i64 (0))])), rfl, fun w => by kernel_rfl⟩
instance : TyU Tryz.prog 96 (.struct (Tryz.prog.fieldsOf 96)) := ⟨by kernel_rfl⟩
instance : TyI Tryz.prog 96 7 112 (.agg #[(.string ByteArray.empty), (.int .i64 (0)), (.int .i64 (0)), (.slice none 0 0), (.slice none 0 0), (.slice none 0 0), (.int .i64 (0))]) := tyi (by kernel_rfl)
instance : Fld Tryz.prog 96 0 0 3 true := fldok Tryz.underlying96 rfl rfl (by kernel_rfl) (i := ((Tryz.prog.info? 40).getD default)) (by kernel_rfl) Tryz.underlying40 rfl
instance : Fld Tryz.prog 96 1 3 3 true := fldok Tryz.underlying96 rfl rfl (by kernel_rfl) (i := ((Tryz.prog.info? 25).getD default)) (by kernel_rfl) Tryz.underlying25 rfl
instance : Fld Tryz.prog 96 2 6 1 false := fldok Tryz.underlying96 rfl rfl (by kernel_rfl) (i := ((Tryz.prog.info? 3).getD default)) (by kernel_rfl) Tryz.underlying3 rfl
instance : Bld Tryz.prog 96 [(0, 3), (3, 3), (6, 1)] [(.string ByteArray.empty), (.int .i64 (0)), (.int .i64 (0)), (.slice none 0 0), (.slice none 0 0), (.slice none 0 0), (.int .i64 (0))] := by
  refine ⟨_, ((Tryz.prog.info? 96).getD default), _, Tryz.underlying96, by kernel_rfl, (by kernel_rfl : _ = some (.agg #[(.string ByteArray.empty), (.int .i64 (0)), (.int .i64 (0)), (.slice none 0 0), (.slice none 0 0), (.slice none 0 0), (.int .i64 (0))])), rfl, fun w => by kernel_rfl⟩
instance : TyU Tryz.prog 97 (.slice 96) := ⟨Tryz.underlying97⟩
instance : TyI Tryz.prog 97 1 24 (.slice none 0 0) := tyi (by kernel_rfl)
instance : TyU Tryz.prog 98 (.map 102 4) := ⟨Tryz.underlying98⟩
instance : TyI Tryz.prog 98 1 8 (.map none) := tyi (by kernel_rfl)
instance : TyU Tryz.prog 99 (.map 40 3) := ⟨Tryz.underlying99⟩
instance : TyI Tryz.prog 99 1 8 (.map none) := tyi (by kernel_rfl)
instance : TyU Tryz.prog 101 (.struct (Tryz.prog.fieldsOf 101)) := ⟨by kernel_rfl⟩
instance : TyI Tryz.prog 101 4 40 (.agg #[(.string ByteArray.empty), (.int .i64 (0)), (.int .i64 (0)), (.int .i64 (0))]) := tyi (by kernel_rfl)
instance : Fld Tryz.prog 101 0 0 3 true := fldok Tryz.underlying101 rfl rfl (by kernel_rfl) (i := ((Tryz.prog.info? 40).getD default)) (by kernel_rfl) Tryz.underlying40 rfl
instance : Fld Tryz.prog 101 1 3 1 false := fldok Tryz.underlying101 rfl rfl (by kernel_rfl) (i := ((Tryz.prog.info? 3).getD default)) (by kernel_rfl) Tryz.underlying3 rfl
instance : Bld Tryz.prog 101 [(0, 3), (3, 1)] [(.string ByteArray.empty), (.int .i64 (0)), (.int .i64 (0)), (.int .i64 (0))] := by
  refine ⟨_, ((Tryz.prog.info? 101).getD default), _, Tryz.underlying101, by kernel_rfl, (by kernel_rfl : _ = some (.agg #[(.string ByteArray.empty), (.int .i64 (0)), (.int .i64 (0)), (.int .i64 (0))])), rfl, fun w => by kernel_rfl⟩
instance : TyU Tryz.prog 102 (.struct (Tryz.prog.fieldsOf 102)) := ⟨by kernel_rfl⟩
instance : TyI Tryz.prog 102 4 40 (.agg #[(.string ByteArray.empty), (.int .i64 (0)), (.int .i64 (0)), (.int .i64 (0))]) := tyi (by kernel_rfl)
instance : Fld Tryz.prog 102 0 0 3 true := fldok Tryz.underlying102 rfl rfl (by kernel_rfl) (i := ((Tryz.prog.info? 40).getD default)) (by kernel_rfl) Tryz.underlying40 rfl
instance : Fld Tryz.prog 102 1 3 1 false := fldok Tryz.underlying102 rfl rfl (by kernel_rfl) (i := ((Tryz.prog.info? 3).getD default)) (by kernel_rfl) Tryz.underlying3 rfl
instance : Bld Tryz.prog 102 [(0, 3), (3, 1)] [(.string ByteArray.empty), (.int .i64 (0)), (.int .i64 (0)), (.int .i64 (0))] := by
  refine ⟨_, ((Tryz.prog.info? 102).getD default), _, Tryz.underlying102, by kernel_rfl, (by kernel_rfl : _ = some (.agg #[(.string ByteArray.empty), (.int .i64 (0)), (.int .i64 (0)), (.int .i64 (0))])), rfl, fun w => by kernel_rfl⟩
instance : TyU Tryz.prog 104 (.map 40 4) := ⟨Tryz.underlying104⟩
instance : TyI Tryz.prog 104 1 8 (.map none) := tyi (by kernel_rfl)
instance : TyU Tryz.prog 105 (.map 61 4) := ⟨Tryz.underlying105⟩
instance : TyI Tryz.prog 105 1 8 (.map none) := tyi (by kernel_rfl)
instance : TyU Tryz.prog 106 (.map 9 4) := ⟨Tryz.underlying106⟩
instance : TyI Tryz.prog 106 1 8 (.map none) := tyi (by kernel_rfl)
instance : TyU Tryz.prog 107 (.map 108 3) := ⟨Tryz.underlying107⟩
instance : TyI Tryz.prog 107 1 8 (.map none) := tyi (by kernel_rfl)
instance : TyU Tryz.prog 108 (.array 2 3) := ⟨Tryz.underlying108⟩
instance : TyI Tryz.prog 108 2 16 (.agg #[(.int .i64 (0)), (.int .i64 (0))]) := tyi (by kernel_rfl)
instance : TyU Tryz.prog 119 (.pointer 23) := ⟨Tryz.underlying119⟩
instance : TyI Tryz.prog 119 1 8 (.pointer none) := tyi (by kernel_rfl)
instance : TyU Tryz.prog 122 (.slice 23) := ⟨Tryz.underlying122⟩
instance : TyI Tryz.prog 122 1 24 (.slice none 0 0) := tyi (by kernel_rfl)
instance : TyU Tryz.prog 129 (.slice 5) := ⟨Tryz.underlying129⟩
instance : TyI Tryz.prog 129 1 24 (.slice none 0 0) := tyi (by kernel_rfl)
instance : TyU Tryz.prog 132 (.slice 3) := ⟨Tryz.underlying132⟩
instance : TyI Tryz.prog 132 1 24 (.slice none 0 0) := tyi (by kernel_rfl)
instance : TyU Tryz.prog 134 (.map 137 138) := ⟨Tryz.underlying134⟩
instance : TyI Tryz.prog 134 1 8 (.map none) := tyi (by kernel_rfl)
instance : TyU Tryz.prog 136 (.struct (Tryz.prog.fieldsOf 136)) := ⟨by kernel_rfl⟩
instance : TyI Tryz.prog 136 3 24 (.agg #[(.int .i64 (0)), (.int .i64 (0)), (.int .i64 (0))]) := tyi (by kernel_rfl)
instance : Fld Tryz.prog 136 0 0 1 false := fldok Tryz.underlying136 rfl rfl (by kernel_rfl) (i := ((Tryz.prog.info? 3).getD default)) (by kernel_rfl) Tryz.underlying3 rfl
instance : Fld Tryz.prog 136 1 1 1 false := fldok Tryz.underlying136 rfl rfl (by kernel_rfl) (i := ((Tryz.prog.info? 3).getD default)) (by kernel_rfl) Tryz.underlying3 rfl
instance : Fld Tryz.prog 136 2 2 1 false := fldok Tryz.underlying136 rfl rfl (by kernel_rfl) (i := ((Tryz.prog.info? 3).getD default)) (by kernel_rfl) Tryz.underlying3 rfl
instance : Bld Tryz.prog 136 [(0, 1), (1, 1), (2, 1)] [(.int .i64 (0)), (.int .i64 (0)), (.int .i64 (0))] := by
  refine ⟨_, ((Tryz.prog.info? 136).getD default), _, Tryz.underlying136, by kernel_rfl, (by kernel_rfl : _ = some (.agg #[(.int .i64 (0)), (.int .i64 (0)), (.int .i64 (0))])), rfl, fun w => by kernel_rfl⟩
instance : Flat Tryz.prog 136 [(3, (.int .i64)), (3, (.int .i64)), (3, (.int .i64))] := by
  refine ⟨by kernel_rfl, by kernel_rfl, by kernel_rfl, by kernel_rfl, ?_⟩
  simp only [List.forall_mem_cons]
  exact ⟨⟨Tryz.underlying3, rfl⟩, ⟨Tryz.underlying3, rfl⟩, ⟨Tryz.underlying3, rfl⟩, fun x hx => by cases hx⟩
instance : TyU Tryz.prog 137 (.struct (Tryz.prog.fieldsOf 137)) := ⟨by kernel_rfl⟩
instance : TyI Tryz.prog 137 3 24 (.agg #[(.int .i64 (0)), (.int .i64 (0)), (.int .i64 (0))]) := tyi (by kernel_rfl)
instance : Fld Tryz.prog 137 0 0 1 false := fldok Tryz.underlying137 rfl rfl (by kernel_rfl) (i := ((Tryz.prog.info? 3).getD default)) (by kernel_rfl) Tryz.underlying3 rfl
instance : Fld Tryz.prog 137 1 1 1 false := fldok Tryz.underlying137 rfl rfl (by kernel_rfl) (i := ((Tryz.prog.info? 3).getD default)) (by kernel_rfl) Tryz.underlying3 rfl
instance : Fld Tryz.prog 137 2 2 1 false := fldok Tryz.underlying137 rfl rfl (by kernel_rfl) (i := ((Tryz.prog.info? 3).getD default)) (by kernel_rfl) Tryz.underlying3 rfl
instance : Bld Tryz.prog 137 [(0, 1), (1, 1), (2, 1)] [(.int .i64 (0)), (.int .i64 (0)), (.int .i64 (0))] := by
  refine ⟨_, ((Tryz.prog.info? 137).getD default), _, Tryz.underlying137, by kernel_rfl, (by kernel_rfl : _ = some (.agg #[(.int .i64 (0)), (.int .i64 (0)), (.int .i64 (0))])), rfl, fun w => by kernel_rfl⟩
instance : Flat Tryz.prog 137 [(3, (.int .i64)), (3, (.int .i64)), (3, (.int .i64))] := by
  refine ⟨by kernel_rfl, by kernel_rfl, by kernel_rfl, by kernel_rfl, ?_⟩
  simp only [List.forall_mem_cons]
  exact ⟨⟨Tryz.underlying3, rfl⟩, ⟨Tryz.underlying3, rfl⟩, ⟨Tryz.underlying3, rfl⟩, fun x hx => by cases hx⟩
instance : TyU Tryz.prog 138 (.slice 141) := ⟨Tryz.underlying138⟩
instance : TyI Tryz.prog 138 1 24 (.slice none 0 0) := tyi (by kernel_rfl)
instance : TyU Tryz.prog 140 (.struct (Tryz.prog.fieldsOf 140)) := ⟨by kernel_rfl⟩
instance : TyI Tryz.prog 140 3 24 (.agg #[(.int .i64 (0)), (.int .i64 (0)), (.int .i64 (0))]) := tyi (by kernel_rfl)
instance : Fld Tryz.prog 140 0 0 1 false := fldok Tryz.underlying140 rfl rfl (by kernel_rfl) (i := ((Tryz.prog.info? 3).getD default)) (by kernel_rfl) Tryz.underlying3 rfl
instance : Fld Tryz.prog 140 1 1 1 false := fldok Tryz.underlying140 rfl rfl (by kernel_rfl) (i := ((Tryz.prog.info? 3).getD default)) (by kernel_rfl) Tryz.underlying3 rfl
instance : Fld Tryz.prog 140 2 2 1 false := fldok Tryz.underlying140 rfl rfl (by kernel_rfl) (i := ((Tryz.prog.info? 3).getD default)) (by kernel_rfl) Tryz.underlying3 rfl
instance : Bld Tryz.prog 140 [(0, 1), (1, 1), (2, 1)] [(.int .i64 (0)), (.int .i64 (0)), (.int .i64 (0))] := by
  refine ⟨_, ((Tryz.prog.info? 140).getD default), _, Tryz.underlying140, by kernel_rfl, (by kernel_rfl : _ = some (.agg #[(.int .i64 (0)), (.int .i64 (0)), (.int .i64 (0))])), rfl, fun w => by kernel_rfl⟩
instance : Flat Tryz.prog 140 [(3, (.int .i64)), (3, (.int .i64)), (3, (.int .i64))] := by
  refine ⟨by kernel_rfl, by kernel_rfl, by kernel_rfl, by kernel_rfl, ?_⟩
  simp only [List.forall_mem_cons]
  exact ⟨⟨Tryz.underlying3, rfl⟩, ⟨Tryz.underlying3, rfl⟩, ⟨Tryz.underlying3, rfl⟩, fun x hx => by cases hx⟩
instance : TyU Tryz.prog 141 (.struct (Tryz.prog.fieldsOf 141)) := ⟨by kernel_rfl⟩
instance : TyI Tryz.prog 141 3 24 (.agg #[(.int .i64 (0)), (.int .i64 (0)), (.int .i64 (0))]) := tyi (by kernel_rfl)
instance : Fld Tryz.prog 141 0 0 1 false := fldok Tryz.underlying141 rfl rfl (by kernel_rfl) (i := ((Tryz.prog.info? 3).getD default)) (by kernel_rfl) Tryz.underlying3 rfl
instance : Fld Tryz.prog 141 1 1 1 false := fldok Tryz.underlying141 rfl rfl (by kernel_rfl) (i := ((Tryz.prog.info? 3).getD default)) (by kernel_rfl) Tryz.underlying3 rfl
instance : Fld Tryz.prog 141 2 2 1 false := fldok Tryz.underlying141 rfl rfl (by kernel_rfl) (i := ((Tryz.prog.info? 3).getD default)) (by kernel_rfl) Tryz.underlying3 rfl
instance : Bld Tryz.prog 141 [(0, 1), (1, 1), (2, 1)] [(.int .i64 (0)), (.int .i64 (0)), (.int .i64 (0))] := by
  refine ⟨_, ((Tryz.prog.info? 141).getD default), _, Tryz.underlying141, by kernel_rfl, (by kernel_rfl : _ = some (.agg #[(.int .i64 (0)), (.int .i64 (0)), (.int .i64 (0))])), rfl, fun w => by kernel_rfl⟩
instance : Flat Tryz.prog 141 [(3, (.int .i64)), (3, (.int .i64)), (3, (.int .i64))] := by
  refine ⟨by kernel_rfl, by kernel_rfl, by kernel_rfl, by kernel_rfl, ?_⟩
  simp only [List.forall_mem_cons]
  exact ⟨⟨Tryz.underlying3, rfl⟩, ⟨Tryz.underlying3, rfl⟩, ⟨Tryz.underlying3, rfl⟩, fun x hx => by cases hx⟩
instance : TyU Tryz.prog 144 (.slice 87) := ⟨Tryz.underlying144⟩
instance : TyI Tryz.prog 144 1 24 (.slice none 0 0) := tyi (by kernel_rfl)
instance : TyU Tryz.prog 145 (.int .u64) := ⟨Tryz.underlying145⟩
instance : TyI Tryz.prog 145 1 8 (.int .u64 (0)) := tyi (by kernel_rfl)
instance : TyU Tryz.prog 157 (.int .u64) := ⟨Tryz.underlying157⟩
instance : TyI Tryz.prog 157 1 8 (.int .u64 (0)) := tyi (by kernel_rfl)
instance : TyU Tryz.prog 164 (.int .u32) := ⟨Tryz.underlying164⟩
instance : TyI Tryz.prog 164 1 4 (.int .u32 (0)) := tyi (by kernel_rfl)
instance : TyU Tryz.prog 172 (.array 7 3) := ⟨Tryz.underlying172⟩
instance : TyI Tryz.prog 172 7 56 (.agg #[(.int .i64 (0)), (.int .i64 (0)), (.int .i64 (0)), (.int .i64 (0)), (.int .i64 (0)), (.int .i64 (0)), (.int .i64 (0))]) := tyi (by kernel_rfl)
instance : TyU Tryz.prog 180 (.array 16 164) := ⟨Tryz.underlying180⟩
instance : TyI Tryz.prog 180 16 64 (.agg #[(.int .u32 (0)), (.int .u32 (0)), (.int .u32 (0)), (.int .u32 (0)), (.int .u32 (0)), (.int .u32 (0)), (.int .u32 (0)), (.int .u32 (0)), (.int .u32 (0)), (.int .u32 (0)), (.int .u32 (0)), (.int .u32 (0)), (.int .u32 (0)), (.int .u32 (0)), (.int .u32 (0)), (.int .u32 (0))]) := tyi (by kernel_rfl)
instance : TyU Tryz.prog 184 (.array 0 16) := ⟨Tryz.underlying184⟩
instance : TyI Tryz.prog 184 0 0 (.agg #[]) := tyi (by kernel_rfl)
instance : TyU Tryz.prog 188 (.int .u8) := ⟨Tryz.underlying188⟩
instance : TyI Tryz.prog 188 1 1 (.int .u8 (0)) := tyi (by kernel_rfl)
instance : TyU Tryz.prog 189 (.int .u8) := ⟨Tryz.underlying189⟩
instance : TyI Tryz.prog 189 1 1 (.int .u8 (0)) := tyi (by kernel_rfl)
instance : TyU Tryz.prog 191 (.pointer 5) := ⟨Tryz.underlying191⟩
instance : TyI Tryz.prog 191 1 8 (.pointer none) := tyi (by kernel_rfl)
instance : TyU Tryz.prog 192 (.int .i32) := ⟨Tryz.underlying192⟩
instance : TyI Tryz.prog 192 1 4 (.int .i32 (0)) := tyi (by kernel_rfl)
instance : TyU Tryz.prog 193 (.int .i32) := ⟨Tryz.underlying193⟩
instance : TyI Tryz.prog 193 1 4 (.int .i32 (0)) := tyi (by kernel_rfl)
instance : TyU Tryz.prog 194 (.struct (Tryz.prog.fieldsOf 194)) := ⟨by kernel_rfl⟩
instance : TyI Tryz.prog 194 11 48 (.agg #[(.int .u64 (0)), (.int .u64 (0)), (.int .u32 (0)), (.int .u8 (0)), (.int .u8 (0)), (.int .u8 (0)), (.int .u8 (0)), .nilFunc, (.pointer none), (.int .i32 (0)), (.int .i32 (0))]) := tyi (by kernel_rfl)
instance : Fld Tryz.prog 194 0 0 1 false := fldok Tryz.underlying194 rfl rfl (by kernel_rfl) (i := ((Tryz.prog.info? 12).getD default)) (by kernel_rfl) Tryz.underlying12 rfl
instance : Fld Tryz.prog 194 1 1 1 false := fldok Tryz.underlying194 rfl rfl (by kernel_rfl) (i := ((Tryz.prog.info? 12).getD default)) (by kernel_rfl) Tryz.underlying12 rfl
instance : Fld Tryz.prog 194 2 2 1 false := fldok Tryz.underlying194 rfl rfl (by kernel_rfl) (i := ((Tryz.prog.info? 164).getD default)) (by kernel_rfl) Tryz.underlying164 rfl
instance : Fld Tryz.prog 194 3 3 1 false := fldok Tryz.underlying194 rfl rfl (by kernel_rfl) (i := ((Tryz.prog.info? 188).getD default)) (by kernel_rfl) Tryz.underlying188 rfl
instance : Fld Tryz.prog 194 4 4 1 false := fldok Tryz.underlying194 rfl rfl (by kernel_rfl) (i := ((Tryz.prog.info? 5).getD default)) (by kernel_rfl) Tryz.underlying5 rfl
instance : Fld Tryz.prog 194 5 5 1 false := fldok Tryz.underlying194 rfl rfl (by kernel_rfl) (i := ((Tryz.prog.info? 5).getD default)) (by kernel_rfl) Tryz.underlying5 rfl
instance : Fld Tryz.prog 194 6 6 1 false := fldok Tryz.underlying194 rfl rfl (by kernel_rfl) (i := ((Tryz.prog.info? 189).getD default)) (by kernel_rfl) Tryz.underlying189 rfl
instance : Fld Tryz.prog 194 8 8 1 false := fldok Tryz.underlying194 rfl rfl (by kernel_rfl) (i := ((Tryz.prog.info? 191).getD default)) (by kernel_rfl) Tryz.underlying191 rfl
instance : Fld Tryz.prog 194 9 9 1 false := fldok Tryz.underlying194 rfl rfl (by kernel_rfl) (i := ((Tryz.prog.info? 192).getD default)) (by kernel_rfl) Tryz.underlying192 rfl
instance : Fld Tryz.prog 194 10 10 1 false := fldok Tryz.underlying194 rfl rfl (by kernel_rfl) (i := ((Tryz.prog.info? 193).getD default)) (by kernel_rfl) Tryz.underlying193 rfl
instance : TyU Tryz.prog 195 (.struct (Tryz.prog.fieldsOf 195)) := ⟨by kernel_rfl⟩
instance : TyI Tryz.prog 195 11 48 (.agg #[(.int .u64 (0)), (.int .u64 (0)), (.int .u32 (0)), (.int .u8 (0)), (.int .u8 (0)), (.int .u8 (0)), (.int .u8 (0)), .nilFunc, (.pointer none), (.int .i32 (0)), (.int .i32 (0))]) := tyi (by kernel_rfl)
instance : Fld Tryz.prog 195 0 0 1 false := fldok Tryz.underlying195 rfl rfl (by kernel_rfl) (i := ((Tryz.prog.info? 12).getD default)) (by kernel_rfl) Tryz.underlying12 rfl
instance : Fld Tryz.prog 195 1 1 1 false := fldok Tryz.underlying195 rfl rfl (by kernel_rfl) (i := ((Tryz.prog.info? 12).getD default)) (by kernel_rfl) Tryz.underlying12 rfl
instance : Fld Tryz.prog 195 2 2 1 false := fldok Tryz.underlying195 rfl rfl (by kernel_rfl) (i := ((Tryz.prog.info? 164).getD default)) (by kernel_rfl) Tryz.underlying164 rfl
instance : Fld Tryz.prog 195 3 3 1 false := fldok Tryz.underlying195 rfl rfl (by kernel_rfl) (i := ((Tryz.prog.info? 188).getD default)) (by kernel_rfl) Tryz.underlying188 rfl
instance : Fld Tryz.prog 195 4 4 1 false := fldok Tryz.underlying195 rfl rfl (by kernel_rfl) (i := ((Tryz.prog.info? 5).getD default)) (by kernel_rfl) Tryz.underlying5 rfl
instance : Fld Tryz.prog 195 5 5 1 false := fldok Tryz.underlying195 rfl rfl (by kernel_rfl) (i := ((Tryz.prog.info? 5).getD default)) (by kernel_rfl) Tryz.underlying5 rfl
instance : Fld Tryz.prog 195 6 6 1 false := fldok Tryz.underlying195 rfl rfl (by kernel_rfl) (i := ((Tryz.prog.info? 189).getD default)) (by kernel_rfl) Tryz.underlying189 rfl
instance : Fld Tryz.prog 195 8 8 1 false := fldok Tryz.underlying195 rfl rfl (by kernel_rfl) (i := ((Tryz.prog.info? 191).getD default)) (by kernel_rfl) Tryz.underlying191 rfl
instance : Fld Tryz.prog 195 9 9 1 false := fldok Tryz.underlying195 rfl rfl (by kernel_rfl) (i := ((Tryz.prog.info? 192).getD default)) (by kernel_rfl) Tryz.underlying192 rfl
instance : Fld Tryz.prog 195 10 10 1 false := fldok Tryz.underlying195 rfl rfl (by kernel_rfl) (i := ((Tryz.prog.info? 193).getD default)) (by kernel_rfl) Tryz.underlying193 rfl
instance : FnOk Tryz.prog 3 := fnok (by kernel_rfl)
instance : FnOk Tryz.prog 4 := fnok (by kernel_rfl)
instance : FnOk Tryz.prog 5 := fnok (by kernel_rfl)
instance : FnOk Tryz.prog 6 := fnok (by kernel_rfl)
instance : FnOk Tryz.prog 7 := fnok (by kernel_rfl)
instance : FnOk Tryz.prog 8 := fnok (by kernel_rfl)
instance : FnOk Tryz.prog 9 := fnok (by kernel_rfl)
instance : FnOk Tryz.prog 10 := fnok (by kernel_rfl)
instance : FnOk Tryz.prog 11 := fnok (by kernel_rfl)
instance : FnOk Tryz.prog 12 := fnok (by kernel_rfl)
instance : FnOk Tryz.prog 13 := fnok (by kernel_rfl)
instance : FnOk Tryz.prog 14 := fnok (by kernel_rfl)
instance : FnOk Tryz.prog 15 := fnok (by kernel_rfl)
instance : FnOk Tryz.prog 16 := fnok (by kernel_rfl)
instance : FnOk Tryz.prog 17 := fnok (by kernel_rfl)
instance : FnOk Tryz.prog 18 := fnok (by kernel_rfl)
instance : FnOk Tryz.prog 19 := fnok (by kernel_rfl)
instance : FnOk Tryz.prog 20 := fnok (by kernel_rfl)
instance : FnOk Tryz.prog 21 := fnok (by kernel_rfl)
instance : FnOk Tryz.prog 22 := fnok (by kernel_rfl)
instance : FnOk Tryz.prog 23 := fnok (by kernel_rfl)
instance : FnOk Tryz.prog 24 := fnok (by kernel_rfl)
instance : FnOk Tryz.prog 25 := fnok (by kernel_rfl)
instance : FnOk Tryz.prog 26 := fnok (by kernel_rfl)
instance : FnOk Tryz.prog 27 := fnok (by kernel_rfl)
instance : FnOk Tryz.prog 28 := fnok (by kernel_rfl)
instance : FnOk Tryz.prog 29 := fnok (by kernel_rfl)
instance : FnOk Tryz.prog 30 := fnok (by kernel_rfl)
instance : FnOk Tryz.prog 31 := fnok (by kernel_rfl)
instance : FnOk Tryz.prog 32 := fnok (by kernel_rfl)
instance : FnOk Tryz.prog 33 := fnok (by kernel_rfl)
instance : FnOk Tryz.prog 34 := fnok (by kernel_rfl)
instance : FnOk Tryz.prog 35 := fnok (by kernel_rfl)
instance : FnOk Tryz.prog 36 := fnok (by kernel_rfl)
instance : FnOk Tryz.prog 37 := fnok (by kernel_rfl)
instance : FnOk Tryz.prog 38 := fnok (by kernel_rfl)
instance : FnOk Tryz.prog 39 := fnok (by kernel_rfl)
instance : FnOk Tryz.prog 40 := fnok (by kernel_rfl)
instance : FnOk Tryz.prog 41 := fnok (by kernel_rfl)
instance : FnOk Tryz.prog 42 := fnok (by kernel_rfl)
instance : FnOk Tryz.prog 43 := fnok (by kernel_rfl)
instance : FnOk Tryz.prog 44 := fnok (by kernel_rfl)
instance : FnOk Tryz.prog 45 := fnok (by kernel_rfl)
instance : FnOk Tryz.prog 46 := fnok (by kernel_rfl)
instance : FnOk Tryz.prog 47 := fnok (by kernel_rfl)
instance : FnOk Tryz.prog 48 := fnok (by kernel_rfl)
instance : FnOk Tryz.prog 49 := fnok (by kernel_rfl)
instance : FnOk Tryz.prog 50 := fnok (by kernel_rfl)
instance : FnOk Tryz.prog 51 := fnok (by kernel_rfl)
instance : FnOk Tryz.prog 52 := fnok (by kernel_rfl)
instance : FnOk Tryz.prog 53 := fnok (by kernel_rfl)
instance : FnOk Tryz.prog 54 := fnok (by kernel_rfl)
instance : FnOk Tryz.prog 55 := fnok (by kernel_rfl)
instance : FnOk Tryz.prog 56 := fnok (by kernel_rfl)
instance : FnOk Tryz.prog 57 := fnok (by kernel_rfl)
instance : FnOk Tryz.prog 58 := fnok (by kernel_rfl)
instance : FnOk Tryz.prog 59 := fnok (by kernel_rfl)
instance : FnOk Tryz.prog 60 := fnok (by kernel_rfl)
instance : FnOk Tryz.prog 61 := fnok (by kernel_rfl)
instance : FnOk Tryz.prog 62 := fnok (by kernel_rfl)
instance : FnOk Tryz.prog 63 := fnok (by kernel_rfl)
instance : FnOk Tryz.prog 64 := fnok (by kernel_rfl)
instance : FnOk Tryz.prog 65 := fnok (by kernel_rfl)
instance : FnOk Tryz.prog 66 := fnok (by kernel_rfl)
instance : FnOk Tryz.prog 67 := fnok (by kernel_rfl)
instance : FnOk Tryz.prog 68 := fnok (by kernel_rfl)
instance : FnOk Tryz.prog 69 := fnok (by kernel_rfl)
instance : FnOk Tryz.prog 70 := fnok (by kernel_rfl)
instance : FnOk Tryz.prog 71 := fnok (by kernel_rfl)
instance : FnOk Tryz.prog 72 := fnok (by kernel_rfl)
instance : FnOk Tryz.prog 73 := fnok (by kernel_rfl)
instance : FnOk Tryz.prog 74 := fnok (by kernel_rfl)
instance : FnOk Tryz.prog 75 := fnok (by kernel_rfl)
instance : FnOk Tryz.prog 76 := fnok (by kernel_rfl)
instance : FnOk Tryz.prog 77 := fnok (by kernel_rfl)
instance : FnOk Tryz.prog 78 := fnok (by kernel_rfl)
instance : FnOk Tryz.prog 79 := fnok (by kernel_rfl)
instance : FnOk Tryz.prog 80 := fnok (by kernel_rfl)
instance : FnOk Tryz.prog 81 := fnok (by kernel_rfl)
instance : FnOk Tryz.prog 82 := fnok (by kernel_rfl)
instance : FnOk Tryz.prog 83 := fnok (by kernel_rfl)
instance : FnOk Tryz.prog 84 := fnok (by kernel_rfl)
instance : FnOk Tryz.prog 85 := fnok (by kernel_rfl)
instance : FnOk Tryz.prog 86 := fnok (by kernel_rfl)
instance : FnOk Tryz.prog 87 := fnok (by kernel_rfl)
instance : FnOk Tryz.prog 88 := fnok (by kernel_rfl)
instance : FnOk Tryz.prog 89 := fnok (by kernel_rfl)
instance : FnOk Tryz.prog 90 := fnok (by kernel_rfl)
instance : FnOk Tryz.prog 91 := fnok (by kernel_rfl)
instance : FnOk Tryz.prog 93 := fnok (by kernel_rfl)
instance : FnOk Tryz.prog 94 := fnok (by kernel_rfl)
instance : FnOk Tryz.prog 95 := fnok (by kernel_rfl)
instance : FnOk Tryz.prog 96 := fnok (by kernel_rfl)
instance : FnOk Tryz.prog 97 := fnok (by kernel_rfl)
instance : FnOk Tryz.prog 98 := fnok (by kernel_rfl)
instance : FnOk Tryz.prog 99 := fnok (by kernel_rfl)
instance : FnOk Tryz.prog 100 := fnok (by kernel_rfl)
instance : FnOk Tryz.prog 101 := fnok (by kernel_rfl)
instance : FnOk Tryz.prog 102 := fnok (by kernel_rfl)
instance : FnOk Tryz.prog 103 := fnok (by kernel_rfl)
instance : FnOk Tryz.prog 104 := fnok (by kernel_rfl)
instance : FnOk Tryz.prog 105 := fnok (by kernel_rfl)
instance : FnOk Tryz.prog 106 := fnok (by kernel_rfl)
instance : FnOk Tryz.prog 107 := fnok (by kernel_rfl)
instance : FnOk Tryz.prog 108 := fnok (by kernel_rfl)
instance : FnOk Tryz.prog 109 := fnok (by kernel_rfl)
instance : FnOk Tryz.prog 110 := fnok (by kernel_rfl)
instance : FnOk Tryz.prog 111 := fnok (by kernel_rfl)
instance : FnOk Tryz.prog 112 := fnok (by kernel_rfl)
instance : FnOk Tryz.prog 113 := fnok (by kernel_rfl)
instance : FnOk Tryz.prog 114 := fnok (by kernel_rfl)
instance : FnOk Tryz.prog 115 := fnok (by kernel_rfl)
instance : FnOk Tryz.prog 116 := fnok (by kernel_rfl)
instance : FnOk Tryz.prog 117 := fnok (by kernel_rfl)
instance : FnOk Tryz.prog 118 := fnok (by kernel_rfl)
instance : FnOk Tryz.prog 119 := fnok (by kernel_rfl)
instance : FnOk Tryz.prog 120 := fnok (by kernel_rfl)
instance : FnOk Tryz.prog 121 := fnok (by kernel_rfl)
instance : FnOk Tryz.prog 122 := fnok (by kernel_rfl)
instance : FnOk Tryz.prog 123 := fnok (by kernel_rfl)
instance : FnOk Tryz.prog 124 := fnok (by kernel_rfl)
instance : FnOk Tryz.prog 125 := fnok (by kernel_rfl)
instance : FnOk Tryz.prog 126 := fnok (by kernel_rfl)
instance : FnOk Tryz.prog 127 := fnok (by kernel_rfl)
instance : FnOk Tryz.prog 128 := fnok (by kernel_rfl)
instance : FnOk Tryz.prog 129 := fnok (by kernel_rfl)
instance : FnOk Tryz.prog 130 := fnok (by kernel_rfl)
instance : FnOk Tryz.prog 131 := fnok (by kernel_rfl)
instance : FnOk Tryz.prog 132 := fnok (by kernel_rfl)
instance : FnOk Tryz.prog 133 := fnok (by kernel_rfl)
instance : FnOk Tryz.prog 134 := fnok (by kernel_rfl)
instance : FnOk Tryz.prog 135 := fnok (by kernel_rfl)
instance : FnOk Tryz.prog 136 := fnok (by kernel_rfl)
instance : FnOk Tryz.prog 137 := fnok (by kernel_rfl)
instance : FnOk Tryz.prog 139 := fnok (by kernel_rfl)
instance : FnOk Tryz.prog 140 := fnok (by kernel_rfl)
instance : FnOk Tryz.prog 141 := fnok (by kernel_rfl)
end Go.Wm
